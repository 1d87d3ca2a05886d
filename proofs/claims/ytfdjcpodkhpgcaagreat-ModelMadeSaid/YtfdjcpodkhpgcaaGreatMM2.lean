/-
  Part 2 of the proof (Mk1, Mk3, Mk5, Mk5a, Mk5b, Mk5c, Mk5d, MkB, MkC): what later parts use. No conditions.
-/
import Derived.Test.YtfdjcpodkhpgcaaGreatMM1

/-
  Made models: costs, charges, plain laws.
-/
namespace Go.Proofs.YtfdjcpodkhpgcaaGreat.Cw
open Go.Cw Go.Proofs
set_option linter.unusedVariables false
set_option maxRecDepth 100000
set_option maxHeartbeats 1600000

theorem ret_obj2 {k : Nat} {r : AV} {H : Heap} {Post : AV → Heap → Prop} (rn : List Nat) (H' : Heap) (hd : allD rn = true) (ht : rn.take k = tabl 0 k) (hk : kept H H.length rn rn H') (hr : renC H.length rn r = r) (h : Post r H') : retOk k r H Post :=
  ret_obj rn H' hd ht hk hr.symm h
def Cost (t : List Int) (k : Nat) (n : Int) (k2 : Nat) : Prop := ACall Tryz.prog 44 [.ptr 0 2 0 0] [dice t k] (fun r H' => r = vint .i64 n ∧ H' = [dice t k2])
theorem cost_ex (t : List Int) (k : Nat) (ht : t.length ≤ 400) (hk : k ≤ t.length) : ∃ (n : Int) (k' : Nat), (n = 0 ∨ priceP n) ∧ k' ≤ t.length ∧ Cost t k n k' := by
  obtain ⟨v, ka, h0, h1, h2, hn⟩ := next_ex t k 6 ht hk (by omega) (by omega)
  obtain ⟨w, kb, g0, g1, g2, gn⟩ := next_ex t ka 20 ht h2 (by omega) (by omega)
  have call1 : ∀ {H : Heap} {K : AV → Heap → Prop}, H[0]? = some (dice t k) → K (vint .i64 v) (H.set 0 (dice t ka)) → vcFun Tryz.prog 43 [.ptr 0 2 0 0, vint .i64 6] H K := fun hi hK => by
    refine call_one (i := 0) hi (fun _ _ => rfl) [.ptr 0 2 0 0, vint .i64 6] rfl hn ?_
    rintro r H' ⟨rfl, rfl⟩
    exact ⟨_, rfl, fun _ _ => rfl, fun _ _ => rfl, hK⟩
  have call2 : ∀ {H : Heap} {K : AV → Heap → Prop}, H[0]? = some (dice t ka) → K (vint .i64 w) (H.set 0 (dice t kb)) → vcFun Tryz.prog 43 [.ptr 0 2 0 0, vint .i64 20] H K := fun hi hK => by
    refine call_one (i := 0) hi (fun _ _ => rfl) [.ptr 0 2 0 0, vint .i64 20] rfl gn ?_
    rintro r H' ⟨rfl, rfl⟩
    exact ⟨_, rfl, fun _ _ => rfl, fun _ _ => rfl, hK⟩
  by_cases c1 : v ≤ 2
  · refine ⟨0, ka, .inl rfl, h2, ?_⟩
    unfold Cost
    refine acall_of tok mixed 14 rfl (fn := Tryz.f44) (c := Tryz.f44.body.getD .skip) (by kernel_rfl) (by kernel_rfl) (by kernel_rfl) rfl 1 rfl ?_
    repeat' (first | ((change vcFun _ _ _ _ _; refine call1 rfl ?_)) | refine o1 ?_ | refine o2 ?_ | refine k1 ?_ | refine k2 ?_ | refine k3 ?_ | refine k4 ?_ | refine k6 ?_ | refine k7 ?_ | refine And.intro ?_ ?_ | (intro h; first | exact Bool.noConfusion h | exact nz _ h | exact nl h | (simp at h; done) | (simp at h; first | (exfalso; omega) | skip) | skip) | fail)
    all_goals first
      | (exfalso; omega)
      | exact ret_obj [0] [dice t ka] rfl rfl ⟨rfl, trivial⟩ (r' := vint .i64 0) rfl ⟨rfl, rfl⟩
  by_cases c2 : v = 3
  · refine ⟨1099511627776, ka, .inr (.inr rfl), h2, ?_⟩
    unfold Cost
    refine acall_of tok mixed 14 rfl (fn := Tryz.f44) (c := Tryz.f44.body.getD .skip) (by kernel_rfl) (by kernel_rfl) (by kernel_rfl) rfl 1 rfl ?_
    repeat' (first | ((change vcFun _ _ _ _ _; refine call1 rfl ?_)) | refine o1 ?_ | refine o2 ?_ | refine k1 ?_ | refine k2 ?_ | refine k3 ?_ | refine k4 ?_ | refine k7 ?_ | refine And.intro ?_ ?_ | (intro h; first | exact Bool.noConfusion h | exact nz _ h | exact nl h | (simp at h; done) | (simp at h; first | (exfalso; omega) | skip) | skip) | fail)
    all_goals first
      | (exfalso; omega)
      | exact ret_obj [0] [dice t ka] rfl rfl ⟨rfl, trivial⟩ (r' := vint .i64 1099511627776) rfl ⟨rfl, rfl⟩
  · refine ⟨1 + w, kb, .inr (.inl (by omega)), g2, ?_⟩
    unfold Cost
    refine acall_of tok mixed 14 rfl (fn := Tryz.f44) (c := Tryz.f44.body.getD .skip) (by kernel_rfl) (by kernel_rfl) (by kernel_rfl) rfl 1 rfl ?_
    repeat' (first | ((change vcFun _ _ _ _ _; refine call1 rfl ?_)) | ((change vcFun _ _ _ _ _; refine call2 rfl ?_)) | refine o1 ?_ | refine o2 ?_ | refine k1 ?_ | refine k2 ?_ | refine k3 ?_ | refine k4 ?_ | refine k6 ?_ | refine k7 ?_ | refine And.intro ?_ ?_ | (intro h; first | exact Bool.noConfusion h | exact nz _ h | exact nl h | (simp at h; done) | (simp at h; first | (exfalso; omega) | skip) | skip) | refine eqv_wrap (by omega) (by omega) ?_ | fail)
    all_goals first
      | (exfalso; omega)
      | exact ret_obj [0] [dice t kb] rfl rfl ⟨rfl, trivial⟩ (r' := vint .i64 (1 + w)) rfl ⟨rfl, rfl⟩
theorem call_cost {t : List Int} {k : Nat} {H : Heap} {K : AV → Heap → Prop} (i : Nat) (hi : H[i]? = some (dice t k)) (ht : t.length ≤ 400) (hk : k ≤ t.length)
    (hK : ∀ n k2, (n = 0 ∨ priceP n) → k2 ≤ t.length → K (vint .i64 n) (H.set i (dice t k2))) : vcFun Tryz.prog 44 [.ptr i 2 0 0] H K := by
  obtain ⟨n, k', h1, h2, hc⟩ := cost_ex t k ht hk
  refine call_one (i := i) hi (fun _ _ => rfl) [.ptr 0 2 0 0] rfl hc ?_
  rintro r H' ⟨rfl, rfl⟩
  exact ⟨_, rfl, fun _ _ => rfl, fun _ _ => rfl, hK n k' h1 h2⟩
theorem callD_cost {t : List Int} {k : Nat} {H : Heap} {K : AV → Upd → List Nat → Prop} (i : Nat) (hi : H[i]? = some (dice t k)) (ht : t.length ≤ 400) (hk : k ≤ t.length)
    (hK : ∀ n k2, (n = 0 ∨ priceP n) → k2 ≤ t.length → K (vint .i64 n) [(i, dice t k2)] [i]) : vcFunD Tryz.prog 44 [.ptr i 2 0 0] H K := by
  obtain ⟨n, k', h1, h2, hc⟩ := cost_ex t k ht hk
  exact callD_one (i := i) hi (fun _ _ => rfl) [.ptr 0 2 0 0] rfl hc (fun _ _ => rfl) (fun _ _ => rfl) (hK n k' h1 h2)

def mr (r : Int) : Model := ⟨[], [], [], r⟩
structure ChQ (r : Int) (u : Nat) (l : List Charge) : Prop where
  at_ : ∀ i, i < l.length → chargeAt (mr r) l i
  lt : ∀ c ∈ l, c.rule < u
  len : l.length ≤ u
theorem ChQ.nil {r : Int} : ChQ r 0 [] := ⟨fun i h => absurd h (Nat.not_lt_zero _), fun c h => absurd h (List.not_mem_nil), Nat.le_refl _⟩
theorem ChQ.skip {r : Int} {u : Nat} {l : List Charge} (h : ChQ r u l) : ChQ r (u + 1) l := ⟨h.at_, fun c hc => by have := h.lt c hc; omega, by have := h.len; omega⟩
theorem ChQ.app {r n : Int} {u : Nat} {l : List Charge} (h : ChQ r u l) (hu : (u : Int) < r) (hn : priceP n) : ChQ r (u + 1) (l ++ [⟨u, n⟩]) := by
  refine ⟨fun i hi c hc => ?_, fun c hc => ?_, by have := h.len; simp; omega⟩
  · simp only [List.length_append, List.length_cons, List.length_nil] at hi
    rcases Nat.lt_or_ge i l.length with h1 | h1
    · rw [List.getElem?_append_left h1] at hc
      obtain ⟨a, b, d⟩ := h.at_ i h1 c hc
      exact ⟨a, b, fun k e hk he => d k e hk (by rw [List.getElem?_append_left (by omega)] at he; exact he)⟩
    · obtain rfl : i = l.length := by omega
      rw [List.getElem?_append_right (Nat.le_refl _)] at hc
      simp at hc; subst hc
      refine ⟨⟨by show (0 : Int) ≤ u; omega, hu⟩, hn, fun k e hk he => ?_⟩
      rw [List.getElem?_append_left (by omega)] at he
      exact h.lt e (List.mem_of_getElem? he)
  · rcases List.mem_append.1 hc with h1 | h1
    · have := h.lt c h1; omega
    · simp at h1; subst h1; show (u : Int) < (u + 1 : Nat); omega
def OptQ (r : Int) (o : Opt) : Prop := chargesP (mr r) o ∧ o.charges.length ≤ 4
def ClsQ (r : Int) (l : List Opt) : Prop := 1 ≤ l.length ∧ l.length ≤ 4 ∧ ∀ o ∈ l, OptQ r o
def zeroM : Option AObj := some ⟨26, 4, false, .box [nilA, nilA, nilA, vint .i64 0]⟩
def mb (c p n : AV) (r : Int) : Option AObj := some ⟨26, 4, false, .box [c, p, n, vint .i64 r]⟩
def ob5 (w d s l rm : Int) (c : AV) : Option AObj := some ⟨53, 6, false, .box [vint .i64 w, vint .i64 d, vint .i64 s, vint .i64 l, vint .i64 rm, c]⟩
theorem all_app {α : Type} {p : α → Prop} {l : List α} {x : α} (h : ∀ y ∈ l, p y) (hx : p x) : ∀ y ∈ l ++ [x], p y := fun y hy => by
  rcases List.mem_append.1 hy with h1 | h1
  · exact h y h1
  · simp at h1; subst h1; exact hx
def PB (l : List Pair) (u i k : Nat) : Prop := ∀ p ∈ l, p.rule < u ∨ (p.rule = u ∧ (p.first < i ∨ (p.first = i ∧ p.second < k)))
structure PrQ (cls : List (List Opt)) (r : Int) (l : List Pair) (u i k : Nat) : Prop where
  at_ : ∀ j, j < l.length → pairAt ⟨cls, l, [], r⟩ j
  lt : PB l u i k
  len : l.length ≤ u * 25 + i * 5 + k
theorem PrQ.nil {cls : List (List Opt)} {r : Int} : PrQ cls r [] 0 0 0 := ⟨fun i h => absurd h (Nat.not_lt_zero _), fun c h => absurd h (List.not_mem_nil), Nat.le_refl _⟩
section
variable {cls : List (List Opt)} {r : Int} {l : List Pair} {u i k : Nat}
theorem PrQ.toK (h : PrQ cls r l u i 0) : PrQ cls r l u i (i + 1) := ⟨h.at_, fun p hp => by have := h.lt p hp; omega, by have := h.len; omega⟩
theorem PrQ.skip (h : PrQ cls r l u i k) : PrQ cls r l u i (k + 1) := ⟨h.at_, fun p hp => by have := h.lt p hp; omega, by have := h.len; omega⟩
theorem PrQ.toI (h : PrQ cls r l u i k) (hk : k ≤ 5) : PrQ cls r l u (i + 1) 0 := ⟨h.at_, fun p hp => by have := h.lt p hp; omega, by have := h.len; omega⟩
theorem PrQ.toU (h : PrQ cls r l u i 0) (hi : i ≤ 5) : PrQ cls r l (u + 1) 0 0 := ⟨h.at_, fun p hp => by have := h.lt p hp; omega, by have := h.len; omega⟩
theorem PrQ.app (h : PrQ cls r l u i k) {t : List Int} (hp : pairP ⟨cls, [], [], r⟩ ⟨i, k, u, t⟩) : PrQ cls r (l ++ [⟨i, k, u, t⟩]) u i (k + 1) := by
  refine ⟨fun j hj p hjp => ?_, fun p hm => ?_, by have := h.len; simp; omega⟩
  · dsimp only at hjp
    simp only [List.length_append, List.length_cons, List.length_nil] at hj
    rcases Nat.lt_or_ge j l.length with h1 | h1
    · rw [List.getElem?_append_left h1] at hjp
      obtain ⟨a, d⟩ := h.at_ j h1 p hjp
      exact ⟨a, fun k e hk he => d k e hk (by dsimp only at he ⊢; rw [List.getElem?_append_left (by omega)] at he; exact he)⟩
    · obtain rfl : j = l.length := by omega
      rw [List.getElem?_append_right (Nat.le_refl _)] at hjp
      simp at hjp; subst hjp
      refine ⟨hp, fun k' e hk he => ?_⟩
      dsimp only at he
      rw [List.getElem?_append_left (by omega)] at he
      have := h.lt e (List.mem_of_getElem? he)
      unfold pairLt; dsimp only; omega
  · rcases List.mem_append.1 hm with h1 | h1
    · have := h.lt p h1; omega
    · simp at h1; subst h1; dsimp only; omega
end
def pb4 (a b c : Int) (t : AV) : Option AObj := some ⟨82, 4, false, .box [vint .i64 a, vint .i64 b, vint .i64 c, t]⟩
theorem pair_made {cls : List (List Opt)} {r : Int} {u i k : Nat} {a b : List Opt} {t : List Int} (ha : cls[i]? = some a) (hb : cls[k]? = some b) (hik : i < k) (hu : (u : Int) < r) (ht : t.length = a.length * b.length) (h : ∀ x ∈ t, x = 0 ∨ priceP x) : pairP ⟨cls, [], [], r⟩ ⟨i, k, u, t⟩ := by
  refine ⟨⟨by show (0 : Int) ≤ u; omega, hu⟩, by show (0 : Int) ≤ i; omega, by show (i : Int) < k; omega, ⟨a, b, ?_, ?_, ht⟩, h⟩
  · show cls[((i : Nat) : Int).toNat]? = _; rw [Int.toNat_natCast]; exact ha
  · show cls[((k : Nat) : Int).toNat]? = _; rw [Int.toNat_natCast]; exact hb
structure LoQ (cls : List (List Opt)) (l : List Load) (i j : Nat) : Prop where
  at_ : ∀ n, n < l.length → loadAt ⟨cls, [], [], 0⟩ l n
  lt : ∀ x ∈ l, x.cls < i ∨ (x.cls = i ∧ x.opt < j)
  len : l.length ≤ i * 4 + j
theorem LoQ.nil {cls : List (List Opt)} : LoQ cls [] 0 0 := ⟨fun i h => absurd h (Nat.not_lt_zero _), fun c h => absurd h (List.not_mem_nil), Nat.le_refl _⟩
section
variable {cls : List (List Opt)} {l : List Load} {i j : Nat}
theorem LoQ.skip (h : LoQ cls l i j) : LoQ cls l i (j + 1) := ⟨h.at_, fun p hp => by have := h.lt p hp; omega, by have := h.len; omega⟩
theorem LoQ.toI (h : LoQ cls l i j) (hj : j ≤ 4) : LoQ cls l (i + 1) 0 := ⟨h.at_, fun p hp => by have := h.lt p hp; omega, by have := h.len; omega⟩
theorem LoQ.app (h : LoQ cls l i j) {la : List Opt} {w : Int} (ha : cls[i]? = some la) (hj : j < la.length) (h1 : 1 ≤ w) (h2 : w ≤ 1000) : LoQ cls (l ++ [⟨i, j, w⟩]) i (j + 1) := by
  refine ⟨fun n hn x hx => ?_, fun x hm => ?_, by have := h.len; simp; omega⟩
  · simp only [List.length_append, List.length_cons, List.length_nil] at hn
    rcases Nat.lt_or_ge n l.length with g1 | g1
    · rw [List.getElem?_append_left g1] at hx
      obtain ⟨a, b, c, d⟩ := h.at_ n g1 x hx
      exact ⟨a, b, c, fun k e hk he => d k e hk (by rw [List.getElem?_append_left (by omega)] at he; exact he)⟩
    · obtain rfl : n = l.length := by omega
      rw [List.getElem?_append_right (Nat.le_refl _)] at hx
      simp at hx; subst hx
      refine ⟨⟨by dsimp only; omega, by dsimp only; omega, la, ?_, by dsimp only; omega⟩, h1, h2, fun k e hk he => ?_⟩
      · show cls[((i : Nat) : Int).toNat]? = _; rw [Int.toNat_natCast]; exact ha
      · rw [List.getElem?_append_left (by omega)] at he
        exact h.lt e (List.mem_of_getElem? he)
  · rcases List.mem_append.1 hm with g1 | g1
    · have := h.lt x g1; omega
    · simp at g1; subst g1; dsimp only; omega
end
theorem pen_ok {n : Int} (h : n = 0 ∨ priceP n) : priceP (bif true then (if n > 1 then n else 1) else (if n < 1 then n else 1)) := by
  dsimp only [cond]
  unfold priceP at *
  split <;> omega
def CtQ (cls : List (List Opt)) (r : Int) (c : Count) : Prop := countP_ ⟨cls, [], [], r⟩ c ∧ c.loads.length ≤ 1000
def cb4 (a : Int) (l : AV) (m p : Int) : Option AObj := some ⟨91, 4, false, .box [vint .i64 a, l, vint .i64 m, vint .i64 p]⟩
/-- What a made model is. -/
structure Made (m : Model) : Prop where
  ok : modelE m = 0
  laid : Laid m
  some_ : ∀ l ∈ m.classes, 1 ≤ l.length ∧ l.length ≤ 4
  few : m.classes.length ≤ 5
theorem made_of {cls : List (List Opt)} {prs : List Pair} {cts : List Count} {r : Int} (h1 : cls.length ≤ 5) (h2 : ∀ l ∈ cls, ClsQ r l) (h3 : ∀ j, j < prs.length → pairAt ⟨cls, prs, [], r⟩ j) (h4 : prs.length ≤ 200) (h5 : cts.length ≤ 2) (h6 : ∀ c ∈ cts, CtQ cls r c) (r1 : 1 ≤ r) (r2 : r ≤ 4) : Made ⟨cls, prs, cts, r⟩ := by
  have hz : sizedP ⟨cls, prs, cts, r⟩ := ⟨by dsimp only; omega, fun l hl => by have := (h2 l hl).2.1; omega, by dsimp only; omega, by dsimp only; omega, by dsimp only; omega, by dsimp only; omega⟩
  refine ⟨mE0 hz ⟨fun l hl o ho => ((h2 l hl).2.2 o ho).1, h3, fun c hc => (h6 c hc).1⟩, ⟨by dsimp only; omega, by dsimp only; omega, fun l hl o ho => by have := ((h2 l hl).2.2 o ho).2; omega, fun c hc => by have := (h6 c hc).2; omega⟩, fun l hl => ⟨(h2 l hl).1, (h2 l hl).2.1⟩, h1⟩
def cFst : Code → Code
  | .seq a _ => a
  | c => c
def cSnd : Code → Code
  | .seq _ b => b
  | c => c
noncomputable def codeM : Code := Tryz.f19.body.getD .skip
noncomputable def codeB : Code := cFst (cSnd (cSnd codeM))
noncomputable def codeC : Code := cFst (cSnd (cSnd (cSnd codeM)))
noncomputable def codeD : Code := cFst (cSnd (cSnd (cSnd (cSnd codeM))))
end Go.Proofs.YtfdjcpodkhpgcaaGreat.Cw

/-
  Made plans.
-/
namespace Go.Proofs.YtfdjcpodkhpgcaaGreat.Cw
open Go.Cw Go.Proofs
set_option linter.unusedVariables false
set_option maxRecDepth 100000
set_option maxHeartbeats 1600000

/-- What a made plan's numbers are. -/
structure PlQ (m : Model) (full : Bool) (l : List Int) (n : Nat) : Prop where
  len : l.length = n
  at_ : ∀ i, i < n → ∀ o, l[i]? = some o → ∀ c, m.classes[i]? = some c → (full = true → 0 ≤ o) ∧ o < c.length
theorem PlQ.nil {m : Model} {full : Bool} : PlQ m full [] 0 := ⟨rfl, fun i h => absurd h (Nat.not_lt_zero _)⟩
theorem PlQ.app {m : Model} {full : Bool} {l : List Int} {n : Nat} {o : Int} {c : List Opt} (h : PlQ m full l n) (hc : m.classes[n]? = some c) (h1 : full = true → 0 ≤ o) (h2 : o < c.length) : PlQ m full (l ++ [o]) (n + 1) := by
  have hl := h.len
  refine ⟨by simp [hl], fun i hi o' ho c' hc' => ?_⟩
  rcases Nat.lt_or_ge i n with g | g
  · rw [List.getElem?_append_left (by omega)] at ho
    exact h.at_ i g o' ho c' hc'
  · obtain rfl : i = n := by omega
    rw [List.getElem?_append_right (by omega)] at ho
    simp [hl] at ho; subst ho
    rw [hc] at hc'; cases hc'
    exact ⟨h1, h2⟩
theorem c_dplan0 (t : List Int) (k : Nat) (ht : t.length ≤ 400) (hk : k ≤ t.length) (m : Model) (full : Bool) (hm : Made m) :
    ACall Tryz.prog 20 [.ptr 0 2 0 0, ag m.cells, vbool full] [dice t k] (fun r H' => ∃ (l : List Int) (k' : Nat), k' ≤ t.length ∧ PlQ m full l m.classes.length ∧ Leq r (.pv (encInts l)) ∧ H' = [dice t k']) := by
  have hcn := hm.few
  refine acall_of tok mixed 39 rfl (fn := Tryz.f20) (c := Tryz.f20.body.getD .skip) (by kernel_rfl) (by kernel_rfl) (by kernel_rfl) rfl 1 rfl ?_
  repeat' (first | refine o1 ?_ | refine o2 ?_ | refine k1 ?_ | refine k2 ?_ | refine k4 ?_ | fail)
  refine loop_in (fun x : Nat × Nat × List Int => [(7, slP 2 1 (x.2.2.map fun n => [ei n])), (8, vint .i64 x.1)]) (fun x => [dice t x.2.1, mbox m, obP 3 1 (x.2.2.map fun n => [ei n])]) (fun x => x.1 ≤ m.classes.length ∧ x.2.1 ≤ t.length ∧ PlQ m full x.2.2 x.1) (fun x => m.classes.length - x.1) (0, k, []) ⟨Nat.zero_le _, hk, PlQ.nil⟩ ⟨?_, ?_⟩
  · exact back [0, 1, 2] rfl rfl (by repeat' (first | exact trivial | exact rfl | refine And.intro ?_ ?_)) (by repeat' (first | exact trivial | exact rfl | refine And.intro ?_ ?_))
  rintro ⟨i, k, l⟩ ⟨p1, p2, p3⟩
  dsimp only at p1 p2 p3
  have hpl := p3.len
  rcases Nat.lt_or_ge i m.classes.length with hi | hi
  · obtain ⟨c, hc⟩ := getE hi
    have hcl := hm.some_ c (List.mem_of_getElem? hc)
    rcases l with _ | ⟨l0, l⟩
    · simp only [List.length_cons, List.length_nil] at hpl
      dsimp only [slP, obP, nilA, mbox, List.map, List.length_cons, List.length_nil, List.length_map]
      cases full
      · repeat' (first | (refine idx_sl (k := i) (at_map hc) (by omega) ?_) | refine o1 ?_ | refine o2 ?_ | refine k1 ?_ | refine k2 ?_ | refine k3 ?_ | refine k4 ?_ | refine k6 ?_ | refine And.intro ?_ ?_ | (intro h; first | exact Bool.noConfusion h | exact nz _ h | exact nl h | (simp at h; done) | (simp at h; first | (exfalso; omega) | skip) | skip) | (refine (?_ : srcLen _ = rowsLen _); rfl) | exact Nat.le_of_ble_eq_true rfl | refine eqv_len_map ?_ | refine eqv_wrap (by omega) (by omega) ?_ | refine eqv_to _ (app_first rfl) (eqv_to 1 rfl ?_) | (change vcFun _ _ _ _ _; refine call_next 0 rfl (by assumption) (by assumption) (by omega) (by omega) ?_; intro v kq hv1 hv2 hkq) | fail)
        exact ⟨(i + 1, kq, [v - 1]), ⟨by show i + 1 ≤ _; omega, hkq, p3.app hc (fun e => Bool.noConfusion e) (by omega)⟩, (by show _ - (i + 1) < _; omega), back [0, 1, 4] rfl rfl (by repeat' (first | exact trivial | exact rfl | refine And.intro ?_ ?_)) (by repeat' (first | exact trivial | exact rfl | refine And.intro ?_ ?_))⟩
      · repeat' (first | (refine idx_sl (k := i) (at_map hc) (by omega) ?_) | refine o1 ?_ | refine o2 ?_ | refine k1 ?_ | refine k2 ?_ | refine k3 ?_ | refine k4 ?_ | refine k6 ?_ | refine And.intro ?_ ?_ | (intro h; first | exact Bool.noConfusion h | exact nz _ h | exact nl h | (simp at h; done) | (simp at h; first | (exfalso; omega) | skip) | skip) | (refine (?_ : srcLen _ = rowsLen _); rfl) | exact Nat.le_of_ble_eq_true rfl | refine eqv_len_map ?_ | refine eqv_wrap (by omega) (by omega) ?_ | refine eqv_to _ (app_first rfl) (eqv_to 1 rfl ?_) | (change vcFun _ _ _ _ _; refine call_next 0 rfl (by assumption) (by assumption) (by omega) (by omega) ?_; intro v kq hv1 hv2 hkq) | fail)
        exact ⟨(i + 1, kq, [v]), ⟨by show i + 1 ≤ _; omega, hkq, p3.app hc (fun _ => hv1) (by omega)⟩, (by show _ - (i + 1) < _; omega), back [0, 1, 4] rfl rfl (by repeat' (first | exact trivial | exact rfl | refine And.intro ?_ ?_)) (by repeat' (first | exact trivial | exact rfl | refine And.intro ?_ ?_))⟩
    · simp only [List.length_cons, List.length_nil] at hpl
      dsimp only [slP, obP, nilA, mbox, List.map, List.length_cons, List.length_nil, List.length_map]
      cases full
      · repeat' (first | (refine idx_sl (k := i) (at_map hc) (by omega) ?_) | (refine app_consm (f := fun n => [ei n]) (v - 1) rfl ?_) | refine o1 ?_ | refine o2 ?_ | refine k1 ?_ | refine k2 ?_ | refine k3 ?_ | refine k4 ?_ | refine k6 ?_ | refine And.intro ?_ ?_ | (intro h; first | exact Bool.noConfusion h | exact nz _ h | exact nl h | (simp at h; done) | (simp at h; first | (exfalso; omega) | skip) | skip) | (refine (?_ : srcLen _ = rowsLen _); rfl) | refine eqv_len_map ?_ | refine eqv_wrap (by omega) (by omega) ?_ | (refine (?_ : _ ≤ 140737488355328); simp [rowsLen] <;> omega) | (refine (?_ : _ ≤ 9223372036854775807); simp [rowsLen] <;> omega) | (refine (?_ : _ = rowsLen _); simp [rowsLen] <;> omega) | (change vcFun _ _ _ _ _; refine call_next 0 rfl (by assumption) (by assumption) (by omega) (by omega) ?_; intro v kq hv1 hv2 hkq) | fail)
        exact ⟨(i + 1, kq, l0 :: (l ++ [v - 1])), ⟨by show i + 1 ≤ _; omega, hkq, p3.app hc (fun e => Bool.noConfusion e) (by omega)⟩, (by show _ - (i + 1) < _; omega), back [0, 1, 4] rfl rfl (by repeat' (first | exact trivial | exact rfl | refine And.intro ?_ ?_)) (by repeat' (first | exact trivial | exact rfl | refine And.intro ?_ ?_))⟩
      · repeat' (first | (refine idx_sl (k := i) (at_map hc) (by omega) ?_) | (refine app_consm (f := fun n => [ei n]) v rfl ?_) | refine o1 ?_ | refine o2 ?_ | refine k1 ?_ | refine k2 ?_ | refine k3 ?_ | refine k4 ?_ | refine k6 ?_ | refine And.intro ?_ ?_ | (intro h; first | exact Bool.noConfusion h | exact nz _ h | exact nl h | (simp at h; done) | (simp at h; first | (exfalso; omega) | skip) | skip) | (refine (?_ : srcLen _ = rowsLen _); rfl) | refine eqv_len_map ?_ | refine eqv_wrap (by omega) (by omega) ?_ | (refine (?_ : _ ≤ 140737488355328); simp [rowsLen] <;> omega) | (refine (?_ : _ ≤ 9223372036854775807); simp [rowsLen] <;> omega) | (refine (?_ : _ = rowsLen _); simp [rowsLen] <;> omega) | (change vcFun _ _ _ _ _; refine call_next 0 rfl (by assumption) (by assumption) (by omega) (by omega) ?_; intro v kq hv1 hv2 hkq) | fail)
        exact ⟨(i + 1, kq, l0 :: (l ++ [v])), ⟨by show i + 1 ≤ _; omega, hkq, p3.app hc (fun _ => hv1) (by omega)⟩, (by show _ - (i + 1) < _; omega), back [0, 1, 4] rfl rfl (by repeat' (first | exact trivial | exact rfl | refine And.intro ?_ ?_)) (by repeat' (first | exact trivial | exact rfl | refine And.intro ?_ ?_))⟩
  · obtain rfl : i = m.classes.length := by omega
    rcases l with _ | ⟨l0, l⟩
    · dsimp only [slP, obP, nilA, mbox, List.map, List.length_cons, List.length_nil, List.length_map]
      repeat' (first | refine o1 ?_ | refine o2 ?_ | refine k1 ?_ | refine k2 ?_ | refine k3 ?_ | refine k7 ?_ | refine k8 ?_ | refine And.intro ?_ ?_ | (intro h; first | exact Bool.noConfusion h | exact nz _ h | exact nl h | (simp at h; done) | (simp at h; first | (exfalso; omega) | skip) | skip) | refine eqv_len_map ?_ | fail)
      exact ret_obj [0] [dice t k] rfl rfl ⟨rfl, trivial⟩ (r' := .pv (.val (.slice none 0 0))) rfl ⟨[], k, p2, p3, ⟨ALe.pv PLe.nil⟩, rfl⟩
    · dsimp only [slP, obP, nilA, mbox, List.map, List.length_cons, List.length_nil, List.length_map]
      repeat' (first | refine o1 ?_ | refine o2 ?_ | refine k1 ?_ | refine k2 ?_ | refine k3 ?_ | refine k7 ?_ | refine k8 ?_ | refine And.intro ?_ ?_ | (intro h; first | exact Bool.noConfusion h | exact nz _ h | exact nl h | (simp at h; done) | (simp at h; first | (exfalso; omega) | skip) | skip) | refine eqv_len_map ?_ | fail)
      exact ret_conv [0] [dice t k] rfl rfl ⟨rfl, trivial⟩ rfl (by repeat' (first | (show 0 + _ ≤ List.length _; simp))) rfl ⟨l0 :: l, k, p2, p3, ⟨ALe.pv (whole_le (f := fun n => [ei n]) (l := l0 :: l) (by simp))⟩, rfl⟩
theorem c_dplan (t : List Int) (k : Nat) (ht : t.length ≤ 400) (hk : k ≤ t.length) (m : Model) (full : Bool) (hm : Made m) :
    ACall Tryz.prog 20 [.ptr 0 2 0 0, ag m.cells, vbool full] [dice t k] (fun r H' => ∃ (l : List Int) (k' : Nat), k' ≤ t.length ∧ PlQ m full l m.classes.length ∧ r = .pv (encInts l) ∧ H' = [dice t k']) :=
  (c_dplan0 t k ht hk m full hm).weak fun r H' ⟨l, k', h1, h2, h3, h4⟩ => ⟨_, h3.le, l, k', h1, h2, rfl, h4⟩

theorem PlQ.plan {m : Model} {l : List Int} (h : PlQ m true l m.classes.length) : planP m l := ⟨h.len, fun i hi o ho => by
  obtain ⟨c, hc⟩ := getE (show i < m.classes.length by rw [← h.len]; exact hi)
  obtain ⟨a, b⟩ := h.at_ i (by rw [← h.len]; exact hi) o ho c hc
  exact ⟨by omega, a rfl, c, by rw [Int.toNat_natCast]; exact hc, b⟩⟩
end Go.Proofs.YtfdjcpodkhpgcaaGreat.Cw

/-
  Odd models.
-/
namespace Go.Proofs.YtfdjcpodkhpgcaaGreat.Cw
open Go.Cw Go.Proofs
set_option linter.unusedVariables false
set_option maxRecDepth 100000
set_option maxHeartbeats 30000000

theorem app_wholem {α : Type} {f : α → List PV} {e : α} {l : List α} {K : Go.Cw.Rows → Nat → Prop} (h : K (.p (f e :: l.map f)) ((l.map f).length + 1)) : eqv (Go.Cw.Rows.p (List.map f (e :: l))) fun rr => eqv (rowsLen rr) (K rr) :=
  ⟨_, rfl, _, by simp [rowsLen], h⟩
theorem app_mfirst {c : List AV} {K : Go.Cw.Rows → Nat → Prop} (h : K (.m [c]) 1) : eqv (Go.Cw.Rows.m (List.take 1 (List.drop 0 [c]))) fun rr => eqv (rowsLen rr) (K rr) :=
  ⟨_, rfl, _, rfl, h⟩
theorem app_mlast {r1 : List PV} {xs : List (List PV)} {r : List AV} {K : Go.Cw.Rows → Nat → Prop} (h : K (.m ((r1 :: xs).map pvs ++ [r])) (xs.length + 2)) : eqv (Go.Cw.Rows.m ((List.drop 0 (r1 :: xs)).map pvs ++ List.take 1 (List.drop 0 [r]))) fun rr => eqv (rowsLen rr) (K rr) :=
  ⟨_, rfl, _, by simp [rowsLen], h⟩
theorem lit_idx {v : Int} {n : Nat} {K : Nat → Prop} (h1 : 0 ≤ v) (h2 : v < n) (h : ∀ k, k < n → K (0 + k)) : ∃ k : Nat, v = ↑k ∧ k < n ∧ eqv (0 + k) K :=
  ⟨v.toNat, by omega, by omega, _, rfl, h _ (by omega)⟩
theorem lit4_load {α : Type} {a b c d : α} {k n : Nat} {C : α → Prop} (hn : n = 4) (hk : k < n) (ha : C a) (hb : C b) (hc : C c) (hd : C d) : ∃ r, [a, b, c, d][0 + k]? = some r ∧ C r := by
  subst hn
  match k, hk with
  | 0, _ => exact ⟨a, rfl, ha⟩
  | 1, _ => exact ⟨b, rfl, hb⟩
  | 2, _ => exact ⟨c, rfl, hc⟩
  | 3, _ => exact ⟨d, rfl, hd⟩
theorem mk_idx {v : Int} {k w : Nat} {K : Nat → Nat → Prop} (h1 : 0 ≤ v) (h2 : v ≤ 1000) (h : ∀ j : Nat, j ≤ 1000 → v = j → K j j) : ∃ j k : Nat, v = ↑j ∧ v = ↑k ∧ j ≤ k ∧ K j k :=
  ⟨v.toNat, v.toNat, by omega, by omega, Nat.le_refl _, h v.toNat (by omega) (by omega)⟩

theorem row0_load {α : Type} {r : α} {l : List α} {C : α → Prop} (h : C r) : ∃ x, (r :: l)[0]? = some x ∧ C x := ⟨_, rfl, h⟩
theorem app_lit {r : List PV} {l : List (List PV)} {K : Go.Cw.Rows → Nat → Prop} (h : K (.p (r :: l)) (l.length + 1)) : eqv (Go.Cw.Rows.p (List.drop 0 [r] ++ l)) fun rr => eqv (rowsLen rr) (K rr) := ⟨_, rfl, _, rfl, h⟩
theorem set0p {r x : List PV} {l : List (List PV)} {K : List (List PV) → Prop} (h : K (x :: l)) : eqv ((r :: l).set 0 x) K := ⟨_, rfl, h⟩
theorem set0m {r : List PV} {x : List AV} {l : List (List PV)} {K : List (List AV) → Prop} (h : K (x :: l.map pvs)) : eqv ((List.map pvs (r :: l)).set 0 x) K := ⟨_, rfl, h⟩
theorem okL1 {α : Type} {x : α} {P : α → Prop} (h : P x) : ∀ r ∈ List.take 1 (List.drop 0 [x]), P r := fun r hr => by
  have : r ∈ [x] := hr
  rw [List.mem_singleton] at this; subst this; exact h
def YY {α : Type} (_ : α) : Prop := True
def OptL (o : Opt) : Prop := o.charges.length ≤ 9223372036854775807
def ClsL (l : List Opt) : Prop := ∀ o ∈ l, OptL o
def CntL (c : Count) : Prop := c.loads.length ≤ 9223372036854775807
def eI (n : Int) : List PV := [ei n]
section
variable {a b c d e : Int} {p : PV} {n : Nat}
theorem row_cls (h : SlOf 6 Opt.row OptL 1000 p) : RowOf optsRow ClsL [p] := by
  obtain ⟨l, _, h1, h2⟩ := h
  exact ⟨l, h1, h2, trivial⟩
theorem row_opt (h : SlOf 2 Charge.row YY 1000 p) : RowOf Opt.row OptL [ei a, ei b, ei c, ei d, ei e, p] := by
  obtain ⟨l, h0, h1, h2⟩ := h
  exact ⟨⟨⟨⟨a, b, c, d⟩, e⟩, l⟩, by show l.length ≤ _; omega, PLe.refl, PLe.refl, PLe.refl, PLe.refl, PLe.refl, h2, trivial⟩
theorem row_charge : RowOf Charge.row YY [ei a, ei b] := ⟨⟨a, b⟩, trivial, PLeL.refl⟩
theorem row_pair (h : SlOf 1 eI YY n p) : RowOf Pair.row YY [ei a, ei b, ei c, p] := by
  obtain ⟨l, h0, h1, h2⟩ := h
  exact ⟨⟨a, b, c, l⟩, trivial, PLe.refl, PLe.refl, PLe.refl, h2, trivial⟩
theorem row_count (h : SlOf 3 Load.row YY 1000 p) : RowOf Count.row CntL [ei a, p, ei b, ei c] := by
  obtain ⟨l, h0, h1, h2⟩ := h
  exact ⟨⟨a, l, b, c⟩, by show l.length ≤ _; omega, PLe.refl, h2, PLe.refl, PLe.refl, trivial⟩
theorem row_load : RowOf Load.row YY [ei a, ei b, ei c] := ⟨⟨a, b, c⟩, trivial, PLeL.refl⟩
theorem row_int : RowOf eI YY [ei a] := ⟨a, trivial, PLeL.refl⟩
end
theorem fin_model {t : List Int} {c p n : PV} {ru : Int} (k : Nat) (hk : k ≤ t.length) (h1 : SlOf 1 optsRow ClsL 1000 c) (h2 : SlOf 4 Pair.row YY 1000 p) (h3 : SlOf 4 Count.row CntL 1000 n) :
    ∃ (y : Model) (k' : Nat), k' ≤ t.length ∧ Laid y ∧ Leq (.agg [.pv c, .pv p, .pv n, vint .i64 ru]) (ag y.cells) ∧ [dice t k] = [dice t k'] := by
  obtain ⟨l1, a1, b1, c1⟩ := h1
  obtain ⟨l2, a2, b2, c2⟩ := h2
  obtain ⟨l3, a3, b3, c3⟩ := h3
  exact ⟨⟨l1, l2, l3, ru⟩, k, hk, ⟨by show l1.length ≤ _; omega, by show l2.length ≤ _; omega, b1, b3⟩, ⟨ALe.agg ⟨ALe.pv c1, ALe.pv c2, ALe.pv c3, ALe.refl, trivial⟩⟩, rfl⟩
end Go.Proofs.YtfdjcpodkhpgcaaGreat.Cw

/-
  Odd models: no pairs, no counts.
-/
namespace Go.Proofs.YtfdjcpodkhpgcaaGreat.Cw
open Go.Cw Go.Proofs
set_option linter.unusedVariables false
set_option maxRecDepth 100000
set_option maxHeartbeats 30000000

theorem c_odd000 (t : List Int) (k : Nat) (ht : t.length ≤ 400) (hk : k ≤ t.length) (ru : Int) (q1 : ∀ l ∈ ([] : List (List Opt)), ClsL l) (q3 : ∀ c ∈ ([] : List Count), CntL c) (h1 : ([] : List (List Opt)).length ≤ 5) (h2 : ([] : List Pair).length ≤ 200) (h3 : ([] : List Count).length ≤ 2) (h4 : ∀ p ∈ ([] : List Pair), p.table.length ≤ 100) :
    ACall Tryz.prog 22 [.ptr 0 2 0 0, ag (Model.cells ⟨[], [], [], ru⟩)] [dice t k] (fun r H' => ∃ (y : Model) (k' : Nat), k' ≤ t.length ∧ Laid y ∧ Leq r (ag y.cells) ∧ H' = [dice t k']) := by
  have q2 : ∀ p ∈ ([] : List Pair), YY p := fun _ _ => trivial
  dsimp only [Model.cells]
  refine acall_of tok mixed 126 rfl (fn := Tryz.f22) (c := Tryz.f22.body.getD .skip) (by kernel_rfl) (by kernel_rfl) (by kernel_rfl) rfl 1 rfl ?_
  repeat' (first | refine o1 ?_ | refine o2 ?_ | refine k1 ?_ | refine k2 ?_ | refine k3 ?_ | refine k4 ?_ | refine k6 ?_ | refine k7 ?_ | refine And.intro ?_ ?_ | refine o3 ?_ | refine o4 ?_ | (intro h; first | exact Bool.noConfusion h | exact nz _ h | exact nl h | (simp at h; done) | (simp at h; first | (exfalso; omega) | skip) | skip) | (refine (?_ : srcLen _ = rowsLen _); rfl) | exact Nat.le_of_ble_eq_true rfl | exact (by kernel_rfl : drawOk _ _ = true) | refine eqv_wrap (by omega) (by omega) ?_ | (refine (?_ : _ ≤ 9223372036854775807); simp [rowsLen] <;> omega) | refine eqv_to _ (app_first rfl) (eqv_to 1 rfl ?_) | (change vcFun _ _ _ _ _; refine call_next 0 rfl (by assumption) (by assumption) (by omega) (by omega) ?_; intro v kq hv1 hv2 hkq) | (change vcFunD _ _ _ _ _; refine callD_next 0 rfl (by assumption) (by assumption) (by omega) (by omega) ?_; intro v kq hv1 hv2 hkq) | (refine app_mfirst ?_) | (refine lit_idx (by assumption) (by assumption) (fun kx hkx => ?_)) | (refine lit4_load rfl (by assumption) ?_ ?_ ?_ ?_) | (refine ⟨(24 + v).toNat, (24 + v).toNat, by omega, by omega, Nat.le_refl _, ?_⟩) | ((refine (?_ : Int.toNat _ * _ ≤ _); omega)) | (refine (eqv_rfl ?_ : eqv (List.replicate _ _) _)) | fail)
  all_goals try (refine ret_conv [0] [dice t kq] rfl rfl ⟨rfl, trivial⟩ rfl (by repeat' (first | exact True.intro | refine And.intro ?_ ?_ | (show 0 + _ ≤ List.length _; simp) | refine okL1 ?_)) rfl (fin_model kq hkq ?_ ?_ ?_))
  all_goals repeat' (first | exact SlOf.nil | refine SlOf.sl ?_ (by simp <;> omega) | exact RowsOf.map (by assumption) | exact RowsOf.nil | refine RowsOf.cons ?_ ?_ | refine RowsOf.take ?_ | refine RowsOf.drop ?_ | refine RowsOf.rep ?_ | exact row_load | exact row_charge | refine row_count ?_ | refine row_opt ?_ | refine row_cls ?_)
theorem c_odd001 (t : List Int) (k : Nat) (ht : t.length ≤ 400) (hk : k ≤ t.length) (l0 : List Opt) (cls : List (List Opt)) (ru : Int) (q1 : ∀ l ∈ (l0 :: cls : List (List Opt)), ClsL l) (q3 : ∀ c ∈ ([] : List Count), CntL c) (h1 : (l0 :: cls : List (List Opt)).length ≤ 5) (h2 : ([] : List Pair).length ≤ 200) (h3 : ([] : List Count).length ≤ 2) (h4 : ∀ p ∈ ([] : List Pair), p.table.length ≤ 100) :
    ACall Tryz.prog 22 [.ptr 0 2 0 0, ag (Model.cells ⟨l0 :: cls, [], [], ru⟩)] [dice t k] (fun r H' => ∃ (y : Model) (k' : Nat), k' ≤ t.length ∧ Laid y ∧ Leq r (ag y.cells) ∧ H' = [dice t k']) := by
  have q2 : ∀ p ∈ ([] : List Pair), YY p := fun _ _ => trivial
  obtain ⟨q1a, q1b⟩ := List.forall_mem_cons.1 q1
  simp only [List.length_cons] at h1
  dsimp only [Model.cells]
  refine acall_of tok mixed 126 rfl (fn := Tryz.f22) (c := Tryz.f22.body.getD .skip) (by kernel_rfl) (by kernel_rfl) (by kernel_rfl) rfl 1 rfl ?_
  repeat' (first | ((refine retL rfl rfl rfl ?_ rfl rfl rfl ?_; · repeat' (first | exact True.intro | refine And.intro ?_ ?_ | (show 0 + _ ≤ List.length _; simp) | refine okL1 ?_))) | refine o1 ?_ | refine o2 ?_ | refine k1 ?_ | refine k2 ?_ | refine k3 ?_ | refine k4 ?_ | refine k6 ?_ | refine k7 ?_ | refine And.intro ?_ ?_ | refine o3 ?_ | refine o4 ?_ | (intro h; first | exact Bool.noConfusion h | exact nz _ h | exact nl h | (simp at h; done) | (simp at h; first | (exfalso; omega) | skip) | skip) | (refine (?_ : srcLen _ = rowsLen _); rfl) | exact Nat.le_of_ble_eq_true rfl | exact (by kernel_rfl : drawOk _ _ = true) | refine eqv_wrap (by omega) (by omega) ?_ | (refine (?_ : _ ≤ 140737488355328); simp [rowsLen] <;> omega) | (refine (?_ : _ ≤ 9223372036854775807); simp [rowsLen] <;> omega) | (refine (?_ : _ = rowsLen _); simp [rowsLen] <;> omega) | refine eqv_to _ (app_first rfl) (eqv_to 1 rfl ?_) | (change vcFun _ _ _ _ _; refine call_next 0 rfl (by assumption) (by assumption) (by omega) (by omega) ?_; intro v kq hv1 hv2 hkq) | (change vcFunD _ _ _ _ _; refine callD_next 0 rfl (by assumption) (by assumption) (by omega) (by omega) ?_; intro v kq hv1 hv2 hkq) | (refine app_wholem ?_) | (refine app_mfirst ?_) | (refine app_mlast ?_) | (refine lit_idx (by assumption) (by assumption) (fun kx hkx => ?_)) | (refine lit4_load rfl (by assumption) ?_ ?_ ?_ ?_) | (refine ⟨(24 + v).toNat, (24 + v).toNat, by omega, by omega, Nat.le_refl _, ?_⟩) | ((refine (?_ : Int.toNat _ * _ ≤ _); omega)) | (refine (eqv_rfl ?_ : eqv (List.replicate _ _) _)) | fail)
  all_goals try (refine ret_conv [0] [dice t kq] rfl rfl ⟨rfl, trivial⟩ rfl (by repeat' (first | exact True.intro | refine And.intro ?_ ?_ | (show 0 + _ ≤ List.length _; simp) | refine okL1 ?_)) rfl (fin_model kq hkq ?_ ?_ ?_))
  all_goals repeat' (first | exact SlOf.nil | refine SlOf.sl ?_ (by simp <;> omega) | exact RowsOf.map (by assumption) | exact RowsOf.nil | refine RowsOf.cons ?_ ?_ | refine RowsOf.app ?_ ?_ | refine RowsOf.take ?_ | refine RowsOf.drop ?_ | refine RowsOf.rep ?_ | exact RowOf.mk (by assumption) PLeL.refl | exact row_load | exact row_charge | refine row_count ?_ | refine row_opt ?_ | refine row_cls ?_)
end Go.Proofs.YtfdjcpodkhpgcaaGreat.Cw

/-
  Odd models: no pairs.
-/
namespace Go.Proofs.YtfdjcpodkhpgcaaGreat.Cw
open Go.Cw Go.Proofs
set_option linter.unusedVariables false
set_option maxRecDepth 100000
set_option maxHeartbeats 30000000

theorem c_odd010 (t : List Int) (k : Nat) (ht : t.length ≤ 400) (hk : k ≤ t.length) (c0 : Count) (cts : List Count) (ru : Int) (q1 : ∀ l ∈ ([] : List (List Opt)), ClsL l) (q3 : ∀ c ∈ (c0 :: cts : List Count), CntL c) (h1 : ([] : List (List Opt)).length ≤ 5) (h2 : ([] : List Pair).length ≤ 200) (h3 : (c0 :: cts : List Count).length ≤ 2) (h4 : ∀ p ∈ ([] : List Pair), p.table.length ≤ 100) :
    ACall Tryz.prog 22 [.ptr 0 2 0 0, ag (Model.cells ⟨[], [], c0 :: cts, ru⟩)] [dice t k] (fun r H' => ∃ (y : Model) (k' : Nat), k' ≤ t.length ∧ Laid y ∧ Leq r (ag y.cells) ∧ H' = [dice t k']) := by
  have q2 : ∀ p ∈ ([] : List Pair), YY p := fun _ _ => trivial
  obtain ⟨q3a, q3b⟩ := List.forall_mem_cons.1 q3
  simp only [List.length_cons] at h3
  dsimp only [Model.cells]
  refine acall_of tok mixed 126 rfl (fn := Tryz.f22) (c := Tryz.f22.body.getD .skip) (by kernel_rfl) (by kernel_rfl) (by kernel_rfl) rfl 1 rfl ?_
  repeat' (first | ((refine retL rfl rfl rfl ?_ rfl rfl rfl ?_; · repeat' (first | exact True.intro | refine And.intro ?_ ?_ | (show 0 + _ ≤ List.length _; simp) | refine okL1 ?_))) | refine o1 ?_ | refine o2 ?_ | refine k1 ?_ | refine k2 ?_ | refine k3 ?_ | refine k4 ?_ | refine k6 ?_ | refine k7 ?_ | refine And.intro ?_ ?_ | refine o3 ?_ | refine o4 ?_ | (intro h; first | exact Bool.noConfusion h | exact nz _ h | exact nl h | (simp at h; done) | (simp at h; first | (exfalso; omega) | skip) | skip) | (refine (?_ : srcLen _ = rowsLen _); rfl) | exact Nat.le_of_ble_eq_true rfl | exact (by kernel_rfl : drawOk _ _ = true) | refine eqv_wrap (by omega) (by omega) ?_ | (refine (?_ : _ ≤ 140737488355328); simp [rowsLen] <;> omega) | (refine (?_ : _ ≤ 9223372036854775807); simp [rowsLen] <;> omega) | (refine (?_ : _ = rowsLen _); simp [rowsLen] <;> omega) | (change vcFun _ _ _ _ _; refine call_next 0 rfl (by assumption) (by assumption) (by omega) (by omega) ?_; intro v kq hv1 hv2 hkq) | (change vcFunD _ _ _ _ _; refine callD_next 0 rfl (by assumption) (by assumption) (by omega) (by omega) ?_; intro v kq hv1 hv2 hkq) | (refine app_wholem ?_) | (refine app_mfirst ?_) | (refine app_mlast ?_) | (refine app_cons ?_) | (refine lit_idx (by assumption) (by assumption) (fun kx hkx => ?_)) | (refine lit4_load rfl (by assumption) ?_ ?_ ?_ ?_) | (refine ⟨(24 + v).toNat, (24 + v).toNat, by omega, by omega, Nat.le_refl _, ?_⟩) | ((refine (?_ : Int.toNat _ * _ ≤ _); omega)) | (refine (eqv_rfl ?_ : eqv (List.replicate _ _) _)) | fail)
  all_goals try (refine ret_conv [0] [dice t kq] rfl rfl ⟨rfl, trivial⟩ rfl (by repeat' (first | exact True.intro | refine And.intro ?_ ?_ | (show 0 + _ ≤ List.length _; simp) | refine okL1 ?_)) rfl (fin_model kq hkq ?_ ?_ ?_))
  all_goals repeat' (first | exact SlOf.nil | refine SlOf.sl ?_ (by simp <;> omega) | exact RowsOf.map (by assumption) | exact RowsOf.nil | refine RowsOf.cons ?_ ?_ | refine RowsOf.app ?_ ?_ | refine RowsOf.take ?_ | refine RowsOf.drop ?_ | refine RowsOf.rep ?_ | exact RowOf.mk (by assumption) PLeL.refl | exact row_load | exact row_charge | refine row_count ?_ | refine row_opt ?_ | refine row_cls ?_)
theorem c_odd011 (t : List Int) (k : Nat) (ht : t.length ≤ 400) (hk : k ≤ t.length) (c0 : Count) (cts : List Count) (l0 : List Opt) (cls : List (List Opt)) (ru : Int) (q1 : ∀ l ∈ (l0 :: cls : List (List Opt)), ClsL l) (q3 : ∀ c ∈ (c0 :: cts : List Count), CntL c) (h1 : (l0 :: cls : List (List Opt)).length ≤ 5) (h2 : ([] : List Pair).length ≤ 200) (h3 : (c0 :: cts : List Count).length ≤ 2) (h4 : ∀ p ∈ ([] : List Pair), p.table.length ≤ 100) :
    ACall Tryz.prog 22 [.ptr 0 2 0 0, ag (Model.cells ⟨l0 :: cls, [], c0 :: cts, ru⟩)] [dice t k] (fun r H' => ∃ (y : Model) (k' : Nat), k' ≤ t.length ∧ Laid y ∧ Leq r (ag y.cells) ∧ H' = [dice t k']) := by
  have q2 : ∀ p ∈ ([] : List Pair), YY p := fun _ _ => trivial
  obtain ⟨q3a, q3b⟩ := List.forall_mem_cons.1 q3
  simp only [List.length_cons] at h3
  obtain ⟨q1a, q1b⟩ := List.forall_mem_cons.1 q1
  simp only [List.length_cons] at h1
  dsimp only [Model.cells]
  refine acall_of tok mixed 126 rfl (fn := Tryz.f22) (c := Tryz.f22.body.getD .skip) (by kernel_rfl) (by kernel_rfl) (by kernel_rfl) rfl 1 rfl ?_
  repeat' (first | ((refine retL rfl rfl rfl ?_ rfl rfl rfl ?_; · repeat' (first | exact True.intro | refine And.intro ?_ ?_ | (show 0 + _ ≤ List.length _; simp) | refine okL1 ?_))) | refine o1 ?_ | refine o2 ?_ | refine k1 ?_ | refine k2 ?_ | refine k3 ?_ | refine k4 ?_ | refine k6 ?_ | refine k7 ?_ | refine And.intro ?_ ?_ | refine o3 ?_ | refine o4 ?_ | (intro h; first | exact Bool.noConfusion h | exact nz _ h | exact nl h | (simp at h; done) | (simp at h; first | (exfalso; omega) | skip) | skip) | (refine (?_ : srcLen _ = rowsLen _); rfl) | exact Nat.le_of_ble_eq_true rfl | exact (by kernel_rfl : drawOk _ _ = true) | refine eqv_wrap (by omega) (by omega) ?_ | (refine (?_ : _ ≤ 140737488355328); simp [rowsLen] <;> omega) | (refine (?_ : _ ≤ 9223372036854775807); simp [rowsLen] <;> omega) | (refine (?_ : _ = rowsLen _); simp [rowsLen] <;> omega) | (change vcFun _ _ _ _ _; refine call_next 0 rfl (by assumption) (by assumption) (by omega) (by omega) ?_; intro v kq hv1 hv2 hkq) | (change vcFunD _ _ _ _ _; refine callD_next 0 rfl (by assumption) (by assumption) (by omega) (by omega) ?_; intro v kq hv1 hv2 hkq) | (refine app_wholem ?_) | (refine app_mlast ?_) | (refine app_cons ?_) | (refine lit_idx (by assumption) (by assumption) (fun kx hkx => ?_)) | (refine lit4_load rfl (by assumption) ?_ ?_ ?_ ?_) | (refine ⟨(24 + v).toNat, (24 + v).toNat, by omega, by omega, Nat.le_refl _, ?_⟩) | ((refine (?_ : Int.toNat _ * _ ≤ _); omega)) | (refine (eqv_rfl ?_ : eqv (List.replicate _ _) _)) | fail)
  all_goals try (refine ret_conv [0] [dice t kq] rfl rfl ⟨rfl, trivial⟩ rfl (by repeat' (first | exact True.intro | refine And.intro ?_ ?_ | (show 0 + _ ≤ List.length _; simp))) rfl (fin_model kq hkq ?_ ?_ ?_))
  all_goals repeat' (first | exact SlOf.nil | refine SlOf.sl ?_ (by simp <;> omega) | exact RowsOf.map (by assumption) | exact RowsOf.nil | refine RowsOf.cons ?_ ?_ | refine RowsOf.app ?_ ?_ | refine RowsOf.take ?_ | refine RowsOf.drop ?_ | refine RowsOf.rep ?_ | exact RowOf.mk (by assumption) PLeL.refl | exact row_load | exact row_charge | refine row_count ?_ | refine row_opt ?_ | refine row_cls ?_)
end Go.Proofs.YtfdjcpodkhpgcaaGreat.Cw

/-
  Odd models: no counts.
-/
namespace Go.Proofs.YtfdjcpodkhpgcaaGreat.Cw
open Go.Cw Go.Proofs
set_option linter.unusedVariables false
set_option maxRecDepth 100000
set_option maxHeartbeats 30000000

theorem c_odd100 (t : List Int) (k : Nat) (ht : t.length ≤ 400) (hk : k ≤ t.length) (p0 : Pair) (prs : List Pair) (ru : Int) (q1 : ∀ l ∈ ([] : List (List Opt)), ClsL l) (q3 : ∀ c ∈ ([] : List Count), CntL c) (h1 : ([] : List (List Opt)).length ≤ 5) (h2 : (p0 :: prs : List Pair).length ≤ 200) (h3 : ([] : List Count).length ≤ 2) (h4 : ∀ p ∈ (p0 :: prs : List Pair), p.table.length ≤ 100) :
    ACall Tryz.prog 22 [.ptr 0 2 0 0, ag (Model.cells ⟨[], p0 :: prs, [], ru⟩)] [dice t k] (fun r H' => ∃ (y : Model) (k' : Nat), k' ≤ t.length ∧ Laid y ∧ Leq r (ag y.cells) ∧ H' = [dice t k']) := by
  have q2 : ∀ p ∈ (p0 :: prs : List Pair), YY p := fun _ _ => trivial
  have h5 := h4 p0 (by simp)
  obtain ⟨q2a, q2b⟩ := List.forall_mem_cons.1 q2
  simp only [List.length_cons] at h2
  dsimp only [Model.cells]
  refine acall_of tok mixed 126 rfl (fn := Tryz.f22) (c := Tryz.f22.body.getD .skip) (by kernel_rfl) (by kernel_rfl) (by kernel_rfl) rfl 1 rfl ?_
  repeat' (first | ((refine ret0 rfl rfl rfl ?_ rfl rfl rfl ?_; · repeat' (first | exact True.intro | refine And.intro ?_ ?_ | (show 0 + _ ≤ List.length _; simp) | refine okL1 ?_))) | refine o1 ?_ | refine o2 ?_ | refine k1 ?_ | refine k2 ?_ | refine k3 ?_ | refine k4 ?_ | refine k7 ?_ | refine And.intro ?_ ?_ | refine o3 ?_ | refine o4 ?_ | (intro h; first | exact Bool.noConfusion h | exact nz _ h | exact nl h | (simp at h; done) | (simp at h; first | (exfalso; omega) | skip) | skip) | (refine (?_ : srcLen _ = rowsLen _); rfl) | exact Nat.le_of_ble_eq_true rfl | exact (by kernel_rfl : drawOk _ _ = true) | refine eqv_zero ?_ | refine eqv_wrap (by omega) (by omega) ?_ | (refine (?_ : _ ≤ 140737488355328); simp [rowsLen] <;> omega) | (refine (?_ : _ ≤ 9223372036854775807); simp [rowsLen] <;> omega) | (refine (?_ : _ = rowsLen _); simp [rowsLen] <;> omega) | refine eqv_to _ (app_first rfl) (eqv_to 1 rfl ?_) | refine idx_ms _ (by first | rfl | assumption) (by first | assumption | omega) ?_ | (change vcFun _ _ _ _ _; refine call_next 0 rfl (by assumption) (by assumption) (by omega) (by omega) ?_; intro v kq hv1 hv2 hkq) | (change vcFunD _ _ _ _ _; refine callD_next 0 rfl (by assumption) (by assumption) (by omega) (by omega) ?_; intro v kq hv1 hv2 hkq) | (refine app_wholem ?_) | (refine app_mfirst ?_) | (refine app_cons ?_) | (refine app_lit ?_) | (refine set0p ?_) | (refine set0m ?_) | (refine row0_load ?_) | (refine lit_idx (by assumption) (by assumption) (fun kx hkx => ?_)) | (refine lit4_load rfl (by assumption) ?_ ?_ ?_ ?_) | (refine ⟨(24 + v).toNat, (24 + v).toNat, by omega, by omega, Nat.le_refl _, ?_⟩) | ((refine (?_ : Int.toNat _ * _ ≤ _); omega)) | (refine (eqv_rfl ?_ : eqv (List.replicate _ _) _)) | fail)
  all_goals try (refine ret_conv [0] [dice t kq] rfl rfl ⟨rfl, trivial⟩ rfl (by repeat' (first | exact True.intro | refine And.intro ?_ ?_ | (show 0 + _ ≤ List.length _; simp) | refine okL1 ?_)) rfl (fin_model kq hkq ?_ ?_ ?_))
  all_goals repeat' (first | exact SlOf.nil | refine SlOf.sl ?_ (by simp <;> omega) | exact RowsOf.map (by assumption) | exact RowsOf.map (f := eI) (fun _ _ => trivial) | exact RowsOf.nil | refine RowsOf.cons ?_ ?_ | refine RowsOf.app ?_ ?_ | refine RowsOf.take ?_ | refine RowsOf.drop ?_ | refine RowsOf.rep ?_ | exact RowOf.mk (by assumption) PLeL.refl | exact row_load | exact row_charge | refine row_count ?_ | refine row_pair (n := 1000) ?_ | refine row_opt ?_ | refine row_cls ?_)
theorem c_odd101 (t : List Int) (k : Nat) (ht : t.length ≤ 400) (hk : k ≤ t.length) (p0 : Pair) (prs : List Pair) (l0 : List Opt) (cls : List (List Opt)) (ru : Int) (q1 : ∀ l ∈ (l0 :: cls : List (List Opt)), ClsL l) (q3 : ∀ c ∈ ([] : List Count), CntL c) (h1 : (l0 :: cls : List (List Opt)).length ≤ 5) (h2 : (p0 :: prs : List Pair).length ≤ 200) (h3 : ([] : List Count).length ≤ 2) (h4 : ∀ p ∈ (p0 :: prs : List Pair), p.table.length ≤ 100) :
    ACall Tryz.prog 22 [.ptr 0 2 0 0, ag (Model.cells ⟨l0 :: cls, p0 :: prs, [], ru⟩)] [dice t k] (fun r H' => ∃ (y : Model) (k' : Nat), k' ≤ t.length ∧ Laid y ∧ Leq r (ag y.cells) ∧ H' = [dice t k']) := by
  have q2 : ∀ p ∈ (p0 :: prs : List Pair), YY p := fun _ _ => trivial
  have h5 := h4 p0 (by simp)
  obtain ⟨q2a, q2b⟩ := List.forall_mem_cons.1 q2
  simp only [List.length_cons] at h2
  obtain ⟨q1a, q1b⟩ := List.forall_mem_cons.1 q1
  simp only [List.length_cons] at h1
  dsimp only [Model.cells]
  refine acall_of tok mixed 126 rfl (fn := Tryz.f22) (c := Tryz.f22.body.getD .skip) (by kernel_rfl) (by kernel_rfl) (by kernel_rfl) rfl 1 rfl ?_
  repeat' (first | ((refine retL rfl rfl rfl ?_ rfl rfl rfl ?_; · repeat' (first | exact True.intro | refine And.intro ?_ ?_ | (show 0 + _ ≤ List.length _; simp) | refine okL1 ?_))) | ((refine ret0 rfl rfl rfl ?_ rfl rfl rfl ?_; · repeat' (first | exact True.intro | refine And.intro ?_ ?_ | (show 0 + _ ≤ List.length _; simp) | refine okL1 ?_))) | refine o1 ?_ | refine o2 ?_ | refine k1 ?_ | refine k2 ?_ | refine k3 ?_ | refine k4 ?_ | refine k7 ?_ | refine And.intro ?_ ?_ | refine o3 ?_ | refine o4 ?_ | (intro h; first | exact Bool.noConfusion h | exact nz _ h | exact nl h | (simp at h; done) | (simp at h; first | (exfalso; omega) | skip) | skip) | (refine (?_ : srcLen _ = rowsLen _); rfl) | exact Nat.le_of_ble_eq_true rfl | exact (by kernel_rfl : drawOk _ _ = true) | refine eqv_zero ?_ | refine eqv_wrap (by omega) (by omega) ?_ | (refine (?_ : _ ≤ 140737488355328); simp [rowsLen] <;> omega) | (refine (?_ : _ ≤ 9223372036854775807); simp [rowsLen] <;> omega) | (refine (?_ : _ = rowsLen _); simp [rowsLen] <;> omega) | refine eqv_to _ (app_first rfl) (eqv_to 1 rfl ?_) | refine idx_ms _ (by first | rfl | assumption) (by first | assumption | omega) ?_ | (change vcFun _ _ _ _ _; refine call_next 0 rfl (by assumption) (by assumption) (by omega) (by omega) ?_; intro v kq hv1 hv2 hkq) | (change vcFunD _ _ _ _ _; refine callD_next 0 rfl (by assumption) (by assumption) (by omega) (by omega) ?_; intro v kq hv1 hv2 hkq) | (refine app_wholem ?_) | (refine app_mfirst ?_) | (refine app_mlast ?_) | (refine app_cons ?_) | (refine app_lit ?_) | (refine set0p ?_) | (refine set0m ?_) | (refine row0_load ?_) | (refine lit_idx (by assumption) (by assumption) (fun kx hkx => ?_)) | (refine lit4_load rfl (by assumption) ?_ ?_ ?_ ?_) | (refine ⟨(24 + v).toNat, (24 + v).toNat, by omega, by omega, Nat.le_refl _, ?_⟩) | ((refine (?_ : Int.toNat _ * _ ≤ _); omega)) | (refine (eqv_rfl ?_ : eqv (List.replicate _ _) _)) | fail)
  all_goals try (refine ret_conv [0] [dice t kq] rfl rfl ⟨rfl, trivial⟩ rfl (by repeat' (first | exact True.intro | refine And.intro ?_ ?_ | (show 0 + _ ≤ List.length _; simp) | refine okL1 ?_)) rfl (fin_model kq hkq ?_ ?_ ?_))
  all_goals repeat' (first | exact SlOf.nil | refine SlOf.sl ?_ (by simp <;> omega) | exact RowsOf.map (by assumption) | exact RowsOf.map (f := eI) (fun _ _ => trivial) | exact RowsOf.nil | refine RowsOf.cons ?_ ?_ | refine RowsOf.app ?_ ?_ | refine RowsOf.take ?_ | refine RowsOf.drop ?_ | refine RowsOf.rep ?_ | exact RowOf.mk (by assumption) PLeL.refl | exact row_load | exact row_charge | refine row_count ?_ | refine row_pair (n := 1000) ?_ | refine row_opt ?_ | refine row_cls ?_)
end Go.Proofs.YtfdjcpodkhpgcaaGreat.Cw

/-
  Odd models: pairs and counts.
-/
namespace Go.Proofs.YtfdjcpodkhpgcaaGreat.Cw
open Go.Cw Go.Proofs
set_option linter.unusedVariables false
set_option maxRecDepth 100000
set_option maxHeartbeats 30000000

theorem c_odd110 (t : List Int) (k : Nat) (ht : t.length ≤ 400) (hk : k ≤ t.length) (p0 : Pair) (prs : List Pair) (c0 : Count) (cts : List Count) (ru : Int) (q1 : ∀ l ∈ ([] : List (List Opt)), ClsL l) (q3 : ∀ c ∈ (c0 :: cts : List Count), CntL c) (h1 : ([] : List (List Opt)).length ≤ 5) (h2 : (p0 :: prs : List Pair).length ≤ 200) (h3 : (c0 :: cts : List Count).length ≤ 2) (h4 : ∀ p ∈ (p0 :: prs : List Pair), p.table.length ≤ 100) :
    ACall Tryz.prog 22 [.ptr 0 2 0 0, ag (Model.cells ⟨[], p0 :: prs, c0 :: cts, ru⟩)] [dice t k] (fun r H' => ∃ (y : Model) (k' : Nat), k' ≤ t.length ∧ Laid y ∧ Leq r (ag y.cells) ∧ H' = [dice t k']) := by
  have q2 : ∀ p ∈ (p0 :: prs : List Pair), YY p := fun _ _ => trivial
  have h5 := h4 p0 (by simp)
  obtain ⟨q2a, q2b⟩ := List.forall_mem_cons.1 q2
  simp only [List.length_cons] at h2
  obtain ⟨q3a, q3b⟩ := List.forall_mem_cons.1 q3
  simp only [List.length_cons] at h3
  dsimp only [Model.cells]
  refine acall_of tok mixed 126 rfl (fn := Tryz.f22) (c := Tryz.f22.body.getD .skip) (by kernel_rfl) (by kernel_rfl) (by kernel_rfl) rfl 1 rfl ?_
  repeat' (first | ((refine retL rfl rfl rfl ?_ rfl rfl rfl ?_; · repeat' (first | exact True.intro | refine And.intro ?_ ?_ | (show 0 + _ ≤ List.length _; simp) | refine okL1 ?_))) | ((refine ret0 rfl rfl rfl ?_ rfl rfl rfl ?_; · repeat' (first | exact True.intro | refine And.intro ?_ ?_ | (show 0 + _ ≤ List.length _; simp) | refine okL1 ?_))) | refine o1 ?_ | refine o2 ?_ | refine k1 ?_ | refine k2 ?_ | refine k3 ?_ | refine k4 ?_ | refine k7 ?_ | refine And.intro ?_ ?_ | refine o3 ?_ | refine o4 ?_ | (intro h; first | exact Bool.noConfusion h | exact nz _ h | exact nl h | (simp at h; done) | (simp at h; first | (exfalso; omega) | skip) | skip) | (refine (?_ : srcLen _ = rowsLen _); rfl) | exact Nat.le_of_ble_eq_true rfl | exact (by kernel_rfl : drawOk _ _ = true) | refine eqv_zero ?_ | refine eqv_wrap (by omega) (by omega) ?_ | (refine (?_ : _ ≤ 140737488355328); simp [rowsLen] <;> omega) | (refine (?_ : _ ≤ 9223372036854775807); simp [rowsLen] <;> omega) | (refine (?_ : _ = rowsLen _); simp [rowsLen] <;> omega) | refine idx_ms _ (by first | rfl | assumption) (by first | assumption | omega) ?_ | (change vcFun _ _ _ _ _; refine call_next 0 rfl (by assumption) (by assumption) (by omega) (by omega) ?_; intro v kq hv1 hv2 hkq) | (change vcFunD _ _ _ _ _; refine callD_next 0 rfl (by assumption) (by assumption) (by omega) (by omega) ?_; intro v kq hv1 hv2 hkq) | (refine app_wholem ?_) | (refine app_mfirst ?_) | (refine app_mlast ?_) | (refine app_cons ?_) | (refine app_lit ?_) | (refine set0p ?_) | (refine set0m ?_) | (refine row0_load ?_) | (refine lit_idx (by assumption) (by assumption) (fun kx hkx => ?_)) | (refine lit4_load rfl (by assumption) ?_ ?_ ?_ ?_) | (refine ⟨(24 + v).toNat, (24 + v).toNat, by omega, by omega, Nat.le_refl _, ?_⟩) | ((refine (?_ : Int.toNat _ * _ ≤ _); omega)) | (refine (eqv_rfl ?_ : eqv (List.replicate _ _) _)) | fail)
  all_goals try (refine ret_conv [0] [dice t kq] rfl rfl ⟨rfl, trivial⟩ rfl (by repeat' (first | exact True.intro | refine And.intro ?_ ?_ | (show 0 + _ ≤ List.length _; simp) | refine okL1 ?_)) rfl (fin_model kq hkq ?_ ?_ ?_))
  all_goals repeat' (first | exact SlOf.nil | refine SlOf.sl ?_ (by simp <;> omega) | exact RowsOf.map (by assumption) | exact RowsOf.map (f := eI) (fun _ _ => trivial) | exact RowsOf.nil | refine RowsOf.cons ?_ ?_ | refine RowsOf.app ?_ ?_ | refine RowsOf.take ?_ | refine RowsOf.drop ?_ | refine RowsOf.rep ?_ | exact RowOf.mk (by assumption) PLeL.refl | exact row_load | exact row_charge | refine row_count ?_ | refine row_pair (n := 1000) ?_ | refine row_opt ?_ | refine row_cls ?_)
theorem c_odd111 (t : List Int) (k : Nat) (ht : t.length ≤ 400) (hk : k ≤ t.length) (p0 : Pair) (prs : List Pair) (c0 : Count) (cts : List Count) (l0 : List Opt) (cls : List (List Opt)) (ru : Int) (q1 : ∀ l ∈ (l0 :: cls : List (List Opt)), ClsL l) (q3 : ∀ c ∈ (c0 :: cts : List Count), CntL c) (h1 : (l0 :: cls : List (List Opt)).length ≤ 5) (h2 : (p0 :: prs : List Pair).length ≤ 200) (h3 : (c0 :: cts : List Count).length ≤ 2) (h4 : ∀ p ∈ (p0 :: prs : List Pair), p.table.length ≤ 100) :
    ACall Tryz.prog 22 [.ptr 0 2 0 0, ag (Model.cells ⟨l0 :: cls, p0 :: prs, c0 :: cts, ru⟩)] [dice t k] (fun r H' => ∃ (y : Model) (k' : Nat), k' ≤ t.length ∧ Laid y ∧ Leq r (ag y.cells) ∧ H' = [dice t k']) := by
  have q2 : ∀ p ∈ (p0 :: prs : List Pair), YY p := fun _ _ => trivial
  have h5 := h4 p0 (by simp)
  obtain ⟨q2a, q2b⟩ := List.forall_mem_cons.1 q2
  simp only [List.length_cons] at h2
  obtain ⟨q3a, q3b⟩ := List.forall_mem_cons.1 q3
  simp only [List.length_cons] at h3
  obtain ⟨q1a, q1b⟩ := List.forall_mem_cons.1 q1
  simp only [List.length_cons] at h1
  dsimp only [Model.cells]
  refine acall_of tok mixed 126 rfl (fn := Tryz.f22) (c := Tryz.f22.body.getD .skip) (by kernel_rfl) (by kernel_rfl) (by kernel_rfl) rfl 1 rfl ?_
  repeat' (first | ((refine retL rfl rfl rfl ?_ rfl rfl rfl ?_; · repeat' (first | exact True.intro | refine And.intro ?_ ?_ | (show 0 + _ ≤ List.length _; simp) | refine okL1 ?_))) | ((refine ret0 rfl rfl rfl ?_ rfl rfl rfl ?_; · repeat' (first | exact True.intro | refine And.intro ?_ ?_ | (show 0 + _ ≤ List.length _; simp) | refine okL1 ?_))) | refine o1 ?_ | refine o2 ?_ | refine k1 ?_ | refine k2 ?_ | refine k3 ?_ | refine k4 ?_ | refine k7 ?_ | refine And.intro ?_ ?_ | refine o3 ?_ | refine o4 ?_ | (intro h; first | exact Bool.noConfusion h | exact nz _ h | exact nl h | (simp at h; done) | (simp at h; first | (exfalso; omega) | skip) | skip) | (refine (?_ : srcLen _ = rowsLen _); rfl) | exact Nat.le_of_ble_eq_true rfl | exact (by kernel_rfl : drawOk _ _ = true) | refine eqv_zero ?_ | refine eqv_wrap (by omega) (by omega) ?_ | (refine (?_ : _ ≤ 140737488355328); simp [rowsLen] <;> omega) | (refine (?_ : _ ≤ 9223372036854775807); simp [rowsLen] <;> omega) | (refine (?_ : _ = rowsLen _); simp [rowsLen] <;> omega) | refine idx_ms _ (by first | rfl | assumption) (by first | assumption | omega) ?_ | (change vcFun _ _ _ _ _; refine call_next 0 rfl (by assumption) (by assumption) (by omega) (by omega) ?_; intro v kq hv1 hv2 hkq) | (change vcFunD _ _ _ _ _; refine callD_next 0 rfl (by assumption) (by assumption) (by omega) (by omega) ?_; intro v kq hv1 hv2 hkq) | (refine app_wholem ?_) | (refine app_mlast ?_) | (refine app_cons ?_) | (refine app_lit ?_) | (refine set0p ?_) | (refine set0m ?_) | (refine row0_load ?_) | (refine lit_idx (by assumption) (by assumption) (fun kx hkx => ?_)) | (refine lit4_load rfl (by assumption) ?_ ?_ ?_ ?_) | (refine ⟨(24 + v).toNat, (24 + v).toNat, by omega, by omega, Nat.le_refl _, ?_⟩) | ((refine (?_ : Int.toNat _ * _ ≤ _); omega)) | (refine (eqv_rfl ?_ : eqv (List.replicate _ _) _)) | fail)
  all_goals try (refine ret_conv [0] [dice t kq] rfl rfl ⟨rfl, trivial⟩ rfl (by repeat' (first | exact True.intro | refine And.intro ?_ ?_ | (show 0 + _ ≤ List.length _; simp))) rfl (fin_model kq hkq ?_ ?_ ?_))
  all_goals repeat' (first | exact SlOf.nil | refine SlOf.sl ?_ (by simp <;> omega) | exact RowsOf.map (by assumption) | exact RowsOf.map (f := eI) (fun _ _ => trivial) | exact RowsOf.nil | refine RowsOf.cons ?_ ?_ | refine RowsOf.app ?_ ?_ | refine RowsOf.take ?_ | refine RowsOf.drop ?_ | refine RowsOf.rep ?_ | exact RowOf.mk (by assumption) PLeL.refl | exact row_load | exact row_charge | refine row_count ?_ | refine row_pair (n := 1000) ?_ | refine row_opt ?_ | refine row_cls ?_)
end Go.Proofs.YtfdjcpodkhpgcaaGreat.Cw

/-
  Made models: the walk, classes.
-/
namespace Go.Proofs.YtfdjcpodkhpgcaaGreat.Cw
open Go.Cw Go.Proofs
set_option linter.unusedVariables false
set_option maxRecDepth 100000
set_option maxHeartbeats 30000000

theorem stageB {Q : Exit → Slots → Heap → Prop} {rest : Code} (t : List Int) (ht : t.length ≤ 400) (a b : Int) (r : Int) (r1 : 1 ≤ r) (r2 : r ≤ 4) (k : Nat) (r0 : k ≤ t.length) (ha : 0 ≤ a ∧ a ≤ 5) (hb : 1 ≤ b ∧ b ≤ 4)
    (later : Later (∀ x : Nat × List (List Opt), (x.1 ≤ t.length ∧ x.2.length ≤ 5 ∧ ∀ l ∈ x.2, ClsQ r l) → forceH [dice t x.1, zeroM, mb (.pv (.sl 1 (x.2.map optsRow))) nilA nilA r] fun H1 => xCode Tryz.prog T 199 1 rest Q ([] ++ [(7, .ptr 2 4 0 0), (6, .ptr (0 + 1) 4 0 0), (0, .ptr 0 2 0 0), (0 + 1, vint .i64 a), (0 + 1 + 1, vint .i64 b)]) H1)) :
    xCode Tryz.prog T 199 1 (.seq codeB rest) Q ([] ++ [(7, .ptr 2 4 0 0), (6, .ptr (0 + 1) 4 0 0), (0, .ptr 0 2 0 0), (0 + 1, vint .i64 a), (0 + 1 + 1, vint .i64 b)]) [dice t k, zeroM, mb nilA nilA nilA r] := by
  show xCode _ _ _ _ (.seq (.seq (.region 2 _ _) _) rest) _ _ _
  dsimp only [zeroM, mb, nilA]
  repeat' (first | (refine join_in (a := .seq (.region 2 _ _) _) (fun _ => []) (fun x : Nat × List (List Opt) => [dice t x.1, zeroM, mb (.pv (.sl 1 (x.2.map optsRow))) nilA nilA r]) (fun x => x.1 ≤ t.length ∧ x.2.length ≤ 5 ∧ ∀ l ∈ x.2, ClsQ r l) ?_) | refine o1 ?_ | refine o2 ?_ | refine k1 ?_ | refine k2 ?_ | refine k4 ?_ | refine And.intro ?_ ?_ | refine eqv_wrap (by omega) (by omega) ?_ | (change vcFun _ _ _ _ _; refine call_next 0 rfl (by assumption) (by assumption) (by omega) (by omega) ?_; intro v kq hv1 hv2 hkq) | fail)
  · refine loop_in (fun x : Nat × Nat × List (List Opt) => [(8, vint .i64 x.1)]) (fun x => [dice t x.2.1, zeroM, mb (slP 3 1 (List.map optsRow (x.2.2))) nilA nilA r, obP 54 1 (List.map optsRow (x.2.2))]) (fun x => x.1 + x.2.2.length ≤ 5 ∧ x.2.1 ≤ t.length ∧ ∀ l ∈ x.2.2, ClsQ r l) (fun x => x.1) (v.toNat, kq, []) ⟨by simp; omega, hkq, fun l hl => absurd hl List.not_mem_nil⟩ ⟨?_, ?_⟩
    · exact back [0, 1, 2, 3] rfl rfl (by repeat' (first | exact trivial | exact rfl | refine And.intro ?_ ?_)) ⟨slot_eq rfl (congrArg (vint .i64) (by show _ = ((v.toNat : Nat) : Int); omega)), (by repeat' (first | exact trivial | exact rfl | refine And.intro ?_ ?_))⟩
    rintro ⟨n, k, cls⟩ ⟨c1, c2, c3⟩
    dsimp only at c1 c2 c3
    rcases cls with _ | ⟨c0, cls⟩
    · simp only [List.length_cons, List.length_nil] at c1
      dsimp only [slP, obP, zeroM, mb, ob5, nilA, List.map, List.length_cons, List.length_nil, List.length_map]
      rcases Nat.eq_zero_or_pos n with rfl | hn
      · repeat' (first | refine o1 ?_ | refine o2 ?_ | refine k1 ?_ | refine k2 ?_ | refine k3 ?_ | refine k8 ?_ | refine And.intro ?_ ?_ | (intro h; first | exact Bool.noConfusion h | exact nz _ h | exact nl h | (simp at h; done) | (simp at h; first | (exfalso; omega) | skip) | skip) | fail)
        exact ⟨(k, []), ⟨c2, by simp, c3⟩, Ghost.trans (Ghost.shut (i := 2) (c := 0) (x := .pv (.val (.slice none 0 0))) rfl rfl rfl (by repeat' (first | trivial)) (show ¬ (2 ∈ ([] : List Nat)) by decide) (ALe.pv PLe.nil)) (back [0, 1, 2] rfl rfl (by repeat' (first | exact trivial | exact rfl | refine And.intro ?_ ?_)) (by repeat' (first | exact trivial | exact rfl | refine And.intro ?_ ?_)))⟩
      · repeat' (first | (refine join_in (a := .seq (.region 6 _ _) _) (fun x : Nat × List Opt => [(9, .pv (.sl 6 (x.2.map Opt.row)))]) (fun x => [dice t x.1, zeroM, mb (slP 3 1 (List.map optsRow ([]))) nilA nilA r, obP 54 1 (List.map optsRow ([]))]) (fun x => x.1 ≤ t.length ∧ 1 ≤ x.2.length ∧ x.2.length ≤ 4 ∧ ∀ o ∈ x.2, OptQ r o) ?_) | refine o1 ?_ | refine o2 ?_ | refine k1 ?_ | refine k2 ?_ | refine k3 ?_ | refine k4 ?_ | refine k6 ?_ | refine And.intro ?_ ?_ | (intro h; first | exact Bool.noConfusion h | exact nz _ h | exact nl h | (simp at h; done) | (simp at h; first | (exfalso; omega) | skip) | skip) | refine eqv_wrap (by omega) (by omega) ?_ | (change vcFun _ _ _ _ _; refine call_next 0 rfl (by assumption) (by assumption) (by omega) (by omega) ?_; intro v kq hv1 hv2 hkq) | fail)
        · refine loop_in (fun x : Nat × Nat × List Opt => [(9, slP 4 6 (List.map Opt.row (x.2.2))), (10, vint .i64 x.1)]) (fun x => [dice t x.2.1, zeroM, mb (slP 3 1 (List.map optsRow ([]))) nilA nilA r, obP 54 1 (List.map optsRow ([])), obP 53 6 (List.map Opt.row (x.2.2))]) (fun x => (x.1 + x.2.2.length ≤ 4 ∧ 1 ≤ x.1 + x.2.2.length) ∧ x.2.1 ≤ t.length ∧ ∀ o ∈ x.2.2, OptQ r o) (fun x => x.1) ((1 + v).toNat, kq, []) ⟨by simp; omega, hkq, fun o ho => absurd ho List.not_mem_nil⟩ ⟨?_, ?_⟩
          · exact back [0, 1, 2, 3, 4] rfl rfl (by repeat' (first | exact trivial | exact rfl | refine And.intro ?_ ?_)) ⟨rfl, slot_eq rfl (congrArg (vint .i64) (by show _ = (((1 + v).toNat : Nat) : Int); omega)), (by repeat' (first | exact trivial | exact rfl | refine And.intro ?_ ?_))⟩
          rintro ⟨n2, k, ops⟩ ⟨g1, g2, g3⟩
          dsimp only at g1 g2 g3
          rcases ops with _ | ⟨o0, ops⟩
          · simp only [List.length_cons, List.length_nil] at g1
            dsimp only [slP, obP, zeroM, mb, ob5, nilA, List.map, List.length_cons, List.length_nil, List.length_map]
            rcases Nat.eq_zero_or_pos n2 with rfl | hn
            · repeat' (first | refine o1 ?_ | refine o2 ?_ | refine k1 ?_ | refine k2 ?_ | refine k3 ?_ | refine And.intro ?_ ?_ | (intro h; first | exact Bool.noConfusion h | exact nz _ h | exact nl h | (simp at h; done) | (simp at h; first | (exfalso; omega) | skip) | skip) | fail)
              all_goals (exfalso; omega)
            · repeat' (first | (refine join_in (a := .seq (.region 10 _ _) _) (fun _ => []) (fun x : Nat × Placed × List Charge => [dice t x.1, zeroM, mb (slP 3 1 (List.map optsRow ([]))) nilA nilA r, obP 54 1 (List.map optsRow ([])), obP 53 6 (List.map Opt.row ([])), ob5 x.2.1.time.weeks x.2.1.time.day x.2.1.time.start x.2.1.time.len x.2.1.room (.pv (.sl 2 (x.2.2.map Charge.row)))]) (fun x => x.1 ≤ t.length ∧ (∀ i, i < x.2.2.length → chargeAt (mr r) x.2.2 i) ∧ x.2.2.length ≤ 4) ?_) | refine o1 ?_ | refine o2 ?_ | refine k1 ?_ | refine k2 ?_ | refine k3 ?_ | refine k4 ?_ | refine k6 ?_ | refine And.intro ?_ ?_ | (intro h; first | exact Bool.noConfusion h | exact nz _ h | exact nl h | (simp at h; done) | (simp at h; first | (exfalso; omega) | skip) | skip) | exact (by kernel_rfl : drawOk _ _ = true) | refine eqv_wrap (by omega) (by omega) ?_ | (change vcFun _ _ _ _ _; refine call_next 0 rfl (by assumption) (by assumption) (by omega) (by omega) ?_; intro v kq hv1 hv2 hkq) | fail)
              · rename_i v1 q1 a1 a2 a3 v2 q2 b1 b2 b3 v3 q3 d1 d2 d3
                refine loop_in (fun x : Nat × Nat × List Charge => [(12, vint .i64 x.1)]) (fun x => [dice t x.2.1, zeroM, mb (slP 3 1 (List.map optsRow ([]))) nilA nilA r, obP 54 1 (List.map optsRow ([])), obP 53 6 (List.map Opt.row ([])), ob5 (1 + v1) v2 v3 1 (v - 1) (slP 6 2 (List.map Charge.row (x.2.2))), obP 96 2 (List.map Charge.row (x.2.2))]) (fun x => x.1 ≤ r.toNat ∧ x.2.1 ≤ t.length ∧ ChQ r x.1 x.2.2) (fun x => r.toNat - x.1) (0, kq, []) ⟨Nat.zero_le _, by assumption, ChQ.nil⟩ ⟨?_, ?_⟩
                · exact back [0, 1, 2, 3, 4, 5, 6] rfl rfl (by repeat' (first | exact trivial | exact rfl | refine And.intro ?_ ?_)) (by repeat' (first | exact trivial | exact rfl | refine And.intro ?_ ?_))
                rintro ⟨u, k, chs⟩ ⟨u1, u2, u3⟩
                dsimp only at u1 u2 u3
                have hu3 := u3.len
                rcases chs with _ | ⟨h0, chs⟩
                · simp only [List.length_cons, List.length_nil] at hu3
                  dsimp only [slP, obP, zeroM, mb, ob5, nilA, List.map, List.length_cons, List.length_nil, List.length_map]
                  rcases Nat.lt_or_ge u r.toNat with hu | hu
                  · repeat' (first | ((change vcFun _ _ _ _ _; refine call_cost 0 rfl (by assumption) (by assumption) ?_; intro cn kc hcn hkc)) | refine o1 ?_ | refine o2 ?_ | refine k1 ?_ | refine k2 ?_ | refine k3 ?_ | refine k4 ?_ | refine k6 ?_ | refine And.intro ?_ ?_ | (intro h; first | exact Bool.noConfusion h | exact nz _ h | exact nl h | (simp at h; done) | (simp at h; first | (exfalso; omega) | skip) | skip) | (refine (?_ : srcLen _ = rowsLen _); rfl) | exact Nat.le_of_ble_eq_true rfl | refine eqv_wrap (by omega) (by omega) ?_ | refine eqv_to _ (app_first rfl) (eqv_to 1 rfl ?_) | (change vcFun _ _ _ _ _; refine call_one2 0 rfl (by assumption) (by assumption) (by omega) (by omega) ?_; intro bq kq hkq) | fail)
                    all_goals first
                      | (exfalso; omega)
                      | skip
                    · exact ⟨(u + 1, kq, [Charge.mk (u : Int) cn]), ⟨by show u + 1 ≤ _; omega, hkq, u3.app (by omega) (hcn.elim (fun h => by omega) id)⟩, (by show _ - (u + 1) < _; omega), back [0, 1, 2, 3, 4, 5, 8] rfl rfl (by repeat' (first | exact trivial | exact rfl | refine And.intro ?_ ?_)) (by repeat' (first | exact trivial | exact rfl | refine And.intro ?_ ?_))⟩
                    · exact ⟨(u + 1, kq, []), ⟨by show u + 1 ≤ _; omega, hkq, u3.skip⟩, (by show _ - (u + 1) < _; omega), back [0, 1, 2, 3, 4, 5, 6] rfl rfl (by repeat' (first | exact trivial | exact rfl | refine And.intro ?_ ?_)) (by repeat' (first | exact trivial | exact rfl | refine And.intro ?_ ?_))⟩
                    · exact ⟨(u + 1, kc, []), ⟨by show u + 1 ≤ _; omega, hkc, u3.skip⟩, (by show _ - (u + 1) < _; omega), back [0, 1, 2, 3, 4, 5, 6] rfl rfl (by repeat' (first | exact trivial | exact rfl | refine And.intro ?_ ?_)) (by repeat' (first | exact trivial | exact rfl | refine And.intro ?_ ?_))⟩
                  · repeat' (first | refine o1 ?_ | refine o2 ?_ | refine k1 ?_ | refine k2 ?_ | refine k3 ?_ | refine k8 ?_ | refine And.intro ?_ ?_ | (intro h; first | exact Bool.noConfusion h | exact nz _ h | exact nl h | (simp at h; done) | (simp at h; first | (exfalso; omega) | skip) | skip) | fail)
                    exact ⟨(k, ⟨⟨1 + v1, v2, v3, 1⟩, v - 1⟩, []), ⟨u2, u3.at_, by simp⟩, Ghost.trans (Ghost.shut (i := 5) (c := 5) (x := .pv (.val (.slice none 0 0))) rfl rfl rfl (by repeat' (first | trivial)) (show ¬ (5 ∈ ([] : List Nat)) by decide) (ALe.pv PLe.nil)) (back [0, 1, 2, 3, 4, 5] rfl rfl (by repeat' (first | exact trivial | exact rfl | refine And.intro ?_ ?_)) (by repeat' (first | exact trivial | exact rfl | refine And.intro ?_ ?_)))⟩
                · simp only [List.length_cons, List.length_nil] at hu3
                  dsimp only [slP, obP, zeroM, mb, ob5, nilA, List.map, List.length_cons, List.length_nil, List.length_map]
                  rcases Nat.lt_or_ge u r.toNat with hu | hu
                  · repeat' (first | ((change vcFun _ _ _ _ _; refine call_cost 0 rfl (by assumption) (by assumption) ?_; intro cn kc hcn hkc)) | (refine app_consm (f := Charge.row) (Charge.mk (u : Int) cn) rfl ?_) | refine o1 ?_ | refine o2 ?_ | refine k1 ?_ | refine k2 ?_ | refine k3 ?_ | refine k4 ?_ | refine k6 ?_ | refine And.intro ?_ ?_ | (intro h; first | exact Bool.noConfusion h | exact nz _ h | exact nl h | (simp at h; done) | (simp at h; first | (exfalso; omega) | skip) | skip) | (refine (?_ : srcLen _ = rowsLen _); rfl) | refine eqv_wrap (by omega) (by omega) ?_ | (refine (?_ : _ ≤ 140737488355328); simp [rowsLen] <;> omega) | (refine (?_ : _ ≤ 9223372036854775807); simp [rowsLen] <;> omega) | (refine (?_ : _ = rowsLen _); simp [rowsLen] <;> omega) | (change vcFun _ _ _ _ _; refine call_one2 0 rfl (by assumption) (by assumption) (by omega) (by omega) ?_; intro bq kq hkq) | fail)
                    all_goals first
                      | (exfalso; omega)
                      | skip
                    · exact ⟨(u + 1, kq, h0 :: (chs ++ [Charge.mk (u : Int) cn])), ⟨by show u + 1 ≤ _; omega, hkq, u3.app (by omega) (hcn.elim (fun h => by omega) id)⟩, (by show _ - (u + 1) < _; omega), back [0, 1, 2, 3, 4, 5, 8] rfl rfl (by repeat' (first | exact trivial | exact rfl | refine And.intro ?_ ?_)) (by repeat' (first | exact trivial | exact rfl | refine And.intro ?_ ?_))⟩
                    · exact ⟨(u + 1, kq, h0 :: chs), ⟨by show u + 1 ≤ _; omega, hkq, u3.skip⟩, (by show _ - (u + 1) < _; omega), back [0, 1, 2, 3, 4, 5, 6] rfl rfl (by repeat' (first | exact trivial | exact rfl | refine And.intro ?_ ?_)) (by repeat' (first | exact trivial | exact rfl | refine And.intro ?_ ?_))⟩
                    · exact ⟨(u + 1, kc, h0 :: chs), ⟨by show u + 1 ≤ _; omega, hkc, u3.skip⟩, (by show _ - (u + 1) < _; omega), back [0, 1, 2, 3, 4, 5, 6] rfl rfl (by repeat' (first | exact trivial | exact rfl | refine And.intro ?_ ?_)) (by repeat' (first | exact trivial | exact rfl | refine And.intro ?_ ?_))⟩
                  · repeat' (first | refine o1 ?_ | refine o2 ?_ | refine k1 ?_ | refine k2 ?_ | refine k3 ?_ | refine k8 ?_ | refine And.intro ?_ ?_ | (intro h; first | exact Bool.noConfusion h | exact nz _ h | exact nl h | (simp at h; done) | (simp at h; first | (exfalso; omega) | skip) | skip) | fail)
                    exact ⟨(k, ⟨⟨1 + v1, v2, v3, 1⟩, v - 1⟩, h0 :: chs), ⟨u2, u3.at_, by simp only [List.length_cons]; omega⟩, Ghost.trans (Ghost.shut (i := 5) (c := 5) (x := .ms 6 2 0 ((List.map Charge.row chs).length + 1)) rfl rfl rfl (by repeat' (first | (show 0 + _ ≤ List.length _; simp))) (show ¬ (5 ∈ ([6] : List Nat)) by decide) (ALe.pv (whole_le (f := Charge.row) (l := h0 :: chs) (by simp)))) (back [0, 1, 2, 3, 4, 5] rfl rfl (by repeat' (first | exact trivial | exact rfl | refine And.intro ?_ ?_)) (by repeat' (first | exact trivial | exact rfl | refine And.intro ?_ ?_)))⟩
              refine ⟨?_⟩
              rintro ⟨k, pl, chs⟩ ⟨f1, f2, f3⟩
              dsimp only at f1 f2 f3
              dsimp only [slP, obP, zeroM, mb, ob5, nilA, List.map, List.length_cons, List.length_nil, List.length_map]
              repeat' (first | refine o1 ?_ | refine o2 ?_ | refine k2 ?_ | refine And.intro ?_ ?_ | (intro h; first | exact Bool.noConfusion h | exact nz _ h | exact nl h | (simp at h; done) | (simp at h; first | (exfalso; omega) | skip) | skip) | (refine (?_ : srcLen _ = rowsLen _); rfl) | exact Nat.le_of_ble_eq_true rfl | refine eqv_wrap (by omega) (by omega) ?_ | refine eqv_to _ (app_first rfl) (eqv_to 1 rfl ?_) | fail)
              exact ⟨(n2 - 1, k, [Opt.mk pl chs]), ⟨⟨by show n2 - 1 + List.length _ ≤ 4; simp; try omega, by show 1 ≤ n2 - 1 + List.length _; simp; try omega⟩, f1, all_app (l := []) g3 (show OptQ r ⟨pl, chs⟩ from ⟨f2, f3⟩)⟩, (by show n2 - 1 < n2; omega), back [0, 1, 2, 3, 7] rfl rfl (by repeat' (first | exact trivial | exact rfl | refine And.intro ?_ ?_)) ⟨rfl, slot_eq rfl (congrArg (vint .i64) (by show _ = ((n2 - 1 : Nat) : Int); omega)), (by repeat' (first | exact trivial | exact rfl | refine And.intro ?_ ?_))⟩⟩
          · simp only [List.length_cons, List.length_nil] at g1
            dsimp only [slP, obP, zeroM, mb, ob5, nilA, List.map, List.length_cons, List.length_nil, List.length_map]
            rcases Nat.eq_zero_or_pos n2 with rfl | hn
            · repeat' (first | refine o1 ?_ | refine o2 ?_ | refine k1 ?_ | refine k2 ?_ | refine k3 ?_ | refine k8 ?_ | refine And.intro ?_ ?_ | (intro h; first | exact Bool.noConfusion h | exact nz _ h | exact nl h | (simp at h; done) | (simp at h; first | (exfalso; omega) | skip) | skip) | fail)
              exact ⟨(k, o0 :: ops), ⟨g2, by simp; try omega, by simp only [List.length_cons]; omega, g3⟩, Ghost.trans (Ghost.freeze (s := 9) rfl rfl (by repeat' (first | (show 0 + _ ≤ List.length _; simp)))) (Ghost.trans (Ghost.weak (s := 9) rfl (ALe.pv (whole_le (f := Opt.row) (l := o0 :: ops) (n := (List.map Opt.row ops).length + 1) (by simp)))) (back [0, 1, 2, 3] rfl rfl (by repeat' (first | exact trivial | exact rfl | refine And.intro ?_ ?_)) (by repeat' (first | exact trivial | exact rfl | refine And.intro ?_ ?_))))⟩
            · repeat' (first | (refine join_in (a := .seq (.region 10 _ _) _) (fun _ => []) (fun x : Nat × Placed × List Charge => [dice t x.1, zeroM, mb (slP 3 1 (List.map optsRow ([]))) nilA nilA r, obP 54 1 (List.map optsRow ([])), obP 53 6 (List.map Opt.row (o0 :: ops)), ob5 x.2.1.time.weeks x.2.1.time.day x.2.1.time.start x.2.1.time.len x.2.1.room (.pv (.sl 2 (x.2.2.map Charge.row)))]) (fun x => x.1 ≤ t.length ∧ (∀ i, i < x.2.2.length → chargeAt (mr r) x.2.2 i) ∧ x.2.2.length ≤ 4) ?_) | refine o1 ?_ | refine o2 ?_ | refine k1 ?_ | refine k2 ?_ | refine k3 ?_ | refine k4 ?_ | refine k6 ?_ | refine And.intro ?_ ?_ | (intro h; first | exact Bool.noConfusion h | exact nz _ h | exact nl h | (simp at h; done) | (simp at h; first | (exfalso; omega) | skip) | skip) | exact (by kernel_rfl : drawOk _ _ = true) | refine eqv_wrap (by omega) (by omega) ?_ | (change vcFun _ _ _ _ _; refine call_next 0 rfl (by assumption) (by assumption) (by omega) (by omega) ?_; intro v kq hv1 hv2 hkq) | fail)
              · rename_i v1 q1 a1 a2 a3 v2 q2 b1 b2 b3 v3 q3 d1 d2 d3
                refine loop_in (fun x : Nat × Nat × List Charge => [(12, vint .i64 x.1)]) (fun x => [dice t x.2.1, zeroM, mb (slP 3 1 (List.map optsRow ([]))) nilA nilA r, obP 54 1 (List.map optsRow ([])), obP 53 6 (List.map Opt.row (o0 :: ops)), ob5 (1 + v1) v2 v3 1 (v - 1) (slP 6 2 (List.map Charge.row (x.2.2))), obP 96 2 (List.map Charge.row (x.2.2))]) (fun x => x.1 ≤ r.toNat ∧ x.2.1 ≤ t.length ∧ ChQ r x.1 x.2.2) (fun x => r.toNat - x.1) (0, kq, []) ⟨Nat.zero_le _, by assumption, ChQ.nil⟩ ⟨?_, ?_⟩
                · exact back [0, 1, 2, 3, 4, 5, 6] rfl rfl (by repeat' (first | exact trivial | exact rfl | refine And.intro ?_ ?_)) (by repeat' (first | exact trivial | exact rfl | refine And.intro ?_ ?_))
                rintro ⟨u, k, chs⟩ ⟨u1, u2, u3⟩
                dsimp only at u1 u2 u3
                have hu3 := u3.len
                rcases chs with _ | ⟨h0, chs⟩
                · simp only [List.length_cons, List.length_nil] at hu3
                  dsimp only [slP, obP, zeroM, mb, ob5, nilA, List.map, List.length_cons, List.length_nil, List.length_map]
                  rcases Nat.lt_or_ge u r.toNat with hu | hu
                  · repeat' (first | ((change vcFun _ _ _ _ _; refine call_cost 0 rfl (by assumption) (by assumption) ?_; intro cn kc hcn hkc)) | refine o1 ?_ | refine o2 ?_ | refine k1 ?_ | refine k2 ?_ | refine k3 ?_ | refine k4 ?_ | refine k6 ?_ | refine And.intro ?_ ?_ | (intro h; first | exact Bool.noConfusion h | exact nz _ h | exact nl h | (simp at h; done) | (simp at h; first | (exfalso; omega) | skip) | skip) | (refine (?_ : srcLen _ = rowsLen _); rfl) | exact Nat.le_of_ble_eq_true rfl | refine eqv_wrap (by omega) (by omega) ?_ | refine eqv_to _ (app_first rfl) (eqv_to 1 rfl ?_) | (change vcFun _ _ _ _ _; refine call_one2 0 rfl (by assumption) (by assumption) (by omega) (by omega) ?_; intro bq kq hkq) | fail)
                    all_goals first
                      | (exfalso; omega)
                      | skip
                    · exact ⟨(u + 1, kq, [Charge.mk (u : Int) cn]), ⟨by show u + 1 ≤ _; omega, hkq, u3.app (by omega) (hcn.elim (fun h => by omega) id)⟩, (by show _ - (u + 1) < _; omega), back [0, 1, 2, 3, 4, 5, 8] rfl rfl (by repeat' (first | exact trivial | exact rfl | refine And.intro ?_ ?_)) (by repeat' (first | exact trivial | exact rfl | refine And.intro ?_ ?_))⟩
                    · exact ⟨(u + 1, kq, []), ⟨by show u + 1 ≤ _; omega, hkq, u3.skip⟩, (by show _ - (u + 1) < _; omega), back [0, 1, 2, 3, 4, 5, 6] rfl rfl (by repeat' (first | exact trivial | exact rfl | refine And.intro ?_ ?_)) (by repeat' (first | exact trivial | exact rfl | refine And.intro ?_ ?_))⟩
                    · exact ⟨(u + 1, kc, []), ⟨by show u + 1 ≤ _; omega, hkc, u3.skip⟩, (by show _ - (u + 1) < _; omega), back [0, 1, 2, 3, 4, 5, 6] rfl rfl (by repeat' (first | exact trivial | exact rfl | refine And.intro ?_ ?_)) (by repeat' (first | exact trivial | exact rfl | refine And.intro ?_ ?_))⟩
                  · repeat' (first | refine o1 ?_ | refine o2 ?_ | refine k1 ?_ | refine k2 ?_ | refine k3 ?_ | refine k8 ?_ | refine And.intro ?_ ?_ | (intro h; first | exact Bool.noConfusion h | exact nz _ h | exact nl h | (simp at h; done) | (simp at h; first | (exfalso; omega) | skip) | skip) | fail)
                    exact ⟨(k, ⟨⟨1 + v1, v2, v3, 1⟩, v - 1⟩, []), ⟨u2, u3.at_, by simp⟩, Ghost.trans (Ghost.shut (i := 5) (c := 5) (x := .pv (.val (.slice none 0 0))) rfl rfl rfl (by repeat' (first | trivial)) (show ¬ (5 ∈ ([] : List Nat)) by decide) (ALe.pv PLe.nil)) (back [0, 1, 2, 3, 4, 5] rfl rfl (by repeat' (first | exact trivial | exact rfl | refine And.intro ?_ ?_)) (by repeat' (first | exact trivial | exact rfl | refine And.intro ?_ ?_)))⟩
                · simp only [List.length_cons, List.length_nil] at hu3
                  dsimp only [slP, obP, zeroM, mb, ob5, nilA, List.map, List.length_cons, List.length_nil, List.length_map]
                  rcases Nat.lt_or_ge u r.toNat with hu | hu
                  · repeat' (first | ((change vcFun _ _ _ _ _; refine call_cost 0 rfl (by assumption) (by assumption) ?_; intro cn kc hcn hkc)) | (refine app_consm (f := Charge.row) (Charge.mk (u : Int) cn) rfl ?_) | refine o1 ?_ | refine o2 ?_ | refine k1 ?_ | refine k2 ?_ | refine k3 ?_ | refine k4 ?_ | refine k6 ?_ | refine And.intro ?_ ?_ | (intro h; first | exact Bool.noConfusion h | exact nz _ h | exact nl h | (simp at h; done) | (simp at h; first | (exfalso; omega) | skip) | skip) | (refine (?_ : srcLen _ = rowsLen _); rfl) | refine eqv_wrap (by omega) (by omega) ?_ | (refine (?_ : _ ≤ 140737488355328); simp [rowsLen] <;> omega) | (refine (?_ : _ ≤ 9223372036854775807); simp [rowsLen] <;> omega) | (refine (?_ : _ = rowsLen _); simp [rowsLen] <;> omega) | (change vcFun _ _ _ _ _; refine call_one2 0 rfl (by assumption) (by assumption) (by omega) (by omega) ?_; intro bq kq hkq) | fail)
                    all_goals first
                      | (exfalso; omega)
                      | skip
                    · exact ⟨(u + 1, kq, h0 :: (chs ++ [Charge.mk (u : Int) cn])), ⟨by show u + 1 ≤ _; omega, hkq, u3.app (by omega) (hcn.elim (fun h => by omega) id)⟩, (by show _ - (u + 1) < _; omega), back [0, 1, 2, 3, 4, 5, 8] rfl rfl (by repeat' (first | exact trivial | exact rfl | refine And.intro ?_ ?_)) (by repeat' (first | exact trivial | exact rfl | refine And.intro ?_ ?_))⟩
                    · exact ⟨(u + 1, kq, h0 :: chs), ⟨by show u + 1 ≤ _; omega, hkq, u3.skip⟩, (by show _ - (u + 1) < _; omega), back [0, 1, 2, 3, 4, 5, 6] rfl rfl (by repeat' (first | exact trivial | exact rfl | refine And.intro ?_ ?_)) (by repeat' (first | exact trivial | exact rfl | refine And.intro ?_ ?_))⟩
                    · exact ⟨(u + 1, kc, h0 :: chs), ⟨by show u + 1 ≤ _; omega, hkc, u3.skip⟩, (by show _ - (u + 1) < _; omega), back [0, 1, 2, 3, 4, 5, 6] rfl rfl (by repeat' (first | exact trivial | exact rfl | refine And.intro ?_ ?_)) (by repeat' (first | exact trivial | exact rfl | refine And.intro ?_ ?_))⟩
                  · repeat' (first | refine o1 ?_ | refine o2 ?_ | refine k1 ?_ | refine k2 ?_ | refine k3 ?_ | refine k8 ?_ | refine And.intro ?_ ?_ | (intro h; first | exact Bool.noConfusion h | exact nz _ h | exact nl h | (simp at h; done) | (simp at h; first | (exfalso; omega) | skip) | skip) | fail)
                    exact ⟨(k, ⟨⟨1 + v1, v2, v3, 1⟩, v - 1⟩, h0 :: chs), ⟨u2, u3.at_, by simp only [List.length_cons]; omega⟩, Ghost.trans (Ghost.shut (i := 5) (c := 5) (x := .ms 6 2 0 ((List.map Charge.row chs).length + 1)) rfl rfl rfl (by repeat' (first | (show 0 + _ ≤ List.length _; simp))) (show ¬ (5 ∈ ([6] : List Nat)) by decide) (ALe.pv (whole_le (f := Charge.row) (l := h0 :: chs) (by simp)))) (back [0, 1, 2, 3, 4, 5] rfl rfl (by repeat' (first | exact trivial | exact rfl | refine And.intro ?_ ?_)) (by repeat' (first | exact trivial | exact rfl | refine And.intro ?_ ?_)))⟩
              refine ⟨?_⟩
              rintro ⟨k, pl, chs⟩ ⟨f1, f2, f3⟩
              dsimp only at f1 f2 f3
              dsimp only [slP, obP, zeroM, mb, ob5, nilA, List.map, List.length_cons, List.length_nil, List.length_map]
              repeat' (first | (refine app_consm (f := Opt.row) ⟨pl, chs⟩ rfl ?_) | refine o1 ?_ | refine o2 ?_ | refine k2 ?_ | refine And.intro ?_ ?_ | (refine (?_ : srcLen _ = rowsLen _); rfl) | refine eqv_wrap (by omega) (by omega) ?_ | (refine (?_ : _ ≤ 140737488355328); simp [rowsLen] <;> omega) | (refine (?_ : _ ≤ 9223372036854775807); simp [rowsLen] <;> omega) | (refine (?_ : _ = rowsLen _); simp [rowsLen] <;> omega) | fail)
              exact ⟨(n2 - 1, k, o0 :: (ops ++ [Opt.mk pl chs])), ⟨⟨by show n2 - 1 + List.length _ ≤ 4; simp; try omega, by show 1 ≤ n2 - 1 + List.length _; simp; try omega⟩, f1, all_app (l := o0 :: ops) g3 (show OptQ r ⟨pl, chs⟩ from ⟨f2, f3⟩)⟩, (by show n2 - 1 < n2; omega), back [0, 1, 2, 3, 7] rfl rfl (by repeat' (first | exact trivial | exact rfl | refine And.intro ?_ ?_)) ⟨rfl, slot_eq rfl (congrArg (vint .i64) (by show _ = ((n2 - 1 : Nat) : Int); omega)), (by repeat' (first | exact trivial | exact rfl | refine And.intro ?_ ?_))⟩⟩
        refine ⟨?_⟩
        rintro ⟨k, ops⟩ ⟨e1, e2, e3, e4⟩
        dsimp only at e1 e2 e3 e4
        dsimp only [slP, obP, zeroM, mb, ob5, nilA, List.map, List.length_cons, List.length_nil, List.length_map]
        repeat' (first | refine o1 ?_ | refine o2 ?_ | refine k2 ?_ | refine And.intro ?_ ?_ | (intro h; first | exact Bool.noConfusion h | exact nz _ h | exact nl h | (simp at h; done) | (simp at h; first | (exfalso; omega) | skip) | skip) | (refine (?_ : srcLen _ = rowsLen _); rfl) | exact Nat.le_of_ble_eq_true rfl | refine eqv_wrap (by omega) (by omega) ?_ | refine eqv_to _ (app_first rfl) (eqv_to 1 rfl ?_) | fail)
        exact ⟨(n - 1, k, [ops]), ⟨by show n - 1 + List.length _ ≤ 5; simp; try omega, e1, all_app (l := []) c3 (show ClsQ r ops from ⟨e2, e3, e4⟩)⟩, (by show n - 1 < n; omega), back [0, 1, 2, 5] rfl rfl (by repeat' (first | exact trivial | exact rfl | refine And.intro ?_ ?_)) ⟨slot_eq rfl (congrArg (vint .i64) (by show _ = ((n - 1 : Nat) : Int); omega)), (by repeat' (first | exact trivial | exact rfl | refine And.intro ?_ ?_))⟩⟩
    · simp only [List.length_cons, List.length_nil] at c1
      dsimp only [slP, obP, zeroM, mb, ob5, nilA, List.map, List.length_cons, List.length_nil, List.length_map]
      rcases Nat.eq_zero_or_pos n with rfl | hn
      · repeat' (first | refine o1 ?_ | refine o2 ?_ | refine k1 ?_ | refine k2 ?_ | refine k3 ?_ | refine k8 ?_ | refine And.intro ?_ ?_ | (intro h; first | exact Bool.noConfusion h | exact nz _ h | exact nl h | (simp at h; done) | (simp at h; first | (exfalso; omega) | skip) | skip) | fail)
        exact ⟨(k, c0 :: cls), ⟨c2, by simp only [List.length_cons]; omega, c3⟩, Ghost.trans (Ghost.shut (i := 2) (c := 0) (x := .ms 3 1 0 ((List.map optsRow cls).length + 1)) rfl rfl rfl (by repeat' (first | (show 0 + _ ≤ List.length _; simp))) (show ¬ (2 ∈ ([3] : List Nat)) by decide) (ALe.pv (whole_le (f := optsRow) (l := c0 :: cls) (by simp)))) (back [0, 1, 2] rfl rfl (by repeat' (first | exact trivial | exact rfl | refine And.intro ?_ ?_)) (by repeat' (first | exact trivial | exact rfl | refine And.intro ?_ ?_)))⟩
      · repeat' (first | (refine join_in (a := .seq (.region 6 _ _) _) (fun x : Nat × List Opt => [(9, .pv (.sl 6 (x.2.map Opt.row)))]) (fun x => [dice t x.1, zeroM, mb (slP 3 1 (List.map optsRow (c0 :: cls))) nilA nilA r, obP 54 1 (List.map optsRow (c0 :: cls))]) (fun x => x.1 ≤ t.length ∧ 1 ≤ x.2.length ∧ x.2.length ≤ 4 ∧ ∀ o ∈ x.2, OptQ r o) ?_) | refine o1 ?_ | refine o2 ?_ | refine k1 ?_ | refine k2 ?_ | refine k3 ?_ | refine k4 ?_ | refine k6 ?_ | refine And.intro ?_ ?_ | (intro h; first | exact Bool.noConfusion h | exact nz _ h | exact nl h | (simp at h; done) | (simp at h; first | (exfalso; omega) | skip) | skip) | refine eqv_wrap (by omega) (by omega) ?_ | (change vcFun _ _ _ _ _; refine call_next 0 rfl (by assumption) (by assumption) (by omega) (by omega) ?_; intro v kq hv1 hv2 hkq) | fail)
        · refine loop_in (fun x : Nat × Nat × List Opt => [(9, slP 4 6 (List.map Opt.row (x.2.2))), (10, vint .i64 x.1)]) (fun x => [dice t x.2.1, zeroM, mb (slP 3 1 (List.map optsRow (c0 :: cls))) nilA nilA r, obP 54 1 (List.map optsRow (c0 :: cls)), obP 53 6 (List.map Opt.row (x.2.2))]) (fun x => (x.1 + x.2.2.length ≤ 4 ∧ 1 ≤ x.1 + x.2.2.length) ∧ x.2.1 ≤ t.length ∧ ∀ o ∈ x.2.2, OptQ r o) (fun x => x.1) ((1 + v).toNat, kq, []) ⟨by simp; omega, hkq, fun o ho => absurd ho List.not_mem_nil⟩ ⟨?_, ?_⟩
          · exact back [0, 1, 2, 3, 4] rfl rfl (by repeat' (first | exact trivial | exact rfl | refine And.intro ?_ ?_)) ⟨rfl, slot_eq rfl (congrArg (vint .i64) (by show _ = (((1 + v).toNat : Nat) : Int); omega)), (by repeat' (first | exact trivial | exact rfl | refine And.intro ?_ ?_))⟩
          rintro ⟨n2, k, ops⟩ ⟨g1, g2, g3⟩
          dsimp only at g1 g2 g3
          rcases ops with _ | ⟨o0, ops⟩
          · simp only [List.length_cons, List.length_nil] at g1
            dsimp only [slP, obP, zeroM, mb, ob5, nilA, List.map, List.length_cons, List.length_nil, List.length_map]
            rcases Nat.eq_zero_or_pos n2 with rfl | hn
            · repeat' (first | refine o1 ?_ | refine o2 ?_ | refine k1 ?_ | refine k2 ?_ | refine k3 ?_ | refine And.intro ?_ ?_ | (intro h; first | exact Bool.noConfusion h | exact nz _ h | exact nl h | (simp at h; done) | (simp at h; first | (exfalso; omega) | skip) | skip) | fail)
              all_goals (exfalso; omega)
            · repeat' (first | (refine join_in (a := .seq (.region 10 _ _) _) (fun _ => []) (fun x : Nat × Placed × List Charge => [dice t x.1, zeroM, mb (slP 3 1 (List.map optsRow (c0 :: cls))) nilA nilA r, obP 54 1 (List.map optsRow (c0 :: cls)), obP 53 6 (List.map Opt.row ([])), ob5 x.2.1.time.weeks x.2.1.time.day x.2.1.time.start x.2.1.time.len x.2.1.room (.pv (.sl 2 (x.2.2.map Charge.row)))]) (fun x => x.1 ≤ t.length ∧ (∀ i, i < x.2.2.length → chargeAt (mr r) x.2.2 i) ∧ x.2.2.length ≤ 4) ?_) | refine o1 ?_ | refine o2 ?_ | refine k1 ?_ | refine k2 ?_ | refine k3 ?_ | refine k4 ?_ | refine k6 ?_ | refine And.intro ?_ ?_ | (intro h; first | exact Bool.noConfusion h | exact nz _ h | exact nl h | (simp at h; done) | (simp at h; first | (exfalso; omega) | skip) | skip) | exact (by kernel_rfl : drawOk _ _ = true) | refine eqv_wrap (by omega) (by omega) ?_ | (change vcFun _ _ _ _ _; refine call_next 0 rfl (by assumption) (by assumption) (by omega) (by omega) ?_; intro v kq hv1 hv2 hkq) | fail)
              · rename_i v1 q1 a1 a2 a3 v2 q2 b1 b2 b3 v3 q3 d1 d2 d3
                refine loop_in (fun x : Nat × Nat × List Charge => [(12, vint .i64 x.1)]) (fun x => [dice t x.2.1, zeroM, mb (slP 3 1 (List.map optsRow (c0 :: cls))) nilA nilA r, obP 54 1 (List.map optsRow (c0 :: cls)), obP 53 6 (List.map Opt.row ([])), ob5 (1 + v1) v2 v3 1 (v - 1) (slP 6 2 (List.map Charge.row (x.2.2))), obP 96 2 (List.map Charge.row (x.2.2))]) (fun x => x.1 ≤ r.toNat ∧ x.2.1 ≤ t.length ∧ ChQ r x.1 x.2.2) (fun x => r.toNat - x.1) (0, kq, []) ⟨Nat.zero_le _, by assumption, ChQ.nil⟩ ⟨?_, ?_⟩
                · exact back [0, 1, 2, 3, 4, 5, 6] rfl rfl (by repeat' (first | exact trivial | exact rfl | refine And.intro ?_ ?_)) (by repeat' (first | exact trivial | exact rfl | refine And.intro ?_ ?_))
                rintro ⟨u, k, chs⟩ ⟨u1, u2, u3⟩
                dsimp only at u1 u2 u3
                have hu3 := u3.len
                rcases chs with _ | ⟨h0, chs⟩
                · simp only [List.length_cons, List.length_nil] at hu3
                  dsimp only [slP, obP, zeroM, mb, ob5, nilA, List.map, List.length_cons, List.length_nil, List.length_map]
                  rcases Nat.lt_or_ge u r.toNat with hu | hu
                  · repeat' (first | ((change vcFun _ _ _ _ _; refine call_cost 0 rfl (by assumption) (by assumption) ?_; intro cn kc hcn hkc)) | refine o1 ?_ | refine o2 ?_ | refine k1 ?_ | refine k2 ?_ | refine k3 ?_ | refine k4 ?_ | refine k6 ?_ | refine And.intro ?_ ?_ | (intro h; first | exact Bool.noConfusion h | exact nz _ h | exact nl h | (simp at h; done) | (simp at h; first | (exfalso; omega) | skip) | skip) | (refine (?_ : srcLen _ = rowsLen _); rfl) | exact Nat.le_of_ble_eq_true rfl | refine eqv_wrap (by omega) (by omega) ?_ | refine eqv_to _ (app_first rfl) (eqv_to 1 rfl ?_) | (change vcFun _ _ _ _ _; refine call_one2 0 rfl (by assumption) (by assumption) (by omega) (by omega) ?_; intro bq kq hkq) | fail)
                    all_goals first
                      | (exfalso; omega)
                      | skip
                    · exact ⟨(u + 1, kq, [Charge.mk (u : Int) cn]), ⟨by show u + 1 ≤ _; omega, hkq, u3.app (by omega) (hcn.elim (fun h => by omega) id)⟩, (by show _ - (u + 1) < _; omega), back [0, 1, 2, 3, 4, 5, 8] rfl rfl (by repeat' (first | exact trivial | exact rfl | refine And.intro ?_ ?_)) (by repeat' (first | exact trivial | exact rfl | refine And.intro ?_ ?_))⟩
                    · exact ⟨(u + 1, kq, []), ⟨by show u + 1 ≤ _; omega, hkq, u3.skip⟩, (by show _ - (u + 1) < _; omega), back [0, 1, 2, 3, 4, 5, 6] rfl rfl (by repeat' (first | exact trivial | exact rfl | refine And.intro ?_ ?_)) (by repeat' (first | exact trivial | exact rfl | refine And.intro ?_ ?_))⟩
                    · exact ⟨(u + 1, kc, []), ⟨by show u + 1 ≤ _; omega, hkc, u3.skip⟩, (by show _ - (u + 1) < _; omega), back [0, 1, 2, 3, 4, 5, 6] rfl rfl (by repeat' (first | exact trivial | exact rfl | refine And.intro ?_ ?_)) (by repeat' (first | exact trivial | exact rfl | refine And.intro ?_ ?_))⟩
                  · repeat' (first | refine o1 ?_ | refine o2 ?_ | refine k1 ?_ | refine k2 ?_ | refine k3 ?_ | refine k8 ?_ | refine And.intro ?_ ?_ | (intro h; first | exact Bool.noConfusion h | exact nz _ h | exact nl h | (simp at h; done) | (simp at h; first | (exfalso; omega) | skip) | skip) | fail)
                    exact ⟨(k, ⟨⟨1 + v1, v2, v3, 1⟩, v - 1⟩, []), ⟨u2, u3.at_, by simp⟩, Ghost.trans (Ghost.shut (i := 5) (c := 5) (x := .pv (.val (.slice none 0 0))) rfl rfl rfl (by repeat' (first | trivial)) (show ¬ (5 ∈ ([] : List Nat)) by decide) (ALe.pv PLe.nil)) (back [0, 1, 2, 3, 4, 5] rfl rfl (by repeat' (first | exact trivial | exact rfl | refine And.intro ?_ ?_)) (by repeat' (first | exact trivial | exact rfl | refine And.intro ?_ ?_)))⟩
                · simp only [List.length_cons, List.length_nil] at hu3
                  dsimp only [slP, obP, zeroM, mb, ob5, nilA, List.map, List.length_cons, List.length_nil, List.length_map]
                  rcases Nat.lt_or_ge u r.toNat with hu | hu
                  · repeat' (first | ((change vcFun _ _ _ _ _; refine call_cost 0 rfl (by assumption) (by assumption) ?_; intro cn kc hcn hkc)) | (refine app_consm (f := Charge.row) (Charge.mk (u : Int) cn) rfl ?_) | refine o1 ?_ | refine o2 ?_ | refine k1 ?_ | refine k2 ?_ | refine k3 ?_ | refine k4 ?_ | refine k6 ?_ | refine And.intro ?_ ?_ | (intro h; first | exact Bool.noConfusion h | exact nz _ h | exact nl h | (simp at h; done) | (simp at h; first | (exfalso; omega) | skip) | skip) | (refine (?_ : srcLen _ = rowsLen _); rfl) | refine eqv_wrap (by omega) (by omega) ?_ | (refine (?_ : _ ≤ 140737488355328); simp [rowsLen] <;> omega) | (refine (?_ : _ ≤ 9223372036854775807); simp [rowsLen] <;> omega) | (refine (?_ : _ = rowsLen _); simp [rowsLen] <;> omega) | (change vcFun _ _ _ _ _; refine call_one2 0 rfl (by assumption) (by assumption) (by omega) (by omega) ?_; intro bq kq hkq) | fail)
                    all_goals first
                      | (exfalso; omega)
                      | skip
                    · exact ⟨(u + 1, kq, h0 :: (chs ++ [Charge.mk (u : Int) cn])), ⟨by show u + 1 ≤ _; omega, hkq, u3.app (by omega) (hcn.elim (fun h => by omega) id)⟩, (by show _ - (u + 1) < _; omega), back [0, 1, 2, 3, 4, 5, 8] rfl rfl (by repeat' (first | exact trivial | exact rfl | refine And.intro ?_ ?_)) (by repeat' (first | exact trivial | exact rfl | refine And.intro ?_ ?_))⟩
                    · exact ⟨(u + 1, kq, h0 :: chs), ⟨by show u + 1 ≤ _; omega, hkq, u3.skip⟩, (by show _ - (u + 1) < _; omega), back [0, 1, 2, 3, 4, 5, 6] rfl rfl (by repeat' (first | exact trivial | exact rfl | refine And.intro ?_ ?_)) (by repeat' (first | exact trivial | exact rfl | refine And.intro ?_ ?_))⟩
                    · exact ⟨(u + 1, kc, h0 :: chs), ⟨by show u + 1 ≤ _; omega, hkc, u3.skip⟩, (by show _ - (u + 1) < _; omega), back [0, 1, 2, 3, 4, 5, 6] rfl rfl (by repeat' (first | exact trivial | exact rfl | refine And.intro ?_ ?_)) (by repeat' (first | exact trivial | exact rfl | refine And.intro ?_ ?_))⟩
                  · repeat' (first | refine o1 ?_ | refine o2 ?_ | refine k1 ?_ | refine k2 ?_ | refine k3 ?_ | refine k8 ?_ | refine And.intro ?_ ?_ | (intro h; first | exact Bool.noConfusion h | exact nz _ h | exact nl h | (simp at h; done) | (simp at h; first | (exfalso; omega) | skip) | skip) | fail)
                    exact ⟨(k, ⟨⟨1 + v1, v2, v3, 1⟩, v - 1⟩, h0 :: chs), ⟨u2, u3.at_, by simp only [List.length_cons]; omega⟩, Ghost.trans (Ghost.shut (i := 5) (c := 5) (x := .ms 6 2 0 ((List.map Charge.row chs).length + 1)) rfl rfl rfl (by repeat' (first | (show 0 + _ ≤ List.length _; simp))) (show ¬ (5 ∈ ([6] : List Nat)) by decide) (ALe.pv (whole_le (f := Charge.row) (l := h0 :: chs) (by simp)))) (back [0, 1, 2, 3, 4, 5] rfl rfl (by repeat' (first | exact trivial | exact rfl | refine And.intro ?_ ?_)) (by repeat' (first | exact trivial | exact rfl | refine And.intro ?_ ?_)))⟩
              refine ⟨?_⟩
              rintro ⟨k, pl, chs⟩ ⟨f1, f2, f3⟩
              dsimp only at f1 f2 f3
              dsimp only [slP, obP, zeroM, mb, ob5, nilA, List.map, List.length_cons, List.length_nil, List.length_map]
              repeat' (first | refine o1 ?_ | refine o2 ?_ | refine k2 ?_ | refine And.intro ?_ ?_ | (intro h; first | exact Bool.noConfusion h | exact nz _ h | exact nl h | (simp at h; done) | (simp at h; first | (exfalso; omega) | skip) | skip) | (refine (?_ : srcLen _ = rowsLen _); rfl) | exact Nat.le_of_ble_eq_true rfl | refine eqv_wrap (by omega) (by omega) ?_ | refine eqv_to _ (app_first rfl) (eqv_to 1 rfl ?_) | fail)
              exact ⟨(n2 - 1, k, [Opt.mk pl chs]), ⟨⟨by show n2 - 1 + List.length _ ≤ 4; simp; try omega, by show 1 ≤ n2 - 1 + List.length _; simp; try omega⟩, f1, all_app (l := []) g3 (show OptQ r ⟨pl, chs⟩ from ⟨f2, f3⟩)⟩, (by show n2 - 1 < n2; omega), back [0, 1, 2, 3, 7] rfl rfl (by repeat' (first | exact trivial | exact rfl | refine And.intro ?_ ?_)) ⟨rfl, slot_eq rfl (congrArg (vint .i64) (by show _ = ((n2 - 1 : Nat) : Int); omega)), (by repeat' (first | exact trivial | exact rfl | refine And.intro ?_ ?_))⟩⟩
          · simp only [List.length_cons, List.length_nil] at g1
            dsimp only [slP, obP, zeroM, mb, ob5, nilA, List.map, List.length_cons, List.length_nil, List.length_map]
            rcases Nat.eq_zero_or_pos n2 with rfl | hn
            · repeat' (first | refine o1 ?_ | refine o2 ?_ | refine k1 ?_ | refine k2 ?_ | refine k3 ?_ | refine k8 ?_ | refine And.intro ?_ ?_ | (intro h; first | exact Bool.noConfusion h | exact nz _ h | exact nl h | (simp at h; done) | (simp at h; first | (exfalso; omega) | skip) | skip) | fail)
              exact ⟨(k, o0 :: ops), ⟨g2, by simp; try omega, by simp only [List.length_cons]; omega, g3⟩, Ghost.trans (Ghost.freeze (s := 9) rfl rfl (by repeat' (first | (show 0 + _ ≤ List.length _; simp)))) (Ghost.trans (Ghost.weak (s := 9) rfl (ALe.pv (whole_le (f := Opt.row) (l := o0 :: ops) (n := (List.map Opt.row ops).length + 1) (by simp)))) (back [0, 1, 2, 3] rfl rfl (by repeat' (first | exact trivial | exact rfl | refine And.intro ?_ ?_)) (by repeat' (first | exact trivial | exact rfl | refine And.intro ?_ ?_))))⟩
            · repeat' (first | (refine join_in (a := .seq (.region 10 _ _) _) (fun _ => []) (fun x : Nat × Placed × List Charge => [dice t x.1, zeroM, mb (slP 3 1 (List.map optsRow (c0 :: cls))) nilA nilA r, obP 54 1 (List.map optsRow (c0 :: cls)), obP 53 6 (List.map Opt.row (o0 :: ops)), ob5 x.2.1.time.weeks x.2.1.time.day x.2.1.time.start x.2.1.time.len x.2.1.room (.pv (.sl 2 (x.2.2.map Charge.row)))]) (fun x => x.1 ≤ t.length ∧ (∀ i, i < x.2.2.length → chargeAt (mr r) x.2.2 i) ∧ x.2.2.length ≤ 4) ?_) | refine o1 ?_ | refine o2 ?_ | refine k1 ?_ | refine k2 ?_ | refine k3 ?_ | refine k4 ?_ | refine k6 ?_ | refine And.intro ?_ ?_ | (intro h; first | exact Bool.noConfusion h | exact nz _ h | exact nl h | (simp at h; done) | (simp at h; first | (exfalso; omega) | skip) | skip) | exact (by kernel_rfl : drawOk _ _ = true) | refine eqv_wrap (by omega) (by omega) ?_ | (change vcFun _ _ _ _ _; refine call_next 0 rfl (by assumption) (by assumption) (by omega) (by omega) ?_; intro v kq hv1 hv2 hkq) | fail)
              · rename_i v1 q1 a1 a2 a3 v2 q2 b1 b2 b3 v3 q3 d1 d2 d3
                refine loop_in (fun x : Nat × Nat × List Charge => [(12, vint .i64 x.1)]) (fun x => [dice t x.2.1, zeroM, mb (slP 3 1 (List.map optsRow (c0 :: cls))) nilA nilA r, obP 54 1 (List.map optsRow (c0 :: cls)), obP 53 6 (List.map Opt.row (o0 :: ops)), ob5 (1 + v1) v2 v3 1 (v - 1) (slP 6 2 (List.map Charge.row (x.2.2))), obP 96 2 (List.map Charge.row (x.2.2))]) (fun x => x.1 ≤ r.toNat ∧ x.2.1 ≤ t.length ∧ ChQ r x.1 x.2.2) (fun x => r.toNat - x.1) (0, kq, []) ⟨Nat.zero_le _, by assumption, ChQ.nil⟩ ⟨?_, ?_⟩
                · exact back [0, 1, 2, 3, 4, 5, 6] rfl rfl (by repeat' (first | exact trivial | exact rfl | refine And.intro ?_ ?_)) (by repeat' (first | exact trivial | exact rfl | refine And.intro ?_ ?_))
                rintro ⟨u, k, chs⟩ ⟨u1, u2, u3⟩
                dsimp only at u1 u2 u3
                have hu3 := u3.len
                rcases chs with _ | ⟨h0, chs⟩
                · simp only [List.length_cons, List.length_nil] at hu3
                  dsimp only [slP, obP, zeroM, mb, ob5, nilA, List.map, List.length_cons, List.length_nil, List.length_map]
                  rcases Nat.lt_or_ge u r.toNat with hu | hu
                  · repeat' (first | ((change vcFun _ _ _ _ _; refine call_cost 0 rfl (by assumption) (by assumption) ?_; intro cn kc hcn hkc)) | refine o1 ?_ | refine o2 ?_ | refine k1 ?_ | refine k2 ?_ | refine k3 ?_ | refine k4 ?_ | refine k6 ?_ | refine And.intro ?_ ?_ | (intro h; first | exact Bool.noConfusion h | exact nz _ h | exact nl h | (simp at h; done) | (simp at h; first | (exfalso; omega) | skip) | skip) | (refine (?_ : srcLen _ = rowsLen _); rfl) | exact Nat.le_of_ble_eq_true rfl | refine eqv_wrap (by omega) (by omega) ?_ | refine eqv_to _ (app_first rfl) (eqv_to 1 rfl ?_) | (change vcFun _ _ _ _ _; refine call_one2 0 rfl (by assumption) (by assumption) (by omega) (by omega) ?_; intro bq kq hkq) | fail)
                    all_goals first
                      | (exfalso; omega)
                      | skip
                    · exact ⟨(u + 1, kq, [Charge.mk (u : Int) cn]), ⟨by show u + 1 ≤ _; omega, hkq, u3.app (by omega) (hcn.elim (fun h => by omega) id)⟩, (by show _ - (u + 1) < _; omega), back [0, 1, 2, 3, 4, 5, 8] rfl rfl (by repeat' (first | exact trivial | exact rfl | refine And.intro ?_ ?_)) (by repeat' (first | exact trivial | exact rfl | refine And.intro ?_ ?_))⟩
                    · exact ⟨(u + 1, kq, []), ⟨by show u + 1 ≤ _; omega, hkq, u3.skip⟩, (by show _ - (u + 1) < _; omega), back [0, 1, 2, 3, 4, 5, 6] rfl rfl (by repeat' (first | exact trivial | exact rfl | refine And.intro ?_ ?_)) (by repeat' (first | exact trivial | exact rfl | refine And.intro ?_ ?_))⟩
                    · exact ⟨(u + 1, kc, []), ⟨by show u + 1 ≤ _; omega, hkc, u3.skip⟩, (by show _ - (u + 1) < _; omega), back [0, 1, 2, 3, 4, 5, 6] rfl rfl (by repeat' (first | exact trivial | exact rfl | refine And.intro ?_ ?_)) (by repeat' (first | exact trivial | exact rfl | refine And.intro ?_ ?_))⟩
                  · repeat' (first | refine o1 ?_ | refine o2 ?_ | refine k1 ?_ | refine k2 ?_ | refine k3 ?_ | refine k8 ?_ | refine And.intro ?_ ?_ | (intro h; first | exact Bool.noConfusion h | exact nz _ h | exact nl h | (simp at h; done) | (simp at h; first | (exfalso; omega) | skip) | skip) | fail)
                    exact ⟨(k, ⟨⟨1 + v1, v2, v3, 1⟩, v - 1⟩, []), ⟨u2, u3.at_, by simp⟩, Ghost.trans (Ghost.shut (i := 5) (c := 5) (x := .pv (.val (.slice none 0 0))) rfl rfl rfl (by repeat' (first | trivial)) (show ¬ (5 ∈ ([] : List Nat)) by decide) (ALe.pv PLe.nil)) (back [0, 1, 2, 3, 4, 5] rfl rfl (by repeat' (first | exact trivial | exact rfl | refine And.intro ?_ ?_)) (by repeat' (first | exact trivial | exact rfl | refine And.intro ?_ ?_)))⟩
                · simp only [List.length_cons, List.length_nil] at hu3
                  dsimp only [slP, obP, zeroM, mb, ob5, nilA, List.map, List.length_cons, List.length_nil, List.length_map]
                  rcases Nat.lt_or_ge u r.toNat with hu | hu
                  · repeat' (first | ((change vcFun _ _ _ _ _; refine call_cost 0 rfl (by assumption) (by assumption) ?_; intro cn kc hcn hkc)) | (refine app_consm (f := Charge.row) (Charge.mk (u : Int) cn) rfl ?_) | refine o1 ?_ | refine o2 ?_ | refine k1 ?_ | refine k2 ?_ | refine k3 ?_ | refine k4 ?_ | refine k6 ?_ | refine And.intro ?_ ?_ | (intro h; first | exact Bool.noConfusion h | exact nz _ h | exact nl h | (simp at h; done) | (simp at h; first | (exfalso; omega) | skip) | skip) | (refine (?_ : srcLen _ = rowsLen _); rfl) | refine eqv_wrap (by omega) (by omega) ?_ | (refine (?_ : _ ≤ 140737488355328); simp [rowsLen] <;> omega) | (refine (?_ : _ ≤ 9223372036854775807); simp [rowsLen] <;> omega) | (refine (?_ : _ = rowsLen _); simp [rowsLen] <;> omega) | (change vcFun _ _ _ _ _; refine call_one2 0 rfl (by assumption) (by assumption) (by omega) (by omega) ?_; intro bq kq hkq) | fail)
                    all_goals first
                      | (exfalso; omega)
                      | skip
                    · exact ⟨(u + 1, kq, h0 :: (chs ++ [Charge.mk (u : Int) cn])), ⟨by show u + 1 ≤ _; omega, hkq, u3.app (by omega) (hcn.elim (fun h => by omega) id)⟩, (by show _ - (u + 1) < _; omega), back [0, 1, 2, 3, 4, 5, 8] rfl rfl (by repeat' (first | exact trivial | exact rfl | refine And.intro ?_ ?_)) (by repeat' (first | exact trivial | exact rfl | refine And.intro ?_ ?_))⟩
                    · exact ⟨(u + 1, kq, h0 :: chs), ⟨by show u + 1 ≤ _; omega, hkq, u3.skip⟩, (by show _ - (u + 1) < _; omega), back [0, 1, 2, 3, 4, 5, 6] rfl rfl (by repeat' (first | exact trivial | exact rfl | refine And.intro ?_ ?_)) (by repeat' (first | exact trivial | exact rfl | refine And.intro ?_ ?_))⟩
                    · exact ⟨(u + 1, kc, h0 :: chs), ⟨by show u + 1 ≤ _; omega, hkc, u3.skip⟩, (by show _ - (u + 1) < _; omega), back [0, 1, 2, 3, 4, 5, 6] rfl rfl (by repeat' (first | exact trivial | exact rfl | refine And.intro ?_ ?_)) (by repeat' (first | exact trivial | exact rfl | refine And.intro ?_ ?_))⟩
                  · repeat' (first | refine o1 ?_ | refine o2 ?_ | refine k1 ?_ | refine k2 ?_ | refine k3 ?_ | refine k8 ?_ | refine And.intro ?_ ?_ | (intro h; first | exact Bool.noConfusion h | exact nz _ h | exact nl h | (simp at h; done) | (simp at h; first | (exfalso; omega) | skip) | skip) | fail)
                    exact ⟨(k, ⟨⟨1 + v1, v2, v3, 1⟩, v - 1⟩, h0 :: chs), ⟨u2, u3.at_, by simp only [List.length_cons]; omega⟩, Ghost.trans (Ghost.shut (i := 5) (c := 5) (x := .ms 6 2 0 ((List.map Charge.row chs).length + 1)) rfl rfl rfl (by repeat' (first | (show 0 + _ ≤ List.length _; simp))) (show ¬ (5 ∈ ([6] : List Nat)) by decide) (ALe.pv (whole_le (f := Charge.row) (l := h0 :: chs) (by simp)))) (back [0, 1, 2, 3, 4, 5] rfl rfl (by repeat' (first | exact trivial | exact rfl | refine And.intro ?_ ?_)) (by repeat' (first | exact trivial | exact rfl | refine And.intro ?_ ?_)))⟩
              refine ⟨?_⟩
              rintro ⟨k, pl, chs⟩ ⟨f1, f2, f3⟩
              dsimp only at f1 f2 f3
              dsimp only [slP, obP, zeroM, mb, ob5, nilA, List.map, List.length_cons, List.length_nil, List.length_map]
              repeat' (first | (refine app_consm (f := Opt.row) ⟨pl, chs⟩ rfl ?_) | refine o1 ?_ | refine o2 ?_ | refine k2 ?_ | refine And.intro ?_ ?_ | (refine (?_ : srcLen _ = rowsLen _); rfl) | refine eqv_wrap (by omega) (by omega) ?_ | (refine (?_ : _ ≤ 140737488355328); simp [rowsLen] <;> omega) | (refine (?_ : _ ≤ 9223372036854775807); simp [rowsLen] <;> omega) | (refine (?_ : _ = rowsLen _); simp [rowsLen] <;> omega) | fail)
              exact ⟨(n2 - 1, k, o0 :: (ops ++ [Opt.mk pl chs])), ⟨⟨by show n2 - 1 + List.length _ ≤ 4; simp; try omega, by show 1 ≤ n2 - 1 + List.length _; simp; try omega⟩, f1, all_app (l := o0 :: ops) g3 (show OptQ r ⟨pl, chs⟩ from ⟨f2, f3⟩)⟩, (by show n2 - 1 < n2; omega), back [0, 1, 2, 3, 7] rfl rfl (by repeat' (first | exact trivial | exact rfl | refine And.intro ?_ ?_)) ⟨rfl, slot_eq rfl (congrArg (vint .i64) (by show _ = ((n2 - 1 : Nat) : Int); omega)), (by repeat' (first | exact trivial | exact rfl | refine And.intro ?_ ?_))⟩⟩
        refine ⟨?_⟩
        rintro ⟨k, ops⟩ ⟨e1, e2, e3, e4⟩
        dsimp only at e1 e2 e3 e4
        dsimp only [slP, obP, zeroM, mb, ob5, nilA, List.map, List.length_cons, List.length_nil, List.length_map]
        repeat' (first | (refine app_consm (f := optsRow) ops rfl ?_) | refine o1 ?_ | refine o2 ?_ | refine k2 ?_ | refine And.intro ?_ ?_ | (refine (?_ : srcLen _ = rowsLen _); rfl) | refine eqv_wrap (by omega) (by omega) ?_ | (refine (?_ : _ ≤ 140737488355328); simp [rowsLen] <;> omega) | (refine (?_ : _ ≤ 9223372036854775807); simp [rowsLen] <;> omega) | (refine (?_ : _ = rowsLen _); simp [rowsLen] <;> omega) | fail)
        exact ⟨(n - 1, k, c0 :: (cls ++ [ops])), ⟨by show n - 1 + List.length _ ≤ 5; simp; try omega, e1, all_app (l := c0 :: cls) c3 (show ClsQ r ops from ⟨e2, e3, e4⟩)⟩, (by show n - 1 < n; omega), back [0, 1, 2, 5] rfl rfl (by repeat' (first | exact trivial | exact rfl | refine And.intro ?_ ?_)) ⟨slot_eq rfl (congrArg (vint .i64) (by show _ = ((n - 1 : Nat) : Int); omega)), (by repeat' (first | exact trivial | exact rfl | refine And.intro ?_ ?_))⟩⟩
  · exact later
end Go.Proofs.YtfdjcpodkhpgcaaGreat.Cw

/-
  Made models: the walk, pairs.
-/
namespace Go.Proofs.YtfdjcpodkhpgcaaGreat.Cw
open Go.Cw Go.Proofs
set_option linter.unusedVariables false
set_option maxRecDepth 100000
set_option maxHeartbeats 30000000

theorem stageC {Q : Exit → Slots → Heap → Prop} {rest : Code} (t : List Int) (ht : t.length ≤ 400) (a b : Int) (r : Int) (r1 : 1 ≤ r) (r2 : r ≤ 4) (k : Nat) (cls : List (List Opt)) (s1 : k ≤ t.length) (s2 : cls.length ≤ 5) (hcls : ∀ l ∈ cls, ClsQ r l)
    (later : Later (∀ x : Nat × List Pair, (x.1 ≤ t.length ∧ (∀ j, j < x.2.length → pairAt ⟨cls, x.2, [], r⟩ j) ∧ x.2.length ≤ 200) → forceH [dice t x.1, zeroM, mb (.pv (.sl 1 (cls.map optsRow))) (.pv (.sl 4 (x.2.map Pair.row))) nilA r] fun H1 => xCode Tryz.prog T 199 1 rest Q ([] ++ [(7, .ptr 2 4 0 0), (6, .ptr (0 + 1) 4 0 0), (0, .ptr 0 2 0 0), (0 + 1, vint .i64 a), (0 + 1 + 1, vint .i64 b)]) H1)) :
    xCode Tryz.prog T 199 1 (.seq codeC rest) Q ([] ++ [(7, .ptr 2 4 0 0), (6, .ptr (0 + 1) 4 0 0), (0, .ptr 0 2 0 0), (0 + 1, vint .i64 a), (0 + 1 + 1, vint .i64 b)]) [dice t k, zeroM, mb (.pv (.sl 1 (cls.map optsRow))) nilA nilA r] := by
  show xCode _ _ _ _ (.seq (.seq (.region 18 _ _) _) rest) _ _ _
  dsimp only [zeroM, mb, nilA]
  repeat' (first | (refine join_in (a := .seq (.region 18 _ _) _) (fun _ => []) (fun x : Nat × List Pair => [dice t x.1, zeroM, mb (.pv (.sl 1 (cls.map optsRow))) (.pv (.sl 4 (x.2.map Pair.row))) nilA r]) (fun x => x.1 ≤ t.length ∧ (∀ j, j < x.2.length → pairAt ⟨cls, x.2, [], r⟩ j) ∧ x.2.length ≤ 200) ?_) | refine o1 ?_ | refine o2 ?_ | refine k1 ?_ | refine k2 ?_ | refine k4 ?_ | refine And.intro ?_ ?_ | fail)
  · refine loop_in (fun x : Nat × Nat × List Pair => [(14, vint .i64 x.1)]) (fun x => [dice t x.2.1, zeroM, mb (.pv (.sl 1 (cls.map optsRow))) (slP 3 4 (List.map Pair.row (x.2.2))) nilA r, obP 82 4 (List.map Pair.row (x.2.2))]) (fun x => x.1 ≤ r.toNat ∧ x.2.1 ≤ t.length ∧ PrQ cls r x.2.2 x.1 0 0) (fun x => r.toNat - x.1) (0, k, []) ⟨Nat.zero_le _, s1, PrQ.nil⟩ ⟨?_, ?_⟩
    · exact back [0, 1, 2, 3] rfl rfl (by repeat' (first | exact trivial | exact rfl | refine And.intro ?_ ?_)) (by repeat' (first | exact trivial | exact rfl | refine And.intro ?_ ?_))
    rintro ⟨u, k, prs⟩ ⟨u1, u2, u3⟩
    dsimp only at u1 u2 u3
    have ul := u3.len
    rcases prs with _ | ⟨p0, prs⟩
    · simp only [List.length_cons, List.length_nil] at ul
      dsimp only [slP, obP, zeroM, mb, ob5, pb4, nilA, List.map, List.length_cons, List.length_nil, List.length_map]
      rcases Nat.lt_or_ge u r.toNat with hu | hu
      · have hu1 : (u : Int) < r := by omega
        repeat' (first | refine o1 ?_ | refine o2 ?_ | refine k1 ?_ | refine k2 ?_ | refine k3 ?_ | refine k4 ?_ | refine k6 ?_ | refine And.intro ?_ ?_ | (intro h; first | exact Bool.noConfusion h | exact nz _ h | exact nl h | (simp at h; done) | (simp at h; first | (exfalso; omega) | skip) | skip) | fail)
        refine loop_in (fun x : Nat × Nat × List Pair => [(15, vint .i64 x.1)]) (fun x => [dice t x.2.1, zeroM, mb (.pv (.sl 1 (cls.map optsRow))) (slP 3 4 (List.map Pair.row (x.2.2))) nilA r, obP 82 4 (List.map Pair.row (x.2.2))]) (fun x => x.1 ≤ cls.length ∧ x.2.1 ≤ t.length ∧ PrQ cls r x.2.2 u x.1 0) (fun x => cls.length - x.1) (0, k, []) ⟨Nat.zero_le _, u2, u3⟩ ⟨?_, ?_⟩
        · exact back [0, 1, 2, 3] rfl rfl (by repeat' (first | exact trivial | exact rfl | refine And.intro ?_ ?_)) (by repeat' (first | exact trivial | exact rfl | refine And.intro ?_ ?_))
        rintro ⟨i, k, prs⟩ ⟨i1, i2, i3⟩
        dsimp only at i1 i2 i3
        have il := i3.len
        rcases Nat.lt_or_ge i cls.length with hi1 | hi1
        · rcases prs with _ | ⟨p0, prs⟩
          · dsimp only [slP, obP, zeroM, mb, ob5, pb4, nilA, List.map, List.length_cons, List.length_nil, List.length_map]
            repeat' (first | refine o1 ?_ | refine o2 ?_ | refine k1 ?_ | refine k2 ?_ | refine k3 ?_ | refine k4 ?_ | refine k6 ?_ | refine And.intro ?_ ?_ | (intro h; first | exact Bool.noConfusion h | exact nz _ h | exact nl h | (simp at h; done) | (simp at h; first | (exfalso; omega) | skip) | skip) | refine eqv_len_map ?_ | refine eqv_wrap (by omega) (by omega) ?_ | fail)
            refine loop_in (fun x : Nat × Nat × List Pair => [(16, vint .i64 x.1)]) (fun x => [dice t x.2.1, zeroM, mb (.pv (.sl 1 (cls.map optsRow))) (slP 3 4 (List.map Pair.row (x.2.2))) nilA r, obP 82 4 (List.map Pair.row (x.2.2))]) (fun x => (i < x.1 ∧ x.1 ≤ cls.length) ∧ x.2.1 ≤ t.length ∧ PrQ cls r x.2.2 u i x.1) (fun x => cls.length - x.1) (i + 1, k, []) ⟨⟨by dsimp only; omega, by dsimp only; omega⟩, i2, i3.toK⟩ ⟨?_, ?_⟩
            · exact back [0, 1, 2, 3] rfl rfl (by repeat' (first | exact trivial | exact rfl | refine And.intro ?_ ?_)) (by repeat' (first | exact trivial | exact rfl | refine And.intro ?_ ?_))
            rintro ⟨kk, k, prs⟩ ⟨⟨j0, j1⟩, j2, j3⟩
            dsimp only at j0 j1 j2 j3
            have jl := j3.len
            rcases prs with _ | ⟨p0, prs⟩
            · simp only [List.length_cons, List.length_nil] at jl
              dsimp only [slP, obP, zeroM, mb, ob5, pb4, nilA, List.map, List.length_cons, List.length_nil, List.length_map]
              rcases Nat.lt_or_ge kk cls.length with hkk | hkk
              · obtain ⟨la, hla⟩ := getE hi1
                obtain ⟨lb, hlb⟩ := getE hkk
                have hq1 := hcls la (List.mem_of_getElem? hla)
                have hq2 := hcls lb (List.mem_of_getElem? hlb)
                have hab : la.length * lb.length ≤ 16 := Nat.mul_le_mul hq1.2.1 hq2.2.1
                have hcast : ((la.length * lb.length : Nat) : Int) = (la.length : Int) * lb.length := by simp
                have hab1 : (la.length : Int) * lb.length ≤ 16 := by omega
                have hab0 : (0 : Int) ≤ (la.length : Int) * lb.length := by omega
                repeat' (first | (refine idx_sl (k := i) (at_map hla) (by omega) ?_) | (refine idx_sl (k := kk) (at_map hlb) (by omega) ?_) | (refine join_in (a := .seq (.region 29 _ _) _) (fun _ => []) (fun x : Nat × List Int => [dice t x.1, zeroM, mb (.pv (.sl 1 (cls.map optsRow))) (slP 3 4 (List.map Pair.row ([]))) nilA r, obP 82 4 (List.map Pair.row ([])), pb4 i kk u (.pv (encInts x.2))]) (fun x => x.1 ≤ t.length ∧ x.2.length = la.length * lb.length ∧ ∀ y ∈ x.2, y = 0 ∨ priceP y) ?_) | refine o1 ?_ | refine o2 ?_ | refine k1 ?_ | refine k2 ?_ | refine k3 ?_ | refine k4 ?_ | refine k6 ?_ | refine And.intro ?_ ?_ | refine o3 ?_ | refine o4 ?_ | (intro h; first | exact Bool.noConfusion h | exact nz _ h | exact nl h | (simp at h; done) | (simp at h; first | (exfalso; omega) | skip) | skip) | exact (by kernel_rfl : drawOk _ _ = true) | refine eqv_len_map ?_ | refine eqv_wrap (by omega) (by omega) ?_ | (change vcFun _ _ _ _ _; refine call_one2 0 rfl (by assumption) (by assumption) (by omega) (by omega) ?_; intro bq kq hkq) | fail)
                · refine loop_in (fun x : Nat × Nat × List Int => [(18, vint .i64 x.1)]) (fun x => [dice t x.2.1, zeroM, mb (.pv (.sl 1 (cls.map optsRow))) (slP 3 4 (List.map Pair.row ([]))) nilA r, obP 82 4 (List.map Pair.row ([])), pb4 i kk u (slP 5 1 (List.map (fun n => [ei n]) (x.2.2))), obP 3 1 (List.map (fun n => [ei n]) (x.2.2))]) (fun x => x.1 + x.2.2.length = la.length * lb.length ∧ x.2.1 ≤ t.length ∧ ∀ y ∈ x.2.2, y = 0 ∨ priceP y) (fun x => x.1) (la.length * lb.length, kq, []) ⟨by simp, hkq, fun y hy => absurd hy List.not_mem_nil⟩ ⟨?_, ?_⟩
                  · exact back [0, 1, 2, 3, 4, 5] rfl rfl (by repeat' (first | exact trivial | exact rfl | refine And.intro ?_ ?_)) ⟨slot_eq rfl (congrArg (vint .i64) hcast.symm), (by repeat' (first | exact trivial | exact rfl | refine And.intro ?_ ?_))⟩
                  rintro ⟨j, k, tb⟩ ⟨t1, t2, t3⟩
                  dsimp only at t1 t2 t3
                  rcases tb with _ | ⟨b0, tb⟩
                  · simp only [List.length_cons, List.length_nil] at t1
                    dsimp only [slP, obP, zeroM, mb, ob5, pb4, nilA, List.map, List.length_cons, List.length_nil, List.length_map]
                    rcases Nat.eq_zero_or_pos j with rfl | hj
                    · repeat' (first | refine o1 ?_ | refine o2 ?_ | refine k1 ?_ | refine k2 ?_ | refine k3 ?_ | refine k8 ?_ | refine And.intro ?_ ?_ | (intro h; first | exact Bool.noConfusion h | exact nz _ h | exact nl h | (simp at h; done) | (simp at h; first | (exfalso; omega) | skip) | skip) | fail)
                      exact ⟨(k, []), ⟨t2, by simp; omega, t3⟩, Ghost.trans (Ghost.shut (i := 4) (c := 3) (x := .pv (.val (.slice none 0 0))) rfl rfl rfl (by repeat' (first | trivial)) (show ¬ (4 ∈ ([] : List Nat)) by decide) (ALe.pv PLe.nil)) (back [0, 1, 2, 3, 4] rfl rfl (by repeat' (first | exact trivial | exact rfl | refine And.intro ?_ ?_)) (by repeat' (first | exact trivial | exact rfl | refine And.intro ?_ ?_)))⟩
                    · repeat' (first | ((change vcFunD _ _ _ _ _; refine callD_cost 0 rfl (by assumption) (by assumption) ?_; intro cn kc hcn hkc)) | refine o1 ?_ | refine o2 ?_ | refine k1 ?_ | refine k2 ?_ | refine k3 ?_ | refine k4 ?_ | refine k6 ?_ | refine And.intro ?_ ?_ | refine o3 ?_ | refine o4 ?_ | (intro h; first | exact Bool.noConfusion h | exact nz _ h | exact nl h | (simp at h; done) | (simp at h; first | (exfalso; omega) | skip) | skip) | (refine (?_ : srcLen _ = rowsLen _); rfl) | exact Nat.le_of_ble_eq_true rfl | exact (by kernel_rfl : drawOk _ _ = true) | refine eqv_wrap (by omega) (by omega) ?_ | refine eqv_to _ (app_first rfl) (eqv_to 1 rfl ?_) | fail)
                      exact ⟨(j - 1, kc, [cn]), ⟨by show j - 1 + List.length _ = _; simp; try omega, hkc, all_app (l := []) t3 hcn⟩, (by show j - 1 < j; omega), back [0, 1, 2, 3, 4, 7] rfl rfl (by repeat' (first | exact trivial | exact rfl | refine And.intro ?_ ?_)) ⟨slot_eq rfl (congrArg (vint .i64) (by show _ = ((j - 1 : Nat) : Int); omega)), (by repeat' (first | exact trivial | exact rfl | refine And.intro ?_ ?_))⟩⟩
                  · simp only [List.length_cons, List.length_nil] at t1
                    dsimp only [slP, obP, zeroM, mb, ob5, pb4, nilA, List.map, List.length_cons, List.length_nil, List.length_map]
                    rcases Nat.eq_zero_or_pos j with rfl | hj
                    · repeat' (first | refine o1 ?_ | refine o2 ?_ | refine k1 ?_ | refine k2 ?_ | refine k3 ?_ | refine k8 ?_ | refine And.intro ?_ ?_ | (intro h; first | exact Bool.noConfusion h | exact nz _ h | exact nl h | (simp at h; done) | (simp at h; first | (exfalso; omega) | skip) | skip) | fail)
                      exact ⟨(k, b0 :: tb), ⟨t2, by simp only [List.length_cons]; omega, t3⟩, Ghost.trans (Ghost.shut (i := 4) (c := 3) (x := .ms 5 1 0 ((List.map (fun n => [ei n]) tb).length + 1)) rfl rfl rfl (by repeat' (first | (show 0 + _ ≤ List.length _; simp))) (show ¬ (4 ∈ ([5] : List Nat)) by decide) (ALe.pv (whole_le (f := fun n => [ei n]) (l := b0 :: tb) (by simp)))) (back [0, 1, 2, 3, 4] rfl rfl (by repeat' (first | exact trivial | exact rfl | refine And.intro ?_ ?_)) (by repeat' (first | exact trivial | exact rfl | refine And.intro ?_ ?_)))⟩
                    · repeat' (first | ((change vcFunD _ _ _ _ _; refine callD_cost 0 rfl (by assumption) (by assumption) ?_; intro cn kc hcn hkc)) | (refine app_consm (f := fun n => [ei n]) cn rfl ?_) | refine o1 ?_ | refine o2 ?_ | refine k1 ?_ | refine k2 ?_ | refine k3 ?_ | refine k4 ?_ | refine k6 ?_ | refine And.intro ?_ ?_ | refine o3 ?_ | refine o4 ?_ | (intro h; first | exact Bool.noConfusion h | exact nz _ h | exact nl h | (simp at h; done) | (simp at h; first | (exfalso; omega) | skip) | skip) | (refine (?_ : srcLen _ = rowsLen _); rfl) | exact (by kernel_rfl : drawOk _ _ = true) | refine eqv_wrap (by omega) (by omega) ?_ | (refine (?_ : _ ≤ 140737488355328); simp [rowsLen] <;> omega) | (refine (?_ : _ ≤ 9223372036854775807); simp [rowsLen] <;> omega) | (refine (?_ : _ = rowsLen _); simp [rowsLen] <;> omega) | fail)
                      exact ⟨(j - 1, kc, b0 :: (tb ++ [cn])), ⟨by show j - 1 + List.length _ = _; simp; try omega, hkc, all_app (l := b0 :: tb) t3 hcn⟩, (by show j - 1 < j; omega), back [0, 1, 2, 3, 4, 7] rfl rfl (by repeat' (first | exact trivial | exact rfl | refine And.intro ?_ ?_)) ⟨slot_eq rfl (congrArg (vint .i64) (by show _ = ((j - 1 : Nat) : Int); omega)), (by repeat' (first | exact trivial | exact rfl | refine And.intro ?_ ?_))⟩⟩
                · refine ⟨?_⟩
                  rintro ⟨k, tb⟩ ⟨f1, f2, f3⟩
                  dsimp only at f1 f2 f3
                  dsimp only [slP, obP, zeroM, mb, ob5, pb4, nilA, List.map, List.length_cons, List.length_nil, List.length_map]
                  repeat' (first | refine o1 ?_ | refine o2 ?_ | refine k2 ?_ | refine And.intro ?_ ?_ | (intro h; first | exact Bool.noConfusion h | exact nz _ h | exact nl h | (simp at h; done) | (simp at h; first | (exfalso; omega) | skip) | skip) | (refine (?_ : srcLen _ = rowsLen _); rfl) | exact Nat.le_of_ble_eq_true rfl | refine eqv_wrap (by omega) (by omega) ?_ | refine eqv_to _ (app_first rfl) (eqv_to 1 rfl ?_) | fail)
                  exact ⟨(kk + 1, k, [Pair.mk i kk u tb]), ⟨⟨by show i < kk + 1; omega, by show kk + 1 ≤ _; omega⟩, f1, j3.app (pair_made hla hlb j0 hu1 f2 f3)⟩, (by show _ - (kk + 1) < _; omega), back [0, 1, 2, 6] rfl rfl (by repeat' (first | exact trivial | exact rfl | refine And.intro ?_ ?_)) (by repeat' (first | exact trivial | exact rfl | refine And.intro ?_ ?_))⟩
                · exact ⟨(kk + 1, kq, []), ⟨⟨by show i < kk + 1; omega, by show kk + 1 ≤ _; omega⟩, hkq, j3.skip⟩, (by show _ - (kk + 1) < _; omega), back [0, 1, 2, 3] rfl rfl (by repeat' (first | exact trivial | exact rfl | refine And.intro ?_ ?_)) (by repeat' (first | exact trivial | exact rfl | refine And.intro ?_ ?_))⟩
              · repeat' (first | refine o1 ?_ | refine o2 ?_ | refine k1 ?_ | refine k2 ?_ | refine k3 ?_ | refine k8 ?_ | refine And.intro ?_ ?_ | (intro h; first | exact Bool.noConfusion h | exact nz _ h | exact nl h | (simp at h; done) | (simp at h; first | (exfalso; omega) | skip) | skip) | refine eqv_len_map ?_ | refine eqv_wrap (by omega) (by omega) ?_ | fail)
                exact ⟨(i + 1, k, []), ⟨by show i + 1 ≤ _; omega, j2, j3.toI (by omega)⟩, (by show _ - (i + 1) < _; omega), back [0, 1, 2, 3] rfl rfl (by repeat' (first | exact trivial | exact rfl | refine And.intro ?_ ?_)) (by repeat' (first | exact trivial | exact rfl | refine And.intro ?_ ?_))⟩
            · simp only [List.length_cons, List.length_nil] at jl
              dsimp only [slP, obP, zeroM, mb, ob5, pb4, nilA, List.map, List.length_cons, List.length_nil, List.length_map]
              rcases Nat.lt_or_ge kk cls.length with hkk | hkk
              · obtain ⟨la, hla⟩ := getE hi1
                obtain ⟨lb, hlb⟩ := getE hkk
                have hq1 := hcls la (List.mem_of_getElem? hla)
                have hq2 := hcls lb (List.mem_of_getElem? hlb)
                have hab : la.length * lb.length ≤ 16 := Nat.mul_le_mul hq1.2.1 hq2.2.1
                have hcast : ((la.length * lb.length : Nat) : Int) = (la.length : Int) * lb.length := by simp
                have hab1 : (la.length : Int) * lb.length ≤ 16 := by omega
                have hab0 : (0 : Int) ≤ (la.length : Int) * lb.length := by omega
                repeat' (first | (refine idx_sl (k := i) (at_map hla) (by omega) ?_) | (refine idx_sl (k := kk) (at_map hlb) (by omega) ?_) | (refine join_in (a := .seq (.region 29 _ _) _) (fun _ => []) (fun x : Nat × List Int => [dice t x.1, zeroM, mb (.pv (.sl 1 (cls.map optsRow))) (slP 3 4 (List.map Pair.row (p0 :: prs))) nilA r, obP 82 4 (List.map Pair.row (p0 :: prs)), pb4 i kk u (.pv (encInts x.2))]) (fun x => x.1 ≤ t.length ∧ x.2.length = la.length * lb.length ∧ ∀ y ∈ x.2, y = 0 ∨ priceP y) ?_) | refine o1 ?_ | refine o2 ?_ | refine k1 ?_ | refine k2 ?_ | refine k3 ?_ | refine k4 ?_ | refine k6 ?_ | refine And.intro ?_ ?_ | refine o3 ?_ | refine o4 ?_ | (intro h; first | exact Bool.noConfusion h | exact nz _ h | exact nl h | (simp at h; done) | (simp at h; first | (exfalso; omega) | skip) | skip) | exact (by kernel_rfl : drawOk _ _ = true) | refine eqv_len_map ?_ | refine eqv_wrap (by omega) (by omega) ?_ | (change vcFun _ _ _ _ _; refine call_one2 0 rfl (by assumption) (by assumption) (by omega) (by omega) ?_; intro bq kq hkq) | fail)
                · refine loop_in (fun x : Nat × Nat × List Int => [(18, vint .i64 x.1)]) (fun x => [dice t x.2.1, zeroM, mb (.pv (.sl 1 (cls.map optsRow))) (slP 3 4 (List.map Pair.row (p0 :: prs))) nilA r, obP 82 4 (List.map Pair.row (p0 :: prs)), pb4 i kk u (slP 5 1 (List.map (fun n => [ei n]) (x.2.2))), obP 3 1 (List.map (fun n => [ei n]) (x.2.2))]) (fun x => x.1 + x.2.2.length = la.length * lb.length ∧ x.2.1 ≤ t.length ∧ ∀ y ∈ x.2.2, y = 0 ∨ priceP y) (fun x => x.1) (la.length * lb.length, kq, []) ⟨by simp, hkq, fun y hy => absurd hy List.not_mem_nil⟩ ⟨?_, ?_⟩
                  · exact back [0, 1, 2, 3, 4, 5] rfl rfl (by repeat' (first | exact trivial | exact rfl | refine And.intro ?_ ?_)) ⟨slot_eq rfl (congrArg (vint .i64) hcast.symm), (by repeat' (first | exact trivial | exact rfl | refine And.intro ?_ ?_))⟩
                  rintro ⟨j, k, tb⟩ ⟨t1, t2, t3⟩
                  dsimp only at t1 t2 t3
                  rcases tb with _ | ⟨b0, tb⟩
                  · simp only [List.length_cons, List.length_nil] at t1
                    dsimp only [slP, obP, zeroM, mb, ob5, pb4, nilA, List.map, List.length_cons, List.length_nil, List.length_map]
                    rcases Nat.eq_zero_or_pos j with rfl | hj
                    · repeat' (first | refine o1 ?_ | refine o2 ?_ | refine k1 ?_ | refine k2 ?_ | refine k3 ?_ | refine k8 ?_ | refine And.intro ?_ ?_ | (intro h; first | exact Bool.noConfusion h | exact nz _ h | exact nl h | (simp at h; done) | (simp at h; first | (exfalso; omega) | skip) | skip) | fail)
                      exact ⟨(k, []), ⟨t2, by simp; omega, t3⟩, Ghost.trans (Ghost.shut (i := 4) (c := 3) (x := .pv (.val (.slice none 0 0))) rfl rfl rfl (by repeat' (first | trivial)) (show ¬ (4 ∈ ([] : List Nat)) by decide) (ALe.pv PLe.nil)) (back [0, 1, 2, 3, 4] rfl rfl (by repeat' (first | exact trivial | exact rfl | refine And.intro ?_ ?_)) (by repeat' (first | exact trivial | exact rfl | refine And.intro ?_ ?_)))⟩
                    · repeat' (first | ((change vcFunD _ _ _ _ _; refine callD_cost 0 rfl (by assumption) (by assumption) ?_; intro cn kc hcn hkc)) | refine o1 ?_ | refine o2 ?_ | refine k1 ?_ | refine k2 ?_ | refine k3 ?_ | refine k4 ?_ | refine k6 ?_ | refine And.intro ?_ ?_ | refine o3 ?_ | refine o4 ?_ | (intro h; first | exact Bool.noConfusion h | exact nz _ h | exact nl h | (simp at h; done) | (simp at h; first | (exfalso; omega) | skip) | skip) | (refine (?_ : srcLen _ = rowsLen _); rfl) | exact Nat.le_of_ble_eq_true rfl | exact (by kernel_rfl : drawOk _ _ = true) | refine eqv_wrap (by omega) (by omega) ?_ | refine eqv_to _ (app_first rfl) (eqv_to 1 rfl ?_) | fail)
                      exact ⟨(j - 1, kc, [cn]), ⟨by show j - 1 + List.length _ = _; simp; try omega, hkc, all_app (l := []) t3 hcn⟩, (by show j - 1 < j; omega), back [0, 1, 2, 3, 4, 7] rfl rfl (by repeat' (first | exact trivial | exact rfl | refine And.intro ?_ ?_)) ⟨slot_eq rfl (congrArg (vint .i64) (by show _ = ((j - 1 : Nat) : Int); omega)), (by repeat' (first | exact trivial | exact rfl | refine And.intro ?_ ?_))⟩⟩
                  · simp only [List.length_cons, List.length_nil] at t1
                    dsimp only [slP, obP, zeroM, mb, ob5, pb4, nilA, List.map, List.length_cons, List.length_nil, List.length_map]
                    rcases Nat.eq_zero_or_pos j with rfl | hj
                    · repeat' (first | refine o1 ?_ | refine o2 ?_ | refine k1 ?_ | refine k2 ?_ | refine k3 ?_ | refine k8 ?_ | refine And.intro ?_ ?_ | (intro h; first | exact Bool.noConfusion h | exact nz _ h | exact nl h | (simp at h; done) | (simp at h; first | (exfalso; omega) | skip) | skip) | fail)
                      exact ⟨(k, b0 :: tb), ⟨t2, by simp only [List.length_cons]; omega, t3⟩, Ghost.trans (Ghost.shut (i := 4) (c := 3) (x := .ms 5 1 0 ((List.map (fun n => [ei n]) tb).length + 1)) rfl rfl rfl (by repeat' (first | (show 0 + _ ≤ List.length _; simp))) (show ¬ (4 ∈ ([5] : List Nat)) by decide) (ALe.pv (whole_le (f := fun n => [ei n]) (l := b0 :: tb) (by simp)))) (back [0, 1, 2, 3, 4] rfl rfl (by repeat' (first | exact trivial | exact rfl | refine And.intro ?_ ?_)) (by repeat' (first | exact trivial | exact rfl | refine And.intro ?_ ?_)))⟩
                    · repeat' (first | ((change vcFunD _ _ _ _ _; refine callD_cost 0 rfl (by assumption) (by assumption) ?_; intro cn kc hcn hkc)) | (refine app_consm (f := fun n => [ei n]) cn rfl ?_) | refine o1 ?_ | refine o2 ?_ | refine k1 ?_ | refine k2 ?_ | refine k3 ?_ | refine k4 ?_ | refine k6 ?_ | refine And.intro ?_ ?_ | refine o3 ?_ | refine o4 ?_ | (intro h; first | exact Bool.noConfusion h | exact nz _ h | exact nl h | (simp at h; done) | (simp at h; first | (exfalso; omega) | skip) | skip) | (refine (?_ : srcLen _ = rowsLen _); rfl) | exact (by kernel_rfl : drawOk _ _ = true) | refine eqv_wrap (by omega) (by omega) ?_ | (refine (?_ : _ ≤ 140737488355328); simp [rowsLen] <;> omega) | (refine (?_ : _ ≤ 9223372036854775807); simp [rowsLen] <;> omega) | (refine (?_ : _ = rowsLen _); simp [rowsLen] <;> omega) | fail)
                      exact ⟨(j - 1, kc, b0 :: (tb ++ [cn])), ⟨by show j - 1 + List.length _ = _; simp; try omega, hkc, all_app (l := b0 :: tb) t3 hcn⟩, (by show j - 1 < j; omega), back [0, 1, 2, 3, 4, 7] rfl rfl (by repeat' (first | exact trivial | exact rfl | refine And.intro ?_ ?_)) ⟨slot_eq rfl (congrArg (vint .i64) (by show _ = ((j - 1 : Nat) : Int); omega)), (by repeat' (first | exact trivial | exact rfl | refine And.intro ?_ ?_))⟩⟩
                · refine ⟨?_⟩
                  rintro ⟨k, tb⟩ ⟨f1, f2, f3⟩
                  dsimp only at f1 f2 f3
                  dsimp only [slP, obP, zeroM, mb, ob5, pb4, nilA, List.map, List.length_cons, List.length_nil, List.length_map]
                  repeat' (first | (refine app_consm (f := Pair.row) (Pair.mk i kk u tb) rfl ?_) | refine o1 ?_ | refine o2 ?_ | refine k2 ?_ | refine And.intro ?_ ?_ | (refine (?_ : srcLen _ = rowsLen _); rfl) | refine eqv_wrap (by omega) (by omega) ?_ | (refine (?_ : _ ≤ 140737488355328); simp [rowsLen] <;> omega) | (refine (?_ : _ ≤ 9223372036854775807); simp [rowsLen] <;> omega) | (refine (?_ : _ = rowsLen _); simp [rowsLen] <;> omega) | fail)
                  exact ⟨(kk + 1, k, p0 :: (prs ++ [Pair.mk i kk u tb])), ⟨⟨by show i < kk + 1; omega, by show kk + 1 ≤ _; omega⟩, f1, j3.app (pair_made hla hlb j0 hu1 f2 f3)⟩, (by show _ - (kk + 1) < _; omega), back [0, 1, 2, 6] rfl rfl (by repeat' (first | exact trivial | exact rfl | refine And.intro ?_ ?_)) (by repeat' (first | exact trivial | exact rfl | refine And.intro ?_ ?_))⟩
                · exact ⟨(kk + 1, kq, p0 :: prs), ⟨⟨by show i < kk + 1; omega, by show kk + 1 ≤ _; omega⟩, hkq, j3.skip⟩, (by show _ - (kk + 1) < _; omega), back [0, 1, 2, 3] rfl rfl (by repeat' (first | exact trivial | exact rfl | refine And.intro ?_ ?_)) (by repeat' (first | exact trivial | exact rfl | refine And.intro ?_ ?_))⟩
              · repeat' (first | refine o1 ?_ | refine o2 ?_ | refine k1 ?_ | refine k2 ?_ | refine k3 ?_ | refine k8 ?_ | refine And.intro ?_ ?_ | (intro h; first | exact Bool.noConfusion h | exact nz _ h | exact nl h | (simp at h; done) | (simp at h; first | (exfalso; omega) | skip) | skip) | refine eqv_len_map ?_ | refine eqv_wrap (by omega) (by omega) ?_ | fail)
                exact ⟨(i + 1, k, p0 :: prs), ⟨by show i + 1 ≤ _; omega, j2, j3.toI (by omega)⟩, (by show _ - (i + 1) < _; omega), back [0, 1, 2, 3] rfl rfl (by repeat' (first | exact trivial | exact rfl | refine And.intro ?_ ?_)) (by repeat' (first | exact trivial | exact rfl | refine And.intro ?_ ?_))⟩
          · dsimp only [slP, obP, zeroM, mb, ob5, pb4, nilA, List.map, List.length_cons, List.length_nil, List.length_map]
            repeat' (first | refine o1 ?_ | refine o2 ?_ | refine k1 ?_ | refine k2 ?_ | refine k3 ?_ | refine k4 ?_ | refine k6 ?_ | refine And.intro ?_ ?_ | (intro h; first | exact Bool.noConfusion h | exact nz _ h | exact nl h | (simp at h; done) | (simp at h; first | (exfalso; omega) | skip) | skip) | refine eqv_len_map ?_ | refine eqv_wrap (by omega) (by omega) ?_ | fail)
            refine loop_in (fun x : Nat × Nat × List Pair => [(16, vint .i64 x.1)]) (fun x => [dice t x.2.1, zeroM, mb (.pv (.sl 1 (cls.map optsRow))) (slP 3 4 (List.map Pair.row (x.2.2))) nilA r, obP 82 4 (List.map Pair.row (x.2.2))]) (fun x => (i < x.1 ∧ x.1 ≤ cls.length) ∧ x.2.1 ≤ t.length ∧ PrQ cls r x.2.2 u i x.1) (fun x => cls.length - x.1) (i + 1, k, p0 :: prs) ⟨⟨by dsimp only; omega, by dsimp only; omega⟩, i2, i3.toK⟩ ⟨?_, ?_⟩
            · exact back [0, 1, 2, 3] rfl rfl (by repeat' (first | exact trivial | exact rfl | refine And.intro ?_ ?_)) (by repeat' (first | exact trivial | exact rfl | refine And.intro ?_ ?_))
            rintro ⟨kk, k, prs⟩ ⟨⟨j0, j1⟩, j2, j3⟩
            dsimp only at j0 j1 j2 j3
            have jl := j3.len
            rcases prs with _ | ⟨p0, prs⟩
            · simp only [List.length_cons, List.length_nil] at jl
              dsimp only [slP, obP, zeroM, mb, ob5, pb4, nilA, List.map, List.length_cons, List.length_nil, List.length_map]
              rcases Nat.lt_or_ge kk cls.length with hkk | hkk
              · obtain ⟨la, hla⟩ := getE hi1
                obtain ⟨lb, hlb⟩ := getE hkk
                have hq1 := hcls la (List.mem_of_getElem? hla)
                have hq2 := hcls lb (List.mem_of_getElem? hlb)
                have hab : la.length * lb.length ≤ 16 := Nat.mul_le_mul hq1.2.1 hq2.2.1
                have hcast : ((la.length * lb.length : Nat) : Int) = (la.length : Int) * lb.length := by simp
                have hab1 : (la.length : Int) * lb.length ≤ 16 := by omega
                have hab0 : (0 : Int) ≤ (la.length : Int) * lb.length := by omega
                repeat' (first | (refine idx_sl (k := i) (at_map hla) (by omega) ?_) | (refine idx_sl (k := kk) (at_map hlb) (by omega) ?_) | (refine join_in (a := .seq (.region 29 _ _) _) (fun _ => []) (fun x : Nat × List Int => [dice t x.1, zeroM, mb (.pv (.sl 1 (cls.map optsRow))) (slP 3 4 (List.map Pair.row ([]))) nilA r, obP 82 4 (List.map Pair.row ([])), pb4 i kk u (.pv (encInts x.2))]) (fun x => x.1 ≤ t.length ∧ x.2.length = la.length * lb.length ∧ ∀ y ∈ x.2, y = 0 ∨ priceP y) ?_) | refine o1 ?_ | refine o2 ?_ | refine k1 ?_ | refine k2 ?_ | refine k3 ?_ | refine k4 ?_ | refine k6 ?_ | refine And.intro ?_ ?_ | refine o3 ?_ | refine o4 ?_ | (intro h; first | exact Bool.noConfusion h | exact nz _ h | exact nl h | (simp at h; done) | (simp at h; first | (exfalso; omega) | skip) | skip) | exact (by kernel_rfl : drawOk _ _ = true) | refine eqv_len_map ?_ | refine eqv_wrap (by omega) (by omega) ?_ | (change vcFun _ _ _ _ _; refine call_one2 0 rfl (by assumption) (by assumption) (by omega) (by omega) ?_; intro bq kq hkq) | fail)
                · refine loop_in (fun x : Nat × Nat × List Int => [(18, vint .i64 x.1)]) (fun x => [dice t x.2.1, zeroM, mb (.pv (.sl 1 (cls.map optsRow))) (slP 3 4 (List.map Pair.row ([]))) nilA r, obP 82 4 (List.map Pair.row ([])), pb4 i kk u (slP 5 1 (List.map (fun n => [ei n]) (x.2.2))), obP 3 1 (List.map (fun n => [ei n]) (x.2.2))]) (fun x => x.1 + x.2.2.length = la.length * lb.length ∧ x.2.1 ≤ t.length ∧ ∀ y ∈ x.2.2, y = 0 ∨ priceP y) (fun x => x.1) (la.length * lb.length, kq, []) ⟨by simp, hkq, fun y hy => absurd hy List.not_mem_nil⟩ ⟨?_, ?_⟩
                  · exact back [0, 1, 2, 3, 4, 5] rfl rfl (by repeat' (first | exact trivial | exact rfl | refine And.intro ?_ ?_)) ⟨slot_eq rfl (congrArg (vint .i64) hcast.symm), (by repeat' (first | exact trivial | exact rfl | refine And.intro ?_ ?_))⟩
                  rintro ⟨j, k, tb⟩ ⟨t1, t2, t3⟩
                  dsimp only at t1 t2 t3
                  rcases tb with _ | ⟨b0, tb⟩
                  · simp only [List.length_cons, List.length_nil] at t1
                    dsimp only [slP, obP, zeroM, mb, ob5, pb4, nilA, List.map, List.length_cons, List.length_nil, List.length_map]
                    rcases Nat.eq_zero_or_pos j with rfl | hj
                    · repeat' (first | refine o1 ?_ | refine o2 ?_ | refine k1 ?_ | refine k2 ?_ | refine k3 ?_ | refine k8 ?_ | refine And.intro ?_ ?_ | (intro h; first | exact Bool.noConfusion h | exact nz _ h | exact nl h | (simp at h; done) | (simp at h; first | (exfalso; omega) | skip) | skip) | fail)
                      exact ⟨(k, []), ⟨t2, by simp; omega, t3⟩, Ghost.trans (Ghost.shut (i := 4) (c := 3) (x := .pv (.val (.slice none 0 0))) rfl rfl rfl (by repeat' (first | trivial)) (show ¬ (4 ∈ ([] : List Nat)) by decide) (ALe.pv PLe.nil)) (back [0, 1, 2, 3, 4] rfl rfl (by repeat' (first | exact trivial | exact rfl | refine And.intro ?_ ?_)) (by repeat' (first | exact trivial | exact rfl | refine And.intro ?_ ?_)))⟩
                    · repeat' (first | ((change vcFunD _ _ _ _ _; refine callD_cost 0 rfl (by assumption) (by assumption) ?_; intro cn kc hcn hkc)) | refine o1 ?_ | refine o2 ?_ | refine k1 ?_ | refine k2 ?_ | refine k3 ?_ | refine k4 ?_ | refine k6 ?_ | refine And.intro ?_ ?_ | refine o3 ?_ | refine o4 ?_ | (intro h; first | exact Bool.noConfusion h | exact nz _ h | exact nl h | (simp at h; done) | (simp at h; first | (exfalso; omega) | skip) | skip) | (refine (?_ : srcLen _ = rowsLen _); rfl) | exact Nat.le_of_ble_eq_true rfl | exact (by kernel_rfl : drawOk _ _ = true) | refine eqv_wrap (by omega) (by omega) ?_ | refine eqv_to _ (app_first rfl) (eqv_to 1 rfl ?_) | fail)
                      exact ⟨(j - 1, kc, [cn]), ⟨by show j - 1 + List.length _ = _; simp; try omega, hkc, all_app (l := []) t3 hcn⟩, (by show j - 1 < j; omega), back [0, 1, 2, 3, 4, 7] rfl rfl (by repeat' (first | exact trivial | exact rfl | refine And.intro ?_ ?_)) ⟨slot_eq rfl (congrArg (vint .i64) (by show _ = ((j - 1 : Nat) : Int); omega)), (by repeat' (first | exact trivial | exact rfl | refine And.intro ?_ ?_))⟩⟩
                  · simp only [List.length_cons, List.length_nil] at t1
                    dsimp only [slP, obP, zeroM, mb, ob5, pb4, nilA, List.map, List.length_cons, List.length_nil, List.length_map]
                    rcases Nat.eq_zero_or_pos j with rfl | hj
                    · repeat' (first | refine o1 ?_ | refine o2 ?_ | refine k1 ?_ | refine k2 ?_ | refine k3 ?_ | refine k8 ?_ | refine And.intro ?_ ?_ | (intro h; first | exact Bool.noConfusion h | exact nz _ h | exact nl h | (simp at h; done) | (simp at h; first | (exfalso; omega) | skip) | skip) | fail)
                      exact ⟨(k, b0 :: tb), ⟨t2, by simp only [List.length_cons]; omega, t3⟩, Ghost.trans (Ghost.shut (i := 4) (c := 3) (x := .ms 5 1 0 ((List.map (fun n => [ei n]) tb).length + 1)) rfl rfl rfl (by repeat' (first | (show 0 + _ ≤ List.length _; simp))) (show ¬ (4 ∈ ([5] : List Nat)) by decide) (ALe.pv (whole_le (f := fun n => [ei n]) (l := b0 :: tb) (by simp)))) (back [0, 1, 2, 3, 4] rfl rfl (by repeat' (first | exact trivial | exact rfl | refine And.intro ?_ ?_)) (by repeat' (first | exact trivial | exact rfl | refine And.intro ?_ ?_)))⟩
                    · repeat' (first | ((change vcFunD _ _ _ _ _; refine callD_cost 0 rfl (by assumption) (by assumption) ?_; intro cn kc hcn hkc)) | (refine app_consm (f := fun n => [ei n]) cn rfl ?_) | refine o1 ?_ | refine o2 ?_ | refine k1 ?_ | refine k2 ?_ | refine k3 ?_ | refine k4 ?_ | refine k6 ?_ | refine And.intro ?_ ?_ | refine o3 ?_ | refine o4 ?_ | (intro h; first | exact Bool.noConfusion h | exact nz _ h | exact nl h | (simp at h; done) | (simp at h; first | (exfalso; omega) | skip) | skip) | (refine (?_ : srcLen _ = rowsLen _); rfl) | exact (by kernel_rfl : drawOk _ _ = true) | refine eqv_wrap (by omega) (by omega) ?_ | (refine (?_ : _ ≤ 140737488355328); simp [rowsLen] <;> omega) | (refine (?_ : _ ≤ 9223372036854775807); simp [rowsLen] <;> omega) | (refine (?_ : _ = rowsLen _); simp [rowsLen] <;> omega) | fail)
                      exact ⟨(j - 1, kc, b0 :: (tb ++ [cn])), ⟨by show j - 1 + List.length _ = _; simp; try omega, hkc, all_app (l := b0 :: tb) t3 hcn⟩, (by show j - 1 < j; omega), back [0, 1, 2, 3, 4, 7] rfl rfl (by repeat' (first | exact trivial | exact rfl | refine And.intro ?_ ?_)) ⟨slot_eq rfl (congrArg (vint .i64) (by show _ = ((j - 1 : Nat) : Int); omega)), (by repeat' (first | exact trivial | exact rfl | refine And.intro ?_ ?_))⟩⟩
                · refine ⟨?_⟩
                  rintro ⟨k, tb⟩ ⟨f1, f2, f3⟩
                  dsimp only at f1 f2 f3
                  dsimp only [slP, obP, zeroM, mb, ob5, pb4, nilA, List.map, List.length_cons, List.length_nil, List.length_map]
                  repeat' (first | refine o1 ?_ | refine o2 ?_ | refine k2 ?_ | refine And.intro ?_ ?_ | (intro h; first | exact Bool.noConfusion h | exact nz _ h | exact nl h | (simp at h; done) | (simp at h; first | (exfalso; omega) | skip) | skip) | (refine (?_ : srcLen _ = rowsLen _); rfl) | exact Nat.le_of_ble_eq_true rfl | refine eqv_wrap (by omega) (by omega) ?_ | refine eqv_to _ (app_first rfl) (eqv_to 1 rfl ?_) | fail)
                  exact ⟨(kk + 1, k, [Pair.mk i kk u tb]), ⟨⟨by show i < kk + 1; omega, by show kk + 1 ≤ _; omega⟩, f1, j3.app (pair_made hla hlb j0 hu1 f2 f3)⟩, (by show _ - (kk + 1) < _; omega), back [0, 1, 2, 6] rfl rfl (by repeat' (first | exact trivial | exact rfl | refine And.intro ?_ ?_)) (by repeat' (first | exact trivial | exact rfl | refine And.intro ?_ ?_))⟩
                · exact ⟨(kk + 1, kq, []), ⟨⟨by show i < kk + 1; omega, by show kk + 1 ≤ _; omega⟩, hkq, j3.skip⟩, (by show _ - (kk + 1) < _; omega), back [0, 1, 2, 3] rfl rfl (by repeat' (first | exact trivial | exact rfl | refine And.intro ?_ ?_)) (by repeat' (first | exact trivial | exact rfl | refine And.intro ?_ ?_))⟩
              · repeat' (first | refine o1 ?_ | refine o2 ?_ | refine k1 ?_ | refine k2 ?_ | refine k3 ?_ | refine k8 ?_ | refine And.intro ?_ ?_ | (intro h; first | exact Bool.noConfusion h | exact nz _ h | exact nl h | (simp at h; done) | (simp at h; first | (exfalso; omega) | skip) | skip) | refine eqv_len_map ?_ | refine eqv_wrap (by omega) (by omega) ?_ | fail)
                exact ⟨(i + 1, k, []), ⟨by show i + 1 ≤ _; omega, j2, j3.toI (by omega)⟩, (by show _ - (i + 1) < _; omega), back [0, 1, 2, 3] rfl rfl (by repeat' (first | exact trivial | exact rfl | refine And.intro ?_ ?_)) (by repeat' (first | exact trivial | exact rfl | refine And.intro ?_ ?_))⟩
            · simp only [List.length_cons, List.length_nil] at jl
              dsimp only [slP, obP, zeroM, mb, ob5, pb4, nilA, List.map, List.length_cons, List.length_nil, List.length_map]
              rcases Nat.lt_or_ge kk cls.length with hkk | hkk
              · obtain ⟨la, hla⟩ := getE hi1
                obtain ⟨lb, hlb⟩ := getE hkk
                have hq1 := hcls la (List.mem_of_getElem? hla)
                have hq2 := hcls lb (List.mem_of_getElem? hlb)
                have hab : la.length * lb.length ≤ 16 := Nat.mul_le_mul hq1.2.1 hq2.2.1
                have hcast : ((la.length * lb.length : Nat) : Int) = (la.length : Int) * lb.length := by simp
                have hab1 : (la.length : Int) * lb.length ≤ 16 := by omega
                have hab0 : (0 : Int) ≤ (la.length : Int) * lb.length := by omega
                repeat' (first | (refine idx_sl (k := i) (at_map hla) (by omega) ?_) | (refine idx_sl (k := kk) (at_map hlb) (by omega) ?_) | (refine join_in (a := .seq (.region 29 _ _) _) (fun _ => []) (fun x : Nat × List Int => [dice t x.1, zeroM, mb (.pv (.sl 1 (cls.map optsRow))) (slP 3 4 (List.map Pair.row (p0 :: prs))) nilA r, obP 82 4 (List.map Pair.row (p0 :: prs)), pb4 i kk u (.pv (encInts x.2))]) (fun x => x.1 ≤ t.length ∧ x.2.length = la.length * lb.length ∧ ∀ y ∈ x.2, y = 0 ∨ priceP y) ?_) | refine o1 ?_ | refine o2 ?_ | refine k1 ?_ | refine k2 ?_ | refine k3 ?_ | refine k4 ?_ | refine k6 ?_ | refine And.intro ?_ ?_ | refine o3 ?_ | refine o4 ?_ | (intro h; first | exact Bool.noConfusion h | exact nz _ h | exact nl h | (simp at h; done) | (simp at h; first | (exfalso; omega) | skip) | skip) | exact (by kernel_rfl : drawOk _ _ = true) | refine eqv_len_map ?_ | refine eqv_wrap (by omega) (by omega) ?_ | (change vcFun _ _ _ _ _; refine call_one2 0 rfl (by assumption) (by assumption) (by omega) (by omega) ?_; intro bq kq hkq) | fail)
                · refine loop_in (fun x : Nat × Nat × List Int => [(18, vint .i64 x.1)]) (fun x => [dice t x.2.1, zeroM, mb (.pv (.sl 1 (cls.map optsRow))) (slP 3 4 (List.map Pair.row (p0 :: prs))) nilA r, obP 82 4 (List.map Pair.row (p0 :: prs)), pb4 i kk u (slP 5 1 (List.map (fun n => [ei n]) (x.2.2))), obP 3 1 (List.map (fun n => [ei n]) (x.2.2))]) (fun x => x.1 + x.2.2.length = la.length * lb.length ∧ x.2.1 ≤ t.length ∧ ∀ y ∈ x.2.2, y = 0 ∨ priceP y) (fun x => x.1) (la.length * lb.length, kq, []) ⟨by simp, hkq, fun y hy => absurd hy List.not_mem_nil⟩ ⟨?_, ?_⟩
                  · exact back [0, 1, 2, 3, 4, 5] rfl rfl (by repeat' (first | exact trivial | exact rfl | refine And.intro ?_ ?_)) ⟨slot_eq rfl (congrArg (vint .i64) hcast.symm), (by repeat' (first | exact trivial | exact rfl | refine And.intro ?_ ?_))⟩
                  rintro ⟨j, k, tb⟩ ⟨t1, t2, t3⟩
                  dsimp only at t1 t2 t3
                  rcases tb with _ | ⟨b0, tb⟩
                  · simp only [List.length_cons, List.length_nil] at t1
                    dsimp only [slP, obP, zeroM, mb, ob5, pb4, nilA, List.map, List.length_cons, List.length_nil, List.length_map]
                    rcases Nat.eq_zero_or_pos j with rfl | hj
                    · repeat' (first | refine o1 ?_ | refine o2 ?_ | refine k1 ?_ | refine k2 ?_ | refine k3 ?_ | refine k8 ?_ | refine And.intro ?_ ?_ | (intro h; first | exact Bool.noConfusion h | exact nz _ h | exact nl h | (simp at h; done) | (simp at h; first | (exfalso; omega) | skip) | skip) | fail)
                      exact ⟨(k, []), ⟨t2, by simp; omega, t3⟩, Ghost.trans (Ghost.shut (i := 4) (c := 3) (x := .pv (.val (.slice none 0 0))) rfl rfl rfl (by repeat' (first | trivial)) (show ¬ (4 ∈ ([] : List Nat)) by decide) (ALe.pv PLe.nil)) (back [0, 1, 2, 3, 4] rfl rfl (by repeat' (first | exact trivial | exact rfl | refine And.intro ?_ ?_)) (by repeat' (first | exact trivial | exact rfl | refine And.intro ?_ ?_)))⟩
                    · repeat' (first | ((change vcFunD _ _ _ _ _; refine callD_cost 0 rfl (by assumption) (by assumption) ?_; intro cn kc hcn hkc)) | refine o1 ?_ | refine o2 ?_ | refine k1 ?_ | refine k2 ?_ | refine k3 ?_ | refine k4 ?_ | refine k6 ?_ | refine And.intro ?_ ?_ | refine o3 ?_ | refine o4 ?_ | (intro h; first | exact Bool.noConfusion h | exact nz _ h | exact nl h | (simp at h; done) | (simp at h; first | (exfalso; omega) | skip) | skip) | (refine (?_ : srcLen _ = rowsLen _); rfl) | exact Nat.le_of_ble_eq_true rfl | exact (by kernel_rfl : drawOk _ _ = true) | refine eqv_wrap (by omega) (by omega) ?_ | refine eqv_to _ (app_first rfl) (eqv_to 1 rfl ?_) | fail)
                      exact ⟨(j - 1, kc, [cn]), ⟨by show j - 1 + List.length _ = _; simp; try omega, hkc, all_app (l := []) t3 hcn⟩, (by show j - 1 < j; omega), back [0, 1, 2, 3, 4, 7] rfl rfl (by repeat' (first | exact trivial | exact rfl | refine And.intro ?_ ?_)) ⟨slot_eq rfl (congrArg (vint .i64) (by show _ = ((j - 1 : Nat) : Int); omega)), (by repeat' (first | exact trivial | exact rfl | refine And.intro ?_ ?_))⟩⟩
                  · simp only [List.length_cons, List.length_nil] at t1
                    dsimp only [slP, obP, zeroM, mb, ob5, pb4, nilA, List.map, List.length_cons, List.length_nil, List.length_map]
                    rcases Nat.eq_zero_or_pos j with rfl | hj
                    · repeat' (first | refine o1 ?_ | refine o2 ?_ | refine k1 ?_ | refine k2 ?_ | refine k3 ?_ | refine k8 ?_ | refine And.intro ?_ ?_ | (intro h; first | exact Bool.noConfusion h | exact nz _ h | exact nl h | (simp at h; done) | (simp at h; first | (exfalso; omega) | skip) | skip) | fail)
                      exact ⟨(k, b0 :: tb), ⟨t2, by simp only [List.length_cons]; omega, t3⟩, Ghost.trans (Ghost.shut (i := 4) (c := 3) (x := .ms 5 1 0 ((List.map (fun n => [ei n]) tb).length + 1)) rfl rfl rfl (by repeat' (first | (show 0 + _ ≤ List.length _; simp))) (show ¬ (4 ∈ ([5] : List Nat)) by decide) (ALe.pv (whole_le (f := fun n => [ei n]) (l := b0 :: tb) (by simp)))) (back [0, 1, 2, 3, 4] rfl rfl (by repeat' (first | exact trivial | exact rfl | refine And.intro ?_ ?_)) (by repeat' (first | exact trivial | exact rfl | refine And.intro ?_ ?_)))⟩
                    · repeat' (first | ((change vcFunD _ _ _ _ _; refine callD_cost 0 rfl (by assumption) (by assumption) ?_; intro cn kc hcn hkc)) | (refine app_consm (f := fun n => [ei n]) cn rfl ?_) | refine o1 ?_ | refine o2 ?_ | refine k1 ?_ | refine k2 ?_ | refine k3 ?_ | refine k4 ?_ | refine k6 ?_ | refine And.intro ?_ ?_ | refine o3 ?_ | refine o4 ?_ | (intro h; first | exact Bool.noConfusion h | exact nz _ h | exact nl h | (simp at h; done) | (simp at h; first | (exfalso; omega) | skip) | skip) | (refine (?_ : srcLen _ = rowsLen _); rfl) | exact (by kernel_rfl : drawOk _ _ = true) | refine eqv_wrap (by omega) (by omega) ?_ | (refine (?_ : _ ≤ 140737488355328); simp [rowsLen] <;> omega) | (refine (?_ : _ ≤ 9223372036854775807); simp [rowsLen] <;> omega) | (refine (?_ : _ = rowsLen _); simp [rowsLen] <;> omega) | fail)
                      exact ⟨(j - 1, kc, b0 :: (tb ++ [cn])), ⟨by show j - 1 + List.length _ = _; simp; try omega, hkc, all_app (l := b0 :: tb) t3 hcn⟩, (by show j - 1 < j; omega), back [0, 1, 2, 3, 4, 7] rfl rfl (by repeat' (first | exact trivial | exact rfl | refine And.intro ?_ ?_)) ⟨slot_eq rfl (congrArg (vint .i64) (by show _ = ((j - 1 : Nat) : Int); omega)), (by repeat' (first | exact trivial | exact rfl | refine And.intro ?_ ?_))⟩⟩
                · refine ⟨?_⟩
                  rintro ⟨k, tb⟩ ⟨f1, f2, f3⟩
                  dsimp only at f1 f2 f3
                  dsimp only [slP, obP, zeroM, mb, ob5, pb4, nilA, List.map, List.length_cons, List.length_nil, List.length_map]
                  repeat' (first | (refine app_consm (f := Pair.row) (Pair.mk i kk u tb) rfl ?_) | refine o1 ?_ | refine o2 ?_ | refine k2 ?_ | refine And.intro ?_ ?_ | (refine (?_ : srcLen _ = rowsLen _); rfl) | refine eqv_wrap (by omega) (by omega) ?_ | (refine (?_ : _ ≤ 140737488355328); simp [rowsLen] <;> omega) | (refine (?_ : _ ≤ 9223372036854775807); simp [rowsLen] <;> omega) | (refine (?_ : _ = rowsLen _); simp [rowsLen] <;> omega) | fail)
                  exact ⟨(kk + 1, k, p0 :: (prs ++ [Pair.mk i kk u tb])), ⟨⟨by show i < kk + 1; omega, by show kk + 1 ≤ _; omega⟩, f1, j3.app (pair_made hla hlb j0 hu1 f2 f3)⟩, (by show _ - (kk + 1) < _; omega), back [0, 1, 2, 6] rfl rfl (by repeat' (first | exact trivial | exact rfl | refine And.intro ?_ ?_)) (by repeat' (first | exact trivial | exact rfl | refine And.intro ?_ ?_))⟩
                · exact ⟨(kk + 1, kq, p0 :: prs), ⟨⟨by show i < kk + 1; omega, by show kk + 1 ≤ _; omega⟩, hkq, j3.skip⟩, (by show _ - (kk + 1) < _; omega), back [0, 1, 2, 3] rfl rfl (by repeat' (first | exact trivial | exact rfl | refine And.intro ?_ ?_)) (by repeat' (first | exact trivial | exact rfl | refine And.intro ?_ ?_))⟩
              · repeat' (first | refine o1 ?_ | refine o2 ?_ | refine k1 ?_ | refine k2 ?_ | refine k3 ?_ | refine k8 ?_ | refine And.intro ?_ ?_ | (intro h; first | exact Bool.noConfusion h | exact nz _ h | exact nl h | (simp at h; done) | (simp at h; first | (exfalso; omega) | skip) | skip) | refine eqv_len_map ?_ | refine eqv_wrap (by omega) (by omega) ?_ | fail)
                exact ⟨(i + 1, k, p0 :: prs), ⟨by show i + 1 ≤ _; omega, j2, j3.toI (by omega)⟩, (by show _ - (i + 1) < _; omega), back [0, 1, 2, 3] rfl rfl (by repeat' (first | exact trivial | exact rfl | refine And.intro ?_ ?_)) (by repeat' (first | exact trivial | exact rfl | refine And.intro ?_ ?_))⟩
        · rcases prs with _ | ⟨p0, prs⟩
          · dsimp only [slP, obP, zeroM, mb, ob5, pb4, nilA, List.map, List.length_cons, List.length_nil, List.length_map]
            repeat' (first | refine o1 ?_ | refine o2 ?_ | refine k1 ?_ | refine k2 ?_ | refine k3 ?_ | refine k8 ?_ | refine And.intro ?_ ?_ | (intro h; first | exact Bool.noConfusion h | exact nz _ h | exact nl h | (simp at h; done) | (simp at h; first | (exfalso; omega) | skip) | skip) | refine eqv_len_map ?_ | refine eqv_wrap (by omega) (by omega) ?_ | fail)
            exact ⟨(u + 1, k, []), ⟨by show u + 1 ≤ _; omega, i2, i3.toU (by omega)⟩, (by show _ - (u + 1) < _; omega), back [0, 1, 2, 3] rfl rfl (by repeat' (first | exact trivial | exact rfl | refine And.intro ?_ ?_)) (by repeat' (first | exact trivial | exact rfl | refine And.intro ?_ ?_))⟩
          · dsimp only [slP, obP, zeroM, mb, ob5, pb4, nilA, List.map, List.length_cons, List.length_nil, List.length_map]
            repeat' (first | refine o1 ?_ | refine o2 ?_ | refine k1 ?_ | refine k2 ?_ | refine k3 ?_ | refine k8 ?_ | refine And.intro ?_ ?_ | (intro h; first | exact Bool.noConfusion h | exact nz _ h | exact nl h | (simp at h; done) | (simp at h; first | (exfalso; omega) | skip) | skip) | refine eqv_len_map ?_ | refine eqv_wrap (by omega) (by omega) ?_ | fail)
            exact ⟨(u + 1, k, p0 :: prs), ⟨by show u + 1 ≤ _; omega, i2, i3.toU (by omega)⟩, (by show _ - (u + 1) < _; omega), back [0, 1, 2, 3] rfl rfl (by repeat' (first | exact trivial | exact rfl | refine And.intro ?_ ?_)) (by repeat' (first | exact trivial | exact rfl | refine And.intro ?_ ?_))⟩
      · obtain rfl : u = r.toNat := by omega
        repeat' (first | refine o1 ?_ | refine o2 ?_ | refine k1 ?_ | refine k2 ?_ | refine k3 ?_ | refine k8 ?_ | refine And.intro ?_ ?_ | (intro h; first | exact Bool.noConfusion h | exact nz _ h | exact nl h | (simp at h; done) | (simp at h; first | (exfalso; omega) | skip) | skip) | fail)
        exact ⟨(k, []), ⟨u2, u3.at_, by simp⟩, Ghost.trans (Ghost.shut (i := 2) (c := 1) (x := .pv (.val (.slice none 0 0))) rfl rfl rfl (by repeat' (first | trivial)) (show ¬ (2 ∈ ([] : List Nat)) by decide) (ALe.pv PLe.nil)) (back [0, 1, 2] rfl rfl (by repeat' (first | exact trivial | exact rfl | refine And.intro ?_ ?_)) (by repeat' (first | exact trivial | exact rfl | refine And.intro ?_ ?_)))⟩
    · simp only [List.length_cons, List.length_nil] at ul
      dsimp only [slP, obP, zeroM, mb, ob5, pb4, nilA, List.map, List.length_cons, List.length_nil, List.length_map]
      rcases Nat.lt_or_ge u r.toNat with hu | hu
      · have hu1 : (u : Int) < r := by omega
        repeat' (first | refine o1 ?_ | refine o2 ?_ | refine k1 ?_ | refine k2 ?_ | refine k3 ?_ | refine k4 ?_ | refine k6 ?_ | refine And.intro ?_ ?_ | (intro h; first | exact Bool.noConfusion h | exact nz _ h | exact nl h | (simp at h; done) | (simp at h; first | (exfalso; omega) | skip) | skip) | fail)
        refine loop_in (fun x : Nat × Nat × List Pair => [(15, vint .i64 x.1)]) (fun x => [dice t x.2.1, zeroM, mb (.pv (.sl 1 (cls.map optsRow))) (slP 3 4 (List.map Pair.row (x.2.2))) nilA r, obP 82 4 (List.map Pair.row (x.2.2))]) (fun x => x.1 ≤ cls.length ∧ x.2.1 ≤ t.length ∧ PrQ cls r x.2.2 u x.1 0) (fun x => cls.length - x.1) (0, k, p0 :: prs) ⟨Nat.zero_le _, u2, u3⟩ ⟨?_, ?_⟩
        · exact back [0, 1, 2, 3] rfl rfl (by repeat' (first | exact trivial | exact rfl | refine And.intro ?_ ?_)) (by repeat' (first | exact trivial | exact rfl | refine And.intro ?_ ?_))
        rintro ⟨i, k, prs⟩ ⟨i1, i2, i3⟩
        dsimp only at i1 i2 i3
        have il := i3.len
        rcases Nat.lt_or_ge i cls.length with hi1 | hi1
        · rcases prs with _ | ⟨p0, prs⟩
          · dsimp only [slP, obP, zeroM, mb, ob5, pb4, nilA, List.map, List.length_cons, List.length_nil, List.length_map]
            repeat' (first | refine o1 ?_ | refine o2 ?_ | refine k1 ?_ | refine k2 ?_ | refine k3 ?_ | refine k4 ?_ | refine k6 ?_ | refine And.intro ?_ ?_ | (intro h; first | exact Bool.noConfusion h | exact nz _ h | exact nl h | (simp at h; done) | (simp at h; first | (exfalso; omega) | skip) | skip) | refine eqv_len_map ?_ | refine eqv_wrap (by omega) (by omega) ?_ | fail)
            refine loop_in (fun x : Nat × Nat × List Pair => [(16, vint .i64 x.1)]) (fun x => [dice t x.2.1, zeroM, mb (.pv (.sl 1 (cls.map optsRow))) (slP 3 4 (List.map Pair.row (x.2.2))) nilA r, obP 82 4 (List.map Pair.row (x.2.2))]) (fun x => (i < x.1 ∧ x.1 ≤ cls.length) ∧ x.2.1 ≤ t.length ∧ PrQ cls r x.2.2 u i x.1) (fun x => cls.length - x.1) (i + 1, k, []) ⟨⟨by dsimp only; omega, by dsimp only; omega⟩, i2, i3.toK⟩ ⟨?_, ?_⟩
            · exact back [0, 1, 2, 3] rfl rfl (by repeat' (first | exact trivial | exact rfl | refine And.intro ?_ ?_)) (by repeat' (first | exact trivial | exact rfl | refine And.intro ?_ ?_))
            rintro ⟨kk, k, prs⟩ ⟨⟨j0, j1⟩, j2, j3⟩
            dsimp only at j0 j1 j2 j3
            have jl := j3.len
            rcases prs with _ | ⟨p0, prs⟩
            · simp only [List.length_cons, List.length_nil] at jl
              dsimp only [slP, obP, zeroM, mb, ob5, pb4, nilA, List.map, List.length_cons, List.length_nil, List.length_map]
              rcases Nat.lt_or_ge kk cls.length with hkk | hkk
              · obtain ⟨la, hla⟩ := getE hi1
                obtain ⟨lb, hlb⟩ := getE hkk
                have hq1 := hcls la (List.mem_of_getElem? hla)
                have hq2 := hcls lb (List.mem_of_getElem? hlb)
                have hab : la.length * lb.length ≤ 16 := Nat.mul_le_mul hq1.2.1 hq2.2.1
                have hcast : ((la.length * lb.length : Nat) : Int) = (la.length : Int) * lb.length := by simp
                have hab1 : (la.length : Int) * lb.length ≤ 16 := by omega
                have hab0 : (0 : Int) ≤ (la.length : Int) * lb.length := by omega
                repeat' (first | (refine idx_sl (k := i) (at_map hla) (by omega) ?_) | (refine idx_sl (k := kk) (at_map hlb) (by omega) ?_) | (refine join_in (a := .seq (.region 29 _ _) _) (fun _ => []) (fun x : Nat × List Int => [dice t x.1, zeroM, mb (.pv (.sl 1 (cls.map optsRow))) (slP 3 4 (List.map Pair.row ([]))) nilA r, obP 82 4 (List.map Pair.row ([])), pb4 i kk u (.pv (encInts x.2))]) (fun x => x.1 ≤ t.length ∧ x.2.length = la.length * lb.length ∧ ∀ y ∈ x.2, y = 0 ∨ priceP y) ?_) | refine o1 ?_ | refine o2 ?_ | refine k1 ?_ | refine k2 ?_ | refine k3 ?_ | refine k4 ?_ | refine k6 ?_ | refine And.intro ?_ ?_ | refine o3 ?_ | refine o4 ?_ | (intro h; first | exact Bool.noConfusion h | exact nz _ h | exact nl h | (simp at h; done) | (simp at h; first | (exfalso; omega) | skip) | skip) | exact (by kernel_rfl : drawOk _ _ = true) | refine eqv_len_map ?_ | refine eqv_wrap (by omega) (by omega) ?_ | (change vcFun _ _ _ _ _; refine call_one2 0 rfl (by assumption) (by assumption) (by omega) (by omega) ?_; intro bq kq hkq) | fail)
                · refine loop_in (fun x : Nat × Nat × List Int => [(18, vint .i64 x.1)]) (fun x => [dice t x.2.1, zeroM, mb (.pv (.sl 1 (cls.map optsRow))) (slP 3 4 (List.map Pair.row ([]))) nilA r, obP 82 4 (List.map Pair.row ([])), pb4 i kk u (slP 5 1 (List.map (fun n => [ei n]) (x.2.2))), obP 3 1 (List.map (fun n => [ei n]) (x.2.2))]) (fun x => x.1 + x.2.2.length = la.length * lb.length ∧ x.2.1 ≤ t.length ∧ ∀ y ∈ x.2.2, y = 0 ∨ priceP y) (fun x => x.1) (la.length * lb.length, kq, []) ⟨by simp, hkq, fun y hy => absurd hy List.not_mem_nil⟩ ⟨?_, ?_⟩
                  · exact back [0, 1, 2, 3, 4, 5] rfl rfl (by repeat' (first | exact trivial | exact rfl | refine And.intro ?_ ?_)) ⟨slot_eq rfl (congrArg (vint .i64) hcast.symm), (by repeat' (first | exact trivial | exact rfl | refine And.intro ?_ ?_))⟩
                  rintro ⟨j, k, tb⟩ ⟨t1, t2, t3⟩
                  dsimp only at t1 t2 t3
                  rcases tb with _ | ⟨b0, tb⟩
                  · simp only [List.length_cons, List.length_nil] at t1
                    dsimp only [slP, obP, zeroM, mb, ob5, pb4, nilA, List.map, List.length_cons, List.length_nil, List.length_map]
                    rcases Nat.eq_zero_or_pos j with rfl | hj
                    · repeat' (first | refine o1 ?_ | refine o2 ?_ | refine k1 ?_ | refine k2 ?_ | refine k3 ?_ | refine k8 ?_ | refine And.intro ?_ ?_ | (intro h; first | exact Bool.noConfusion h | exact nz _ h | exact nl h | (simp at h; done) | (simp at h; first | (exfalso; omega) | skip) | skip) | fail)
                      exact ⟨(k, []), ⟨t2, by simp; omega, t3⟩, Ghost.trans (Ghost.shut (i := 4) (c := 3) (x := .pv (.val (.slice none 0 0))) rfl rfl rfl (by repeat' (first | trivial)) (show ¬ (4 ∈ ([] : List Nat)) by decide) (ALe.pv PLe.nil)) (back [0, 1, 2, 3, 4] rfl rfl (by repeat' (first | exact trivial | exact rfl | refine And.intro ?_ ?_)) (by repeat' (first | exact trivial | exact rfl | refine And.intro ?_ ?_)))⟩
                    · repeat' (first | ((change vcFunD _ _ _ _ _; refine callD_cost 0 rfl (by assumption) (by assumption) ?_; intro cn kc hcn hkc)) | refine o1 ?_ | refine o2 ?_ | refine k1 ?_ | refine k2 ?_ | refine k3 ?_ | refine k4 ?_ | refine k6 ?_ | refine And.intro ?_ ?_ | refine o3 ?_ | refine o4 ?_ | (intro h; first | exact Bool.noConfusion h | exact nz _ h | exact nl h | (simp at h; done) | (simp at h; first | (exfalso; omega) | skip) | skip) | (refine (?_ : srcLen _ = rowsLen _); rfl) | exact Nat.le_of_ble_eq_true rfl | exact (by kernel_rfl : drawOk _ _ = true) | refine eqv_wrap (by omega) (by omega) ?_ | refine eqv_to _ (app_first rfl) (eqv_to 1 rfl ?_) | fail)
                      exact ⟨(j - 1, kc, [cn]), ⟨by show j - 1 + List.length _ = _; simp; try omega, hkc, all_app (l := []) t3 hcn⟩, (by show j - 1 < j; omega), back [0, 1, 2, 3, 4, 7] rfl rfl (by repeat' (first | exact trivial | exact rfl | refine And.intro ?_ ?_)) ⟨slot_eq rfl (congrArg (vint .i64) (by show _ = ((j - 1 : Nat) : Int); omega)), (by repeat' (first | exact trivial | exact rfl | refine And.intro ?_ ?_))⟩⟩
                  · simp only [List.length_cons, List.length_nil] at t1
                    dsimp only [slP, obP, zeroM, mb, ob5, pb4, nilA, List.map, List.length_cons, List.length_nil, List.length_map]
                    rcases Nat.eq_zero_or_pos j with rfl | hj
                    · repeat' (first | refine o1 ?_ | refine o2 ?_ | refine k1 ?_ | refine k2 ?_ | refine k3 ?_ | refine k8 ?_ | refine And.intro ?_ ?_ | (intro h; first | exact Bool.noConfusion h | exact nz _ h | exact nl h | (simp at h; done) | (simp at h; first | (exfalso; omega) | skip) | skip) | fail)
                      exact ⟨(k, b0 :: tb), ⟨t2, by simp only [List.length_cons]; omega, t3⟩, Ghost.trans (Ghost.shut (i := 4) (c := 3) (x := .ms 5 1 0 ((List.map (fun n => [ei n]) tb).length + 1)) rfl rfl rfl (by repeat' (first | (show 0 + _ ≤ List.length _; simp))) (show ¬ (4 ∈ ([5] : List Nat)) by decide) (ALe.pv (whole_le (f := fun n => [ei n]) (l := b0 :: tb) (by simp)))) (back [0, 1, 2, 3, 4] rfl rfl (by repeat' (first | exact trivial | exact rfl | refine And.intro ?_ ?_)) (by repeat' (first | exact trivial | exact rfl | refine And.intro ?_ ?_)))⟩
                    · repeat' (first | ((change vcFunD _ _ _ _ _; refine callD_cost 0 rfl (by assumption) (by assumption) ?_; intro cn kc hcn hkc)) | (refine app_consm (f := fun n => [ei n]) cn rfl ?_) | refine o1 ?_ | refine o2 ?_ | refine k1 ?_ | refine k2 ?_ | refine k3 ?_ | refine k4 ?_ | refine k6 ?_ | refine And.intro ?_ ?_ | refine o3 ?_ | refine o4 ?_ | (intro h; first | exact Bool.noConfusion h | exact nz _ h | exact nl h | (simp at h; done) | (simp at h; first | (exfalso; omega) | skip) | skip) | (refine (?_ : srcLen _ = rowsLen _); rfl) | exact (by kernel_rfl : drawOk _ _ = true) | refine eqv_wrap (by omega) (by omega) ?_ | (refine (?_ : _ ≤ 140737488355328); simp [rowsLen] <;> omega) | (refine (?_ : _ ≤ 9223372036854775807); simp [rowsLen] <;> omega) | (refine (?_ : _ = rowsLen _); simp [rowsLen] <;> omega) | fail)
                      exact ⟨(j - 1, kc, b0 :: (tb ++ [cn])), ⟨by show j - 1 + List.length _ = _; simp; try omega, hkc, all_app (l := b0 :: tb) t3 hcn⟩, (by show j - 1 < j; omega), back [0, 1, 2, 3, 4, 7] rfl rfl (by repeat' (first | exact trivial | exact rfl | refine And.intro ?_ ?_)) ⟨slot_eq rfl (congrArg (vint .i64) (by show _ = ((j - 1 : Nat) : Int); omega)), (by repeat' (first | exact trivial | exact rfl | refine And.intro ?_ ?_))⟩⟩
                · refine ⟨?_⟩
                  rintro ⟨k, tb⟩ ⟨f1, f2, f3⟩
                  dsimp only at f1 f2 f3
                  dsimp only [slP, obP, zeroM, mb, ob5, pb4, nilA, List.map, List.length_cons, List.length_nil, List.length_map]
                  repeat' (first | refine o1 ?_ | refine o2 ?_ | refine k2 ?_ | refine And.intro ?_ ?_ | (intro h; first | exact Bool.noConfusion h | exact nz _ h | exact nl h | (simp at h; done) | (simp at h; first | (exfalso; omega) | skip) | skip) | (refine (?_ : srcLen _ = rowsLen _); rfl) | exact Nat.le_of_ble_eq_true rfl | refine eqv_wrap (by omega) (by omega) ?_ | refine eqv_to _ (app_first rfl) (eqv_to 1 rfl ?_) | fail)
                  exact ⟨(kk + 1, k, [Pair.mk i kk u tb]), ⟨⟨by show i < kk + 1; omega, by show kk + 1 ≤ _; omega⟩, f1, j3.app (pair_made hla hlb j0 hu1 f2 f3)⟩, (by show _ - (kk + 1) < _; omega), back [0, 1, 2, 6] rfl rfl (by repeat' (first | exact trivial | exact rfl | refine And.intro ?_ ?_)) (by repeat' (first | exact trivial | exact rfl | refine And.intro ?_ ?_))⟩
                · exact ⟨(kk + 1, kq, []), ⟨⟨by show i < kk + 1; omega, by show kk + 1 ≤ _; omega⟩, hkq, j3.skip⟩, (by show _ - (kk + 1) < _; omega), back [0, 1, 2, 3] rfl rfl (by repeat' (first | exact trivial | exact rfl | refine And.intro ?_ ?_)) (by repeat' (first | exact trivial | exact rfl | refine And.intro ?_ ?_))⟩
              · repeat' (first | refine o1 ?_ | refine o2 ?_ | refine k1 ?_ | refine k2 ?_ | refine k3 ?_ | refine k8 ?_ | refine And.intro ?_ ?_ | (intro h; first | exact Bool.noConfusion h | exact nz _ h | exact nl h | (simp at h; done) | (simp at h; first | (exfalso; omega) | skip) | skip) | refine eqv_len_map ?_ | refine eqv_wrap (by omega) (by omega) ?_ | fail)
                exact ⟨(i + 1, k, []), ⟨by show i + 1 ≤ _; omega, j2, j3.toI (by omega)⟩, (by show _ - (i + 1) < _; omega), back [0, 1, 2, 3] rfl rfl (by repeat' (first | exact trivial | exact rfl | refine And.intro ?_ ?_)) (by repeat' (first | exact trivial | exact rfl | refine And.intro ?_ ?_))⟩
            · simp only [List.length_cons, List.length_nil] at jl
              dsimp only [slP, obP, zeroM, mb, ob5, pb4, nilA, List.map, List.length_cons, List.length_nil, List.length_map]
              rcases Nat.lt_or_ge kk cls.length with hkk | hkk
              · obtain ⟨la, hla⟩ := getE hi1
                obtain ⟨lb, hlb⟩ := getE hkk
                have hq1 := hcls la (List.mem_of_getElem? hla)
                have hq2 := hcls lb (List.mem_of_getElem? hlb)
                have hab : la.length * lb.length ≤ 16 := Nat.mul_le_mul hq1.2.1 hq2.2.1
                have hcast : ((la.length * lb.length : Nat) : Int) = (la.length : Int) * lb.length := by simp
                have hab1 : (la.length : Int) * lb.length ≤ 16 := by omega
                have hab0 : (0 : Int) ≤ (la.length : Int) * lb.length := by omega
                repeat' (first | (refine idx_sl (k := i) (at_map hla) (by omega) ?_) | (refine idx_sl (k := kk) (at_map hlb) (by omega) ?_) | (refine join_in (a := .seq (.region 29 _ _) _) (fun _ => []) (fun x : Nat × List Int => [dice t x.1, zeroM, mb (.pv (.sl 1 (cls.map optsRow))) (slP 3 4 (List.map Pair.row (p0 :: prs))) nilA r, obP 82 4 (List.map Pair.row (p0 :: prs)), pb4 i kk u (.pv (encInts x.2))]) (fun x => x.1 ≤ t.length ∧ x.2.length = la.length * lb.length ∧ ∀ y ∈ x.2, y = 0 ∨ priceP y) ?_) | refine o1 ?_ | refine o2 ?_ | refine k1 ?_ | refine k2 ?_ | refine k3 ?_ | refine k4 ?_ | refine k6 ?_ | refine And.intro ?_ ?_ | refine o3 ?_ | refine o4 ?_ | (intro h; first | exact Bool.noConfusion h | exact nz _ h | exact nl h | (simp at h; done) | (simp at h; first | (exfalso; omega) | skip) | skip) | exact (by kernel_rfl : drawOk _ _ = true) | refine eqv_len_map ?_ | refine eqv_wrap (by omega) (by omega) ?_ | (change vcFun _ _ _ _ _; refine call_one2 0 rfl (by assumption) (by assumption) (by omega) (by omega) ?_; intro bq kq hkq) | fail)
                · refine loop_in (fun x : Nat × Nat × List Int => [(18, vint .i64 x.1)]) (fun x => [dice t x.2.1, zeroM, mb (.pv (.sl 1 (cls.map optsRow))) (slP 3 4 (List.map Pair.row (p0 :: prs))) nilA r, obP 82 4 (List.map Pair.row (p0 :: prs)), pb4 i kk u (slP 5 1 (List.map (fun n => [ei n]) (x.2.2))), obP 3 1 (List.map (fun n => [ei n]) (x.2.2))]) (fun x => x.1 + x.2.2.length = la.length * lb.length ∧ x.2.1 ≤ t.length ∧ ∀ y ∈ x.2.2, y = 0 ∨ priceP y) (fun x => x.1) (la.length * lb.length, kq, []) ⟨by simp, hkq, fun y hy => absurd hy List.not_mem_nil⟩ ⟨?_, ?_⟩
                  · exact back [0, 1, 2, 3, 4, 5] rfl rfl (by repeat' (first | exact trivial | exact rfl | refine And.intro ?_ ?_)) ⟨slot_eq rfl (congrArg (vint .i64) hcast.symm), (by repeat' (first | exact trivial | exact rfl | refine And.intro ?_ ?_))⟩
                  rintro ⟨j, k, tb⟩ ⟨t1, t2, t3⟩
                  dsimp only at t1 t2 t3
                  rcases tb with _ | ⟨b0, tb⟩
                  · simp only [List.length_cons, List.length_nil] at t1
                    dsimp only [slP, obP, zeroM, mb, ob5, pb4, nilA, List.map, List.length_cons, List.length_nil, List.length_map]
                    rcases Nat.eq_zero_or_pos j with rfl | hj
                    · repeat' (first | refine o1 ?_ | refine o2 ?_ | refine k1 ?_ | refine k2 ?_ | refine k3 ?_ | refine k8 ?_ | refine And.intro ?_ ?_ | (intro h; first | exact Bool.noConfusion h | exact nz _ h | exact nl h | (simp at h; done) | (simp at h; first | (exfalso; omega) | skip) | skip) | fail)
                      exact ⟨(k, []), ⟨t2, by simp; omega, t3⟩, Ghost.trans (Ghost.shut (i := 4) (c := 3) (x := .pv (.val (.slice none 0 0))) rfl rfl rfl (by repeat' (first | trivial)) (show ¬ (4 ∈ ([] : List Nat)) by decide) (ALe.pv PLe.nil)) (back [0, 1, 2, 3, 4] rfl rfl (by repeat' (first | exact trivial | exact rfl | refine And.intro ?_ ?_)) (by repeat' (first | exact trivial | exact rfl | refine And.intro ?_ ?_)))⟩
                    · repeat' (first | ((change vcFunD _ _ _ _ _; refine callD_cost 0 rfl (by assumption) (by assumption) ?_; intro cn kc hcn hkc)) | refine o1 ?_ | refine o2 ?_ | refine k1 ?_ | refine k2 ?_ | refine k3 ?_ | refine k4 ?_ | refine k6 ?_ | refine And.intro ?_ ?_ | refine o3 ?_ | refine o4 ?_ | (intro h; first | exact Bool.noConfusion h | exact nz _ h | exact nl h | (simp at h; done) | (simp at h; first | (exfalso; omega) | skip) | skip) | (refine (?_ : srcLen _ = rowsLen _); rfl) | exact Nat.le_of_ble_eq_true rfl | exact (by kernel_rfl : drawOk _ _ = true) | refine eqv_wrap (by omega) (by omega) ?_ | refine eqv_to _ (app_first rfl) (eqv_to 1 rfl ?_) | fail)
                      exact ⟨(j - 1, kc, [cn]), ⟨by show j - 1 + List.length _ = _; simp; try omega, hkc, all_app (l := []) t3 hcn⟩, (by show j - 1 < j; omega), back [0, 1, 2, 3, 4, 7] rfl rfl (by repeat' (first | exact trivial | exact rfl | refine And.intro ?_ ?_)) ⟨slot_eq rfl (congrArg (vint .i64) (by show _ = ((j - 1 : Nat) : Int); omega)), (by repeat' (first | exact trivial | exact rfl | refine And.intro ?_ ?_))⟩⟩
                  · simp only [List.length_cons, List.length_nil] at t1
                    dsimp only [slP, obP, zeroM, mb, ob5, pb4, nilA, List.map, List.length_cons, List.length_nil, List.length_map]
                    rcases Nat.eq_zero_or_pos j with rfl | hj
                    · repeat' (first | refine o1 ?_ | refine o2 ?_ | refine k1 ?_ | refine k2 ?_ | refine k3 ?_ | refine k8 ?_ | refine And.intro ?_ ?_ | (intro h; first | exact Bool.noConfusion h | exact nz _ h | exact nl h | (simp at h; done) | (simp at h; first | (exfalso; omega) | skip) | skip) | fail)
                      exact ⟨(k, b0 :: tb), ⟨t2, by simp only [List.length_cons]; omega, t3⟩, Ghost.trans (Ghost.shut (i := 4) (c := 3) (x := .ms 5 1 0 ((List.map (fun n => [ei n]) tb).length + 1)) rfl rfl rfl (by repeat' (first | (show 0 + _ ≤ List.length _; simp))) (show ¬ (4 ∈ ([5] : List Nat)) by decide) (ALe.pv (whole_le (f := fun n => [ei n]) (l := b0 :: tb) (by simp)))) (back [0, 1, 2, 3, 4] rfl rfl (by repeat' (first | exact trivial | exact rfl | refine And.intro ?_ ?_)) (by repeat' (first | exact trivial | exact rfl | refine And.intro ?_ ?_)))⟩
                    · repeat' (first | ((change vcFunD _ _ _ _ _; refine callD_cost 0 rfl (by assumption) (by assumption) ?_; intro cn kc hcn hkc)) | (refine app_consm (f := fun n => [ei n]) cn rfl ?_) | refine o1 ?_ | refine o2 ?_ | refine k1 ?_ | refine k2 ?_ | refine k3 ?_ | refine k4 ?_ | refine k6 ?_ | refine And.intro ?_ ?_ | refine o3 ?_ | refine o4 ?_ | (intro h; first | exact Bool.noConfusion h | exact nz _ h | exact nl h | (simp at h; done) | (simp at h; first | (exfalso; omega) | skip) | skip) | (refine (?_ : srcLen _ = rowsLen _); rfl) | exact (by kernel_rfl : drawOk _ _ = true) | refine eqv_wrap (by omega) (by omega) ?_ | (refine (?_ : _ ≤ 140737488355328); simp [rowsLen] <;> omega) | (refine (?_ : _ ≤ 9223372036854775807); simp [rowsLen] <;> omega) | (refine (?_ : _ = rowsLen _); simp [rowsLen] <;> omega) | fail)
                      exact ⟨(j - 1, kc, b0 :: (tb ++ [cn])), ⟨by show j - 1 + List.length _ = _; simp; try omega, hkc, all_app (l := b0 :: tb) t3 hcn⟩, (by show j - 1 < j; omega), back [0, 1, 2, 3, 4, 7] rfl rfl (by repeat' (first | exact trivial | exact rfl | refine And.intro ?_ ?_)) ⟨slot_eq rfl (congrArg (vint .i64) (by show _ = ((j - 1 : Nat) : Int); omega)), (by repeat' (first | exact trivial | exact rfl | refine And.intro ?_ ?_))⟩⟩
                · refine ⟨?_⟩
                  rintro ⟨k, tb⟩ ⟨f1, f2, f3⟩
                  dsimp only at f1 f2 f3
                  dsimp only [slP, obP, zeroM, mb, ob5, pb4, nilA, List.map, List.length_cons, List.length_nil, List.length_map]
                  repeat' (first | (refine app_consm (f := Pair.row) (Pair.mk i kk u tb) rfl ?_) | refine o1 ?_ | refine o2 ?_ | refine k2 ?_ | refine And.intro ?_ ?_ | (refine (?_ : srcLen _ = rowsLen _); rfl) | refine eqv_wrap (by omega) (by omega) ?_ | (refine (?_ : _ ≤ 140737488355328); simp [rowsLen] <;> omega) | (refine (?_ : _ ≤ 9223372036854775807); simp [rowsLen] <;> omega) | (refine (?_ : _ = rowsLen _); simp [rowsLen] <;> omega) | fail)
                  exact ⟨(kk + 1, k, p0 :: (prs ++ [Pair.mk i kk u tb])), ⟨⟨by show i < kk + 1; omega, by show kk + 1 ≤ _; omega⟩, f1, j3.app (pair_made hla hlb j0 hu1 f2 f3)⟩, (by show _ - (kk + 1) < _; omega), back [0, 1, 2, 6] rfl rfl (by repeat' (first | exact trivial | exact rfl | refine And.intro ?_ ?_)) (by repeat' (first | exact trivial | exact rfl | refine And.intro ?_ ?_))⟩
                · exact ⟨(kk + 1, kq, p0 :: prs), ⟨⟨by show i < kk + 1; omega, by show kk + 1 ≤ _; omega⟩, hkq, j3.skip⟩, (by show _ - (kk + 1) < _; omega), back [0, 1, 2, 3] rfl rfl (by repeat' (first | exact trivial | exact rfl | refine And.intro ?_ ?_)) (by repeat' (first | exact trivial | exact rfl | refine And.intro ?_ ?_))⟩
              · repeat' (first | refine o1 ?_ | refine o2 ?_ | refine k1 ?_ | refine k2 ?_ | refine k3 ?_ | refine k8 ?_ | refine And.intro ?_ ?_ | (intro h; first | exact Bool.noConfusion h | exact nz _ h | exact nl h | (simp at h; done) | (simp at h; first | (exfalso; omega) | skip) | skip) | refine eqv_len_map ?_ | refine eqv_wrap (by omega) (by omega) ?_ | fail)
                exact ⟨(i + 1, k, p0 :: prs), ⟨by show i + 1 ≤ _; omega, j2, j3.toI (by omega)⟩, (by show _ - (i + 1) < _; omega), back [0, 1, 2, 3] rfl rfl (by repeat' (first | exact trivial | exact rfl | refine And.intro ?_ ?_)) (by repeat' (first | exact trivial | exact rfl | refine And.intro ?_ ?_))⟩
          · dsimp only [slP, obP, zeroM, mb, ob5, pb4, nilA, List.map, List.length_cons, List.length_nil, List.length_map]
            repeat' (first | refine o1 ?_ | refine o2 ?_ | refine k1 ?_ | refine k2 ?_ | refine k3 ?_ | refine k4 ?_ | refine k6 ?_ | refine And.intro ?_ ?_ | (intro h; first | exact Bool.noConfusion h | exact nz _ h | exact nl h | (simp at h; done) | (simp at h; first | (exfalso; omega) | skip) | skip) | refine eqv_len_map ?_ | refine eqv_wrap (by omega) (by omega) ?_ | fail)
            refine loop_in (fun x : Nat × Nat × List Pair => [(16, vint .i64 x.1)]) (fun x => [dice t x.2.1, zeroM, mb (.pv (.sl 1 (cls.map optsRow))) (slP 3 4 (List.map Pair.row (x.2.2))) nilA r, obP 82 4 (List.map Pair.row (x.2.2))]) (fun x => (i < x.1 ∧ x.1 ≤ cls.length) ∧ x.2.1 ≤ t.length ∧ PrQ cls r x.2.2 u i x.1) (fun x => cls.length - x.1) (i + 1, k, p0 :: prs) ⟨⟨by dsimp only; omega, by dsimp only; omega⟩, i2, i3.toK⟩ ⟨?_, ?_⟩
            · exact back [0, 1, 2, 3] rfl rfl (by repeat' (first | exact trivial | exact rfl | refine And.intro ?_ ?_)) (by repeat' (first | exact trivial | exact rfl | refine And.intro ?_ ?_))
            rintro ⟨kk, k, prs⟩ ⟨⟨j0, j1⟩, j2, j3⟩
            dsimp only at j0 j1 j2 j3
            have jl := j3.len
            rcases prs with _ | ⟨p0, prs⟩
            · simp only [List.length_cons, List.length_nil] at jl
              dsimp only [slP, obP, zeroM, mb, ob5, pb4, nilA, List.map, List.length_cons, List.length_nil, List.length_map]
              rcases Nat.lt_or_ge kk cls.length with hkk | hkk
              · obtain ⟨la, hla⟩ := getE hi1
                obtain ⟨lb, hlb⟩ := getE hkk
                have hq1 := hcls la (List.mem_of_getElem? hla)
                have hq2 := hcls lb (List.mem_of_getElem? hlb)
                have hab : la.length * lb.length ≤ 16 := Nat.mul_le_mul hq1.2.1 hq2.2.1
                have hcast : ((la.length * lb.length : Nat) : Int) = (la.length : Int) * lb.length := by simp
                have hab1 : (la.length : Int) * lb.length ≤ 16 := by omega
                have hab0 : (0 : Int) ≤ (la.length : Int) * lb.length := by omega
                repeat' (first | (refine idx_sl (k := i) (at_map hla) (by omega) ?_) | (refine idx_sl (k := kk) (at_map hlb) (by omega) ?_) | (refine join_in (a := .seq (.region 29 _ _) _) (fun _ => []) (fun x : Nat × List Int => [dice t x.1, zeroM, mb (.pv (.sl 1 (cls.map optsRow))) (slP 3 4 (List.map Pair.row ([]))) nilA r, obP 82 4 (List.map Pair.row ([])), pb4 i kk u (.pv (encInts x.2))]) (fun x => x.1 ≤ t.length ∧ x.2.length = la.length * lb.length ∧ ∀ y ∈ x.2, y = 0 ∨ priceP y) ?_) | refine o1 ?_ | refine o2 ?_ | refine k1 ?_ | refine k2 ?_ | refine k3 ?_ | refine k4 ?_ | refine k6 ?_ | refine And.intro ?_ ?_ | refine o3 ?_ | refine o4 ?_ | (intro h; first | exact Bool.noConfusion h | exact nz _ h | exact nl h | (simp at h; done) | (simp at h; first | (exfalso; omega) | skip) | skip) | exact (by kernel_rfl : drawOk _ _ = true) | refine eqv_len_map ?_ | refine eqv_wrap (by omega) (by omega) ?_ | (change vcFun _ _ _ _ _; refine call_one2 0 rfl (by assumption) (by assumption) (by omega) (by omega) ?_; intro bq kq hkq) | fail)
                · refine loop_in (fun x : Nat × Nat × List Int => [(18, vint .i64 x.1)]) (fun x => [dice t x.2.1, zeroM, mb (.pv (.sl 1 (cls.map optsRow))) (slP 3 4 (List.map Pair.row ([]))) nilA r, obP 82 4 (List.map Pair.row ([])), pb4 i kk u (slP 5 1 (List.map (fun n => [ei n]) (x.2.2))), obP 3 1 (List.map (fun n => [ei n]) (x.2.2))]) (fun x => x.1 + x.2.2.length = la.length * lb.length ∧ x.2.1 ≤ t.length ∧ ∀ y ∈ x.2.2, y = 0 ∨ priceP y) (fun x => x.1) (la.length * lb.length, kq, []) ⟨by simp, hkq, fun y hy => absurd hy List.not_mem_nil⟩ ⟨?_, ?_⟩
                  · exact back [0, 1, 2, 3, 4, 5] rfl rfl (by repeat' (first | exact trivial | exact rfl | refine And.intro ?_ ?_)) ⟨slot_eq rfl (congrArg (vint .i64) hcast.symm), (by repeat' (first | exact trivial | exact rfl | refine And.intro ?_ ?_))⟩
                  rintro ⟨j, k, tb⟩ ⟨t1, t2, t3⟩
                  dsimp only at t1 t2 t3
                  rcases tb with _ | ⟨b0, tb⟩
                  · simp only [List.length_cons, List.length_nil] at t1
                    dsimp only [slP, obP, zeroM, mb, ob5, pb4, nilA, List.map, List.length_cons, List.length_nil, List.length_map]
                    rcases Nat.eq_zero_or_pos j with rfl | hj
                    · repeat' (first | refine o1 ?_ | refine o2 ?_ | refine k1 ?_ | refine k2 ?_ | refine k3 ?_ | refine k8 ?_ | refine And.intro ?_ ?_ | (intro h; first | exact Bool.noConfusion h | exact nz _ h | exact nl h | (simp at h; done) | (simp at h; first | (exfalso; omega) | skip) | skip) | fail)
                      exact ⟨(k, []), ⟨t2, by simp; omega, t3⟩, Ghost.trans (Ghost.shut (i := 4) (c := 3) (x := .pv (.val (.slice none 0 0))) rfl rfl rfl (by repeat' (first | trivial)) (show ¬ (4 ∈ ([] : List Nat)) by decide) (ALe.pv PLe.nil)) (back [0, 1, 2, 3, 4] rfl rfl (by repeat' (first | exact trivial | exact rfl | refine And.intro ?_ ?_)) (by repeat' (first | exact trivial | exact rfl | refine And.intro ?_ ?_)))⟩
                    · repeat' (first | ((change vcFunD _ _ _ _ _; refine callD_cost 0 rfl (by assumption) (by assumption) ?_; intro cn kc hcn hkc)) | refine o1 ?_ | refine o2 ?_ | refine k1 ?_ | refine k2 ?_ | refine k3 ?_ | refine k4 ?_ | refine k6 ?_ | refine And.intro ?_ ?_ | refine o3 ?_ | refine o4 ?_ | (intro h; first | exact Bool.noConfusion h | exact nz _ h | exact nl h | (simp at h; done) | (simp at h; first | (exfalso; omega) | skip) | skip) | (refine (?_ : srcLen _ = rowsLen _); rfl) | exact Nat.le_of_ble_eq_true rfl | exact (by kernel_rfl : drawOk _ _ = true) | refine eqv_wrap (by omega) (by omega) ?_ | refine eqv_to _ (app_first rfl) (eqv_to 1 rfl ?_) | fail)
                      exact ⟨(j - 1, kc, [cn]), ⟨by show j - 1 + List.length _ = _; simp; try omega, hkc, all_app (l := []) t3 hcn⟩, (by show j - 1 < j; omega), back [0, 1, 2, 3, 4, 7] rfl rfl (by repeat' (first | exact trivial | exact rfl | refine And.intro ?_ ?_)) ⟨slot_eq rfl (congrArg (vint .i64) (by show _ = ((j - 1 : Nat) : Int); omega)), (by repeat' (first | exact trivial | exact rfl | refine And.intro ?_ ?_))⟩⟩
                  · simp only [List.length_cons, List.length_nil] at t1
                    dsimp only [slP, obP, zeroM, mb, ob5, pb4, nilA, List.map, List.length_cons, List.length_nil, List.length_map]
                    rcases Nat.eq_zero_or_pos j with rfl | hj
                    · repeat' (first | refine o1 ?_ | refine o2 ?_ | refine k1 ?_ | refine k2 ?_ | refine k3 ?_ | refine k8 ?_ | refine And.intro ?_ ?_ | (intro h; first | exact Bool.noConfusion h | exact nz _ h | exact nl h | (simp at h; done) | (simp at h; first | (exfalso; omega) | skip) | skip) | fail)
                      exact ⟨(k, b0 :: tb), ⟨t2, by simp only [List.length_cons]; omega, t3⟩, Ghost.trans (Ghost.shut (i := 4) (c := 3) (x := .ms 5 1 0 ((List.map (fun n => [ei n]) tb).length + 1)) rfl rfl rfl (by repeat' (first | (show 0 + _ ≤ List.length _; simp))) (show ¬ (4 ∈ ([5] : List Nat)) by decide) (ALe.pv (whole_le (f := fun n => [ei n]) (l := b0 :: tb) (by simp)))) (back [0, 1, 2, 3, 4] rfl rfl (by repeat' (first | exact trivial | exact rfl | refine And.intro ?_ ?_)) (by repeat' (first | exact trivial | exact rfl | refine And.intro ?_ ?_)))⟩
                    · repeat' (first | ((change vcFunD _ _ _ _ _; refine callD_cost 0 rfl (by assumption) (by assumption) ?_; intro cn kc hcn hkc)) | (refine app_consm (f := fun n => [ei n]) cn rfl ?_) | refine o1 ?_ | refine o2 ?_ | refine k1 ?_ | refine k2 ?_ | refine k3 ?_ | refine k4 ?_ | refine k6 ?_ | refine And.intro ?_ ?_ | refine o3 ?_ | refine o4 ?_ | (intro h; first | exact Bool.noConfusion h | exact nz _ h | exact nl h | (simp at h; done) | (simp at h; first | (exfalso; omega) | skip) | skip) | (refine (?_ : srcLen _ = rowsLen _); rfl) | exact (by kernel_rfl : drawOk _ _ = true) | refine eqv_wrap (by omega) (by omega) ?_ | (refine (?_ : _ ≤ 140737488355328); simp [rowsLen] <;> omega) | (refine (?_ : _ ≤ 9223372036854775807); simp [rowsLen] <;> omega) | (refine (?_ : _ = rowsLen _); simp [rowsLen] <;> omega) | fail)
                      exact ⟨(j - 1, kc, b0 :: (tb ++ [cn])), ⟨by show j - 1 + List.length _ = _; simp; try omega, hkc, all_app (l := b0 :: tb) t3 hcn⟩, (by show j - 1 < j; omega), back [0, 1, 2, 3, 4, 7] rfl rfl (by repeat' (first | exact trivial | exact rfl | refine And.intro ?_ ?_)) ⟨slot_eq rfl (congrArg (vint .i64) (by show _ = ((j - 1 : Nat) : Int); omega)), (by repeat' (first | exact trivial | exact rfl | refine And.intro ?_ ?_))⟩⟩
                · refine ⟨?_⟩
                  rintro ⟨k, tb⟩ ⟨f1, f2, f3⟩
                  dsimp only at f1 f2 f3
                  dsimp only [slP, obP, zeroM, mb, ob5, pb4, nilA, List.map, List.length_cons, List.length_nil, List.length_map]
                  repeat' (first | refine o1 ?_ | refine o2 ?_ | refine k2 ?_ | refine And.intro ?_ ?_ | (intro h; first | exact Bool.noConfusion h | exact nz _ h | exact nl h | (simp at h; done) | (simp at h; first | (exfalso; omega) | skip) | skip) | (refine (?_ : srcLen _ = rowsLen _); rfl) | exact Nat.le_of_ble_eq_true rfl | refine eqv_wrap (by omega) (by omega) ?_ | refine eqv_to _ (app_first rfl) (eqv_to 1 rfl ?_) | fail)
                  exact ⟨(kk + 1, k, [Pair.mk i kk u tb]), ⟨⟨by show i < kk + 1; omega, by show kk + 1 ≤ _; omega⟩, f1, j3.app (pair_made hla hlb j0 hu1 f2 f3)⟩, (by show _ - (kk + 1) < _; omega), back [0, 1, 2, 6] rfl rfl (by repeat' (first | exact trivial | exact rfl | refine And.intro ?_ ?_)) (by repeat' (first | exact trivial | exact rfl | refine And.intro ?_ ?_))⟩
                · exact ⟨(kk + 1, kq, []), ⟨⟨by show i < kk + 1; omega, by show kk + 1 ≤ _; omega⟩, hkq, j3.skip⟩, (by show _ - (kk + 1) < _; omega), back [0, 1, 2, 3] rfl rfl (by repeat' (first | exact trivial | exact rfl | refine And.intro ?_ ?_)) (by repeat' (first | exact trivial | exact rfl | refine And.intro ?_ ?_))⟩
              · repeat' (first | refine o1 ?_ | refine o2 ?_ | refine k1 ?_ | refine k2 ?_ | refine k3 ?_ | refine k8 ?_ | refine And.intro ?_ ?_ | (intro h; first | exact Bool.noConfusion h | exact nz _ h | exact nl h | (simp at h; done) | (simp at h; first | (exfalso; omega) | skip) | skip) | refine eqv_len_map ?_ | refine eqv_wrap (by omega) (by omega) ?_ | fail)
                exact ⟨(i + 1, k, []), ⟨by show i + 1 ≤ _; omega, j2, j3.toI (by omega)⟩, (by show _ - (i + 1) < _; omega), back [0, 1, 2, 3] rfl rfl (by repeat' (first | exact trivial | exact rfl | refine And.intro ?_ ?_)) (by repeat' (first | exact trivial | exact rfl | refine And.intro ?_ ?_))⟩
            · simp only [List.length_cons, List.length_nil] at jl
              dsimp only [slP, obP, zeroM, mb, ob5, pb4, nilA, List.map, List.length_cons, List.length_nil, List.length_map]
              rcases Nat.lt_or_ge kk cls.length with hkk | hkk
              · obtain ⟨la, hla⟩ := getE hi1
                obtain ⟨lb, hlb⟩ := getE hkk
                have hq1 := hcls la (List.mem_of_getElem? hla)
                have hq2 := hcls lb (List.mem_of_getElem? hlb)
                have hab : la.length * lb.length ≤ 16 := Nat.mul_le_mul hq1.2.1 hq2.2.1
                have hcast : ((la.length * lb.length : Nat) : Int) = (la.length : Int) * lb.length := by simp
                have hab1 : (la.length : Int) * lb.length ≤ 16 := by omega
                have hab0 : (0 : Int) ≤ (la.length : Int) * lb.length := by omega
                repeat' (first | (refine idx_sl (k := i) (at_map hla) (by omega) ?_) | (refine idx_sl (k := kk) (at_map hlb) (by omega) ?_) | (refine join_in (a := .seq (.region 29 _ _) _) (fun _ => []) (fun x : Nat × List Int => [dice t x.1, zeroM, mb (.pv (.sl 1 (cls.map optsRow))) (slP 3 4 (List.map Pair.row (p0 :: prs))) nilA r, obP 82 4 (List.map Pair.row (p0 :: prs)), pb4 i kk u (.pv (encInts x.2))]) (fun x => x.1 ≤ t.length ∧ x.2.length = la.length * lb.length ∧ ∀ y ∈ x.2, y = 0 ∨ priceP y) ?_) | refine o1 ?_ | refine o2 ?_ | refine k1 ?_ | refine k2 ?_ | refine k3 ?_ | refine k4 ?_ | refine k6 ?_ | refine And.intro ?_ ?_ | refine o3 ?_ | refine o4 ?_ | (intro h; first | exact Bool.noConfusion h | exact nz _ h | exact nl h | (simp at h; done) | (simp at h; first | (exfalso; omega) | skip) | skip) | exact (by kernel_rfl : drawOk _ _ = true) | refine eqv_len_map ?_ | refine eqv_wrap (by omega) (by omega) ?_ | (change vcFun _ _ _ _ _; refine call_one2 0 rfl (by assumption) (by assumption) (by omega) (by omega) ?_; intro bq kq hkq) | fail)
                · refine loop_in (fun x : Nat × Nat × List Int => [(18, vint .i64 x.1)]) (fun x => [dice t x.2.1, zeroM, mb (.pv (.sl 1 (cls.map optsRow))) (slP 3 4 (List.map Pair.row (p0 :: prs))) nilA r, obP 82 4 (List.map Pair.row (p0 :: prs)), pb4 i kk u (slP 5 1 (List.map (fun n => [ei n]) (x.2.2))), obP 3 1 (List.map (fun n => [ei n]) (x.2.2))]) (fun x => x.1 + x.2.2.length = la.length * lb.length ∧ x.2.1 ≤ t.length ∧ ∀ y ∈ x.2.2, y = 0 ∨ priceP y) (fun x => x.1) (la.length * lb.length, kq, []) ⟨by simp, hkq, fun y hy => absurd hy List.not_mem_nil⟩ ⟨?_, ?_⟩
                  · exact back [0, 1, 2, 3, 4, 5] rfl rfl (by repeat' (first | exact trivial | exact rfl | refine And.intro ?_ ?_)) ⟨slot_eq rfl (congrArg (vint .i64) hcast.symm), (by repeat' (first | exact trivial | exact rfl | refine And.intro ?_ ?_))⟩
                  rintro ⟨j, k, tb⟩ ⟨t1, t2, t3⟩
                  dsimp only at t1 t2 t3
                  rcases tb with _ | ⟨b0, tb⟩
                  · simp only [List.length_cons, List.length_nil] at t1
                    dsimp only [slP, obP, zeroM, mb, ob5, pb4, nilA, List.map, List.length_cons, List.length_nil, List.length_map]
                    rcases Nat.eq_zero_or_pos j with rfl | hj
                    · repeat' (first | refine o1 ?_ | refine o2 ?_ | refine k1 ?_ | refine k2 ?_ | refine k3 ?_ | refine k8 ?_ | refine And.intro ?_ ?_ | (intro h; first | exact Bool.noConfusion h | exact nz _ h | exact nl h | (simp at h; done) | (simp at h; first | (exfalso; omega) | skip) | skip) | fail)
                      exact ⟨(k, []), ⟨t2, by simp; omega, t3⟩, Ghost.trans (Ghost.shut (i := 4) (c := 3) (x := .pv (.val (.slice none 0 0))) rfl rfl rfl (by repeat' (first | trivial)) (show ¬ (4 ∈ ([] : List Nat)) by decide) (ALe.pv PLe.nil)) (back [0, 1, 2, 3, 4] rfl rfl (by repeat' (first | exact trivial | exact rfl | refine And.intro ?_ ?_)) (by repeat' (first | exact trivial | exact rfl | refine And.intro ?_ ?_)))⟩
                    · repeat' (first | ((change vcFunD _ _ _ _ _; refine callD_cost 0 rfl (by assumption) (by assumption) ?_; intro cn kc hcn hkc)) | refine o1 ?_ | refine o2 ?_ | refine k1 ?_ | refine k2 ?_ | refine k3 ?_ | refine k4 ?_ | refine k6 ?_ | refine And.intro ?_ ?_ | refine o3 ?_ | refine o4 ?_ | (intro h; first | exact Bool.noConfusion h | exact nz _ h | exact nl h | (simp at h; done) | (simp at h; first | (exfalso; omega) | skip) | skip) | (refine (?_ : srcLen _ = rowsLen _); rfl) | exact Nat.le_of_ble_eq_true rfl | exact (by kernel_rfl : drawOk _ _ = true) | refine eqv_wrap (by omega) (by omega) ?_ | refine eqv_to _ (app_first rfl) (eqv_to 1 rfl ?_) | fail)
                      exact ⟨(j - 1, kc, [cn]), ⟨by show j - 1 + List.length _ = _; simp; try omega, hkc, all_app (l := []) t3 hcn⟩, (by show j - 1 < j; omega), back [0, 1, 2, 3, 4, 7] rfl rfl (by repeat' (first | exact trivial | exact rfl | refine And.intro ?_ ?_)) ⟨slot_eq rfl (congrArg (vint .i64) (by show _ = ((j - 1 : Nat) : Int); omega)), (by repeat' (first | exact trivial | exact rfl | refine And.intro ?_ ?_))⟩⟩
                  · simp only [List.length_cons, List.length_nil] at t1
                    dsimp only [slP, obP, zeroM, mb, ob5, pb4, nilA, List.map, List.length_cons, List.length_nil, List.length_map]
                    rcases Nat.eq_zero_or_pos j with rfl | hj
                    · repeat' (first | refine o1 ?_ | refine o2 ?_ | refine k1 ?_ | refine k2 ?_ | refine k3 ?_ | refine k8 ?_ | refine And.intro ?_ ?_ | (intro h; first | exact Bool.noConfusion h | exact nz _ h | exact nl h | (simp at h; done) | (simp at h; first | (exfalso; omega) | skip) | skip) | fail)
                      exact ⟨(k, b0 :: tb), ⟨t2, by simp only [List.length_cons]; omega, t3⟩, Ghost.trans (Ghost.shut (i := 4) (c := 3) (x := .ms 5 1 0 ((List.map (fun n => [ei n]) tb).length + 1)) rfl rfl rfl (by repeat' (first | (show 0 + _ ≤ List.length _; simp))) (show ¬ (4 ∈ ([5] : List Nat)) by decide) (ALe.pv (whole_le (f := fun n => [ei n]) (l := b0 :: tb) (by simp)))) (back [0, 1, 2, 3, 4] rfl rfl (by repeat' (first | exact trivial | exact rfl | refine And.intro ?_ ?_)) (by repeat' (first | exact trivial | exact rfl | refine And.intro ?_ ?_)))⟩
                    · repeat' (first | ((change vcFunD _ _ _ _ _; refine callD_cost 0 rfl (by assumption) (by assumption) ?_; intro cn kc hcn hkc)) | (refine app_consm (f := fun n => [ei n]) cn rfl ?_) | refine o1 ?_ | refine o2 ?_ | refine k1 ?_ | refine k2 ?_ | refine k3 ?_ | refine k4 ?_ | refine k6 ?_ | refine And.intro ?_ ?_ | refine o3 ?_ | refine o4 ?_ | (intro h; first | exact Bool.noConfusion h | exact nz _ h | exact nl h | (simp at h; done) | (simp at h; first | (exfalso; omega) | skip) | skip) | (refine (?_ : srcLen _ = rowsLen _); rfl) | exact (by kernel_rfl : drawOk _ _ = true) | refine eqv_wrap (by omega) (by omega) ?_ | (refine (?_ : _ ≤ 140737488355328); simp [rowsLen] <;> omega) | (refine (?_ : _ ≤ 9223372036854775807); simp [rowsLen] <;> omega) | (refine (?_ : _ = rowsLen _); simp [rowsLen] <;> omega) | fail)
                      exact ⟨(j - 1, kc, b0 :: (tb ++ [cn])), ⟨by show j - 1 + List.length _ = _; simp; try omega, hkc, all_app (l := b0 :: tb) t3 hcn⟩, (by show j - 1 < j; omega), back [0, 1, 2, 3, 4, 7] rfl rfl (by repeat' (first | exact trivial | exact rfl | refine And.intro ?_ ?_)) ⟨slot_eq rfl (congrArg (vint .i64) (by show _ = ((j - 1 : Nat) : Int); omega)), (by repeat' (first | exact trivial | exact rfl | refine And.intro ?_ ?_))⟩⟩
                · refine ⟨?_⟩
                  rintro ⟨k, tb⟩ ⟨f1, f2, f3⟩
                  dsimp only at f1 f2 f3
                  dsimp only [slP, obP, zeroM, mb, ob5, pb4, nilA, List.map, List.length_cons, List.length_nil, List.length_map]
                  repeat' (first | (refine app_consm (f := Pair.row) (Pair.mk i kk u tb) rfl ?_) | refine o1 ?_ | refine o2 ?_ | refine k2 ?_ | refine And.intro ?_ ?_ | (refine (?_ : srcLen _ = rowsLen _); rfl) | refine eqv_wrap (by omega) (by omega) ?_ | (refine (?_ : _ ≤ 140737488355328); simp [rowsLen] <;> omega) | (refine (?_ : _ ≤ 9223372036854775807); simp [rowsLen] <;> omega) | (refine (?_ : _ = rowsLen _); simp [rowsLen] <;> omega) | fail)
                  exact ⟨(kk + 1, k, p0 :: (prs ++ [Pair.mk i kk u tb])), ⟨⟨by show i < kk + 1; omega, by show kk + 1 ≤ _; omega⟩, f1, j3.app (pair_made hla hlb j0 hu1 f2 f3)⟩, (by show _ - (kk + 1) < _; omega), back [0, 1, 2, 6] rfl rfl (by repeat' (first | exact trivial | exact rfl | refine And.intro ?_ ?_)) (by repeat' (first | exact trivial | exact rfl | refine And.intro ?_ ?_))⟩
                · exact ⟨(kk + 1, kq, p0 :: prs), ⟨⟨by show i < kk + 1; omega, by show kk + 1 ≤ _; omega⟩, hkq, j3.skip⟩, (by show _ - (kk + 1) < _; omega), back [0, 1, 2, 3] rfl rfl (by repeat' (first | exact trivial | exact rfl | refine And.intro ?_ ?_)) (by repeat' (first | exact trivial | exact rfl | refine And.intro ?_ ?_))⟩
              · repeat' (first | refine o1 ?_ | refine o2 ?_ | refine k1 ?_ | refine k2 ?_ | refine k3 ?_ | refine k8 ?_ | refine And.intro ?_ ?_ | (intro h; first | exact Bool.noConfusion h | exact nz _ h | exact nl h | (simp at h; done) | (simp at h; first | (exfalso; omega) | skip) | skip) | refine eqv_len_map ?_ | refine eqv_wrap (by omega) (by omega) ?_ | fail)
                exact ⟨(i + 1, k, p0 :: prs), ⟨by show i + 1 ≤ _; omega, j2, j3.toI (by omega)⟩, (by show _ - (i + 1) < _; omega), back [0, 1, 2, 3] rfl rfl (by repeat' (first | exact trivial | exact rfl | refine And.intro ?_ ?_)) (by repeat' (first | exact trivial | exact rfl | refine And.intro ?_ ?_))⟩
        · rcases prs with _ | ⟨p0, prs⟩
          · dsimp only [slP, obP, zeroM, mb, ob5, pb4, nilA, List.map, List.length_cons, List.length_nil, List.length_map]
            repeat' (first | refine o1 ?_ | refine o2 ?_ | refine k1 ?_ | refine k2 ?_ | refine k3 ?_ | refine k8 ?_ | refine And.intro ?_ ?_ | (intro h; first | exact Bool.noConfusion h | exact nz _ h | exact nl h | (simp at h; done) | (simp at h; first | (exfalso; omega) | skip) | skip) | refine eqv_len_map ?_ | refine eqv_wrap (by omega) (by omega) ?_ | fail)
            exact ⟨(u + 1, k, []), ⟨by show u + 1 ≤ _; omega, i2, i3.toU (by omega)⟩, (by show _ - (u + 1) < _; omega), back [0, 1, 2, 3] rfl rfl (by repeat' (first | exact trivial | exact rfl | refine And.intro ?_ ?_)) (by repeat' (first | exact trivial | exact rfl | refine And.intro ?_ ?_))⟩
          · dsimp only [slP, obP, zeroM, mb, ob5, pb4, nilA, List.map, List.length_cons, List.length_nil, List.length_map]
            repeat' (first | refine o1 ?_ | refine o2 ?_ | refine k1 ?_ | refine k2 ?_ | refine k3 ?_ | refine k8 ?_ | refine And.intro ?_ ?_ | (intro h; first | exact Bool.noConfusion h | exact nz _ h | exact nl h | (simp at h; done) | (simp at h; first | (exfalso; omega) | skip) | skip) | refine eqv_len_map ?_ | refine eqv_wrap (by omega) (by omega) ?_ | fail)
            exact ⟨(u + 1, k, p0 :: prs), ⟨by show u + 1 ≤ _; omega, i2, i3.toU (by omega)⟩, (by show _ - (u + 1) < _; omega), back [0, 1, 2, 3] rfl rfl (by repeat' (first | exact trivial | exact rfl | refine And.intro ?_ ?_)) (by repeat' (first | exact trivial | exact rfl | refine And.intro ?_ ?_))⟩
      · obtain rfl : u = r.toNat := by omega
        repeat' (first | refine o1 ?_ | refine o2 ?_ | refine k1 ?_ | refine k2 ?_ | refine k3 ?_ | refine k8 ?_ | refine And.intro ?_ ?_ | (intro h; first | exact Bool.noConfusion h | exact nz _ h | exact nl h | (simp at h; done) | (simp at h; first | (exfalso; omega) | skip) | skip) | fail)
        exact ⟨(k, p0 :: prs), ⟨u2, u3.at_, by simp only [List.length_cons]; omega⟩, Ghost.trans (Ghost.shut (i := 2) (c := 1) (x := .ms 3 4 0 ((List.map Pair.row prs).length + 1)) rfl rfl rfl (by repeat' (first | (show 0 + _ ≤ List.length _; simp))) (show ¬ (2 ∈ ([3] : List Nat)) by decide) (ALe.pv (whole_le (f := Pair.row) (l := p0 :: prs) (by simp)))) (back [0, 1, 2] rfl rfl (by repeat' (first | exact trivial | exact rfl | refine And.intro ?_ ?_)) (by repeat' (first | exact trivial | exact rfl | refine And.intro ?_ ?_)))⟩
  · exact later
end Go.Proofs.YtfdjcpodkhpgcaaGreat.Cw
