/-
  Part 6 of the proof (SYL, SYM, SYN, M8, SW2, SW3, SD1, SD2, RB, D1, D2, Mk1, SE1, SE2, SE3, SE4): what later parts use. No conditions.
-/
import Derived.Test.YtihpjcmloecaaaaGreatMJ5
/-
  Symmetry: the sets of rooms that can be exchanged, by the reference.
-/
namespace Go.Proofs.YtihpjcmloecaaaaGreat.Cw
open Go Go.Cw Go.Proofs
set_option linter.unusedVariables false
set_option maxRecDepth 100000
set_option maxHeartbeats 8000000
theorem sw_iff {m : Model} {x b : Int} : swB m x b = true ↔ swapP m x b := by unfold swB; simp
noncomputable def dnL (m : Model) (V : List Int) (x : Int) (i k : Nat) (D : List Bool) : List Bool := D.mapIdx fun j d => d || (decide (i < j ∧ j < k) && swB m x (V.getD j 0))
section
variable {m : Model} {V : List Int} {x : Int} {i k : Nat} {D : List Bool}
end
structure Rms (m : Model) (V : List Int) (i : Nat) (D : List Bool) (OUT : List (List Int)) : Prop where
  len : D.length = V.length
  out : OUT ++ setsF m (utk (D.drop i) (V.drop i)).length (utk (D.drop i) (V.drop i)) = setsF m V.length V
  many : OUT.length ≤ i
  done : ∀ k, i ≤ k → D[k]? = some true → ∃ (j : Nat) (y z : Int), j < i ∧ V[j]? = some y ∧ V[k]? = some z ∧ swB m y z = true ∧ ∀ (k' : Nat) (w : Int), j < k' → V[k']? = some w → swB m y w = true → D[k']? = some true
section
variable {m : Model} {V : List Int} {i : Nat} {D : List Bool} {OUT : List (List Int)}
end
end Go.Proofs.YtihpjcmloecaaaaGreat.Cw
/-
  Symmetry: Rooms by the reference.
-/
namespace Go.Proofs.YtihpjcmloecaaaaGreat.Cw
open Go Go.Cw Go.Proofs
set_option linter.unusedVariables false
set_option maxRecDepth 100000
set_option maxHeartbeats 8000000
end Go.Proofs.YtihpjcmloecaaaaGreat.Cw
/-
  Symmetry: equal lists of lists.
-/
namespace Go.Proofs.YtihpjcmloecaaaaGreat.Cw
open Go Go.Cw Go.Proofs
set_option linter.unusedVariables false
set_option maxRecDepth 100000
set_option maxHeartbeats 8000000
theorem c_sameIntsR (l : List Int) (hl : l.length ≤ 100000) : PCall Tryz.prog 21 [.pv (.sl 1 (l.map intRow)), .pv (.sl 1 (l.map intRow))] (fun r => r = vbool true) := c_sameInts l hl
theorem setsF_len {m : Model} : ∀ {n : Nat} {l : List Int}, (setsF m n l).length ≤ l.length ∧ ∀ s ∈ setsF m n l, s.length ≤ l.length
  | 0, l => ⟨Nat.zero_le _, by simp [setsF]⟩
  | n + 1, [] => ⟨Nat.zero_le _, by simp [setsF]⟩
  | n + 1, x :: l => by
    obtain ⟨h1, h2⟩ := setsF_len (m := m) (n := n) (l := l.filter fun b => !swB m x b)
    have h3 := List.length_filter_le (fun b => !swB m x b) l
    have h4 := List.length_filter_le (swB m x) l
    unfold setsF
    split
    · rw [List.nil_append]
      refine ⟨by simp only [List.length_cons]; omega, fun s hs => ?_⟩
      have := h2 s hs
      simp only [List.length_cons]; omega
    · refine ⟨by simp only [List.length_append, List.length_cons, List.length_nil]; omega, fun s hs => ?_⟩
      rcases List.mem_append.1 hs with hs | hs
      · simp at hs; subst hs; simp only [List.length_cons]; omega
      · have := h2 s hs
        simp only [List.length_cons]; omega
theorem setsV_len {m : Model} : (setsV m).length ≤ 576 ∧ ∀ s ∈ setsV m, s.length ≤ 576 := by
  unfold setsV
  split
  · rename_i h
    have h1 := rooms_len (model_sized h)
    obtain ⟨h2, h3⟩ := setsF_len (m := m) (n := (roomsV m).length) (l := roomsV m)
    exact ⟨by omega, fun s hs => by have := h3 s hs; omega⟩
  · exact ⟨by simp, by simp⟩
end Go.Proofs.YtihpjcmloecaaaaGreat.Cw
/-
  Contracts: the places of a plan.
-/
namespace Go.Proofs.YtihpjcmloecaaaaGreat.Cw
open Go.Cw Go.Proofs
set_option linter.unusedVariables false
set_option maxRecDepth 100000
set_option maxHeartbeats 1600000
def plc (m : Model) (plan : List Int) (i : Nat) : Option Placed := match m.classes[i]?, plan[i]? with
  | some l, some o => (l[o.toNat]?).map Opt.place
  | _, _ => none
def placesTo (m : Model) (plan : List Int) (n : Nat) : List Placed := (List.range n).filterMap (plc m plan)
noncomputable def placesV (m : Model) (plan : List Int) : List Placed := if completeE m plan = 0 then placesTo m plan plan.length else []
def mbox (m : Model) : Option AObj := some ⟨29, 4, false, .box [.pv (.sl 1 (m.classes.map optsRow)), .pv (.sl 4 (m.pairs.map Pair.row)), .pv (.sl 4 (m.counts.map Count.row)), vint .i64 m.rules]⟩
end Go.Proofs.YtihpjcmloecaaaaGreat.Cw
/-
  Symmetry: sets of rooms, and plans (program's side).
-/
namespace Go.Proofs.YtihpjcmloecaaaaGreat.Cw
open Go Go.Cw Go.Proofs
set_option linter.unusedVariables false
set_option maxRecDepth 100000
set_option maxHeartbeats 8000000
noncomputable def setF (S : List (List Int)) (r : Int) : List Int := (S.find? fun s => pB (r ∈ s)).getD []
theorem find_take_none {α : Type} {f : α → Bool} {l : List α} {i : Nat} {x : α} (h : ∀ j, j < i → ∀ y, l[j]? = some y → f y = false) (hx : l[i]? = some x) (hf : f x = true) : l.find? f = some x := by
  induction l generalizing i with
  | nil => simp at hx
  | cons a l ih =>
    cases i with
    | zero => simp at hx; subst hx; rw [List.find?_cons, hf]
    | succ i =>
      rw [List.find?_cons, h 0 (by omega) a rfl]
      exact ih (i := i) (fun j hj y hy => h (j + 1) (Nat.succ_lt_succ hj) y (by simpa using hy)) (by simpa using hx)
theorem find_all_none {α : Type} {f : α → Bool} {l : List α} (h : ∀ j, j < l.length → ∀ y, l[j]? = some y → f y = false) : l.find? f = none := by
  rw [List.find?_eq_none]
  intro x hx
  obtain ⟨j, hj⟩ := List.getElem?_of_mem hx
  rw [h j (List.getElem?_eq_some_iff.1 hj).1 x hj]; decide
theorem c_setOf0 (S : List (List Int)) (r : Int) (hS : S.length ≤ 100000) (hs : ∀ s ∈ S, s.length ≤ 100000) : PCall Tryz.prog 47 [.pv (.sl 1 (S.map lstRow)), vint .i64 r] (fun x => Leq x (.pv (.sl 1 ((setF S r).map intRow)))) := by
  refine acall_of tok mixed 18 rfl (fn := Tryz.f47) (c := Tryz.f47.body.getD .skip) (by kernel_rfl) (by kernel_rfl) (by kernel_rfl) rfl 0 rfl ?_
  repeat' (first | refine o1 ?_ | refine o2 ?_ | refine k1 ?_ | refine k2 ?_ | refine k4 ?_ | refine eqv_len_map ?_ | fail)
  refine loop_for (fun i : Nat => [(1, vint .i64 r), (7, .pv (.sl 1 (S.map lstRow))), (8, vint .i64 S.length), (9, vint .i64 i)]) (fun _ => [])
    (fun i => i ≤ S.length ∧ ∀ j, j < i → ∀ y, S[j]? = some y → pB (r ∈ y) = false) (fun i => S.length - i) 0 ⟨Nat.zero_le _, fun j hj => absurd hj (Nat.not_lt_zero _)⟩ ?_ ?_
  · exact back [] rfl rfl trivial (by repeat' (first | exact trivial | exact rfl | refine And.intro ?_ ?_))
  rintro i ⟨hi, hn⟩
  rcases Nat.lt_or_ge i S.length with hlt | hge
  · obtain ⟨s, hs1⟩ := getE hlt
    have hc := c_containsN s r (hs s (List.mem_of_getElem? hs1))
    cases hb : pB (r ∈ s)
    · rw [hb] at hc
      repeat' (first | (refine idx_sl (k := i) (at_map hs1) (by omega) ?_) | refine o1 ?_ | refine o2 ?_ | refine k1 ?_ | refine k2 ?_ | refine k3 ?_ | refine k4 ?_ | refine k6 ?_ | refine And.intro ?_ ?_ | (intro h; first | exact Bool.noConfusion h | exact nz _ h | exact nl h | (simp at h; done) | (simp at h; first | (exfalso; omega) | skip) | skip) | refine eqv_wrap (by omega) (by omega) ?_ | (change vcFun _ _ _ _ _; refine call_eq rfl (by repeat' (first | trivial | refine And.intro ?_ ?_ | (show 0 + _ ≤ List.length _; simp))) ALeL.refl (hc) rfl ?_) | fail)
      all_goals first
        | (exfalso; omega)
        | exact ⟨i + 1, ⟨by omega, fun j hj y hy => by
            rcases Nat.lt_or_ge j i with h1 | h1
            · exact hn j h1 y hy
            · obtain rfl : j = i := by omega
              rw [hs1] at hy; cases hy; exact hb⟩, by omega, back [] rfl rfl trivial (by repeat' (first | exact trivial | exact rfl | refine And.intro ?_ ?_))⟩
    · rw [hb] at hc
      have e : setF S r = s := by unfold setF; rw [find_take_none hn hs1 hb]; rfl
      rw [e]
      repeat' (first | (refine idx_sl (k := i) (at_map hs1) (by omega) ?_) | refine o1 ?_ | refine o2 ?_ | refine k1 ?_ | refine k2 ?_ | refine k3 ?_ | refine k4 ?_ | refine k6 ?_ | refine k7 ?_ | refine And.intro ?_ ?_ | (intro h; first | exact Bool.noConfusion h | exact nz _ h | exact nl h | (simp at h; done) | (simp at h; first | (exfalso; omega) | skip) | skip) | (change retOk _ _ _ _; refine ret_pure rfl trivial ?_) | (change vcFun _ _ _ _ _; refine call_eq rfl (by repeat' (first | trivial | refine And.intro ?_ ?_ | (show 0 + _ ≤ List.length _; simp))) ALeL.refl (hc) rfl ?_) | fail)
      all_goals first
        | (exfalso; omega)
        | exact ⟨ALe.refl⟩
  · have e : setF S r = [] := by unfold setF; rw [find_all_none fun j hj => hn j (by omega)]; rfl
    rw [e]
    repeat' (first | refine o1 ?_ | refine o2 ?_ | refine k1 ?_ | refine k2 ?_ | refine k3 ?_ | refine k7 ?_ | refine k8 ?_ | refine And.intro ?_ ?_ | (intro h; first | exact Bool.noConfusion h | exact nz _ h | exact nl h | (simp at h; done) | (simp at h; first | (exfalso; omega) | skip) | skip) | (change retOk _ _ _ _; refine ret_pure rfl trivial ?_) | fail)
    all_goals first
      | (exfalso; omega)
      | exact ⟨ALe.pv PLe.nil⟩
theorem c_setOf (S : List (List Int)) (r : Int) (hS : S.length ≤ 100000) (hs : ∀ s ∈ S, s.length ≤ 100000) : PCall Tryz.prog 47 [.pv (.sl 1 (S.map lstRow)), vint .i64 r] (fun x => x = .pv (.sl 1 ((setF S r).map intRow))) := (c_setOf0 S r hS hs).weak fun r k => ⟨_, k.le, rfl⟩
def isPlanP (m : Model) (plan : List Int) : Prop := plan.length = m.classes.length ∧ ∀ j : Nat, j < plan.length → ∀ o l, plan[j]? = some o → m.classes[j]? = some l → -1 ≤ o ∧ o < l.length
theorem c_isPlan (m : Model) (plan : List Int) (hz : sizedP m) : PCall Tryz.prog 43 [ag m.cells, .pv (encInts plan)] (fun r => r = vbool (pB (isPlanP m plan))) := by
  refine acall_of tok mixed 33 rfl (fn := Tryz.f43) (c := Tryz.f43.body.getD .skip) (by kernel_rfl) (by kernel_rfl) (by kernel_rfl) rfl 0 rfl ?_
  have hcn := hz.1
  repeat' (first | refine o1 ?_ | refine o2 ?_ | refine k1 ?_ | refine k2 ?_ | refine k3 ?_ | refine k4 ?_ | refine k6 ?_ | refine k7 ?_ | refine And.intro ?_ ?_ | (intro h; first | exact Bool.noConfusion h | exact nz _ h | exact nl h | (simp at h; done) | (simp at h; first | (exfalso; omega) | skip) | skip) | (change retOk _ _ _ _; refine ret_pure rfl trivial ?_) | refine eqv_len_map ?_ | fail)
  all_goals first
    | exact congrArg vbool (pB_f fun h => by have := h.1; omega).symm
    | skip
  have hpl : plan.length = m.classes.length := by omega
  refine loop_for (fun i : Nat => [(2, .ptr 0 4 0 0), (13, .pv (encInts plan)), (14, vint .i64 plan.length), (15, vint .i64 i)]) (fun _ => [some ⟨29, 4, false, .box [.pv (.sl 1 (m.classes.map optsRow)), .pv (.sl 4 (m.pairs.map Pair.row)), .pv (.sl 4 (m.counts.map Count.row)), .pv (ei m.rules)]⟩])
    (fun i => i ≤ plan.length ∧ ∀ j : Nat, j < i → ∀ o l, plan[j]? = some o → m.classes[j]? = some l → -1 ≤ o ∧ o < l.length) (fun i => plan.length - i) 0 ⟨Nat.zero_le _, fun j hj => absurd hj (Nat.not_lt_zero _)⟩ ?_ ?_
  · exact back [0] rfl rfl (by repeat' (first | exact trivial | exact rfl | refine And.intro ?_ ?_)) (by repeat' (first | exact trivial | exact rfl | refine And.intro ?_ ?_))
  rintro i ⟨hi, hall⟩
  rcases Nat.lt_or_ge i plan.length with hlt | hge
  · obtain ⟨o, ho⟩ := getE hlt
    obtain ⟨l, hl⟩ := getE (l := m.classes) (i := i) (by omega)
    have hln := hz.2.1 l (List.mem_of_getElem? hl)
    have hstep : -1 ≤ o → o < l.length → ∀ j : Nat, j < i + 1 → ∀ o l, plan[j]? = some o → m.classes[j]? = some l → -1 ≤ o ∧ o < l.length := fun h1 h2 j hj o' l' ho' hl' => by
      rcases Nat.lt_or_ge j i with h3 | h3
      · exact hall j h3 o' l' ho' hl'
      · obtain rfl : j = i := by omega
        rw [ho] at ho'; rw [hl] at hl'; cases ho'; cases hl'; exact ⟨h1, h2⟩
    repeat' (first | (refine idx_sl (k := i) (at_map ho) (by omega) ?_) | (refine idx_sl (k := i) (at_map hl) (by omega) ?_) | refine o1 ?_ | refine o2 ?_ | refine k1 ?_ | refine k2 ?_ | refine k3 ?_ | refine k4 ?_ | refine k6 ?_ | refine k7 ?_ | refine And.intro ?_ ?_ | (intro h; first | exact Bool.noConfusion h | exact nz _ h | exact nl h | (simp at h; done) | (simp at h; first | (exfalso; omega) | skip) | skip) | (change retOk _ _ _ _; refine ret_pure rfl trivial ?_) | refine eqv_len_map ?_ | refine eqv_wrap (by omega) (by omega) ?_ | fail)
    all_goals first
      | (refine congrArg vbool (pB_f fun h => ?_).symm; have := h.2 i hlt o l ho hl; omega)
      | exact ⟨i + 1, ⟨by omega, hstep (by omega) (by omega)⟩, by omega, back [0] rfl rfl (by repeat' (first | exact trivial | exact rfl | refine And.intro ?_ ?_)) (by repeat' (first | exact trivial | exact rfl | refine And.intro ?_ ?_))⟩
  · repeat' (first | refine o1 ?_ | refine o2 ?_ | refine k1 ?_ | refine k2 ?_ | refine k3 ?_ | refine k7 ?_ | refine k8 ?_ | refine And.intro ?_ ?_ | (intro h; first | exact Bool.noConfusion h | exact nz _ h | exact nl h | (simp at h; done) | (simp at h; first | (exfalso; omega) | skip) | skip) | (change retOk _ _ _ _; refine ret_pure rfl trivial ?_) | fail)
    all_goals first
      | exact congrArg vbool (pB_t ⟨hpl, fun j hj => hall j (by omega)⟩).symm
end Go.Proofs.YtihpjcmloecaaaaGreat.Cw
/-
  Symmetry: the least plan that arises from a plan (program's side).
-/
namespace Go.Proofs.YtihpjcmloecaaaaGreat.Cw
open Go Go.Cw Go.Proofs
set_option linter.unusedVariables false
set_option maxRecDepth 100000
set_option maxHeartbeats 8000000
def numM (f : Int × Int → Int × PV) : Nat → List (Int × Int) → List (Value × Nat × AV)
  | _, [] => []
  | b, e :: E => (.int .i64 (f e).1, b, .pv (f e).2) :: numM f (b + 1) E
section
variable {f : Int × Int → Int × PV} {k : Int}
theorem numM_get : ∀ {E : List (Int × Int)} {b : Nat}, getM (.int .i64 k) (numM f b E) = (E.find? fun e => k == (f e).1).map fun e => .pv (f e).2
  | [], b => rfl
  | e :: E, b => by
    simp only [numM, getM, List.find?_cons]
    show (bif k == (f e).1 then _ else _) = _
    cases k == (f e).1
    · exact numM_get
    · rfl
theorem numM_put {v : AV} {ck : Nat} : ∀ {E : List (Int × Int)} {b : Nat}, (E.find? fun e => k == (f e).1) = none → putM (.int .i64 k) v ck (numM f b E) = numM f b E ++ [(.int .i64 k, ck, v)]
  | [], b, _ => rfl
  | e :: E, b, h => by
    simp only [numM, putM, List.find?_cons] at *
    cases hk : k == (f e).1
    · rw [hk] at h
      show (bif k == (f e).1 then _ else _) = _
      rw [hk]
      show _ :: _ = _ :: _
      rw [numM_put h]; rfl
    · rw [hk] at h; cases h
theorem numM_app {e : Int × Int} : ∀ {E : List (Int × Int)} {b : Nat}, numM f b (E ++ [e]) = numM f b E ++ [(.int .i64 (f e).1, b + E.length, .pv (f e).2)]
  | [], b => rfl
  | a :: E, b => by
    simp only [numM, List.cons_append, List.length_cons]
    rw [numM_app, show b + 1 + E.length = b + (E.length + 1) by omega]
theorem numM_pure : ∀ {E : List (Int × Int)} {b : Nat}, pureM (numM f b E)
  | [], b => fun e h => absurd h List.not_mem_nil
  | a :: E, b => fun e h => by
    simp only [numM, List.mem_cons] at h
    rcases h with rfl | h
    · exact ⟨_, rfl⟩
    · exact numM_pure e h
end
def fTo (e : Int × Int) : Int × PV := (e.1, .val (.int .i64 e.2))
def fTk (e : Int × Int) : Int × PV := (e.2, .val (.bool true))
def mapN (ty : Nat) (f : Int × Int → Int × PV) (E : List (Int × Int)) : Option AObj := some ⟨ty, 1, false, .mp .num .i64 (numM f 0 E) E.length⟩
theorem kept_mpN {ty d i : Nat} {H Hc : Heap} {rn l : List Nat} {f : Int × Int → Int × PV} {E : List (Int × Int)} (h : H[i]? = some (mapN ty f E)) (hk : kept H d rn l Hc) : kept H d rn (i :: l) (mapN ty f E :: Hc) :=
  ⟨(by show _ = some (some (renO _ _ _)); rw [ren_mp numM_pure]; exact h), hk⟩
def toF (E : List (Int × Int)) (r : Int) : Option Int := (E.find? fun e => r == e.1).map (·.2)
def takenB (E : List (Int × Int)) (t : Int) : Bool := (E.find? fun e => t == e.2).isSome
def imgI (o : Option Nat) : Int := ((o.getD 0 : Nat) : Int)
def pickS (E : List (Int × Int)) (g : Int → Int) (st : Int × Int) (t : Int) : Int × Int := if takenB E t then st else if st.1 < 0 ∨ g t < st.2 then (t, g t) else st
noncomputable def canStep (S : List (List Int)) (l : List Opt) (o : Nat) (r : Int) (c : Nat) (st : List Int × List (Int × Int)) : List Int × List (Int × Int) :=
  match toF st.2 r with
  | some t => (st.1.set c (imgI (imgO l o t)), st.2)
  | none => (st.1.set c ((setF S r).foldl (pickS st.2 fun t => imgI (imgO l o t)) (-1, (o : Int))).2, if 0 ≤ ((setF S r).foldl (pickS st.2 fun t => imgI (imgO l o t)) (-1, (o : Int))).1 then st.2 ++ [(r, ((setF S r).foldl (pickS st.2 fun t => imgI (imgO l o t)) (-1, (o : Int))).1)] else st.2)
noncomputable def canS (m : Model) (plan : List Int) (S : List (List Int)) : Nat → List Int × List (Int × Int)
  | 0 => (plan, [])
  | k + 1 => match plan[k]?, m.classes[k]? with
    | some o, some l => if o < 0 then canS m plan S k else match l[o.toNat]? with
      | some q => canStep S l o.toNat q.place.room k (canS m plan S k)
      | none => canS m plan S k
    | _, _ => canS m plan S k
noncomputable def canV (m : Model) (plan : List Int) : List Int := (canS m plan (setsV m) plan.length).1
noncomputable def canE (m : Model) (plan : List Int) : Int := if modelE m = 0 then (if pB (isPlanP m plan) then 0 else 17) else modelE m
noncomputable def canR (m : Model) (plan : List Int) : List Int := if canE m plan = 0 then canV m plan else []
theorem call_cloneI {l : List Int} {H : Heap} {K : AV → Heap → Prop} (hl : 0 < l.length ∧ l.length ≤ 100000) (hK : K (.ms H.length 1 0 l.length) (H ++ [some ⟨3, 1, false, .p (l.map intRow)⟩])) : vcFun Tryz.prog 44 [.pv (.sl 1 (l.map intRow))] H K := by
  refine call_obj [] [] [.pv (.sl 1 (l.map intRow))] rfl trivial rfl (c_cloneI l hl) fun r Hc' hp => ?_
  obtain ⟨rfl, rfl⟩ := hp
  exact ⟨Nat.zero_le _, hK⟩
def mdlO (m : Model) : Option AObj := some ⟨29, 4, false, .box [.pv (.sl 1 (m.classes.map optsRow)), .pv (.sl 4 (m.pairs.map Pair.row)), .pv (.sl 4 (m.counts.map Count.row)), .pv (ei m.rules)]⟩
theorem imgA_eq {o : Option Nat} : imgA o = .tup [vint .i64 (imgI o), vbool o.isSome] := by cases o <;> rfl
theorem set_same {α : Type} {l : List α} {c : Nat} {x : α} (h : l[c]? = some x) : l.set c x = l := by
  obtain ⟨hl, rfl⟩ := List.getElem?_eq_some_iff.1 h
  exact List.set_getElem_self hl
theorem get_to {E : List (Int × Int)} {r : Int} : getM (.int .i64 r) (numM fTo 0 E) = (toF E r).map fun t => vint .i64 t := by
  rw [numM_get]; unfold toF; rw [Option.map_map]; rfl
theorem get_tk {E : List (Int × Int)} {t : Int} : getM (.int .i64 t) (numM fTk 0 E) = if takenB E t then some (vbool true) else none := by
  rw [numM_get]; unfold takenB
  show (E.find? fun e => t == e.2).map _ = _
  cases (E.find? fun e => t == e.2) <;> rfl
theorem put_to {E : List (Int × Int)} {r b : Int} (h : toF E r = none) : putM (.int .i64 r) (vint .i64 b) E.length (numM fTo 0 E) = numM fTo 0 (E ++ [(r, b)]) := by
  have h : (E.find? fun e => r == (fTo e).1) = none := by
    show (E.find? fun e => r == e.1) = none
    unfold toF at h
    cases hf : (E.find? fun e => r == e.1) with
    | none => rfl
    | some e => rw [hf] at h; cases h
  rw [numM_put h, numM_app, Nat.zero_add]; rfl
theorem put_tk {E : List (Int × Int)} {r b : Int} (h : takenB E b = false) : putM (.int .i64 b) (vbool true) E.length (numM fTk 0 E) = numM fTk 0 (E ++ [(r, b)]) := by
  have h : (E.find? fun e => b == (fTk e).1) = none := by
    show (E.find? fun e => b == e.2) = none
    unfold takenB at h
    cases hf : (E.find? fun e => b == e.2) with
    | none => rfl
    | some e => rw [hf] at h; cases h
  rw [numM_put h, numM_app, Nat.zero_add]; rfl
theorem ck_to {E : List (Int × Int)} {r b : Int} (h : toF E r = none) : ckM (.int .i64 r) E.length (numM fTo 0 E) = (E ++ [(r, b)]).length := by
  unfold ckM; rw [get_to, h, List.length_append]; rfl
theorem ck_tk {E : List (Int × Int)} {r b : Int} (h : takenB E b = false) : ckM (.int .i64 b) E.length (numM fTk 0 E) = (E ++ [(r, b)]).length := by
  unfold ckM; rw [get_tk, h, List.length_append]; rfl
theorem pickS_taken {E : List (Int × Int)} {g : Int → Int} {st : Int × Int} {t : Int} (h : takenB E t = true) : pickS E g st t = st := by unfold pickS; rw [if_pos h]
theorem pickS_put {E : List (Int × Int)} {g : Int → Int} {st : Int × Int} {t : Int} (h : takenB E t = false) (h2 : st.1 < 0 ∨ g t < st.2) : pickS E g st t = (t, g t) := by unfold pickS; rw [if_neg (by rw [h]; decide), if_pos h2]
theorem pickS_skip {E : List (Int × Int)} {g : Int → Int} {st : Int × Int} {t : Int} (h : takenB E t = false) (h2 : ¬ (st.1 < 0 ∨ g t < st.2)) : pickS E g st t = st := by unfold pickS; rw [if_neg (by rw [h]; decide), if_neg h2]
theorem pick_free {E : List (Int × Int)} {g : Int → Int} : ∀ {l : List Int} {st : Int × Int}, st.1 < 0 ∨ takenB E st.1 = false → (l.foldl (pickS E g) st).1 < 0 ∨ takenB E (l.foldl (pickS E g) st).1 = false
  | [], st, h => h
  | t :: l, st, h => by
    refine pick_free (l := l) ?_
    unfold pickS
    cases ht : takenB E t
    · simp only [Bool.false_eq_true, if_false]
      split
      · exact .inr ht
      · exact h
    · simpa using h
theorem canS_next {m : Model} {plan : List Int} {S : List (List Int)} {c : Nat} {o : Int} {l : List Opt} (ho : plan[c]? = some o) (hl : m.classes[c]? = some l) : canS m plan S (c + 1) = if o < 0 then canS m plan S c else match l[o.toNat]? with
      | some q => canStep S l o.toNat q.place.room c (canS m plan S c)
      | none => canS m plan S c := by
  rw [canS, ho, hl]
theorem canStep_inv {S : List (List Int)} {l : List Opt} {o : Nat} {r : Int} {c : Nat} {st : List Int × List (Int × Int)} : (canStep S l o r c st).1.length = st.1.length ∧ ∀ j : Nat, c < j → (canStep S l o r c st).1[j]? = st.1[j]? := by
  unfold canStep
  split
  · exact ⟨List.length_set .., fun j hj => List.getElem?_set_ne (by omega)⟩
  · exact ⟨List.length_set .., fun j hj => List.getElem?_set_ne (by omega)⟩
theorem canS_inv {m : Model} {plan : List Int} {S : List (List Int)} (hp : isPlanP m plan) : ∀ {c : Nat}, c ≤ plan.length → (canS m plan S c).1.length = plan.length ∧ ∀ j : Nat, c ≤ j → (canS m plan S c).1[j]? = plan[j]?
  | 0, _ => ⟨rfl, fun _ _ => rfl⟩
  | c + 1, hc => by
    obtain ⟨h1, h2⟩ := canS_inv hp (c := c) (S := S) (by omega)
    obtain ⟨o, ho⟩ := getE (l := plan) (i := c) (by omega)
    obtain ⟨l, hl⟩ := getE (l := m.classes) (i := c) (by have := hp.1; omega)
    rw [canS_next ho hl]
    split
    · exact ⟨h1, fun j hj => h2 j (by omega)⟩
    · split
      · obtain ⟨g1, g2⟩ := canStep_inv (S := S) (l := l) (o := o.toNat) (r := (‹Opt›).place.room) (c := c) (st := canS m plan S c)
        exact ⟨by rw [g1, h1], fun j hj => by rw [g2 j (by omega), h2 j (by omega)]⟩
      · exact ⟨h1, fun j hj => h2 j (by omega)⟩
theorem setF_len {S : List (List Int)} {r : Int} {n : Nat} (h : ∀ s ∈ S, s.length ≤ n) : (setF S r).length ≤ n := by
  unfold setF
  cases hf : S.find? fun s => pB (r ∈ s) with
  | none => exact Nat.zero_le _
  | some s => exact h s (List.mem_of_find?_eq_some hf)
theorem c_canon0 (m : Model) (plan : List Int) (hl : Laid m) : PCall Tryz.prog 19 [ag m.cells, .pv (encInts plan)] (fun r => Leq r (.tup [.pv (.sl 1 ((canR m plan).map intRow)), vint .i64 (canE m plan)])) := by
  have hv := c_valid m hl
  by_cases hok : modelE m = 0
  · have hz := model_sized hok
    have hp := c_isPlan m plan hz
    rw [hok] at hv
    by_cases hpl : isPlanP m plan
    · rw [pB_t hpl] at hp
      have hR := c_Rooms m hl
      rcases plan with _ | ⟨p0, plan⟩
      · have e1 : canE m [] = 0 := by unfold canE; rw [if_pos hok, pB_t hpl]; rfl
        have e2 : canR m [] = [] := by unfold canR; rw [if_pos e1]; rfl
        rw [e1, e2]
        have hce := c_cloneIE 0
        refine acall_of tok mixed 122 rfl (fn := Tryz.f19) (c := Tryz.f19.body.getD .skip) (by kernel_rfl) (by kernel_rfl) (by kernel_rfl) rfl 0 rfl ?_
        repeat' (first | ((change vcFun _ _ _ _ _; refine call_frz rfl (by repeat' (first | trivial | refine And.intro ?_ ?_ | (show 0 + _ ≤ List.length _; simp))) ALeL.refl hR ?_; rintro _ rfl)) | ((change vcFun _ _ _ _ _; refine call_frz rfl (by repeat' (first | trivial | refine And.intro ?_ ?_ | (show 0 + _ ≤ List.length _; simp))) ALeL.refl hce ?_; rintro _ rfl)) | refine o1 ?_ | refine o2 ?_ | refine k1 ?_ | refine k2 ?_ | refine k3 ?_ | refine k4 ?_ | refine k6 ?_ | refine And.intro ?_ ?_ | (intro h; first | exact Bool.noConfusion h | exact nz _ h | exact nl h | (simp at h; done) | (simp at h; first | (exfalso; omega) | skip) | skip) | refine eqv_len_map ?_ | (change vcFun _ _ _ _ _; refine call_eq rfl (by repeat' (first | trivial | refine And.intro ?_ ?_ | (show 0 + _ ≤ List.length _; simp))) ALeL.refl (hv) rfl ?_) | (change vcFun _ _ _ _ _; refine call_eq rfl (by repeat' (first | trivial | refine And.intro ?_ ?_ | (show 0 + _ ≤ List.length _; simp))) ALeL.refl (hp) rfl ?_) | fail)
        refine loop_for (fun _ : Unit => [(8, .pv (.sl 1 [])), (39, vint .i64 (0 : Nat)), (40, vint .i64 (0 : Nat))]) (fun _ => []) (fun _ => True) (fun _ => 0) () trivial ?_ ?_
        · exact back [] rfl rfl trivial (by repeat' (first | exact trivial | exact rfl | refine And.intro ?_ ?_))
        intro _ _
        repeat' (first | refine o1 ?_ | refine o2 ?_ | refine k1 ?_ | refine k2 ?_ | refine k3 ?_ | refine k7 ?_ | refine k8 ?_ | refine And.intro ?_ ?_ | (intro h; first | exact Bool.noConfusion h | exact nz _ h | exact nl h | (simp at h; done) | (simp at h; first | (exfalso; omega) | skip) | skip) | (change retOk _ _ _ _; refine ret_pure rfl trivial ?_) | fail)
        exact ⟨ALe.refl⟩
      have hcl : 0 < (p0 :: plan).length ∧ (p0 :: plan).length ≤ 100000 := ⟨by simp, by have := hpl.1; have := hz.1; omega⟩
      have e1 : canE m (p0 :: plan) = 0 := by unfold canE; rw [if_pos hok, pB_t hpl]; rfl
      have e2 : canR m (p0 :: plan) = (canS m (p0 :: plan) (setsV m) (p0 :: plan).length).1 := by unfold canR; rw [if_pos e1]; rfl
      rw [e1, e2]
      have hSl := setsV_len (m := m)
      generalize setsV m = S at *
      generalize hpn : p0 :: plan = pl at *
      refine acall_of tok mixed 122 rfl (fn := Tryz.f19) (c := Tryz.f19.body.getD .skip) (by kernel_rfl) (by kernel_rfl) (by kernel_rfl) rfl 0 rfl ?_
      repeat' (first | ((change vcFun _ _ _ _ _; refine call_frz rfl (by repeat' (first | trivial | refine And.intro ?_ ?_ | (show 0 + _ ≤ List.length _; simp))) ALeL.refl hR ?_; rintro _ rfl)) | ((change vcFun _ _ _ _ _; refine call_cloneI hcl ?_)) | refine o1 ?_ | refine o2 ?_ | refine k1 ?_ | refine k2 ?_ | refine k3 ?_ | refine k4 ?_ | refine k6 ?_ | refine And.intro ?_ ?_ | (intro h; first | exact Bool.noConfusion h | exact nz _ h | exact nl h | (simp at h; done) | (simp at h; first | (exfalso; omega) | skip) | skip) | refine eqv_len_map ?_ | (change vcFun _ _ _ _ _; refine call_eq rfl (by repeat' (first | trivial | refine And.intro ?_ ?_ | (show 0 + _ ≤ List.length _; simp))) ALeL.refl (hv) rfl ?_) | (change vcFun _ _ _ _ _; refine call_eq rfl (by repeat' (first | trivial | refine And.intro ?_ ?_ | (show 0 + _ ≤ List.length _; simp))) ALeL.refl (hp) rfl ?_) | fail)
      refine loop_for (fun c : Nat => [(2, .ptr 0 4 0 0), (7, .pv (.sl 1 (S.map lstRow))), (8, .ms 1 1 0 pl.length), (9, .mp 2), (10, .mp 3), (38, .pv (encInts pl)), (39, vint .i64 pl.length), (40, vint .i64 c)])
        (fun c => [mdlO m, some ⟨3, 1, false, .p ((canS m pl S c).1.map intRow)⟩, mapN 82 fTo (canS m pl S c).2, mapN 83 fTk (canS m pl S c).2])
        (fun c => c ≤ pl.length) (fun c => pl.length - c) 0 (Nat.zero_le _) ?_ ?_
      · exact back [0, 1, 2, 3] rfl rfl ⟨rfl, rfl, rfl, rfl, trivial⟩ (by repeat' (first | exact trivial | exact rfl | refine And.intro ?_ ?_))
      intro c hc
      have hinv := canS_inv (m := m) (plan := pl) (S := S) hpl hc
      rcases Nat.lt_or_ge c pl.length with hcl2 | hcg
      · obtain ⟨o, ho⟩ := getE hcl2
        obtain ⟨l, hll⟩ := getE (l := m.classes) (i := c) (by have := hpl.1; omega)
        have hop := hpl.2 c hcl2 o l ho hll
        have hln := hz.2.1 l (List.mem_of_getElem? hll)
        have hcn := canS_next (S := S) ho hll
        generalize canS m pl S c = st0 at *
        obtain ⟨out, E⟩ := st0
        dsimp only at hinv hcn ⊢
        by_cases ho0 : o < 0
        · rw [if_pos ho0] at hcn
          repeat' (first | (refine idx_sl (k := c) (at_map ho) (by omega) ?_) | refine o1 ?_ | refine o2 ?_ | refine k1 ?_ | refine k2 ?_ | refine k3 ?_ | refine k4 ?_ | refine k6 ?_ | refine k8 ?_ | refine And.intro ?_ ?_ | (intro h; first | exact Bool.noConfusion h | exact nz _ h | exact nl h | (simp at h; done) | (simp at h; first | (exfalso; omega) | skip) | skip) | refine eqv_wrap (by omega) (by omega) ?_ | fail)
          exact ⟨c + 1, by omega, by omega, (by rw [hcn]; exact back [0, 1, 2, 3] rfl rfl ⟨rfl, rfl, kept_mpN rfl (kept_mpN rfl trivial)⟩ (by repeat' (first | exact trivial | exact rfl | refine And.intro ?_ ?_)))⟩
        obtain ⟨q, rfl⟩ : ∃ q : Nat, o = q := ⟨o.toNat, by omega⟩
        obtain ⟨op, hop2⟩ := getE (l := l) (i := q) (by omega)
        rw [if_neg ho0] at hcn
        dsimp only [mdlO]
        repeat' (first | (refine idx_sl (k := c) (at_map ho) (by omega) ?_) | (refine idx_sl (k := c) (at_map hll) (by omega) ?_) | (refine idx_sl (k := q) (at_map hop2) (by omega) ?_) | (refine join_in (a := .region 14 _ _) (fun _ => [(14, vint .i64 op.place.room), (15, .mp 4)]) (fun _ : Unit => [mdlO m, some ⟨3, 1, false, .p (out.map intRow)⟩, mapN 82 fTo E, mapN 83 fTk E, mapP 85 (grpE l l.length)]) (fun _ => True) ?_) | ((show xCode _ _ _ _ (.region 14 _ _) _ _ _; refine code_region_any ?_)) | ((change vcFun _ _ _ _ _; refine call_index (by omega) ?_)) | ((change ∃ x : Unit, _ ∧ _; exact ⟨(), trivial, back [0, 1, 2, 3, 4] rfl rfl ⟨rfl, rfl, kept_mpN rfl (kept_mpN rfl (kept_mp rfl trivial))⟩ (by repeat' (first | exact trivial | exact rfl | exact ⟨_, rfl, ALe.refl⟩ | refine And.intro ?_ ?_))⟩)) | refine o1 ?_ | refine o2 ?_ | refine k1 ?_ | refine k2 ?_ | refine k3 ?_ | refine k4 ?_ | refine k6 ?_ | refine And.intro ?_ ?_ | exact trivial | refine o5 ?_ | refine o6 ?_ | (intro h; first | exact Bool.noConfusion h | exact nz _ h | exact nl h | (simp at h; done) | (simp at h; first | (exfalso; omega) | skip) | skip) | fail)
        refine ⟨?_⟩
        intro _ _
        have hcn : canS m pl S (c + 1) = canStep S l q op.place.room c (out, E) := by rw [hcn, Int.toNat_natCast, hop2]
        have hoc : out[c]? = some (q : Int) := by rw [hinv.2 c (Nat.le_refl _), ho]
        have hol : out.length = pl.length := hinv.1
        generalize op.place.room = r at *
        generalize hEg : grpE l l.length = G at *
        have hgt := get_to (E := E) (r := r)
        rcases hto : toF E r with _ | t
        · rw [hto] at hgt
          have hso := c_setOf S r (by omega) fun s hs => by have := hSl.2 s hs; omega
          have hcn1 : canS m pl S (c + 1) = (out.set c ((setF S r).foldl (pickS E fun t => imgI (imgO l q t)) (-1, (q : Int))).2, if 0 ≤ ((setF S r).foldl (pickS E fun t => imgI (imgO l q t)) (-1, (q : Int))).1 then E ++ [(r, ((setF S r).foldl (pickS E fun t => imgI (imgO l q t)) (-1, (q : Int))).1)] else E) := by rw [hcn]; unfold canStep; dsimp only; rw [hto]
          have hql : (setF S r).length ≤ 576 := setF_len hSl.2
          have hfree := pick_free (E := E) (g := fun t => imgI (imgO l q t)) (l := setF S r) (st := (-1, (q : Int))) (.inl (by show (-1 : Int) < 0; decide))
          generalize setF S r = sq at *
          repeat' (first | (refine eqv_to none hgt ?_) | ((change vcFun _ _ _ _ _; refine call_frz rfl (by repeat' (first | trivial | refine And.intro ?_ ?_ | (show 0 + _ ≤ List.length _; simp))) ALeL.refl hso ?_; rintro _ rfl)) | refine o1 ?_ | refine o2 ?_ | refine k1 ?_ | refine k2 ?_ | refine k3 ?_ | refine k4 ?_ | refine k6 ?_ | refine And.intro ?_ ?_ | (intro h; first | exact Bool.noConfusion h | exact nz _ h | exact nl h | (simp at h; done) | (simp at h; first | (exfalso; omega) | skip) | skip) | refine eqv_len_map ?_ | fail)
          refine loop_for (fun k : Nat => [(2, .ptr 0 4 0 0), (7, .pv (.sl 1 (S.map lstRow))), (8, .ms 1 1 0 pl.length), (9, .mp 2), (10, .mp 3), (38, .pv (encInts pl)), (39, vint .i64 pl.length), (40, vint .i64 c), (11, vint .i64 c), (12, vint .i64 q), (13, .pv (.sl 6 (l.map Opt.row))), (14, vint .i64 r), (15, .mp 4), (18, vint .i64 ((sq.take k).foldl (pickS E fun t => imgI (imgO l q t)) (-1, (q : Int))).1), (80, .pv (.sl 1 (sq.map intRow))), (81, vint .i64 sq.length), (82, vint .i64 k)])
            (fun k => [mdlO m, some ⟨3, 1, false, .p ((out.set c ((sq.take k).foldl (pickS E fun t => imgI (imgO l q t)) (-1, (q : Int))).2).map intRow)⟩, mapN 82 fTo E, mapN 83 fTk E, mapP 85 G])
            (fun k => k ≤ sq.length) (fun k => sq.length - k) 0 (Nat.zero_le _) ?_ ?_
          · have h0 : out.set c ((sq.take 0).foldl (pickS E fun t => imgI (imgO l q t)) (-1, (q : Int))).2 = out := set_same hoc
            rw [h0]
            exact back [0, 1, 2, 3, 4] rfl rfl ⟨rfl, rfl, kept_mpN rfl (kept_mpN rfl (kept_mp rfl trivial))⟩ (by repeat' (first | exact trivial | exact rfl | refine And.intro ?_ ?_))
          intro k hk
          rcases Nat.lt_or_ge k sq.length with hkl | hkg
          · obtain ⟨t, ht⟩ := getE hkl
            have hst : (sq.take (k + 1)).foldl (pickS E fun t => imgI (imgO l q t)) (-1, (q : Int)) = pickS E (fun t => imgI (imgO l q t)) ((sq.take k).foldl (pickS E fun t => imgI (imgO l q t)) (-1, (q : Int))) t := by rw [tk_snoc ht, List.foldl_append]; rfl
            generalize (sq.take k).foldl (pickS E fun t => imgI (imgO l q t)) (-1, (q : Int)) = st0 at *
            obtain ⟨b, x⟩ := st0
            dsimp only at hst ⊢
            have hgk := get_tk (E := E) (t := t)
            have hcx : (out.set c x)[c]? = some x := by rw [List.getElem?_set_self (by omega)]
            cases htk : takenB E t
            · rw [htk] at hgk
              have hgk : getM (.int .i64 t) (numM fTk 0 E) = none := hgk
              repeat' (first | (refine idx_sl (k := k) (at_map ht) (by omega) ?_) | (refine eqv_to none hgk ?_) | ((change vcFun _ _ _ _ _; refine call_image 4 hEg.symm rfl (by omega) (by omega) ?_; rw [imgA_eq])) | (refine ⟨_, at_map hcx, ?_⟩) | refine o1 ?_ | refine o2 ?_ | refine k1 ?_ | refine k2 ?_ | refine k3 ?_ | refine k4 ?_ | refine k6 ?_ | refine And.intro ?_ ?_ | (intro h; first | exact Bool.noConfusion h | exact nz _ h | exact nl h | (simp at h; done) | (simp at h; first | (exfalso; omega) | skip) | skip) | exact Nat.le_of_ble_eq_true rfl | refine eqv_zero ?_ | refine eqv_wrap (by omega) (by omega) ?_ | refine eqv_to _ (set_map rfl rfl) ?_ | refine idx_ms _ (by first | rfl | assumption) (by first | assumption | omega) ?_ | fail)
              all_goals first
                | (exfalso; omega)
                | (refine ⟨k + 1, by omega, by omega, ?_⟩
                   rw [hst, pickS_put htk (by show b < 0 ∨ imgI (imgO l q t) < x; omega), List.set_set]
                   exact back [0, 1, 2, 3, 4] rfl rfl ⟨rfl, rfl, kept_mpN rfl (kept_mpN rfl (kept_mp rfl trivial))⟩ (by repeat' (first | exact trivial | exact rfl | refine And.intro ?_ ?_)))
                | (refine ⟨k + 1, by omega, by omega, ?_⟩
                   rw [hst, pickS_skip htk (by show ¬ (b < 0 ∨ imgI (imgO l q t) < x); omega)]
                   exact back [0, 1, 2, 3, 4] rfl rfl ⟨rfl, rfl, kept_mpN rfl (kept_mpN rfl (kept_mp rfl trivial))⟩ (by repeat' (first | exact trivial | exact rfl | refine And.intro ?_ ?_)))
            · rw [htk] at hgk
              have hgk : getM (.int .i64 t) (numM fTk 0 E) = some (vbool true) := hgk
              rw [pickS_taken htk] at hst
              repeat' (first | (refine idx_sl (k := k) (at_map ht) (by omega) ?_) | (refine eqv_to _ hgk ?_) | refine o1 ?_ | refine o2 ?_ | refine k1 ?_ | refine k2 ?_ | refine k3 ?_ | refine k4 ?_ | refine k6 ?_ | refine k8 ?_ | refine And.intro ?_ ?_ | (intro h; first | exact Bool.noConfusion h | exact nz _ h | exact nl h | (simp at h; done) | (simp at h; first | (exfalso; omega) | skip) | skip) | refine eqv_wrap (by omega) (by omega) ?_ | fail)
              all_goals first
                | (exfalso; omega)
                | exact ⟨k + 1, by omega, by omega, (by rw [hst]; exact back [0, 1, 2, 3, 4] rfl rfl ⟨rfl, rfl, kept_mpN rfl (kept_mpN rfl (kept_mp rfl trivial))⟩ (by repeat' (first | exact trivial | exact rfl | refine And.intro ?_ ?_)))⟩
          · obtain rfl : k = sq.length := by omega
            rw [List.take_length]
            generalize sq.foldl (pickS E fun t => imgI (imgO l q t)) (-1, (q : Int)) = st0 at *
            obtain ⟨b, x⟩ := st0
            dsimp only at hcn1 hfree ⊢
            by_cases hb0 : 0 ≤ b
            · rw [if_pos hb0] at hcn1
              have htk : takenB E b = false := hfree.elim (fun h => by omega) id
              have hp1 := put_to (b := b) hto
              have hp2 := put_tk (r := r) htk
              have hc1 := ck_to (b := b) hto
              have hc2 := ck_tk (r := r) htk
              repeat' (first | (refine eqv_to _ hp1 ?_) | (refine eqv_to _ hp2 ?_) | (refine eqv_to _ hc1 ?_) | (refine eqv_to _ hc2 ?_) | refine o1 ?_ | refine o2 ?_ | refine k1 ?_ | refine k2 ?_ | refine k3 ?_ | refine k8 ?_ | refine And.intro ?_ ?_ | (intro h; first | exact Bool.noConfusion h | exact nz _ h | exact nl h | (simp at h; done) | (simp at h; first | (exfalso; omega) | skip) | skip) | refine eqv_wrap (by omega) (by omega) ?_ | fail)
              all_goals first
                | (exfalso; omega)
                | exact ⟨c + 1, by omega, by omega, (by rw [hcn1]; exact back [0, 1, 2, 3] rfl rfl ⟨rfl, rfl, kept_mpN rfl (kept_mpN rfl trivial)⟩ (by repeat' (first | exact trivial | exact rfl | refine And.intro ?_ ?_)))⟩
            · rw [if_neg hb0] at hcn1
              repeat' (first | refine o1 ?_ | refine o2 ?_ | refine k1 ?_ | refine k2 ?_ | refine k3 ?_ | refine k6 ?_ | refine k8 ?_ | refine And.intro ?_ ?_ | (intro h; first | exact Bool.noConfusion h | exact nz _ h | exact nl h | (simp at h; done) | (simp at h; first | (exfalso; omega) | skip) | skip) | refine eqv_wrap (by omega) (by omega) ?_ | fail)
              all_goals first
                | (exfalso; omega)
                | exact ⟨c + 1, by omega, by omega, (by rw [hcn1]; exact back [0, 1, 2, 3] rfl rfl ⟨rfl, rfl, kept_mpN rfl (kept_mpN rfl trivial)⟩ (by repeat' (first | exact trivial | exact rfl | refine And.intro ?_ ?_)))⟩
        · rw [hto] at hgt
          have hcn1 : canS m pl S (c + 1) = (out.set c (imgI (imgO l q t)), E) := by rw [hcn]; unfold canStep; dsimp only; rw [hto]
          repeat' (first | (refine eqv_to _ hgt ?_) | ((change vcFun _ _ _ _ _; refine call_image 4 hEg.symm rfl (by omega) (by omega) ?_; rw [imgA_eq])) | refine o1 ?_ | refine o2 ?_ | refine k1 ?_ | refine k2 ?_ | refine k3 ?_ | refine k8 ?_ | refine And.intro ?_ ?_ | (intro h; first | exact Bool.noConfusion h | exact nz _ h | exact nl h | (simp at h; done) | (simp at h; first | (exfalso; omega) | skip) | skip) | exact Nat.le_of_ble_eq_true rfl | refine eqv_zero ?_ | refine eqv_wrap (by omega) (by omega) ?_ | refine eqv_to _ (set_map rfl rfl) ?_ | refine ⟨_, at_map (by assumption), ?_⟩ | refine idx_ms _ (by first | rfl | assumption) (by first | assumption | omega) ?_ | fail)
          all_goals first
            | exact ⟨c + 1, by omega, by omega, (by rw [hcn1]; exact back [0, 1, 2, 3] rfl rfl ⟨rfl, rfl, kept_mpN rfl (kept_mpN rfl trivial)⟩ (by repeat' (first | exact trivial | exact rfl | refine And.intro ?_ ?_)))⟩
      · obtain rfl : c = pl.length := by omega
        obtain ⟨hol, _⟩ := hinv
        generalize (canS m pl S pl.length) = st0 at *
        obtain ⟨out, E⟩ := st0
        dsimp only at hol ⊢
        dsimp only [mdlO]
        repeat' (first | refine o1 ?_ | refine o2 ?_ | refine k1 ?_ | refine k2 ?_ | refine k3 ?_ | refine k7 ?_ | refine k8 ?_ | refine And.intro ?_ ?_ | (intro h; first | exact Bool.noConfusion h | exact nz _ h | exact nl h | (simp at h; done) | (simp at h; first | (exfalso; omega) | skip) | skip) | fail)
        refine ret_pure (r0 := .tup [.pv (.sl 1 (((out.map intRow).drop 0).take pl.length)), vint .i64 0]) rfl ?_ ?_
        · refine ⟨?_, trivial⟩
          show 0 + pl.length ≤ _
          rw [List.length_map]; omega
        · rw [List.drop_zero, List.take_of_length_le (by rw [List.length_map]; omega)]
          exact ⟨ALe.refl⟩
    · rw [pB_f hpl] at hp
      have e1 : canE m plan = 17 := by unfold canE; rw [if_pos hok, pB_f hpl]; rfl
      have e2 : canR m plan = [] := by unfold canR; rw [if_neg (by rw [e1]; decide)]
      rw [e1, e2]
      refine acall_of tok mixed 122 rfl (fn := Tryz.f19) (c := Tryz.f19.body.getD .skip) (by kernel_rfl) (by kernel_rfl) (by kernel_rfl) rfl 0 rfl ?_
      repeat' (first | refine o1 ?_ | refine o2 ?_ | refine k1 ?_ | refine k2 ?_ | refine k3 ?_ | refine k6 ?_ | refine k7 ?_ | refine And.intro ?_ ?_ | (intro h; first | exact Bool.noConfusion h | exact nz _ h | exact nl h | (simp at h; done) | (simp at h; first | (exfalso; omega) | skip) | skip) | (change retOk _ _ _ _; refine ret_pure rfl trivial ?_) | (change vcFun _ _ _ _ _; refine call_eq rfl (by repeat' (first | trivial | refine And.intro ?_ ?_ | (show 0 + _ ≤ List.length _; simp))) ALeL.refl (hv) rfl ?_) | (change vcFun _ _ _ _ _; refine call_eq rfl (by repeat' (first | trivial | refine And.intro ?_ ?_ | (show 0 + _ ≤ List.length _; simp))) ALeL.refl (hp) rfl ?_) | fail)
      exact ⟨ALe.tup ⟨ALe.pv PLe.nil, ALe.refl, trivial⟩⟩
  · have e1 : canE m plan = modelE m := by unfold canE; rw [if_neg hok]
    have e2 : canR m plan = [] := by unfold canR; rw [if_neg (by rw [e1]; exact hok)]
    rw [e1, e2]
    refine acall_of tok mixed 122 rfl (fn := Tryz.f19) (c := Tryz.f19.body.getD .skip) (by kernel_rfl) (by kernel_rfl) (by kernel_rfl) rfl 0 rfl ?_
    repeat' (first | refine o1 ?_ | refine o2 ?_ | refine k1 ?_ | refine k2 ?_ | refine k3 ?_ | refine k7 ?_ | refine And.intro ?_ ?_ | (intro h; first | exact Bool.noConfusion h | exact nz _ h | exact nl h | (simp at h; done) | (simp at h; first | (exfalso; omega) | skip) | skip) | (change retOk _ _ _ _; refine ret_pure rfl trivial ?_) | (change vcFun _ _ _ _ _; refine call_eq rfl (by repeat' (first | trivial | refine And.intro ?_ ?_ | (show 0 + _ ≤ List.length _; simp))) ALeL.refl (hv) rfl ?_) | fail)
    all_goals first
      | (exfalso; omega)
      | exact ⟨ALe.tup ⟨ALe.pv PLe.nil, ALe.refl, trivial⟩⟩
theorem c_canon (m : Model) (plan : List Int) (hl : Laid m) : PCall Tryz.prog 19 [ag m.cells, .pv (encInts plan)] (fun r => r = .tup [.pv (.sl 1 ((canR m plan).map intRow)), vint .i64 (canE m plan)]) := (c_canon0 m plan hl).weak fun r k => ⟨_, k.le, rfl⟩
end Go.Proofs.YtihpjcmloecaaaaGreat.Cw
/-
  Symmetry: what a plan costs (program's side): sums, excess, the bill.
-/
namespace Go.Proofs.YtihpjcmloecaaaaGreat.Cw
open Go Go.Cw Go.Proofs
set_option linter.unusedVariables false
set_option maxRecDepth 100000
set_option maxHeartbeats 8000000
theorem c_sumP (a b : Int) (ha : 0 ≤ a ∧ a ≤ 1099511627776) (hb : 0 ≤ b ∧ b ≤ 1099511627776) : PCall Tryz.prog 102 [vint .i64 a, vint .i64 b] (fun r => r = vint .i64 (addC a b)) := by
  refine acall_of tok mixed 9 rfl (fn := Tryz.f102) (c := Tryz.f102.body.getD .skip) (by kernel_rfl) (by kernel_rfl) (by kernel_rfl) rfl 0 rfl ?_
  repeat' (first | refine o1 ?_ | refine o2 ?_ | refine k1 ?_ | refine k2 ?_ | refine k7 ?_ | (change retOk _ _ _ _; refine ret_pure rfl trivial ?_) | refine eqv_wrap (by omega) (by omega) ?_ | fail)
  refine congrArg (vint .i64) ?_
  unfold addC
  simp only [cond_false, cond_true]
  (repeat' split) <;> omega
theorem eqv_mulC {a b : Int} {K : Int → Prop} (ha : 0 ≤ a ∧ a ≤ 1000000) (hb : 0 ≤ b ∧ b ≤ 1099511627776) (h : 0 ≤ a * b → K (a * b)) : eqv (IntKind.i64.wrap (a * b)) K := by
  have h1 : a * b ≤ 1000000 * 1099511627776 := Int.mul_le_mul ha.2 hb.2 hb.1 (by decide)
  have h0 : 0 ≤ a * b := Int.mul_nonneg ha.1 hb.1
  exact eqv_wrap (by omega) (by omega) (h h0)
theorem excess_eq {n p : Int} (hn : 0 < n) (hp : priceP p) : timesC n p = (if n * p < 1099511627776 then n * p else 1099511627776) := by
  unfold timesC
  rw [if_neg (by omega)]
  rcases hp with hp | rfl
  · rw [if_pos (by omega)]
  · rw [if_neg (by omega)]
    have : 1 * 1099511627776 ≤ n * 1099511627776 := Int.mul_le_mul_of_nonneg_right (by omega) (by decide)
    rw [if_neg (by omega)]
theorem c_excess (c : Count) (s : Int) (hs : 0 ≤ s ∧ s ≤ 1000000) (hm : 0 ≤ c.most ∧ c.most ≤ 1048576) (hp : priceP c.penalty) : PCall Tryz.prog 101 [ag c.row, vint .i64 s] (fun r => r = vint .i64 (timesC (s - c.most) c.penalty)) := by
  have hpb := priceP_bnd hp
  refine acall_of tok mixed 17 rfl (fn := Tryz.f101) (c := Tryz.f101.body.getD .skip) (by kernel_rfl) (by kernel_rfl) (by kernel_rfl) rfl 0 rfl ?_
  repeat' (first | (refine eqv_mulC (by omega) (by omega) (fun _ => ?_)) | refine o1 ?_ | refine o2 ?_ | refine k1 ?_ | refine k2 ?_ | refine k3 ?_ | refine k6 ?_ | refine k7 ?_ | refine And.intro ?_ ?_ | (intro h; first | exact Bool.noConfusion h | exact nz _ h | exact nl h | (simp at h; done) | (simp at h; first | (exfalso; omega) | skip) | skip) | (change retOk _ _ _ _; refine ret_pure rfl trivial ?_) | refine eqv_wrap (by omega) (by omega) ?_ | fail)
  · refine congrArg (vint .i64) ?_
    unfold timesC; rw [if_pos (by omega)]
  · refine congrArg (vint .i64) ?_
    rw [excess_eq (by omega) hp]
    simp only [cond_false, cond_true]
    (repeat' split) <;> omega
def billO (n : Nat) : Option AObj := some ⟨139, 1, false, .box [.ms 1 1 0 n]⟩
theorem c_billadd (l : List Int) (r : Nat) (v c : Int) (hr : l[r]? = some v) (hv : 0 ≤ v ∧ v ≤ 1099511627776) (hc : 0 ≤ c ∧ c ≤ 1099511627776) :
    ACall Tryz.prog 100 [.ptr 0 1 0 0, vint .i64 r, vint .i64 c] [billO l.length, some ⟨3, 1, false, .p (l.map intRow)⟩] (fun x H' => x = .tup [] ∧ H' = [billO l.length, some ⟨3, 1, false, .p ((l.set r (addC v c)).map intRow)⟩]) := by
  have hs := c_sumP v c hv hc
  have hrl := (List.getElem?_eq_some_iff.1 hr).1
  refine acall_of tok mixed 21 rfl (fn := Tryz.f100) (c := Tryz.f100.body.getD .skip) (by kernel_rfl) (by kernel_rfl) (by kernel_rfl) rfl 2 rfl ?_
  dsimp only [billO]
  repeat' (first | (refine idx_ms r rfl (by omega) ?_) | (refine ⟨_, at_map hr, ?_⟩) | (refine eqv_to _ (set_map (f := intRow) (y := addC v c) rfl rfl) ?_) | refine k2 ?_ | refine And.intro ?_ ?_ | refine o3 ?_ | refine o4 ?_ | exact Nat.le_of_ble_eq_true rfl | exact (by kernel_rfl : drawOk _ _ = true) | refine eqv_zero ?_ | (change vcFunD _ _ _ _ _; refine callD_eq rfl (by repeat' (first | trivial | refine And.intro ?_ ?_ | (show 0 + _ ≤ List.length _; simp))) ALeL.refl (hs) rfl ?_) | fail)
  exact ret_obj [0, 1] [billO l.length, some ⟨3, 1, false, .p ((l.set r (addC v c)).map intRow)⟩] rfl rfl ⟨rfl, rfl, trivial⟩ (r' := .tup []) rfl ⟨rfl, rfl⟩
theorem c_costs0 (m : Model) (plan : List Int) (h0 : modelE m = 0) (hl : Laid m) (hp : plannedP m plan) : PCall Tryz.prog 71 [ag m.cells, .pv (encInts plan)] (fun r => Leq r (.tup [vint .i64 (costV m plan), .pv (.sl 1 ((rulesV m plan).map intRow))])) := by
  have hz := model_sized h0
  have hcn := hz.1
  have hru := hz.2.2.2.2
  have g := model_good h0
  have hpl := hp.1
  refine acall_of tok mixed 155 rfl (fn := Tryz.f71) (c := Tryz.f71.body.getD .skip) (by kernel_rfl) (by kernel_rfl) (by kernel_rfl) rfl 0 rfl ?_
  repeat' (first | (refine ⟨m.rules.toNat, m.rules.toNat, by omega, by omega, Nat.le_refl _, by omega, by omega, ?_⟩) | (refine eqv_to ((zeroC m).map intRow) (by unfold zeroC; rw [List.map_replicate]; rfl) ?_) | refine o1 ?_ | refine o2 ?_ | refine k1 ?_ | refine k2 ?_ | refine k4 ?_ | refine And.intro ?_ ?_ | exact (by kernel_rfl : drawOk _ _ = true) | refine eqv_len_map ?_ | fail)
  refine loop_for (fun i : Nat => [(1, .pv (encInts plan)), (2, .ptr 0 4 0 0), (6, .ptr 2 1 0 0), (28, .pv (encInts plan)), (29, vint .i64 plan.length), (30, vint .i64 i)]) (fun i => [mdlO m, some ⟨3, 1, false, .p ((runC m (gr (chgT m plan) i)).map intRow)⟩, billO m.rules.toNat]) (fun i => i ≤ plan.length) (fun i => plan.length - i) 0 (Nat.zero_le _) ?_ ?_
  · exact back [0, 1, 2] rfl rfl ⟨rfl, rfl, rfl, trivial⟩ (by repeat' (first | exact trivial | exact rfl | refine And.intro ?_ ?_))
  intro i hi
  dsimp only [mdlO, billO]
  rcases Nat.lt_or_ge i plan.length with hlt | hge
  · obtain ⟨o, ho⟩ := getE hlt
    rcases hp.2 i hlt o ho with rfl | hopt
    · have hn := chgT_neg (m := m) ho (by decide)
      repeat' (first | (refine idx_sl (k := i) (at_map ho) (by omega) ?_) | refine o1 ?_ | refine o2 ?_ | refine k1 ?_ | refine k2 ?_ | refine k3 ?_ | refine k4 ?_ | refine k6 ?_ | refine k8 ?_ | refine And.intro ?_ ?_ | (intro h; first | exact Bool.noConfusion h | exact nz _ h | exact nl h | (simp at h; done) | (simp at h; first | (exfalso; omega) | skip) | skip) | refine eqv_wrap (by omega) (by omega) ?_ | fail)
      refine ⟨i + 1, hlt, by omega, ?_⟩
      rw [gr_succ, hn, List.append_nil]
      exact back [0, 1, 2] rfl rfl ⟨rfl, rfl, rfl, trivial⟩ (by repeat' (first | exact trivial | exact rfl | refine And.intro ?_ ?_))
    · obtain ⟨-, g2, l, hl1, hol⟩ := hopt
      rw [Int.toNat_natCast] at hl1
      obtain ⟨n, rfl⟩ := Int.eq_ofNat_of_zero_le g2
      obtain ⟨x, hx⟩ := getE (show n < l.length by omega)
      have hct := chgT_at hl1 ho hx
      have hxn := hl.ch l (List.mem_of_getElem? hl1) x (List.mem_of_getElem? hx)
      repeat' (first | (refine idx_sl (k := i) (at_map ho) (by omega) ?_) | (refine idx_sl (k := i) (at_map hl1) (by omega) ?_) | (refine idx_sl (k := n) (at_map hx) (by omega) ?_) | refine o1 ?_ | refine o2 ?_ | refine k1 ?_ | refine k2 ?_ | refine k3 ?_ | refine k4 ?_ | refine k6 ?_ | refine And.intro ?_ ?_ | (intro h; first | exact Bool.noConfusion h | exact nz _ h | exact nl h | (simp at h; done) | (simp at h; first | (exfalso; omega) | skip) | skip) | refine eqv_len_map ?_ | fail)
      refine loop_for (fun k : Nat => [(1, .pv (encInts plan)), (2, .ptr 0 4 0 0), (6, .ptr 2 1 0 0), (28, .pv (encInts plan)), (29, vint .i64 plan.length), (30, vint .i64 i), (45, .pv (.sl 2 (x.charges.map Charge.row))), (46, vint .i64 x.charges.length), (47, vint .i64 k)])
        (fun k => [mdlO m, some ⟨3, 1, false, .p ((runC m (gr (chgT m plan) i ++ (chgT m plan i).take k)).map intRow)⟩, billO m.rules.toNat]) (fun k => k ≤ x.charges.length) (fun k => x.charges.length - k) 0 (Nat.zero_le _) ?_ ?_
      · rw [List.take_zero, List.append_nil]
        exact back [0, 1, 2] rfl rfl ⟨rfl, rfl, rfl, trivial⟩ (by repeat' (first | exact trivial | exact rfl | refine And.intro ?_ ?_))
      intro k hk
      dsimp only [mdlO]
      rcases Nat.lt_or_ge k x.charges.length with hlt2 | hge2
      · obtain ⟨c, hck⟩ := getE hlt2
        have ht : (chgT m plan i)[k]? = some (c.rule, c.cost) := by rw [hct, List.getElem?_map, hck]; rfl
        have hcok := chgT_ok g _ (List.mem_of_getElem? ht)
        obtain ⟨v, hv, hvb⟩ := run_get (aap (gr_ok g (plan := plan) (n := i)) fun t ht => chgT_ok g t (List.mem_of_mem_take ht)) hcok.1
        obtain ⟨cr, cc⟩ := c
        obtain ⟨r, rfl⟩ := Int.eq_ofNat_of_zero_le hcok.1.1
        dsimp only at hcok hv ht
        rw [Int.toNat_natCast] at hv
        have hnx := run_next (T := gr (chgT m plan) i ++ (chgT m plan i).take k) (r := (r : Int)) (c := cc) hv
        rw [Int.toNat_natCast] at hnx
        have hln := run_len (m := m) (T := gr (chgT m plan) i ++ (chgT m plan i).take k)
        have hstp : gr (chgT m plan) i ++ (chgT m plan i).take (k + 1) = (gr (chgT m plan) i ++ (chgT m plan i).take k) ++ [((r : Int), cc)] := by rw [take_snoc ht, ← List.append_assoc]
        generalize hL : runC m (gr (chgT m plan) i ++ (chgT m plan i).take k) = L at *
        have hadd := c_billadd L r v cc hv hvb hcok.2
        rw [hln] at hadd
        repeat' (first | (refine idx_sl (k := k) (at_map hck) (by omega) ?_) | ((change vcFun _ _ _ _ _; refine call_obj [2, 1] [billO m.rules.toNat, some ⟨3, 1, false, .p (L.map intRow)⟩] [.ptr 0 1 0 0, vint .i64 r, vint .i64 cc] rfl ⟨rfl, rfl, trivial⟩ rfl hadd ?_; rintro x H' ⟨rfl, rfl⟩; refine ⟨Nat.le_refl _, ?_⟩)) | refine o1 ?_ | refine o2 ?_ | refine k1 ?_ | refine k2 ?_ | refine k3 ?_ | refine k4 ?_ | refine k6 ?_ | refine And.intro ?_ ?_ | (intro h; first | exact Bool.noConfusion h | exact nz _ h | exact nl h | (simp at h; done) | (simp at h; first | (exfalso; omega) | skip) | skip) | exact (by kernel_rfl : drawOk _ _ = true) | refine eqv_wrap (by omega) (by omega) ?_ | fail)
        refine ⟨k + 1, hlt2, by omega, ?_⟩
        rw [hstp, ← hnx]
        exact back [0, 1, 2] rfl rfl ⟨rfl, rfl, rfl, trivial⟩ (by repeat' (first | exact trivial | exact rfl | refine And.intro ?_ ?_))
      · repeat' (first | refine o1 ?_ | refine o2 ?_ | refine k1 ?_ | refine k2 ?_ | refine k3 ?_ | refine k8 ?_ | refine And.intro ?_ ?_ | (intro h; first | exact Bool.noConfusion h | exact nz _ h | exact nl h | (simp at h; done) | (simp at h; first | (exfalso; omega) | skip) | skip) | refine eqv_wrap (by omega) (by omega) ?_ | fail)
        refine ⟨i + 1, hlt, by omega, ?_⟩
        rw [gr_succ, List.take_of_length_le (by rw [hct, List.length_map]; omega)]
        exact back [0, 1, 2] rfl rfl ⟨rfl, rfl, rfl, trivial⟩ (by repeat' (first | exact trivial | exact rfl | refine And.intro ?_ ?_))
  obtain rfl : i = plan.length := by omega
  repeat' (first | refine o1 ?_ | refine o2 ?_ | refine k1 ?_ | refine k2 ?_ | refine k3 ?_ | refine k4 ?_ | refine k8 ?_ | refine And.intro ?_ ?_ | (intro h; first | exact Bool.noConfusion h | exact nz _ h | exact nl h | (simp at h; done) | (simp at h; first | (exfalso; omega) | skip) | skip) | refine eqv_len_map ?_ | fail)
  refine loop_for (fun i : Nat => [(1, .pv (encInts plan)), (2, .ptr 0 4 0 0), (6, .ptr 2 1 0 0), (60, .pv (.sl 4 (m.pairs.map Pair.row))), (61, vint .i64 m.pairs.length), (62, vint .i64 i)]) (fun i => [mdlO m, some ⟨3, 1, false, .p ((runC m (gr (chgT m plan) plan.length ++ prsT m plan i)).map intRow)⟩, billO m.rules.toNat]) (fun i => i ≤ m.pairs.length) (fun i => m.pairs.length - i) 0 (Nat.zero_le _) ?_ ?_
  · have e : prsT m plan 0 = [] := rfl
    rw [e, List.append_nil]
    exact back [0, 1, 2] rfl rfl ⟨rfl, rfl, rfl, trivial⟩ (by repeat' (first | exact trivial | exact rfl | refine And.intro ?_ ?_))
  intro i hi
  dsimp only [mdlO, billO]
  have hpn := hz.2.2.1
  rcases Nat.lt_or_ge i m.pairs.length with hlt | hge
  · obtain ⟨p, hpi⟩ := getE hlt
    have hpp := (g.2.1 i hlt p hpi).1
    obtain ⟨q1, q2, q3, ⟨la, lb, q4, q5, q6⟩, q7⟩ := hpp
    obtain ⟨pf, ps, pr, PT⟩ := p
    dsimp only at q1 q2 q3 q4 q5 q6 q7
    obtain ⟨f, rfl⟩ := Int.eq_ofNat_of_zero_le q2
    obtain ⟨s, rfl⟩ := Int.eq_ofNat_of_zero_le (show 0 ≤ ps by omega)
    obtain ⟨r, rfl⟩ := Int.eq_ofNat_of_zero_le q1.1
    rw [Int.toNat_natCast] at q4 q5
    have hf := (List.getElem?_eq_some_iff.1 q4).1
    have hs := (List.getElem?_eq_some_iff.1 q5).1
    obtain ⟨oa, hoa⟩ := getE (show f < plan.length by omega)
    obtain ⟨ob, hob⟩ := getE (show s < plan.length by omega)
    have ga := hp.2 _ (List.getElem?_eq_some_iff.1 hoa).1 oa hoa
    have gb := hp.2 _ (List.getElem?_eq_some_iff.1 hob).1 ob hob
    by_cases hab : 0 ≤ oa ∧ 0 ≤ ob
    · have ha2 := ga.resolve_left (by omega)
      have hb2 := gb.resolve_left (by omega)
      obtain ⟨-, -, l1, e1, ha3⟩ := ha2
      obtain ⟨-, -, l2, e2, hb3⟩ := hb2
      rw [Int.toNat_natCast, q4] at e1; cases e1
      rw [Int.toNat_natCast, q5] at e2; cases e2
      have ht := pairT_some (m := m) (p := ⟨f, s, r, PT⟩) (by dsimp only; rw [Int.toNat_natCast]; exact hoa) (by dsimp only; rw [Int.toNat_natCast]; exact hob) hab.1 hab.2
      obtain ⟨a, rfl⟩ := Int.eq_ofNat_of_zero_le hab.1
      obtain ⟨b, rfl⟩ := Int.eq_ofNat_of_zero_le hab.2
      have hla := hz.2.1 _ (List.mem_of_getElem? q4)
      have hlb := hz.2.1 _ (List.mem_of_getElem? q5)
      have hbd : a * lb.length + b < PT.length := by
        rw [q6]
        have : (a + 1) * lb.length ≤ la.length * lb.length := Nat.mul_le_mul (by omega) (Nat.le_refl _)
        rw [Nat.succ_mul] at this
        omega
      have hab2 : a * lb.length ≤ 24 * 24 := Nat.mul_le_mul (by omega) hlb
      obtain ⟨w, hw⟩ := getE hbd
      have htk := pairT_ok (g.2.1 i hlt _ hpi).1 ht
      rw [entV_at (p := ⟨f, s, r, PT⟩) (by dsimp only; rw [Int.toNat_natCast]; exact q5) hw] at ht htk
      obtain ⟨v, hv, hvb⟩ := run_get (aap (gr_ok g (plan := plan) (n := plan.length)) (prsT_ok g (plan := plan) (n := i))) q1
      rw [Int.toNat_natCast] at hv
      have hnx := run_next (r := (r : Int)) (c := w) hv
      rw [Int.toNat_natCast] at hnx
      have hln := run_len (m := m) (T := gr (chgT m plan) plan.length ++ prsT m plan i)
      have hstp : gr (chgT m plan) plan.length ++ prsT m plan (i + 1) = (gr (chgT m plan) plan.length ++ prsT m plan i) ++ [((r : Int), w)] := by unfold prsT; rw [upto_some hpi ht, ← List.append_assoc]
      generalize hL : runC m (gr (chgT m plan) plan.length ++ prsT m plan i) = L at *
      have hadd := c_billadd L r v w hv hvb htk.2
      rw [hln] at hadd
      repeat' (first | (refine idx_sl (k := i) (at_map hpi) (by omega) ?_) | (refine eqv_mul (by omega) (by omega) (fun _ _ => ?_)) | (refine idx_sl (k := a * lb.length + b) (at_map hw) (by simp) ?_) | ((change vcFunD _ _ _ _ _; refine callD_obj [2, 1] [billO m.rules.toNat, some ⟨3, 1, false, .p (L.map intRow)⟩] [.ptr 0 1 0 0, vint .i64 r, vint .i64 w] rfl ⟨rfl, rfl, trivial⟩ rfl hadd rfl ?_)) | refine o1 ?_ | refine o2 ?_ | refine k1 ?_ | refine k2 ?_ | refine k3 ?_ | refine k4 ?_ | refine k6 ?_ | refine And.intro ?_ ?_ | refine o3 ?_ | refine o4 ?_ | (intro h; first | exact Bool.noConfusion h | exact nz _ h | exact nl h | (simp at h; done) | (simp at h; first | (exfalso; omega) | skip) | skip) | exact (by kernel_rfl : drawOk _ _ = true) | refine eqv_len_map ?_ | refine eqv_wrap (by omega) (by omega) ?_ | refine ⟨_, _, (by first | rfl | assumption), at_map (by assumption), ?_⟩ | fail)
      all_goals first
        | (exfalso; omega)
        | exact ⟨i + 1, hlt, by omega, (by rw [hstp, ← hnx]; exact back [0, 1, 2] rfl rfl ⟨rfl, rfl, rfl, trivial⟩ (by repeat' (first | exact trivial | exact rfl | refine And.intro ?_ ?_)))⟩
    · have ht := pairT_none (m := m) (p := ⟨f, s, r, PT⟩) (by dsimp only; rw [Int.toNat_natCast]; exact hoa) (by dsimp only; rw [Int.toNat_natCast]; exact hob) (by omega)
      have hstp : prsT m plan (i + 1) = prsT m plan i := by unfold prsT; rw [upto_none hpi ht]
      repeat' (first | (refine idx_sl (k := i) (at_map hpi) (by omega) ?_) | refine o1 ?_ | refine o2 ?_ | refine k1 ?_ | refine k2 ?_ | refine k3 ?_ | refine k4 ?_ | refine k6 ?_ | refine And.intro ?_ ?_ | refine o3 ?_ | refine o4 ?_ | (intro h; first | exact Bool.noConfusion h | exact nz _ h | exact nl h | (simp at h; done) | (simp at h; first | (exfalso; omega) | skip) | skip) | exact (by kernel_rfl : drawOk _ _ = true) | refine eqv_wrap (by omega) (by omega) ?_ | refine ⟨_, _, (by first | rfl | assumption), at_map (by assumption), ?_⟩ | fail)
      all_goals first
        | (exfalso; omega)
        | exact ⟨i + 1, hlt, by omega, (by rw [hstp]; exact back [0, 1, 2] rfl rfl ⟨rfl, rfl, rfl, trivial⟩ (by repeat' (first | exact trivial | exact rfl | refine And.intro ?_ ?_)))⟩
  obtain rfl : i = m.pairs.length := by omega
  repeat' (first | refine o1 ?_ | refine o2 ?_ | refine k1 ?_ | refine k2 ?_ | refine k3 ?_ | refine k4 ?_ | refine k8 ?_ | refine And.intro ?_ ?_ | (intro h; first | exact Bool.noConfusion h | exact nz _ h | exact nl h | (simp at h; done) | (simp at h; first | (exfalso; omega) | skip) | skip) | refine eqv_len_map ?_ | fail)
  have hall2 := aap (gr_ok g (plan := plan) (n := plan.length)) (prsT_ok g (plan := plan) (n := m.pairs.length))
  have hrv : rulesV m plan = runC m (gr (chgT m plan) plan.length ++ prsT m plan m.pairs.length ++ cntsT m plan m.counts.length) := rfl
  have hrb := rules_bnd g (plan := plan)
  have hcv : costV m plan = totalV (rulesV m plan) (rulesV m plan).length := rfl
  rw [hcv]
  rw [hrv] at hrb ⊢
  generalize gr (chgT m plan) plan.length ++ prsT m plan m.pairs.length = T2 at *
  refine loop_for (fun i : Nat => [(1, .pv (encInts plan)), (2, .ptr 0 4 0 0), (6, .ptr 2 1 0 0), (103, .pv (.sl 4 (m.counts.map Count.row))), (104, vint .i64 m.counts.length), (105, vint .i64 i)]) (fun i => [mdlO m, some ⟨3, 1, false, .p ((runC m (T2 ++ cntsT m plan i)).map intRow)⟩, billO m.rules.toNat]) (fun i => i ≤ m.counts.length) (fun i => m.counts.length - i) 0 (Nat.zero_le _) ?_ ?_
  · have e : cntsT m plan 0 = [] := rfl
    rw [e, List.append_nil]
    exact back [0, 1, 2] rfl rfl ⟨rfl, rfl, rfl, trivial⟩ (by repeat' (first | exact trivial | exact rfl | refine And.intro ?_ ?_))
  intro i hi
  dsimp only [mdlO, billO]
  have hctn := hz.2.2.2.1
  rcases Nat.lt_or_ge i m.counts.length with hlt | hge
  · obtain ⟨c, hci⟩ := getE hlt
    have hcm := List.mem_of_getElem? hci
    have hcc := g.2.2 c hcm
    have hcn := loads_len hz hcc.2.2.2.2
    have hwt : ∀ x ∈ c.loads, 0 ≤ x.weight ∧ x.weight ≤ 1000 := fun x hx => by
      obtain ⟨k, hk⟩ := List.getElem?_of_mem hx
      have := hcc.2.2.2.2 k (List.getElem?_eq_some_iff.1 hk).1 x hk
      exact ⟨by have := this.2.1; omega, this.2.2.1⟩
    repeat' (first | (refine idx_sl (k := i) (at_map hci) (by omega) ?_) | refine o1 ?_ | refine o2 ?_ | refine k1 ?_ | refine k2 ?_ | refine k3 ?_ | refine k4 ?_ | refine k6 ?_ | refine And.intro ?_ ?_ | (intro h; first | exact Bool.noConfusion h | exact nz _ h | exact nl h | (simp at h; done) | (simp at h; first | (exfalso; omega) | skip) | skip) | exact (by kernel_rfl : drawOk _ _ = true) | refine eqv_len_map ?_ | fail)
    refine loop_for (fun k : Nat => [(1, .pv (encInts plan)), (2, .ptr 0 4 0 0), (6, .ptr 2 1 0 0), (103, .pv (.sl 4 (m.counts.map Count.row))), (104, vint .i64 m.counts.length), (105, vint .i64 i), (16, .ptr 3 4 0 0), (17, vint .i64 (loadT plan c.loads k)), (110, .pv (.sl 3 (c.loads.map Load.row))), (111, vint .i64 c.loads.length), (112, vint .i64 k)])
      (fun k => [mdlO m, some ⟨3, 1, false, .p ((runC m (T2 ++ cntsT m plan i)).map intRow)⟩, billO m.rules.toNat, some ⟨78, 4, false, .box [.pv (ei c.rule), .pv (.sl 3 (c.loads.map Load.row)), .pv (ei c.most), .pv (ei c.penalty)]⟩]) (fun k => k ≤ c.loads.length) (fun k => c.loads.length - k) 0 (Nat.zero_le _) ?_ ?_
    · exact back [0, 1, 2, 3] rfl rfl ⟨rfl, rfl, rfl, rfl, trivial⟩ (by repeat' (first | exact trivial | exact rfl | refine And.intro ?_ ?_))
    intro k hk
    dsimp only [mdlO, billO]
    have hlb := loadT_bnd (plan := plan) hwt hk
    rcases Nat.lt_or_ge k c.loads.length with hlt2 | hge2
    · obtain ⟨x, hxk⟩ := getE hlt2
      have hx := hcc.2.2.2.2 k hlt2 x hxk
      obtain ⟨⟨x1, -, lx, x2, -⟩, x3, x4, -⟩ := hx
      obtain ⟨xc, xo, xw⟩ := x
      dsimp only at x1 x2 x3 x4
      obtain ⟨u, rfl⟩ := Int.eq_ofNat_of_zero_le x1
      rw [Int.toNat_natCast] at x2
      have hxl := (List.getElem?_eq_some_iff.1 x2).1
      obtain ⟨o, ho⟩ := getE (show u < plan.length by omega)
      have hit := hit_iff (x := ⟨u, xo, xw⟩) (plan := plan) (o := o) (by dsimp only; rw [Int.toNat_natCast]; exact ho)
      have hsn := loadT_snoc (plan := plan) hxk
      dsimp only at hit hsn
      generalize loadT plan c.loads k = LT at *
      repeat' (first | (refine eqv_to (LT + xw) (show IntKind.i64.wrap (LT + xw) = LT + xw from wrap64 (by omega) (by omega)) ?_) | (refine idx_sl (k := k) (at_map hxk) (by omega) ?_) | refine o1 ?_ | refine o2 ?_ | refine k1 ?_ | refine k2 ?_ | refine k3 ?_ | refine k4 ?_ | refine k6 ?_ | refine And.intro ?_ ?_ | refine o3 ?_ | refine o4 ?_ | (intro h; first | exact Bool.noConfusion h | exact nz _ h | exact nl h | (simp at h; done) | (simp at h; first | (exfalso; omega) | skip) | skip) | exact (by kernel_rfl : drawOk _ _ = true) | refine eqv_wrap (by omega) (by omega) ?_ | refine ⟨_, _, (by first | rfl | assumption), at_map (by assumption), ?_⟩ | fail)
      all_goals first
        | (exfalso; omega)
        | (refine ⟨k + 1, hlt2, by omega, ?_⟩
           rw [pB_t (hit.2 (by omega)), if_pos rfl] at hsn
           rw [hsn]
           exact back [0, 1, 2, 3] rfl rfl ⟨rfl, rfl, rfl, rfl, trivial⟩ (by repeat' (first | exact trivial | exact rfl | refine And.intro ?_ ?_)))
        | (refine ⟨k + 1, hlt2, by omega, ?_⟩
           rw [pB_f (fun e => absurd (hit.1 e) (by omega)), if_neg (by decide), Int.add_zero] at hsn
           rw [hsn]
           exact back [0, 1, 2, 3] rfl rfl ⟨rfl, rfl, rfl, rfl, trivial⟩ (by repeat' (first | exact trivial | exact rfl | refine And.intro ?_ ?_)))
    obtain rfl : k = c.loads.length := by omega
    obtain ⟨v, hv, hvb⟩ := run_get (aap hall2 (cntsT_ok g (plan := plan) (n := i))) hcc.1
    have hex := c_excess c (loadT plan c.loads c.loads.length) (by omega) ⟨hcc.2.1, hcc.2.2.1⟩ hcc.2.2.2.1
    have htb := timesC_bnd (n := loadT plan c.loads c.loads.length - c.most) (priceP_bnd hcc.2.2.2.1).1
    have hnx := run_next (T := T2 ++ cntsT m plan i) (c := timesC (loadT plan c.loads c.loads.length - c.most) c.penalty) hv
    have hct : cntT plan c = (c.rule, timesC (loadT plan c.loads c.loads.length - c.most) c.penalty) := rfl
    have hcs := cntsT_snoc (plan := plan) hci
    rw [hct] at hcs
    have hln := run_len (m := m) (T := T2 ++ cntsT m plan i)
    have hstp : T2 ++ cntsT m plan (i + 1) = (T2 ++ cntsT m plan i) ++ [(c.rule, timesC (loadT plan c.loads c.loads.length - c.most) c.penalty)] := by rw [hcs, ← List.append_assoc]
    generalize timesC (loadT plan c.loads c.loads.length - c.most) c.penalty = w at *
    obtain ⟨r, hr⟩ := Int.eq_ofNat_of_zero_le hcc.1.1
    rw [hr, Int.toNat_natCast] at hv hnx
    rw [hr] at hstp
    generalize hL : runC m (T2 ++ cntsT m plan i) = L at *
    have hadd := c_billadd L r v w hv hvb htb
    rw [hln] at hadd
    unfold Count.row at hex
    rw [hr] at hex ⊢
    repeat' (first | ((change vcFunD _ _ _ _ _; refine callD_obj [2, 1] [billO m.rules.toNat, some ⟨3, 1, false, .p (L.map intRow)⟩] [.ptr 0 1 0 0, vint .i64 r, vint .i64 w] rfl ⟨rfl, rfl, trivial⟩ rfl hadd rfl ?_)) | refine o1 ?_ | refine o2 ?_ | refine k1 ?_ | refine k2 ?_ | refine k3 ?_ | refine k8 ?_ | refine And.intro ?_ ?_ | refine o3 ?_ | refine o4 ?_ | (intro h; first | exact Bool.noConfusion h | exact nz _ h | exact nl h | (simp at h; done) | (simp at h; first | (exfalso; omega) | skip) | skip) | exact (by kernel_rfl : drawOk _ _ = true) | refine eqv_wrap (by omega) (by omega) ?_ | (change vcFunD _ _ _ _ _; refine callD_eq rfl (by repeat' (first | trivial | refine And.intro ?_ ?_ | (show 0 + _ ≤ List.length _; simp))) ALeL.refl (hex) rfl ?_) | fail)
    all_goals first
      | exact ⟨i + 1, hlt, by omega, (by rw [hstp, ← hnx]; exact back [0, 1, 2] rfl rfl ⟨rfl, rfl, rfl, trivial⟩ (by repeat' (first | exact trivial | exact rfl | refine And.intro ?_ ?_)))⟩
  obtain rfl : i = m.counts.length := by omega
  have hln := run_len (m := m) (T := T2 ++ cntsT m plan m.counts.length)
  generalize runC m (T2 ++ cntsT m plan m.counts.length) = RV at *
  repeat' (first | refine o1 ?_ | refine o2 ?_ | refine k1 ?_ | refine k2 ?_ | refine k3 ?_ | refine k4 ?_ | refine k8 ?_ | refine And.intro ?_ ?_ | (intro h; first | exact Bool.noConfusion h | exact nz _ h | exact nl h | (simp at h; done) | (simp at h; first | (exfalso; omega) | skip) | skip) | fail)
  refine loop_for (fun i : Nat => [(6, .ptr 2 1 0 0), (20, vint .i64 (totalV RV i)), (140, .ms 1 1 0 m.rules.toNat), (141, vint .i64 m.rules.toNat), (142, vint .i64 i)]) (fun i => [none, some ⟨3, 1, false, .p (RV.map intRow)⟩, billO m.rules.toNat]) (fun i => i ≤ RV.length) (fun i => RV.length - i) 0 (Nat.zero_le _) ?_ ?_
  · exact back [0, 1, 2] rfl rfl ⟨rfl, rfl, trivial⟩ (by repeat' (first | exact trivial | exact rfl | refine And.intro ?_ ?_))
  intro i hi
  dsimp only [billO]
  have htb := total_bnd hrb hi
  rcases Nat.lt_or_ge i RV.length with hlt | hge
  · obtain ⟨n, hn⟩ := getE hlt
    have hnb := hrb n (List.mem_of_getElem? hn)
    have hsm := c_sumP (totalV RV i) n htb hnb
    rw [← total_snoc hn] at hsm
    repeat' (first | (refine idx_ms i rfl (by omega) ?_) | (refine ⟨_, at_map hn, ?_⟩) | refine o1 ?_ | refine o2 ?_ | refine k1 ?_ | refine k2 ?_ | refine k3 ?_ | refine k4 ?_ | refine k6 ?_ | refine And.intro ?_ ?_ | (intro h; first | exact Bool.noConfusion h | exact nz _ h | exact nl h | (simp at h; done) | (simp at h; first | (exfalso; omega) | skip) | skip) | refine eqv_zero ?_ | refine eqv_wrap (by omega) (by omega) ?_ | (change vcFun _ _ _ _ _; refine call_eq rfl (by repeat' (first | trivial | refine And.intro ?_ ?_ | (show 0 + _ ≤ List.length _; simp))) ALeL.refl (hsm) rfl ?_) | fail)
    all_goals first
      | exact ⟨i + 1, hlt, by omega, back [0, 1, 2] rfl rfl ⟨rfl, rfl, trivial⟩ (by repeat' (first | exact trivial | exact rfl | refine And.intro ?_ ?_))⟩
  obtain rfl : i = RV.length := by omega
  repeat' (first | refine o1 ?_ | refine o2 ?_ | refine k1 ?_ | refine k2 ?_ | refine k3 ?_ | refine k7 ?_ | refine k8 ?_ | refine And.intro ?_ ?_ | refine o3 ?_ | refine o4 ?_ | (intro h; first | exact Bool.noConfusion h | exact nz _ h | exact nl h | (simp at h; done) | (simp at h; first | (exfalso; omega) | skip) | skip) | exact (by kernel_rfl : drawOk _ _ = true) | fail)
  refine ret_pure (r0 := .tup [vint .i64 (totalV RV RV.length), .pv (.sl 1 (((RV.map intRow).drop 0).take m.rules.toNat))]) rfl ?_ ?_
  · refine ⟨?_, trivial⟩
    show 0 + m.rules.toNat ≤ _
    rw [List.length_map]; omega
  · rw [List.drop_zero, List.take_of_length_le (by rw [List.length_map]; omega)]
    exact ⟨ALe.refl⟩
theorem c_costs (m : Model) (plan : List Int) (h0 : modelE m = 0) (hl : Laid m) (hp : plannedP m plan) : PCall Tryz.prog 71 [ag m.cells, .pv (encInts plan)] (fun r => r = .tup [vint .i64 (costV m plan), .pv (.sl 1 ((rulesV m plan).map intRow))]) := (c_costs0 m plan h0 hl hp).weak fun r k => ⟨_, k.le, rfl⟩
theorem c_costP (m : Model) (plan : List Int) (h0 : modelE m = 0) (hl : Laid m) (hp : plannedP m plan) : PCall Tryz.prog 30 [ag m.cells, .pv (encInts plan)] (fun r => r = .tup [vint .i64 (costV m plan), .pv (.sl 1 ((rulesV m plan).map intRow)), vint .i64 0]) := by
  have hv := c_valid m hl
  rw [h0] at hv
  have hpl := c_planned m plan (model_sized h0)
  rw [pB_t hp] at hpl
  have hc := c_costs m plan h0 hl hp
  refine acall_of tok mixed 25 rfl (fn := Tryz.f30) (c := Tryz.f30.body.getD .skip) (by kernel_rfl) (by kernel_rfl) (by kernel_rfl) rfl 0 rfl ?_
  repeat' (first | ((change vcFun _ _ _ _ _; refine call_frz rfl (by repeat' (first | trivial | refine And.intro ?_ ?_ | (show 0 + _ ≤ List.length _; simp))) ALeL.refl hc ?_; rintro _ rfl)) | refine o1 ?_ | refine o2 ?_ | refine k1 ?_ | refine k2 ?_ | refine k3 ?_ | refine k6 ?_ | refine k7 ?_ | refine And.intro ?_ ?_ | (intro h; first | exact Bool.noConfusion h | exact nz _ h | exact nl h | (simp at h; done) | (simp at h; first | (exfalso; omega) | skip) | skip) | (change retOk _ _ _ _; refine ret_pure rfl trivial ?_) | (change vcFun _ _ _ _ _; refine call_eq rfl (by repeat' (first | trivial | refine And.intro ?_ ?_ | (show 0 + _ ≤ List.length _; simp))) ALeL.refl (hv) rfl ?_) | (change vcFun _ _ _ _ _; refine call_eq rfl (by repeat' (first | trivial | refine And.intro ?_ ?_ | (show 0 + _ ≤ List.length _; simp))) ALeL.refl (hpl) rfl ?_) | fail)
  all_goals first
    | rfl
end Go.Proofs.YtihpjcmloecaaaaGreat.Cw
/-
  Symmetry, plain: a symmetry changes no costs.
-/
namespace Go.Proofs.YtihpjcmloecaaaaGreat.Cw
open Go Go.Cw Go.Proofs
set_option linter.unusedVariables false
noncomputable def imgP (m : Model) (a b : Int) (p : List Int) : List Int := (List.range p.length).map fun (i : Nat) => (match p[i]?, m.classes[i]? with
  | some o, some l => if o < 0 then -1 else ((imN l a b o.toNat : Nat) : Int)
  | _, _ => -1 : Int)
theorem fm_congr {α β : Type} {f g : α → Option β} : ∀ {l : List α}, (∀ x ∈ l, f x = g x) → l.filterMap f = l.filterMap g
  | [], _ => rfl
  | x :: l, h => by
    rw [List.filterMap_cons, List.filterMap_cons, h x (List.mem_cons_self ..), fm_congr fun y hy => h y (List.mem_cons_of_mem _ hy)]
section
variable {m : Model} {a b : Int} {p : List Int}
theorem imgP_len : (imgP m a b p).length = p.length := by unfold imgP; rw [List.length_map, List.length_range]
theorem imgP_at {i : Nat} {o : Int} {l : List Opt} (ho : p[i]? = some o) (hl : m.classes[i]? = some l) : (imgP m a b p)[i]? = some (if o < 0 then -1 else ((imN l a b o.toNat : Nat) : Int)) := by
  have hi := (List.getElem?_eq_some_iff.1 ho).1
  unfold imgP
  rw [List.getElem?_map, List.getElem?_range hi, Option.map_some, ho, hl]
theorem imgP_none {i : Nat} (ho : p[i]? = none) : (imgP m a b p)[i]? = none := by
  rw [List.getElem?_eq_none_iff] at ho ⊢
  rw [imgP_len]; exact ho
theorem imgP_planned (hi : allImg m a b) (hp : plannedP m p) : plannedP m (imgP m a b p) := by
  refine ⟨by rw [imgP_len]; exact hp.1, fun i h o ho => ?_⟩
  rw [imgP_len] at h
  obtain ⟨o', ho'⟩ := getE h
  obtain ⟨l, hl⟩ := getE (l := m.classes) (i := i) (by have := hp.1; omega)
  rw [imgP_at ho' hl] at ho
  injection ho with ho
  rcases hp.2 i h o' ho' with rfl | ⟨_, h2, l', h3, h4⟩
  · rw [if_pos (by decide)] at ho; exact .inl ho.symm
  · rw [Int.toNat_natCast, hl] at h3; cases h3
    rw [if_neg (by omega)] at ho
    have := (ok_imN (hi l (List.mem_of_getElem? hl) o'.toNat (by omega))).2
    exact .inr ⟨by omega, by omega, l, by rw [Int.toNat_natCast]; exact hl, by omega⟩
theorem chgT_img (hi : allImg m a b) (hp : plannedP m p) (i : Nat) : chgT m (imgP m a b p) i = chgT m p i := by
  rcases Nat.lt_or_ge i p.length with h | h
  · obtain ⟨o, ho⟩ := getE h
    obtain ⟨l, hl⟩ := getE (l := m.classes) (i := i) (by have := hp.1; omega)
    have hq := imgP_at (a := a) (b := b) ho hl
    rcases hp.2 i h o ho with rfl | ⟨_, h2, l', h3, h4⟩
    · rw [if_pos (by decide)] at hq
      rw [chgT_neg hq (by decide), chgT_neg ho (by decide)]
    · rw [Int.toNat_natCast, hl] at h3; cases h3
      obtain ⟨n, rfl⟩ := Int.eq_ofNat_of_zero_le h2
      rw [if_neg (by omega), Int.toNat_natCast] at hq
      have hok := hi l (List.mem_of_getElem? hl) n (by omega)
      have him := ok_imN hok
      obtain ⟨j, x, y, e1, e2, e3, e4⟩ := hok
      rw [him.1] at e1; injection e1 with e1
      rw [← e1] at e3
      rw [chgT_at hl hq e3, chgT_at hl ho e2, e4]
  · have h0 : p[i]? = none := List.getElem?_eq_none h
    have h1 := imgP_none (m := m) (a := a) (b := b) h0
    unfold chgT; rw [h0, h1]
theorem entV_nat {q : Pair} {i k : Nat} {l : List Opt} (hl : m.classes[q.second.toNat]? = some l) : entV m q i k = entZ m q i k := by
  unfold entV entZ
  rw [hl]
  show (q.table[((i : Int) * (l.length : Int) + (k : Int)).toNat]?).getD 0 = _
  rw [show ((i : Int) * (l.length : Int) + (k : Int)).toNat = i * l.length + k by rw [← Int.natCast_mul, ← Int.natCast_add, Int.toNat_natCast]]
  rfl
theorem pairT_img (hi : allImg m a b) (hp : plannedP m p) {q : Pair} (hq : pairP m q) (he : entSame m a b q) : pairT m (imgP m a b p) q = pairT m p q := by
  obtain ⟨q1, q2, q3, ⟨la, lb, q4, q5, q6⟩, q7⟩ := hq
  have hf := (List.getElem?_eq_some_iff.1 q4).1
  have hs := (List.getElem?_eq_some_iff.1 q5).1
  have hpl := hp.1
  obtain ⟨oa, hoa⟩ := getE (show q.first.toNat < p.length by omega)
  obtain ⟨ob, hob⟩ := getE (show q.second.toNat < p.length by omega)
  have ha := imgP_at (a := a) (b := b) hoa q4
  have hb := imgP_at (a := a) (b := b) hob q5
  have ga := hp.2 _ (List.getElem?_eq_some_iff.1 hoa).1 oa hoa
  have gb := hp.2 _ (List.getElem?_eq_some_iff.1 hob).1 ob hob
  by_cases hab : 0 ≤ oa ∧ 0 ≤ ob
  · obtain ⟨-, -, l1, e1, ha3⟩ := ga.resolve_left (by omega)
    obtain ⟨-, -, l2, e2, hb3⟩ := gb.resolve_left (by omega)
    rw [Int.toNat_natCast, q4] at e1; cases e1
    rw [Int.toNat_natCast, q5] at e2; cases e2
    obtain ⟨x, rfl⟩ := Int.eq_ofNat_of_zero_le hab.1
    obtain ⟨y, rfl⟩ := Int.eq_ofNat_of_zero_le hab.2
    rw [if_neg (by omega), Int.toNat_natCast] at ha hb
    rw [pairT_some ha hb (by omega) (by omega), pairT_some hoa hob hab.1 hab.2, entV_nat q5, entV_nat q5, ← he la lb q4 q5 x (by omega) y (by omega)]
  · rw [pairT_none hoa hob (by omega), pairT_none ha hb]
    by_cases h : oa < 0
    · left; rw [if_pos h]; decide
    · right; rw [if_pos (by omega)]; decide
noncomputable def hitW (p : List Int) (l : List Load) : Int := (l.map fun x => if pB (hitP p x) then x.weight else 0).sum
theorem hitW_perm {l l' : List Load} (h : l.Perm l') : hitW p l = hitW p l' := by
  unfold hitW
  induction h with
  | nil => rfl
  | cons x _ ih => simp only [List.map_cons, List.sum_cons, ih]
  | swap x y l => simp only [List.map_cons, List.sum_cons]; omega
  | trans _ _ h1 h2 => rw [h1, h2]
theorem load_hit {l : List Load} : loadT p l l.length = hitW p l := by unfold loadT hitW; rw [List.take_length]
noncomputable def cntF (p : List Int) (c : Count) : Term1 := (c.rule, timesC (hitW p c.loads - c.most) c.penalty)
theorem cntT_F {c : Count} : cntT p c = cntF p c := by unfold cntT cntF; rw [load_hit]
theorem cntF_norm {c : Count} : cntF p (optC Load.opt c) = cntF p c := by
  unfold cntF optC
  dsimp only
  rw [hitW_perm (srt_perm _), show c.loads.map (optL Load.opt) = c.loads by
    rw [show optL Load.opt = id from funext fun x => rfl, List.map_id]]
theorem hit_img (hi : allImg m a b) (hp : plannedP m p) {x : Load} (hx : optionP m x.cls x.opt) : hitP (imgP m a b p) (optL (imLoad m a b) x) ↔ hitP p x := by
  obtain ⟨h1, h2, l, h3, h4⟩ := hx
  have hlt : x.cls.toNat < p.length := by have := (List.getElem?_eq_some_iff.1 h3).1; have := hp.1; omega
  obtain ⟨o, ho⟩ := getE hlt
  have hq := imgP_at (a := a) (b := b) ho h3
  have hil : imLoad m a b x = imN l a b x.opt.toNat := by unfold imLoad; rw [h3]
  unfold hitP optL
  dsimp only
  rw [hq, ho, hil, Option.some.injEq, Option.some.injEq]
  rcases hp.2 _ hlt o ho with rfl | ⟨_, g2, l', g3, g4⟩
  · rw [if_pos (by decide)]
    constructor <;> intro h <;> omega
  · rw [Int.toNat_natCast, h3] at g3; cases g3
    rw [if_neg (by omega)]
    constructor
    · intro h
      have := imN_inj (hi l (List.mem_of_getElem? h3)) (i := o.toNat) (j := x.opt.toNat) (by omega) (by omega) (by omega)
      omega
    · intro h; rw [h]
theorem cntF_img (hi : allImg m a b) (hp : plannedP m p) {c : Count} (hc : ∀ x ∈ c.loads, optionP m x.cls x.opt) : cntF (imgP m a b p) (optC (imLoad m a b) c) = cntF p c := by
  unfold cntF optC
  dsimp only
  rw [hitW_perm (srt_perm _)]
  unfold hitW
  rw [List.map_map]
  have : c.loads.map ((fun x => if pB (hitP (imgP m a b p) x) then x.weight else 0) ∘ optL (imLoad m a b)) = c.loads.map fun x => if pB (hitP p x) then x.weight else 0 := List.map_congr_left fun x hx => by
    show (if pB (hitP (imgP m a b p) (optL (imLoad m a b) x)) then x.weight else 0) = _
    rw [pB_iff (hit_img hi hp (hc x hx))]
  rw [this]
theorem cnts_img (hg : goodP m) (hs : swapP m a b) (hp : plannedP m p) : (m.counts.map (cntT (imgP m a b p))).Perm (m.counts.map (cntT p)) := by
  have e1 : m.counts.map (cntT (imgP m a b p)) = (m.counts.map (optC Load.opt)).map (cntF (imgP m a b p)) := by
    rw [List.map_map]; exact List.map_congr_left fun c _ => by rw [cntT_F, ← cntF_norm]; rfl
  have e2 : m.counts.map (cntT p) = (m.counts.map (optC (imLoad m a b))).map (cntF (imgP m a b p)) := by
    rw [List.map_map]
    exact List.map_congr_left fun c hc => by
      rw [cntT_F, ← cntF_img hs.1 hp fun x hx => (good_load hg hc hx).1]; rfl
  rw [e1, e2]
  exact ((cnt_iff.1 hs.2.2).map _).symm
theorem sumR_perm {S T : List Term1} (h : S.Perm T) (r : Nat) : sumR S r = sumR T r := by
  induction h with
  | nil => rfl
  | cons x _ ih => rw [sumR_cons, sumR_cons, ih]
  | swap x y l => rw [sumR_cons, sumR_cons, sumR_cons, sumR_cons]; omega
  | trans _ _ h1 h2 => rw [h1, h2]
theorem terms_img (hg : goodP m) (hs : swapP m a b) (hp : plannedP m p) (r : Nat) : sumR (termsV m (imgP m a b p)) r = sumR (termsV m p) r := by
  have h1 : gr (chgT m (imgP m a b p)) (imgP m a b p).length = gr (chgT m p) p.length := by
    rw [imgP_len]; unfold gr
    rw [show chgT m (imgP m a b p) = chgT m p from funext fun i => chgT_img hs.1 hp i]
  have h2 : prsT m (imgP m a b p) m.pairs.length = prsT m p m.pairs.length := by
    unfold prsT upto
    refine fm_congr fun i hi => ?_
    cases hq : m.pairs[i]? with
    | none => rfl
    | some q => exact pairT_img hs.1 hp (hg.2.1 i (List.getElem?_eq_some_iff.1 hq).1 q hq).1 (hs.2.1 q (List.mem_of_getElem? hq))
  unfold termsV
  rw [h1, h2, sumR_app, sumR_app, sumR_app, sumR_app]
  congr 1
  unfold cntsT
  rw [List.take_length]
  exact sumR_perm (cnts_img hg hs hp) r
theorem rules_eq {p q : List Int} (hg : goodP m) (h : ∀ r, sumR (termsV m p) r = sumR (termsV m q) r) : rulesV m p = rulesV m q := by
  apply List.ext_getElem?
  intro r
  have hl : (rulesV m p).length = m.rules.toNat := run_len
  have hl2 : (rulesV m q).length = m.rules.toNat := run_len
  rcases Nat.lt_or_ge r m.rules.toNat with hr | hr
  · have h1 : (rulesV m p)[r]? = some (minC (sumR (termsV m p) r)) := rules_at hr (terms_ok hg)
    have h2 : (rulesV m q)[r]? = some (minC (sumR (termsV m q) r)) := rules_at hr (terms_ok hg)
    rw [h1, h2, h r]
  · rw [List.getElem?_eq_none (by omega), List.getElem?_eq_none (by omega)]
theorem cost_img (hg : goodP m) (hs : swapP m a b) (hp : plannedP m p) : rulesV m (imgP m a b p) = rulesV m p ∧ costV m (imgP m a b p) = costV m p := by
  have h := rules_eq hg fun r => terms_img hg hs hp r
  refine ⟨h, ?_⟩
  unfold costV; rw [h]
end
theorem imN_back {l : List Opt} {a b : Int} (h : imgsP l a b) {i : Nat} (hi : i < l.length) : imN l a b (imN l a b i) = i := by
  obtain ⟨h1, h2⟩ := ok_imN (h i hi)
  obtain ⟨o, ho⟩ := getE hi
  obtain ⟨q, hq⟩ := getE h2
  have e1 : imgO l i (exch o.place.room a b) = some (imN l a b i) := by rw [← swap_of ho rfl]; exact h1
  have hr := img_room e1 hq
  have e2 : swapO l a b (imN l a b i) = some i := by
    rw [swap_of hq rfl, img_comp e1, hr]
    have : exch (exch o.place.room a b) a b = o.place.room := by unfold exch; (repeat' split) <;> omega
    rw [this]; exact img_self ho
  show (swapO l a b (imN l a b i)).getD 0 = i
  rw [e2]; rfl
end Go.Proofs.YtihpjcmloecaaaaGreat.Cw
/-
  Boxes one cell of which is a slice that grows.
-/
namespace Go.Proofs.YtihpjcmloecaaaaGreat.Cw
open Go.Cw Go.Proofs
theorem ren_bx0 {d : Nat} {rn : List Nat} {id z : Nat} {rows : List (List PV)} {cs : List AV} : renL d rn (slP id z rows :: cs) = slP (rn.getD id d) z rows :: renL d rn cs := by simp [renL, ren_sl]
theorem ren_bx1 {d : Nat} {rn : List Nat} {id z : Nat} {rows : List (List PV)} {a b c : PV} : renL d rn [.pv a, slP id z rows, .pv b, .pv c] = [.pv a, slP (rn.getD id d) z rows, .pv b, .pv c] := by simp [renL, ren_sl, renC]
theorem ren_bx3 {d : Nat} {rn : List Nat} {id z : Nat} {rows : List (List PV)} {a b c : PV} : renL d rn [.pv a, .pv b, .pv c, slP id z rows] = [.pv a, .pv b, .pv c, slP (rn.getD id d) z rows] := by simp [renL, ren_sl, renC]
end Go.Proofs.YtihpjcmloecaaaaGreat.Cw
/-
  Contracts: dice.
-/
namespace Go.Proofs.YtihpjcmloecaaaaGreat.Cw
open Go.Cw Go.Proofs
set_option linter.unusedVariables false
set_option maxRecDepth 100000
def modI (a m : Int) : Int := if m < 1 then 0 else a % m
theorem tmod_mod {a m : Int} (h : 1 ≤ m) : (if a.tmod m < 0 then a.tmod m + m else a.tmod m) = a % m := by
  rw [Int.tmod_eq_emod]
  have h1 := Int.emod_nonneg a (show m ≠ 0 by omega)
  have h2 := Int.emod_lt_of_pos a (show 0 < m by omega)
  split
  · simp only [Int.ofNat_zero, Int.sub_zero]; rw [if_neg (by omega)]
  · rename_i h3
    have : (m.natAbs : Int) = m := by omega
    rw [this, if_pos (by omega)]; omega
theorem c_mod (a m : Int) (hm : m ≤ 9223372036854775807) : PCall Tryz.prog 67 [vint .i64 a, vint .i64 m] (fun r => r = vint .i64 (modI a m)) := by
  refine acall_of tok mixed 16 rfl (fn := Tryz.f67) (c := Tryz.f67.body.getD .skip) (by kernel_rfl) (by kernel_rfl) (by kernel_rfl) rfl 0 rfl ?_
  repeat' (first | refine o1 ?_ | refine o2 ?_ | refine k1 ?_ | refine k2 ?_ | refine k3 ?_ | refine k6 ?_ | refine k7 ?_ | refine And.intro ?_ ?_ | (intro h; first | exact Bool.noConfusion h | exact nz _ h | exact nl h | (simp at h; done) | (simp at h; first | (exfalso; omega) | skip) | skip) | (change retOk _ _ _ _; refine ret_pure rfl trivial ?_) | fail)
  case' refine_2.refine_2 =>
    have ht := tmod_mod (a := a) (m := m) (by omega)
    have h1 := Int.emod_nonneg a (show m ≠ 0 by omega)
    have h2 := Int.emod_lt_of_pos a (show 0 < m by omega)
    refine eqv_rfl ?_
    generalize a.tmod m = q at *
    have hq : q < 0 → q + m = a % m := fun h => by rw [if_pos h] at ht; exact ht
    repeat' (first | refine o1 ?_ | refine o2 ?_ | refine k1 ?_ | refine k2 ?_ | refine k3 ?_ | refine k6 ?_ | refine k7 ?_ | refine And.intro ?_ ?_ | (intro h; first | exact Bool.noConfusion h | exact nz _ h | exact nl h | (simp at h; done) | (simp at h; first | (exfalso; omega) | skip) | skip) | (change retOk _ _ _ _; refine ret_pure rfl trivial ?_) | refine eqv_wrap (by omega) (by omega) ?_ | fail)
  all_goals first
    | (exfalso; omega)
    | (refine congrArg (vint .i64) ?_; unfold modI; rw [if_neg (by omega)]; exact hq (by assumption))
    | (refine congrArg (vint .i64) ?_; unfold modI; rw [if_neg (by omega), ← ht, if_neg (by omega)])
    | (refine congrArg (vint .i64) ?_; unfold modI; rw [if_pos (by omega)])
def dice (t : List Int) (k : Nat) : Option AObj := some ⟨67, 2, false, .box [.pv (encInts t), vint .i64 k]⟩
def nextV (t : List Int) (k : Nat) (n : Int) : Int := match t[k]? with
  | some x => modI x n
  | none => 0
def nextK (t : List Int) (k : Nat) : Nat := if k < t.length then k + 1 else k
theorem nextV_range (t : List Int) (k : Nat) {n : Int} (h : 1 ≤ n) : 0 ≤ nextV t k n ∧ nextV t k n < n := by
  unfold nextV
  split
  · unfold modI; rw [if_neg (by omega)]; exact ⟨Int.emod_nonneg _ (by omega), Int.emod_lt_of_pos _ (by omega)⟩
  · omega
theorem c_next (t : List Int) (k : Nat) (n : Int) (ht : t.length ≤ 400) (hk : k ≤ t.length) (hn : n ≤ 9223372036854775807) :
    ACall Tryz.prog 31 [.ptr 0 2 0 0, vint .i64 n] [dice t k] (fun r H' => r = vint .i64 (nextV t k n) ∧ H' = [dice t (nextK t k)]) := by
  refine acall_of tok mixed 35 rfl (fn := Tryz.f31) (c := Tryz.f31.body.getD .skip) (by kernel_rfl) (by kernel_rfl) (by kernel_rfl) rfl 1 rfl ?_
  repeat' (first | refine o1 ?_ | refine o2 ?_ | refine k1 ?_ | refine k2 ?_ | refine k3 ?_ | refine k6 ?_ | refine k7 ?_ | refine And.intro ?_ ?_ | refine o3 ?_ | refine o4 ?_ | (intro h; first | exact Bool.noConfusion h | exact nz _ h | exact nl h | (simp at h; done) | (simp at h; first | (exfalso; omega) | skip) | skip) | exact (by kernel_rfl : drawOk _ _ = true) | refine eqv_len_map ?_ | refine eqv_wrap (by omega) (by omega) ?_ | fail)
  case' refine_1 =>
    refine ret_obj [0] [dice t (nextK t k)] rfl rfl ⟨(by rw [nextK, if_neg (by omega)]; rfl), trivial⟩ (r' := vint .i64 0) rfl ⟨?_, rfl⟩
    simp [nextV, List.getElem?_eq_none h]
  case' refine_2 =>
    obtain ⟨x, hx⟩ := getE h
    repeat' (first | refine o3 ?_ | refine idx_sl (at_map (by assumption)) (by omega) ?_ | fail)
    change vcFunD _ _ _ _ _
    refine callD_eq rfl (by repeat' (first | trivial)) ALeL.refl (c_mod x n hn) rfl ?_
    repeat' (first | refine k7 ?_ | refine And.intro ?_ ?_ | refine o3 ?_ | refine o4 ?_ | exact (by kernel_rfl : drawOk _ _ = true) | fail)
    refine ret_obj [0] [dice t (nextK t k)] rfl rfl ⟨(by rw [nextK, if_pos h]; rfl), trivial⟩ (r' := vint .i64 (modI x n)) rfl ⟨?_, rfl⟩
    simp [nextV, hx]
theorem c_one (t : List Int) (k : Nat) (n : Int) (ht : t.length ≤ 400) (hk : k ≤ t.length) (hn : n ≤ 9223372036854775807) (hn1 : 1 ≤ n) :
    ACall Tryz.prog 58 [.ptr 0 2 0 0, vint .i64 n] [dice t k] (fun r H' => r = vbool (decide (nextV t k n = n - 1)) ∧ H' = [dice t (nextK t k)]) := by
  refine acall_of tok mixed 11 rfl (fn := Tryz.f58) (c := Tryz.f58.body.getD .skip) (by kernel_rfl) (by kernel_rfl) (by kernel_rfl) rfl 1 rfl ?_
  repeat' (first | refine o1 ?_ | refine o2 ?_ | refine k1 ?_ | refine k2 ?_ | fail)
  change vcFun _ _ _ _ _
  refine call_obj [0] [dice t k] [.ptr 0 2 0 0, vint .i64 n] rfl ⟨rfl, trivial⟩ rfl (c_next t k n ht hk hn) ?_
  rintro r H' ⟨rfl, rfl⟩
  repeat' (first | refine o1 ?_ | refine o2 ?_ | refine k7 ?_ | refine And.intro ?_ ?_ | exact Nat.le_of_ble_eq_true rfl | refine eqv_wrap (by omega) (by omega) ?_ | fail)
  refine ret_obj [0] [dice t (nextK t k)] rfl rfl ⟨rfl, trivial⟩ (r' := vbool (decide (nextV t k n = n - 1))) rfl ⟨rfl, rfl⟩
def Nxt (t : List Int) (k : Nat) (n v : Int) (k2 : Nat) : Prop := ACall Tryz.prog 31 [.ptr 0 2 0 0, vint .i64 n] [dice t k] (fun r H' => r = vint .i64 v ∧ H' = [dice t k2])
theorem nextK_le {t : List Int} {k : Nat} (h : k ≤ t.length) : nextK t k ≤ t.length := by unfold nextK; split <;> omega
theorem next_ex (t : List Int) (k : Nat) (n : Int) (ht : t.length ≤ 400) (hk : k ≤ t.length) (hn : n ≤ 9223372036854775807) (h1 : 1 ≤ n) :
    ∃ v k2, 0 ≤ v ∧ v < n ∧ k2 ≤ t.length ∧ Nxt t k n v k2 :=
  ⟨_, _, (nextV_range t k h1).1, (nextV_range t k h1).2, nextK_le hk, c_next t k n ht hk hn⟩
def One (t : List Int) (k : Nat) (n : Int) (b : Bool) (k2 : Nat) : Prop := ACall Tryz.prog 58 [.ptr 0 2 0 0, vint .i64 n] [dice t k] (fun r H' => r = vbool b ∧ H' = [dice t k2])
theorem one_ex (t : List Int) (k : Nat) (n : Int) (ht : t.length ≤ 400) (hk : k ≤ t.length) (hn : n ≤ 9223372036854775807) (h1 : 1 ≤ n) :
    ∃ b k2, k2 ≤ t.length ∧ One t k n b k2 :=
  ⟨_, _, nextK_le hk, c_one t k n ht hk hn h1⟩
theorem c_roll (t : List Int) : ACall Tryz.prog 12 [.pv (encInts t)] [] (fun r H' => r = .ptr 0 2 0 0 ∧ H' = [dice t 0]) := by
  refine acall_of tok mixed 6 rfl (fn := Tryz.f12) (c := Tryz.f12.body.getD .skip) (by kernel_rfl) (by kernel_rfl) (by kernel_rfl) rfl 0 rfl ?_
  repeat' (first | refine o1 ?_ | refine o2 ?_ | refine k1 ?_ | refine k2 ?_ | refine k7 ?_ | fail)
  refine ret_obj [0] [dice t 0] rfl rfl ⟨rfl, trivial⟩ (r' := .ptr 0 2 0 0) rfl ⟨rfl, rfl⟩
theorem c_light (t : List Int) : PCall Tryz.prog 9 [.pv (encInts t)] (fun r => r = vbool (decide (t.length ≤ 400))) := by
  refine acall_of tok mixed 6 rfl (fn := Tryz.f9) (c := Tryz.f9.body.getD .skip) (by kernel_rfl) (by kernel_rfl) (by kernel_rfl) rfl 0 rfl ?_
  repeat' (first | refine o1 ?_ | refine o2 ?_ | refine k1 ?_ | refine k2 ?_ | refine k7 ?_ | (change retOk _ _ _ _; refine ret_pure rfl trivial ?_) | refine eqv_len_map ?_ | fail)
  refine congrArg vbool ?_
  simp; omega
end Go.Proofs.YtihpjcmloecaaaaGreat.Cw
/-
  Dice: calls in walks.
-/
namespace Go.Proofs.YtihpjcmloecaaaaGreat.Cw
open Go.Cw Go.Proofs
set_option linter.unusedVariables false
set_option maxRecDepth 100000
section
variable {t : List Int} {k : Nat} {n : Int} {H : Heap} (i : Nat)
theorem call_next {K : AV → Heap → Prop} (hi : H[i]? = some (dice t k)) (ht : t.length ≤ 400) (hk : k ≤ t.length) (h1 : 1 ≤ n) (hn : n ≤ 9223372036854775807)
    (hK : ∀ v k2, 0 ≤ v → v < n → k2 ≤ t.length → K (vint .i64 v) (H.set i (dice t k2))) : vcFun Tryz.prog 31 [.ptr i 2 0 0, vint .i64 n] H K := by
  obtain ⟨v, k2, a, b, c, hn⟩ := next_ex t k n ht hk hn h1
  refine call_one (i := i) hi (fun _ _ => rfl) [.ptr 0 2 0 0, vint .i64 n] rfl hn ?_
  rintro r H' ⟨rfl, rfl⟩
  exact ⟨_, rfl, fun _ _ => rfl, fun _ _ => rfl, hK v k2 a b c⟩
theorem call_one2 {K : AV → Heap → Prop} (hi : H[i]? = some (dice t k)) (ht : t.length ≤ 400) (hk : k ≤ t.length) (h1 : 1 ≤ n) (hn : n ≤ 9223372036854775807)
    (hK : ∀ b k2, k2 ≤ t.length → K (vbool b) (H.set i (dice t k2))) : vcFun Tryz.prog 58 [.ptr i 2 0 0, vint .i64 n] H K := by
  obtain ⟨v, k2, c, hn⟩ := one_ex t k n ht hk hn h1
  refine call_one (i := i) hi (fun _ _ => rfl) [.ptr 0 2 0 0, vint .i64 n] rfl hn ?_
  rintro r H' ⟨rfl, rfl⟩
  exact ⟨_, rfl, fun _ _ => rfl, fun _ _ => rfl, hK v k2 c⟩
theorem callD_next {K : AV → Upd → List Nat → Prop} (hi : H[i]? = some (dice t k)) (ht : t.length ≤ 400) (hk : k ≤ t.length) (h1 : 1 ≤ n) (hn : n ≤ 9223372036854775807)
    (hK : ∀ v k2, 0 ≤ v → v < n → k2 ≤ t.length → K (vint .i64 v) [(i, dice t k2)] [i]) : vcFunD Tryz.prog 31 [.ptr i 2 0 0, vint .i64 n] H K := by
  obtain ⟨v, k2, a, b, c, hn⟩ := next_ex t k n ht hk hn h1
  exact callD_one (i := i) hi (fun _ _ => rfl) [.ptr 0 2 0 0, vint .i64 n] rfl hn (fun _ _ => rfl) (fun _ _ => rfl) (hK v k2 a b c)
theorem callD_one2 {K : AV → Upd → List Nat → Prop} (hi : H[i]? = some (dice t k)) (ht : t.length ≤ 400) (hk : k ≤ t.length) (h1 : 1 ≤ n) (hn : n ≤ 9223372036854775807)
    (hK : ∀ b k2, k2 ≤ t.length → K (vbool b) [(i, dice t k2)] [i]) : vcFunD Tryz.prog 58 [.ptr i 2 0 0, vint .i64 n] H K := by
  obtain ⟨v, k2, c, hn⟩ := one_ex t k n ht hk hn h1
  exact callD_one (i := i) hi (fun _ _ => rfl) [.ptr 0 2 0 0, vint .i64 n] rfl hn (fun _ _ => rfl) (fun _ _ => rfl) (hK v k2 c)
end
end Go.Proofs.YtihpjcmloecaaaaGreat.Cw
/-
  Made models: costs, charges, plain laws.
-/
namespace Go.Proofs.YtihpjcmloecaaaaGreat.Cw
open Go.Cw Go.Proofs
set_option linter.unusedVariables false
set_option maxRecDepth 100000
set_option maxHeartbeats 1600000
def Cost (t : List Int) (k : Nat) (n : Int) (k2 : Nat) : Prop := ACall Tryz.prog 72 [.ptr 0 2 0 0] [dice t k] (fun r H' => r = vint .i64 n ∧ H' = [dice t k2])
theorem cost_ex (t : List Int) (k : Nat) (ht : t.length ≤ 400) (hk : k ≤ t.length) : ∃ (n : Int) (k' : Nat), (n = 0 ∨ priceP n) ∧ k' ≤ t.length ∧ Cost t k n k' := by
  obtain ⟨v, ka, h0, h1, h2, hn⟩ := next_ex t k 6 ht hk (by omega) (by omega)
  obtain ⟨w, kb, g0, g1, g2, gn⟩ := next_ex t ka 20 ht h2 (by omega) (by omega)
  have call1 : ∀ {H : Heap} {K : AV → Heap → Prop}, H[0]? = some (dice t k) → K (vint .i64 v) (H.set 0 (dice t ka)) → vcFun Tryz.prog 31 [.ptr 0 2 0 0, vint .i64 6] H K := fun hi hK => by
    refine call_one (i := 0) hi (fun _ _ => rfl) [.ptr 0 2 0 0, vint .i64 6] rfl hn ?_
    rintro r H' ⟨rfl, rfl⟩
    exact ⟨_, rfl, fun _ _ => rfl, fun _ _ => rfl, hK⟩
  have call2 : ∀ {H : Heap} {K : AV → Heap → Prop}, H[0]? = some (dice t ka) → K (vint .i64 w) (H.set 0 (dice t kb)) → vcFun Tryz.prog 31 [.ptr 0 2 0 0, vint .i64 20] H K := fun hi hK => by
    refine call_one (i := 0) hi (fun _ _ => rfl) [.ptr 0 2 0 0, vint .i64 20] rfl gn ?_
    rintro r H' ⟨rfl, rfl⟩
    exact ⟨_, rfl, fun _ _ => rfl, fun _ _ => rfl, hK⟩
  by_cases c1 : v ≤ 2
  · refine ⟨0, ka, .inl rfl, h2, ?_⟩
    unfold Cost
    refine acall_of tok mixed 14 rfl (fn := Tryz.f72) (c := Tryz.f72.body.getD .skip) (by kernel_rfl) (by kernel_rfl) (by kernel_rfl) rfl 1 rfl ?_
    repeat' (first | ((change vcFun _ _ _ _ _; refine call1 rfl ?_)) | refine o1 ?_ | refine o2 ?_ | refine k1 ?_ | refine k2 ?_ | refine k3 ?_ | refine k4 ?_ | refine k6 ?_ | refine k7 ?_ | refine And.intro ?_ ?_ | (intro h; first | exact Bool.noConfusion h | exact nz _ h | exact nl h | (simp at h; done) | (simp at h; first | (exfalso; omega) | skip) | skip) | fail)
    all_goals first
      | (exfalso; omega)
      | exact ret_obj [0] [dice t ka] rfl rfl ⟨rfl, trivial⟩ (r' := vint .i64 0) rfl ⟨rfl, rfl⟩
  by_cases c2 : v = 3
  · refine ⟨1099511627776, ka, .inr (.inr rfl), h2, ?_⟩
    unfold Cost
    refine acall_of tok mixed 14 rfl (fn := Tryz.f72) (c := Tryz.f72.body.getD .skip) (by kernel_rfl) (by kernel_rfl) (by kernel_rfl) rfl 1 rfl ?_
    repeat' (first | ((change vcFun _ _ _ _ _; refine call1 rfl ?_)) | refine o1 ?_ | refine o2 ?_ | refine k1 ?_ | refine k2 ?_ | refine k3 ?_ | refine k4 ?_ | refine k7 ?_ | refine And.intro ?_ ?_ | (intro h; first | exact Bool.noConfusion h | exact nz _ h | exact nl h | (simp at h; done) | (simp at h; first | (exfalso; omega) | skip) | skip) | fail)
    all_goals first
      | (exfalso; omega)
      | exact ret_obj [0] [dice t ka] rfl rfl ⟨rfl, trivial⟩ (r' := vint .i64 1099511627776) rfl ⟨rfl, rfl⟩
  · refine ⟨1 + w, kb, .inr (.inl (by omega)), g2, ?_⟩
    unfold Cost
    refine acall_of tok mixed 14 rfl (fn := Tryz.f72) (c := Tryz.f72.body.getD .skip) (by kernel_rfl) (by kernel_rfl) (by kernel_rfl) rfl 1 rfl ?_
    repeat' (first | ((change vcFun _ _ _ _ _; refine call1 rfl ?_)) | ((change vcFun _ _ _ _ _; refine call2 rfl ?_)) | refine o1 ?_ | refine o2 ?_ | refine k1 ?_ | refine k2 ?_ | refine k3 ?_ | refine k4 ?_ | refine k6 ?_ | refine k7 ?_ | refine And.intro ?_ ?_ | (intro h; first | exact Bool.noConfusion h | exact nz _ h | exact nl h | (simp at h; done) | (simp at h; first | (exfalso; omega) | skip) | skip) | refine eqv_wrap (by omega) (by omega) ?_ | fail)
    all_goals first
      | (exfalso; omega)
      | exact ret_obj [0] [dice t kb] rfl rfl ⟨rfl, trivial⟩ (r' := vint .i64 (1 + w)) rfl ⟨rfl, rfl⟩
theorem call_cost {t : List Int} {k : Nat} {H : Heap} {K : AV → Heap → Prop} (i : Nat) (hi : H[i]? = some (dice t k)) (ht : t.length ≤ 400) (hk : k ≤ t.length)
    (hK : ∀ n k2, (n = 0 ∨ priceP n) → k2 ≤ t.length → K (vint .i64 n) (H.set i (dice t k2))) : vcFun Tryz.prog 72 [.ptr i 2 0 0] H K := by
  obtain ⟨n, k', h1, h2, hc⟩ := cost_ex t k ht hk
  refine call_one (i := i) hi (fun _ _ => rfl) [.ptr 0 2 0 0] rfl hc ?_
  rintro r H' ⟨rfl, rfl⟩
  exact ⟨_, rfl, fun _ _ => rfl, fun _ _ => rfl, hK n k' h1 h2⟩
theorem callD_cost {t : List Int} {k : Nat} {H : Heap} {K : AV → Upd → List Nat → Prop} (i : Nat) (hi : H[i]? = some (dice t k)) (ht : t.length ≤ 400) (hk : k ≤ t.length)
    (hK : ∀ n k2, (n = 0 ∨ priceP n) → k2 ≤ t.length → K (vint .i64 n) [(i, dice t k2)] [i]) : vcFunD Tryz.prog 72 [.ptr i 2 0 0] H K := by
  obtain ⟨n, k', h1, h2, hc⟩ := cost_ex t k ht hk
  exact callD_one (i := i) hi (fun _ _ => rfl) [.ptr 0 2 0 0] rfl hc (fun _ _ => rfl) (fun _ _ => rfl) (hK n k' h1 h2)
def mr (r : Int) : Model := ⟨[], [], [], r⟩
structure ChQ (r : Int) (u : Nat) (l : List Charge) : Prop where
  at_ : ∀ i, i < l.length → chargeAt (mr r) l i
  lt : ∀ c ∈ l, c.rule < u
  len : l.length ≤ u
theorem ChQ.nil {r : Int} : ChQ r 0 [] := ⟨fun i h => absurd h (Nat.not_lt_zero _), fun c h => absurd h (List.not_mem_nil), Nat.le_refl _⟩
theorem ChQ.skip {r : Int} {u : Nat} {l : List Charge} (h : ChQ r u l) : ChQ r (u + 1) l := ⟨h.at_, fun c hc => by have := h.lt c hc; omega, by have := h.len; omega⟩
theorem ChQ.app {r n : Int} {u : Nat} {l : List Charge} (h : ChQ r u l) (hu : (u : Int) < r) (hn : priceP n) : ChQ r (u + 1) (l ++ [⟨u, n⟩]) := by
  refine ⟨fun i hi c hc => ?_, fun c hc => ?_, by have := h.len; simp; omega⟩
  · simp only [List.length_append, List.length_cons, List.length_nil] at hi
    rcases Nat.lt_or_ge i l.length with h1 | h1
    · rw [List.getElem?_append_left h1] at hc
      obtain ⟨a, b, d⟩ := h.at_ i h1 c hc
      exact ⟨a, b, fun k e hk he => d k e hk (by rw [List.getElem?_append_left (by omega)] at he; exact he)⟩
    · obtain rfl : i = l.length := by omega
      rw [List.getElem?_append_right (Nat.le_refl _)] at hc
      simp at hc; subst hc
      refine ⟨⟨by show (0 : Int) ≤ u; omega, hu⟩, hn, fun k e hk he => ?_⟩
      rw [List.getElem?_append_left (by omega)] at he
      exact h.lt e (List.mem_of_getElem? he)
  · rcases List.mem_append.1 hc with h1 | h1
    · have := h.lt c h1; omega
    · simp at h1; subst h1; show (u : Int) < (u + 1 : Nat); omega
def OptQ (r : Int) (o : Opt) : Prop := chargesP (mr r) o ∧ o.charges.length ≤ 4
def ClsQ (r : Int) (l : List Opt) : Prop := 1 ≤ l.length ∧ l.length ≤ 4 ∧ ∀ o ∈ l, OptQ r o
def zeroM : Option AObj := some ⟨29, 4, false, .box [nilA, nilA, nilA, vint .i64 0]⟩
def mb (c p n : AV) (r : Int) : Option AObj := some ⟨29, 4, false, .box [c, p, n, vint .i64 r]⟩
def ob5 (w d s l rm : Int) (c : AV) : Option AObj := some ⟨62, 6, false, .box [vint .i64 w, vint .i64 d, vint .i64 s, vint .i64 l, vint .i64 rm, c]⟩
theorem all_app {α : Type} {p : α → Prop} {l : List α} {x : α} (h : ∀ y ∈ l, p y) (hx : p x) : ∀ y ∈ l ++ [x], p y := fun y hy => by
  rcases List.mem_append.1 hy with h1 | h1
  · exact h y h1
  · simp at h1; subst h1; exact hx
def PB (l : List Pair) (u i k : Nat) : Prop := ∀ p ∈ l, p.rule < u ∨ (p.rule = u ∧ (p.first < i ∨ (p.first = i ∧ p.second < k)))
structure PrQ (cls : List (List Opt)) (r : Int) (l : List Pair) (u i k : Nat) : Prop where
  at_ : ∀ j, j < l.length → pairAt ⟨cls, l, [], r⟩ j
  lt : PB l u i k
  len : l.length ≤ u * 25 + i * 5 + k
theorem PrQ.nil {cls : List (List Opt)} {r : Int} : PrQ cls r [] 0 0 0 := ⟨fun i h => absurd h (Nat.not_lt_zero _), fun c h => absurd h (List.not_mem_nil), Nat.le_refl _⟩
section
variable {cls : List (List Opt)} {r : Int} {l : List Pair} {u i k : Nat}
theorem PrQ.toK (h : PrQ cls r l u i 0) : PrQ cls r l u i (i + 1) := ⟨h.at_, fun p hp => by have := h.lt p hp; omega, by have := h.len; omega⟩
theorem PrQ.skip (h : PrQ cls r l u i k) : PrQ cls r l u i (k + 1) := ⟨h.at_, fun p hp => by have := h.lt p hp; omega, by have := h.len; omega⟩
theorem PrQ.toI (h : PrQ cls r l u i k) (hk : k ≤ 5) : PrQ cls r l u (i + 1) 0 := ⟨h.at_, fun p hp => by have := h.lt p hp; omega, by have := h.len; omega⟩
theorem PrQ.toU (h : PrQ cls r l u i 0) (hi : i ≤ 5) : PrQ cls r l (u + 1) 0 0 := ⟨h.at_, fun p hp => by have := h.lt p hp; omega, by have := h.len; omega⟩
theorem PrQ.app (h : PrQ cls r l u i k) {t : List Int} (hp : pairP ⟨cls, [], [], r⟩ ⟨i, k, u, t⟩) : PrQ cls r (l ++ [⟨i, k, u, t⟩]) u i (k + 1) := by
  refine ⟨fun j hj p hjp => ?_, fun p hm => ?_, by have := h.len; simp; omega⟩
  · dsimp only at hjp
    simp only [List.length_append, List.length_cons, List.length_nil] at hj
    rcases Nat.lt_or_ge j l.length with h1 | h1
    · rw [List.getElem?_append_left h1] at hjp
      obtain ⟨a, d⟩ := h.at_ j h1 p hjp
      exact ⟨a, fun k e hk he => d k e hk (by dsimp only at he ⊢; rw [List.getElem?_append_left (by omega)] at he; exact he)⟩
    · obtain rfl : j = l.length := by omega
      rw [List.getElem?_append_right (Nat.le_refl _)] at hjp
      simp at hjp; subst hjp
      refine ⟨hp, fun k' e hk he => ?_⟩
      dsimp only at he
      rw [List.getElem?_append_left (by omega)] at he
      have := h.lt e (List.mem_of_getElem? he)
      unfold pairLt; dsimp only; omega
  · rcases List.mem_append.1 hm with h1 | h1
    · have := h.lt p h1; omega
    · simp at h1; subst h1; dsimp only; omega
end
def pb4 (a b c : Int) (t : AV) : Option AObj := some ⟨72, 4, false, .box [vint .i64 a, vint .i64 b, vint .i64 c, t]⟩
theorem pair_made {cls : List (List Opt)} {r : Int} {u i k : Nat} {a b : List Opt} {t : List Int} (ha : cls[i]? = some a) (hb : cls[k]? = some b) (hik : i < k) (hu : (u : Int) < r) (ht : t.length = a.length * b.length) (h : ∀ x ∈ t, x = 0 ∨ priceP x) : pairP ⟨cls, [], [], r⟩ ⟨i, k, u, t⟩ := by
  refine ⟨⟨by show (0 : Int) ≤ u; omega, hu⟩, by show (0 : Int) ≤ i; omega, by show (i : Int) < k; omega, ⟨a, b, ?_, ?_, ht⟩, h⟩
  · show cls[((i : Nat) : Int).toNat]? = _; rw [Int.toNat_natCast]; exact ha
  · show cls[((k : Nat) : Int).toNat]? = _; rw [Int.toNat_natCast]; exact hb
structure LoQ (cls : List (List Opt)) (l : List Load) (i j : Nat) : Prop where
  at_ : ∀ n, n < l.length → loadAt ⟨cls, [], [], 0⟩ l n
  lt : ∀ x ∈ l, x.cls < i ∨ (x.cls = i ∧ x.opt < j)
  len : l.length ≤ i * 4 + j
theorem LoQ.nil {cls : List (List Opt)} : LoQ cls [] 0 0 := ⟨fun i h => absurd h (Nat.not_lt_zero _), fun c h => absurd h (List.not_mem_nil), Nat.le_refl _⟩
section
variable {cls : List (List Opt)} {l : List Load} {i j : Nat}
theorem LoQ.skip (h : LoQ cls l i j) : LoQ cls l i (j + 1) := ⟨h.at_, fun p hp => by have := h.lt p hp; omega, by have := h.len; omega⟩
theorem LoQ.toI (h : LoQ cls l i j) (hj : j ≤ 4) : LoQ cls l (i + 1) 0 := ⟨h.at_, fun p hp => by have := h.lt p hp; omega, by have := h.len; omega⟩
theorem LoQ.app (h : LoQ cls l i j) {la : List Opt} {w : Int} (ha : cls[i]? = some la) (hj : j < la.length) (h1 : 1 ≤ w) (h2 : w ≤ 1000) : LoQ cls (l ++ [⟨i, j, w⟩]) i (j + 1) := by
  refine ⟨fun n hn x hx => ?_, fun x hm => ?_, by have := h.len; simp; omega⟩
  · simp only [List.length_append, List.length_cons, List.length_nil] at hn
    rcases Nat.lt_or_ge n l.length with g1 | g1
    · rw [List.getElem?_append_left g1] at hx
      obtain ⟨a, b, c, d⟩ := h.at_ n g1 x hx
      exact ⟨a, b, c, fun k e hk he => d k e hk (by rw [List.getElem?_append_left (by omega)] at he; exact he)⟩
    · obtain rfl : n = l.length := by omega
      rw [List.getElem?_append_right (Nat.le_refl _)] at hx
      simp at hx; subst hx
      refine ⟨⟨by dsimp only; omega, by dsimp only; omega, la, ?_, by dsimp only; omega⟩, h1, h2, fun k e hk he => ?_⟩
      · show cls[((i : Nat) : Int).toNat]? = _; rw [Int.toNat_natCast]; exact ha
      · rw [List.getElem?_append_left (by omega)] at he
        exact h.lt e (List.mem_of_getElem? he)
  · rcases List.mem_append.1 hm with g1 | g1
    · have := h.lt x g1; omega
    · simp at g1; subst g1; dsimp only; omega
end
theorem pen_ok {n : Int} (h : n = 0 ∨ priceP n) : priceP (bif true then (if n > 1 then n else 1) else (if n < 1 then n else 1)) := by
  dsimp only [cond]
  unfold priceP at *
  split <;> omega
def CtQ (cls : List (List Opt)) (r : Int) (c : Count) : Prop := countP_ ⟨cls, [], [], r⟩ c ∧ c.loads.length ≤ 1000
def cb4 (a : Int) (l : AV) (m p : Int) : Option AObj := some ⟨78, 4, false, .box [vint .i64 a, l, vint .i64 m, vint .i64 p]⟩
structure Made (m : Model) : Prop where
  ok : modelE m = 0
  laid : Laid m
  some_ : ∀ l ∈ m.classes, 1 ≤ l.length ∧ l.length ≤ 4
  few : m.classes.length ≤ 5
theorem made_of {cls : List (List Opt)} {prs : List Pair} {cts : List Count} {r : Int} (h1 : cls.length ≤ 5) (h2 : ∀ l ∈ cls, ClsQ r l) (h3 : ∀ j, j < prs.length → pairAt ⟨cls, prs, [], r⟩ j) (h4 : prs.length ≤ 200) (h5 : cts.length ≤ 2) (h6 : ∀ c ∈ cts, CtQ cls r c) (r1 : 1 ≤ r) (r2 : r ≤ 4) : Made ⟨cls, prs, cts, r⟩ := by
  have hz : sizedP ⟨cls, prs, cts, r⟩ := ⟨by dsimp only; omega, fun l hl => by have := (h2 l hl).2.1; omega, by dsimp only; omega, by dsimp only; omega, by dsimp only; omega, by dsimp only; omega⟩
  refine ⟨mE0 hz ⟨fun l hl o ho => ((h2 l hl).2.2 o ho).1, h3, fun c hc => (h6 c hc).1⟩, ⟨by dsimp only; omega, by dsimp only; omega, fun l hl o ho => by have := ((h2 l hl).2.2 o ho).2; omega, fun c hc => by have := (h6 c hc).2; omega⟩, fun l hl => ⟨(h2 l hl).1, (h2 l hl).2.1⟩, h1⟩
def cFst : Code → Code
  | .seq a _ => a
  | c => c
def cSnd : Code → Code
  | .seq _ b => b
  | c => c
noncomputable def codeM : Code := Tryz.f32.body.getD .skip
noncomputable def codeB : Code := cFst (cSnd (cSnd codeM))
noncomputable def codeC : Code := cFst (cSnd (cSnd (cSnd codeM)))
noncomputable def codeD : Code := cFst (cSnd (cSnd (cSnd (cSnd codeM))))
end Go.Proofs.YtihpjcmloecaaaaGreat.Cw
/-
  Symmetry: costs by dice (those of the even models).
-/
namespace Go.Proofs.YtihpjcmloecaaaaGreat.Cw
open Go Go.Cw Go.Proofs
set_option linter.unusedVariables false
set_option maxRecDepth 100000
set_option maxHeartbeats 8000000
def MCost (t : List Int) (k : Nat) (n : Int) (k2 : Nat) : Prop := ACall Tryz.prog 59 [.ptr 0 2 0 0] [dice t k] (fun r H' => r = vint .i64 n ∧ H' = [dice t k2])
theorem mcost_ex (t : List Int) (k : Nat) (ht : t.length ≤ 400) (hk : k ≤ t.length) : ∃ (n : Int) (k' : Nat), (n = 0 ∨ priceP n) ∧ k' ≤ t.length ∧ MCost t k n k' := by
  obtain ⟨v, ka, h0, h1, h2, hn⟩ := next_ex t k 5 ht hk (by omega) (by omega)
  obtain ⟨w, kb, g0, g1, g2, gn⟩ := next_ex t ka 30 ht h2 (by omega) (by omega)
  have call1 : ∀ {H : Heap} {K : AV → Heap → Prop}, H[0]? = some (dice t k) → K (vint .i64 v) (H.set 0 (dice t ka)) → vcFun Tryz.prog 31 [.ptr 0 2 0 0, vint .i64 5] H K := fun hi hK => by
    refine call_one (i := 0) hi (fun _ _ => rfl) [.ptr 0 2 0 0, vint .i64 5] rfl hn ?_
    rintro r H' ⟨rfl, rfl⟩
    exact ⟨_, rfl, fun _ _ => rfl, fun _ _ => rfl, hK⟩
  have call2 : ∀ {H : Heap} {K : AV → Heap → Prop}, H[0]? = some (dice t ka) → K (vint .i64 w) (H.set 0 (dice t kb)) → vcFun Tryz.prog 31 [.ptr 0 2 0 0, vint .i64 30] H K := fun hi hK => by
    refine call_one (i := 0) hi (fun _ _ => rfl) [.ptr 0 2 0 0, vint .i64 30] rfl gn ?_
    rintro r H' ⟨rfl, rfl⟩
    exact ⟨_, rfl, fun _ _ => rfl, fun _ _ => rfl, hK⟩
  by_cases c1 : v = 0
  · refine ⟨1099511627776, ka, .inr (.inr rfl), h2, ?_⟩
    unfold MCost
    refine acall_of tok mixed 13 rfl (fn := Tryz.f59) (c := Tryz.f59.body.getD .skip) (by kernel_rfl) (by kernel_rfl) (by kernel_rfl) rfl 1 rfl ?_
    repeat' (first | ((change vcFun _ _ _ _ _; refine call1 rfl ?_)) | refine o1 ?_ | refine o2 ?_ | refine k1 ?_ | refine k2 ?_ | refine k3 ?_ | refine k4 ?_ | refine k7 ?_ | refine And.intro ?_ ?_ | (intro h; first | exact Bool.noConfusion h | exact nz _ h | exact nl h | (simp at h; done) | (simp at h; first | (exfalso; omega) | skip) | skip) | fail)
    all_goals first
      | (exfalso; omega)
      | exact ret_obj [0] [dice t ka] rfl rfl ⟨rfl, trivial⟩ (r' := vint .i64 1099511627776) rfl ⟨rfl, rfl⟩
  by_cases c2 : v = 1 ∨ v = 2
  · refine ⟨1 + w, kb, .inr (.inl (by omega)), g2, ?_⟩
    unfold MCost
    refine acall_of tok mixed 13 rfl (fn := Tryz.f59) (c := Tryz.f59.body.getD .skip) (by kernel_rfl) (by kernel_rfl) (by kernel_rfl) rfl 1 rfl ?_
    repeat' (first | ((change vcFun _ _ _ _ _; refine call1 rfl ?_)) | ((change vcFun _ _ _ _ _; refine call2 rfl ?_)) | refine o1 ?_ | refine o2 ?_ | refine k1 ?_ | refine k2 ?_ | refine k3 ?_ | refine k4 ?_ | refine k6 ?_ | refine k7 ?_ | refine And.intro ?_ ?_ | (intro h; first | exact Bool.noConfusion h | exact nz _ h | exact nl h | (simp at h; done) | (simp at h; first | (exfalso; omega) | skip) | skip) | refine eqv_wrap (by omega) (by omega) ?_ | fail)
    all_goals first
      | (exfalso; omega)
      | exact ret_obj [0] [dice t kb] rfl rfl ⟨rfl, trivial⟩ (r' := vint .i64 (1 + w)) rfl ⟨rfl, rfl⟩
  · refine ⟨0, ka, .inl rfl, h2, ?_⟩
    unfold MCost
    refine acall_of tok mixed 13 rfl (fn := Tryz.f59) (c := Tryz.f59.body.getD .skip) (by kernel_rfl) (by kernel_rfl) (by kernel_rfl) rfl 1 rfl ?_
    repeat' (first | ((change vcFun _ _ _ _ _; refine call1 rfl ?_)) | refine o1 ?_ | refine o2 ?_ | refine k1 ?_ | refine k2 ?_ | refine k3 ?_ | refine k4 ?_ | refine k6 ?_ | refine k7 ?_ | refine And.intro ?_ ?_ | (intro h; first | exact Bool.noConfusion h | exact nz _ h | exact nl h | (simp at h; done) | (simp at h; first | (exfalso; omega) | skip) | skip) | fail)
    all_goals first
      | (exfalso; omega)
      | exact ret_obj [0] [dice t ka] rfl rfl ⟨rfl, trivial⟩ (r' := vint .i64 0) rfl ⟨rfl, rfl⟩
theorem call_mcost {t : List Int} {k : Nat} {H : Heap} {K : AV → Heap → Prop} (i : Nat) (hi : H[i]? = some (dice t k)) (ht : t.length ≤ 400) (hk : k ≤ t.length)
    (hK : ∀ n k2, (n = 0 ∨ priceP n) → k2 ≤ t.length → K (vint .i64 n) (H.set i (dice t k2))) : vcFun Tryz.prog 59 [.ptr i 2 0 0] H K := by
  obtain ⟨n, k', h1, h2, hc⟩ := mcost_ex t k ht hk
  refine call_one (i := i) hi (fun _ _ => rfl) [.ptr 0 2 0 0] rfl hc ?_
  rintro r H' ⟨rfl, rfl⟩
  exact ⟨_, rfl, fun _ _ => rfl, fun _ _ => rfl, hK n k' h1 h2⟩
end Go.Proofs.YtihpjcmloecaaaaGreat.Cw
/-
  Symmetry: pairs of even models (printed by tools/mkse2.py).
-/
namespace Go.Proofs.YtihpjcmloecaaaaGreat.Cw
open Go Go.Cw Go.Proofs
set_option linter.unusedVariables false
set_option maxRecDepth 100000
set_option maxHeartbeats 8000000
theorem call_mc {t : List Int} {k k2 : Nat} {n : Int} {H : Heap} {K : AV → Heap → Prop} (h : MCost t k n k2) (hi : H[0]? = some (dice t k)) (hK : K (vint .i64 n) (H.set 0 (dice t k2))) : vcFun Tryz.prog 59 [.ptr 0 2 0 0] H K := by
  refine call_one (i := 0) hi (fun _ _ => rfl) [.ptr 0 2 0 0] rfl h ?_
  rintro r H' ⟨rfl, rfl⟩
  exact ⟨_, rfl, fun _ _ => rfl, fun _ _ => rfl, hK⟩
theorem day_of {l : List Opt} (h : ∀ o ∈ l, o.place.time.day = 0 ∨ o.place.time.day = 1) {u : Nat} {o : Opt} (ho : l[u]? = some o) : o.place.time.day = 0 ∨ o.place.time.day = 1 := h o (List.mem_of_getElem? ho)
def evE (a1 a2 a3 a4 : Int) (o q : Opt) : Int :=
  if o.place.room = q.place.room ∧ 0 ≤ o.place.room then (if o.place.time.day = 0 then (if q.place.time.day = 0 then 1099511627776 else a1) else (if q.place.time.day = 0 then a2 else 1099511627776))
  else (if o.place.time.day = 0 then (if q.place.time.day = 0 then a3 else 0) else (if q.place.time.day = 0 then a4 else 0))
def evT (E : Opt → Opt → Int) (x y : List Opt) : List Int := x.flatMap fun o => y.map (E o)
theorem evT_len {E : Opt → Opt → Int} {y : List Opt} : ∀ x : List Opt, (evT E x y).length = x.length * y.length
  | [] => by simp [evT]
  | o :: x => by
    have := evT_len (E := E) (y := y) x
    unfold evT at *
    rw [List.flatMap_cons, List.length_append, this, List.length_map, List.length_cons, Nat.add_mul]; omega
theorem evT_snoc {E : Opt → Opt → Int} {x y : List Opt} {u : Nat} {o : Opt} (h : x[u]? = some o) : evT E (x.take (u + 1)) y = evT E (x.take u) y ++ y.map (E o) := by
  unfold evT; rw [tk_snoc h, List.flatMap_append]; simp
theorem evT_ok {a1 a2 a3 a4 : Int} {x y : List Opt} (p1 : a1 = 0 ∨ priceP a1) (p2 : a2 = 0 ∨ priceP a2) (p3 : a3 = 0 ∨ priceP a3) (p4 : a4 = 0 ∨ priceP a4) : ∀ n ∈ evT (evE a1 a2 a3 a4) x y, n = 0 ∨ priceP n := fun n hn => by
  obtain ⟨o, _, ho⟩ := List.mem_flatMap.1 hn
  obtain ⟨q, _, rfl⟩ := List.mem_map.1 ho
  have pf : (1099511627776 : Int) = 0 ∨ priceP 1099511627776 := .inr (.inr rfl)
  unfold evE
  repeat' split
  all_goals first | assumption | exact .inl rfl
theorem c_evenPairN (t : List Int) (k : Nat) (ht : t.length ≤ 400) (hk : k ≤ t.length) (C : List (List Opt))  (i j : Nat) (x y : List Opt) (hx : C[i]? = some x) (hy : C[j]? = some y) (hxl : x.length ≤ 7) (hyl : y.length ≤ 7)
    (hdx : ∀ o ∈ x, o.place.time.day = 0 ∨ o.place.time.day = 1) (hdy : ∀ o ∈ y, o.place.time.day = 0 ∨ o.place.time.day = 1) :
    ∃ (TT : List Int) (k' : Nat), k' ≤ t.length ∧ TT.length = x.length * y.length ∧ (∀ n ∈ TT, n = 0 ∨ priceP n) ∧ ACall Tryz.prog 60 [.ptr 0 2 0 0, .agg [.pv (.sl 1 (C.map optsRow)), nilA, nilA, vint .i64 2], vint .i64 i, vint .i64 j] [dice t k]
      (fun r H' => r = ag (Pair.row ⟨i, j, 1, TT⟩) ∧ H' = [dice t k']) := by
  obtain ⟨a1, ka, p1, p2, g1⟩ := mcost_ex t k ht hk
  obtain ⟨a2, kb, p3, p4, g2⟩ := mcost_ex t ka ht p2
  obtain ⟨a3, kc, p5, p6, g3⟩ := mcost_ex t kb ht p4
  obtain ⟨a4, kd, p7, p8, g4⟩ := mcost_ex t kc ht p6
  have hxy : x.length * y.length ≤ 49 := Nat.mul_le_mul hxl hyl
  refine ⟨evT (evE a1 a2 a3 a4) x y, kd, p8, evT_len x, evT_ok p1 p3 p5 p7, ?_⟩
  have hTl : ∀ u, u ≤ x.length → (evT (evE a1 a2 a3 a4) (x.take u) y).length = u * y.length := fun u hu => by rw [evT_len, List.length_take, Nat.min_eq_left hu]
  generalize hE : evE a1 a2 a3 a4 = E at *
  refine acall_of tok mixed 103 rfl (fn := Tryz.f60) (c := Tryz.f60.body.getD .skip) (by kernel_rfl) (by kernel_rfl) (by kernel_rfl) rfl 1 rfl ?_
  repeat' (first | ((change vcFun _ _ _ _ _; refine call_mc g1 rfl ?_)) | ((change vcFun _ _ _ _ _; refine call_mc g2 rfl ?_)) | ((change vcFun _ _ _ _ _; refine call_mc g3 rfl ?_)) | ((change vcFun _ _ _ _ _; refine call_mc g4 rfl ?_)) | refine o1 ?_ | refine o2 ?_ | refine k1 ?_ | refine k2 ?_ | refine k4 ?_ | refine And.intro ?_ ?_ | exact (by kernel_rfl : drawOk _ _ = true) | fail)
  refine loop_for (fun u : Nat => [(2, vint .i64 i), (3, vint .i64 j), (5, .ptr 1 4 0 0), (8, .ptr 2 4 0 0), (9, .ptr 3 4 0 0), (10, .ptr 4 4 0 0), (11, .ptr 5 4 0 0), (12, vint .i64 u)])
    (fun u => [dice t kd, some ⟨29, 4, false, .box [.pv (.sl 1 (C.map optsRow)), nilA, nilA, vint .i64 2]⟩, some ⟨72, 4, false, .box [vint .i64 0, vint .i64 0, vint .i64 0, nilA]⟩, some ⟨72, 4, false, .box [vint .i64 i, vint .i64 j, vint .i64 1, slP 6 1 ((evT E (x.take u) y).map intRow)]⟩, some ⟨136, 4, false, .box [vint .i64 1099511627776, vint .i64 a1, vint .i64 a2, vint .i64 1099511627776]⟩, some ⟨136, 4, false, .box [vint .i64 a3, vint .i64 0, vint .i64 a4, vint .i64 0]⟩, obP 3 1 ((evT E (x.take u) y).map intRow)])
    (fun u => u ≤ x.length) (fun u => x.length - u) 0 (Nat.zero_le _) ?_ ?_
  · exact back [0, 1, 2, 3, 4, 5, 6] rfl rfl (by repeat' (first | exact trivial | exact rfl | refine kept_bx ren_bx3 rfl ?_ | refine And.intro ?_ ?_)) (by repeat' (first | exact trivial | exact rfl | refine And.intro ?_ ?_))
  intro u hu
  have hTB := hTl u hu
  rcases Nat.lt_or_ge u x.length with hul | hug
  · obtain ⟨o, ho⟩ := getE hul
    have hdo := day_of hdx ho
    have hnx := evT_snoc (E := E) (y := y) ho
    generalize evT E (x.take u) y = TB at *
    repeat' (first | (refine fh_ob ?_) | (refine idx_sl (k := i) (at_map hx) rfl ?_) | refine o1 ?_ | refine o2 ?_ | refine k1 ?_ | refine k2 ?_ | refine k3 ?_ | refine k4 ?_ | refine k6 ?_ | refine And.intro ?_ ?_ | (intro h; first | exact Bool.noConfusion h | exact nz _ h | exact nl h | (simp at h; done) | (simp at h; first | (exfalso; omega) | skip) | skip) | refine eqv_len_map ?_ | fail)
    refine loop_for (fun v : Nat => [(2, vint .i64 i), (3, vint .i64 j), (5, .ptr 1 4 0 0), (8, .ptr 2 4 0 0), (9, .ptr 3 4 0 0), (10, .ptr 4 4 0 0), (11, .ptr 5 4 0 0), (12, vint .i64 u), (13, vint .i64 v)])
      (fun v => [dice t kd, some ⟨29, 4, false, .box [.pv (.sl 1 (C.map optsRow)), nilA, nilA, vint .i64 2]⟩, some ⟨72, 4, false, .box [vint .i64 0, vint .i64 0, vint .i64 0, nilA]⟩, some ⟨72, 4, false, .box [vint .i64 i, vint .i64 j, vint .i64 1, slP 6 1 ((TB ++ (y.take v).map (E o)).map intRow)]⟩, some ⟨136, 4, false, .box [vint .i64 1099511627776, vint .i64 a1, vint .i64 a2, vint .i64 1099511627776]⟩, some ⟨136, 4, false, .box [vint .i64 a3, vint .i64 0, vint .i64 a4, vint .i64 0]⟩, obP 3 1 ((TB ++ (y.take v).map (E o)).map intRow)])
      (fun v => v ≤ y.length) (fun v => y.length - v) 0 (Nat.zero_le _) ?_ ?_
    · rw [show TB ++ (y.take 0).map (E o) = TB by simp]
      exact back [0, 1, 2, 3, 4, 5, 6] rfl rfl (by repeat' (first | exact trivial | exact rfl | refine kept_ob rfl ?_ | refine kept_bx ren_bx3 rfl ?_ | refine And.intro ?_ ?_)) (by repeat' (first | exact trivial | exact rfl | refine And.intro ?_ ?_))
    intro v hv
    have hul2 : (u + 1) * y.length ≤ x.length * y.length := Nat.mul_le_mul_right _ hul
    rw [Nat.add_mul] at hul2
    rcases Nat.lt_or_ge v y.length with hvl | hvg
    · obtain ⟨q, hq⟩ := getE hvl
      have hdq := day_of hdy hq
      have hKl : (TB ++ (y.take v).map (E o)).length ≤ 49 := by rw [List.length_append, List.length_map, List.length_take]; omega
      have hstep : TB ++ (y.take (v + 1)).map (E o) = (TB ++ (y.take v).map (E o)) ++ [E o q] := by rw [tk_snoc hq, List.map_append, List.append_assoc]; rfl
      generalize TB ++ (y.take v).map (E o) = KS at *
      have hb1 : ((KS.map intRow).length + 1) * 8 ≤ 140737488355328 := by rw [List.length_map]; omega
      have hb2 : (KS.map intRow).length + 1 ≤ 9223372036854775807 := by rw [List.length_map]; omega
      rcases hdo with hdo | hdo
      · rcases hdq with hdq | hdq
        · repeat' (first | (refine fv_sl ?_) | (refine fh_ob ?_) | (refine idx_sl (k := i) (at_map hx) rfl ?_) | (refine idx_sl (k := j) (at_map hy) rfl ?_) | (refine idx_sl (k := u) (at_map ho) rfl ?_) | (refine idx_sl (k := v) (at_map hq) rfl ?_) | (refine eqv_to (0 : Int) (by rw [hdo]; decide) ?_) | (refine eqv_to (0 : Int) (by rw [hdq]; decide) ?_) | (refine ⟨0, rfl, (by decide), ?_⟩) | ((refine o_appD rfl rfl rfl rfl rfl rfl rfl rfl rfl rfl rfl hb1 hb2 ?_)) | refine o1 ?_ | refine o2 ?_ | refine k1 ?_ | refine k2 ?_ | refine k3 ?_ | refine k4 ?_ | refine k6 ?_ | refine And.intro ?_ ?_ | refine o3 ?_ | refine o4 ?_ | (intro h; first | exact Bool.noConfusion h | exact nz _ h | exact nl h | (simp at h; done) | (simp at h; first | (exfalso; omega) | skip) | skip) | exact (by kernel_rfl : drawOk _ _ = true) | refine eqv_len_map ?_ | refine eqv_wrap (by omega) (by omega) ?_ | fail)
          all_goals first
            | (refine ⟨v + 1, by omega, by omega, ?_⟩
               have hv : E o q = 1099511627776 := by rw [← hE]; unfold evE; rw [if_pos (by omega), if_pos hdo, if_pos hdq]
               rw [hstep, hv, map_snoc, sl_app, ob_app]
               refine back [0, 1, 2, 3, 4, 5, 10] rfl rfl ?_ ?_
               · repeat' (first | exact trivial | exact rfl | refine And.intro ?_ ?_)
               · repeat' (first | exact trivial | exact rfl | refine And.intro ?_ ?_))
            | (refine ⟨v + 1, by omega, by omega, ?_⟩
               have hv : E o q = a3 := by rw [← hE]; unfold evE; rw [if_neg (by omega), if_pos hdo, if_pos hdq]
               rw [hstep, hv, map_snoc, sl_app, ob_app]
               refine back [0, 1, 2, 3, 4, 5, 10] rfl rfl ?_ ?_
               · repeat' (first | exact trivial | exact rfl | refine And.intro ?_ ?_)
               · repeat' (first | exact trivial | exact rfl | refine And.intro ?_ ?_))
        · repeat' (first | (refine fv_sl ?_) | (refine fh_ob ?_) | (refine idx_sl (k := i) (at_map hx) rfl ?_) | (refine idx_sl (k := j) (at_map hy) rfl ?_) | (refine idx_sl (k := u) (at_map ho) rfl ?_) | (refine idx_sl (k := v) (at_map hq) rfl ?_) | (refine eqv_to (0 : Int) (by rw [hdo]; decide) ?_) | (refine eqv_to (1 : Int) (by rw [hdq]; decide) ?_) | (refine ⟨1, rfl, (by decide), ?_⟩) | ((refine o_appD rfl rfl rfl rfl rfl rfl rfl rfl rfl rfl rfl hb1 hb2 ?_)) | refine o1 ?_ | refine o2 ?_ | refine k1 ?_ | refine k2 ?_ | refine k3 ?_ | refine k4 ?_ | refine k6 ?_ | refine And.intro ?_ ?_ | refine o3 ?_ | refine o4 ?_ | (intro h; first | exact Bool.noConfusion h | exact nz _ h | exact nl h | (simp at h; done) | (simp at h; first | (exfalso; omega) | skip) | skip) | exact (by kernel_rfl : drawOk _ _ = true) | refine eqv_len_map ?_ | refine eqv_wrap (by omega) (by omega) ?_ | fail)
          all_goals first
            | (refine ⟨v + 1, by omega, by omega, ?_⟩
               have hv : E o q = a1 := by rw [← hE]; unfold evE; rw [if_pos (by omega), if_pos hdo, if_neg (by omega)]
               rw [hstep, hv, map_snoc, sl_app, ob_app]
               refine back [0, 1, 2, 3, 4, 5, 10] rfl rfl ?_ ?_
               · repeat' (first | exact trivial | exact rfl | refine And.intro ?_ ?_)
               · repeat' (first | exact trivial | exact rfl | refine And.intro ?_ ?_))
            | (refine ⟨v + 1, by omega, by omega, ?_⟩
               have hv : E o q = 0 := by rw [← hE]; unfold evE; rw [if_neg (by omega), if_pos hdo, if_neg (by omega)]
               rw [hstep, hv, map_snoc, sl_app, ob_app]
               refine back [0, 1, 2, 3, 4, 5, 10] rfl rfl ?_ ?_
               · repeat' (first | exact trivial | exact rfl | refine And.intro ?_ ?_)
               · repeat' (first | exact trivial | exact rfl | refine And.intro ?_ ?_))
      · rcases hdq with hdq | hdq
        · repeat' (first | (refine fv_sl ?_) | (refine fh_ob ?_) | (refine idx_sl (k := i) (at_map hx) rfl ?_) | (refine idx_sl (k := j) (at_map hy) rfl ?_) | (refine idx_sl (k := u) (at_map ho) rfl ?_) | (refine idx_sl (k := v) (at_map hq) rfl ?_) | (refine eqv_to (2 : Int) (by rw [hdo]; decide) ?_) | (refine eqv_to (2 : Int) (by rw [hdq]; decide) ?_) | (refine ⟨2, rfl, (by decide), ?_⟩) | ((refine o_appD rfl rfl rfl rfl rfl rfl rfl rfl rfl rfl rfl hb1 hb2 ?_)) | refine o1 ?_ | refine o2 ?_ | refine k1 ?_ | refine k2 ?_ | refine k3 ?_ | refine k4 ?_ | refine k6 ?_ | refine And.intro ?_ ?_ | refine o3 ?_ | refine o4 ?_ | (intro h; first | exact Bool.noConfusion h | exact nz _ h | exact nl h | (simp at h; done) | (simp at h; first | (exfalso; omega) | skip) | skip) | exact (by kernel_rfl : drawOk _ _ = true) | refine eqv_len_map ?_ | refine eqv_wrap (by omega) (by omega) ?_ | fail)
          all_goals first
            | (refine ⟨v + 1, by omega, by omega, ?_⟩
               have hv : E o q = a2 := by rw [← hE]; unfold evE; rw [if_pos (by omega), if_neg (by omega), if_pos hdq]
               rw [hstep, hv, map_snoc, sl_app, ob_app]
               refine back [0, 1, 2, 3, 4, 5, 10] rfl rfl ?_ ?_
               · repeat' (first | exact trivial | exact rfl | refine And.intro ?_ ?_)
               · repeat' (first | exact trivial | exact rfl | refine And.intro ?_ ?_))
            | (refine ⟨v + 1, by omega, by omega, ?_⟩
               have hv : E o q = a4 := by rw [← hE]; unfold evE; rw [if_neg (by omega), if_neg (by omega), if_pos hdq]
               rw [hstep, hv, map_snoc, sl_app, ob_app]
               refine back [0, 1, 2, 3, 4, 5, 10] rfl rfl ?_ ?_
               · repeat' (first | exact trivial | exact rfl | refine And.intro ?_ ?_)
               · repeat' (first | exact trivial | exact rfl | refine And.intro ?_ ?_))
        · repeat' (first | (refine fv_sl ?_) | (refine fh_ob ?_) | (refine idx_sl (k := i) (at_map hx) rfl ?_) | (refine idx_sl (k := j) (at_map hy) rfl ?_) | (refine idx_sl (k := u) (at_map ho) rfl ?_) | (refine idx_sl (k := v) (at_map hq) rfl ?_) | (refine eqv_to (2 : Int) (by rw [hdo]; decide) ?_) | (refine eqv_to (3 : Int) (by rw [hdq]; decide) ?_) | (refine ⟨3, rfl, (by decide), ?_⟩) | ((refine o_appD rfl rfl rfl rfl rfl rfl rfl rfl rfl rfl rfl hb1 hb2 ?_)) | refine o1 ?_ | refine o2 ?_ | refine k1 ?_ | refine k2 ?_ | refine k3 ?_ | refine k4 ?_ | refine k6 ?_ | refine And.intro ?_ ?_ | refine o3 ?_ | refine o4 ?_ | (intro h; first | exact Bool.noConfusion h | exact nz _ h | exact nl h | (simp at h; done) | (simp at h; first | (exfalso; omega) | skip) | skip) | exact (by kernel_rfl : drawOk _ _ = true) | refine eqv_len_map ?_ | refine eqv_wrap (by omega) (by omega) ?_ | fail)
          all_goals first
            | (refine ⟨v + 1, by omega, by omega, ?_⟩
               have hv : E o q = 1099511627776 := by rw [← hE]; unfold evE; rw [if_pos (by omega), if_neg (by omega), if_neg (by omega)]
               rw [hstep, hv, map_snoc, sl_app, ob_app]
               refine back [0, 1, 2, 3, 4, 5, 10] rfl rfl ?_ ?_
               · repeat' (first | exact trivial | exact rfl | refine And.intro ?_ ?_)
               · repeat' (first | exact trivial | exact rfl | refine And.intro ?_ ?_))
            | (refine ⟨v + 1, by omega, by omega, ?_⟩
               have hv : E o q = 0 := by rw [← hE]; unfold evE; rw [if_neg (by omega), if_neg (by omega), if_neg (by omega)]
               rw [hstep, hv, map_snoc, sl_app, ob_app]
               refine back [0, 1, 2, 3, 4, 5, 10] rfl rfl ?_ ?_
               · repeat' (first | exact trivial | exact rfl | refine And.intro ?_ ?_)
               · repeat' (first | exact trivial | exact rfl | refine And.intro ?_ ?_))
    · obtain rfl : v = y.length := by omega
      rw [List.take_length, ← hnx]
      repeat' (first | (refine fh_ob ?_) | (refine idx_sl (k := j) (at_map hy) rfl ?_) | refine o1 ?_ | refine o2 ?_ | refine k1 ?_ | refine k2 ?_ | refine k3 ?_ | refine k8 ?_ | refine And.intro ?_ ?_ | (intro h; first | exact Bool.noConfusion h | exact nz _ h | exact nl h | (simp at h; done) | (simp at h; first | (exfalso; omega) | skip) | skip) | refine eqv_len_map ?_ | refine eqv_wrap (by omega) (by omega) ?_ | fail)
      all_goals first
        | exact ⟨u + 1, by omega, by omega, back [0, 1, 2, 3, 4, 5, 6] rfl rfl (by repeat' (first | exact trivial | exact rfl | refine kept_ob rfl ?_ | refine kept_bx ren_bx3 rfl ?_ | refine And.intro ?_ ?_)) (by repeat' (first | exact trivial | exact rfl | refine And.intro ?_ ?_))⟩
  · obtain rfl : u = x.length := by omega
    rw [List.take_length] at hTB ⊢
    generalize evT E x y = TB at *
    refine forceH_in ?_
    refine ghost_seq (Γ' := [(2, vint .i64 i), (3, vint .i64 j), (5, .ptr 1 4 0 0), (8, .ptr 2 4 0 0), (9, .ptr 3 4 0 0), (12, vint .i64 x.length)]) (H' := [dice t kd, some ⟨29, 4, false, .box [.pv (.sl 1 (C.map optsRow)), nilA, nilA, vint .i64 2]⟩, some ⟨72, 4, false, .box [vint .i64 0, vint .i64 0, vint .i64 0, nilA]⟩, some ⟨72, 4, false, .box [vint .i64 i, vint .i64 j, vint .i64 1, .pv (.sl 1 (TB.map intRow))]⟩]) (Ghost.shut_sl (i := 3) (c := 3) (id := 6) rfl rfl rfl (by decide) fun H' hl h2 hH => back [0, 1, 2, 3] rfl rfl ⟨hH 0 (by decide) (by decide), hH 1 (by decide) (by decide), hH 2 (by decide) (by decide), h2, trivial⟩ (by repeat' (first | exact trivial | exact rfl | refine And.intro ?_ ?_))) ?_
    repeat' (first | (refine idx_sl (k := i) (at_map hx) rfl ?_) | refine o1 ?_ | refine o2 ?_ | refine k1 ?_ | refine k2 ?_ | refine k3 ?_ | refine k7 ?_ | refine k8 ?_ | refine And.intro ?_ ?_ | (intro h; first | exact Bool.noConfusion h | exact nz _ h | exact nl h | (simp at h; done) | (simp at h; first | (exfalso; omega) | skip) | skip) | refine eqv_len_map ?_ | fail)
    exact ret_obj [0] [dice t kd] rfl rfl (by repeat' (first | exact trivial | exact rfl | refine And.intro ?_ ?_)) (r' := ag (Pair.row ⟨i, j, 1, TB⟩)) rfl ⟨rfl, rfl⟩
theorem c_evenPairC (t : List Int) (k : Nat) (ht : t.length ≤ 400) (hk : k ≤ t.length) (C : List (List Opt)) (np : Nat) (rows : List (List PV)) (i j : Nat) (x y : List Opt) (hx : C[i]? = some x) (hy : C[j]? = some y) (hxl : x.length ≤ 7) (hyl : y.length ≤ 7)
    (hdx : ∀ o ∈ x, o.place.time.day = 0 ∨ o.place.time.day = 1) (hdy : ∀ o ∈ y, o.place.time.day = 0 ∨ o.place.time.day = 1) :
    ∃ (TT : List Int) (k' : Nat), k' ≤ t.length ∧ TT.length = x.length * y.length ∧ (∀ n ∈ TT, n = 0 ∨ priceP n) ∧ ACall Tryz.prog 60 [.ptr 0 2 0 0, .agg [.pv (.sl 1 (C.map optsRow)), .ms 1 4 0 np, nilA, vint .i64 2], vint .i64 i, vint .i64 j] [dice t k, some ⟨72, 4, false, .p rows⟩]
      (fun r H' => r = ag (Pair.row ⟨i, j, 1, TT⟩) ∧ H' = [dice t k', some ⟨72, 4, false, .p rows⟩]) := by
  obtain ⟨a1, ka, p1, p2, g1⟩ := mcost_ex t k ht hk
  obtain ⟨a2, kb, p3, p4, g2⟩ := mcost_ex t ka ht p2
  obtain ⟨a3, kc, p5, p6, g3⟩ := mcost_ex t kb ht p4
  obtain ⟨a4, kd, p7, p8, g4⟩ := mcost_ex t kc ht p6
  have hxy : x.length * y.length ≤ 49 := Nat.mul_le_mul hxl hyl
  refine ⟨evT (evE a1 a2 a3 a4) x y, kd, p8, evT_len x, evT_ok p1 p3 p5 p7, ?_⟩
  have hTl : ∀ u, u ≤ x.length → (evT (evE a1 a2 a3 a4) (x.take u) y).length = u * y.length := fun u hu => by rw [evT_len, List.length_take, Nat.min_eq_left hu]
  generalize hE : evE a1 a2 a3 a4 = E at *
  refine acall_of tok mixed 103 rfl (fn := Tryz.f60) (c := Tryz.f60.body.getD .skip) (by kernel_rfl) (by kernel_rfl) (by kernel_rfl) rfl 2 rfl ?_
  repeat' (first | ((change vcFun _ _ _ _ _; refine call_mc g1 rfl ?_)) | ((change vcFun _ _ _ _ _; refine call_mc g2 rfl ?_)) | ((change vcFun _ _ _ _ _; refine call_mc g3 rfl ?_)) | ((change vcFun _ _ _ _ _; refine call_mc g4 rfl ?_)) | refine o1 ?_ | refine o2 ?_ | refine k1 ?_ | refine k2 ?_ | refine k4 ?_ | refine And.intro ?_ ?_ | exact (by kernel_rfl : drawOk _ _ = true) | fail)
  refine loop_for (fun u : Nat => [(2, vint .i64 i), (3, vint .i64 j), (5, .ptr 2 4 0 0), (8, .ptr 3 4 0 0), (9, .ptr 4 4 0 0), (10, .ptr 5 4 0 0), (11, .ptr 6 4 0 0), (12, vint .i64 u)])
    (fun u => [dice t kd, some ⟨72, 4, false, .p rows⟩, some ⟨29, 4, false, .box [.pv (.sl 1 (C.map optsRow)), .ms 1 4 0 np, nilA, vint .i64 2]⟩, some ⟨72, 4, false, .box [vint .i64 0, vint .i64 0, vint .i64 0, nilA]⟩, some ⟨72, 4, false, .box [vint .i64 i, vint .i64 j, vint .i64 1, slP 7 1 ((evT E (x.take u) y).map intRow)]⟩, some ⟨136, 4, false, .box [vint .i64 1099511627776, vint .i64 a1, vint .i64 a2, vint .i64 1099511627776]⟩, some ⟨136, 4, false, .box [vint .i64 a3, vint .i64 0, vint .i64 a4, vint .i64 0]⟩, obP 3 1 ((evT E (x.take u) y).map intRow)])
    (fun u => u ≤ x.length) (fun u => x.length - u) 0 (Nat.zero_le _) ?_ ?_
  · exact back [0, 1, 2, 3, 4, 5, 6, 7] rfl rfl (by repeat' (first | exact trivial | exact rfl | refine kept_bx ren_bx3 rfl ?_ | refine And.intro ?_ ?_)) (by repeat' (first | exact trivial | exact rfl | refine And.intro ?_ ?_))
  intro u hu
  have hTB := hTl u hu
  rcases Nat.lt_or_ge u x.length with hul | hug
  · obtain ⟨o, ho⟩ := getE hul
    have hdo := day_of hdx ho
    have hnx := evT_snoc (E := E) (y := y) ho
    generalize evT E (x.take u) y = TB at *
    repeat' (first | (refine fh_ob ?_) | (refine idx_sl (k := i) (at_map hx) rfl ?_) | refine o1 ?_ | refine o2 ?_ | refine k1 ?_ | refine k2 ?_ | refine k3 ?_ | refine k4 ?_ | refine k6 ?_ | refine And.intro ?_ ?_ | (intro h; first | exact Bool.noConfusion h | exact nz _ h | exact nl h | (simp at h; done) | (simp at h; first | (exfalso; omega) | skip) | skip) | refine eqv_len_map ?_ | fail)
    refine loop_for (fun v : Nat => [(2, vint .i64 i), (3, vint .i64 j), (5, .ptr 2 4 0 0), (8, .ptr 3 4 0 0), (9, .ptr 4 4 0 0), (10, .ptr 5 4 0 0), (11, .ptr 6 4 0 0), (12, vint .i64 u), (13, vint .i64 v)])
      (fun v => [dice t kd, some ⟨72, 4, false, .p rows⟩, some ⟨29, 4, false, .box [.pv (.sl 1 (C.map optsRow)), .ms 1 4 0 np, nilA, vint .i64 2]⟩, some ⟨72, 4, false, .box [vint .i64 0, vint .i64 0, vint .i64 0, nilA]⟩, some ⟨72, 4, false, .box [vint .i64 i, vint .i64 j, vint .i64 1, slP 7 1 ((TB ++ (y.take v).map (E o)).map intRow)]⟩, some ⟨136, 4, false, .box [vint .i64 1099511627776, vint .i64 a1, vint .i64 a2, vint .i64 1099511627776]⟩, some ⟨136, 4, false, .box [vint .i64 a3, vint .i64 0, vint .i64 a4, vint .i64 0]⟩, obP 3 1 ((TB ++ (y.take v).map (E o)).map intRow)])
      (fun v => v ≤ y.length) (fun v => y.length - v) 0 (Nat.zero_le _) ?_ ?_
    · rw [show TB ++ (y.take 0).map (E o) = TB by simp]
      exact back [0, 1, 2, 3, 4, 5, 6, 7] rfl rfl (by repeat' (first | exact trivial | exact rfl | refine kept_ob rfl ?_ | refine kept_bx ren_bx3 rfl ?_ | refine And.intro ?_ ?_)) (by repeat' (first | exact trivial | exact rfl | refine And.intro ?_ ?_))
    intro v hv
    have hul2 : (u + 1) * y.length ≤ x.length * y.length := Nat.mul_le_mul_right _ hul
    rw [Nat.add_mul] at hul2
    rcases Nat.lt_or_ge v y.length with hvl | hvg
    · obtain ⟨q, hq⟩ := getE hvl
      have hdq := day_of hdy hq
      have hKl : (TB ++ (y.take v).map (E o)).length ≤ 49 := by rw [List.length_append, List.length_map, List.length_take]; omega
      have hstep : TB ++ (y.take (v + 1)).map (E o) = (TB ++ (y.take v).map (E o)) ++ [E o q] := by rw [tk_snoc hq, List.map_append, List.append_assoc]; rfl
      generalize TB ++ (y.take v).map (E o) = KS at *
      have hb1 : ((KS.map intRow).length + 1) * 8 ≤ 140737488355328 := by rw [List.length_map]; omega
      have hb2 : (KS.map intRow).length + 1 ≤ 9223372036854775807 := by rw [List.length_map]; omega
      rcases hdo with hdo | hdo
      · rcases hdq with hdq | hdq
        · repeat' (first | (refine fv_sl ?_) | (refine fh_ob ?_) | (refine idx_sl (k := i) (at_map hx) rfl ?_) | (refine idx_sl (k := j) (at_map hy) rfl ?_) | (refine idx_sl (k := u) (at_map ho) rfl ?_) | (refine idx_sl (k := v) (at_map hq) rfl ?_) | (refine eqv_to (0 : Int) (by rw [hdo]; decide) ?_) | (refine eqv_to (0 : Int) (by rw [hdq]; decide) ?_) | (refine ⟨0, rfl, (by decide), ?_⟩) | ((refine o_appD rfl rfl rfl rfl rfl rfl rfl rfl rfl rfl rfl hb1 hb2 ?_)) | refine o1 ?_ | refine o2 ?_ | refine k1 ?_ | refine k2 ?_ | refine k3 ?_ | refine k4 ?_ | refine k6 ?_ | refine And.intro ?_ ?_ | refine o3 ?_ | refine o4 ?_ | (intro h; first | exact Bool.noConfusion h | exact nz _ h | exact nl h | (simp at h; done) | (simp at h; first | (exfalso; omega) | skip) | skip) | exact (by kernel_rfl : drawOk _ _ = true) | refine eqv_len_map ?_ | refine eqv_wrap (by omega) (by omega) ?_ | fail)
          all_goals first
            | (refine ⟨v + 1, by omega, by omega, ?_⟩
               have hv : E o q = 1099511627776 := by rw [← hE]; unfold evE; rw [if_pos (by omega), if_pos hdo, if_pos hdq]
               rw [hstep, hv, map_snoc, sl_app, ob_app]
               refine back [0, 1, 2, 3, 4, 5, 6, 11] rfl rfl ?_ ?_
               · repeat' (first | exact trivial | exact rfl | refine And.intro ?_ ?_)
               · repeat' (first | exact trivial | exact rfl | refine And.intro ?_ ?_))
            | (refine ⟨v + 1, by omega, by omega, ?_⟩
               have hv : E o q = a3 := by rw [← hE]; unfold evE; rw [if_neg (by omega), if_pos hdo, if_pos hdq]
               rw [hstep, hv, map_snoc, sl_app, ob_app]
               refine back [0, 1, 2, 3, 4, 5, 6, 11] rfl rfl ?_ ?_
               · repeat' (first | exact trivial | exact rfl | refine And.intro ?_ ?_)
               · repeat' (first | exact trivial | exact rfl | refine And.intro ?_ ?_))
        · repeat' (first | (refine fv_sl ?_) | (refine fh_ob ?_) | (refine idx_sl (k := i) (at_map hx) rfl ?_) | (refine idx_sl (k := j) (at_map hy) rfl ?_) | (refine idx_sl (k := u) (at_map ho) rfl ?_) | (refine idx_sl (k := v) (at_map hq) rfl ?_) | (refine eqv_to (0 : Int) (by rw [hdo]; decide) ?_) | (refine eqv_to (1 : Int) (by rw [hdq]; decide) ?_) | (refine ⟨1, rfl, (by decide), ?_⟩) | ((refine o_appD rfl rfl rfl rfl rfl rfl rfl rfl rfl rfl rfl hb1 hb2 ?_)) | refine o1 ?_ | refine o2 ?_ | refine k1 ?_ | refine k2 ?_ | refine k3 ?_ | refine k4 ?_ | refine k6 ?_ | refine And.intro ?_ ?_ | refine o3 ?_ | refine o4 ?_ | (intro h; first | exact Bool.noConfusion h | exact nz _ h | exact nl h | (simp at h; done) | (simp at h; first | (exfalso; omega) | skip) | skip) | exact (by kernel_rfl : drawOk _ _ = true) | refine eqv_len_map ?_ | refine eqv_wrap (by omega) (by omega) ?_ | fail)
          all_goals first
            | (refine ⟨v + 1, by omega, by omega, ?_⟩
               have hv : E o q = a1 := by rw [← hE]; unfold evE; rw [if_pos (by omega), if_pos hdo, if_neg (by omega)]
               rw [hstep, hv, map_snoc, sl_app, ob_app]
               refine back [0, 1, 2, 3, 4, 5, 6, 11] rfl rfl ?_ ?_
               · repeat' (first | exact trivial | exact rfl | refine And.intro ?_ ?_)
               · repeat' (first | exact trivial | exact rfl | refine And.intro ?_ ?_))
            | (refine ⟨v + 1, by omega, by omega, ?_⟩
               have hv : E o q = 0 := by rw [← hE]; unfold evE; rw [if_neg (by omega), if_pos hdo, if_neg (by omega)]
               rw [hstep, hv, map_snoc, sl_app, ob_app]
               refine back [0, 1, 2, 3, 4, 5, 6, 11] rfl rfl ?_ ?_
               · repeat' (first | exact trivial | exact rfl | refine And.intro ?_ ?_)
               · repeat' (first | exact trivial | exact rfl | refine And.intro ?_ ?_))
      · rcases hdq with hdq | hdq
        · repeat' (first | (refine fv_sl ?_) | (refine fh_ob ?_) | (refine idx_sl (k := i) (at_map hx) rfl ?_) | (refine idx_sl (k := j) (at_map hy) rfl ?_) | (refine idx_sl (k := u) (at_map ho) rfl ?_) | (refine idx_sl (k := v) (at_map hq) rfl ?_) | (refine eqv_to (2 : Int) (by rw [hdo]; decide) ?_) | (refine eqv_to (2 : Int) (by rw [hdq]; decide) ?_) | (refine ⟨2, rfl, (by decide), ?_⟩) | ((refine o_appD rfl rfl rfl rfl rfl rfl rfl rfl rfl rfl rfl hb1 hb2 ?_)) | refine o1 ?_ | refine o2 ?_ | refine k1 ?_ | refine k2 ?_ | refine k3 ?_ | refine k4 ?_ | refine k6 ?_ | refine And.intro ?_ ?_ | refine o3 ?_ | refine o4 ?_ | (intro h; first | exact Bool.noConfusion h | exact nz _ h | exact nl h | (simp at h; done) | (simp at h; first | (exfalso; omega) | skip) | skip) | exact (by kernel_rfl : drawOk _ _ = true) | refine eqv_len_map ?_ | refine eqv_wrap (by omega) (by omega) ?_ | fail)
          all_goals first
            | (refine ⟨v + 1, by omega, by omega, ?_⟩
               have hv : E o q = a2 := by rw [← hE]; unfold evE; rw [if_pos (by omega), if_neg (by omega), if_pos hdq]
               rw [hstep, hv, map_snoc, sl_app, ob_app]
               refine back [0, 1, 2, 3, 4, 5, 6, 11] rfl rfl ?_ ?_
               · repeat' (first | exact trivial | exact rfl | refine And.intro ?_ ?_)
               · repeat' (first | exact trivial | exact rfl | refine And.intro ?_ ?_))
            | (refine ⟨v + 1, by omega, by omega, ?_⟩
               have hv : E o q = a4 := by rw [← hE]; unfold evE; rw [if_neg (by omega), if_neg (by omega), if_pos hdq]
               rw [hstep, hv, map_snoc, sl_app, ob_app]
               refine back [0, 1, 2, 3, 4, 5, 6, 11] rfl rfl ?_ ?_
               · repeat' (first | exact trivial | exact rfl | refine And.intro ?_ ?_)
               · repeat' (first | exact trivial | exact rfl | refine And.intro ?_ ?_))
        · repeat' (first | (refine fv_sl ?_) | (refine fh_ob ?_) | (refine idx_sl (k := i) (at_map hx) rfl ?_) | (refine idx_sl (k := j) (at_map hy) rfl ?_) | (refine idx_sl (k := u) (at_map ho) rfl ?_) | (refine idx_sl (k := v) (at_map hq) rfl ?_) | (refine eqv_to (2 : Int) (by rw [hdo]; decide) ?_) | (refine eqv_to (3 : Int) (by rw [hdq]; decide) ?_) | (refine ⟨3, rfl, (by decide), ?_⟩) | ((refine o_appD rfl rfl rfl rfl rfl rfl rfl rfl rfl rfl rfl hb1 hb2 ?_)) | refine o1 ?_ | refine o2 ?_ | refine k1 ?_ | refine k2 ?_ | refine k3 ?_ | refine k4 ?_ | refine k6 ?_ | refine And.intro ?_ ?_ | refine o3 ?_ | refine o4 ?_ | (intro h; first | exact Bool.noConfusion h | exact nz _ h | exact nl h | (simp at h; done) | (simp at h; first | (exfalso; omega) | skip) | skip) | exact (by kernel_rfl : drawOk _ _ = true) | refine eqv_len_map ?_ | refine eqv_wrap (by omega) (by omega) ?_ | fail)
          all_goals first
            | (refine ⟨v + 1, by omega, by omega, ?_⟩
               have hv : E o q = 1099511627776 := by rw [← hE]; unfold evE; rw [if_pos (by omega), if_neg (by omega), if_neg (by omega)]
               rw [hstep, hv, map_snoc, sl_app, ob_app]
               refine back [0, 1, 2, 3, 4, 5, 6, 11] rfl rfl ?_ ?_
               · repeat' (first | exact trivial | exact rfl | refine And.intro ?_ ?_)
               · repeat' (first | exact trivial | exact rfl | refine And.intro ?_ ?_))
            | (refine ⟨v + 1, by omega, by omega, ?_⟩
               have hv : E o q = 0 := by rw [← hE]; unfold evE; rw [if_neg (by omega), if_neg (by omega), if_neg (by omega)]
               rw [hstep, hv, map_snoc, sl_app, ob_app]
               refine back [0, 1, 2, 3, 4, 5, 6, 11] rfl rfl ?_ ?_
               · repeat' (first | exact trivial | exact rfl | refine And.intro ?_ ?_)
               · repeat' (first | exact trivial | exact rfl | refine And.intro ?_ ?_))
    · obtain rfl : v = y.length := by omega
      rw [List.take_length, ← hnx]
      repeat' (first | (refine fh_ob ?_) | (refine idx_sl (k := j) (at_map hy) rfl ?_) | refine o1 ?_ | refine o2 ?_ | refine k1 ?_ | refine k2 ?_ | refine k3 ?_ | refine k8 ?_ | refine And.intro ?_ ?_ | (intro h; first | exact Bool.noConfusion h | exact nz _ h | exact nl h | (simp at h; done) | (simp at h; first | (exfalso; omega) | skip) | skip) | refine eqv_len_map ?_ | refine eqv_wrap (by omega) (by omega) ?_ | fail)
      all_goals first
        | exact ⟨u + 1, by omega, by omega, back [0, 1, 2, 3, 4, 5, 6, 7] rfl rfl (by repeat' (first | exact trivial | exact rfl | refine kept_ob rfl ?_ | refine kept_bx ren_bx3 rfl ?_ | refine And.intro ?_ ?_)) (by repeat' (first | exact trivial | exact rfl | refine And.intro ?_ ?_))⟩
  · obtain rfl : u = x.length := by omega
    rw [List.take_length] at hTB ⊢
    generalize evT E x y = TB at *
    refine forceH_in ?_
    refine ghost_seq (Γ' := [(2, vint .i64 i), (3, vint .i64 j), (5, .ptr 2 4 0 0), (8, .ptr 3 4 0 0), (9, .ptr 4 4 0 0), (12, vint .i64 x.length)]) (H' := [dice t kd, some ⟨72, 4, false, .p rows⟩, some ⟨29, 4, false, .box [.pv (.sl 1 (C.map optsRow)), .ms 1 4 0 np, nilA, vint .i64 2]⟩, some ⟨72, 4, false, .box [vint .i64 0, vint .i64 0, vint .i64 0, nilA]⟩, some ⟨72, 4, false, .box [vint .i64 i, vint .i64 j, vint .i64 1, .pv (.sl 1 (TB.map intRow))]⟩]) (Ghost.shut_sl (i := 4) (c := 3) (id := 7) rfl rfl rfl (by decide) fun H' hl h2 hH => back [0, 1, 2, 3, 4] rfl rfl ⟨hH 0 (by decide) (by decide), hH 1 (by decide) (by decide), hH 2 (by decide) (by decide), hH 3 (by decide) (by decide), h2, trivial⟩ (by repeat' (first | exact trivial | exact rfl | refine And.intro ?_ ?_))) ?_
    repeat' (first | (refine idx_sl (k := i) (at_map hx) rfl ?_) | refine o1 ?_ | refine o2 ?_ | refine k1 ?_ | refine k2 ?_ | refine k3 ?_ | refine k7 ?_ | refine k8 ?_ | refine And.intro ?_ ?_ | (intro h; first | exact Bool.noConfusion h | exact nz _ h | exact nl h | (simp at h; done) | (simp at h; first | (exfalso; omega) | skip) | skip) | refine eqv_len_map ?_ | fail)
    exact ret_obj [0, 1] [dice t kd, some ⟨72, 4, false, .p rows⟩] rfl rfl (by repeat' (first | exact trivial | exact rfl | refine And.intro ?_ ?_)) (r' := ag (Pair.row ⟨i, j, 1, TB⟩)) rfl ⟨rfl, rfl⟩
end Go.Proofs.YtihpjcmloecaaaaGreat.Cw
/-
  Symmetry, plain: loads put in one by one.
-/
namespace Go.Proofs.YtihpjcmloecaaaaGreat.Cw
open Go Go.Cw Go.Proofs
set_option linter.unusedVariables false
structure LdQ (C : List (List Opt)) (L : List Load) (i k : Nat) : Prop where
  at_ : ∀ j, j < L.length → loadAt ⟨C, [], [], 2⟩ L j
  lt : ∀ x ∈ L, x.cls < i ∨ (x.cls = i ∧ x.opt < k)
theorem LdQ.nil {C : List (List Opt)} : LdQ C [] 0 0 := ⟨fun j h => absurd h (Nat.not_lt_zero _), fun x h => absurd h List.not_mem_nil⟩
theorem LdQ.skip {C : List (List Opt)} {L : List Load} {i k : Nat} (h : LdQ C L i k) : LdQ C L i (k + 1) := ⟨h.at_, fun x hx => by have := h.lt x hx; omega⟩
theorem LdQ.next {C : List (List Opt)} {L : List Load} {i k : Nat} (h : LdQ C L i k) : LdQ C L (i + 1) 0 := ⟨h.at_, fun x hx => by have := h.lt x hx; omega⟩
theorem LdQ.app {C : List (List Opt)} {L : List Load} {i k : Nat} {l : List Opt} {w : Int} (h : LdQ C L i k) (hl : C[i]? = some l) (hk : k < l.length) (hw : 1 ≤ w ∧ w ≤ 1000) : LdQ C (L ++ [⟨i, k, w⟩]) i (k + 1) := by
  refine ⟨fun j hj x hx => ?_, fun x hx => ?_⟩
  · simp only [List.length_append, List.length_cons, List.length_nil] at hj
    rcases Nat.lt_or_ge j L.length with h1 | h1
    · rw [List.getElem?_append_left h1] at hx
      obtain ⟨a, b, c, d⟩ := h.at_ j h1 x hx
      exact ⟨a, b, c, fun e y he hy => d e y he (by rw [List.getElem?_append_left (by omega)] at hy; exact hy)⟩
    · obtain rfl : j = L.length := by omega
      rw [List.getElem?_append_right (Nat.le_refl _)] at hx
      simp at hx; subst hx
      refine ⟨⟨by simp, by simp, l, by simpa using hl, by show (k : Int) < _; omega⟩, hw.1, hw.2, fun e y he hy => ?_⟩
      rw [List.getElem?_append_left (by omega)] at hy
      have := h.lt y (List.mem_of_getElem? hy)
      exact this
  · rcases List.mem_append.1 hx with hx | hx
    · have := h.lt x hx; omega
    · simp at hx; subst hx; exact .inr ⟨rfl, by show (k : Int) < ((k + 1 : Nat) : Int); omega⟩
end Go.Proofs.YtihpjcmloecaaaaGreat.Cw
/-
  Symmetry: the counts of even models.
-/
namespace Go.Proofs.YtihpjcmloecaaaaGreat.Cw
open Go Go.Cw Go.Proofs
set_option linter.unusedVariables false
set_option maxRecDepth 100000
set_option maxHeartbeats 8000000
def evM (C : List (List Opt)) (PR : List (List PV)) : Option AObj := some ⟨29, 4, false, .box [.pv (.sl 1 (C.map optsRow)), .pv (.sl 4 PR), .pv (.sl 4 []), vint .i64 2]⟩
def evC (s : AV) (mo pe : Int) : Option AObj := some ⟨78, 4, false, .box [vint .i64 1, s, vint .i64 mo, vint .i64 pe]⟩
theorem c_evenCounts (t : List Int) (k : Nat) (ht : t.length ≤ 400) (hk : k ≤ t.length) (C : List (List Opt)) (PR : List (List PV)) (R : Nat) (hR : R ≤ 3) (hC : C.length ≤ 5) (hl : ∀ l ∈ C, l.length ≤ 7) :
    ACall Tryz.prog 61 [.ptr 0 2 0 0, .agg [.pv (.sl 1 (C.map optsRow)), .pv (.sl 4 PR), .pv (.sl 4 []), vint .i64 2], vint .i64 R] [dice t k]
      (fun r H' => ∃ (L : List Count) (k' : Nat), k' ≤ t.length ∧ L.length ≤ 6 ∧ (∀ c ∈ L, CtQ C 2 c) ∧ r = .pv (.sl 4 (L.map Count.row)) ∧ H' = [dice t k']) := by
  refine acall_of tok mixed 102 rfl (fn := Tryz.f61) (c := Tryz.f61.body.getD .skip) (by kernel_rfl) (by kernel_rfl) (by kernel_rfl) rfl 1 rfl ?_
  repeat' (first | refine o1 ?_ | refine o2 ?_ | refine k1 ?_ | refine k2 ?_ | refine k4 ?_ | fail)
  refine loop_for (fun z : Nat × Nat × List Int => [(0, .ptr 0 2 0 0), (2, vint .i64 R), (4, .ptr 1 4 0 0), (7, slP 2 1 (z.2.2.map intRow)), (8, vint .i64 z.1)])
    (fun z => [dice t z.2.1, evM C PR, obP 3 1 (z.2.2.map intRow)])
    (fun z => z.1 ≤ C.length ∧ z.2.1 ≤ t.length ∧ z.2.2.length = z.1 ∧ ∀ n ∈ z.2.2, 1 ≤ n ∧ n ≤ 1000) (fun z => C.length - z.1) (0, k, []) ⟨Nat.zero_le _, hk, rfl, fun n h => absurd h List.not_mem_nil⟩ ?_ ?_
  · exact back [0, 1, 2] rfl rfl (by repeat' (first | exact trivial | exact rfl | refine And.intro ?_ ?_)) (by repeat' (first | exact trivial | exact rfl | refine And.intro ?_ ?_))
  rintro ⟨i, k, W⟩ ⟨hi, hk, hWl, hW⟩
  dsimp only at hi hk hWl hW ⊢
  dsimp only [evM]
  rcases Nat.lt_or_ge i C.length with hlt | hge
  · have hb1 : ((W.map intRow).length + 1) * 8 ≤ 140737488355328 := by rw [List.length_map]; omega
    have hb2 : (W.map intRow).length + 1 ≤ 9223372036854775807 := by rw [List.length_map]; omega
    repeat' (first | (refine fv_sl ?_) | (refine fh_ob ?_) | ((refine o_app rfl rfl rfl rfl rfl rfl rfl rfl rfl rfl rfl hb1 hb2 ?_)) | refine o1 ?_ | refine o2 ?_ | refine k1 ?_ | refine k2 ?_ | refine k3 ?_ | refine k4 ?_ | refine k6 ?_ | refine And.intro ?_ ?_ | (intro h; first | exact Bool.noConfusion h | exact nz _ h | exact nl h | (simp at h; done) | (simp at h; first | (exfalso; omega) | skip) | skip) | refine eqv_len_map ?_ | refine eqv_wrap (by omega) (by omega) ?_ | (change vcFun _ _ _ _ _; refine call_next 0 rfl (by assumption) (by assumption) (by omega) (by omega) ?_; intro v kq hv1 hv2 hkq) | fail)
    all_goals first
      | (exfalso; omega)
      | (refine ⟨(i + 1, kq, W ++ [1 + v]), ⟨by dsimp only; omega, hkq, by dsimp only; rw [List.length_append]; simp; omega, fun n hn => ?_⟩, by dsimp only; omega, ?_⟩
         · rcases List.mem_append.1 hn with hn | hn
           · exact hW n hn
           · simp at hn; omega
         · dsimp only
           rw [map_snoc, sl_app, ob_app]
           refine back [0, 1, 4] rfl rfl ?_ ?_
           · repeat' (first | exact trivial | exact rfl | refine And.intro ?_ ?_)
           · repeat' (first | exact trivial | exact rfl | refine And.intro ?_ ?_))
  obtain rfl : i = C.length := by omega
  have hWi : ∀ i, i < C.length → ∃ w, W[i]? = some w ∧ 1 ≤ w ∧ w ≤ 1000 := fun i hi => ⟨W[i]'(by omega), List.getElem?_eq_getElem _, hW _ (List.getElem_mem _)⟩
  refine forceH_in ?_
  refine ghost_seq (Γ' := [(0, .ptr 0 2 0 0), (2, vint .i64 R), (4, .ptr 1 4 0 0), (7, .pv (.sl 1 (W.map intRow))), (8, vint .i64 C.length)]) (H' := [dice t k, evM C PR]) (Ghost.sl (s := 7) (id := 2) rfl rfl fun H' hl hH => back [0, 1] rfl rfl ⟨hH 0 (by decide), hH 1 (by decide), trivial⟩ (by repeat' (first | exact trivial | exact rfl | refine And.intro ?_ ?_))) ?_
  dsimp only [evM]
  repeat' (first | refine o1 ?_ | refine o2 ?_ | refine k1 ?_ | refine k2 ?_ | refine k3 ?_ | refine k4 ?_ | refine k8 ?_ | refine And.intro ?_ ?_ | (intro h; first | exact Bool.noConfusion h | exact nz _ h | exact nl h | (simp at h; done) | (simp at h; first | (exfalso; omega) | skip) | skip) | refine eqv_len_map ?_ | fail)
  refine loop_for (fun z : Nat × Nat × List Count => [(0, .ptr 0 2 0 0), (2, vint .i64 R), (4, .ptr 1 4 0 0), (7, .pv (.sl 1 (W.map intRow))), (9, slP 2 4 (z.2.2.map Count.row)), (10, vint .i64 z.1)])
    (fun z => [dice t z.2.1, evM C PR, obP 78 4 (z.2.2.map Count.row)])
    (fun z => z.1 ≤ 2 ∧ z.2.1 ≤ t.length ∧ z.2.2.length ≤ z.1 * 3 ∧ ∀ c ∈ z.2.2, CtQ C 2 c) (fun z => 2 - z.1) (0, k, []) ⟨Nat.zero_le _, hk, by simp, fun n h => absurd h List.not_mem_nil⟩ ?_ ?_
  · exact back [0, 1, 2] rfl rfl (by repeat' (first | exact trivial | exact rfl | refine And.intro ?_ ?_)) (by repeat' (first | exact trivial | exact rfl | refine And.intro ?_ ?_))
  rintro ⟨tt, k, L⟩ ⟨htt, hk, hLl, hL⟩
  dsimp only at htt hk hLl hL ⊢
  dsimp only [evM]
  rcases Nat.lt_or_ge tt 2 with hlt | hge2
  · repeat' (first | ((change vcFun _ _ _ _ _; refine call_mcost 0 rfl (by assumption) (by assumption) ?_; intro cn kc hcn hkc)) | (refine fh_ob ?_) | refine o1 ?_ | refine o2 ?_ | refine k1 ?_ | refine k2 ?_ | refine k3 ?_ | refine k4 ?_ | refine k6 ?_ | refine And.intro ?_ ?_ | (intro h; first | exact Bool.noConfusion h | exact nz _ h | exact nl h | (simp at h; done) | (simp at h; first | (exfalso; omega) | skip) | skip) | (change vcFun _ _ _ _ _; refine call_next 0 rfl (by assumption) (by assumption) (by omega) (by omega) ?_; intro v kq hv1 hv2 hkq) | fail)
    have hpe := pen_ok hcn
    generalize (bif true then if cn > 1 then cn else 1 else if cn < 1 then cn else 1) = pe at *
    rename_i k0 _
    have hmo := hv1
    have hmo2 := hv2
    generalize v = mo at *
    generalize hkk : kc = k at *
    have hk := hkc
    refine loop_for (fun z : Nat × List Count => [(0, .ptr 0 2 0 0), (2, vint .i64 R), (4, .ptr 1 4 0 0), (7, .pv (.sl 1 (W.map intRow))), (9, slP 2 4 (z.2.map Count.row)), (10, vint .i64 tt), (11, vint .i64 mo), (12, vint .i64 pe), (13, vint .i64 z.1)])
      (fun z => [dice t k, evM C PR, obP 78 4 (z.2.map Count.row)])
      (fun z => z.1 ≤ R ∧ z.2.length ≤ tt * 3 + z.1 ∧ ∀ c ∈ z.2, CtQ C 2 c) (fun z => R - z.1) (0, L) ⟨Nat.zero_le _, hLl, hL⟩ ?_ ?_
    · exact back [0, 1, 2] rfl rfl (by repeat' (first | exact trivial | exact rfl | refine kept_ob rfl ?_ | refine And.intro ?_ ?_)) (by repeat' (first | exact trivial | exact rfl | exact ren_get rfl | refine And.intro ?_ ?_))
    rintro ⟨r, L⟩ ⟨hr, hLl, hL⟩
    dsimp only at hr hLl hL ⊢
    dsimp only [evM]
    rcases Nat.lt_or_ge r R with hrl | hrg
    · repeat' (first | (refine fh_ob ?_) | refine o1 ?_ | refine o2 ?_ | refine k1 ?_ | refine k2 ?_ | refine k3 ?_ | refine k4 ?_ | refine k6 ?_ | refine And.intro ?_ ?_ | (intro h; first | exact Bool.noConfusion h | exact nz _ h | exact nl h | (simp at h; done) | (simp at h; first | (exfalso; omega) | skip) | skip) | exact (by kernel_rfl : drawOk _ _ = true) | fail)
      refine loop_for (fun z : Nat × List Load => [(0, .ptr 0 2 0 0), (2, vint .i64 R), (4, .ptr 1 4 0 0), (7, .pv (.sl 1 (W.map intRow))), (9, slP 2 4 (L.map Count.row)), (10, vint .i64 tt), (11, vint .i64 mo), (12, vint .i64 pe), (13, vint .i64 r), (14, .ptr 3 4 0 0), (15, vint .i64 z.1)])
        (fun z => [dice t k, evM C PR, obP 78 4 (L.map Count.row), evC (slP 4 3 (z.2.map Load.row)) mo pe, obP 102 3 (z.2.map Load.row)])
        (fun z => z.1 ≤ C.length ∧ z.2.length ≤ z.1 * 7 ∧ LdQ C z.2 z.1 0) (fun z => C.length - z.1) (0, []) ⟨Nat.zero_le _, Nat.le_refl _, LdQ.nil⟩ ?_ ?_
      · exact back [0, 1, 2, 3, 4] rfl rfl (by repeat' (first | exact trivial | exact rfl | refine kept_ob rfl ?_ | refine kept_bx ren_bx1 rfl ?_ | refine And.intro ?_ ?_)) (by repeat' (first | exact trivial | exact rfl | exact ren_get rfl | refine And.intro ?_ ?_))
      rintro ⟨i, D⟩ ⟨hi, hDl, hD⟩
      dsimp only at hi hDl hD ⊢
      dsimp only [evM, evC]
      rcases Nat.lt_or_ge i C.length with hil | hig
      · obtain ⟨la, hla⟩ := getE hil
        have hla7 := hl la (List.mem_of_getElem? hla)
        obtain ⟨w, hw, hw1, hw2⟩ := hWi i hil
        repeat' (first | (refine fh_ob ?_) | refine o1 ?_ | refine o2 ?_ | refine k1 ?_ | refine k2 ?_ | refine k3 ?_ | refine k4 ?_ | refine k6 ?_ | refine And.intro ?_ ?_ | (intro h; first | exact Bool.noConfusion h | exact nz _ h | exact nl h | (simp at h; done) | (simp at h; first | (exfalso; omega) | skip) | skip) | refine eqv_len_map ?_ | fail)
        refine loop_for (fun z : Nat × List Load => [(0, .ptr 0 2 0 0), (2, vint .i64 R), (4, .ptr 1 4 0 0), (7, .pv (.sl 1 (W.map intRow))), (9, slP 2 4 (L.map Count.row)), (10, vint .i64 tt), (11, vint .i64 mo), (12, vint .i64 pe), (13, vint .i64 r), (14, .ptr 3 4 0 0), (15, vint .i64 i), (16, vint .i64 z.1)])
          (fun z => [dice t k, evM C PR, obP 78 4 (L.map Count.row), evC (slP 4 3 (z.2.map Load.row)) mo pe, obP 102 3 (z.2.map Load.row)])
          (fun z => z.1 ≤ la.length ∧ z.2.length ≤ i * 7 + z.1 ∧ LdQ C z.2 i z.1) (fun z => la.length - z.1) (0, D) ⟨Nat.zero_le _, hDl, hD⟩ ?_ ?_
        · exact back [0, 1, 2, 3, 4] rfl rfl (by repeat' (first | exact trivial | exact rfl | refine kept_ob rfl ?_ | refine kept_bx ren_bx1 rfl ?_ | refine And.intro ?_ ?_)) (by repeat' (first | exact trivial | exact rfl | exact ren_get rfl | refine And.intro ?_ ?_))
        rintro ⟨j, D⟩ ⟨hj, hDl, hD⟩
        dsimp only at hj hDl hD ⊢
        dsimp only [evM, evC]
        have hb1 : ((D.map Load.row).length + 1) * 24 ≤ 140737488355328 := by rw [List.length_map]; omega
        have hb2 : (D.map Load.row).length + 1 ≤ 9223372036854775807 := by rw [List.length_map]; omega
        rcases Nat.lt_or_ge j la.length with hjl | hjg
        · obtain ⟨o, ho⟩ := getE hjl
          repeat' (first | (refine fv_sl ?_) | (refine fh_ob ?_) | (refine idx_sl (k := i) (at_map hla) rfl ?_) | (refine idx_sl (k := i) (at_map hw) rfl ?_) | (refine idx_sl (k := j) (at_map ho) rfl ?_) | ((refine o_appD rfl rfl rfl rfl rfl rfl rfl rfl rfl rfl rfl hb1 hb2 ?_)) | refine o1 ?_ | refine o2 ?_ | refine k1 ?_ | refine k2 ?_ | refine k3 ?_ | refine k4 ?_ | refine k6 ?_ | refine And.intro ?_ ?_ | refine o3 ?_ | refine o4 ?_ | (intro h; first | exact Bool.noConfusion h | exact nz _ h | exact nl h | (simp at h; done) | (simp at h; first | (exfalso; omega) | skip) | skip) | exact (by kernel_rfl : drawOk _ _ = true) | refine eqv_len_map ?_ | refine eqv_wrap (by omega) (by omega) ?_ | fail)
          all_goals first
            | (exfalso; omega)
            | (refine ⟨(j + 1, D ++ [⟨i, j, w⟩]), ⟨by dsimp only; omega, by dsimp only; rw [List.length_append]; simp only [List.length_cons, List.length_nil]; omega, by dsimp only; exact hD.app hla hjl ⟨hw1, hw2⟩⟩, by dsimp only; omega, ?_⟩
               dsimp only
               rw [map_snoc, sl_app, ob_app]
               refine back [0, 1, 2, 3, 7] rfl rfl ?_ ?_
               · repeat' (first | exact trivial | exact rfl | refine kept_ob rfl ?_ | refine And.intro ?_ ?_)
               · repeat' (first | exact trivial | exact rfl | exact ren_get rfl | refine And.intro ?_ ?_))
            | (refine ⟨(j + 1, D), ⟨by dsimp only; omega, by dsimp only; omega, hD.skip⟩, by dsimp only; omega, ?_⟩
               dsimp only
               refine back [0, 1, 2, 3, 4] rfl rfl ?_ ?_
               · repeat' (first | exact trivial | exact rfl | refine kept_ob rfl ?_ | refine kept_bx ren_bx1 rfl ?_ | refine And.intro ?_ ?_)
               · repeat' (first | exact trivial | exact rfl | exact ren_get rfl | refine And.intro ?_ ?_))
        · obtain rfl : j = la.length := by omega
          repeat' (first | (refine fh_ob ?_) | (refine idx_sl (k := i) (at_map hla) rfl ?_) | refine o1 ?_ | refine o2 ?_ | refine k1 ?_ | refine k2 ?_ | refine k3 ?_ | refine k8 ?_ | refine And.intro ?_ ?_ | (intro h; first | exact Bool.noConfusion h | exact nz _ h | exact nl h | (simp at h; done) | (simp at h; first | (exfalso; omega) | skip) | skip) | refine eqv_len_map ?_ | refine eqv_wrap (by omega) (by omega) ?_ | fail)
          all_goals first
            | (exfalso; omega)
            | (refine ⟨(i + 1, D), ⟨by dsimp only; omega, by dsimp only; omega, hD.next⟩, by dsimp only; omega, ?_⟩
               dsimp only
               refine back [0, 1, 2, 3, 4] rfl rfl ?_ ?_
               · repeat' (first | exact trivial | exact rfl | refine kept_ob rfl ?_ | refine kept_bx ren_bx1 rfl ?_ | refine And.intro ?_ ?_)
               · repeat' (first | exact trivial | exact rfl | exact ren_get rfl | refine And.intro ?_ ?_))
      · obtain rfl : i = C.length := by omega
        have hb1 : ((L.map Count.row).length + 1) * 48 ≤ 140737488355328 := by rw [List.length_map]; omega
        have hb2 : (L.map Count.row).length + 1 ≤ 9223372036854775807 := by rw [List.length_map]; omega
        refine forceH_in ?_
        refine ghost_seq (Γ' := [(0, .ptr 0 2 0 0), (2, vint .i64 R), (4, .ptr 1 4 0 0), (7, .pv (.sl 1 (W.map intRow))), (9, slP 2 4 (L.map Count.row)), (10, vint .i64 tt), (11, vint .i64 mo), (12, vint .i64 pe), (13, vint .i64 r), (14, .ptr 3 4 0 0), (15, vint .i64 C.length)]) (H' := [dice t k, evM C PR, obP 78 4 (L.map Count.row), evC (.pv (.sl 3 (D.map Load.row))) mo pe]) (Ghost.shut_sl (i := 3) (c := 1) (id := 4) rfl rfl rfl (by decide) fun H' hl h2 hH => back [0, 1, 2, 3] rfl rfl ?_ ?_) ?_
        · exact ⟨hH 0 (by decide) (by decide), hH 1 (by decide) (by decide), kept_ob (hH 2 (by decide) (by decide)) ⟨h2, trivial⟩⟩
        · repeat' (first | exact trivial | exact rfl | exact ren_get rfl | refine And.intro ?_ ?_)
        dsimp only [evM, evC]
        repeat' (first | (refine fv_sl ?_) | (refine fh_ob ?_) | ((refine o_app rfl rfl rfl rfl rfl rfl rfl rfl rfl rfl rfl hb1 hb2 ?_)) | refine o1 ?_ | refine o2 ?_ | refine k1 ?_ | refine k2 ?_ | refine k3 ?_ | refine k8 ?_ | refine And.intro ?_ ?_ | (intro h; first | exact Bool.noConfusion h | exact nz _ h | exact nl h | (simp at h; done) | (simp at h; first | (exfalso; omega) | skip) | skip) | refine eqv_len_map ?_ | refine eqv_wrap (by omega) (by omega) ?_ | fail)
        all_goals first
          | (exfalso; omega)
          | (refine ⟨(r + 1, L ++ [⟨1, D, mo, pe⟩]), ⟨by dsimp only; omega, by dsimp only; rw [List.length_append]; simp only [List.length_cons, List.length_nil]; omega, by dsimp only; exact all_app hL ⟨⟨⟨by dsimp only; omega, by dsimp only; omega⟩, hmo, by dsimp only; omega, hpe, hD.at_⟩, by dsimp only; omega⟩⟩, by dsimp only; omega, ?_⟩
             dsimp only
             rw [map_snoc, sl_app, ob_app]
             refine back [0, 1, 5] rfl rfl ?_ ?_
             · repeat' (first | exact trivial | exact rfl | refine And.intro ?_ ?_)
             · repeat' (first | exact trivial | exact rfl | refine And.intro ?_ ?_))
    · obtain rfl : r = R := by omega
      repeat' (first | (refine fh_ob ?_) | refine o1 ?_ | refine o2 ?_ | refine k1 ?_ | refine k2 ?_ | refine k3 ?_ | refine k8 ?_ | refine And.intro ?_ ?_ | (intro h; first | exact Bool.noConfusion h | exact nz _ h | exact nl h | (simp at h; done) | (simp at h; first | (exfalso; omega) | skip) | skip) | refine eqv_wrap (by omega) (by omega) ?_ | fail)
      all_goals first
        | (exfalso; omega)
        | (refine ⟨(tt + 1, k, L), ⟨by dsimp only; omega, hk, by dsimp only; omega, hL⟩, by dsimp only; omega, ?_⟩
           dsimp only
           refine back [0, 1, 2] rfl rfl ?_ ?_
           · repeat' (first | exact trivial | exact rfl | refine kept_ob rfl ?_ | refine And.intro ?_ ?_)
           · repeat' (first | exact trivial | exact rfl | exact ren_get rfl | refine And.intro ?_ ?_))
  obtain rfl : tt = 2 := by omega
  refine forceH_in ?_
  refine ghost_seq (Γ' := [(0, .ptr 0 2 0 0), (9, .pv (.sl 4 (L.map Count.row))), (10, vint .i64 2)]) (H' := [dice t k]) (Ghost.sl (s := 9) (id := 2) rfl rfl fun H' hl hH => back [0] rfl rfl ⟨hH 0 (by decide), trivial⟩ (by repeat' (first | exact trivial | exact rfl | refine And.intro ?_ ?_))) ?_
  repeat' (first | refine o1 ?_ | refine o2 ?_ | refine k1 ?_ | refine k2 ?_ | refine k3 ?_ | refine k7 ?_ | refine k8 ?_ | refine And.intro ?_ ?_ | (intro h; first | exact Bool.noConfusion h | exact nz _ h | exact nl h | (simp at h; done) | (simp at h; first | (exfalso; omega) | skip) | skip) | fail)
  exact ret_obj [0] [dice t k] rfl rfl (by repeat' (first | exact trivial | exact rfl | refine And.intro ?_ ?_)) (r' := .pv (.sl 4 (L.map Count.row))) rfl ⟨L, k, hk, by omega, hL, rfl, rfl⟩
end Go.Proofs.YtihpjcmloecaaaaGreat.Cw
