/-
  Part 8 of the proof (D5, D6, D7): what later parts use. No conditions.
-/
import Derived.Test.YtpnghlibmpainaaGreatMS7

/-
  Odd rooms.
-/
namespace Go.Cw
/-- A cell of a row becomes pure, the others are pure already. -/
theorem Ghost.shutK {n nh : Nat} {Γ : Slots} {H : Heap} {i k c ty z : Nat} {fz : Bool} {r : List PV} {xs : List (List PV)} {r0 : List AV} {x y : AV} {p' : PV} (hi : H[i]? = some (some ⟨ty, z, fz, .m ((xs.map pvs).set k r0)⟩)) (hk : xs[k]? = some r) (hr : r0 = (pvs r).set c x) (hlt : c < r.length)
    (hc : conv H x = some y) (hok : ok1 H x) (hn : i ∉ ids1 H x) (hle : ALe y (.pv p')) :
    Ghost n nh Γ H Γ ((app H (frz H (ids1 H x))).set i (some ⟨ty, z, fz, .p (xs.set k (r.set c p'))⟩)) := by
  have hkl : k < xs.length := (List.getElem?_eq_some_iff.1 hk).1
  refine Ghost.shutR (o := ⟨ty, z, fz, .m ((xs.map pvs).set k r0)⟩) hi (fun h j q hq => ?_) (fun c t => rfl) (fun j m u hu => ?_) hc hok hn hle
  · rw [List.getElem?_set] at hq
    split at hq
    · rename_i e; subst e
      injection hq with hq; subst hq
      have := h k r0 (by rw [List.getElem?_set_self (by simpa using hkl)])
      rw [hr, List.length_set, pvs_map, List.length_map] at this
      rw [List.length_set]; exact this
    · rename_i e
      have := h j (pvs q) (by rw [List.getElem?_set_ne e, List.getElem?_map, hq]; rfl)
      rw [pvs_map, List.length_map] at this; exact this
  · by_cases e : k = j
    · subst e
      simp only [rowCell] at hu ⊢
      rw [List.getElem?_set_self hkl] at hu
      rw [List.getElem?_set_self (by simpa using hkl), hr]
      simp only [Option.bind_some] at hu ⊢
      by_cases e : c = m
      · subst e
        right
        rw [List.getElem?_set_self hlt] at hu
        injection hu with hu
        exact ⟨hu.symm, List.getElem?_set_self (by rw [pvs_map, List.length_map]; exact hlt)⟩
      · left
        rw [List.getElem?_set_ne e] at hu ⊢
        rw [pvs_map, List.getElem?_map]; exact hu
    · left
      simp only [rowCell] at hu ⊢
      rw [List.getElem?_set_ne e] at hu ⊢
      rw [List.getElem?_map]
      cases h : xs[j]? with
      | none => rw [h] at hu; simp at hu
      | some q => rw [h] at hu; simpa [pvs_map] using hu
section
variable {P : Program} {T : Tab} {n nh : Nat} {a b : Code} {Q : Exit → Slots → Heap → Prop} {Γ : Slots} {H : Heap}
/-- As join_in and loop_in, but only the named slots are kept. -/
theorem join_to {X : Type} (g : X → Slots) (hp : X → Heap) (cond : X → Prop)
    (ha : xCode P T n nh a (thenQ (fun Γ' H' => ∃ x, cond x ∧ Ghost n nh Γ' H' (g x) (hp x)) Q) Γ H ∧ Later (∀ x, cond x → forceH (hp x) fun H1 => xCode P T n nh b Q (g x) H1)) : xCode P T n nh (.seq a b) Q Γ H := by
  refine code_join (fun S => ∃ x, cond x ∧ S = ⟨g x, hp x⟩) ?_ ?_
  · have : (fun Γ' H' => ∃ x, cond x ∧ Ghost n nh Γ' H' (g x) (hp x)) = fun Γ' H' => ∃ S, (∃ x, cond x ∧ S = (⟨g x, hp x⟩ : ASt)) ∧ Ghost n nh Γ' H' S.sl S.hp := by
      funext Γ' H'
      exact propext ⟨fun ⟨x, h1, h2⟩ => ⟨_, ⟨x, h1, rfl⟩, h2⟩, fun ⟨S, ⟨x, h1, e⟩, h2⟩ => ⟨x, h1, by subst e; exact h2⟩⟩
    rw [← this]
    exact ha.1
  · rintro S ⟨x, hx, rfl⟩
    have := ha.2.go x hx
    rw [forceH_eq] at this
    exact this
theorem loop_to {X : Type} (g : X → Slots) (hp : X → Heap) (cond : X → Prop) (μ : X → Nat) (x0 : X) (h0 : cond x0) (he : Ghost n nh Γ H (g x0) (hp x0))
    (hb : ∀ x, cond x → forceH (hp x) fun H1 => xCode P T n nh a (thenQ (fun Γ' H' => ∃ x', cond x' ∧ μ x' < μ x ∧ Ghost n nh Γ' H' (g x') (hp x')) Q) (g x) H1) : xCode P T n nh (.loop a) Q Γ H := by
  refine code_loop (fun x => ⟨g x, hp x⟩) cond μ ⟨x0, h0, he⟩ fun x hx => ?_
  have := hb x hx
  rw [forceH_eq] at this
  exact this
end
end Go.Cw
namespace Go.Proofs.YtpnghlibmpainaaGreat.Cw
open Go.Cw Go.Proofs
set_option linter.unusedVariables false
set_option maxRecDepth 100000
set_option maxHeartbeats 1600000

theorem app_whole {α : Type} {f : α → List PV} {e : α} {l : List α} {K : Go.Cw.Rows → Nat → Prop} (h : K (.p (f e :: l.map f)) (l.length + 1)) : eqv (Go.Cw.Rows.p (List.map f (e :: l))) fun rr => eqv (rowsLen rr) (K rr) :=
  ⟨_, rfl, _, by simp [rowsLen], h⟩

theorem row_at {α : Type} {f : α → List PV} {r : α} {l : List α} {k n : Nat} {C : List PV → Prop} (hn : n = l.length + 1) (hk : k < n) (h : ∀ x : α, (r :: l)[k]? = some x → C (f x)) : ∃ q, (f r :: List.map f l)[0 + k]? = some q ∧ C q := by
  obtain ⟨x, hx⟩ := getE (show k < (r :: l).length by simp; omega)
  refine ⟨f x, ?_, h x hx⟩
  rw [Nat.zero_add]
  show (List.map f (r :: l))[k]? = _
  rw [List.getElem?_map, hx]; rfl
def strRows : List (List PV) → Bool
  | [] => true
  | [.val (.string _)] :: l => strRows l
  | _ => false
theorem lits_ex : ∀ {L : List (List PV)} {k : Nat}, strRows L = true → k < L.length → ∃ x, L[k]? = some [es x]
  | [], k, _, h => by simp at h
  | r :: l, 0, h, _ => by
    unfold strRows at h
    split at h
    · rename_i heq; cases heq
    · rename_i heq; cases heq; exact ⟨_, rfl⟩
    · cases h
  | r :: l, k + 1, h, hk => by
    unfold strRows at h
    split at h
    · rename_i heq; cases heq
    · rename_i heq; cases heq
      obtain ⟨x, hx⟩ := lits_ex (L := l) (k := k) h (by simpa using hk)
      exact ⟨x, by simpa using hx⟩
    · cases h
theorem lits_load {L : List (List PV)} {k n : Nat} {C : List PV → Prop} (hn : n = L.length) (hk : k < n) (hL : strRows L = true) (h : ∀ x : Str, C [es x]) : ∃ r, L[0 + k]? = some r ∧ C r := by
  obtain ⟨x, hx⟩ := lits_ex hL (by omega : k < L.length)
  exact ⟨_, by rw [Nat.zero_add]; exact hx, h x⟩
theorem call_oddtime {t : List Int} {k : Nat} {H : Heap} {K : AV → Heap → Prop} (i : Nat) (x : Time) (hi : H[i]? = some (dice t k)) (ht : t.length ≤ 400) (hk : k ≤ t.length)
    (hK : ∀ y k2, k2 ≤ t.length → K (ag (Time.row y)) (H.set i (dice t k2))) : vcFun Tryz.prog 121 [.ptr i 2 0 0, ag x.row] H K := by
  refine call_one (i := i) hi (fun _ _ => rfl) [.ptr 0 2 0 0, ag x.row] rfl (c_oddtime t k ht hk x) ?_
  rintro r H' ⟨y, k', h1, rfl, rfl⟩
  exact ⟨_, rfl, fun _ _ => rfl, fun _ _ => rfl, hK y k' h1⟩

theorem set_at {α : Type} {f : α → List PV} {r : α} {l : List α} {k : Nat} (x : α) {q : List PV} {K : List (List PV) → Prop} (hq : q = f x) (h : K (List.map f ((r :: l).set k x))) : eqv ((f r :: List.map f l).set (0 + k) q) K :=
  ⟨_, by rw [hq, Nat.zero_add, List.map_set]; rfl, h⟩

theorem set_atm {α : Type} {f : α → List PV} {r : α} {l : List α} {k : Nat} {q : List AV} {K : List (List AV) → Prop} (h : K (((List.map f (r :: l)).map pvs).set k q)) : eqv ((List.map pvs (f r :: List.map f l)).set (0 + k) q) K :=
  ⟨_, by rw [Nat.zero_add]; rfl, h⟩
theorem rooms_whole {m : List Room} {n : Nat} (h : m.length = n) : ALe (.pv (.sl 5 (List.take n (List.drop 0 (List.map Room.row m))))) (.pv (encRooms m)) := by
  rw [List.drop_zero, List.take_of_length_le (by simp [h])]
  exact ALe.refl

theorem rooms_set {m : List Room} {n k : Nat} {q : List PV} (x : Room) (hq : q = x.row) (h : m.length = n) : ALe (.pv (.sl 5 (List.take n (List.drop 0 ((List.map Room.row m).set k q))))) (.pv (encRooms (m.set k x))) := by
  have : (List.map Room.row m).set k q = List.map Room.row (m.set k x) := by rw [hq, List.map_set]
  rw [this]
  exact rooms_whole (by rw [List.length_set, h])

theorem c_oddrooms0 (t : List Int) (k : Nat) (ht : t.length ≤ 400) (hk : k ≤ t.length) (l : List Room) (hl : l.length ≤ 1000) :
    ACall Tryz.prog 76 [.ptr 0 2 0 0, .pv (encRooms l)] [dice t k] (fun r H' => ∃ (m : List Room) (k' : Nat), k' ≤ t.length ∧ ALe r (.pv (encRooms m)) ∧ H' = [dice t k']) := by
  refine acall_of tok mixed 92 rfl (fn := Tryz.f76) (c := Tryz.f76.body.getD .skip) (by kernel_rfl) (by kernel_rfl) (by kernel_rfl) rfl 1 rfl ?_
  rcases l with _ | ⟨r, l⟩
  · repeat' (first | refine o1 ?_ | refine o2 ?_ | refine k1 ?_ | refine k2 ?_ | refine k3 ?_ | refine k7 ?_ | refine And.intro ?_ ?_ | (intro h; first | exact Bool.noConfusion h | exact nz _ h | exact nl h | (simp at h; done) | (simp at h; first | (exfalso; omega) | skip) | skip) | (refine (?_ : srcLen _ = rowsLen _); rfl) | exact Nat.le_of_ble_eq_true rfl | (change vcFun _ _ _ _ _; refine call_next 0 rfl (by assumption) (by assumption) (by omega) (by omega) ?_; intro v kq hv1 hv2 hkq) | fail)
    all_goals first
      | (exfalso; omega)
      | skip
    exact ret_conv [0] [dice t kq] rfl rfl ⟨rfl, trivial⟩ rfl (by repeat' (first | (show 0 + _ ≤ List.length _; simp))) rfl ⟨[⟨⟨#[82, 49]⟩, ⟨#[120]⟩, v, [], []⟩], kq, hkq, ALe.pv (PLe.sl ⟨⟨PLe.refl, PLe.refl, PLe.refl, PLe.nil, PLe.nil, trivial⟩, trivial⟩), rfl⟩
  · simp only [List.length_cons] at hl
    repeat' (first | (refine app_whole ?_) | (refine lit_idx (by assumption) (by assumption) (fun kx hkx => ?_)) | (refine lit_load rfl (by assumption) rfl (fun y => ?_)) | (refine lits_load rfl (by assumption) rfl (fun y => ?_)) | (refine row_at rfl (by assumption) (fun xr hxr => ?_)) | ((change vcFun _ _ _ _ _; refine call_oddtime 0 ⟨1, 0, 0, 1⟩ rfl (by assumption) (by assumption) ?_; intro yt kq hkq)) | (refine set_at (f := Room.row) ⟨y, xr.bld, xr.seats, xr.feats, xr.closed⟩ rfl ?_) | (refine set_at (f := Room.row) ⟨xr.code, ByteArray.mk #[], xr.seats, xr.feats, xr.closed⟩ rfl ?_) | (refine set_at (f := Room.row) ⟨xr.code, xr.bld, y, xr.feats, xr.closed⟩ rfl ?_) | (refine set_atm ?_) | (refine app_consm (f := Room.row) xr rfl ?_) | (refine join_to (a := .seq (.region 5 _ _) _) (fun x : Nat × List Room => [(5, .pv (encRooms x.2))]) (fun x => [dice t x.1]) (fun x => x.1 ≤ t.length) ?_) | refine o1 ?_ | refine o2 ?_ | refine k1 ?_ | refine k2 ?_ | refine k3 ?_ | refine k4 ?_ | refine k6 ?_ | refine And.intro ?_ ?_ | (intro h; first | exact Bool.noConfusion h | exact nz _ h | exact nl h | (simp at h; done) | (simp at h; first | (exfalso; omega) | skip) | skip) | (refine (?_ : srcLen _ = rowsLen _); rfl) | exact Nat.le_of_ble_eq_true rfl | (refine (?_ : _ ≤ 140737488355328); simp [rowsLen] <;> omega) | (refine (?_ : _ ≤ 9223372036854775807); simp [rowsLen] <;> omega) | (refine (?_ : _ = rowsLen _); simp [rowsLen] <;> omega) | (change vcFun _ _ _ _ _; refine call_next 0 rfl (by assumption) (by assumption) (by omega) (by omega) ?_; intro v kq hv1 hv2 hkq) | fail)
    all_goals first
      | (exfalso; omega)
      | exact ⟨(kq, _), hkq, Ghost.trans (Ghost.freeze (s := 5) rfl rfl (by repeat' (first | refine And.intro ?_ ?_ | (show 0 + _ ≤ List.length _; simp)))) (Ghost.trans (Ghost.weak (s := 5) rfl (rooms_whole (by rw [List.length_set]; rfl))) (back [0] rfl rfl ⟨rfl, trivial⟩ (by repeat' (first | exact trivial | exact rfl | refine And.intro ?_ ?_))))⟩
      | exact ⟨(kq, r :: (l ++ [xr])), hkq, Ghost.trans (Ghost.freeze (s := 5) rfl rfl (by repeat' (first | refine And.intro ?_ ?_ | (show 0 + _ ≤ List.length _; simp)))) (Ghost.trans (Ghost.weak (s := 5) rfl (rooms_whole (m := r :: (l ++ [xr])) (by simp))) (back [0] rfl rfl ⟨rfl, trivial⟩ (by repeat' (first | exact trivial | exact rfl | refine And.intro ?_ ?_))))⟩
      | (refine ⟨(kq, (r :: l).set kx ⟨xr.code, xr.bld, xr.seats, [⟨#[98]⟩, ⟨#[97]⟩], xr.closed⟩), hkq, Ghost.trans (Ghost.shutK (i := 1) (k := kx) (c := 3) (r := xr.row) (xs := List.map Room.row (r :: l)) (x := .ms 2 1 0 2) rfl ?_ rfl (Nat.le_of_ble_eq_true rfl) rfl (by repeat' (first | (show 0 + _ ≤ List.length _; simp))) ?_ ALe.refl) (Ghost.trans (Ghost.freeze (s := 5) rfl rfl (by repeat' (first | (show 0 + _ ≤ List.length _; simp)))) (Ghost.trans (Ghost.weak (s := 5) rfl (rooms_set ⟨xr.code, xr.bld, xr.seats, [⟨#[98]⟩, ⟨#[97]⟩], xr.closed⟩ rfl rfl)) (back [0] rfl rfl ⟨rfl, trivial⟩ (by repeat' (first | exact trivial | exact rfl | refine And.intro ?_ ?_)))))⟩
         · rw [List.getElem?_map, hxr]; rfl
         · show ¬ (1 ∈ ([2] : List Nat))
           decide)
      | (refine ⟨(kq, (r :: l).set kx ⟨xr.code, xr.bld, xr.seats, xr.feats, [yt]⟩), hkq, Ghost.trans (Ghost.shutK (i := 1) (k := kx) (c := 4) (r := xr.row) (xs := List.map Room.row (r :: l)) (x := .ms 2 4 0 1) rfl ?_ rfl (Nat.le_of_ble_eq_true rfl) rfl (by repeat' (first | (show 0 + _ ≤ List.length _; simp))) ?_ ALe.refl) (Ghost.trans (Ghost.freeze (s := 5) rfl rfl (by repeat' (first | (show 0 + _ ≤ List.length _; simp)))) (Ghost.trans (Ghost.weak (s := 5) rfl (rooms_set ⟨xr.code, xr.bld, xr.seats, xr.feats, [yt]⟩ rfl rfl)) (back [0] rfl rfl ⟨rfl, trivial⟩ (by repeat' (first | exact trivial | exact rfl | refine And.intro ?_ ?_)))))⟩
         · rw [List.getElem?_map, hxr]; rfl
         · show ¬ (1 ∈ ([2] : List Nat))
           decide)
      | skip
    · refine loop_to (fun x : Nat × List (List PV) => [(5, .ms 1 5 0 (x.2.length + 1)), (7, vint .i64 x.1)]) (fun x => [dice t kq, some ⟨72, 5, false, .p (r.row :: x.2)⟩])
        (fun x => x.1 ≤ 17 ∧ x.2.length ≤ 1000 + x.1 ∧ ∀ q ∈ x.2, roomR q) (fun x => 17 - x.1) (0, l.map Room.row) ⟨by simp, by simp; omega, fun q hq => by
          obtain ⟨x, _, rfl⟩ := List.mem_map.1 hq
          exact ⟨x, PLeL.refl⟩⟩ ?_ ?_
      · exact back [0, 1] rfl rfl ⟨rfl, rfl, trivial⟩ ⟨slot_eq rfl (congrArg (fun z => AV.ms 1 5 0 (z + 1)) (List.length_map ..).symm), rfl, by repeat' (first | exact trivial)⟩
      rintro ⟨i, rs⟩ ⟨c1, c2, c3⟩
      dsimp only at c1 c2 c3 ⊢
      rcases Nat.lt_or_ge i 17 with hi | hi
      · repeat' (first | (refine bytes_one (by omega) (by omega) rfl (fun s hs => ?_)) | ((show Nat.le (ByteArray.size _ + ByteArray.size _) _; rw [hs]; exact Nat.le_of_ble_eq_true rfl)) | (refine app_cons ?_) | refine o1 ?_ | refine o2 ?_ | refine k1 ?_ | refine k2 ?_ | refine k3 ?_ | refine k4 ?_ | refine k6 ?_ | refine And.intro ?_ ?_ | (intro h; first | exact Bool.noConfusion h | exact nz _ h | exact nl h | (simp at h; done) | (simp at h; first | (exfalso; omega) | skip) | skip) | (refine (?_ : srcLen _ = rowsLen _); rfl) | refine eqv_wrap (by omega) (by omega) ?_ | refine eqv_u8 (by omega) (by omega) ?_ | (refine (?_ : _ ≤ 140737488355328); simp [rowsLen] <;> omega) | (refine (?_ : _ ≤ 9223372036854775807); simp [rowsLen] <;> omega) | (refine (?_ : _ = rowsLen _); simp [rowsLen] <;> omega) | fail)
        exact ⟨(i + 1, rs ++ [_]), ⟨by show i + 1 ≤ 17; omega, by show List.length _ ≤ 1000 + (i + 1); simp; omega, fun q hq => by
          rcases mem_app hq with hq | hq
          · exact c3 q hq
          · subst hq; exact ⟨⟨_, ⟨#[120]⟩, 1, [], []⟩, PLe.refl, PLe.refl, PLe.refl, PLe.nil, PLe.nil, trivial⟩⟩, (by show 17 - (i + 1) < 17 - i; omega), back [0, 4] rfl rfl ⟨rfl, rfl, trivial⟩ (by repeat' (first | exact trivial | exact rfl | refine And.intro ?_ ?_))⟩
      · repeat' (first | refine o1 ?_ | refine o2 ?_ | refine k1 ?_ | refine k2 ?_ | refine k3 ?_ | refine k8 ?_ | refine And.intro ?_ ?_ | (intro h; first | exact Bool.noConfusion h | exact nz _ h | exact nl h | (simp at h; done) | (simp at h; first | (exfalso; omega) | skip) | skip) | fail)
        obtain ⟨m, hm, _⟩ := rooms_ex (rs := r.row :: rs) fun q hq => by
          rcases List.mem_cons.1 hq with rfl | hq
          · exact ⟨r, PLeL.refl⟩
          · exact c3 q hq
        refine ⟨(kq, m), hkq, Ghost.trans (Ghost.freeze (s := 5) rfl rfl (by repeat' (first | (show 0 + _ ≤ List.length _; simp)))) (Ghost.trans (Ghost.weak (s := 5) (y := .pv (encRooms m)) rfl (ALe.pv (PLe.sl ?_))) (back [0] rfl rfl ⟨rfl, trivial⟩ (by repeat' (first | exact trivial | exact rfl | refine And.intro ?_ ?_))))⟩
        rw [List.drop_zero, List.take_of_length_le (by simp)]
        exact hm
    refine ⟨?_⟩
    rintro ⟨k, m⟩ c1
    dsimp only at c1 ⊢
    repeat' (first | refine o1 ?_ | refine o2 ?_ | refine k1 ?_ | refine k2 ?_ | refine k7 ?_ | fail)
    exact ret_same [0] [dice t k] rfl rfl ⟨rfl, trivial⟩ rfl ⟨m, k, c1, ALe.refl, rfl⟩

theorem c_oddrooms (t : List Int) (k : Nat) (ht : t.length ≤ 400) (hk : k ≤ t.length) (l : List Room) (hl : l.length ≤ 1000) :
    ACall Tryz.prog 76 [.ptr 0 2 0 0, .pv (encRooms l)] [dice t k] (fun r H' => ∃ (m : List Room) (k' : Nat), k' ≤ t.length ∧ r = .pv (encRooms m) ∧ H' = [dice t k']) :=
  (c_oddrooms0 t k ht hk l hl).weak fun r H' ⟨m, k', h1, h2, h3⟩ => ⟨.pv (encRooms m), h2, m, k', h1, rfl, h3⟩
end Go.Proofs.YtpnghlibmpainaaGreat.Cw

/-
  Odd examinations.
-/
namespace Go.Proofs.YtpnghlibmpainaaGreat.Cw
open Go.Cw Go.Proofs
set_option linter.unusedVariables false
set_option maxRecDepth 100000
set_option maxHeartbeats 1600000

theorem call_oddrooms {t : List Int} {k : Nat} {H : Heap} {K : AV → Heap → Prop} (i : Nat) (l : List Room) (hi : H[i]? = some (dice t k)) (ht : t.length ≤ 400) (hk : k ≤ t.length) (hl : l.length ≤ 1000)
    (hK : ∀ m k2, k2 ≤ t.length → K (.pv (encRooms m)) (H.set i (dice t k2))) : vcFun Tryz.prog 76 [.ptr i 2 0 0, .pv (encRooms l)] H K := by
  refine call_one (i := i) hi (fun _ _ => rfl) [.ptr 0 2 0 0, .pv (encRooms l)] rfl (c_oddrooms t k ht hk l hl) ?_
  rintro r H' ⟨m, k', h1, rfl, rfl⟩
  exact ⟨_, rfl, fun _ _ => rfl, fun _ _ => rfl, hK m k' h1⟩
theorem app_wholem {α : Type} {f : α → List PV} {e : α} {l : List α} {K : Go.Cw.Rows → Nat → Prop} (h : K (.p (f e :: l.map f)) ((l.map f).length + 1)) : eqv (Go.Cw.Rows.p (List.map f (e :: l))) fun rr => eqv (rowsLen rr) (K rr) :=
  ⟨_, rfl, _, by simp [rowsLen], h⟩
theorem sits_le {m : List Sitting} {n : Nat} (h : m.length = n) : ALe (.pv (.sl 4 (List.take n (List.drop 0 (List.map Sitting.row m))))) (.pv (.sl 4 (m.map Sitting.row))) := by
  rw [List.drop_zero, List.take_of_length_le (by simp [h])]
  exact ALe.refl
theorem lit4_load {α : Type} {a b c d : α} {k n : Nat} {C : α → Prop} (hn : n = 4) (hk : k < n) (ha : C a) (hb : C b) (hc : C c) (hd : C d) : ∃ r, [a, b, c, d][0 + k]? = some r ∧ C r := by
  subst hn
  match k, hk with
  | 0, _ => exact ⟨a, rfl, ha⟩
  | 1, _ => exact ⟨b, rfl, hb⟩
  | 2, _ => exact ⟨c, rfl, hc⟩
  | 3, _ => exact ⟨d, rfl, hd⟩
def xb (r e s : AV) (g : Gaps) : Option AObj := some ⟨33, 8, false, .box [r, e, s, vint .i64 g.row, vint .i64 g.day, vint .i64 g.near, vint .i64 g.days, vint .i64 g.mixed]⟩
def eb (c l f s : AV) : Option AObj := some ⟨69, 4, false, .box [c, l, f, s]⟩
def e0b : Option AObj := eb (.pv (es ⟨#[90]⟩)) (vint .i64 1) (.pv (encStrs [])) (.pv (encStrs [⟨#[115]⟩]))

theorem c_oddexamsN (t : List Int) (k : Nat) (ht : t.length ≤ 400) (hk : k ≤ t.length) (rs : List Room) (ss : List Sitting) (g : Gaps) (hr : rs.length ≤ 5) (hs : ss.length ≤ 5) :
    ACall Tryz.prog 37 [.ptr 0 2 0 0, ag (Exams.cells ⟨rs, [], ss, g⟩)] [dice t k] (fun r H' => ∃ (y : Exams) (k' : Nat), k' ≤ t.length ∧ (y.exams.length ≤ 6 ∧ y.sits.length ≤ 6) ∧ r = ag y.cells ∧ H' = [dice t k']) := by
  dsimp only [Exams.cells]
  refine acall_of tok mixed 114 rfl (fn := Tryz.f37) (c := Tryz.f37.body.getD .skip) (by kernel_rfl) (by kernel_rfl) (by kernel_rfl) rfl 1 rfl ?_
  rcases ss with _ | ⟨s0, ss⟩
  · repeat' (first | (refine join_to (a := .region 3 _ _) (fun _ : Unit => [(0, .ptr 0 2 0 0), (3, .ptr 1 8 0 0), (4, .ptr 2 8 0 0), (5, .ptr 5 4 0 0)]) (fun _ => [dice t k, xb (.pv (encRooms rs)) (slP 3 4 (List.map Exam.row ([]))) (slP 4 4 (List.map Sitting.row ([]))) g, zeroX, obP 69 4 (List.map Exam.row ([])), obP 23 4 (List.map Sitting.row ([])), e0b]) (fun _ => True) ?_) | refine o1 ?_ | refine o2 ?_ | refine k1 ?_ | refine k2 ?_ | refine And.intro ?_ ?_ | (intro h; first | exact Bool.noConfusion h | exact nz _ h | exact nl h | (simp at h; done) | (simp at h; first | (exfalso; omega) | skip) | skip) | (refine (?_ : srcLen _ = rowsLen _); rfl) | exact Nat.le_of_ble_eq_true rfl | exact (by kernel_rfl : drawOk _ _ = true) | fail)
    · exact ⟨(), trivial, Ghost.trans (Ghost.shut (i := 6) (c := 3) (x := .ms 5 1 0 1) rfl rfl rfl (by repeat' (first | (show 0 + _ ≤ List.length _; simp))) (show ¬ (6 ∈ ([5] : List Nat)) by decide) ALe.refl) (Ghost.trans (Ghost.shut (i := 6) (c := 2) (x := .pv (.val (.slice none 0 0))) rfl rfl rfl (by repeat' (first | trivial)) (show ¬ (6 ∈ ([] : List Nat)) by decide) (ALe.pv PLe.nil)) (back [0, 1, 2, 3, 4, 6] rfl rfl ⟨rfl, rfl, rfl, rfl, trivial⟩ (by repeat' (first | exact trivial | exact rfl | refine And.intro ?_ ?_))))⟩
    refine ⟨?_⟩
    rintro _ _
    dsimp only [xb, eb, e0b, slP, obP, zeroX, nilA, z0, List.map, List.length_cons, List.length_map]
    repeat' (first | (refine lit_idx (by assumption) (by assumption) (fun kx hkx => ?_)) | (refine lit_load rfl (by assumption) rfl (fun y => ?_)) | (refine lits_load rfl (by assumption) rfl (fun y => ?_)) | (refine lit4_load rfl (by assumption) ?_ ?_ ?_ ?_) | ((change vcFun _ _ _ _ _; refine call_oddrooms 0 rs rfl (by assumption) (by assumption) (by omega) ?_; intro rs2 kq hkq)) | (refine join_to (a := .seq (.region 4 _ _) _) (fun x : Nat × List Room × List Sitting × Gaps × Exam => [(0, .ptr 0 2 0 0), (3, .ptr 1 8 0 0), (4, .ptr 2 8 0 0), (5, .ptr 5 4 0 0)]) (fun x => [dice t x.1, xb (.pv (encRooms x.2.1)) (slP 3 4 (List.map Exam.row ([]))) (.pv (.sl 4 (x.2.2.1.map Sitting.row))) x.2.2.2.1, zeroX, obP 69 4 (List.map Exam.row ([])), none, eb (.pv (es x.2.2.2.2.code)) (vint .i64 x.2.2.2.2.len) (.pv (encStrs x.2.2.2.2.feats)) (.pv (encStrs x.2.2.2.2.studs))]) (fun x => x.1 ≤ t.length ∧ x.2.2.1.length ≤ 6) ?_) | refine o1 ?_ | refine o2 ?_ | refine k1 ?_ | refine k2 ?_ | refine k3 ?_ | refine k4 ?_ | refine k6 ?_ | refine And.intro ?_ ?_ | refine o3 ?_ | refine o4 ?_ | (intro h; first | exact Bool.noConfusion h | exact nz _ h | exact nl h | (simp at h; done) | (simp at h; first | (exfalso; omega) | skip) | skip) | (refine (?_ : srcLen _ = rowsLen _); rfl) | exact Nat.le_of_ble_eq_true rfl | exact (by kernel_rfl : drawOk _ _ = true) | refine eqv_to _ (app_first rfl) (eqv_to 1 rfl ?_) | (change vcFun _ _ _ _ _; refine call_next 0 rfl (by assumption) (by assumption) (by omega) (by omega) ?_; intro v kq hv1 hv2 hkq) | (change vcFunD _ _ _ _ _; refine callD_next 0 rfl (by assumption) (by assumption) (by omega) (by omega) ?_; intro v kq hv1 hv2 hkq) | fail)
    · exact ⟨(kq, rs2, [], g, ⟨⟨#[90]⟩, 1, [], [⟨#[115]⟩]⟩), ⟨hkq, (by show List.length _ ≤ 6; simp; try omega)⟩, Ghost.trans (Ghost.shut (i := 1) (c := 2) (x := .pv (.val (.slice none 0 0))) rfl rfl rfl (by repeat' (first | trivial)) (show ¬ (1 ∈ ([] : List Nat)) by decide) (ALe.pv PLe.nil)) (back [0, 1, 2, 3, 4, 5] rfl rfl ⟨rfl, rfl, rfl, rfl, trivial⟩ (by repeat' (first | exact trivial | exact rfl | refine And.intro ?_ ?_)))⟩
    · exact ⟨(kq, rs, [], g, ⟨y, 1, [], [⟨#[115]⟩]⟩), ⟨hkq, (by show List.length _ ≤ 6; simp; try omega)⟩, Ghost.trans (Ghost.shut (i := 1) (c := 2) (x := .pv (.val (.slice none 0 0))) rfl rfl rfl (by repeat' (first | trivial)) (show ¬ (1 ∈ ([] : List Nat)) by decide) (ALe.pv PLe.nil)) (back [0, 1, 2, 3, 4, 5] rfl rfl ⟨rfl, rfl, rfl, rfl, trivial⟩ (by repeat' (first | exact trivial | exact rfl | refine And.intro ?_ ?_)))⟩
    · exact ⟨(kq, rs, [], g, ⟨⟨#[90]⟩, y, [], [⟨#[115]⟩]⟩), ⟨hkq, (by show List.length _ ≤ 6; simp; try omega)⟩, Ghost.trans (Ghost.shut (i := 1) (c := 2) (x := .pv (.val (.slice none 0 0))) rfl rfl rfl (by repeat' (first | trivial)) (show ¬ (1 ∈ ([] : List Nat)) by decide) (ALe.pv PLe.nil)) (back [0, 1, 2, 3, 4, 5] rfl rfl ⟨rfl, rfl, rfl, rfl, trivial⟩ (by repeat' (first | exact trivial | exact rfl | refine And.intro ?_ ?_)))⟩
    · exact ⟨(kq, rs, [], g, ⟨⟨#[90]⟩, 1, [], []⟩), ⟨hkq, (by show List.length _ ≤ 6; simp; try omega)⟩, Ghost.trans (Ghost.shut (i := 5) (c := 3) (x := .pv (.val (.slice none 0 0))) rfl rfl rfl (by repeat' (first | trivial)) (show ¬ (5 ∈ ([] : List Nat)) by decide) (ALe.pv PLe.nil)) (Ghost.trans (Ghost.shut (i := 1) (c := 2) (x := .pv (.val (.slice none 0 0))) rfl rfl rfl (by repeat' (first | trivial)) (show ¬ (1 ∈ ([] : List Nat)) by decide) (ALe.pv PLe.nil)) (back [0, 1, 2, 3, 4, 5] rfl rfl ⟨rfl, rfl, rfl, rfl, trivial⟩ (by repeat' (first | exact trivial | exact rfl | refine And.intro ?_ ?_))))⟩
    · exact ⟨(kq, rs, [], g, ⟨⟨#[90]⟩, 1, [], [⟨#[98]⟩, ⟨#[97]⟩]⟩), ⟨hkq, (by show List.length _ ≤ 6; simp; try omega)⟩, Ghost.trans (Ghost.shut (i := 5) (c := 3) (x := .ms 6 1 0 2) rfl rfl rfl (by repeat' (first | (show 0 + _ ≤ List.length _; simp))) (show ¬ (5 ∈ ([6] : List Nat)) by decide) (ALe.refl)) (Ghost.trans (Ghost.shut (i := 1) (c := 2) (x := .pv (.val (.slice none 0 0))) rfl rfl rfl (by repeat' (first | trivial)) (show ¬ (1 ∈ ([] : List Nat)) by decide) (ALe.pv PLe.nil)) (back [0, 1, 2, 3, 4, 5] rfl rfl ⟨rfl, rfl, rfl, rfl, trivial⟩ (by repeat' (first | exact trivial | exact rfl | refine And.intro ?_ ?_))))⟩
    · exact ⟨(kq, rs, [], g, ⟨⟨#[90]⟩, 1, [], [⟨#[97]⟩, ⟨#[97]⟩]⟩), ⟨hkq, (by show List.length _ ≤ 6; simp; try omega)⟩, Ghost.trans (Ghost.shut (i := 5) (c := 3) (x := .ms 7 1 0 2) rfl rfl rfl (by repeat' (first | (show 0 + _ ≤ List.length _; simp))) (show ¬ (5 ∈ ([7] : List Nat)) by decide) (ALe.refl)) (Ghost.trans (Ghost.shut (i := 1) (c := 2) (x := .pv (.val (.slice none 0 0))) rfl rfl rfl (by repeat' (first | trivial)) (show ¬ (1 ∈ ([] : List Nat)) by decide) (ALe.pv PLe.nil)) (back [0, 1, 2, 3, 4, 5] rfl rfl ⟨rfl, rfl, rfl, rfl, trivial⟩ (by repeat' (first | exact trivial | exact rfl | refine And.intro ?_ ?_))))⟩
    · exact ⟨(kq, rs, [], g, ⟨⟨#[90]⟩, 1, [], [⟨#[]⟩]⟩), ⟨hkq, (by show List.length _ ≤ 6; simp; try omega)⟩, Ghost.trans (Ghost.shut (i := 5) (c := 3) (x := .ms 8 1 0 1) rfl rfl rfl (by repeat' (first | (show 0 + _ ≤ List.length _; simp))) (show ¬ (5 ∈ ([8] : List Nat)) by decide) (ALe.refl)) (Ghost.trans (Ghost.shut (i := 1) (c := 2) (x := .pv (.val (.slice none 0 0))) rfl rfl rfl (by repeat' (first | trivial)) (show ¬ (1 ∈ ([] : List Nat)) by decide) (ALe.pv PLe.nil)) (back [0, 1, 2, 3, 4, 5] rfl rfl ⟨rfl, rfl, rfl, rfl, trivial⟩ (by repeat' (first | exact trivial | exact rfl | refine And.intro ?_ ?_))))⟩
    · exact ⟨(kq, rs, [], g, ⟨⟨#[90]⟩, 1, [⟨#[120]⟩, ⟨#[120]⟩], [⟨#[115]⟩]⟩), ⟨hkq, (by show List.length _ ≤ 6; simp; try omega)⟩, Ghost.trans (Ghost.shut (i := 5) (c := 2) (x := .ms 6 1 0 2) rfl rfl rfl (by repeat' (first | (show 0 + _ ≤ List.length _; simp))) (show ¬ (5 ∈ ([6] : List Nat)) by decide) (ALe.refl)) (Ghost.trans (Ghost.shut (i := 1) (c := 2) (x := .pv (.val (.slice none 0 0))) rfl rfl rfl (by repeat' (first | trivial)) (show ¬ (1 ∈ ([] : List Nat)) by decide) (ALe.pv PLe.nil)) (back [0, 1, 2, 3, 4, 5] rfl rfl ⟨rfl, rfl, rfl, rfl, trivial⟩ (by repeat' (first | exact trivial | exact rfl | refine And.intro ?_ ?_))))⟩
    · exact ⟨(kq, rs, [⟨_, _, _, 0⟩], g, ⟨⟨#[90]⟩, 1, [], [⟨#[115]⟩]⟩), ⟨hkq, (by show List.length _ ≤ 6; simp; try omega)⟩, Ghost.trans (Ghost.shut (i := 1) (c := 2) (x := .ms 9 4 0 1) rfl rfl rfl (by repeat' (first | trivial)) (show ¬ (1 ∈ ([9] : List Nat)) by decide) (ALe.refl)) (back [0, 1, 2, 3, 4, 5] rfl rfl ⟨rfl, rfl, rfl, rfl, trivial⟩ (by repeat' (first | exact trivial | exact rfl | refine And.intro ?_ ?_)))⟩
    · exact ⟨(kq, rs, [], g, ⟨⟨#[90]⟩, 1, [], [⟨#[115]⟩]⟩), ⟨hkq, (by show List.length _ ≤ 6; simp; try omega)⟩, Ghost.trans (Ghost.shut (i := 1) (c := 2) (x := .pv (.val (.slice none 0 0))) rfl rfl rfl (by repeat' (first | trivial)) (show ¬ (1 ∈ ([] : List Nat)) by decide) (ALe.pv PLe.nil)) (back [0, 1, 2, 3, 4, 5] rfl rfl ⟨rfl, rfl, rfl, rfl, trivial⟩ (by repeat' (first | exact trivial | exact rfl | refine And.intro ?_ ?_)))⟩
    · exact ⟨(kq, rs, [], ⟨g.row, g.day, g.near, y, g.mixed⟩, ⟨⟨#[90]⟩, 1, [], [⟨#[115]⟩]⟩), ⟨hkq, (by show List.length _ ≤ 6; simp; try omega)⟩, Ghost.trans (Ghost.shut (i := 1) (c := 2) (x := .pv (.val (.slice none 0 0))) rfl rfl rfl (by repeat' (first | trivial)) (show ¬ (1 ∈ ([] : List Nat)) by decide) (ALe.pv PLe.nil)) (back [0, 1, 2, 3, 4, 5] rfl rfl ⟨rfl, rfl, rfl, rfl, trivial⟩ (by repeat' (first | exact trivial | exact rfl | refine And.intro ?_ ?_)))⟩
    · exact ⟨(kq, rs, [], ⟨y, g.day, g.near, g.days, g.mixed⟩, ⟨⟨#[90]⟩, 1, [], [⟨#[115]⟩]⟩), ⟨hkq, (by show List.length _ ≤ 6; simp; try omega)⟩, Ghost.trans (Ghost.shut (i := 1) (c := 2) (x := .pv (.val (.slice none 0 0))) rfl rfl rfl (by repeat' (first | trivial)) (show ¬ (1 ∈ ([] : List Nat)) by decide) (ALe.pv PLe.nil)) (back [0, 1, 2, 3, 4, 5] rfl rfl ⟨rfl, rfl, rfl, rfl, trivial⟩ (by repeat' (first | exact trivial | exact rfl | refine And.intro ?_ ?_)))⟩
    refine ⟨?_⟩
    rintro ⟨k, rs3, ss3, g3, e3⟩ ⟨c1, c2⟩
    dsimp only [xb, eb, e0b, slP, obP, zeroX, nilA, z0, List.map, List.length_cons, List.length_map] at c1 c2 ⊢
    repeat' (first | (refine join_to (a := .region 23 _ _) (fun _ : Unit => [(3, .ptr 1 8 0 0), (4, .ptr 2 8 0 0)]) (fun _ => [dice t k, xb (.pv (encRooms rs3)) (.pv (.sl 4 (List.map Exam.row ([e3])))) (.pv (.sl 4 (ss3.map Sitting.row))) g3, zeroX]) (fun _ => True) ?_) | refine o1 ?_ | refine o2 ?_ | refine k2 ?_ | refine And.intro ?_ ?_ | (intro h; first | exact Bool.noConfusion h | exact nz _ h | exact nl h | (simp at h; done) | (simp at h; first | (exfalso; omega) | skip) | skip) | (refine (?_ : srcLen _ = rowsLen _); rfl) | exact Nat.le_of_ble_eq_true rfl | refine eqv_to _ (app_first rfl) (eqv_to 1 rfl ?_) | fail)
    · exact ⟨(), trivial, Ghost.trans (Ghost.shut (i := 1) (c := 1) (x := .ms 7 4 0 1) rfl rfl rfl (by repeat' (first | trivial)) (show ¬ (1 ∈ ([7] : List Nat)) by decide) (ALe.refl)) (back [0, 1, 2] rfl rfl ⟨rfl, rfl, rfl, trivial⟩ (by repeat' (first | exact trivial | exact rfl | refine And.intro ?_ ?_)))⟩
    refine ⟨?_⟩
    rintro _ _
    dsimp only [xb, zeroX, nilA, z0]
    repeat' (first | refine o1 ?_ | refine o2 ?_ | refine k1 ?_ | refine k2 ?_ | refine k7 ?_ | fail)
    exact ret_obj [0] [dice t k] rfl rfl ⟨rfl, trivial⟩ (r' := ag (Exams.cells ⟨rs3, [e3], ss3, g3⟩)) rfl ⟨⟨rs3, [e3], ss3, g3⟩, k, c1, ⟨by simp <;> omega, c2⟩, rfl, rfl⟩
  · simp only [List.length_cons] at hs
    repeat' (first | (refine app_wholem ?_) | (refine join_to (a := .region 3 _ _) (fun _ : Unit => [(0, .ptr 0 2 0 0), (3, .ptr 1 8 0 0), (4, .ptr 2 8 0 0), (5, .ptr 5 4 0 0)]) (fun _ => [dice t k, xb (.pv (encRooms rs)) (slP 3 4 (List.map Exam.row ([]))) (slP 4 4 (List.map Sitting.row (s0 :: ss))) g, zeroX, obP 69 4 (List.map Exam.row ([])), obP 23 4 (List.map Sitting.row (s0 :: ss)), e0b]) (fun _ => True) ?_) | refine o1 ?_ | refine o2 ?_ | refine k1 ?_ | refine k2 ?_ | refine And.intro ?_ ?_ | (intro h; first | exact Bool.noConfusion h | exact nz _ h | exact nl h | (simp at h; done) | (simp at h; first | (exfalso; omega) | skip) | skip) | (refine (?_ : srcLen _ = rowsLen _); rfl) | exact Nat.le_of_ble_eq_true rfl | exact (by kernel_rfl : drawOk _ _ = true) | (refine (?_ : _ ≤ 140737488355328); simp [rowsLen] <;> omega) | (refine (?_ : _ ≤ 9223372036854775807); simp [rowsLen] <;> omega) | fail)
    · exact ⟨(), trivial, Ghost.trans (Ghost.shut (i := 6) (c := 3) (x := .ms 5 1 0 1) rfl rfl rfl (by repeat' (first | (show 0 + _ ≤ List.length _; simp))) (show ¬ (6 ∈ ([5] : List Nat)) by decide) ALe.refl) (Ghost.trans (Ghost.shut (i := 6) (c := 2) (x := .pv (.val (.slice none 0 0))) rfl rfl rfl (by repeat' (first | trivial)) (show ¬ (6 ∈ ([] : List Nat)) by decide) (ALe.pv PLe.nil)) (back [0, 1, 2, 3, 4, 6] rfl rfl ⟨rfl, rfl, rfl, rfl, rfl, trivial⟩ (by repeat' (first | exact trivial | exact rfl | refine And.intro ?_ ?_))))⟩
    refine ⟨?_⟩
    rintro _ _
    dsimp only [xb, eb, e0b, slP, obP, zeroX, nilA, z0, List.map, List.length_cons, List.length_map]
    repeat' (first | (refine lit_idx (by assumption) (by assumption) (fun kx hkx => ?_)) | (refine lit_load rfl (by assumption) rfl (fun y => ?_)) | (refine lits_load rfl (by assumption) rfl (fun y => ?_)) | (refine lit4_load rfl (by assumption) ?_ ?_ ?_ ?_) | ((change vcFun _ _ _ _ _; refine call_oddrooms 0 rs rfl (by assumption) (by assumption) (by omega) ?_; intro rs2 kq hkq)) | (refine app_consm (f := Sitting.row) ⟨_, _, _, 0⟩ rfl ?_) | (refine ⟨0, rfl, Nat.succ_pos _, eqv_to 0 rfl ?_⟩) | (refine ⟨_, rfl, Nat.le_of_ble_eq_true rfl, eqv_rfl ?_⟩) | (refine join_to (a := .seq (.region 4 _ _) _) (fun x : Nat × List Room × List Sitting × Gaps × Exam => [(0, .ptr 0 2 0 0), (3, .ptr 1 8 0 0), (4, .ptr 2 8 0 0), (5, .ptr 5 4 0 0)]) (fun x => [dice t x.1, xb (.pv (encRooms x.2.1)) (slP 3 4 (List.map Exam.row ([]))) (.pv (.sl 4 (x.2.2.1.map Sitting.row))) x.2.2.2.1, zeroX, obP 69 4 (List.map Exam.row ([])), none, eb (.pv (es x.2.2.2.2.code)) (vint .i64 x.2.2.2.2.len) (.pv (encStrs x.2.2.2.2.feats)) (.pv (encStrs x.2.2.2.2.studs))]) (fun x => x.1 ≤ t.length ∧ x.2.2.1.length ≤ 6) ?_) | refine o1 ?_ | refine o2 ?_ | refine k1 ?_ | refine k2 ?_ | refine k3 ?_ | refine k4 ?_ | refine And.intro ?_ ?_ | refine o3 ?_ | refine o4 ?_ | (intro h; first | exact Bool.noConfusion h | exact nz _ h | exact nl h | (simp at h; done) | (simp at h; first | (exfalso; omega) | skip) | skip) | (refine (?_ : srcLen _ = rowsLen _); rfl) | exact (by kernel_rfl : drawOk _ _ = true) | (refine (?_ : _ ≤ 140737488355328); simp [rowsLen] <;> omega) | (refine (?_ : _ ≤ 9223372036854775807); simp [rowsLen] <;> omega) | (refine (?_ : _ = rowsLen _); simp [rowsLen] <;> omega) | (change vcFun _ _ _ _ _; refine call_next 0 rfl (by assumption) (by assumption) (by omega) (by omega) ?_; intro v kq hv1 hv2 hkq) | (change vcFunD _ _ _ _ _; refine callD_next 0 rfl (by assumption) (by assumption) (by omega) (by omega) ?_; intro v kq hv1 hv2 hkq) | fail)
    · exact ⟨(kq, rs2, s0 :: ss, g, ⟨⟨#[90]⟩, 1, [], [⟨#[115]⟩]⟩), ⟨hkq, (by show List.length _ ≤ 6; simp; try omega)⟩, Ghost.trans (Ghost.shut (i := 1) (c := 2) (x := .ms 4 4 0 ((List.map Sitting.row ss).length + 1)) rfl rfl rfl (by repeat' (first | (show 0 + _ ≤ List.length _; simp))) (show ¬ (1 ∈ ([4] : List Nat)) by decide) (sits_le (m := s0 :: ss) (by simp))) (back [0, 1, 2, 3, 4, 5] rfl rfl ⟨rfl, rfl, rfl, rfl, trivial⟩ (by repeat' (first | exact trivial | exact rfl | refine And.intro ?_ ?_)))⟩
    · exact ⟨(kq, rs, s0 :: ss, g, ⟨y, 1, [], [⟨#[115]⟩]⟩), ⟨hkq, (by show List.length _ ≤ 6; simp; try omega)⟩, Ghost.trans (Ghost.shut (i := 1) (c := 2) (x := .ms 4 4 0 ((List.map Sitting.row ss).length + 1)) rfl rfl rfl (by repeat' (first | (show 0 + _ ≤ List.length _; simp))) (show ¬ (1 ∈ ([4] : List Nat)) by decide) (sits_le (m := s0 :: ss) (by simp))) (back [0, 1, 2, 3, 4, 5] rfl rfl ⟨rfl, rfl, rfl, rfl, trivial⟩ (by repeat' (first | exact trivial | exact rfl | refine And.intro ?_ ?_)))⟩
    · exact ⟨(kq, rs, s0 :: ss, g, ⟨⟨#[90]⟩, y, [], [⟨#[115]⟩]⟩), ⟨hkq, (by show List.length _ ≤ 6; simp; try omega)⟩, Ghost.trans (Ghost.shut (i := 1) (c := 2) (x := .ms 4 4 0 ((List.map Sitting.row ss).length + 1)) rfl rfl rfl (by repeat' (first | (show 0 + _ ≤ List.length _; simp))) (show ¬ (1 ∈ ([4] : List Nat)) by decide) (sits_le (m := s0 :: ss) (by simp))) (back [0, 1, 2, 3, 4, 5] rfl rfl ⟨rfl, rfl, rfl, rfl, trivial⟩ (by repeat' (first | exact trivial | exact rfl | refine And.intro ?_ ?_)))⟩
    · exact ⟨(kq, rs, s0 :: ss, g, ⟨⟨#[90]⟩, 1, [], []⟩), ⟨hkq, (by show List.length _ ≤ 6; simp; try omega)⟩, Ghost.trans (Ghost.shut (i := 5) (c := 3) (x := .pv (.val (.slice none 0 0))) rfl rfl rfl (by repeat' (first | trivial)) (show ¬ (5 ∈ ([] : List Nat)) by decide) (ALe.pv PLe.nil)) (Ghost.trans (Ghost.shut (i := 1) (c := 2) (x := .ms 4 4 0 ((List.map Sitting.row ss).length + 1)) rfl rfl rfl (by repeat' (first | (show 0 + _ ≤ List.length _; simp))) (show ¬ (1 ∈ ([4] : List Nat)) by decide) (sits_le (m := s0 :: ss) (by simp))) (back [0, 1, 2, 3, 4, 5] rfl rfl ⟨rfl, rfl, rfl, rfl, trivial⟩ (by repeat' (first | exact trivial | exact rfl | refine And.intro ?_ ?_))))⟩
    · exact ⟨(kq, rs, s0 :: ss, g, ⟨⟨#[90]⟩, 1, [], [⟨#[98]⟩, ⟨#[97]⟩]⟩), ⟨hkq, (by show List.length _ ≤ 6; simp; try omega)⟩, Ghost.trans (Ghost.shut (i := 5) (c := 3) (x := .ms 6 1 0 2) rfl rfl rfl (by repeat' (first | (show 0 + _ ≤ List.length _; simp))) (show ¬ (5 ∈ ([6] : List Nat)) by decide) (ALe.refl)) (Ghost.trans (Ghost.shut (i := 1) (c := 2) (x := .ms 4 4 0 ((List.map Sitting.row ss).length + 1)) rfl rfl rfl (by repeat' (first | (show 0 + _ ≤ List.length _; simp))) (show ¬ (1 ∈ ([4] : List Nat)) by decide) (sits_le (m := s0 :: ss) (by simp))) (back [0, 1, 2, 3, 4, 5] rfl rfl ⟨rfl, rfl, rfl, rfl, trivial⟩ (by repeat' (first | exact trivial | exact rfl | refine And.intro ?_ ?_))))⟩
    · exact ⟨(kq, rs, s0 :: ss, g, ⟨⟨#[90]⟩, 1, [], [⟨#[97]⟩, ⟨#[97]⟩]⟩), ⟨hkq, (by show List.length _ ≤ 6; simp; try omega)⟩, Ghost.trans (Ghost.shut (i := 5) (c := 3) (x := .ms 7 1 0 2) rfl rfl rfl (by repeat' (first | (show 0 + _ ≤ List.length _; simp))) (show ¬ (5 ∈ ([7] : List Nat)) by decide) (ALe.refl)) (Ghost.trans (Ghost.shut (i := 1) (c := 2) (x := .ms 4 4 0 ((List.map Sitting.row ss).length + 1)) rfl rfl rfl (by repeat' (first | (show 0 + _ ≤ List.length _; simp))) (show ¬ (1 ∈ ([4] : List Nat)) by decide) (sits_le (m := s0 :: ss) (by simp))) (back [0, 1, 2, 3, 4, 5] rfl rfl ⟨rfl, rfl, rfl, rfl, trivial⟩ (by repeat' (first | exact trivial | exact rfl | refine And.intro ?_ ?_))))⟩
    · exact ⟨(kq, rs, s0 :: ss, g, ⟨⟨#[90]⟩, 1, [], [⟨#[]⟩]⟩), ⟨hkq, (by show List.length _ ≤ 6; simp; try omega)⟩, Ghost.trans (Ghost.shut (i := 5) (c := 3) (x := .ms 8 1 0 1) rfl rfl rfl (by repeat' (first | (show 0 + _ ≤ List.length _; simp))) (show ¬ (5 ∈ ([8] : List Nat)) by decide) (ALe.refl)) (Ghost.trans (Ghost.shut (i := 1) (c := 2) (x := .ms 4 4 0 ((List.map Sitting.row ss).length + 1)) rfl rfl rfl (by repeat' (first | (show 0 + _ ≤ List.length _; simp))) (show ¬ (1 ∈ ([4] : List Nat)) by decide) (sits_le (m := s0 :: ss) (by simp))) (back [0, 1, 2, 3, 4, 5] rfl rfl ⟨rfl, rfl, rfl, rfl, trivial⟩ (by repeat' (first | exact trivial | exact rfl | refine And.intro ?_ ?_))))⟩
    · exact ⟨(kq, rs, s0 :: ss, g, ⟨⟨#[90]⟩, 1, [⟨#[120]⟩, ⟨#[120]⟩], [⟨#[115]⟩]⟩), ⟨hkq, (by show List.length _ ≤ 6; simp; try omega)⟩, Ghost.trans (Ghost.shut (i := 5) (c := 2) (x := .ms 6 1 0 2) rfl rfl rfl (by repeat' (first | (show 0 + _ ≤ List.length _; simp))) (show ¬ (5 ∈ ([6] : List Nat)) by decide) (ALe.refl)) (Ghost.trans (Ghost.shut (i := 1) (c := 2) (x := .ms 4 4 0 ((List.map Sitting.row ss).length + 1)) rfl rfl rfl (by repeat' (first | (show 0 + _ ≤ List.length _; simp))) (show ¬ (1 ∈ ([4] : List Nat)) by decide) (sits_le (m := s0 :: ss) (by simp))) (back [0, 1, 2, 3, 4, 5] rfl rfl ⟨rfl, rfl, rfl, rfl, trivial⟩ (by repeat' (first | exact trivial | exact rfl | refine And.intro ?_ ?_))))⟩
    · exact ⟨(kq, rs, s0 :: (ss ++ [⟨_, _, _, 0⟩]), g, ⟨⟨#[90]⟩, 1, [], [⟨#[115]⟩]⟩), ⟨hkq, (by show List.length _ ≤ 6; simp; try omega)⟩, Ghost.trans (Ghost.shut (i := 1) (c := 2) (x := .ms 9 4 0 ((List.map Sitting.row (ss ++ [_])).length + 1)) rfl rfl rfl (by repeat' (first | (show 0 + _ ≤ List.length _; simp))) (show ¬ (1 ∈ ([9] : List Nat)) by decide) (sits_le (m := s0 :: (ss ++ [_])) (by simp))) (back [0, 1, 2, 3, 4, 5] rfl rfl ⟨rfl, rfl, rfl, rfl, trivial⟩ (by repeat' (first | exact trivial | exact rfl | refine And.intro ?_ ?_)))⟩
    · exact ⟨(kq, rs, ⟨s0.day, s0.start, s0.len, y⟩ :: ss, g, ⟨⟨#[90]⟩, 1, [], [⟨#[115]⟩]⟩), ⟨hkq, (by show List.length _ ≤ 6; simp; try omega)⟩, Ghost.trans (Ghost.shut (i := 1) (c := 2) (x := .ms 4 4 0 ((List.map Sitting.row ss).length + 1)) rfl rfl rfl (by repeat' (first | (show 0 + _ ≤ List.length _; simp))) (show ¬ (1 ∈ ([4] : List Nat)) by decide) (sits_le (m := ⟨s0.day, s0.start, s0.len, y⟩ :: ss) (by simp))) (back [0, 1, 2, 3, 4, 5] rfl rfl ⟨rfl, rfl, rfl, rfl, trivial⟩ (by repeat' (first | exact trivial | exact rfl | refine And.intro ?_ ?_)))⟩
    · exact ⟨(kq, rs, s0 :: ss, ⟨g.row, g.day, g.near, y, g.mixed⟩, ⟨⟨#[90]⟩, 1, [], [⟨#[115]⟩]⟩), ⟨hkq, (by show List.length _ ≤ 6; simp; try omega)⟩, Ghost.trans (Ghost.shut (i := 1) (c := 2) (x := .ms 4 4 0 ((List.map Sitting.row ss).length + 1)) rfl rfl rfl (by repeat' (first | (show 0 + _ ≤ List.length _; simp))) (show ¬ (1 ∈ ([4] : List Nat)) by decide) (sits_le (m := s0 :: ss) (by simp))) (back [0, 1, 2, 3, 4, 5] rfl rfl ⟨rfl, rfl, rfl, rfl, trivial⟩ (by repeat' (first | exact trivial | exact rfl | refine And.intro ?_ ?_)))⟩
    · exact ⟨(kq, rs, s0 :: ss, ⟨y, g.day, g.near, g.days, g.mixed⟩, ⟨⟨#[90]⟩, 1, [], [⟨#[115]⟩]⟩), ⟨hkq, (by show List.length _ ≤ 6; simp; try omega)⟩, Ghost.trans (Ghost.shut (i := 1) (c := 2) (x := .ms 4 4 0 ((List.map Sitting.row ss).length + 1)) rfl rfl rfl (by repeat' (first | (show 0 + _ ≤ List.length _; simp))) (show ¬ (1 ∈ ([4] : List Nat)) by decide) (sits_le (m := s0 :: ss) (by simp))) (back [0, 1, 2, 3, 4, 5] rfl rfl ⟨rfl, rfl, rfl, rfl, trivial⟩ (by repeat' (first | exact trivial | exact rfl | refine And.intro ?_ ?_)))⟩
    refine ⟨?_⟩
    rintro ⟨k, rs3, ss3, g3, e3⟩ ⟨c1, c2⟩
    dsimp only [xb, eb, e0b, slP, obP, zeroX, nilA, z0, List.map, List.length_cons, List.length_map] at c1 c2 ⊢
    repeat' (first | (refine join_to (a := .region 23 _ _) (fun _ : Unit => [(3, .ptr 1 8 0 0), (4, .ptr 2 8 0 0)]) (fun _ => [dice t k, xb (.pv (encRooms rs3)) (.pv (.sl 4 (List.map Exam.row ([e3])))) (.pv (.sl 4 (ss3.map Sitting.row))) g3, zeroX]) (fun _ => True) ?_) | refine o1 ?_ | refine o2 ?_ | refine k2 ?_ | refine And.intro ?_ ?_ | (intro h; first | exact Bool.noConfusion h | exact nz _ h | exact nl h | (simp at h; done) | (simp at h; first | (exfalso; omega) | skip) | skip) | (refine (?_ : srcLen _ = rowsLen _); rfl) | exact Nat.le_of_ble_eq_true rfl | refine eqv_to _ (app_first rfl) (eqv_to 1 rfl ?_) | fail)
    · exact ⟨(), trivial, Ghost.trans (Ghost.shut (i := 1) (c := 1) (x := .ms 7 4 0 1) rfl rfl rfl (by repeat' (first | trivial)) (show ¬ (1 ∈ ([7] : List Nat)) by decide) (ALe.refl)) (back [0, 1, 2] rfl rfl ⟨rfl, rfl, rfl, trivial⟩ (by repeat' (first | exact trivial | exact rfl | refine And.intro ?_ ?_)))⟩
    refine ⟨?_⟩
    rintro _ _
    dsimp only [xb, zeroX, nilA, z0]
    repeat' (first | refine o1 ?_ | refine o2 ?_ | refine k1 ?_ | refine k2 ?_ | refine k7 ?_ | fail)
    exact ret_obj [0] [dice t k] rfl rfl ⟨rfl, trivial⟩ (r' := ag (Exams.cells ⟨rs3, [e3], ss3, g3⟩)) rfl ⟨⟨rs3, [e3], ss3, g3⟩, k, c1, ⟨by simp <;> omega, c2⟩, rfl, rfl⟩
theorem c_oddexamsC (t : List Int) (k : Nat) (ht : t.length ≤ 400) (hk : k ≤ t.length) (rs : List Room) (e1 : Exam) (el : List Exam) (ss : List Sitting) (g : Gaps) (hr : rs.length ≤ 5) (he : (e1 :: el).length ≤ 5) (hs : ss.length ≤ 5) :
    ACall Tryz.prog 37 [.ptr 0 2 0 0, ag (Exams.cells ⟨rs, e1 :: el, ss, g⟩)] [dice t k] (fun r H' => ∃ (y : Exams) (k' : Nat), k' ≤ t.length ∧ (y.exams.length ≤ 6 ∧ y.sits.length ≤ 6) ∧ r = ag y.cells ∧ H' = [dice t k']) := by
  dsimp only [Exams.cells]
  simp only [List.length_cons] at he
  refine acall_of tok mixed 114 rfl (fn := Tryz.f37) (c := Tryz.f37.body.getD .skip) (by kernel_rfl) (by kernel_rfl) (by kernel_rfl) rfl 1 rfl ?_
  rcases ss with _ | ⟨s0, ss⟩
  · repeat' (first | (refine app_wholem ?_) | (refine join_to (a := .region 3 _ _) (fun _ : Unit => [(0, .ptr 0 2 0 0), (3, .ptr 1 8 0 0), (4, .ptr 2 8 0 0), (5, .ptr 5 4 0 0)]) (fun _ => [dice t k, xb (.pv (encRooms rs)) (slP 3 4 (List.map Exam.row (e1 :: el))) (slP 4 4 (List.map Sitting.row ([]))) g, zeroX, obP 69 4 (List.map Exam.row (e1 :: el)), obP 23 4 (List.map Sitting.row ([])), e0b]) (fun _ => True) ?_) | refine o1 ?_ | refine o2 ?_ | refine k1 ?_ | refine k2 ?_ | refine And.intro ?_ ?_ | (intro h; first | exact Bool.noConfusion h | exact nz _ h | exact nl h | (simp at h; done) | (simp at h; first | (exfalso; omega) | skip) | skip) | (refine (?_ : srcLen _ = rowsLen _); rfl) | exact Nat.le_of_ble_eq_true rfl | exact (by kernel_rfl : drawOk _ _ = true) | (refine (?_ : _ ≤ 140737488355328); simp [rowsLen] <;> omega) | (refine (?_ : _ ≤ 9223372036854775807); simp [rowsLen] <;> omega) | fail)
    · exact ⟨(), trivial, Ghost.trans (Ghost.shut (i := 6) (c := 3) (x := .ms 5 1 0 1) rfl rfl rfl (by repeat' (first | (show 0 + _ ≤ List.length _; simp))) (show ¬ (6 ∈ ([5] : List Nat)) by decide) ALe.refl) (Ghost.trans (Ghost.shut (i := 6) (c := 2) (x := .pv (.val (.slice none 0 0))) rfl rfl rfl (by repeat' (first | trivial)) (show ¬ (6 ∈ ([] : List Nat)) by decide) (ALe.pv PLe.nil)) (back [0, 1, 2, 3, 4, 6] rfl rfl ⟨rfl, rfl, rfl, rfl, rfl, trivial⟩ (by repeat' (first | exact trivial | exact rfl | refine And.intro ?_ ?_))))⟩
    refine ⟨?_⟩
    rintro _ _
    dsimp only [xb, eb, e0b, slP, obP, zeroX, nilA, z0, List.map, List.length_cons, List.length_map]
    repeat' (first | (refine lit_idx (by assumption) (by assumption) (fun kx hkx => ?_)) | (refine lit_load rfl (by assumption) rfl (fun y => ?_)) | (refine lits_load rfl (by assumption) rfl (fun y => ?_)) | (refine lit4_load rfl (by assumption) ?_ ?_ ?_ ?_) | ((change vcFun _ _ _ _ _; refine call_oddrooms 0 rs rfl (by assumption) (by assumption) (by omega) ?_; intro rs2 kq hkq)) | (refine join_to (a := .seq (.region 4 _ _) _) (fun x : Nat × List Room × List Sitting × Gaps × Exam => [(0, .ptr 0 2 0 0), (3, .ptr 1 8 0 0), (4, .ptr 2 8 0 0), (5, .ptr 5 4 0 0)]) (fun x => [dice t x.1, xb (.pv (encRooms x.2.1)) (slP 3 4 (List.map Exam.row (e1 :: el))) (.pv (.sl 4 (x.2.2.1.map Sitting.row))) x.2.2.2.1, zeroX, obP 69 4 (List.map Exam.row (e1 :: el)), none, eb (.pv (es x.2.2.2.2.code)) (vint .i64 x.2.2.2.2.len) (.pv (encStrs x.2.2.2.2.feats)) (.pv (encStrs x.2.2.2.2.studs))]) (fun x => x.1 ≤ t.length ∧ x.2.2.1.length ≤ 6) ?_) | refine o1 ?_ | refine o2 ?_ | refine k1 ?_ | refine k2 ?_ | refine k3 ?_ | refine k4 ?_ | refine k6 ?_ | refine And.intro ?_ ?_ | refine o3 ?_ | refine o4 ?_ | (intro h; first | exact Bool.noConfusion h | exact nz _ h | exact nl h | (simp at h; done) | (simp at h; first | (exfalso; omega) | skip) | skip) | (refine (?_ : srcLen _ = rowsLen _); rfl) | exact Nat.le_of_ble_eq_true rfl | exact (by kernel_rfl : drawOk _ _ = true) | refine eqv_to _ (app_first rfl) (eqv_to 1 rfl ?_) | (change vcFun _ _ _ _ _; refine call_next 0 rfl (by assumption) (by assumption) (by omega) (by omega) ?_; intro v kq hv1 hv2 hkq) | (change vcFunD _ _ _ _ _; refine callD_next 0 rfl (by assumption) (by assumption) (by omega) (by omega) ?_; intro v kq hv1 hv2 hkq) | fail)
    · exact ⟨(kq, rs2, [], g, ⟨⟨#[90]⟩, 1, [], [⟨#[115]⟩]⟩), ⟨hkq, (by show List.length _ ≤ 6; simp; try omega)⟩, Ghost.trans (Ghost.shut (i := 1) (c := 2) (x := .pv (.val (.slice none 0 0))) rfl rfl rfl (by repeat' (first | trivial)) (show ¬ (1 ∈ ([] : List Nat)) by decide) (ALe.pv PLe.nil)) (back [0, 1, 2, 3, 4, 5] rfl rfl ⟨rfl, rfl, rfl, rfl, rfl, trivial⟩ (by repeat' (first | exact trivial | exact rfl | refine And.intro ?_ ?_)))⟩
    · exact ⟨(kq, rs, [], g, ⟨y, 1, [], [⟨#[115]⟩]⟩), ⟨hkq, (by show List.length _ ≤ 6; simp; try omega)⟩, Ghost.trans (Ghost.shut (i := 1) (c := 2) (x := .pv (.val (.slice none 0 0))) rfl rfl rfl (by repeat' (first | trivial)) (show ¬ (1 ∈ ([] : List Nat)) by decide) (ALe.pv PLe.nil)) (back [0, 1, 2, 3, 4, 5] rfl rfl ⟨rfl, rfl, rfl, rfl, rfl, trivial⟩ (by repeat' (first | exact trivial | exact rfl | refine And.intro ?_ ?_)))⟩
    · exact ⟨(kq, rs, [], g, ⟨⟨#[90]⟩, y, [], [⟨#[115]⟩]⟩), ⟨hkq, (by show List.length _ ≤ 6; simp; try omega)⟩, Ghost.trans (Ghost.shut (i := 1) (c := 2) (x := .pv (.val (.slice none 0 0))) rfl rfl rfl (by repeat' (first | trivial)) (show ¬ (1 ∈ ([] : List Nat)) by decide) (ALe.pv PLe.nil)) (back [0, 1, 2, 3, 4, 5] rfl rfl ⟨rfl, rfl, rfl, rfl, rfl, trivial⟩ (by repeat' (first | exact trivial | exact rfl | refine And.intro ?_ ?_)))⟩
    · exact ⟨(kq, rs, [], g, ⟨⟨#[90]⟩, 1, [], []⟩), ⟨hkq, (by show List.length _ ≤ 6; simp; try omega)⟩, Ghost.trans (Ghost.shut (i := 5) (c := 3) (x := .pv (.val (.slice none 0 0))) rfl rfl rfl (by repeat' (first | trivial)) (show ¬ (5 ∈ ([] : List Nat)) by decide) (ALe.pv PLe.nil)) (Ghost.trans (Ghost.shut (i := 1) (c := 2) (x := .pv (.val (.slice none 0 0))) rfl rfl rfl (by repeat' (first | trivial)) (show ¬ (1 ∈ ([] : List Nat)) by decide) (ALe.pv PLe.nil)) (back [0, 1, 2, 3, 4, 5] rfl rfl ⟨rfl, rfl, rfl, rfl, rfl, trivial⟩ (by repeat' (first | exact trivial | exact rfl | refine And.intro ?_ ?_))))⟩
    · exact ⟨(kq, rs, [], g, ⟨⟨#[90]⟩, 1, [], [⟨#[98]⟩, ⟨#[97]⟩]⟩), ⟨hkq, (by show List.length _ ≤ 6; simp; try omega)⟩, Ghost.trans (Ghost.shut (i := 5) (c := 3) (x := .ms 6 1 0 2) rfl rfl rfl (by repeat' (first | (show 0 + _ ≤ List.length _; simp))) (show ¬ (5 ∈ ([6] : List Nat)) by decide) (ALe.refl)) (Ghost.trans (Ghost.shut (i := 1) (c := 2) (x := .pv (.val (.slice none 0 0))) rfl rfl rfl (by repeat' (first | trivial)) (show ¬ (1 ∈ ([] : List Nat)) by decide) (ALe.pv PLe.nil)) (back [0, 1, 2, 3, 4, 5] rfl rfl ⟨rfl, rfl, rfl, rfl, rfl, trivial⟩ (by repeat' (first | exact trivial | exact rfl | refine And.intro ?_ ?_))))⟩
    · exact ⟨(kq, rs, [], g, ⟨⟨#[90]⟩, 1, [], [⟨#[97]⟩, ⟨#[97]⟩]⟩), ⟨hkq, (by show List.length _ ≤ 6; simp; try omega)⟩, Ghost.trans (Ghost.shut (i := 5) (c := 3) (x := .ms 7 1 0 2) rfl rfl rfl (by repeat' (first | (show 0 + _ ≤ List.length _; simp))) (show ¬ (5 ∈ ([7] : List Nat)) by decide) (ALe.refl)) (Ghost.trans (Ghost.shut (i := 1) (c := 2) (x := .pv (.val (.slice none 0 0))) rfl rfl rfl (by repeat' (first | trivial)) (show ¬ (1 ∈ ([] : List Nat)) by decide) (ALe.pv PLe.nil)) (back [0, 1, 2, 3, 4, 5] rfl rfl ⟨rfl, rfl, rfl, rfl, rfl, trivial⟩ (by repeat' (first | exact trivial | exact rfl | refine And.intro ?_ ?_))))⟩
    · exact ⟨(kq, rs, [], g, ⟨⟨#[90]⟩, 1, [], [⟨#[]⟩]⟩), ⟨hkq, (by show List.length _ ≤ 6; simp; try omega)⟩, Ghost.trans (Ghost.shut (i := 5) (c := 3) (x := .ms 8 1 0 1) rfl rfl rfl (by repeat' (first | (show 0 + _ ≤ List.length _; simp))) (show ¬ (5 ∈ ([8] : List Nat)) by decide) (ALe.refl)) (Ghost.trans (Ghost.shut (i := 1) (c := 2) (x := .pv (.val (.slice none 0 0))) rfl rfl rfl (by repeat' (first | trivial)) (show ¬ (1 ∈ ([] : List Nat)) by decide) (ALe.pv PLe.nil)) (back [0, 1, 2, 3, 4, 5] rfl rfl ⟨rfl, rfl, rfl, rfl, rfl, trivial⟩ (by repeat' (first | exact trivial | exact rfl | refine And.intro ?_ ?_))))⟩
    · exact ⟨(kq, rs, [], g, ⟨⟨#[90]⟩, 1, [⟨#[120]⟩, ⟨#[120]⟩], [⟨#[115]⟩]⟩), ⟨hkq, (by show List.length _ ≤ 6; simp; try omega)⟩, Ghost.trans (Ghost.shut (i := 5) (c := 2) (x := .ms 6 1 0 2) rfl rfl rfl (by repeat' (first | (show 0 + _ ≤ List.length _; simp))) (show ¬ (5 ∈ ([6] : List Nat)) by decide) (ALe.refl)) (Ghost.trans (Ghost.shut (i := 1) (c := 2) (x := .pv (.val (.slice none 0 0))) rfl rfl rfl (by repeat' (first | trivial)) (show ¬ (1 ∈ ([] : List Nat)) by decide) (ALe.pv PLe.nil)) (back [0, 1, 2, 3, 4, 5] rfl rfl ⟨rfl, rfl, rfl, rfl, rfl, trivial⟩ (by repeat' (first | exact trivial | exact rfl | refine And.intro ?_ ?_))))⟩
    · exact ⟨(kq, rs, [⟨_, _, _, 0⟩], g, ⟨⟨#[90]⟩, 1, [], [⟨#[115]⟩]⟩), ⟨hkq, (by show List.length _ ≤ 6; simp; try omega)⟩, Ghost.trans (Ghost.shut (i := 1) (c := 2) (x := .ms 9 4 0 1) rfl rfl rfl (by repeat' (first | trivial)) (show ¬ (1 ∈ ([9] : List Nat)) by decide) (ALe.refl)) (back [0, 1, 2, 3, 4, 5] rfl rfl ⟨rfl, rfl, rfl, rfl, rfl, trivial⟩ (by repeat' (first | exact trivial | exact rfl | refine And.intro ?_ ?_)))⟩
    · exact ⟨(kq, rs, [], g, ⟨⟨#[90]⟩, 1, [], [⟨#[115]⟩]⟩), ⟨hkq, (by show List.length _ ≤ 6; simp; try omega)⟩, Ghost.trans (Ghost.shut (i := 1) (c := 2) (x := .pv (.val (.slice none 0 0))) rfl rfl rfl (by repeat' (first | trivial)) (show ¬ (1 ∈ ([] : List Nat)) by decide) (ALe.pv PLe.nil)) (back [0, 1, 2, 3, 4, 5] rfl rfl ⟨rfl, rfl, rfl, rfl, rfl, trivial⟩ (by repeat' (first | exact trivial | exact rfl | refine And.intro ?_ ?_)))⟩
    · exact ⟨(kq, rs, [], ⟨g.row, g.day, g.near, y, g.mixed⟩, ⟨⟨#[90]⟩, 1, [], [⟨#[115]⟩]⟩), ⟨hkq, (by show List.length _ ≤ 6; simp; try omega)⟩, Ghost.trans (Ghost.shut (i := 1) (c := 2) (x := .pv (.val (.slice none 0 0))) rfl rfl rfl (by repeat' (first | trivial)) (show ¬ (1 ∈ ([] : List Nat)) by decide) (ALe.pv PLe.nil)) (back [0, 1, 2, 3, 4, 5] rfl rfl ⟨rfl, rfl, rfl, rfl, rfl, trivial⟩ (by repeat' (first | exact trivial | exact rfl | refine And.intro ?_ ?_)))⟩
    · exact ⟨(kq, rs, [], ⟨y, g.day, g.near, g.days, g.mixed⟩, ⟨⟨#[90]⟩, 1, [], [⟨#[115]⟩]⟩), ⟨hkq, (by show List.length _ ≤ 6; simp; try omega)⟩, Ghost.trans (Ghost.shut (i := 1) (c := 2) (x := .pv (.val (.slice none 0 0))) rfl rfl rfl (by repeat' (first | trivial)) (show ¬ (1 ∈ ([] : List Nat)) by decide) (ALe.pv PLe.nil)) (back [0, 1, 2, 3, 4, 5] rfl rfl ⟨rfl, rfl, rfl, rfl, rfl, trivial⟩ (by repeat' (first | exact trivial | exact rfl | refine And.intro ?_ ?_)))⟩
    refine ⟨?_⟩
    rintro ⟨k, rs3, ss3, g3, e3⟩ ⟨c1, c2⟩
    dsimp only [xb, eb, e0b, slP, obP, zeroX, nilA, z0, List.map, List.length_cons, List.length_map] at c1 c2 ⊢
    repeat' (first | (refine app_consm (f := Exam.row) e3 rfl ?_) | (refine join_to (a := .region 23 _ _) (fun _ : Unit => [(3, .ptr 1 8 0 0), (4, .ptr 2 8 0 0)]) (fun _ => [dice t k, xb (.pv (encRooms rs3)) (.pv (.sl 4 (List.map Exam.row ((e1 :: el) ++ [e3])))) (.pv (.sl 4 (ss3.map Sitting.row))) g3, zeroX]) (fun _ => True) ?_) | refine o1 ?_ | refine o2 ?_ | refine k2 ?_ | refine And.intro ?_ ?_ | (refine (?_ : srcLen _ = rowsLen _); rfl) | (refine (?_ : _ ≤ 140737488355328); simp [rowsLen] <;> omega) | (refine (?_ : _ ≤ 9223372036854775807); simp [rowsLen] <;> omega) | (refine (?_ : _ = rowsLen _); simp [rowsLen] <;> omega) | fail)
    · refine ⟨(), trivial, Ghost.trans (Ghost.shut (i := 1) (c := 1) (x := .ms 7 4 0 ((List.map Exam.row (el ++ [e3])).length + 1)) rfl rfl rfl (by repeat' (first | (show 0 + _ ≤ List.length _; simp))) (show ¬ (1 ∈ ([7] : List Nat)) by decide) (ALe.pv (PLe.sl (?_ : PLeLL _ (List.map Exam.row ((e1 :: el) ++ [e3])))))) (back [0, 1, 2] rfl rfl ⟨rfl, rfl, rfl, trivial⟩ (by repeat' (first | exact trivial | exact rfl | refine And.intro ?_ ?_)))⟩
      rw [List.drop_zero, List.take_of_length_le (by simp)]
      exact PLeLL.refl
    refine ⟨?_⟩
    rintro _ _
    dsimp only [xb, zeroX, nilA, z0]
    repeat' (first | refine o1 ?_ | refine o2 ?_ | refine k1 ?_ | refine k2 ?_ | refine k7 ?_ | fail)
    exact ret_obj [0] [dice t k] rfl rfl ⟨rfl, trivial⟩ (r' := ag (Exams.cells ⟨rs3, (e1 :: el) ++ [e3], ss3, g3⟩)) rfl ⟨⟨rs3, (e1 :: el) ++ [e3], ss3, g3⟩, k, c1, ⟨by simp <;> omega, c2⟩, rfl, rfl⟩
  · simp only [List.length_cons] at hs
    repeat' (first | (refine app_wholem ?_) | (refine join_to (a := .region 3 _ _) (fun _ : Unit => [(0, .ptr 0 2 0 0), (3, .ptr 1 8 0 0), (4, .ptr 2 8 0 0), (5, .ptr 5 4 0 0)]) (fun _ => [dice t k, xb (.pv (encRooms rs)) (slP 3 4 (List.map Exam.row (e1 :: el))) (slP 4 4 (List.map Sitting.row (s0 :: ss))) g, zeroX, obP 69 4 (List.map Exam.row (e1 :: el)), obP 23 4 (List.map Sitting.row (s0 :: ss)), e0b]) (fun _ => True) ?_) | refine o1 ?_ | refine o2 ?_ | refine k1 ?_ | refine k2 ?_ | refine And.intro ?_ ?_ | (intro h; first | exact Bool.noConfusion h | exact nz _ h | exact nl h | (simp at h; done) | (simp at h; first | (exfalso; omega) | skip) | skip) | (refine (?_ : srcLen _ = rowsLen _); rfl) | exact (by kernel_rfl : drawOk _ _ = true) | (refine (?_ : _ ≤ 140737488355328); simp [rowsLen] <;> omega) | (refine (?_ : _ ≤ 9223372036854775807); simp [rowsLen] <;> omega) | fail)
    · exact ⟨(), trivial, Ghost.trans (Ghost.shut (i := 6) (c := 3) (x := .ms 5 1 0 1) rfl rfl rfl (by repeat' (first | (show 0 + _ ≤ List.length _; simp))) (show ¬ (6 ∈ ([5] : List Nat)) by decide) ALe.refl) (Ghost.trans (Ghost.shut (i := 6) (c := 2) (x := .pv (.val (.slice none 0 0))) rfl rfl rfl (by repeat' (first | trivial)) (show ¬ (6 ∈ ([] : List Nat)) by decide) (ALe.pv PLe.nil)) (back [0, 1, 2, 3, 4, 6] rfl rfl ⟨rfl, rfl, rfl, rfl, rfl, rfl, trivial⟩ (by repeat' (first | exact trivial | exact rfl | refine And.intro ?_ ?_))))⟩
    refine ⟨?_⟩
    rintro _ _
    dsimp only [xb, eb, e0b, slP, obP, zeroX, nilA, z0, List.map, List.length_cons, List.length_map]
    repeat' (first | (refine lit_idx (by assumption) (by assumption) (fun kx hkx => ?_)) | (refine lit_load rfl (by assumption) rfl (fun y => ?_)) | (refine lits_load rfl (by assumption) rfl (fun y => ?_)) | (refine lit4_load rfl (by assumption) ?_ ?_ ?_ ?_) | ((change vcFun _ _ _ _ _; refine call_oddrooms 0 rs rfl (by assumption) (by assumption) (by omega) ?_; intro rs2 kq hkq)) | (refine app_consm (f := Sitting.row) ⟨_, _, _, 0⟩ rfl ?_) | (refine ⟨0, rfl, Nat.succ_pos _, eqv_to 0 rfl ?_⟩) | (refine ⟨_, rfl, Nat.le_of_ble_eq_true rfl, eqv_rfl ?_⟩) | (refine join_to (a := .seq (.region 4 _ _) _) (fun x : Nat × List Room × List Sitting × Gaps × Exam => [(0, .ptr 0 2 0 0), (3, .ptr 1 8 0 0), (4, .ptr 2 8 0 0), (5, .ptr 5 4 0 0)]) (fun x => [dice t x.1, xb (.pv (encRooms x.2.1)) (slP 3 4 (List.map Exam.row (e1 :: el))) (.pv (.sl 4 (x.2.2.1.map Sitting.row))) x.2.2.2.1, zeroX, obP 69 4 (List.map Exam.row (e1 :: el)), none, eb (.pv (es x.2.2.2.2.code)) (vint .i64 x.2.2.2.2.len) (.pv (encStrs x.2.2.2.2.feats)) (.pv (encStrs x.2.2.2.2.studs))]) (fun x => x.1 ≤ t.length ∧ x.2.2.1.length ≤ 6) ?_) | refine o1 ?_ | refine o2 ?_ | refine k1 ?_ | refine k2 ?_ | refine k3 ?_ | refine k4 ?_ | refine And.intro ?_ ?_ | refine o3 ?_ | refine o4 ?_ | (intro h; first | exact Bool.noConfusion h | exact nz _ h | exact nl h | (simp at h; done) | (simp at h; first | (exfalso; omega) | skip) | skip) | (refine (?_ : srcLen _ = rowsLen _); rfl) | exact (by kernel_rfl : drawOk _ _ = true) | (refine (?_ : _ ≤ 140737488355328); simp [rowsLen] <;> omega) | (refine (?_ : _ ≤ 9223372036854775807); simp [rowsLen] <;> omega) | (refine (?_ : _ = rowsLen _); simp [rowsLen] <;> omega) | (change vcFun _ _ _ _ _; refine call_next 0 rfl (by assumption) (by assumption) (by omega) (by omega) ?_; intro v kq hv1 hv2 hkq) | (change vcFunD _ _ _ _ _; refine callD_next 0 rfl (by assumption) (by assumption) (by omega) (by omega) ?_; intro v kq hv1 hv2 hkq) | fail)
    · exact ⟨(kq, rs2, s0 :: ss, g, ⟨⟨#[90]⟩, 1, [], [⟨#[115]⟩]⟩), ⟨hkq, (by show List.length _ ≤ 6; simp; try omega)⟩, Ghost.trans (Ghost.shut (i := 1) (c := 2) (x := .ms 4 4 0 ((List.map Sitting.row ss).length + 1)) rfl rfl rfl (by repeat' (first | (show 0 + _ ≤ List.length _; simp))) (show ¬ (1 ∈ ([4] : List Nat)) by decide) (sits_le (m := s0 :: ss) (by simp))) (back [0, 1, 2, 3, 4, 5] rfl rfl ⟨rfl, rfl, rfl, rfl, rfl, trivial⟩ (by repeat' (first | exact trivial | exact rfl | refine And.intro ?_ ?_)))⟩
    · exact ⟨(kq, rs, s0 :: ss, g, ⟨y, 1, [], [⟨#[115]⟩]⟩), ⟨hkq, (by show List.length _ ≤ 6; simp; try omega)⟩, Ghost.trans (Ghost.shut (i := 1) (c := 2) (x := .ms 4 4 0 ((List.map Sitting.row ss).length + 1)) rfl rfl rfl (by repeat' (first | (show 0 + _ ≤ List.length _; simp))) (show ¬ (1 ∈ ([4] : List Nat)) by decide) (sits_le (m := s0 :: ss) (by simp))) (back [0, 1, 2, 3, 4, 5] rfl rfl ⟨rfl, rfl, rfl, rfl, rfl, trivial⟩ (by repeat' (first | exact trivial | exact rfl | refine And.intro ?_ ?_)))⟩
    · exact ⟨(kq, rs, s0 :: ss, g, ⟨⟨#[90]⟩, y, [], [⟨#[115]⟩]⟩), ⟨hkq, (by show List.length _ ≤ 6; simp; try omega)⟩, Ghost.trans (Ghost.shut (i := 1) (c := 2) (x := .ms 4 4 0 ((List.map Sitting.row ss).length + 1)) rfl rfl rfl (by repeat' (first | (show 0 + _ ≤ List.length _; simp))) (show ¬ (1 ∈ ([4] : List Nat)) by decide) (sits_le (m := s0 :: ss) (by simp))) (back [0, 1, 2, 3, 4, 5] rfl rfl ⟨rfl, rfl, rfl, rfl, rfl, trivial⟩ (by repeat' (first | exact trivial | exact rfl | refine And.intro ?_ ?_)))⟩
    · exact ⟨(kq, rs, s0 :: ss, g, ⟨⟨#[90]⟩, 1, [], []⟩), ⟨hkq, (by show List.length _ ≤ 6; simp; try omega)⟩, Ghost.trans (Ghost.shut (i := 5) (c := 3) (x := .pv (.val (.slice none 0 0))) rfl rfl rfl (by repeat' (first | trivial)) (show ¬ (5 ∈ ([] : List Nat)) by decide) (ALe.pv PLe.nil)) (Ghost.trans (Ghost.shut (i := 1) (c := 2) (x := .ms 4 4 0 ((List.map Sitting.row ss).length + 1)) rfl rfl rfl (by repeat' (first | (show 0 + _ ≤ List.length _; simp))) (show ¬ (1 ∈ ([4] : List Nat)) by decide) (sits_le (m := s0 :: ss) (by simp))) (back [0, 1, 2, 3, 4, 5] rfl rfl ⟨rfl, rfl, rfl, rfl, rfl, trivial⟩ (by repeat' (first | exact trivial | exact rfl | refine And.intro ?_ ?_))))⟩
    · exact ⟨(kq, rs, s0 :: ss, g, ⟨⟨#[90]⟩, 1, [], [⟨#[98]⟩, ⟨#[97]⟩]⟩), ⟨hkq, (by show List.length _ ≤ 6; simp; try omega)⟩, Ghost.trans (Ghost.shut (i := 5) (c := 3) (x := .ms 6 1 0 2) rfl rfl rfl (by repeat' (first | (show 0 + _ ≤ List.length _; simp))) (show ¬ (5 ∈ ([6] : List Nat)) by decide) (ALe.refl)) (Ghost.trans (Ghost.shut (i := 1) (c := 2) (x := .ms 4 4 0 ((List.map Sitting.row ss).length + 1)) rfl rfl rfl (by repeat' (first | (show 0 + _ ≤ List.length _; simp))) (show ¬ (1 ∈ ([4] : List Nat)) by decide) (sits_le (m := s0 :: ss) (by simp))) (back [0, 1, 2, 3, 4, 5] rfl rfl ⟨rfl, rfl, rfl, rfl, rfl, trivial⟩ (by repeat' (first | exact trivial | exact rfl | refine And.intro ?_ ?_))))⟩
    · exact ⟨(kq, rs, s0 :: ss, g, ⟨⟨#[90]⟩, 1, [], [⟨#[97]⟩, ⟨#[97]⟩]⟩), ⟨hkq, (by show List.length _ ≤ 6; simp; try omega)⟩, Ghost.trans (Ghost.shut (i := 5) (c := 3) (x := .ms 7 1 0 2) rfl rfl rfl (by repeat' (first | (show 0 + _ ≤ List.length _; simp))) (show ¬ (5 ∈ ([7] : List Nat)) by decide) (ALe.refl)) (Ghost.trans (Ghost.shut (i := 1) (c := 2) (x := .ms 4 4 0 ((List.map Sitting.row ss).length + 1)) rfl rfl rfl (by repeat' (first | (show 0 + _ ≤ List.length _; simp))) (show ¬ (1 ∈ ([4] : List Nat)) by decide) (sits_le (m := s0 :: ss) (by simp))) (back [0, 1, 2, 3, 4, 5] rfl rfl ⟨rfl, rfl, rfl, rfl, rfl, trivial⟩ (by repeat' (first | exact trivial | exact rfl | refine And.intro ?_ ?_))))⟩
    · exact ⟨(kq, rs, s0 :: ss, g, ⟨⟨#[90]⟩, 1, [], [⟨#[]⟩]⟩), ⟨hkq, (by show List.length _ ≤ 6; simp; try omega)⟩, Ghost.trans (Ghost.shut (i := 5) (c := 3) (x := .ms 8 1 0 1) rfl rfl rfl (by repeat' (first | (show 0 + _ ≤ List.length _; simp))) (show ¬ (5 ∈ ([8] : List Nat)) by decide) (ALe.refl)) (Ghost.trans (Ghost.shut (i := 1) (c := 2) (x := .ms 4 4 0 ((List.map Sitting.row ss).length + 1)) rfl rfl rfl (by repeat' (first | (show 0 + _ ≤ List.length _; simp))) (show ¬ (1 ∈ ([4] : List Nat)) by decide) (sits_le (m := s0 :: ss) (by simp))) (back [0, 1, 2, 3, 4, 5] rfl rfl ⟨rfl, rfl, rfl, rfl, rfl, trivial⟩ (by repeat' (first | exact trivial | exact rfl | refine And.intro ?_ ?_))))⟩
    · exact ⟨(kq, rs, s0 :: ss, g, ⟨⟨#[90]⟩, 1, [⟨#[120]⟩, ⟨#[120]⟩], [⟨#[115]⟩]⟩), ⟨hkq, (by show List.length _ ≤ 6; simp; try omega)⟩, Ghost.trans (Ghost.shut (i := 5) (c := 2) (x := .ms 6 1 0 2) rfl rfl rfl (by repeat' (first | (show 0 + _ ≤ List.length _; simp))) (show ¬ (5 ∈ ([6] : List Nat)) by decide) (ALe.refl)) (Ghost.trans (Ghost.shut (i := 1) (c := 2) (x := .ms 4 4 0 ((List.map Sitting.row ss).length + 1)) rfl rfl rfl (by repeat' (first | (show 0 + _ ≤ List.length _; simp))) (show ¬ (1 ∈ ([4] : List Nat)) by decide) (sits_le (m := s0 :: ss) (by simp))) (back [0, 1, 2, 3, 4, 5] rfl rfl ⟨rfl, rfl, rfl, rfl, rfl, trivial⟩ (by repeat' (first | exact trivial | exact rfl | refine And.intro ?_ ?_))))⟩
    · exact ⟨(kq, rs, s0 :: (ss ++ [⟨_, _, _, 0⟩]), g, ⟨⟨#[90]⟩, 1, [], [⟨#[115]⟩]⟩), ⟨hkq, (by show List.length _ ≤ 6; simp; try omega)⟩, Ghost.trans (Ghost.shut (i := 1) (c := 2) (x := .ms 9 4 0 ((List.map Sitting.row (ss ++ [_])).length + 1)) rfl rfl rfl (by repeat' (first | (show 0 + _ ≤ List.length _; simp))) (show ¬ (1 ∈ ([9] : List Nat)) by decide) (sits_le (m := s0 :: (ss ++ [_])) (by simp))) (back [0, 1, 2, 3, 4, 5] rfl rfl ⟨rfl, rfl, rfl, rfl, rfl, trivial⟩ (by repeat' (first | exact trivial | exact rfl | refine And.intro ?_ ?_)))⟩
    · exact ⟨(kq, rs, ⟨s0.day, s0.start, s0.len, y⟩ :: ss, g, ⟨⟨#[90]⟩, 1, [], [⟨#[115]⟩]⟩), ⟨hkq, (by show List.length _ ≤ 6; simp; try omega)⟩, Ghost.trans (Ghost.shut (i := 1) (c := 2) (x := .ms 4 4 0 ((List.map Sitting.row ss).length + 1)) rfl rfl rfl (by repeat' (first | (show 0 + _ ≤ List.length _; simp))) (show ¬ (1 ∈ ([4] : List Nat)) by decide) (sits_le (m := ⟨s0.day, s0.start, s0.len, y⟩ :: ss) (by simp))) (back [0, 1, 2, 3, 4, 5] rfl rfl ⟨rfl, rfl, rfl, rfl, rfl, trivial⟩ (by repeat' (first | exact trivial | exact rfl | refine And.intro ?_ ?_)))⟩
    · exact ⟨(kq, rs, s0 :: ss, ⟨g.row, g.day, g.near, y, g.mixed⟩, ⟨⟨#[90]⟩, 1, [], [⟨#[115]⟩]⟩), ⟨hkq, (by show List.length _ ≤ 6; simp; try omega)⟩, Ghost.trans (Ghost.shut (i := 1) (c := 2) (x := .ms 4 4 0 ((List.map Sitting.row ss).length + 1)) rfl rfl rfl (by repeat' (first | (show 0 + _ ≤ List.length _; simp))) (show ¬ (1 ∈ ([4] : List Nat)) by decide) (sits_le (m := s0 :: ss) (by simp))) (back [0, 1, 2, 3, 4, 5] rfl rfl ⟨rfl, rfl, rfl, rfl, rfl, trivial⟩ (by repeat' (first | exact trivial | exact rfl | refine And.intro ?_ ?_)))⟩
    · exact ⟨(kq, rs, s0 :: ss, ⟨y, g.day, g.near, g.days, g.mixed⟩, ⟨⟨#[90]⟩, 1, [], [⟨#[115]⟩]⟩), ⟨hkq, (by show List.length _ ≤ 6; simp; try omega)⟩, Ghost.trans (Ghost.shut (i := 1) (c := 2) (x := .ms 4 4 0 ((List.map Sitting.row ss).length + 1)) rfl rfl rfl (by repeat' (first | (show 0 + _ ≤ List.length _; simp))) (show ¬ (1 ∈ ([4] : List Nat)) by decide) (sits_le (m := s0 :: ss) (by simp))) (back [0, 1, 2, 3, 4, 5] rfl rfl ⟨rfl, rfl, rfl, rfl, rfl, trivial⟩ (by repeat' (first | exact trivial | exact rfl | refine And.intro ?_ ?_)))⟩
    refine ⟨?_⟩
    rintro ⟨k, rs3, ss3, g3, e3⟩ ⟨c1, c2⟩
    dsimp only [xb, eb, e0b, slP, obP, zeroX, nilA, z0, List.map, List.length_cons, List.length_map] at c1 c2 ⊢
    repeat' (first | (refine app_consm (f := Exam.row) e3 rfl ?_) | (refine join_to (a := .region 23 _ _) (fun _ : Unit => [(3, .ptr 1 8 0 0), (4, .ptr 2 8 0 0)]) (fun _ => [dice t k, xb (.pv (encRooms rs3)) (.pv (.sl 4 (List.map Exam.row ((e1 :: el) ++ [e3])))) (.pv (.sl 4 (ss3.map Sitting.row))) g3, zeroX]) (fun _ => True) ?_) | refine o1 ?_ | refine o2 ?_ | refine k2 ?_ | refine And.intro ?_ ?_ | (refine (?_ : srcLen _ = rowsLen _); rfl) | (refine (?_ : _ ≤ 140737488355328); simp [rowsLen] <;> omega) | (refine (?_ : _ ≤ 9223372036854775807); simp [rowsLen] <;> omega) | (refine (?_ : _ = rowsLen _); simp [rowsLen] <;> omega) | fail)
    · refine ⟨(), trivial, Ghost.trans (Ghost.shut (i := 1) (c := 1) (x := .ms 7 4 0 ((List.map Exam.row (el ++ [e3])).length + 1)) rfl rfl rfl (by repeat' (first | (show 0 + _ ≤ List.length _; simp))) (show ¬ (1 ∈ ([7] : List Nat)) by decide) (ALe.pv (PLe.sl (?_ : PLeLL _ (List.map Exam.row ((e1 :: el) ++ [e3])))))) (back [0, 1, 2] rfl rfl ⟨rfl, rfl, rfl, trivial⟩ (by repeat' (first | exact trivial | exact rfl | refine And.intro ?_ ?_)))⟩
      rw [List.drop_zero, List.take_of_length_le (by simp)]
      exact PLeLL.refl
    refine ⟨?_⟩
    rintro _ _
    dsimp only [xb, zeroX, nilA, z0]
    repeat' (first | refine o1 ?_ | refine o2 ?_ | refine k1 ?_ | refine k2 ?_ | refine k7 ?_ | fail)
    exact ret_obj [0] [dice t k] rfl rfl ⟨rfl, trivial⟩ (r' := ag (Exams.cells ⟨rs3, (e1 :: el) ++ [e3], ss3, g3⟩)) rfl ⟨⟨rs3, (e1 :: el) ++ [e3], ss3, g3⟩, k, c1, ⟨by simp <;> omega, c2⟩, rfl, rfl⟩
theorem c_oddexams (t : List Int) (k : Nat) (ht : t.length ≤ 400) (hk : k ≤ t.length) (x : Exams) (hr : x.rooms.length ≤ 5) (he : x.exams.length ≤ 5) (hs : x.sits.length ≤ 5) :
    ACall Tryz.prog 37 [.ptr 0 2 0 0, ag x.cells] [dice t k] (fun r H' => ∃ (y : Exams) (k' : Nat), k' ≤ t.length ∧ (y.exams.length ≤ 6 ∧ y.sits.length ≤ 6) ∧ r = ag y.cells ∧ H' = [dice t k']) := by
  obtain ⟨rs, el, ss, g⟩ := x
  rcases el with _ | ⟨e1, el⟩
  · exact c_oddexamsN t k ht hk rs ss g hr hs
  · exact c_oddexamsC t k ht hk rs e1 el ss g hr he hs
end Go.Proofs.YtpnghlibmpainaaGreat.Cw

/-
  Examinations of a law: some, short.
-/
namespace Go.Proofs.YtpnghlibmpainaaGreat.Cw
open Go.Cw Go.Proofs
set_option linter.unusedVariables false
set_option maxRecDepth 100000
set_option maxHeartbeats 1600000

theorem call_made {t : List Int} {k : Nat} {H : Heap} {K : AV → Heap → Prop} (i : Nat) (hi : H[i]? = some (dice t k)) (ht : t.length ≤ 400) (hk : k ≤ t.length)
    (hK : ∀ (x : Exams) k2, k2 ≤ t.length → x.rooms.length ≤ 5 → x.exams.length ≤ 5 → x.sits.length ≤ 5 → K (ag x.cells) (H.set i (dice t k2))) : vcFun Tryz.prog 24 [.ptr i 2 0 0] H K := by
  refine call_one (i := i) hi (fun _ _ => rfl) [.ptr 0 2 0 0] rfl (c_made t k ht hk) ?_
  rintro r H' ⟨y, k', h1, ⟨h2, h3, h4⟩, rfl, rfl⟩
  exact ⟨_, rfl, fun _ _ => rfl, fun _ _ => rfl, hK y k' h1 h2 h3 h4⟩
theorem call_oddexams {t : List Int} {k : Nat} {H : Heap} {K : AV → Heap → Prop} (i : Nat) (x : Exams) (hi : H[i]? = some (dice t k)) (ht : t.length ≤ 400) (hk : k ≤ t.length) (h1 : x.rooms.length ≤ 5) (h2 : x.exams.length ≤ 5) (h3 : x.sits.length ≤ 5)
    (hK : ∀ (y : Exams) k2, k2 ≤ t.length → y.exams.length ≤ 6 → y.sits.length ≤ 6 → K (ag y.cells) (H.set i (dice t k2))) : vcFun Tryz.prog 37 [.ptr i 2 0 0, ag x.cells] H K := by
  refine call_one (i := i) hi (fun _ _ => rfl) [.ptr 0 2 0 0, ag x.cells] rfl (c_oddexams t k ht hk x h1 h2 h3) ?_
  rintro r H' ⟨y, k', h1, ⟨h2, h3⟩, rfl, rfl⟩
  exact ⟨_, rfl, fun _ _ => rfl, fun _ _ => rfl, hK y k' h1 h2 h3⟩

theorem c_some (t : List Int) (k : Nat) (ht : t.length ≤ 400) (hk : k ≤ t.length) :
    ACall Tryz.prog 10 [.ptr 0 2 0 0] [dice t k] (fun r H' => ∃ (y : Exams) (k' : Nat), k' ≤ t.length ∧ (y.exams.length ≤ 6 ∧ y.sits.length ≤ 6) ∧ r = ag y.cells ∧ H' = [dice t k']) := by
  refine acall_of tok mixed 12 rfl (fn := Tryz.f10) (c := Tryz.f10.body.getD .skip) (by kernel_rfl) (by kernel_rfl) (by kernel_rfl) rfl 1 rfl ?_
  repeat' (first | ((change vcFun _ _ _ _ _; refine call_made 0 rfl (by assumption) (by assumption) ?_; intro x kx hkx hx1 hx2 hx3)) | ((change vcFun _ _ _ _ _; refine call_oddexams 0 x rfl (by assumption) (by assumption) (by assumption) (by assumption) (by assumption) ?_; intro y ky hky hy1 hy2)) | refine o1 ?_ | refine o2 ?_ | refine k1 ?_ | refine k2 ?_ | refine k3 ?_ | refine k4 ?_ | refine k6 ?_ | refine k7 ?_ | refine k8 ?_ | refine And.intro ?_ ?_ | exact trivial | refine o3 ?_ | refine o4 ?_ | refine o5 ?_ | refine o6 ?_ | refine k5 ?_ | (intro h; first | exact Bool.noConfusion h | exact nz _ h | exact nl h | (simp at h; done) | (simp at h; first | (exfalso; omega) | skip) | skip) | (change retOk _ _ _ _; refine ret_pure rfl trivial ?_) | exact (rfl : allOne _ = true) | (refine (?_ : (0 : Int) ≤ _); omega) | (refine (?_ : _ ≠ _); omega) | (refine (?_ : srcLen _ = rowsLen _); rfl) | exact Nat.le_of_ble_eq_true rfl | exact (by kernel_rfl : drawOk _ _ = true) | refine eqv_len_map ?_ | refine eqv_size ?_ | refine eqv_put (eqv_ck ?_) | refine eqv_zero ?_ | refine eqv_wrap (by omega) (by omega) ?_ | refine eqv_u64 (by omega) (by omega) ?_ | refine eqv_u8 (by omega) (by omega) ?_ | refine eqv_to _ (set_map rfl rfl) ?_ | refine ⟨_, _, (by first | rfl | assumption), at_map (by assumption), ?_⟩ | refine ⟨_, _, (by first | rfl | assumption), (by assumption), ?_⟩ | refine ⟨_, at_map (by assumption), (by decide), ?_⟩ | refine ⟨_, at_map (by assumption), ?_⟩ | (refine (?_ : _ ≤ 140737488355328); simp [rowsLen] <;> omega) | (refine (?_ : _ ≤ 9223372036854775807); simp [rowsLen] <;> omega) | (refine (?_ : _ = rowsLen _); simp [rowsLen] <;> omega) | refine eqv_to _ (app_row rfl) (eqv_to _ app_len ?_) | refine eqv_to _ (app_first rfl) (eqv_to 1 rfl ?_) | refine idx_sl (at_map (by assumption)) (by omega) ?_ | refine idx_ms _ (by first | rfl | assumption) (by first | assumption | omega) ?_ | (change vcFun _ _ _ _ _; refine call_next 0 rfl (by assumption) (by assumption) (by omega) (by omega) ?_; intro v kq hv1 hv2 hkq) | (change vcFun _ _ _ _ _; refine call_one2 0 rfl (by assumption) (by assumption) (by omega) (by omega) ?_; intro bq kq hkq) | (change vcFunD _ _ _ _ _; refine callD_next 0 rfl (by assumption) (by assumption) (by omega) (by omega) ?_; intro v kq hv1 hv2 hkq) | (change vcFunD _ _ _ _ _; refine callD_one2 0 rfl (by assumption) (by assumption) (by omega) (by omega) ?_; intro bq kq hkq) | fail)
  all_goals first
    | exact ret_obj [0] [dice t ky] rfl rfl ⟨rfl, trivial⟩ (r' := ag y.cells) rfl ⟨y, ky, hky, ⟨hy1, hy2⟩, rfl, rfl⟩
    | exact ret_obj [0] [dice t kq] rfl rfl ⟨rfl, trivial⟩ (r' := ag x.cells) rfl ⟨x, kq, hkq, ⟨by omega, by omega⟩, rfl, rfl⟩

def okE (e : Exam) : Bool := decide (e.studs.length ≤ 70) && decide (e.feats.length ≤ 20)
def shortB (x : Exams) : Bool := (x.exams.take 30).all okE && (decide (x.rooms.length ≤ 20) && decide (x.exams.length ≤ 30) && decide (x.sits.length ≤ 30))
end Go.Proofs.YtpnghlibmpainaaGreat.Cw
