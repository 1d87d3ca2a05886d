/-
  Cw, part L: an abstract state may be made weaker: slices frozen, a nil slice read as an empty one.
-/
import Derived.Test.YtlhakdmenohdnaaCwH
namespace Go.Cw
set_option linter.unusedVariables false
section
variable {P : Program} {T : Tab} {n nh : Nat}

theorem PLe.refl {p : PV} : PLe p p := fun _ _ _ h => h

theorem PLe.nil {z : Nat} : PLe (.val (.slice none 0 0)) (.sl z []) := fun I w v h => by
  cases h with
  | val v => exact PRel.sl (xs := []) (ad := none) (cap := 0) (fun _ _ => undef) (Nat.le_refl _) (fun i r h => by simp at h) (fun i r j p h => by simp at h)

def PLeL : List PV → List PV → Prop
  | [], [] => True
  | p :: l, q :: m => PLe p q ∧ PLeL l m
  | _, _ => False

def PLeLL : List (List PV) → List (List PV) → Prop
  | [], [] => True
  | p :: l, q :: m => PLeL p q ∧ PLeLL l m
  | _, _ => False

theorem PLeL.spec : ∀ {l m : List PV}, PLeL l m → m.length = l.length ∧ ∀ (j : Nat) y, m[j]? = some y → ∃ x, l[j]? = some x ∧ PLe x y
  | [], [], _ => ⟨rfl, fun j y h => by simp at h⟩
  | x :: l, y :: m, h => by
    obtain ⟨h1, h2⟩ := PLeL.spec h.2
    refine ⟨by simp [h1], fun j z hj => ?_⟩
    cases j with
    | zero => simp at hj; subst hj; exact ⟨x, rfl, h.1⟩
    | succ j => simpa using h2 j z (by simpa using hj)
  | [], _ :: _, h => h.elim
  | _ :: _, [], h => h.elim

theorem PLeLL.spec : ∀ {l m : List (List PV)}, PLeLL l m → m.length = l.length ∧ ∀ (j : Nat) y, m[j]? = some y → ∃ x, l[j]? = some x ∧ PLeL x y
  | [], [], _ => ⟨rfl, fun j y h => by simp at h⟩
  | x :: l, y :: m, h => by
    obtain ⟨h1, h2⟩ := PLeLL.spec h.2
    refine ⟨by simp [h1], fun j z hj => ?_⟩
    cases j with
    | zero => simp at hj; subst hj; exact ⟨x, rfl, h.1⟩
    | succ j => simpa using h2 j z (by simpa using hj)
  | [], _ :: _, h => h.elim
  | _ :: _, [], h => h.elim

theorem PLeL.refl : ∀ {l : List PV}, PLeL l l
  | [] => trivial
  | _ :: _ => ⟨PLe.refl, PLeL.refl⟩
theorem PLeLL.refl : ∀ {l : List (List PV)}, PLeLL l l
  | [] => trivial
  | _ :: _ => ⟨PLeL.refl, PLeLL.refl⟩
theorem PLeLL.map {α : Type} {f g : α → List PV} : ∀ {l : List α}, (∀ x ∈ l, PLeL (f x) (g x)) → PLeLL (l.map f) (l.map g)
  | [], _ => trivial
  | x :: l, h => ⟨h x (by simp), PLeLL.map fun y hy => h y (by simp [hy])⟩

theorem PLe.sl {z : Nat} {xs ys : List (List PV)} (h : PLeLL xs ys) : PLe (.sl z xs) (.sl z ys) := fun I w v hv => by
  obtain ⟨hl, hs⟩ := h.spec
  generalize hx : PV.sl z xs = x at hv
  cases hv with
  | val v => cases hx
  | ia u h0 h1 h2 => cases hx
  | fn hl h => cases hx
  | sl u hc h1 h2 =>
    injection hx with e1 e2; subst e1; subst e2
    rw [← hl]
    refine .sl u (by rw [hl]; exact hc) (fun i r hr => ?_) (fun i r j p hr hp => ?_)
    · obtain ⟨r0, hr0, hle⟩ := hs i r hr
      obtain ⟨g1, g2⟩ := h1 i r0 hr0
      exact ⟨by rw [hle.spec.1]; exact g1, g2⟩
    · obtain ⟨r0, hr0, hle⟩ := hs i r hr
      obtain ⟨p0, hp0, hpl⟩ := hle.spec.2 j p hp
      exact hpl _ _ _ (h2 i r0 j p0 hr0 hp0)

theorem ALe.pv {p q : PV} (h : PLe p q) : ALe (.pv p) (.pv q) := fun I β w v hv => by
  cases hv with
  | pv hv => exact .pv (h _ _ _ hv)

theorem ALe.agg {l m : List AV} (h : ALeL l m) : ALe (.agg l) (.agg m) := fun I β w v hv => by
  obtain ⟨h1, h2⟩ := h.spec
  cases hv with
  | agg hl hc =>
    refine .agg (by rw [hl, h1]) fun j c hj => ?_
    obtain ⟨x, hx, hxc⟩ := h2 j c hj
    exact hxc _ _ _ _ (hc j x hx)

theorem ALe.tup {l m : List AV} (h : ALeL l m) : ALe (.tup l) (.tup m) := fun I β w v hv => by
  obtain ⟨h1, h2⟩ := h.spec
  cases hv with
  | tup hl hc =>
    refine .tup (by rw [hl, h1]) fun j c hj => ?_
    obtain ⟨x, hx, hxc⟩ := h2 j c hj
    exact hxc _ _ _ _ (hc j x hx)

theorem ACall.weak {f : FuncId} {args : List AV} {H : Heap} {Post Post' : AV → Heap → Prop} (h : ACall P f args H Post) (hp : ∀ r H', Post r H' → ∃ r2, ALe r r2 ∧ Post' r2 H') : ACall P f args H Post' :=
  ⟨h.1, fun I β w vs h1 h2 h3 => (h.2 I β w vs h1 h2 h3).mono fun e w' ⟨r, H', I', β', v, e1, e2, e3, e4, e5⟩ => by
    obtain ⟨r2, g1, g2⟩ := hp r H' e2
    exact ⟨r2, H', I', β', v, e1, g2, e3, g1 _ _ _ _ e4, e5⟩⟩

theorem PCall.weak {f : FuncId} {args : List AV} {Post Post' : AV → Prop} (h : PCall P f args Post) (hp : ∀ r, Post r → ∃ r2, ALe r r2 ∧ Post' r2) : PCall P f args Post' :=
  ACall.weak h fun r H' ⟨e, k⟩ => by
    obtain ⟨r2, g1, g2⟩ := hp r k
    exact ⟨r2, g1, e, g2⟩

theorem ACall.le_args {f : FuncId} {args as : List AV} {H : Heap} {Post : AV → Heap → Prop} (hle : ALeL args as) (h : ACall P f as H Post) : ACall P f args H Post := by
  obtain ⟨l1, l2⟩ := hle.spec
  refine ⟨h.1, fun I β w vs h1 h2 h3 => h.2 I β w vs h1 (by rw [h2, l1]) fun j c hj => ?_⟩
  obtain ⟨x, hx, hxc⟩ := l2 j c hj
  exact hxc _ _ _ _ (h3 j x hx)

theorem Ghost.weak {Γ : Slots} {H : Heap} {s : Nat} {x y : AV} (h : get Γ s = some x) (hle : ALe x y) : Ghost n nh Γ H ((s, y) :: Γ) H := fun I0 β0 w0 a w _ ⟨I, β, hs⟩ =>
  ⟨I, β, hs.h, hs.defers, hs.size, fun t z hz => by
    rw [get_cons] at hz
    split at hz
    · rename_i e; subst e; injection hz with hz; subst hz
      exact hle _ _ _ _ (hs.slot _ _ h)
    · exact hs.slot _ _ hz, hs.evo, hs.free⟩

/-- Fewer slots. -/
theorem Ghost.keep {Γ Γ' : Slots} {H : Heap} (h : ∀ s x, get Γ' s = some x → get Γ s = some x) : Ghost n nh Γ H Γ' H := fun I0 β0 w0 a w _ ⟨I, β, hs⟩ =>
  ⟨I, β, hs.h, hs.defers, hs.size, fun t z hz => hs.slot _ _ (h _ _ hz), hs.evo, hs.free⟩

/-- Nobody writes any more what a slot leads to. -/
theorem Ghost.freeze {Γ : Slots} {H : Heap} {s : Nat} {x y : AV} (h : get Γ s = some x) (hc : conv H x = some y) (hok : ok1 H x) : Ghost n nh Γ H ((s, y) :: Γ) (app H (frz H (ids1 H x))) := fun I0 β0 w0 a w _ ⟨I, β, hs⟩ => by
  let ids := ids1 H x
  let J : Nat → Prop := fun b => I b ∨ ∃ id ∈ ids, ∃ c, β[id]? = some (some c) ∧ c.1 = b
  have hH := hs.h
  have hIJ : ∀ b, I b → J b := fun b h => .inl h
  have hJlt : ∀ b, J b → b < w.heap.size := fun b h => by
    rcases h with h | ⟨id, _, c, h, rfl⟩
    · exact hH.imm b h
    · exact hH.lt id c h
  have hkI : ∀ b, I b → w.heap[b]? = w.heap[b]? ∧ J b := fun b hb => ⟨rfl, hIJ b hb⟩
  have hget := frz_get ids H H (fun i ⟨o, ho⟩ => ⟨o, ho, .inl ho⟩)
  have hmono : ∀ {x : AV} {v : Value}, ARel I β w x v → ARel J β w x v := fun h => h.mono hkI (fun _ _ h => h) (fun _ _ _ h => h)
  refine ⟨J, β, ⟨by rw [app_length]; exact hH.len, fun i o2 ho2 => ?_, fun i j oi oj b b' hi hj hbi hbj hbb => ?_, hJlt, hH.lt⟩, hs.defers, hs.size, fun t z hz => ?_,
    ⟨hs.evo.os, hs.evo.tape, hs.evo.output, hs.evo.size, hs.evo.pre, hs.evo.fresh, hs.evo.keep, fun b hb => ⟨(hs.evo.keepI b hb).1, hIJ b (hs.evo.keepI b hb).2⟩, fun b hb hJ => ?_, hs.evo.shape⟩, hs.free⟩
  · have ho2 : (app H (frz H ids))[i]? = some (some o2) := ho2
    rw [hget i] at ho2
    cases hHi : H[i]? with
    | none => simp [hHi] at ho2
    | some oo =>
      cases oo with
      | none => simp [hHi] at ho2
      | some o =>
        obtain ⟨b, hb, h1, h2, c, h3, h4⟩ := hH.obj i o hHi
        refine ⟨b, hb, ?_⟩
        simp only [hHi] at ho2
        have hcells : ∀ i j x, rowCell o.rows i j = some x → ∃ v, c[(i + b.2) * o.z + j]? = some v ∧ v.oneCell' = true ∧ ARel J β w x v := fun i j x hx => by
          obtain ⟨v, hv, h5, h6⟩ := h4 i j x hx
          exact ⟨v, hv, h5, hmono h6⟩
        by_cases hi : i ∈ ids
        · rw [if_pos hi] at ho2
          injection ho2 with ho2; injection ho2 with ho2; subst ho2
          exact ⟨h1, ⟨fun _ => .inr ⟨i, hi, b, hb, rfl⟩, fun _ => rfl⟩, c, h3, hcells⟩
        · rw [if_neg hi] at ho2
          injection ho2 with ho2; injection ho2 with ho2; subst ho2
          refine ⟨h1, ⟨fun e => hIJ b.1 (h2.1 e), fun hI => h2.2 ?_⟩, c, h3, hcells⟩
          rcases hI with h | ⟨id, hid, c', h, hc'⟩
          · exact h
          · exfalso
            obtain ⟨oid, hoid⟩ := ids1_live hid
            exact hi (hH.inj id i oid o c' b hoid hHi h hb hc' ▸ hid)
  · have live : ∀ {i : Nat} {oi : AObj}, (app H (frz H ids))[i]? = some (some oi) → ∃ o, H[i]? = some (some o) := fun {i oi} hi => by
      rw [hget i] at hi
      cases hHi : H[i]? with
      | none => simp [hHi] at hi
      | some oo => cases oo with
        | none => simp [hHi] at hi
        | some o => exact ⟨o, rfl⟩
    obtain ⟨o1, h1⟩ := live hi
    obtain ⟨o2, h2⟩ := live hj
    exact hH.inj i j o1 o2 b b' h1 h2 hbi hbj hbb
  · rw [get_cons] at hz
    split at hz
    · rename_i e; subst e; injection hz with hz; subst hz
      exact conv_sound hH hIJ hc hok (hs.slot _ _ h) (fun id hid b hb => .inr ⟨id, hid, b, hb, rfl⟩)
    · exact hmono (hs.slot _ _ hz)
  · rcases hJ with h | ⟨id, _, c, h, hc⟩
    · exact hs.evo.old b hb h
    · rcases hs.evo.fresh id c h with h2 | ⟨j, c', h2, h3⟩
      · omega
      · exact .inr ⟨j, c', h2, h3.trans hc⟩

end
end Go.Cw
