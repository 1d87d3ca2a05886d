/-
  Cw, part T: the words of walks.
-/
import Derived.Test.YtlhakdmenohdnaaCwXF
import Derived.Test.YtlhakdmenohdnaaCwK
namespace Go.Cw
section
variable {P : Program} {T : Tab} {n : Nat} {H : Heap} {K : AV → Heap → Prop} {f : FuncId} {args as0 as : List AV} {v : AV}

theorem ret_pure {r r0 : AV} {Post : AV → Prop} (hc : conv H r = some r0) (hok : ok1 H r) (h : Post r0) : retOk 0 r H (fun r H' => H' = [] ∧ Post r) := by
  refine ⟨[], [], rfl, rfl, trivial, .inr ?_⟩
  rw [hc]
  refine ⟨hok, r0, rfl, ?_, rfl, h⟩
  simp [disj]

/-- A call with pure arguments whose result is a scalar. -/
theorem call_scal {Post : AV → Prop} (hc : mapO (conv H) args = some as0) (hok : andL (ok1 H) args) (hle : ALeL as0 as) (hp : PCall P f as Post) (hK : ∀ r, Post r → scal r = true ∧ K r H) : vcFun P f args H K := by
  refine ⟨args, ALeL.refl, .inl ?_⟩
  rw [hc]
  exact ⟨hok, as0, Post, rfl, hp.le_args hle, fun r hr => .inl (hK r hr)⟩

theorem call_eq (hc : mapO (conv H) args = some as0) (hok : andL (ok1 H) args) (hle : ALeL as0 as) (hp : PCall P f as (fun r => r = v)) (hv : scal v = true) (hK : K v H) : vcFun P f args H K :=
  call_scal hc hok hle hp fun r hr => by subst hr; exact ⟨hv, hK⟩

/-- A call with pure arguments; what they lead to is frozen. -/
theorem call_frz {Post : AV → Prop} (hc : mapO (conv H) args = some as0) (hok : andL (ok1 H) args) (hle : ALeL as0 as) (hp : PCall P f as Post) (hK : ∀ r, Post r → K r (app H (frz H (args.flatMap (ids1 H))))) : vcFun P f args H K := by
  refine ⟨args, ALeL.refl, .inl ?_⟩
  rw [hc]
  exact ⟨hok, as0, Post, rfl, hp.le_args hle, fun r hr => .inr (hK r hr)⟩

/-- A call that is handed objects. -/
theorem call_obj {Post : AV → Heap → Prop} (ids : List Nat) (Hc : Heap) (as : List AV) (hd : allD ids = true) (hp : passed H H.length ids ids Hc) (ha : args = renL H.length ids as) (hc : ACall P f as Hc Post)
    (hK : ∀ r Hc', Post r Hc' → ids.length ≤ Hc'.length ∧ K (renC 0 (ids ++ tabl H.length (Hc'.length - ids.length)) r) (taken 0 (ids ++ tabl H.length (Hc'.length - ids.length)) ids Hc' H)) : vcFun P f args H K :=
  ⟨args, ALeL.refl, .inr ⟨ids, Hc, as, Post, hd, hp, ha, hc, hK⟩⟩

theorem callD_eq {K : AV → Upd → List Nat → Prop} (hc : mapO (conv H) args = some as0) (hok : andL (ok1 H) args) (hle : ALeL as0 as) (hp : PCall P f as (fun r => r = v)) (hv : scal v || (args.flatMap (ids1 H)).isEmpty = true) (hK : K v [] (args.flatMap (rds1 H))) : vcFunD P f args H K := by
  refine ⟨args, ALeL.refl, .inl ?_⟩
  rw [hc]
  exact ⟨hok, as0, v, rfl, ACall.le_args hle hp, by simpa using hv, hK⟩

theorem callD_obj {K : AV → Upd → List Nat → Prop} {r : AV} {Hc' : Heap} (ids : List Nat) (Hc : Heap) (as : List AV) (hd : allD ids = true) (hp : passed H H.length ids ids Hc) (ha : args = renL H.length ids as)
    (hc : ACall P f as Hc (fun x Hx => x = r ∧ Hx = Hc')) (hl : Hc'.length = ids.length) (hK : K (renC 0 ids r) (updOf 0 ids ids Hc') ids) : vcFunD P f args H K :=
  ⟨args, ALeL.refl, .inr ⟨ids, Hc, as, r, Hc', hd, hp, ha, hc, hl, hK⟩⟩

/-- A call that is handed one object, of pure cells. -/
theorem call_one {i : Nat} {o : AObj} {Post : AV → Heap → Prop} (hi : H[i]? = some (some o)) (ho : ∀ d rn, renO d rn o = o) (as : List AV) (ha : args = renL H.length [i] as) (hc : ACall P f as [some o] Post)
    (hK : ∀ r Hc', Post r Hc' → ∃ o', Hc' = [some o'] ∧ (∀ d rn, renO d rn o' = o') ∧ (∀ d rn, renC d rn r = r) ∧ K r (H.set i (some o'))) : vcFun P f args H K := by
  refine call_obj [i] [some o] as rfl ⟨by rw [ho]; exact hi, trivial⟩ ha hc fun r Hc' hp => ?_
  obtain ⟨o', rfl, h1, h2, h3⟩ := hK r Hc' hp
  refine ⟨Nat.le_refl _, ?_⟩
  simp only [List.length_cons, List.length_nil, Nat.sub_self, tabl, List.append_nil, taken, renOpt, h1, h2, List.map_nil]
  exact h3

/-- A call that is handed pure values and makes one object. -/
theorem call_new {o : AObj} {z : Nat} (as : List AV) (ha : args = renL H.length [] as) (hc : ACall P f as [] (fun r H' => r = .ptr 0 z 0 0 ∧ H' = [some o])) (ho : ∀ d rn, renO d rn o = o) (hK : K (.ptr H.length z 0 0) (H ++ [some o])) : vcFun P f args H K := by
  refine call_obj [] [] as rfl trivial ha hc fun r Hc' hp => ?_
  obtain ⟨rfl, rfl⟩ := hp
  refine ⟨Nat.zero_le _, ?_⟩
  simp only [List.length_cons, List.length_nil, tabl, List.nil_append, taken, renOpt, ho, List.map_cons, List.map_nil]
  exact hK

theorem callD_one {K : AV → Upd → List Nat → Prop} {i : Nat} {o o' : AObj} {r : AV} (hi : H[i]? = some (some o)) (ho : ∀ d rn, renO d rn o = o) (as : List AV) (ha : args = renL H.length [i] as) (hc : ACall P f as [some o] (fun x Hx => x = r ∧ Hx = [some o']))
    (ho' : ∀ d rn, renO d rn o' = o') (hr : ∀ d rn, renC d rn r = r) (hK : K r [(i, some o')] [i]) : vcFunD P f args H K := by
  refine callD_obj [i] [some o] as rfl ⟨by rw [ho]; exact hi, trivial⟩ ha hc rfl ?_
  simp only [updOf, renOpt, ho', hr]
  exact hK

/-- A result and objects are handed back. -/
theorem ret_obj {k : Nat} {r r' : AV} {H : Heap} {Post : AV → Heap → Prop} (rn : List Nat) (H' : Heap) (hd : allD rn = true) (ht : rn.take k = tabl 0 k) (hk : kept H H.length rn rn H') (hr : r = renC H.length rn r') (h : Post r' H') : retOk k r H Post :=
  ⟨rn, H', hd, ht, hk, .inl ⟨r', hr, h⟩⟩

/-- A pure result, and objects. -/
theorem ret_conv {k : Nat} {r r0 : AV} {H : Heap} {Post : AV → Heap → Prop} (rn : List Nat) (H' : Heap) (hd : allD rn = true) (ht : rn.take k = tabl 0 k) (hk : kept H H.length rn rn H') (hc : conv H r = some r0) (hok : ok1 H r) (hdis : disj (ids1 H r) rn = true) (h : Post r0 H') : retOk k r H Post := by
  refine ⟨rn, H', hd, ht, hk, .inr ?_⟩
  rw [hc]
  exact ⟨hok, r0, rfl, hdis, h⟩

theorem slot_eq {Γ : Slots} {s : Nat} {x y : AV} (h : get Γ s = some x) (e : x = y) : get Γ s = some y := e ▸ h

theorem wrap64 {x : Int} (h1 : -9223372036854775808 ≤ x) (h2 : x ≤ 9223372036854775807) : IntKind.i64.wrap x = x := by
  simp only [IntKind.wrap, IntKind.min, IntKind.max, IntKind.bits, IntKind.signed] at *
  first | omega | (simp; omega)

theorem at_map {α β : Type} {f : α → β} {l : List α} {i : Nat} {x : α} (h : l[i]? = some x) : (l.map f)[i]? = some (f x) := by simp [h]

theorem getE {α : Type} {l : List α} {i : Nat} (h : i < l.length) : ∃ x, l[i]? = some x := ⟨_, List.getElem?_eq_getElem h⟩

theorem all_take_succ {α : Type} {p : α → Bool} {l : List α} {i : Nat} {x : α} (h : l[i]? = some x) : (l.take (i + 1)).all p = ((l.take i).all p && p x) := by
  obtain ⟨hi, rfl⟩ := List.getElem?_eq_some_iff.1 h
  rw [List.take_succ_eq_append_getElem hi, List.all_append]; simp

theorem eqv_wrap {x : Int} {K : Int → Prop} (h1 : -9223372036854775808 ≤ x) (h2 : x ≤ 9223372036854775807) (h : K x) : eqv (IntKind.i64.wrap x) K := ⟨x, wrap64 h1 h2, h⟩
theorem eqv_len_map {α β : Type} {f : α → β} {l : List α} {K : Nat → Prop} (h : K l.length) : eqv (l.map f).length K := ⟨_, by simp, h⟩
theorem eqv_zero {k : Nat} {K : Nat → Prop} (h : K k) : eqv (0 + k) K := ⟨_, by simp, h⟩
theorem eqv_rfl {α : Type} {a : α} {K : α → Prop} (h : K a) : eqv a K := ⟨_, rfl, h⟩
theorem eqv_to {α : Type} {a : α} {K : α → Prop} (b : α) (e : a = b) (h : K b) : eqv a K := ⟨b, e, h⟩

theorem idx_sl {n : Int} {xs : List (List PV)} {r : List PV} {k : Nat} {K : List PV → Prop} (h1 : xs[k]? = some r) (h2 : n = ↑k) (h : K r) : ∃ (k : Nat) (r : List PV), n = ↑k ∧ xs[k]? = some r ∧ K r := ⟨k, r, h2, h1, h⟩

theorem idx_ms {n : Int} {len off : Nat} {K : Nat → Prop} (k : Nat) (h1 : n = ↑k) (h2 : k < len) (h : eqv (off + k) K) : ∃ k : Nat, n = ↑k ∧ k < len ∧ eqv (off + k) K := ⟨k, h1, h2, h⟩

/-- An array of one-cell rows. -/
theorem set_map {α : Type} {f : α → List PV} {s : List α} {i : Nat} {y : α} {p q : PV} {r : List PV} (hp : f y = [p]) (hr : r = [q]) : (s.map f).set i (splice 0 [p] r) = (s.set i y).map f := by
  subst hr; rw [List.map_set, hp]; rfl

theorem idx_in {l : List Int} {v : Int} (h0 : 0 ≤ v) (h1 : v < l.length) : ∃ (k : Nat) (x : Int), v = ↑k ∧ l[k]? = some x ∧ k < l.length := by
  obtain ⟨k, rfl⟩ := Int.eq_ofNat_of_zero_le h0
  have hk : k < l.length := by omega
  exact ⟨k, l[k], rfl, List.getElem?_eq_getElem hk, hk⟩

/-- The states behind a statement. -/
theorem cut_block {nh id id2 : Nat} {ops : Array Oper} {b : Code} {Q Q' : Exit → Slots → Heap → Prop} {Γ : Slots} {H : Heap} (R : ASt → Prop) (k : ∀ S, R S → xCode P T n nh (.block id2 b) Q S.sl S.hp)
    (h : (∀ Γ H, (∃ S, R S ∧ Ref nh Γ H S) → xCode P T n nh (.block id2 b) Q Γ H) → xCode P T n nh (.region id ops true) (thenQ (xCode P T n nh (.block id2 b) Q) Q') Γ H) : xCode P T n nh (.region id ops true) (thenQ (xCode P T n nh (.block id2 b) Q) Q') Γ H :=
  h fun Γ H ⟨S, hS, hr⟩ => ghost_block (Ghost.ref hr) (k S hS)

theorem cut_seq {nh id : Nat} {ops : Array Oper} {b c : Code} {Q Q' : Exit → Slots → Heap → Prop} {Γ : Slots} {H : Heap} (R : ASt → Prop) (k : ∀ S, R S → xCode P T n nh (.seq b c) Q S.sl S.hp)
    (h : (∀ Γ H, (∃ S, R S ∧ Ref nh Γ H S) → xCode P T n nh (.seq b c) Q Γ H) → xCode P T n nh (.region id ops true) (thenQ (xCode P T n nh (.seq b c) Q) Q') Γ H) : xCode P T n nh (.region id ops true) (thenQ (xCode P T n nh (.seq b c) Q) Q') Γ H :=
  h fun Γ H ⟨S, hS, hr⟩ => ghost_seq (Ghost.ref hr) (k S hS)

end
end Go.Cw
