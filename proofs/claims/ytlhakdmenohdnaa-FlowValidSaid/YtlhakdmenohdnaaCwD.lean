/-
  Cw, part D: laws of the relations between abstract and real values.
-/
import Derived.Test.YtlhakdmenohdnaaCwB
import Derived.WalkKit
import Derived.Laws.CopyRow
import Derived.Maps.AppendAt
namespace Go.Cw
set_option linter.unusedVariables false

theorem add_block (a : Addr) (n : Nat) : (a.add n).block = a.block := by unfold Addr.add; split <;> rfl

theorem PRel.mono {I I' : Nat → Prop} {w w' : World} {p : PV} {v : Value} (h : PRel I w p v) (hk : ∀ b, I b → w'.heap[b]? = w.heap[b]? ∧ I' b) : PRel I' w' p v := by
  induction h with
  | val v => exact .val v
  | sl u hc h1 h2 ih =>
    refine .sl u hc (fun i r hr => ?_) (fun i r j p hr hp => ih i r j p hr hp)
    obtain ⟨hl, a, rfl, hI, hcc⟩ := h1 i r hr
    exact ⟨hl, a, rfl, (hk _ hI).2, fun j hj => ⟨(World.cell?_of_block (by rw [add_block]; exact (hk _ hI).1)).trans (hcc j hj).1, (hcc j hj).2⟩⟩
  | ia u h0 h1 h2 ih =>
    refine .ia u (hk _ h0).2 (fun j hj => ?_) ih
    exact ⟨(World.cell?_of_block (by rw [add_block]; exact (hk _ h0).1)).trans (h1 j hj).1, (h1 j hj).2⟩
  | fn hl h ih => exact .fn hl ih

theorem ARel.mono {I I' : Nat → Prop} {β β' : Beta} {w w' : World} {x : AV} {v : Value} (h : ARel I β w x v)
    (hk : ∀ b, I b → w'.heap[b]? = w.heap[b]? ∧ I' b) (hb : ∀ (i : Nat) b, β[i]? = some (some b) → β'[i]? = some (some b))
    (hs : ∀ b t n, w.shape? b = some (t, n) → w'.shape? b = some (t, n)) : ARel I' β' w' x v := by
  induction h with
  | pv h => exact .pv (h.mono hk)
  | agg hl h ih => exact .agg hl ih
  | ms h1 h2 h3 h4 h5 => obtain ⟨t, ht⟩ := h5; exact .ms (hb _ _ h1) h2 h3 h4 ⟨t, hs _ _ _ ht⟩
  | ptr h1 => exact .ptr (hb _ _ h1)
  | fn hl h ih => exact .fn hl ih
  | tup hl h ih => exact .tup hl ih
  | dead v => exact .dead v

theorem Evo.mono {I I' : Nat → Prop} {β β' : Beta} {w w' : World} {x : AV} {v : Value} (h : Evo I β w I' β' w') (hx : ARel I β w x v) : ARel I' β' w' x v :=
  hx.mono h.keepI h.pre h.shape

theorem Evo.refl (I : Nat → Prop) (β : Beta) (w : World) : Evo I β w I β w :=
  ⟨rfl, rfl, rfl, Nat.le_refl _, fun _ _ h => h, fun i b h => .inr ⟨i, b, h, rfl⟩, fun _ _ _ => rfl, fun _ h => ⟨rfl, h⟩, fun _ _ h => .inl h, fun _ _ _ h => h⟩

theorem Evo.trans {I I1 I2 : Nat → Prop} {β β1 β2 : Beta} {w w1 w2 : World} (h : Evo I β w I1 β1 w1) (k : Evo I1 β1 w1 I2 β2 w2) : Evo I β w I2 β2 w2 where
  os := k.os.trans h.os
  tape := k.tape.trans h.tape
  output := k.output.trans h.output
  size := Nat.le_trans h.size k.size
  pre := fun i b hb => k.pre i b (h.pre i b hb)
  fresh := fun i b hb => by
    rcases k.fresh i b hb with h1 | ⟨j, c, hj, hc⟩
    · exact .inl (Nat.le_trans h.size h1)
    · rw [← hc]; exact h.fresh j c hj
  keep := fun b hb hn => by
    refine (k.keep b (Nat.lt_of_lt_of_le hb h.size) (fun i c hi hc => ?_)).trans (h.keep b hb hn)
    rcases h.fresh i c hi with h1 | ⟨j, c', hj, hc'⟩
    · omega
    · exact hn j c' hj (hc'.trans hc)
  keepI := fun b hb => ⟨((k.keepI b (h.keepI b hb).2).1).trans (h.keepI b hb).1, (k.keepI b (h.keepI b hb).2).2⟩
  old := fun b hb hI => by
    rcases k.old b (Nat.lt_of_lt_of_le hb h.size) hI with h1 | ⟨i, hi⟩
    · exact h.old b hb h1
    · obtain ⟨c, hi, hc⟩ := hi
      rcases h.fresh i c hi with h2 | ⟨j, c', hj, hc'⟩
      · omega
      · exact .inr ⟨j, c', hj, hc'.trans hc⟩
  shape := fun b t n hs => k.shape b t n (h.shape b t n hs)

theorem Evo.drew (I : Nat → Prop) (β : Beta) (w : World) : Evo I β w I β w.drew :=
  ⟨rfl, rfl, rfl, Nat.le_refl _, fun _ _ h => h, fun i b h => .inr ⟨i, b, h, rfl⟩, fun _ _ _ => rfl, fun _ h => ⟨rfl, h⟩, fun _ _ h => .inl h, fun _ _ _ h => h⟩

theorem OSim.mono {I I' : Nat → Prop} {β β' : Beta} {w w' : World} {b : Nat × Nat} {o : AObj} (h : OSim I β w b o) (hk : ∀ b, I b → w'.heap[b]? = w.heap[b]? ∧ I' b)
    (hb : ∀ (i : Nat) b, β[i]? = some (some b) → β'[i]? = some (some b)) (hs : ∀ b t n, w.shape? b = some (t, n) → w'.shape? b = some (t, n))
    (hw : w'.heap[b.1]? = w.heap[b.1]?) (hI : I' b.1 → I b.1) : OSim I' β' w' b o := by
  obtain ⟨h1, h2, c, h3, h4⟩ := h
  refine ⟨h1, ⟨fun e => (hk _ (h2.1 e)).2, fun e => h2.2 (hI e)⟩, c, hw.trans h3, fun i j x hx => ?_⟩
  obtain ⟨v, hv, ho, hr⟩ := h4 i j x hx
  exact ⟨v, hv, ho, hr.mono hk hb hs⟩

/-- The world may draw. -/
theorem HSim.drew {I : Nat → Prop} {β : Beta} {H : Heap} {w : World} (h : HSim I β H w) : HSim I β H w.drew :=
  ⟨h.len, fun i o ho => by
    obtain ⟨b, hb, hos⟩ := h.obj i o ho
    exact ⟨b, hb, hos.mono (fun _ h => ⟨rfl, h⟩) (fun _ _ h => h) (fun _ _ _ h => h) rfl (fun h => h)⟩, h.inj, h.imm, h.lt⟩

theorem shape_of_heap {w : World} {b : Nat} {c : Array Value} {t : TypeId} {fr : Nat × Nat} (h : w.heap[b]? = some (.cells c t fr)) : w.shape? b = some (t, c.size) := by
  simp [World.shape?, h]

theorem get_cons (Γ : Slots) (d s : Nat) (v : AV) : get ((d, v) :: Γ) s = if d = s then some v else get Γ s := by
  simp only [get]
  cases h : Nat.beq d s
  · have : d ≠ s := fun e => by subst e; simp at h
    simp [this]
  · have : d = s := Nat.eq_of_beq_eq_true h
    simp [this]

theorem forceL_eq {α : Type} : ∀ (l : List α) (K : List α → Prop), forceL l K = K l
  | [], _ => rfl
  | x :: l, K => by simp only [forceL]; rw [forceL_eq l]

theorem forceH_eq : ∀ (H : Heap) (K : Heap → Prop), forceH H K = K H
  | [], _ => rfl
  | none :: l, K => by simp only [forceH]; rw [forceH_eq l]
  | some ⟨ty, z, fz, .box cs⟩ :: l, K => by simp only [forceH]; rw [forceL_eq, forceH_eq l]
  | some ⟨ty, z, fz, .p xs⟩ :: l, K => by simp only [forceH]; rw [forceH_eq l]
  | some ⟨ty, z, fz, .m xs⟩ :: l, K => by simp only [forceH]; rw [forceH_eq l]

theorem forceV_eq (v : AV) (K : AV → Prop) : forceV v K = K v := by
  cases v <;> simp only [forceV] <;> rw [forceL_eq]

theorem putK_eq (Γ : Slots) (d : Option Tmp) (v : AV) (K : Slots → Prop) : putK Γ d v K = K (put Γ d v) := by
  cases d <;> simp only [putK, put]
  rw [forceV_eq]

theorem appK_eq (H : Heap) (u : Upd) (K : Heap → Prop) : appK H u K = K (app H u) := by
  cases u <;> simp only [appK]
  · rfl
  · rw [forceH_eq]

theorem lenK_eq {α : Type} : ∀ (l : List α) (n : Nat) (K : Nat → Prop), lenK l n K = K (n + l.length)
  | [], n, K => by simp [lenK]
  | x :: l, n, K => by simp only [lenK]; rw [lenK_eq l]; congr 1; simp; omega

/-- What a type's row tells. -/
theorem tyOf_spec {P : Program} {t : TypeId} {size bytes : Nat} {agg : Bool} {tk : TK} {zero : List PV} (h : tyOf P t = some ⟨size, bytes, agg, tk, zero⟩) :
    ∃ i u z, P.info? t = some i ∧ P.underlying t = some u ∧ i.zero = some z ∧ z.cells.size = i.size ∧ i.size = size ∧ i.bytes = bytes ∧
      agg = isAggD u ∧ tk = tkOf u ∧ zero = z.cells.toList.map .val := by
  unfold tyOf at h
  split at h
  · rename_i i u hi hu
    split at h
    · rename_i z hz
      split at h
      · rename_i hs
        injection h with h
        injection h with h1 h2 h3 h4 h5
        exact ⟨i, u, z, hi, hu, hz, hs, h1, h2, h3.symm, h4.symm, h5.symm⟩
      · cases h
    · cases h
  · cases h

theorem pvs_get {l : List PV} {j : Nat} {c : AV} : (pvs l)[j]? = some c ↔ ∃ p, l[j]? = some p ∧ c = .pv p := by
  induction l generalizing j with
  | nil => simp [pvs]
  | cons p l ih => cases j <;> simp [pvs, ih, eq_comm]
theorem pvs_length (l : List PV) : (pvs l).length = l.length := by induction l <;> simp [pvs, *]
theorem pvs_map (l : List PV) : pvs l = l.map .pv := by induction l <;> simp [pvs, *]

end Go.Cw
