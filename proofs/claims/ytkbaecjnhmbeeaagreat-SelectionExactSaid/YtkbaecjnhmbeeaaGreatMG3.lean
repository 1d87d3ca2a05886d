/-
  Part 3 of the proof (CwZ, CwPA, CwPB, CwPC, CwPD, CwH, CwL, CwJ, CwK, CwT, CwTA, CwTB, CwTC, CwTD, CwSA, CwSS, CwSC, CwSK, CwTE): what later parts use. No conditions.
-/
import Derived.Carry
import Derived.ChangeSame
import Derived.WideShapes
import Derived.OpenShut
import Derived.ProofKit
import Derived.Sort.Grow
import Derived.Sort.EncStr
import Derived.Shelf.Sort.Plain
import Derived.Shelf.Slices.In.SortNone
import Derived.Shelf.Slices.CompactS
import Derived.Sort.Walk0
import Derived.Shelf.SlSortCmp.NoneTotal
import Derived.Test.YtkbaecjnhmbeeaaGreatMG2
/-
  Cw, part Z: an operation does the same wherever what it looks at is the same.
-/
namespace Go.Cw
set_option linter.unusedVariables false
set_option linter.unusedSimpArgs false
section
variable {T : Tab} {H : Heap}
theorem intBin_pin {op : BinOp} {k : IntKind} {x y : Int} {K : AV → Prop} (h : intBin op k x y K) : ∃ r, K r ∧ ∀ K' : AV → Prop, K' r → intBin op k x y K' := by
  cases op <;> simp only [intBin, eqv_eq] at h ⊢ <;> first | exact h.elim | exact ⟨_, h, fun _ h => h⟩ | exact ⟨_, h.2, fun _ h' => ⟨h.1, h'⟩⟩
theorem strBin_pin {op : BinOp} {x y : ByteArray} {K : AV → Prop} (h : strBin op x y K) : ∃ r, K r ∧ ∀ K' : AV → Prop, K' r → strBin op x y K' := by
  cases op <;> simp only [strBin] at h ⊢ <;> first | exact h.elim | exact ⟨_, h, fun _ h => h⟩ | exact ⟨_, h.2, fun _ h' => ⟨h.1, h'⟩⟩
theorem eqBin_pin {op : BinOp} {tk : TK} {x y : AV} {K : AV → Prop} (h : eqBin op tk x y K) : ∃ r, K r ∧ ∀ K' : AV → Prop, K' r → eqBin op tk x y K' := by
  unfold eqBin at h
  split at h <;> first | exact h.elim | exact ⟨_, h, fun _ h => h⟩ | exact ⟨_, h.2, fun _ h' => ⟨h.1, h'⟩⟩
theorem eqFs_pin {F : TypeId → List AV → List AV → (Bool → Prop) → Prop} (hF : ∀ t xs ys (K : Bool → Prop), F t xs ys K → ∃ b, K b ∧ ∀ K' : Bool → Prop, K' b → F t xs ys K') : ∀ {fs : List (Nat × TypeId)} {xs ys : List AV} {K : Bool → Prop}, eqFs F fs xs ys K → ∃ b, K b ∧ ∀ K' : Bool → Prop, K' b → eqFs F fs xs ys K'
  | [], _, _, K, h => ⟨true, h, fun _ h => h⟩
  | (off, t) :: fs, xs, ys, K, h => by
    obtain ⟨b, h1, h2⟩ := hF _ _ _ _ h
    obtain ⟨c, h3, h4⟩ := eqFs_pin hF h1
    exact ⟨b && c, h3, fun K' h' => h2 _ (h4 (fun c => K' (b && c)) h')⟩
theorem eqCells_pin : ∀ (d : Nat) (t : TypeId) (xs ys : List AV) (K : Bool → Prop), eqCells T d t xs ys K → ∃ b, K b ∧ ∀ K' : Bool → Prop, K' b → eqCells T d t xs ys K'
  | 0, _, _, _, _, h => h.elim
  | d + 1, t, xs, ys, K, h => by
    unfold eqCells at h
    split at h
    · rename_i hl
      split at h
      · rename_i hs
        split at h
        · split at h
          · rename_i hk; exact ⟨_, h, fun K' h' => by simp only [eqCells, hl, hs, hk]; exact h'⟩
          · exact h.elim
        · exact h.elim
      · rename_i hs
        split at h
        · exact ⟨_, h, fun K' h' => by simp only [eqCells, hl, hs]; exact h'⟩
        · exact h.elim
      · rename_i hs
        split at h
        · exact ⟨_, h, fun K' h' => by simp only [eqCells, hl, hs]; exact h'⟩
        · exact h.elim
      · rename_i hs
        split at h
        · rename_i hm
          obtain ⟨b, h1, h2⟩ := eqFs_pin (eqCells_pin d) h
          exact ⟨b, h1, fun K' h' => by simp only [eqCells, hl, hs, hm]; exact h2 K' h'⟩
        · exact h.elim
      · exact h.elim
    · exact h.elim
theorem vcBin_pin {op : BinOp} {t : TypeId} {x y : AV} {K : AV → Prop} (h : vcBin T op t x y K) : ∃ r, K r ∧ ∀ K' : AV → Prop, K' r → vcBin T op t x y K' := by
  unfold vcBin at h
  split at h
  · split at h
    · rw [eqv_eq] at h; exact ⟨_, h.2, fun _ h' => by simp only [vcBin, eqv_eq]; exact ⟨h.1, h'⟩⟩
    · rw [eqv_eq] at h; exact ⟨_, h.2, fun _ h' => by simp only [vcBin, eqv_eq]; exact ⟨h.1, h'⟩⟩
    · split at h
      · rename_i h1 h2 hk
        obtain ⟨r, h3, h4⟩ := intBin_pin h
        refine ⟨r, h3, fun K' h' => ?_⟩
        simp only [vcBin, hk]
        exact h4 K' h'
      · exact h.elim
  · exact strBin_pin h
  · split at h
    · rename_i hm
      obtain ⟨b, h1, h2⟩ := eqCells_pin _ _ _ _ _ h
      exact ⟨_, h1, fun K' h' => by simp only [vcBin, hm]; exact h2 (fun b => K' (vbool b)) h'⟩
    · rename_i hm
      obtain ⟨b, h1, h2⟩ := eqCells_pin _ _ _ _ _ h
      exact ⟨_, h1, fun K' h' => by simp only [vcBin, hm]; exact h2 (fun b => K' (vbool (!b))) h'⟩
    · exact h.elim
  · split at h
    · rename_i hl
      obtain ⟨r, h3, h4⟩ := eqBin_pin h
      refine ⟨r, h3, fun K' h' => ?_⟩
      simp only [vcBin, hl]
      exact h4 K' h'
    · exact h.elim
theorem vcUn_pin {op : UnOp} {x : AV} {K : AV → Prop} (h : vcUn op x K) : ∃ r, K r ∧ ∀ K' : AV → Prop, K' r → vcUn op x K' := by
  unfold vcUn at h
  split at h <;> first | exact h.elim | exact ⟨_, h, fun _ h => h⟩ | (rw [eqv_eq] at h; exact ⟨_, h, fun K' h => by simp only [vcUn, eqv_eq]; exact h⟩)
theorem vcTake_pin {size : Nat} {agg : Bool} {cs : List AV} {K : AV → Prop} (h : vcTake size agg cs K) : ∃ r, K r ∧ ∀ K' : AV → Prop, K' r → vcTake size agg cs K' := by
  unfold vcTake at h
  split at h
  · split at h
    · rename_i hb
      exact ⟨_, h, fun K' h' => by simp only [vcTake, hb]; exact h'⟩
    · exact h.elim
  · split at h
    · exact ⟨_, h, fun K' h' => h'⟩
    · exact h.elim
theorem vcBuild_pin {t : TypeId} {parts : List (Nat × Operand)} {ρ : Operand → Option AV} {K : AV → Prop} (h : vcBuild T t parts ρ K) : ∃ r, K r ∧ ∀ K' : AV → Prop, K' r → vcBuild T t parts ρ K' := by
  unfold vcBuild at h
  split at h
  · split at h
    · split at h
      · rename_i h1 _ _ _ h2 h3
        exact ⟨_, h, fun K' h' => by simp only [vcBuild, h1, h2, h3]; exact h'⟩
      · exact h.elim
    · rename_i h1
      split at h
      · rename_i h2
        split at h
        · rename_i h3
          exact ⟨_, h, fun K' h' => by simp only [vcBuild, h1, h2, h3]; exact h'⟩
        · exact h.elim
      · exact h.elim
    · exact h.elim
  · exact h.elim
theorem vcIndexAddr_pin {t : TypeId} {x i : AV} {K : AV → Prop} (h : vcIndexAddr T t x i K) : ∃ r, K r ∧ ∀ K' : AV → Prop, K' r → vcIndexAddr T t x i K' := by
  unfold vcIndexAddr at h
  simp only [eqv_eq] at h
  split at h
  · rename_i h1
    split at h
    · split at h
      · rename_i h2
        split at h
        · rename_i h3
          obtain ⟨k, r, e1, e2, hk⟩ := h
          exact ⟨_, hk, fun K' h' => by simp only [vcIndexAddr, eqv_eq, h1, h2, h3]; exact ⟨k, r, e1, e2, h'⟩⟩
        · exact h.elim
      · exact h.elim
    · split at h
      · rename_i h2
        split at h
        · rename_i h3
          obtain ⟨k, e1, e2, hk⟩ := h
          exact ⟨_, hk, fun K' h' => by simp only [vcIndexAddr, eqv_eq, h1, h2, h3]; exact ⟨k, e1, e2, h'⟩⟩
        · exact h.elim
      · exact h.elim
    · split at h
      · rename_i h2
        obtain ⟨k, e1, e2, hk⟩ := h
        exact ⟨_, hk, fun K' h' => by simp only [vcIndexAddr, eqv_eq, h1, h2]; exact ⟨k, e1, e2, h'⟩⟩
      · exact h.elim
    · split at h
      · rename_i h2
        obtain ⟨k, e1, e2, e3, hk⟩ := h
        exact ⟨_, hk, fun K' h' => by simp only [vcIndexAddr, eqv_eq, h1, h2]; exact ⟨k, e1, e2, e3, h'⟩⟩
      · exact h.elim
    · exact h.elim
  · exact h.elim
theorem vcFieldAddr_pin {s : TypeId} {x : AV} {f : Nat} {K : AV → Prop} (h : vcFieldAddr T s x f K) : ∃ r, K r ∧ ∀ K' : AV → Prop, K' r → vcFieldAddr T s x f K' := by
  unfold vcFieldAddr at h
  split at h
  · rename_i h1
    split at h
    · split at h
      · rename_i h2
        split at h
        · rename_i h3
          split at h
          · rename_i h4
            split at h
            · split at h
              · rename_i h5
                exact ⟨_, h, fun K' h' => by simp only [vcFieldAddr, h1, h2, h3, h4, h5]; exact h'⟩
              · exact h.elim
            · exact ⟨_, h, fun K' h' => by simp only [vcFieldAddr, h1, h2, h3, h4]; exact h'⟩
            · exact h.elim
          · exact h.elim
        · exact h.elim
      · exact h.elim
    · exact h.elim
  · exact h.elim
theorem vcField_pin {s : TypeId} {x : AV} {f : Nat} {K : AV → Prop} (h : vcField T s x f K) : ∃ r, K r ∧ ∀ K' : AV → Prop, K' r → vcField T s x f K' := by
  unfold vcField at h
  split at h
  · rename_i h1
    split at h
    · split at h
      · rename_i h2
        split at h
        · rename_i h3
          obtain ⟨r, h4, h5⟩ := vcTake_pin h
          exact ⟨r, h4, fun K' h' => by simp only [vcField, h1, h2, h3]; exact h5 K' h'⟩
        · exact h.elim
      · exact h.elim
    · exact h.elim
  · exact h.elim
theorem vcLen_pin {t : TypeId} {x : AV} {K : AV → Prop} (h : vcLen T t x K) : ∃ r, K r ∧ ∀ K' : AV → Prop, K' r → vcLen T t x K' := by
  unfold vcLen at h
  simp only [eqv_eq] at h
  split at h
  · rename_i h1
    split at h <;> first | exact h.elim | exact ⟨_, h, fun K' h' => by simp only [vcLen, eqv_eq, h1]; exact h'⟩
  · exact h.elim
theorem vcClip_pin {t : TypeId} {x hi mx : AV} {K : AV → Prop} (h : vcClip T t x hi mx K) : ∃ r, K r ∧ ∀ K' : AV → Prop, K' r → vcClip T t x hi mx K' := by
  unfold vcClip at h
  split at h
  · rename_i h1
    split at h
    · split at h
      · rename_i h2
        split at h
        · rename_i h3
          obtain ⟨n, e0, e1, e2, hk⟩ := h
          exact ⟨_, hk, fun K' h' => by simp only [vcClip, h1, h2, h3]; exact ⟨n, e0, e1, e2, h'⟩⟩
        · exact h.elim
      · exact h.elim
    · exact h.elim
  · exact h.elim
theorem vcSlice_pin {t : TypeId} {x : AV} {lo hi : Option AV} {K : AV → Prop} (h : vcSlice T t x lo hi K) : ∃ r, K r ∧ ∀ K' : AV → Prop, K' r → vcSlice T t x lo hi K' := by
  unfold vcSlice at h
  simp only [eqv_eq] at h
  split at h
  · rename_i h1
    split at h
    · split at h
      · rename_i h2
        split at h
        · rename_i h3
          obtain ⟨a, b, e1, e2, e3, e4, hk⟩ := h
          exact ⟨_, hk, fun K' h' => by simp only [vcSlice, eqv_eq, h1, h2, h3]; exact ⟨a, b, e1, e2, e3, e4, h'⟩⟩
        · exact h.elim
      · exact h.elim
    · split at h
      · rename_i h2
        split at h
        · rename_i h3
          obtain ⟨a, b, e1, e2, e3, e4, hk⟩ := h
          exact ⟨_, hk, fun K' h' => by simp only [vcSlice, eqv_eq, h1, h2, h3]; exact ⟨a, b, e1, e2, e3, e4, h'⟩⟩
        · exact h.elim
      · exact h.elim
    · split at h
      · rename_i h2
        obtain ⟨e1, e2, hk⟩ := h
        exact ⟨_, hk, fun K' h' => by simp only [vcSlice, eqv_eq, h1, h2]; exact ⟨e1, e2, h'⟩⟩
      · exact h.elim
    · obtain ⟨a, b, e1, e2, e3, e4, hk⟩ := h
      exact ⟨_, hk, fun K' h' => by simp only [vcSlice, eqv_eq, h1]; exact ⟨a, b, e1, e2, e3, e4, h'⟩⟩
    · exact h.elim
  · exact h.elim
theorem vcPick_pin {c : AV} {a b : Option AV} {K : AV → Prop} (h : vcPick c a b K) : ∃ r, K r ∧ ∀ K' : AV → Prop, K' r → vcPick c a b K' := by
  unfold vcPick at h
  split at h
  · rename_i t
    cases t
    · have h := h.2 rfl
      split at h
      · exact ⟨_, h, fun K' h' => by simp only [vcPick]; exact ⟨fun e => (by cases e), fun _ => h'⟩⟩
      · exact h.elim
    · have h := h.1 rfl
      split at h
      · exact ⟨_, h, fun K' h' => by simp only [vcPick]; exact ⟨fun _ => h', fun e => by cases e⟩⟩
      · exact h.elim
  · exact h.elim
theorem vcMinMax_pin {m : Bool} {xs : List (Option AV)} {K : AV → Prop} (h : vcMinMax m xs K) : ∃ r, K r ∧ ∀ K' : AV → Prop, K' r → vcMinMax m xs K' := by
  unfold vcMinMax at h
  split at h
  · split at h
    · rename_i h1
      exact ⟨_, h, fun K' h' => by simp only [vcMinMax, h1]; exact h'⟩
    · exact h.elim
  · split at h
    · rename_i h1
      exact ⟨_, h, fun K' h' => by simp only [vcMinMax, h1]; exact h'⟩
    · exact h.elim
  · exact h.elim
theorem vcMakeSlice_pin {t : TypeId} {site : Nat} {l c : AV} {K : AV → Upd → List Nat → Prop} (h : vcMakeSlice T t site l c K) : ∃ r u rd, K r u rd ∧ ∀ K' : AV → Upd → List Nat → Prop, K' r u rd → vcMakeSlice T t site l c K' := by
  unfold vcMakeSlice at h
  simp only [eqv_eq] at h
  split at h
  · rename_i h1
    split at h
    · split at h
      · rename_i h2
        obtain ⟨e0, j, k, e1, e2, e3, e4, e5, hk⟩ := h
        exact ⟨_, _, _, hk, fun K' h' => by simp only [vcMakeSlice, eqv_eq, h1, h2]; exact ⟨e0, j, k, e1, e2, e3, e4, e5, h'⟩⟩
      · exact h.elim
    · exact h.elim
  · exact h.elim
def SameOn (rd : List Nat) (H H' : Heap) : Prop := ∀ id ∈ rd, H'[id]? = H[id]?
theorem vcLoad_pin {t : TypeId} {x : AV} {K : AV → List Nat → Prop} (h : vcLoad T t x H K) : ∃ r rd, K r rd ∧ ∀ (H' : Heap) (K' : AV → List Nat → Prop), SameOn rd H H' → K' r rd → vcLoad T t x H' K' := by
  unfold vcLoad at h
  split at h
  · exact h.elim
  · rename_i h1
    split at h
    · obtain ⟨r, h2, h3⟩ := vcTake_pin h
      exact ⟨r, _, h2, fun H' K' _ h' => by simp only [vcLoad, h1]; exact h3 (fun v => K' v []) h'⟩
    · rename_i id z row col
      split at h
      · rename_i o ho
        have same : ∀ {H' : Heap}, SameOn [id] H H' → H'[id]? = some (some o) := fun hs => (hs id (by simp)).trans ho
        split at h
        · rename_i cs hz hr
          split at h
          · obtain ⟨r, h2, h3⟩ := vcTake_pin h
            exact ⟨r, _, h2, fun H' K' hs h' => by simp only [vcLoad, h1, same hs, hz, hr]; exact h3 (fun v => K' v [id]) h'⟩
          · exact h.elim
        · rename_i xs hz hr
          obtain ⟨w, hw, h⟩ := h
          obtain ⟨r, h2, h3⟩ := vcTake_pin h
          exact ⟨r, _, h2, fun H' K' hs h' => by simp only [vcLoad, h1, same hs, hz, hr]; exact ⟨w, hw, h3 (fun v => K' v [id]) h'⟩⟩
        · rename_i xs hz hr
          obtain ⟨w, hw, h⟩ := h
          obtain ⟨r, h2, h3⟩ := vcTake_pin h
          exact ⟨r, _, h2, fun H' K' hs h' => by simp only [vcLoad, h1, same hs, hz, hr]; exact ⟨w, hw, h3 (fun v => K' v [id]) h'⟩⟩
        · exact h.elim
      · exact h.elim
    · exact h.elim
theorem vcStore_pin {t : TypeId} {x v : AV} {K : Upd → List Nat → Prop} (h : vcStore T t x v H K) : ∃ u rd, K u rd ∧ ∀ (H' : Heap) (K' : Upd → List Nat → Prop), SameOn rd H H' → K' u rd → vcStore T t x v H' K' := by
  unfold vcStore at h
  simp only [eqv_eq] at h
  split at h
  · exact h.elim
  · rename_i h1
    split at h
    · exact h.elim
    · rename_i h2
      split at h
      · rename_i id z row col
        split at h
        · rename_i o ho
          have same : ∀ {H' : Heap}, SameOn [id] H H' → H'[id]? = some (some o) := fun hs => (hs id (by simp)).trans ho
          split at h
          · exact h.elim
          · rename_i h3
            split at h
            · rename_i hr
              split at h
              · split at h
                · rename_i h4
                  exact ⟨_, _, h, fun H' K' hs h' => by simp only [vcStore, eqv_eq, h1, h2, same hs, h3, hr, h4]; exact h'⟩
                · exact h.elim
              · exact h.elim
            · rename_i hr
              split at h
              · rename_i h4
                obtain ⟨r, e1, e2, h⟩ := h
                exact ⟨_, _, h, fun H' K' hs h' => by simp only [vcStore, eqv_eq, h1, h2, same hs, h3, hr, h4]; exact ⟨r, e1, e2, h'⟩⟩
              · rename_i h4
                obtain ⟨r, e1, e2, h⟩ := h
                exact ⟨_, _, h, fun H' K' hs h' => by simp only [vcStore, eqv_eq, h1, h2, same hs, h3, hr, h4]; exact ⟨r, e1, e2, h'⟩⟩
            · rename_i hr
              obtain ⟨r, e1, e2, h⟩ := h
              exact ⟨_, _, h, fun H' K' hs h' => by simp only [vcStore, eqv_eq, h1, h2, same hs, h3, hr]; exact ⟨r, e1, e2, h'⟩⟩
            · exact h.elim
        · exact h.elim
      · exact h.elim
theorem srcRows_same {x : AV} {r : Rows} {rd : List Nat} (h : srcRows H x = some (r, rd)) {H' : Heap} (hs : SameOn rd H H') : srcRows H' x = some (r, rd) := by
  unfold srcRows at h ⊢
  split at h
  · exact h
  · exact h
  · rename_i id z off len
    split at h
    · rename_i o ho
      have same : rd = [id] → H'[id]? = some (some o) := fun e => (hs id (by rw [e]; simp)).trans ho
      split at h
      · rename_i hz hr
        have hrd : rd = [id] := by injection h with h; injection h with _ h; exact h.symm
        simp only [same hrd, hz, hr]; exact h
      · rename_i hz hr
        have hrd : rd = [id] := by injection h with h; injection h with _ h; exact h.symm
        simp only [same hrd, hz, hr]; exact h
      · cases h
    · cases h
  · cases h
theorem vcCopy_pin {t : TypeId} {d x : AV} {K : AV → Upd → List Nat → Prop} (h : vcCopy T t d x H K) :
    ∃ r u rd, K r u rd ∧ ∀ (H' : Heap) (K' : AV → Upd → List Nat → Prop), SameOn rd H H' → K' r u rd → vcCopy T t d x H' K' := by
  unfold vcCopy at h
  simp only [eqv_eq] at h
  split at h
  · rename_i h1
    split at h
    · split at h
      · rename_i h2
        split at h
        · split at h
          · rename_i o h3 ho
            split at h
            · rename_i h4 hr
              obtain ⟨e1, e2, e3, hk⟩ := h
              exact ⟨_, _, _, hk, fun H' K' hs h' => by simp only [vcCopy, eqv_eq, h1, h2, h3, (hs _ (by simp)).trans ho, h4, hr]; exact ⟨e1, e2, e3, h'⟩⟩
            · exact h.elim
          · exact h.elim
        · exact h.elim
      · exact h.elim
    · exact h.elim
  · exact h.elim
theorem vcClear_pin {t : TypeId} {d : AV} {K : AV → Upd → List Nat → Prop} (h : vcClear T t d H K) :
    ∃ r u rd, K r u rd ∧ ∀ (H' : Heap) (K' : AV → Upd → List Nat → Prop), SameOn rd H H' → K' r u rd → vcClear T t d H' K' := by
  unfold vcClear at h
  simp only [eqv_eq] at h
  split at h
  · rename_i h1
    split at h
    · split at h
      · rename_i h2
        split at h
        · split at h
          · rename_i o h3 ho
            split at h
            · rename_i h4 hr
              obtain ⟨e1, e2, e3, hk⟩ := h
              exact ⟨_, _, _, hk, fun H' K' hs h' => by simp only [vcClear, eqv_eq, h1, h2, h3, (hs _ (by simp)).trans ho, h4, hr]; exact ⟨e1, e2, e3, h'⟩⟩
            · exact h.elim
          · exact h.elim
        · exact h.elim
      · exact h.elim
    · exact h.elim
  · exact h.elim
theorem vcAppend_pin {t : TypeId} {site : Nat} {s x : AV} {K : AV → Upd → List Nat → Prop} (h : vcAppend T t site s x H K) :
    ∃ r u rd, K r u rd ∧ ∀ (H' : Heap) (K' : AV → Upd → List Nat → Prop), SameOn rd H H' → K' r u rd → vcAppend T t site s x H' K' := by
  unfold vcAppend at h
  simp only [eqv_eq] at h
  split at h
  · rename_i h1
    split at h
    · split at h
      · rename_i h2
        split at h
        · rename_i rx rdx h3 h4
          split at h
          · obtain ⟨e1, e2, e3, hp, hz⟩ := h
            rcases Nat.eq_zero_or_pos (rowsLen rx) with h0 | h0
            · exact ⟨_, _, _, hz h0, fun H' K' hs h' => by simp only [vcAppend, eqv_eq, h1, h2, h3, srcRows_same h4 hs]; exact ⟨e1, e2, e3, fun h => by omega, fun _ => h'⟩⟩
            · exact ⟨_, _, _, hp h0, fun H' K' hs h' => by simp only [vcAppend, eqv_eq, h1, h2, h3, srcRows_same h4 hs]; exact ⟨e1, e2, e3, fun _ => h', fun h => by omega⟩⟩
          · rename_i id z off len
            split at h
            · rename_i o hz ho
              split at h
              · rename_i hf hc
                obtain ⟨e1, e2, e3, e4, hk⟩ := h
                refine ⟨_, _, _, hk, fun H' K' hs h' => ?_⟩
                have hs1 : SameOn rdx H H' := fun i hi => hs i (by simp [hi])
                have hs2 : H'[id]? = some (some o) := (hs id (by simp)).trans ho
                simp only [vcAppend, eqv_eq, h1, h2, h3, srcRows_same h4 hs1, hz, hs2, hf, hc]
                exact ⟨e1, e2, e3, e4, h'⟩
              · exact h.elim
            · exact h.elim
          · split at h
            · rename_i hz hc
              obtain ⟨e1, e2, e3, hp, hq⟩ := h
              rcases Nat.eq_zero_or_pos (rowsLen rx) with h0 | h0
              · exact ⟨_, _, _, hq h0, fun H' K' hs h' => by simp only [vcAppend, eqv_eq, h1, h2, h3, srcRows_same h4 hs, hz, hc]; exact ⟨e1, e2, e3, fun h => by omega, fun _ => h'⟩⟩
              · exact ⟨_, _, _, hp h0, fun H' K' hs h' => by simp only [vcAppend, eqv_eq, h1, h2, h3, srcRows_same h4 hs, hz, hc]; exact ⟨e1, e2, e3, fun _ => h', fun h => by omega⟩⟩
            · exact h.elim
          · exact h.elim
        · exact h.elim
      · exact h.elim
    · exact h.elim
  · exact h.elim
theorem rowsOf_congr {ρ ρ' : Operand → Option AV} {z : Nat} : ∀ {l : List (Nat × Operand)} {i : Nat}, (∀ x ∈ l.map (·.2), ρ' x = ρ x) → rowsOf ρ' z i l = rowsOf ρ z i l
  | [], i, _ => rfl
  | (k, x) :: l, i, h => by
    have h1 := h x (by simp)
    have h2 : ∀ x ∈ l.map (·.2), ρ' x = ρ x := fun y hy => h y (by simp only [List.map_cons, List.mem_cons]; exact .inr hy)
    simp only [rowsOf, h1, rowsOf_congr h2]
theorem buildCells_congr {ρ ρ' : Operand → Option AV} {fs : List (Nat × TypeId)} : ∀ {l : List (Nat × Operand)} {cs : List AV}, (∀ x ∈ l.map (·.2), ρ' x = ρ x) → buildCells T fs ρ' cs l = buildCells T fs ρ cs l
  | [], cs, _ => rfl
  | (k, x) :: l, cs, h => by
    have h1 := h x (by simp)
    have h2 : ∀ x ∈ l.map (·.2), ρ' x = ρ x := fun y hy => h y (by simp only [List.map_cons, List.mem_cons]; exact .inr hy)
    have h3 : ∀ cs, buildCells T fs ρ' cs l = buildCells T fs ρ cs l := fun cs => buildCells_congr h2
    simp only [buildCells, h1, h3]
theorem vcBuild_congr {ρ ρ' : Operand → Option AV} {t : TypeId} {l : List (Nat × Operand)} {K : AV → Prop} (h : ∀ x ∈ l.map (·.2), ρ' x = ρ x) : vcBuild T t l ρ' K = vcBuild T t l ρ K := by
  have h3 : ∀ fs cs, buildCells T fs ρ' cs l = buildCells T fs ρ cs l := fun fs cs => buildCells_congr h
  simp only [vcBuild, h3]
theorem mapM_congr {ρ ρ' : Operand → Option AV} : ∀ {l : List Operand}, (∀ x ∈ l, ρ' x = ρ x) → l.mapM ρ' = l.mapM ρ
  | [], _ => rfl
  | x :: l, h => by
    have h1 := h x (by simp)
    have h2 : ∀ x ∈ l, ρ' x = ρ x := fun y hy => h y (by simp [hy])
    simp only [List.mapM_cons, h1, mapM_congr h2]
theorem mapO_congr {α γ : Type} {f f' : α → Option γ} : ∀ {l : List α}, (∀ x ∈ l, f' x = f x) → mapO f' l = mapO f l
  | [], _ => rfl
  | x :: l, h => by
    have h1 := h x (by simp)
    have h2 : ∀ x ∈ l, f' x = f x := fun y hy => h y (by simp [hy])
    simp only [mapO, h1, mapO_congr h2]
theorem vcMore_pin {site : Nat} {op : Op} {ρ : Operand → Option AV} {K : AV → Upd → List Nat → Prop} (h : vcMore T site op ρ H K) :
    ∃ r u rd, K r u rd ∧ ∀ (ρ' : Operand → Option AV) (H' : Heap) (K' : AV → Upd → List Nat → Prop), (∀ x ∈ op.operands, ρ' x = ρ x) → SameOn rd H H' → K' r u rd → vcMore T site op ρ' H' K' := by
  unfold vcMore at h
  split at h
  · rename_i t x i
    have o2 : ∀ {ρ' : Operand → Option AV}, (∀ y ∈ (Op.index t x i).operands, ρ' y = ρ y) → ρ' x = ρ x ∧ ρ' i = ρ i := fun h => ⟨h x (by simp [Op.operands]), h i (by simp [Op.operands])⟩
    split at h
    · rename_i h1 h2 hl
      split at h
      · obtain ⟨j, b, e, hb, hk⟩ := h
        exact ⟨_, _, _, hk, fun ρ' H' K' he _ h' => by simp only [vcMore, (o2 he).1, (o2 he).2, h1, h2, hl]; exact ⟨j, b, e, hb, h'⟩⟩
      · exact h.elim
    · rename_i h1 h2 hl
      split at h
      · split at h
        · rename_i hle
          split at h
          · rename_i hp
            obtain ⟨j, e, hj, hle2, h⟩ := h
            obtain ⟨r, h3, h4⟩ := vcTake_pin h
            exact ⟨_, _, _, h3, fun ρ' H' K' he _ h' => by simp only [vcMore, (o2 he).1, (o2 he).2, h1, h2, hl, hle, hp]; exact ⟨j, e, hj, hle2, h4 (fun v => K' v [] []) h'⟩⟩
          · exact h.elim
        · exact h.elim
      · exact h.elim
    · exact h.elim
  · rename_i s d x
    have o1 : ∀ {ρ' : Operand → Option AV}, (∀ y ∈ (Op.convert s d x).operands, ρ' y = ρ y) → ρ' x = ρ x := fun h => h x (by simp [Op.operands])
    split at h
    · rename_i h1 hs hd
      split at h
      · rw [eqv_eq] at h
        exact ⟨_, _, _, h, fun ρ' H' K' he _ h' => by simp only [vcMore, o1 he, h1, hs, hd, eqv_eq]; exact h'⟩
      · exact h.elim
    · rename_i h1 hs hd
      split at h
      · exact ⟨_, _, _, h, fun ρ' H' K' he _ h' => by simp only [vcMore, o1 he, h1, hs, hd]; exact h'⟩
      · exact h.elim
    · rename_i v hni hns h1 hs hd
      split at h
      · split at h
        · rename_i hle
          split at h
          · rename_i hok hrows
            obtain ⟨b, hb, hl, h⟩ := h
            refine ⟨_, _, _, h, fun ρ' H' K' he hsame h' => ?_⟩
            simp only [vcMore, o1 he, h1, hs, hd, hle, hok, srcRows_same hrows hsame]
            exact ⟨b, hb, hl, h'⟩
          · exact h.elim
        · exact h.elim
      · exact h.elim
    · exact h.elim
  · rename_i t
    split at h
    · rename_i hl
      split at h
      · split at h
        · rename_i hk he
          split at h
          · rename_i h1 h2 h3
            exact ⟨_, _, _, h, fun ρ' H' K' _ _ h' => by simp only [vcMore, hl, hk, he, h3]; exact h'⟩
          · rename_i h1 h2 h3
            exact ⟨_, _, _, h, fun ρ' H' K' _ _ h' => by simp only [vcMore, hl, hk, he, h3]; exact h'⟩
          · rename_i h1 h2 h3
            split at h
            · rename_i hle
              exact ⟨_, _, _, h, fun ρ' H' K' _ _ h' => by simp only [vcMore, hl, hk, he, h3, hle]; exact h'⟩
            · exact h.elim
          · exact h.elim
        · exact h.elim
      · exact h.elim
    · exact h.elim
  · rename_i t x i ok
    have o2 : ∀ {ρ' : Operand → Option AV}, (∀ y ∈ (Op.lookup t x i ok).operands, ρ' y = ρ y) → ρ' x = ρ x ∧ ρ' i = ρ i := fun h => ⟨h x (by simp [Op.operands]), h i (by simp [Op.operands])⟩
    split at h
    · rename_i id kv _ _ _ _ _ h1 h2 hl
      split at h
      · rename_i ho
        split at h
        · rename_i hlk hle
          split at h
          · rename_i hck
            rw [eqv_eq] at h
            have same : ∀ {H' : Heap}, SameOn [id] H H' → H'[id]? = H[id]? := fun hs => hs id (by simp)
            split at h
            · rename_i hg
              exact ⟨_, _, _, h, fun ρ' H' K' he hs h' => by simp only [vcMore, (o2 he).1, (o2 he).2, h1, h2, hl, same hs, ho, hlk, hle, hck, eqv_eq, hg]; exact h'⟩
            · rename_i hg
              exact ⟨_, _, _, h, fun ρ' H' K' he hs h' => by simp only [vcMore, (o2 he).1, (o2 he).2, h1, h2, hl, same hs, ho, hlk, hle, hck, eqv_eq, hg]; exact h'⟩
          · exact h.elim
        · exact h.elim
      · exact h.elim
    · exact h.elim
  · rename_i t m i x
    have o3 : ∀ {ρ' : Operand → Option AV}, (∀ y ∈ (Op.mapUpdate t m i x).operands, ρ' y = ρ y) → ρ' m = ρ m ∧ ρ' i = ρ i ∧ ρ' x = ρ x := fun h => ⟨h m (by simp [Op.operands]), h i (by simp [Op.operands]), h x (by simp [Op.operands])⟩
    split at h
    · rename_i id kv _ _ _ _ _ _ h1 h2 h3 hl
      split at h
      · rename_i ho
        split at h
        · rename_i hlk
          split at h
          · rename_i hck hck2
            simp only [eqv_eq] at h
            have same : ∀ {H' : Heap}, SameOn [id] H H' → H'[id]? = H[id]? := fun hs => hs id (by simp)
            exact ⟨_, _, _, h, fun ρ' H' K' he hs h' => by simp only [vcMore, (o3 he).1, (o3 he).2.1, (o3 he).2.2, h1, h2, h3, hl, same hs, ho, hlk, hck, hck2, eqv_eq]; exact h'⟩
          · exact h.elim
        · exact h.elim
      · exact h.elim
    · exact h.elim
  · exact h.elim
theorem vcAppH_pin {t : TypeId} {site : Nat} {s x : AV} {K : AV → Upd → List Nat → Prop} (h : vcAppH T t site s x H K) :
    ∃ r u rd, K r u rd ∧ ∀ (H' : Heap) (K' : AV → Upd → List Nat → Prop), SameOn rd H H' → K' r u rd → vcAppH T t site s x H' K' := by
  unfold vcAppH at h
  split at h
  · rename_i id z off len
    split at h
    · rename_i o ho
      split at h
      · rename_i xs hr
        obtain ⟨r, u, rd, h3, h4⟩ := vcAppend_pin h
        refine ⟨_, _, _, h3, fun H' K' hs h' => ?_⟩
        have ho' : H'[id]? = some (some o) := (hs id (by simp)).trans ho
        simp only [vcAppH, ho', hr]
        refine h4 _ _ (fun i hi => ?_) h'
        by_cases e : id = i
        · subst e
          rw [List.getElem?_set_self (List.getElem?_eq_some_iff.1 ho').1, List.getElem?_set_self (List.getElem?_eq_some_iff.1 ho).1]
        · rw [List.getElem?_set_ne e, List.getElem?_set_ne e]
          exact hs i (by simp [hi])
      · exact h.elim
    · exact h.elim
  · exact h.elim
theorem vcOp_pin {site : Nat} {op : Op} {ρ : Operand → Option AV} {K : AV → Upd → List Nat → Prop} (h : vcOp T site op ρ H K) :
    ∃ r u rd, K r u rd ∧ ∀ (ρ' : Operand → Option AV) (H' : Heap) (K' : AV → Upd → List Nat → Prop), (∀ x ∈ op.operands, ρ' x = ρ x) → SameOn rd H H' → K' r u rd → vcOp T site op ρ' H' K' := by
  have o1 : ∀ {ρ' : Operand → Option AV} {x : Operand} {l : Array Operand}, (∀ x ∈ l, ρ' x = ρ x) → x ∈ l → ρ' x = ρ x := fun h hx => h _ hx
  cases op with
  | move x =>
    simp only [vcOp] at h
    split at h
    · rename_i v hv
      exact ⟨_, _, _, h, fun ρ' H' K' he _ h' => by simp only [vcOp, he x (by simp [Op.operands]), hv]; exact h'⟩
    · exact h.elim
  | assign x =>
    simp only [vcOp] at h
    split at h
    · rename_i v hv
      exact ⟨_, _, _, h, fun ρ' H' K' he _ h' => by simp only [vcOp, he x (by simp [Op.operands]), hv]; exact h'⟩
    · exact h.elim
  | pick c a b =>
    simp only [vcOp] at h
    split at h
    · rename_i v hv
      obtain ⟨r, h1, h2⟩ := vcPick_pin h
      exact ⟨_, _, _, h1, fun ρ' H' K' he _ h' => by simp only [vcOp, he c (by simp [Op.operands]), he a (by simp [Op.operands]), he b (by simp [Op.operands]), hv]; exact h2 (fun v => K' v [] []) h'⟩
    · exact h.elim
  | alloc t =>
    simp only [vcOp] at h
    split at h
    · rename_i hv
      exact ⟨_, _, _, h.2, fun ρ' H' K' he _ h' => by simp only [vcOp, hv]; exact ⟨h.1, h'⟩⟩
    · exact h.elim
  | box t x =>
    simp only [vcOp] at h
    split at h
    · rename_i h1 h2
      split at h
      · rename_i h3
        exact ⟨_, _, _, h, fun ρ' H' K' he _ h' => by simp only [vcOp, he x (by simp [Op.operands]), h1, h2, h3]; exact h'⟩
      · exact h.elim
    · exact h.elim
  | build t ps =>
    simp only [vcOp] at h
    obtain ⟨r, h1, h2⟩ := vcBuild_pin h
    exact ⟨_, _, _, h1, fun ρ' H' K' he _ h' => by
      simp only [vcOp]
      rw [vcBuild_congr (fun x hx => he x (by simpa [Op.operands] using hx))]
      exact h2 (fun v => K' v [] []) h'⟩
  | buildSlice t n ps =>
    simp only [vcOp] at h
    split at h
    · rename_i h1
      split at h
      · split at h
        · rename_i h2
          split at h
          · rename_i h3
            split at h
            · rename_i h4
              exact ⟨_, _, _, h, fun ρ' H' K' he _ h' => by
                simp only [vcOp, h1, h2]
                rw [rowsOf_congr (fun x hx => he x (by simpa [Op.operands] using hx))]
                simp only [h3, h4]; exact h'⟩
            · exact h.elim
          · exact h.elim
        · exact h.elim
      · exact h.elim
    · exact h.elim
  | load t x =>
    simp only [vcOp] at h
    split at h
    · rename_i v hv
      obtain ⟨r, rd, h1, h2⟩ := vcLoad_pin h
      exact ⟨_, _, _, h1, fun ρ' H' K' he hs h' => by simp only [vcOp, he x (by simp [Op.operands]), hv]; exact h2 H' (fun r f => K' r [] f) hs h'⟩
    · exact h.elim
  | store t a x =>
    simp only [vcOp] at h
    split at h
    · rename_i v hv hv2
      obtain ⟨r, rd, h1, h2⟩ := vcStore_pin h
      exact ⟨_, _, _, h1, fun ρ' H' K' he hs h' => by simp only [vcOp, he x (by simp [Op.operands]), he a (by simp [Op.operands]), hv, hv2]; exact h2 H' (fun u f => K' _ u f) hs h'⟩
    · exact h.elim
  | nilCheck x =>
    simp only [vcOp] at h
    split at h <;> first
      | exact h.elim
      | (rename_i hv; exact ⟨_, _, _, h, fun ρ' H' K' he hs h' => by simp only [vcOp, he x (by simp [Op.operands]), hv]; exact h'⟩)
  | binOp op t x y z =>
    simp only [vcOp] at h
    split at h
    · rename_i hv hv2
      obtain ⟨r, h1, h2⟩ := vcBin_pin h
      exact ⟨_, _, _, h1, fun ρ' H' K' he hs h' => by simp only [vcOp, he x (by simp [Op.operands]), he y (by simp [Op.operands]), hv, hv2]; exact h2 (fun v => K' v [] []) h'⟩
    · exact h.elim
  | unOp op t x =>
    simp only [vcOp] at h
    split at h
    · rename_i hv
      obtain ⟨r, h1, h2⟩ := vcUn_pin h
      exact ⟨_, _, _, h1, fun ρ' H' K' he hs h' => by simp only [vcOp, he x (by simp [Op.operands]), hv]; exact h2 (fun v => K' v [] []) h'⟩
    · exact h.elim
  | makeFunc fn first caps =>
    cases fn with
    | func f =>
      simp only [vcOp] at h
      split at h
      · rename_i h1 h2
        exact ⟨_, _, _, h, fun ρ' H' K' he hs h' => by
          simp only [vcOp, h1]
          rw [mapM_congr (fun x hx => he x (by simp only [Op.operands, Array.mem_append]; exact .inr (by simpa using hx)))]
          simp only [h2]; exact h'⟩
      · exact h.elim
    | _ => exact h.elim
  | makeSlice t l c =>
    simp only [vcOp] at h
    split at h
    · rename_i hv hv2
      obtain ⟨r, u, rd, h1, h2⟩ := vcMakeSlice_pin h
      exact ⟨_, _, _, h1, fun ρ' H' K' he hs h' => by simp only [vcOp, he l (by simp [Op.operands]), he c (by simp [Op.operands]), hv, hv2]; exact h2 K' h'⟩
    · exact h.elim
  | slice t x lo hi mx =>
    cases mx with
    | some m =>
      cases lo with
      | some a => exact h.elim
      | none =>
        cases hi with
        | none => exact h.elim
        | some b =>
          simp only [vcOp] at h
          split at h
          · rename_i hv hv2 hv3
            obtain ⟨r, h1, h2⟩ := vcClip_pin h
            exact ⟨_, _, _, h1, fun ρ' H' K' he hs h' => by simp only [vcOp, he x (by simp [Op.operands]), he b (by simp [Op.operands]), he m (by simp [Op.operands]), hv, hv2, hv3]; exact h2 (fun v => K' v [] []) h'⟩
          · exact h.elim
    | none =>
      simp only [vcOp] at h
      split at h
      · rename_i hv
        cases lo with
        | none =>
          cases hi with
          | none =>
            obtain ⟨r, h1, h2⟩ := vcSlice_pin h
            exact ⟨_, _, _, h1, fun ρ' H' K' he hs h' => by simp only [vcOp, he x (by simp [Op.operands]), hv]; exact h2 (fun v => K' v [] []) h'⟩
          | some b =>
            simp only at h
            split at h
            · rename_i hv2
              obtain ⟨r, h1, h2⟩ := vcSlice_pin h
              exact ⟨_, _, _, h1, fun ρ' H' K' he hs h' => by simp only [vcOp, he x (by simp [Op.operands]), he b (by simp [Op.operands]), hv, hv2]; exact h2 (fun v => K' v [] []) h'⟩
            · exact h.elim
        | some a =>
          cases hi with
          | none =>
            simp only at h
            split at h
            · rename_i hv2
              obtain ⟨r, h1, h2⟩ := vcSlice_pin h
              exact ⟨_, _, _, h1, fun ρ' H' K' he hs h' => by simp only [vcOp, he x (by simp [Op.operands]), he a (by simp [Op.operands]), hv, hv2]; exact h2 (fun v => K' v [] []) h'⟩
            · exact h.elim
          | some b =>
            simp only at h
            split at h
            · rename_i hv2 hv3
              obtain ⟨r, h1, h2⟩ := vcSlice_pin h
              exact ⟨_, _, _, h1, fun ρ' H' K' he hs h' => by simp only [vcOp, he x (by simp [Op.operands]), he a (by simp [Op.operands]), he b (by simp [Op.operands]), hv, hv2, hv3]; exact h2 (fun v => K' v [] []) h'⟩
            · exact h.elim
      · exact h.elim
  | fieldAddr s x f =>
    simp only [vcOp] at h
    split at h
    · rename_i hv
      obtain ⟨r, h1, h2⟩ := vcFieldAddr_pin h
      exact ⟨_, _, _, h1, fun ρ' H' K' he hs h' => by simp only [vcOp, he x (by simp [Op.operands]), hv]; exact h2 (fun v => K' v [] []) h'⟩
    · exact h.elim
  | field s x f =>
    simp only [vcOp] at h
    split at h
    · rename_i hv
      obtain ⟨r, h1, h2⟩ := vcField_pin h
      exact ⟨_, _, _, h1, fun ρ' H' K' he hs h' => by simp only [vcOp, he x (by simp [Op.operands]), hv]; exact h2 (fun v => K' v [] []) h'⟩
    · exact h.elim
  | indexAddr t x i =>
    simp only [vcOp] at h
    split at h
    · rename_i hv hv2
      obtain ⟨r, h1, h2⟩ := vcIndexAddr_pin h
      exact ⟨_, _, _, h1, fun ρ' H' K' he hs h' => by simp only [vcOp, he x (by simp [Op.operands]), he i (by simp [Op.operands]), hv, hv2]; exact h2 (fun v => K' v [] []) h'⟩
    · exact h.elim
  | extract x i =>
    simp only [vcOp] at h
    split at h
    · rename_i hv
      split at h
      · rename_i hv2
        exact ⟨_, _, _, h, fun ρ' H' K' he hs h' => by simp only [vcOp, he x (by simp [Op.operands]), hv, hv2]; exact h'⟩
      · exact h.elim
    · exact h.elim
  | call c =>
    obtain ⟨callee, args, ats⟩ := c
    cases callee with
    | builtin b =>
      have ho : ∀ {ρ' : Operand → Option AV}, (∀ x ∈ (Op.call ⟨.builtin b, args, ats⟩).operands, ρ' x = ρ x) → ∀ x ∈ args.toList, ρ' x = ρ x := fun he x hx => he x (by simpa [Op.operands, Call.operands] using hx)
      cases b with
      | len =>
        simp only [vcOp] at h
        split at h
        · rename_i x t h1 h2
          split at h
          · rename_i id hv
            unfold vcMapLen at h
            simp only [eqv_eq] at h
            split at h
            · rename_i hl
              split at h
              · rename_i hob
                exact ⟨_, _, _, h, fun ρ' H' K' he hs h' => by simp only [vcOp, h1, h2, ho he x (by rw [h1]; simp), hv, vcMapLen, hl, hs id (by simp), hob, eqv_eq]; exact h'⟩
              · exact h.elim
            · exact h.elim
          · rename_i v hnm hv
            obtain ⟨r, h3, h4⟩ := vcLen_pin h
            refine ⟨_, _, _, h3, fun ρ' H' K' he hs h' => ?_⟩
            have e := ho he x (by rw [h1]; simp)
            cases v with
            | mp id => exact absurd rfl (hnm id)
            | _ => simp only [vcOp, h1, h2, e, hv]; exact h4 (fun v => K' v [] []) h'
          · exact h.elim
        · exact h.elim
      | append =>
        simp only [vcOp] at h
        split at h
        · rename_i s x t t2 h1 h2
          split at h
          · rename_i hv0 hv hv2
            rcases h with h | h
            · obtain ⟨r, u, rd, h3, h4⟩ := vcAppend_pin h
              exact ⟨_, _, _, h3, fun ρ' H' K' he hs h' => by simp only [vcOp, h1, h2, ho he x (by rw [h1]; simp), ho he s (by rw [h1]; simp), hv0, hv, hv2]; exact .inl (h4 H' K' hs h')⟩
            · obtain ⟨r, u, rd, h3, h4⟩ := vcAppH_pin h
              exact ⟨_, _, _, h3, fun ρ' H' K' he hs h' => by simp only [vcOp, h1, h2, ho he x (by rw [h1]; simp), ho he s (by rw [h1]; simp), hv0, hv, hv2]; exact .inr (h4 H' K' hs h')⟩
          · exact h.elim
        · exact h.elim
      | copy =>
        simp only [vcOp] at h
        split at h
        · rename_i s x t t2 h1 h2
          split at h
          · rename_i hv hv2
            obtain ⟨r, u, rd, h3, h4⟩ := vcCopy_pin h
            exact ⟨_, _, _, h3, fun ρ' H' K' he hs h' => by simp only [vcOp, h1, h2, ho he x (by rw [h1]; simp), ho he s (by rw [h1]; simp), hv, hv2]; exact h4 H' K' hs h'⟩
          · exact h.elim
        · exact h.elim
      | clear =>
        simp only [vcOp] at h
        split at h
        · rename_i s t h1 h2
          split at h
          · rename_i vs hv
            obtain ⟨r, u, rd, h3, h4⟩ := vcClear_pin h
            exact ⟨_, _, _, h3, fun ρ' H' K' he hs h' => by simp only [vcOp, h1, h2, ho he s (by rw [h1]; simp), hv]; exact h4 H' K' hs h'⟩
          · exact h.elim
        · exact h.elim
      | min =>
        simp only [vcOp] at h
        obtain ⟨r, h3, h4⟩ := vcMinMax_pin h
        exact ⟨_, _, _, h3, fun ρ' H' K' he hs h' => by simp only [vcOp]; rw [List.map_congr_left (ho he)]; exact h4 (fun v => K' v [] []) h'⟩
      | max =>
        simp only [vcOp] at h
        obtain ⟨r, h3, h4⟩ := vcMinMax_pin h
        exact ⟨_, _, _, h3, fun ρ' H' K' he hs h' => by simp only [vcOp]; rw [List.map_congr_left (ho he)]; exact h4 (fun v => K' v [] []) h'⟩
      | _ => exact h.elim
    | _ => exact vcMore_pin (T := T) (site := site) h
  | _ => exact vcMore_pin (T := T) (site := site) h
end
end Go.Cw
/-
  Cw, part PA: what an operation of a statement that draws does, wherever its footprint is the same.
-/
namespace Go.Cw
set_option linter.unusedVariables false
set_option linter.unusedSimpArgs false
section
variable {P : Program} {T : Tab} {n nh : Nat}
theorem evF_same {g g' : Nat → Option AV} {ops : Array Oper} {o : Oper} (h : ∀ s ∈ o.looksAt ops, g' s = g s) : ∀ x ∈ o.op.operands, evF g' x = evF g x := fun x hx => by
  cases x with
  | tmp t => exact h t (List.mem_append_left _ (List.mem_filterMap.2 ⟨.tmp t, by simpa using hx, rfl⟩))
  | _ => rfl
theorem vcGuard_dec {ops : Array Oper} {g : Nat → Option AV} {Γ : Slots} (hg : get Γ = g) {dc : Known} (hk : KnOk dc g) {o : Oper} {run skip : Known → Prop} (h : vcGuard ops.toList Γ dc o.guard run skip) :
    ∃ b : Bool, (∀ (g' : Nat → Option AV) (a : Act) (I : Nat → Prop) (β : Beta) (w : World), (∀ s ∈ o.looksAt ops, g' s = g s) → (∀ s x, g' s = some x → ARel I β w x (a.tmps.getD s undef)) → Region.wanted o (yielded ops a.tmps) = b) ∧
      ∃ dc', KnOk dc' g ∧ if b then run dc' else skip dc' := by
  have use : ∀ {dc' : Known} {b : Bool}, KnOk dc' g → (if b then run dc' else skip dc') → (∀ (a : Act) (I : Nat → Prop) (β : Beta) (w : World) (g' : Nat → Option AV), (∀ s ∈ o.looksAt ops, g' s = g s) → (∀ s x, g' s = some x → ARel I β w x (a.tmps.getD s undef)) → Region.wanted o (yielded ops a.tmps) = b) → _ :=
    fun {dc' b} h1 h2 h3 => (⟨b, fun g' a I β w hs hr => h3 a I β w g' hs hr, dc', h1, h2⟩ : ∃ b : Bool, (∀ (g' : Nat → Option AV) (a : Act) (I : Nat → Prop) (β : Beta) (w : World), (∀ s ∈ o.looksAt ops, g' s = g s) → (∀ s x, g' s = some x → ARel I β w x (a.tmps.getD s undef)) → Region.wanted o (yielded ops a.tmps) = b) ∧
      ∃ dc', KnOk dc' g ∧ if b then run dc' else skip dc')
  unfold vcGuard at h
  split at h
  · rename_i hgd
    exact use (b := true) hk h fun a I β w g' _ _ => by simp [Region.wanted, hgd]
  · rename_i j want hgd
    split at h
    · rename_i o' ho'
      split at h
      · rename_i d hd
        have ho2 : ops[j]? = some o' := by simpa using ho'
        have hin : d ∈ o.looksAt ops := by
          simp [Oper.looksAt, hgd, ho2, hd]
        have wn : ∀ b : Bool, g d = some (vbool b) → ∀ (a : Act) (I : Nat → Prop) (β : Beta) (w : World) (g' : Nat → Option AV), (∀ s ∈ o.looksAt ops, g' s = g s) → (∀ s x, g' s = some x → ARel I β w x (a.tmps.getD s undef)) → Region.wanted o (yielded ops a.tmps) = (b == want) := fun b hb a I β w g' hsame hs => by
          have hv := val_inv (hs d _ ((hsame d hin).trans hb))
          have hlt : d < a.tmps.size := by
            rcases Nat.lt_or_ge d a.tmps.size with h | h
            · exact h
            · simp [Array.getD, Nat.not_lt.2 h, undef] at hv
          have h2 : a.tmps[d]? = some (.bool b) := by
            simp [hlt] at hv
            simp [hlt, hv]
          simp [Region.wanted, hgd, yielded, ho2, hd, h2]
        have cons : ∀ b : Bool, g d = some (vbool b) → KnOk ((d, b) :: dc) g := fun b hb s b' hs' => by
          simp only [kn] at hs'
          cases hbeq : Nat.beq d s
          · rw [hbeq] at hs'; exact hk s b' (by simpa using hs')
          · rw [hbeq] at hs'
            have := Nat.eq_of_beq_eq_true hbeq; subst this
            simp only [cond_true, Option.some.injEq] at hs'; subst hs'
            exact hb
        split at h
        · rename_i b hkn
          have hb := hk _ _ hkn
          split at h
          · exact use (b := true) hk h (wn _ hb)
          · exact use (b := true) hk h (wn _ hb)
          · rename_i hne1 hne2
            refine use (b := false) hk h fun a I β w g' h1 h2 => ?_
            rw [wn _ hb a I β w g' h1 h2]
            cases b <;> cases want <;> first | rfl | exact absurd rfl (hne1 · rfl) | exact absurd rfl (hne2 · rfl)
        · split at h
          · rename_i b hb
            rw [hg] at hb
            have hb : g d = some (vbool b) := hb
            split at h
            · cases b
              · exact use (b := false) (cons _ hb) (h.2 rfl) (wn _ hb)
              · exact use (b := true) (cons _ hb) (h.1 rfl) (wn _ hb)
            · cases b
              · exact use (b := true) (cons _ hb) (h.1 rfl) (wn _ hb)
              · exact use (b := false) (cons _ hb) (h.2 rfl) (wn _ hb)
          · rename_i vs hb
            rw [hg] at hb
            refine use (b := false) hk h fun a I β w g' hsame hs => ?_
            have hv := val_inv (hs d _ ((hsame d hin).trans hb))
            have : yielded ops a.tmps j = none := by
              have h2 : a.tmps[d]? = some (.tuple vs) ∨ a.tmps[d]? = none := by
                rcases Nat.lt_or_ge d a.tmps.size with h | h
                · left; simp [h] at hv; simp [h, hv]
                · right; simp [h]
              rcases h2 with h2 | h2 <;> simp [yielded, ho2, hd, h2]
            simp [Region.wanted, hgd, this]
          · exact h.elim
      · exact h.elim
    · exact h.elim
/-! The pure form of a value depends on the objects that are read. -/
theorem flatMap_congr {α γ : Type} {f f' : α → List γ} : ∀ {l : List α}, (∀ x ∈ l, f' x = f x) → l.flatMap f' = l.flatMap f
  | [], _ => rfl
  | x :: l, h => by
    have ih : l.flatMap f' = l.flatMap f := flatMap_congr (fun y hy => h y (by simp [hy]))
    simp only [List.flatMap_cons, h x (by simp), ih]
theorem andL_congr {f f' : AV → Prop} : ∀ {l : List AV}, (∀ x ∈ l, f' x = f x) → andL f' l = andL f l
  | [], _ => rfl
  | .pv p :: l, h => by simp only [andL]; exact andL_congr (fun y hy => h y (by simp [hy]))
  | .agg cs :: l, h => by simp only [andL]; rw [h _ (by simp), andL_congr (fun y hy => h y (by simp [hy]))]
  | .ms .. :: l, h => by simp only [andL]; rw [h _ (by simp), andL_congr (fun y hy => h y (by simp [hy]))]
  | .ptr .. :: l, h => by simp only [andL]; rw [h _ (by simp), andL_congr (fun y hy => h y (by simp [hy]))]
  | .fn .. :: l, h => by simp only [andL]; rw [h _ (by simp), andL_congr (fun y hy => h y (by simp [hy]))]
  | .tup .. :: l, h => by simp only [andL]; rw [h _ (by simp), andL_congr (fun y hy => h y (by simp [hy]))]
  | .mp _ :: l, h => by simp only [andL]; rw [h _ (by simp), andL_congr (fun y hy => h y (by simp [hy]))]
  | .clip .. :: l, h => by simp only [andL]; rw [h _ (by simp), andL_congr (fun y hy => h y (by simp [hy]))]
  | .dead :: l, h => by simp only [andL]; rw [h _ (by simp), andL_congr (fun y hy => h y (by simp [hy]))]
theorem SameOn.sub {rd rd' : List Nat} {H H' : Heap} (h : SameOn rd H H') (hs : ∀ x ∈ rd', x ∈ rd) : SameOn rd' H H' := fun id hid => h id (hs id hid)
theorem same_convC {H H' : Heap} : ∀ (n : Nat) (x : AV), SameOn (rdsC H n x) H H' → convC H' n x = convC H n x ∧ (okC H' n x = okC H n x) ∧ idsC H' n x = idsC H n x
  | 0, x, h => by cases x <;> exact ⟨rfl, rfl, rfl⟩
  | n + 1, .pv p, h => ⟨rfl, rfl, rfl⟩
  | n + 1, .agg cs, h => ⟨rfl, rfl, rfl⟩
  | n + 1, .tup cs, h => ⟨rfl, rfl, rfl⟩
  | n + 1, .dead, h => ⟨rfl, rfl, rfl⟩
  | n + 1, .clip .., h => ⟨rfl, rfl, rfl⟩
  | n + 1, .mp _, h => ⟨rfl, rfl, rfl⟩
  | n + 1, .fn f caps, h => by
    have ih : ∀ x ∈ caps, convC H' n x = convC H n x ∧ (okC H' n x = okC H n x) ∧ idsC H' n x = idsC H n x := fun x hx =>
      same_convC n x (h.sub fun id hid => by simp only [rdsC, List.mem_flatMap]; exact ⟨x, hx, hid⟩)
    simp only [convC, okC, idsC]
    rw [mapO_congr (fun x hx => (ih x hx).1), andL_congr (fun x hx => (ih x hx).2.1), flatMap_congr (fun x hx => (ih x hx).2.2)]
    exact ⟨rfl, rfl, rfl⟩
  | n + 1, .ms id z off len, h => by
    have h0 : H'[id]? = H[id]? := h id (by simp only [rdsC]; split <;> simp)
    simp only [convC, okC, idsC, h0]
    cases hH : H[id]? with
    | none => exact ⟨rfl, rfl, rfl⟩
    | some oo => cases oo with
      | none => exact ⟨rfl, rfl, rfl⟩
      | some o =>
        obtain ⟨ty, oz, fz, rows⟩ := o
        cases rows with
        | box cs => refine ⟨?_, rfl, rfl⟩; simp only; cases Nat.beq oz z <;> rfl
        | p xs => refine ⟨?_, rfl, rfl⟩; simp only; cases Nat.beq oz z <;> rfl
        | mp => refine ⟨?_, rfl, rfl⟩; simp only; cases Nat.beq oz z <;> rfl
        | m xs =>
          have ih : ∀ r ∈ (xs.drop off).take len, ∀ x ∈ r, convC H' n x = convC H n x ∧ (okC H' n x = okC H n x) ∧ idsC H' n x = idsC H n x := fun r hr x hx =>
            same_convC n x (h.sub fun i hi => by
              simp only [rdsC, hH, List.mem_cons, List.mem_flatMap]
              exact .inr ⟨r, hr, x, hx, hi⟩)
          refine ⟨?_, ?_, ?_⟩
          · have e : mapO (mapO (convC H' n)) ((xs.drop off).take len) = mapO (mapO (convC H n)) ((xs.drop off).take len) := mapO_congr (fun r hr => mapO_congr (fun x hx => (ih r hr x hx).1))
            simp only
            cases Nat.beq oz z
            · rfl
            · simp only [e]
          · simp only [eq_iff_iff]
            refine and_congr Iff.rfl (forall_congr' fun r => forall_congr' fun hr => ?_)
            rw [andL_congr (fun x hx => (ih r hr x hx).2.1)]
          · simp only
            rw [flatMap_congr (fun r hr => flatMap_congr (fun x hx => (ih r hr x hx).2.2))]
  | n + 1, .ptr id z row col, h => by
    have h0 : H'[id]? = H[id]? := h id (by simp only [rdsC]; split <;> simp)
    simp only [convC, okC, idsC, h0]
    cases hH : H[id]? with
    | none => exact ⟨rfl, rfl, rfl⟩
    | some oo => cases oo with
      | none => exact ⟨rfl, rfl, rfl⟩
      | some o =>
        obtain ⟨ty, oz, fz, rows⟩ := o
        cases rows with
        | m cs => exact ⟨by cases hz : Nat.beq oz z <;> simp only [hz], rfl, rfl⟩
        | p xs => exact ⟨by cases hz : Nat.beq oz z <;> simp only [hz], rfl, rfl⟩
        | mp => exact ⟨by cases hz : Nat.beq oz z <;> simp only [hz], rfl, rfl⟩
        | box cs =>
          have ih : ∀ x ∈ cs.drop col, convC H' n x = convC H n x ∧ (okC H' n x = okC H n x) ∧ idsC H' n x = idsC H n x := fun x hx =>
            same_convC n x (h.sub fun i hi => by
              simp only [rdsC, hH, List.mem_cons, List.mem_flatMap]
              exact .inr ⟨x, hx, hi⟩)
          refine ⟨?_, ?_, ?_⟩
          · have e : mapO (convC H' n) (cs.drop col) = mapO (convC H n) (cs.drop col) := mapO_congr (fun x hx => (ih x hx).1)
            cases hz : Nat.beq oz z
            · simp only [hz]
            · cases row
              · simp only [hz, e]
              · simp only [hz]
          · simp only
            rw [andL_congr (fun x hx => (ih x hx).2.1)]
          · simp only
            rw [flatMap_congr (fun x hx => (ih x hx).2.2)]
theorem same_conv0 {H H' : Heap} (x : AV) (h : SameOn (rds0 H x) H H') : conv1 H' x = conv1 H x ∧ (ok0 H' x = ok0 H x) ∧ ids0 H' x = ids0 H x := by
  cases x with
  | agg cs =>
    have ih : ∀ x ∈ cs, _ := fun x hx => same_convC 5 x (h.sub fun id hid => by simp only [rds0, List.mem_flatMap]; exact ⟨x, hx, hid⟩)
    simp only [conv1, ok0, ids0]
    rw [mapO_congr (fun x hx => (ih x hx).1), andL_congr (fun x hx => (ih x hx).2.1), flatMap_congr (fun x hx => (ih x hx).2.2)]
    exact ⟨rfl, rfl, rfl⟩
  | _ =>
    simp only [rds0] at h
    obtain ⟨h1, h2, h3⟩ := same_convC 5 _ h
    simp only [conv1, ok0, ids0]
    rw [h1, h2, h3]
    exact ⟨rfl, rfl, rfl⟩
theorem same_conv {H H' : Heap} (x : AV) (h : SameOn (rds1 H x) H H') : conv H' x = conv H x ∧ (ok1 H' x = ok1 H x) ∧ ids1 H' x = ids1 H x := by
  cases x with
  | tup cs =>
    have ih : ∀ x ∈ cs, _ := fun x hx => same_conv0 x (h.sub fun id hid => by simp only [rds1, List.mem_flatMap]; exact ⟨x, hx, hid⟩)
    simp only [conv, ok1, ids1]
    rw [mapO_congr (fun x hx => (ih x hx).1), andL_congr (fun x hx => (ih x hx).2.1), flatMap_congr (fun x hx => (ih x hx).2.2)]
    exact ⟨rfl, rfl, rfl⟩
  | _ =>
    simp only [rds1] at h
    obtain ⟨h1, h2, h3⟩ := same_conv0 _ h
    simp only [conv, ok1, ids1]
    rw [h1, h2, h3]
    exact ⟨rfl, rfl, rfl⟩
end
end Go.Cw
/-
  Cw, part PB: the operations of a statement that draws, each with what it does.
-/
namespace Go.Cw
set_option linter.unusedVariables false
set_option linter.unusedSimpArgs false
section
variable {P : Program} {T : Tab} {n nh : Nat}
structure Tr where
  dst : Option Tmp
  L : List Nat
  r : AV
  u : Upd
  rd : List Nat
  site : Option Nat
abbrev St := (Nat → Option AV) × Heap
def Tr.step (t : Tr) (s : St) : St := (gput s.1 t.dst t.r, app s.2 t.u)
def runS (S : Nat → Bool) : Nat → List Tr → St → St
  | _, [], s => s
  | i, t :: l, s => runS S (i + 1) l (bif S i then t.step s else s)
def Does (P : Program) (ops : Array Oper) (o : Oper) (t : Tr) (s : St) : Prop :=
  ∀ (g' : Nat → Option AV) (H' : Heap) (I : Nat → Prop) (β : Beta) (a : Act) (w : World) (next : Act → World → Prop) (Q : Exit → Act → World → Prop),
    (∀ x ∈ t.L, g' x = s.1 x) → SameOn t.rd s.2 H' → H'.length = s.2.length → HSim I β H' w → (∀ s x, g' s = some x → ARel I β w x (a.tmps.getD s undef)) → (∀ s, t.site = some s → β[s]? = some none) →
    (∀ v I' β' w', HSim I' β' (app H' t.u) w' → ARel I' β' w' t.r v → Evo I β w I' β' w' → (∀ s : Nat, β[s]? = some none → t.site ≠ some s → β'[s]? = some none) → next (a.put o.dst v) w') →
    if Region.wanted o (yielded ops a.tmps) = true then o.wp P a w next Q else next (a.put o.dst undef) w
theorem taken_app {d : Nat} {rn : List Nat} : ∀ {ids : List Nat} {Hc H : Heap}, Hc.length = ids.length → taken d rn ids Hc H = app H (updOf d rn ids Hc)
  | [], [], H, _ => by simp [taken, updOf, app]
  | [], x :: l, H, h => by simp at h
  | i :: l, [], H, h => by simp at h
  | i :: l, o :: Hc, H, h => by
    simp only [taken, updOf, app]
    exact taken_app (by simpa using h)
theorem passed_same {H H' : Heap} {d : Nat} {rn : List Nat} : ∀ {ids : List Nat} {Hc : Heap}, SameOn ids H H' → passed H d rn ids Hc → passed H' d rn ids Hc
  | [], [], _, _ => trivial
  | [], x :: l, _, h => by cases x <;> exact h
  | i :: l, [], _, h => h
  | i :: l, none :: Hc, _, h => h
  | i :: l, some o :: Hc, hs, h => ⟨(hs i (by simp)).trans h.1, passed_same (hs.sub fun x hx => by simp [hx]) h.2⟩
theorem vcFunD0_pin {f : FuncId} {args : List AV} {H : Heap} {K : AV → Upd → List Nat → Prop} (h : vcFunD0 P f args H K) : ∃ r u rd, K r u rd ∧
    ∀ (H' : Heap), SameOn rd H H' → H'.length = H.length → vcFun0 P f args H' (fun r' H2 => r' = r ∧ H2 = app H' u) := by
  rcases h with h | ⟨ids, Hc, as_, r, Hc', h1, h2, h3, h4, h5, h6⟩
  · split at h
    · rename_i as0 hc
      obtain ⟨hok, as_, r, he, hp, hsc, hk⟩ := h
      refine ⟨r, [], _, hk, fun H' hs hl => ?_⟩
      have ih : ∀ x ∈ args, conv H' x = conv H x ∧ (ok1 H' x = ok1 H x) ∧ ids1 H' x = ids1 H x := fun x hx => same_conv x (hs.sub fun id hid => List.mem_flatMap.2 ⟨x, hx, hid⟩)
      refine .inl ?_
      rw [mapO_congr (fun x hx => (ih x hx).1), hc, andL_congr (fun x hx => (ih x hx).2.1)]
      refine ⟨hok, as_, _, he, hp, fun r' hr' => ?_⟩
      subst hr'
      have hids : args.flatMap (ids1 H') = args.flatMap (ids1 H) := flatMap_congr (fun x hx => (ih x hx).2.2)
      rcases Bool.or_eq_true_iff.1 hsc with h | h
      · exact .inl ⟨h, rfl, rfl⟩
      · refine .inr ⟨rfl, ?_⟩
        rw [hids, List.isEmpty_iff.1 h]; rfl
    · exact h.elim
  · refine ⟨_, _, _, h6, fun H' hs hl => .inr ⟨ids, Hc, as_, _, h1, by rw [hl]; exact passed_same hs h2, by rw [hl]; exact h3, h4, fun r' Hx hp => ?_⟩⟩
    obtain ⟨rfl, rfl⟩ := hp
    refine ⟨by omega, ?_, ?_⟩
    · rw [h5, Nat.sub_self]; simp [tabl]
    · rw [h5, Nat.sub_self]; simp only [tabl, List.append_nil]; exact taken_app h5
theorem vcFunD_pin {f : FuncId} {args : List AV} {H : Heap} {K : AV → Upd → List Nat → Prop} (h : vcFunD P f args H K) : ∃ r u rd, K r u rd ∧
    ∀ (H' : Heap), SameOn rd H H' → H'.length = H.length → vcFun P f args H' (fun r' H2 => r' = r ∧ H2 = app H' u) := by
  obtain ⟨as_, hle, h⟩ := h
  obtain ⟨r, u, rd, h1, h2⟩ := vcFunD0_pin h
  exact ⟨r, u, rd, h1, fun H' e1 e2 => ⟨as_, hle, h2 H' e1 e2⟩⟩
theorem call_enter {I : Nat → Prop} {β : Beta} {w : World} (hG : Gl I w) {a : Act} {g : Nat → Option AV} (hs : ∀ s x, g s = some x → ARel I β w x (a.tmps.getD s undef)) {o : Oper} {f : Operand} {args : Array Operand} {ats : Array TypeId}
    (hop : o.op = .call { callee := .value f, args := args, argTypes := ats }) {fv : AV} {vs : List AV} (hfv : evF g f = some fv) (hvs : mapO (evF g) args.toList = some vs) {fid : FuncId} {caps : List AV}
    (hfc : fv = .fn fid caps ∨ ∃ ps, fv = .pv (.fn fid ps) ∧ caps = pvs ps) : ∃ vals : Array Value, vals.size = (vs ++ caps).length ∧ (∀ (j : Nat) c, (vs ++ caps)[j]? = some c → ARel I β w c (vals.getD j undef)) ∧
      (Enterable P fid → (execOp a.eval o).run P w = .ok (.enter fid vals) w) := by
  have hρ : ∀ x v, evF g x = some v → ARel I β w v (a.eval x) := fun x v hx => evF_sound hG hs hx
  have hm : vs.length = args.toList.length ∧ ∀ (j : Nat) y, vs[j]? = some y → ∃ x, args.toList[j]? = some x ∧ evF g x = some y := mapO_spec hvs
  obtain ⟨cv, hcv, hcl2, hcr⟩ := func_inv hfc (hρ _ _ hfv)
  refine ⟨args.map a.eval ++ cv, by simp [hm.1, hcl2], fun j c hj => ?_, fun hent => ?_⟩
  · rcases Nat.lt_or_ge j vs.length with h | h
    · rw [List.getElem?_append_left h] at hj
      obtain ⟨x, hx, hxe⟩ := hm.2 j c hj
      have hlt : j < args.size := by have := (List.getElem?_eq_some_iff.1 hx).1; simpa using this
      have e : (args.map a.eval ++ cv).getD j undef = a.eval x := by
        have hx2 : args[j] = x := by simpa [hlt] using hx
        have h1 : j < (args.map a.eval ++ cv).size := by simp; omega
        simp only [Array.getD, h1, dif_pos]
        show (args.map a.eval ++ cv)[j] = _
        rw [Array.getElem_append_left (by simpa using hlt)]
        simp [hx2]
      rw [e]; exact hρ _ _ hxe
    · rw [List.getElem?_append_right h] at hj
      have hlt := (List.getElem?_eq_some_iff.1 hj).1
      have hsz : vs.length = args.size := by simpa using hm.1
      have e : (args.map a.eval ++ cv).getD j undef = cv.getD (j - vs.length) undef := by
        have h1 : j < (args.map a.eval ++ cv).size := by simp; omega
        have h2 : j - vs.length < cv.size := by omega
        simp only [Array.getD, h1, h2, dif_pos]
        show (args.map a.eval ++ cv)[j] = cv[j - vs.length]
        rw [Array.getElem_append_right (by simp; omega)]
        simp [hsz]
      rw [e]; exact hcr _ c hj
  · obtain ⟨fn, hfn, hname, hbody⟩ := hent
    have hcf : (callFunc fid (args.map a.eval ++ cv)).run P w = .ok (.enter fid (args.map a.eval ++ cv)) w := by
      unfold callFunc
      simp only [Sem.run_bind, run_program, Result.andThen_ok, hfn, hname, Bool.false_eq_true, if_false, hbody, Sem.run_pure]
    simp only [execOp, hop, resolve, hcv, Deferred.ofValue, Sem.run_bind, Sem.run_pure, Result.andThen_ok, invoke]
    simpa using hcf
def Stepped (P : Program) (ops : Array Oper) (dc : Known) (lo : Nat) (o : Oper) (s : St) (K : Slots → Heap → List Nat × List Nat → Prop) : Prop :=
  ∃ t : Tr, t.dst = o.dst ∧ t.L = o.looksAt ops ∧ t.site = (bif isAlloc o.op then some lo else none) ∧ (∀ b, knRes dc o.op = some b → t.r = vbool b) ∧
    (∃ Γ', get Γ' = (t.step s).1 ∧ K Γ' (t.step s).2 (t.rd, keysOf t.u)) ∧ Does P ops o t s
theorem vcStepD_does (hT : TabOk P T) {ops : Array Oper} {lo : Nat} {g : Nat → Option AV} {Γ : Slots} (hg : get Γ = g) {H : Heap} {dc : Known} (hk : KnOk dc g) {o : Oper} {K : Slots → Heap → List Nat × List Nat → Prop}
    (h : vcStepD P T lo o.dst (simpOp dc o.op) Γ H K) (hw : ∀ (g' : Nat → Option AV) (a : Act) (I : Nat → Prop) (β : Beta) (w : World), (∀ s ∈ o.looksAt ops, g' s = g s) → (∀ s x, g' s = some x → ARel I β w x (a.tmps.getD s undef)) → Region.wanted o (yielded ops a.tmps) = true) :
    Stepped P ops dc lo o (g, H) K := by
  have hcl : ∀ {c : Call}, o.op = .call c → knRes dc o.op = none := fun e => by rw [e]; rfl
  unfold vcStepD at h
  split at h
  · rename_i f args ats hop
    have hop' : o.op = .call { callee := .value f, args := args, argTypes := ats } := by
      have hop := hop
      cases ho : o.op <;> rw [ho] at hop <;> simp only [simpOp] at hop <;> try (cases hop; done)
      · split at hop <;> cases hop
      · exact hop
    have hia : isAlloc o.op = false := by rw [hop']; rfl
    rw [ev_eq, hg] at h
    split at h
    · rename_i fv vs hfv hvs
      have key : ∀ {fid : FuncId} {caps : List AV}, (fv = .fn fid caps ∨ ∃ ps, fv = .pv (.fn fid ps) ∧ caps = pvs ps) → vcFunD P fid (vs ++ caps) H (fun r u rd => putK Γ o.dst r fun Γ' => appK H u fun H2 => K Γ' H2 (rd, keysOf u)) → Stepped P ops dc lo o (g, H) K := by
        intro fid caps hfc hcall
        obtain ⟨r, u, rd, hk2, hp⟩ := vcFunD_pin hcall
        rw [putK_eq, appK_eq] at hk2
        refine ⟨⟨o.dst, o.looksAt ops, r, u, rd, none⟩, rfl, rfl, by rw [hia]; rfl, fun b hb => (by rw [hcl hop'] at hb; cases hb), ⟨_, by rw [get_put, hg]; rfl, hk2⟩, ?_⟩
        intro g' H' I β a w next Q h1 h2 h3 h4 h5 h6 h7
        rw [if_pos (hw g' a I β w h1 h5)]
        have hsame := evF_same (ops := ops) (o := o) (g := g) (g' := g') h1
        have hsf : evF g' f = some fv := by rw [hsame f (by rw [hop']; simp [Op.operands, Call.operands])]; exact hfv
        have hsa : mapO (evF g') args.toList = some vs := by
          rw [mapO_congr (fun x hx => hsame x (by rw [hop']; simp only [Op.operands, Call.operands]; simp at hx; simp [hx]))]; exact hvs
        obtain ⟨vals, hl, hrel, hrun⟩ := call_enter (P := P) h4.imm.gl h5 hop' hsf hsa hfc
        obtain ⟨hent, hout⟩ := vcFun_sound h4 hl hrel (hp H' h2 h3)
        unfold Oper.wp
        rw [hrun hent]
        simp only [Oper.upon]
        refine hout.mono fun e w' he => ?_
        obtain ⟨r', H2, I', β', v, rfl, ⟨rfl, rfl⟩, hH2, hr2, hevo, hfr⟩ := he
        exact h7 v I' β' w' hH2 hr2 hevo fun s hs _ => hfr s hs
      unfold vcCallD at h
      split at h
      · exact key (.inr ⟨_, rfl, rfl⟩) h
      · exact key (.inl rfl) h
      · exact h.elim
    · exact h.elim
  · have hop : vcOp T lo o.op (evF g) H fun r u rd => (putK Γ o.dst r fun Γ' => appK H u fun H2 => K Γ' H2 (rd, keysOf u)) ∧ ∀ b, knRes dc o.op = some b → r = vbool b := by
      rw [ev_eq, hg] at h
      exact kn_op hk h
    obtain ⟨r, u, rd, ⟨hk2, hkb⟩, hp⟩ := vcOp_pin hop
    rw [putK_eq, appK_eq] at hk2
    refine ⟨⟨o.dst, o.looksAt ops, r, u, rd, bif isAlloc o.op then some lo else none⟩, rfl, rfl, rfl, hkb, ⟨_, by rw [get_put, hg]; rfl, hk2⟩, ?_⟩
    intro g' H' I β a w next Q h1 h2 h3 h4 h5 h6 h7
    rw [if_pos (hw g' a I β w h1 h5)]
    have hop2 := hp (evF g') H' (fun r' u' rd' => r' = r ∧ u' = u) (evF_same h1) h2 ⟨rfl, rfl⟩
    obtain ⟨r', u', rd', ⟨rfl, rfl⟩, nx, v, w', hrun, hnx, I', β', hH', hr', hevo, hfr⟩ := vcOp_sound hT h4 (fun x v hx => evF_sound h4.imm.gl h5 hx) (o := o) (site := lo) (fun hal => h6 lo (by simp only [hal, cond_true])) hop2
    have hfin : next (a.put o.dst v) w' := h7 v I' β' w' hH' hr' hevo fun s hs hne => by
      refine hfr s hs fun e => ?_
      cases hia : isAlloc o.op
      · rw [hia] at e
        have := (List.getElem?_eq_some_iff.1 hs).1
        simp only [cond_false] at e; omega
      · rw [hia] at e hne
        simp only [cond_true] at e hne
        exact hne (by rw [e])
    unfold Oper.wp
    rw [hrun]
    rcases hnx with rfl | ⟨rfl, rfl⟩
    · exact hfin
    · exact hfin
theorem takeR_cell {n : Nat} {r : Rows} {i j : Nat} {x : AV} (h : rowCell (takeR n r) i j = some x) : rowCell r i j = some x := by
  cases r with
  | box cs => exact h
  | p xs =>
    simp only [takeR, rowCell, List.getElem?_take] at h ⊢
    split at h
    · exact h
    · cases h
  | m xs =>
    simp only [takeR, rowCell, List.getElem?_take] at h ⊢
    split at h
    · exact h
    · cases h
  | mp s k es ck => exact h
theorem takeR_wide {n z : Nat} {r : Rows} (h : rowsWide r z) : rowsWide (takeR n r) z := by
  cases r with
  | box cs => exact h
  | p xs =>
    intro i r hr
    simp only [takeR, List.getElem?_take] at hr
    split at hr
    · exact h i r hr
    · cases hr
  | m xs =>
    intro i r hr
    simp only [takeR, List.getElem?_take] at hr
    split at hr
    · exact h i r hr
    · cases hr
  | mp s k es ck => exact h
theorem takeR_mem {n : Nat} {r : Rows} {c : Array Value} {t : TypeId} : memOf (takeR n r) c t = memOf r c t := by cases r <;> rfl
theorem HSim.cut {I : Nat → Prop} {β : Beta} {H : Heap} {w : World} (h : HSim I β H w) {id : Nat} {o : AObj} (ho : H[id]? = some (some o)) (n : Nat) : HSim I β (H.set id (some { o with rows := takeR n o.rows })) w := by
  have hlt := (List.getElem?_eq_some_iff.1 ho).1
  have back : ∀ (i : Nat) x, (H.set id (some { o with rows := takeR n o.rows }))[i]? = some (some x) → ∃ y, H[i]? = some (some y) := fun i x hx => by
    by_cases e : id = i
    · subst e; exact ⟨o, ho⟩
    · rw [List.getElem?_set_ne e] at hx; exact ⟨x, hx⟩
  refine ⟨by simp [h.len], fun i x hx => ?_, fun i j oi oj b b' hi hj => ?_, h.imm, h.lt⟩
  · by_cases e : id = i
    · subst e
      rw [List.getElem?_set_self hlt] at hx
      injection hx with hx; injection hx with hx; subst hx
      obtain ⟨b, hb, h1, h2, c, h3, h4⟩ := h.obj id o ho
      exact ⟨b, hb, takeR_wide h1, h2, c, h3.trans (congrArg some takeR_mem.symm), fun i j x hx => h4 i j x (takeR_cell hx)⟩
    · rw [List.getElem?_set_ne e] at hx; exact h.obj i x hx
  · obtain ⟨y, hy⟩ := back i oi hi
    obtain ⟨z, hz⟩ := back j oj hj
    exact h.inj i j y z b b' hy hz
theorem app_cut {H : Heap} {id : Nat} {o : Option AObj} {q : Upd} : app (H.set id o) ((id, none) :: q) = app H ((id, none) :: q) := by
  simp only [app, List.set_set]
theorem vcCut_pin {site : Nat} {op : Op} {ρ : Operand → Option AV} {H : Heap} {K : AV → Upd → List Nat → Prop} (h : vcCut T site op ρ H K) :
    ∃ r u rd, K r u rd ∧ ∀ (ρ' : Operand → Option AV) (H' : Heap) (K' : AV → Upd → List Nat → Prop), (∀ x ∈ op.operands, ρ' x = ρ x) → SameOn rd H H' → K' r u rd → vcCut T site op ρ' H' K' := by
  obtain ⟨id, o, n, ho, h⟩ := h
  obtain ⟨r, u, rd, ⟨h1, h2, h3⟩, h4⟩ := vcOp_pin h
  refine ⟨r, u, rd, h1, fun ρ' H' K' he hs h' => ⟨id, o, n, (hs id h2).trans ho, h4 ρ' _ _ he (fun i hi => ?_) ⟨h', h2, h3⟩⟩⟩
  by_cases e : id = i
  · subst e
    rw [List.getElem?_set_self (List.getElem?_eq_some_iff.1 ho).1, List.getElem?_set_self (List.getElem?_eq_some_iff.1 ((hs id hi).trans ho)).1]
  · rw [List.getElem?_set_ne e, List.getElem?_set_ne e]; exact hs i hi
theorem kn_cut {dc : Known} {g : Nat → Option AV} (hk : KnOk dc g) {op : Op} {site : Nat} {H : Heap} {K : AV → Upd → List Nat → Prop} (h : vcCut T site (simpOp dc op) (evF g) H K) :
    vcCut T site op (evF g) H fun r u rd => K r u rd ∧ ∀ b, knRes dc op = some b → r = vbool b := by
  obtain ⟨id, o, n, ho, h⟩ := h
  refine ⟨id, o, n, ho, ?_⟩
  obtain ⟨r, u, rd, ⟨⟨h1, h2, h3⟩, h4⟩, h5⟩ := vcOp_pin (kn_op hk h)
  exact h5 _ _ _ (fun _ _ => rfl) (fun _ _ => rfl) ⟨⟨h1, h4⟩, h2, h3⟩
theorem vcStepDX_does (hT : TabOk P T) {ops : Array Oper} {lo : Nat} {g : Nat → Option AV} {Γ : Slots} (hg : get Γ = g) {H : Heap} {dc : Known} (hk : KnOk dc g) {o : Oper} {K : Slots → Heap → List Nat × List Nat → Prop}
    (h : vcStepDX P T lo o.dst (simpOp dc o.op) Γ H K) (hw : ∀ (g' : Nat → Option AV) (a : Act) (I : Nat → Prop) (β : Beta) (w : World), (∀ s ∈ o.looksAt ops, g' s = g s) → (∀ s x, g' s = some x → ARel I β w x (a.tmps.getD s undef)) → Region.wanted o (yielded ops a.tmps) = true) :
    Stepped P ops dc lo o (g, H) K := by
  rcases h with h | h
  · exact vcStepD_does hT hg hk h hw
  have hop : vcCut T lo o.op (evF g) H fun r u rd => (putK Γ o.dst r fun Γ' => appK H u fun H2 => K Γ' H2 (rd, keysOf u)) ∧ ∀ b, knRes dc o.op = some b → r = vbool b := by
    rw [ev_eq, hg] at h
    exact kn_cut hk h
  obtain ⟨r, u, rd, ⟨hk2, hkb⟩, hp⟩ := vcCut_pin hop
  rw [putK_eq, appK_eq] at hk2
  refine ⟨⟨o.dst, o.looksAt ops, r, u, rd, bif isAlloc o.op then some lo else none⟩, rfl, rfl, rfl, hkb, ⟨_, by rw [get_put, hg]; rfl, hk2⟩, ?_⟩
  intro g' H' I β a w next Q h1 h2 h3 h4 h5 h6 h7
  rw [if_pos (hw g' a I β w h1 h5)]
  obtain ⟨id, ob, n, ho, hop2⟩ := hp (evF g') H' (fun r' u' rd' => r' = r ∧ u' = u) (evF_same h1) h2 ⟨rfl, rfl⟩
  obtain ⟨r', u', rd', ⟨⟨rfl, rfl⟩, _, q, rfl⟩, nx, v, w', hrun, hnx, I', β', hH', hr', hevo, hfr⟩ := vcOp_sound hT (h4.cut ho n) (fun x v hx => evF_sound h4.imm.gl h5 hx) (o := o) (site := lo) (fun hal => h6 lo (by simp only [hal, cond_true])) hop2
  rw [app_cut] at hH'
  have hfin : next (a.put o.dst v) w' := h7 v I' β' w' hH' hr' hevo fun s hs hne => by
    refine hfr s hs fun e => ?_
    cases hia : isAlloc o.op
    · rw [hia] at e
      have := (List.getElem?_eq_some_iff.1 hs).1
      simp only [cond_false] at e; omega
    · rw [hia] at e hne
      simp only [cond_true] at e hne
      exact hne (by rw [e])
  unfold Oper.wp
  rw [hrun]
  rcases hnx with rfl | ⟨rfl, rfl⟩
  · exact hfin
  · exact hfin
end
end Go.Cw
/-
  Cw, part PC: whatever order is drawn, the same is done.
-/
namespace Go.Cw
set_option linter.unusedVariables false
set_option linter.unusedSimpArgs false
section
variable {P : Program} {T : Tab} {n nh : Nat}
theorem app_get_ne : ∀ {u : Upd} {H : Heap} {i : Nat}, i ∉ keysOf u → (app H u)[i]? = H[i]?
  | [], H, i, _ => rfl
  | (k, o) :: u, H, i, h => by
    simp only [keysOf, List.mem_cons, not_or] at h
    simp only [app]
    rw [app_get_ne h.2, List.getElem?_set_ne (fun e => h.1 e.symm)]
theorem app_get_congr : ∀ {u : Upd} {H H' : Heap} {i : Nat}, H.length = H'.length → H[i]? = H'[i]? → (app H u)[i]? = (app H' u)[i]?
  | [], H, H', i, _, h => h
  | (k, o) :: u, H, H', i, hl, h => by
    simp only [app]
    refine app_get_congr (by simpa using hl) ?_
    by_cases hk : k = i
    · subst hk
      simp only [List.getElem?_set_self', h]
    · rw [List.getElem?_set_ne hk, List.getElem?_set_ne hk, h]
theorem app_comm {u u' : Upd} {H : Heap} (h : ∀ x ∈ keysOf u, x ∉ keysOf u') : app (app H u) u' = app (app H u') u := by
  apply List.ext_getElem?
  intro i
  by_cases hi : i ∈ keysOf u
  · rw [app_get_ne (h i hi)]
    exact app_get_congr (by rw [app_length]) (app_get_ne (h i hi)).symm
  · rw [app_get_ne (u := u) hi]
    exact app_get_congr (by rw [app_length]) (app_get_ne hi)
theorem gput_ne {g : Nat → Option AV} {d : Option Tmp} {v : AV} {x : Nat} (h : d ≠ some x) : gput g d v x = g x := by
  cases d with
  | none => rfl
  | some t => simp only [gput]; rw [if_neg]; intro e; exact h (by rw [e])
theorem gput_congr {g g' : Nat → Option AV} {d : Option Tmp} {v : AV} {x : Nat} (h : g x = g' x) : gput g d v x = gput g' d v x := by
  cases d with
  | none => exact h
  | some t => simp only [gput, h]
theorem gput_comm {g : Nat → Option AV} {d d' : Option Tmp} {v v' : AV} (h : ∀ x, d = some x → d' ≠ some x) : gput (gput g d v) d' v' = gput (gput g d' v') d v := by
  funext x
  by_cases hx : d = some x
  · rw [gput_ne (h x hx)]
    exact gput_congr (gput_ne (h x hx)).symm
  · rw [gput_ne (d := d) hx]
    exact gput_congr (gput_ne hx)
def Apart (t t' : Tr) : Prop := (∀ x, t.dst = some x → t'.dst ≠ some x) ∧ ∀ x ∈ keysOf t.u, x ∉ keysOf t'.u
theorem step_comm {t t' : Tr} {s : St} (h : Apart t t') : t'.step (t.step s) = t.step (t'.step s) := by
  unfold Tr.step
  simp only
  rw [gput_comm h.1, app_comm h.2]
theorem runS_comm {S : Nat → Bool} {t : Tr} : ∀ {l : List Tr} {i : Nat} {s : St}, (∀ (k : Nat) t', l[k]? = some t' → S (i + k) = true → Apart t t') → runS S i l (t.step s) = t.step (runS S i l s)
  | [], i, s, _ => rfl
  | t1 :: l, i, s, h => by
    simp only [runS]
    have h' : ∀ (k : Nat) t', l[k]? = some t' → S (i + 1 + k) = true → Apart t t' := fun k t' hk hs => h (k + 1) t' (by simpa using hk) (by rw [← hs]; congr 1; omega)
    cases hS : S i
    · simp only [cond_false]; exact runS_comm h'
    · simp only [cond_true]
      rw [step_comm (h 0 t1 rfl (by simpa using hS))]
      exact runS_comm h'
theorem runS_congr {S S' : Nat → Bool} : ∀ {l : List Tr} {i : Nat} {s : St}, (∀ k, k < l.length → S (i + k) = S' (i + k)) → runS S i l s = runS S' i l s
  | [], i, s, _ => rfl
  | t1 :: l, i, s, h => by
    simp only [runS]
    have h0 : S i = S' i := by have := h 0 (by simp); simpa using this
    rw [h0]
    exact runS_congr fun k hk => by have := h (k + 1) (by simpa using hk); rwa [show i + (k + 1) = i + 1 + k from by omega] at this
theorem runS_insert {S : Nat → Bool} {t : Tr} : ∀ {l : List Tr} {i j : Nat} {s : St}, l[j]? = some t → S (i + j) = false → (∀ (k : Nat) t', j < k → l[k]? = some t' → S (i + k) = true → Apart t t') →
    runS (fun m => S m || m == i + j) i l s = t.step (runS S i l s)
  | [], i, j, s, h, _, _ => by simp at h
  | t1 :: l, i, 0, s, h, hS, hc => by
    simp only [List.getElem?_cons_zero, Option.some.injEq] at h
    subst h
    simp only [Nat.add_zero] at hS
    simp only [runS, hS, Nat.add_zero, beq_self_eq_true, Bool.or_true, cond_true, cond_false]
    rw [← runS_comm fun k t' hk hs => hc (k + 1) t' (by omega) (by simpa using hk) (by rw [← hs]; congr 1; omega)]
    exact runS_congr fun k hk => by
      have : ((i + 1 + k) == i) = false := by simp; omega
      rw [this, Bool.or_false]
  | t1 :: l, i, j + 1, s, h, hS, hc => by
    simp only [runS]
    have h0 : (S i || i == i + (j + 1)) = S i := by
      have : (i == i + (j + 1)) = false := by simp
      rw [this, Bool.or_false]
    rw [h0]
    have := runS_insert (S := S) (t := t) (l := l) (i := i + 1) (j := j) (s := bif S i then t1.step s else s) (by simpa using h) (by rw [← hS]; congr 1; omega)
      (fun k t' hk hl hs => hc (k + 1) t' (by omega) (by simpa using hl) (by rw [← hs]; congr 1; omega))
    rw [show i + (j + 1) = i + 1 + j from by omega]
    exact this
theorem runS_len {S : Nat → Bool} : ∀ {l : List Tr} {i : Nat} {s : St}, (runS S i l s).2.length = s.2.length
  | [], i, s => rfl
  | t :: l, i, s => by
    simp only [runS]
    rw [runS_len]
    cases S i
    · rfl
    · exact app_length _ _
theorem runS_slot {S S' : Nat → Bool} {x : Nat} : ∀ {l : List Tr} {i : Nat} {s s' : St}, s.1 x = s'.1 x → (∀ (k : Nat) t, l[k]? = some t → S (i + k) ≠ S' (i + k) → t.dst ≠ some x) → (runS S i l s).1 x = (runS S' i l s').1 x
  | [], i, s, s', h, _ => h
  | t :: l, i, s, s', h, hc => by
    simp only [runS]
    refine runS_slot ?_ fun k t' hk hne => hc (k + 1) t' (by simpa using hk) (by rwa [show i + (k + 1) = i + 1 + k from by omega])
    have h0 := hc 0 t rfl
    simp only [Nat.add_zero] at h0
    cases hS : S i <;> cases hS' : S' i <;> simp only [cond_true, cond_false, Tr.step]
    · exact h
    · rw [gput_ne (h0 (by rw [hS, hS']; simp)), h]
    · rw [gput_ne (h0 (by rw [hS, hS']; simp)), h]
    · exact gput_congr h
theorem runS_obj {S S' : Nat → Bool} {x : Nat} : ∀ {l : List Tr} {i : Nat} {s s' : St}, s.2.length = s'.2.length → s.2[x]? = s'.2[x]? → (∀ (k : Nat) t, l[k]? = some t → S (i + k) ≠ S' (i + k) → x ∉ keysOf t.u) → (runS S i l s).2[x]? = (runS S' i l s').2[x]?
  | [], i, s, s', _, h, _ => h
  | t :: l, i, s, s', hl, h, hc => by
    simp only [runS]
    have h0 := hc 0 t rfl
    simp only [Nat.add_zero] at h0
    refine runS_obj ?_ ?_ fun k t' hk hne => hc (k + 1) t' (by simpa using hk) (by rwa [show i + (k + 1) = i + 1 + k from by omega])
    · cases S i <;> cases S' i <;> simp only [cond_true, cond_false, Tr.step, app_length, hl]
    · cases hS : S i <;> cases hS' : S' i <;> simp only [cond_true, cond_false, Tr.step]
      · exact h
      · rw [app_get_ne (h0 (by rw [hS, hS']; simp)), h]
      · rw [app_get_ne (h0 (by rw [hS, hS']; simp)), h]
      · exact app_get_congr hl h
theorem runS_none {S : Nat → Bool} : ∀ {l : List Tr} {i : Nat} {s : St}, (∀ k, i ≤ k → S k = false) → runS S i l s = s
  | [], i, s, _ => rfl
  | t :: l, i, s, h => by
    simp only [runS, h i (Nat.le_refl _), cond_false]
    exact runS_none fun k hk => h k (by omega)
def Traced (P : Program) (ops : Array Oper) (n : Nat) (KD : List (List Nat × List Nat) → Slots → Heap → Prop) (l : List Oper) (i lo : Nat) (s : St) (fs : List (List Nat × List Nat)) : Prop := ∃ tr : List Tr, tr.length = l.length ∧
  (∃ Γ', get Γ' = (runS (fun _ => true) i tr s).1 ∧ KD ((tr.map fun t => (t.rd, keysOf t.u)).reverse ++ fs) Γ' (runS (fun _ => true) i tr s).2) ∧
  (∀ (k : Nat) t o, tr[k]? = some t → l[k]? = some o → t.dst = o.dst ∧ t.L = o.looksAt ops ∧ dstOk n o = true ∧ Does P ops o t (runS (fun m => decide (m < i + k)) i tr s)) ∧
  (∀ (k : Nat) t s, tr[k]? = some t → t.site = some s → lo ≤ s ∧ s < lo + allocs l) ∧
  (∀ (k k' : Nat) t t' s, tr[k]? = some t → tr[k']? = some t' → t.site = some s → t'.site = some s → k = k')
theorem vcOpsD_trace (hT : TabOk P T) {ops : Array Oper} {KD : List (List Nat × List Nat) → Slots → Heap → Prop} : ∀ (l : List Oper) (i lo : Nat) (dc : Known) (Γ : Slots) (H : Heap) (fs : List (List Nat × List Nat)),
    KnOk dc (get Γ) → vcOpsD P T n ops.toList l lo KD fs dc Γ H → Traced P ops n KD l i lo (get Γ, H) fs
  | [], i, lo, dc, Γ, H, fs, hk, h => ⟨[], rfl, ⟨Γ, rfl, h⟩, fun k t o h => by simp at h, fun k t s h => by simp at h, fun k k' t t' s h => by simp at h⟩
  | o :: l, i, lo, dc, Γ, H, fs, hk, h => by
    -- what one step and the rest give
    have glue : ∀ (t : Tr) (lo' : Nat) (dc' : Known) (Γ' : Slots), lo ≤ lo' → lo' + allocs l ≤ lo + allocs (o :: l) → (∀ s, t.site = some s → lo ≤ s ∧ s < lo') → t.dst = o.dst → t.L = o.looksAt ops → dstOk n o = true → Does P ops o t (get Γ, H) →
        KnOk dc' (get Γ') → get Γ' = (t.step (get Γ, H)).1 → vcOpsD P T n ops.toList l lo' KD ((t.rd, keysOf t.u) :: fs) dc' Γ' (t.step (get Γ, H)).2 → Traced P ops n KD (o :: l) i lo (get Γ, H) fs := fun t lo' dc' Γ' hlo hhi hsite hd hL hdn hdoes hk' hget hrest => by
      obtain ⟨tr, e1, ⟨Γf, e2, e3⟩, e4, e5, e6⟩ := vcOpsD_trace hT l (i + 1) lo' dc' Γ' _ _ hk' hrest
      have hst : ((get Γ', (t.step (get Γ, H)).2) : St) = t.step (get Γ, H) := by rw [hget]
      rw [hst] at e2 e3 e4
      exact ⟨t :: tr, by simp [e1], ⟨Γf, by simpa [runS] using e2, by simpa [runS] using e3⟩, fun k t' o' hk1 hk2 => by
        cases k with
        | zero =>
          simp only [List.getElem?_cons_zero, Option.some.injEq] at hk1 hk2
          subst hk1; subst hk2
          refine ⟨hd, hL, hdn, ?_⟩
          rw [runS_none fun k hk => by simp; omega]
          exact hdoes
        | succ k =>
          obtain ⟨g1, g2, g3, g4⟩ := e4 k t' o' (by simpa using hk1) (by simpa using hk2)
          refine ⟨g1, g2, g3, ?_⟩
          simp only [runS]
          rw [show decide (i < i + (k + 1)) = true from by simp, cond_true, show (fun m => decide (m < i + (k + 1))) = (fun m => decide (m < i + 1 + k)) from by funext m; congr 1; simp; omega]
          exact g4, fun k t' s hk1 hs => by
        cases k with
        | zero =>
          simp only [List.getElem?_cons_zero, Option.some.injEq] at hk1
          subst hk1
          have := hsite s hs; omega
        | succ k => have := e5 k t' s (by simpa using hk1) hs; omega, fun k k' t1 t2 s hk1 hk2 hs1 hs2 => by
        cases k with
        | zero =>
          cases k' with
          | zero => rfl
          | succ k' =>
            simp only [List.getElem?_cons_zero, Option.some.injEq] at hk1
            subst hk1
            have a1 := hsite s hs1
            have a2 := e5 k' t2 s (by simpa using hk2) hs2
            omega
        | succ k =>
          cases k' with
          | zero =>
            simp only [List.getElem?_cons_zero, Option.some.injEq] at hk2
            subst hk2
            have a1 := hsite s hs2
            have a2 := e5 k t1 s (by simpa using hk1) hs1
            omega
          | succ k' => rw [e6 k k' t1 t2 s (by simpa using hk1) (by simpa using hk2) hs1 hs2]⟩
    have one : ∀ (lo' : Nat), (bif isAlloc o.op then lo + 1 else lo) = lo' → dstOk n o = true →
        vcGuard ops.toList Γ dc o.guard (fun dc' => knPut dc' o fun d2 => vcStepDX P T lo o.dst (simpOp dc' o.op) Γ H fun Γ' H' f => vcOpsD P T n ops.toList l lo' KD (f :: fs) d2 Γ' H')
          (fun dc' => knSkip dc' o fun d2 => putK Γ o.dst (.pv (.val undef)) fun Γ' => vcOpsD P T n ops.toList l lo' KD (([], []) :: fs) d2 Γ' H) → Traced P ops n KD (o :: l) i lo (get Γ, H) fs := fun lo' hlo hd hg => by
      have hb : lo ≤ lo' ∧ lo' + allocs l ≤ lo + allocs (o :: l) := by
        simp only [allocs]
        cases e : isAlloc o.op <;> rw [e] at hlo <;> simp only [cond_true, cond_false] at hlo ⊢ <;> omega
      obtain ⟨b, hdec, dc', hk', hbr⟩ := vcGuard_dec rfl hk hg
      cases b
      · simp only [Bool.false_eq_true, if_false] at hbr
        obtain ⟨d2, h2, h3⟩ := knSkip_spec hk' hbr
        rw [putK_eq] at h2
        refine glue ⟨o.dst, o.looksAt ops, .pv (.val undef), [], [], none⟩ lo' d2 _ hb.1 hb.2 (fun s hs => by cases hs) rfl rfl hd ?_ (by rw [get_put]; exact h3 _) (get_put _ _ _) h2
        intro g' H' I β a w next Q h1 h2 h3 h4 h5 h6 h7
        rw [if_neg (by rw [hdec g' a I β w h1 h5]; exact Bool.false_ne_true)]
        exact h7 undef I β w h4 (rel_val _) (Evo.refl _ _ _) (fun s hs _ => hs)
      · simp only [if_true] at hbr
        obtain ⟨d2, h2, h3⟩ := knPut_spec hk' hbr
        obtain ⟨t, t1, t2, t3, t4, ⟨Γ', t5, t6⟩, t7⟩ := vcStepDX_does (ops := ops) hT rfl hk' h2 (fun g' a I β w => hdec g' a I β w)
        refine glue t lo' d2 Γ' hb.1 hb.2 (fun s hs => ?_) t1 t2 hd t7 (by rw [t5]; simp only [Tr.step, t1]; exact h3 _ t4) t5 t6
        rw [t3] at hs
        cases e : isAlloc o.op <;> rw [e] at hs hlo <;> simp only [cond_true, cond_false] at hs hlo
        · cases hs
        · injection hs with hs; omega
    simp only [vcOpsD] at h
    split at h
    · rename_i hd ha; exact one (lo + 1) (by rw [ha]; rfl) hd h
    · rename_i hd ha; exact one lo (by rw [ha]; rfl) hd h
    · exact h.elim
end
end Go.Cw
/-
  Cw, part PD: statements that draw their order are sound.
-/
namespace Go.Cw
set_option linter.unusedVariables false
set_option linter.unusedSimpArgs false
section
variable {P : Program} {T : Tab} {n nh : Nat}
/-! Masks. -/
theorem mask_fold {acc : List Nat} {i : Nat} : ∀ (es : List Edge) (s : Nat), (es.foldl (fun s e => bif Region.binds .any e then (s ||| 2 ^ e.on) ||| acc.getD e.on 0 else s) s).testBit i = true →
    s.testBit i = true ∨ ∃ e ∈ es, Region.binds .any e = true ∧ (e.on = i ∨ (acc.getD e.on 0).testBit i = true)
  | [], s, h => .inl h
  | e :: es, s, h => by
    simp only [List.foldl_cons] at h
    rcases mask_fold es _ h with h | ⟨e', h1, h2, h3⟩
    · cases hb : Region.binds .any e
      · rw [hb] at h; exact .inl h
      · rw [hb] at h
        simp only [cond_true, Nat.testBit_or, Bool.or_eq_true, Nat.testBit_two_pow, decide_eq_true_eq] at h
        rcases h with (h | h) | h
        · exact .inl h
        · exact .inr ⟨e, by simp, hb, .inl h⟩
        · exact .inr ⟨e, by simp, hb, .inr h⟩
    · exact .inr ⟨e', by simp [h1], h2, h3⟩
def Closed (ops : Array Oper) (S : Nat → Bool) : Prop := ∀ (j : Nat) o, S j = true → ops[j]? = some o → ∀ e ∈ o.after, Region.binds .any e = true → S e.on = true
def MaskOk (ops : Array Oper) (S : Nat → Bool) (acc : List Nat) : Prop := ∀ (j i : Nat), (acc.getD j 0).testBit i = true → (∀ o, ops[j]? = some o → ∀ e ∈ o.after, Region.binds .any e = true → S e.on = true) → S i = true
theorem masks_ok {ops : Array Oper} {S : Nat → Bool} (hS : Closed ops S) : ∀ (l : List Oper) (acc : List Nat), (∀ j, l[j]? = ops[acc.length + j]?) → MaskOk ops S acc → MaskOk ops S (masks l acc)
  | [], acc, _, h => h
  | o :: l, acc, hl, h => by
    simp only [masks]
    refine masks_ok hS l _ (fun j => by have := hl (j + 1); simp only [List.getElem?_cons_succ] at this; rw [this]; congr 1; simp; omega) fun j i hb hp => ?_
    rcases Nat.lt_trichotomy j acc.length with hj | hj | hj
    · rw [List.getD_eq_getElem?_getD, List.getElem?_append_left hj, ← List.getD_eq_getElem?_getD] at hb
      exact h j i hb hp
    · subst hj
      have ho : ops[acc.length]? = some o := by have := hl 0; simpa using this.symm
      rw [List.getD_eq_getElem?_getD, List.getElem?_append_right (Nat.le_refl _), Nat.sub_self, List.getElem?_cons_zero, Option.getD_some] at hb
      unfold maskOf at hb
      rcases mask_fold _ _ hb with hz | ⟨e, h1, h2, h3⟩
      · simp at hz
      · have he : S e.on = true := hp o ho e (by simpa using h1) h2
        rcases h3 with h3 | h3
        · rw [← h3]; exact he
        · exact h e.on i h3 fun o' ho' => hS e.on o' he ho'
    · rw [List.getD_eq_getElem?_getD, List.getElem?_eq_none (by simp; omega)] at hb
      simp at hb
/-! How many are left. -/
def cntF (f : Nat → Bool) : Nat → Nat
  | 0 => 0
  | m + 1 => cntF f m + (bif f m then 1 else 0)
theorem cntF_mono {f g : Nat → Bool} : ∀ {m : Nat}, (∀ k, k < m → g k = true → f k = true) → cntF g m ≤ cntF f m
  | 0, _ => Nat.le_refl _
  | m + 1, h => by
    simp only [cntF]
    have := cntF_mono (f := f) (g := g) (m := m) fun k hk => h k (by omega)
    have h1 := h m (by omega)
    cases hg : g m <;> cases hf : f m <;> simp only [cond_true, cond_false] <;> first | omega | (rw [h1 hg] at hf; cases hf)
theorem cntF_lt {f g : Nat → Bool} {j : Nat} : ∀ {m : Nat}, (∀ k, k < m → g k = true → f k = true) → j < m → f j = true → g j = false → cntF g m < cntF f m
  | 0, _, h, _, _ => by omega
  | m + 1, h, hj, hf, hg => by
    simp only [cntF]
    by_cases e : j = m
    · subst e
      have := cntF_mono (f := f) (g := g) (m := j) fun k hk => h k (by omega)
      rw [hf, hg]; simp only [cond_true, cond_false]; omega
    · have := cntF_lt (f := f) (g := g) (m := m) (fun k hk => h k (by omega)) (by omega) hf hg
      have h1 := h m (by omega)
      cases hg : g m <;> cases hf : f m <;> simp only [cond_true, cond_false] <;> first | omega | (rw [h1 hg] at hf; cases hf)
theorem cntF_zero {f : Nat → Bool} : ∀ {m : Nat}, cntF f m = 0 → ∀ k, k < m → f k = false
  | 0, _, k, hk => by omega
  | m + 1, h, k, hk => by
    simp only [cntF] at h
    by_cases e : k = m
    · subst e
      cases hf : f k
      · rfl
      · rw [hf] at h; simp only [cond_true] at h; omega
    · exact cntF_zero (m := m) (by omega) k (by omega)
variable {I0 : Nat → Prop} {β0 : Beta} {w0 : World}
theorem disj_spec {xs ys : List Nat} (h : disj xs ys = true) : ∀ x ∈ xs, x ∉ ys := fun x hx hy => by
  simp only [disj, List.all_eq_true, Bool.not_eq_true'] at h
  have := h x hx x hy
  simp at this
theorem draws_ok (hT : TabOk P T) (hm : P.follows .mixedOrders = true) : DrawsOk P T n I0 β0 w0 := by
  intro id ops K Q lo Γ H a w hK hs h
  obtain ⟨tr, htl, ⟨Γf, hgf, hdraw, hKf⟩, hdoes, hsites, huniq⟩ := vcOpsD_trace hT ops.toList 0 lo [] Γ H [] (knOk_nil _) h
  have hlen : tr.length = ops.size := by simpa using htl
  simp only [List.append_nil, List.reverse_reverse] at hdraw
  simp only [drawOk, Bool.and_eq_true, List.all_eq_true] at hdraw
  obtain ⟨hd1, hd2⟩ := hdraw
  have hback : ∀ (j : Nat) o, ops[j]? = some o → ∀ e ∈ o.after, Region.binds .any e = true → e.on < j := fun j o ho e he hb => by
    have hmem : (o, j) ∈ ops.toList.zipIdx := by
      rw [List.mem_zipIdx_iff_getElem?]; simpa using ho
    have := hd1 (o, j) hmem
    simp only [List.all_eq_true] at this
    have := this e (by simpa using he)
    rw [hb] at this
    simpa [Nat.blt_eq] using this
  have hpair : ∀ (S : Nat → Bool), Closed ops S → (∀ j, S j = true → j < ops.size) → ∀ (i j : Nat) ti tj, i < j → tr[i]? = some ti → tr[j]? = some tj → (∀ o, ops[j]? = some o → ∀ e ∈ o.after, Region.binds .any e = true → S e.on = true) → S i = false →
      Apart ti tj ∧ (∀ x, ti.dst = some x → x ∉ tj.L) ∧ (∀ x, tj.dst = some x → x ∉ ti.L) ∧ (∀ x ∈ keysOf ti.u, x ∉ tj.rd) ∧ (∀ x ∈ keysOf tj.u, x ∉ ti.rd) := fun S hS hin i j ti tj hij hi hj hp hSi => by
    have hjl : j < ops.size := by rw [← hlen]; exact (List.getElem?_eq_some_iff.1 hj).1
    have := hd2 j (by simpa using hjl) i (by simpa using hij)
    simp only [pairOk, Bool.or_eq_true] at this
    rcases this with hb | hb
    · have hM : MaskOk ops S (masks ops.toList []) := masks_ok hS ops.toList [] (fun j => by simp) (fun j i hb => by simp at hb)
      have := hM j i hb hp
      rw [hSi] at this; cases this
    · have hoi : ops[i]? = some ops[i] := Array.getElem?_eq_getElem (by omega)
      have hoj : ops[j]? = some ops[j] := Array.getElem?_eq_getElem hjl
      simp only [hoi, hoj, List.getElem?_map, hi, hj, Option.map_some, Bool.and_eq_true] at hb
      obtain ⟨⟨⟨hap, h1⟩, h2⟩, h3⟩ := hb
      obtain ⟨a1, a2, a3⟩ := Oper.apart_spec hap
      obtain ⟨di, li, _, _⟩ := hdoes i ti ops[i] hi (by rw [Array.getElem?_toList]; exact hoi)
      obtain ⟨dj, lj, _, _⟩ := hdoes j tj ops[j] hj (by rw [Array.getElem?_toList]; exact hoj)
      refine ⟨⟨fun x hx => by rw [dj]; exact a2 x (by rw [← di]; exact hx), disj_spec h2⟩, fun x hx => by rw [lj]; exact a1 x (by rw [← di]; exact hx), fun x hx => by rw [li]; exact a3 x (by rw [← dj]; exact hx), disj_spec h1, disj_spec h3⟩
  have main : ∀ (fuel : Nat) (listed : Array Bool) (a : Act) (w : World) (I : Nat → Prop) (β : Beta), listed.size = ops.size → Closed ops (fun k => listed.getD k false) → cntF (fun k => !listed.getD k false) ops.size ≤ fuel →
      Sim I0 β0 w0 n 0 0 (runS (fun k => listed.getD k false) 0 tr (get Γ, H)).1 (runS (fun k => listed.getD k false) 0 tr (get Γ, H)).2 I β a w →
      (∀ (k : Nat) t s, tr[k]? = some t → t.site = some s → listed.getD k false = false → β[s]? = some none) → wpAny P .any ops Q fuel listed a w := by
    intro fuel
    induction fuel with
    | zero =>
      intro listed a w I β hsz hcl hcnt hsim hfree
      have hall : ∀ k, k < ops.size → listed.getD k false = true := fun k hk => by
        have := cntF_zero (Nat.le_zero.1 hcnt) k hk
        simpa using this
      refine ⟨?_, hK Γf _ a w ⟨I, β, ?_⟩ hKf⟩
      · apply List.eq_nil_iff_forall_not_mem.2
        intro j hj
        obtain ⟨h1, o, ho, _⟩ := mem_ready.1 hj
        have hjl := (Array.getElem?_eq_some_iff.1 ho).1
        have h2 := hall j hjl
        simp [hsz, hjl] at h1 h2
        rw [h1] at h2; cases h2
      · rw [hgf, ← runS_congr (S := fun k => listed.getD k false) (S' := fun _ => true) fun k hk => hall _ (by omega)]
        exact hsim
    | succ fuel ih =>
      intro listed a w I β hsz hcl hcnt hsim hfree
      refine ⟨fun hr => ?_, fun j hj => ?_⟩
      · have hall : ∀ k, k < ops.size → listed.getD k false = true := fun k => by
          induction k using Nat.strongRecOn with
          | _ k ihk =>
            intro hk
            cases hlk : listed.getD k false
            · exfalso
              have : k ∈ Region.ready .any ops listed := mem_ready.2 ⟨by simp [hsz, hk] at hlk ⊢; exact hlk, ops[k], Array.getElem?_eq_getElem hk, fun e he hb => ihk e.on (hback k _ (Array.getElem?_eq_getElem hk) e he hb) (by
                have := hback k _ (Array.getElem?_eq_getElem hk) e he hb; omega)⟩
              rw [hr] at this; cases this
            · rfl
        refine hK Γf _ a w ⟨I, β, ?_⟩ hKf
        rw [hgf, ← runS_congr (S := fun k => listed.getD k false) (S' := fun _ => true) fun k hk => hall _ (by omega)]
        exact hsim
      · obtain ⟨hj0, o, ho, hpre⟩ := mem_ready.1 hj
        have hjl : j < ops.size := (Array.getElem?_eq_some_iff.1 ho).1
        have hSj : listed.getD j false = false := by simp [hsz, hjl] at hj0 ⊢; exact hj0
        have hin : ∀ k, listed.getD k false = true → k < ops.size := fun k hk => by
          rcases Nat.lt_or_ge k ops.size with h | h
          · exact h
          · simp [Array.getElem?_eq_none (by omega : listed.size ≤ k)] at hk
        obtain ⟨t, ht⟩ : ∃ t, tr[j]? = some t := ⟨_, List.getElem?_eq_getElem (by omega)⟩
        obtain ⟨htd, htL, hdn, hdo⟩ := hdoes j t o ht (by simpa using ho)
        have hpj : ∀ o', ops[j]? = some o' → ∀ e ∈ o'.after, Region.binds .any e = true → listed.getD e.on false = true := fun o' ho' => by
          rw [ho] at ho'; injection ho' with ho'; subst ho'; exact hpre
        -- before j
        have before : ∀ (k : Nat) tk, k < j → tr[k]? = some tk → listed.getD k false = false → _ := fun k tk hk htk hf => hpair (fun k => listed.getD k false) hcl hin k j tk t hk htk ht hpj hf
        have after : ∀ (k : Nat) tk, j < k → tr[k]? = some tk → listed.getD k false = true → _ := fun k tk hk htk hf => hpair (fun k => listed.getD k false) hcl hin j k t tk hk ht htk (fun o' ho' => hcl k o' hf ho') hSj
        have differ : ∀ (k : Nat) tk, tr[k]? = some tk → listed.getD (0 + k) false ≠ decide (0 + k < 0 + j) → (∀ x, tk.dst = some x → x ∉ t.L) ∧ (∀ x ∈ keysOf tk.u, x ∉ t.rd) := fun k tk htk hne => by
          simp only [Nat.zero_add] at hne
          rcases Nat.lt_trichotomy k j with hk | hk | hk
          · have hf : listed.getD k false = false := by
              cases e : listed.getD k false
              · rfl
              · rw [e] at hne; simp [hk] at hne
            obtain ⟨_, b1, _, b3, _⟩ := before k tk hk htk hf
            exact ⟨b1, b3⟩
          · subst hk; rw [hSj] at hne; simp at hne
          · have hf : listed.getD k false = true := by
              cases e : listed.getD k false
              · rw [e] at hne; simp at hne; omega
              · rfl
            obtain ⟨_, _, b2, _, b4⟩ := after k tk hk htk hf
            exact ⟨b2, b4⟩
        have hstep := hdo (runS (fun k => listed.getD k false) 0 tr (get Γ, H)).1 (runS (fun k => listed.getD k false) 0 tr (get Γ, H)).2 I β a w (wpAny P .any ops Q fuel (listed.setIfInBounds j true)) Q
          (fun x hx => runS_slot rfl fun k tk htk hne hd => (differ k tk htk hne).1 x hd hx)
          (fun i hi => runS_obj rfl rfl fun k tk htk hne hk => (differ k tk htk hne).2 i hk hi)
          (by rw [runS_len, runS_len]) hsim.h hsim.slot (fun s hs => hfree j t s ht hs hSj) (fun v I' β' w' hH' hr' hevo hfr => by
            have hS' : (fun k => (listed.setIfInBounds j true).getD k false) = fun k => listed.getD k false || k == 0 + j := by
              funext k
              rw [Nat.zero_add]
              by_cases hkj : k = j
              · subst hkj
                simp [hsz, hjl]
              · rw [getD_set_ne false (fun e => hkj e.symm)]
                have : (k == j) = false := by simpa using hkj
                rw [this, Bool.or_false]
            have hrun := runS_insert (S := fun k => listed.getD k false) (t := t) (l := tr) (i := 0) (j := j) (s := (get Γ, H)) ht (by simpa using hSj) (fun k tk hk htk hf => (after k tk hk htk (by simpa using hf)).1)
            refine ih _ _ w' I' β' (by simpa using hsz) ?_ ?_ ?_ ?_
            · intro k o' hk ho' e he hb
              have hk : (listed.setIfInBounds j true).getD k false = true := hk
              show (listed.setIfInBounds j true).getD e.on false = true
              by_cases hkj : k = j
              · subst hkj; exact getD_set_true (hpj o' ho' e he hb)
              · rw [getD_set_ne false (fun e => hkj e.symm)] at hk
                exact getD_set_true (hcl k o' hk ho' e he hb)
            · have := cntF_lt (f := fun k => !listed.getD k false) (g := fun k => !(listed.setIfInBounds j true).getD k false) (j := j) (m := ops.size) (fun k _ hk => by
                simp only [Bool.not_eq_true'] at hk ⊢
                cases e : listed.getD k false
                · rfl
                · rw [getD_set_true e] at hk; cases hk) hjl (by simp only [hSj]; rfl) (by simp [hsz, hjl])
              omega
            · rw [hS', hrun]
              simp only [Tr.step, htd]
              exact hsim.put hdn hH' hr' hevo (fun s h1 h2 => by omega)
            · intro k tk s hk hsite hf
              have hkj : k ≠ j := fun e => by subst e; simp [hsz, hjl] at hf
              rw [getD_set_ne false (fun e => hkj e.symm)] at hf
              exact hfr s (hfree k tk s hk hsite hf) (fun e => hkj (huniq k j tk t s hk ht hsite e)))
        unfold wpOp
        simp only [ho]
        split
        · rename_i hw; rw [if_pos hw] at hstep; exact .inl hstep
        · rename_i hw; rw [if_neg hw] at hstep; exact hstep
  refine wp_region_any hm ?_
  obtain ⟨I, β, hs⟩ := hs.drew
  have h0 : ∀ k, (Array.replicate ops.size false).getD k false = false := fun k => by
    by_cases hk : k < ops.size <;> simp [hk]
  refine main ops.size _ a w.drew I β (by simp) (fun j o hj => by
    have hj : (Array.replicate ops.size false).getD j false = true := hj
    rw [h0] at hj; cases hj) ?_ ?_ (fun k t s hk hsite _ => ?_)
  · have : ∀ (m : Nat) (f : Nat → Bool), cntF f m ≤ m := fun m f => by
      induction m with
      | zero => exact Nat.le_refl _
      | succ m ih => simp only [cntF]; cases f m <;> simp only [cond_true, cond_false] <;> omega
    exact this _ _
  · rw [runS_none fun k _ => h0 k]
    exact ⟨hs.h, hs.defers, hs.size, hs.slot, hs.evo, fun s h1 h2 => by omega⟩
  · have := hsites k t s hk hsite
    exact hs.free s this.1 this.2
end
end Go.Cw
/-
  Cw, part H: contracts, put together.
-/
namespace Go.Cw
set_option linter.unusedVariables false
section
variable {P : Program} {T : Tab}
theorem acall_of (hT : TabOk P T) (hm : P.follows .mixedOrders = true) {f : FuncId} {fn : Func} {c : Code} {args : List AV} {H : Heap} {Post : AV → Heap → Prop} (n : Nat) (hn : fn.ntmps = n)
    (hfn : P.funcs[f]? = some fn) (hname : (fn.name == "runtime.NumGoroutine") = false) (hbody : fn.body = some c) (hlen : Nat.ble args.length n = true) (nh : Nat) (hnh : H.length = nh)
    (h : xCode P T n nh c (retQ T nh fn Post) (argSlots 0 args) H) : ACall P f args H Post := by
  subst hn; subst hnh
  rw [xCode_eq] at h
  exact acall_of_code hT hm (fun _ _ _ => draws_ok hT hm) hfn hname hbody (Nat.le_of_ble_eq_true hlen) h
theorem ACall.mono {f : FuncId} {args : List AV} {H : Heap} {Post Post' : AV → Heap → Prop} (h : ACall P f args H Post) (hp : ∀ r H', Post r H' → Post' r H') : ACall P f args H Post' :=
  ⟨h.1, fun I β w vs h1 h2 h3 => (h.2 I β w vs h1 h2 h3).mono fun e w' ⟨r, H', I', β', v, e1, e2, e3⟩ => ⟨r, H', I', β', v, e1, hp r H' e2, e3⟩⟩
end
end Go.Cw
/-
  Cw, part L: an abstract state may be made weaker: slices frozen, a nil slice read as_ an empty one.
-/
namespace Go.Cw
set_option linter.unusedVariables false
section
variable {P : Program} {T : Tab} {n nh : Nat}
theorem PLe.refl {p : PV} : PLe p p := fun _ _ _ h => h
theorem PLe.nil {z : Nat} : PLe (.val (.slice none 0 0)) (.sl z []) := fun I w v h => by
  cases h with
  | val v => exact PRel.sl (xs := []) (ad := none) (cap := 0) (fun _ _ => undef) (Nat.le_refl _) (fun i r h => by simp at h) (fun i r j p h => by simp at h)
def PLeL : List PV → List PV → Prop
  | [], [] => True
  | p :: l, q :: m => PLe p q ∧ PLeL l m
  | _, _ => False
def PLeLL : List (List PV) → List (List PV) → Prop
  | [], [] => True
  | p :: l, q :: m => PLeL p q ∧ PLeLL l m
  | _, _ => False
theorem PLeL.spec : ∀ {l m : List PV}, PLeL l m → m.length = l.length ∧ ∀ (j : Nat) y, m[j]? = some y → ∃ x, l[j]? = some x ∧ PLe x y
  | [], [], _ => ⟨rfl, fun j y h => by simp at h⟩
  | x :: l, y :: m, h => by
    obtain ⟨h1, h2⟩ := PLeL.spec h.2
    refine ⟨by simp [h1], fun j z hj => ?_⟩
    cases j with
    | zero => simp at hj; subst hj; exact ⟨x, rfl, h.1⟩
    | succ j => simpa using h2 j z (by simpa using hj)
  | [], _ :: _, h => h.elim
  | _ :: _, [], h => h.elim
theorem PLeLL.spec : ∀ {l m : List (List PV)}, PLeLL l m → m.length = l.length ∧ ∀ (j : Nat) y, m[j]? = some y → ∃ x, l[j]? = some x ∧ PLeL x y
  | [], [], _ => ⟨rfl, fun j y h => by simp at h⟩
  | x :: l, y :: m, h => by
    obtain ⟨h1, h2⟩ := PLeLL.spec h.2
    refine ⟨by simp [h1], fun j z hj => ?_⟩
    cases j with
    | zero => simp at hj; subst hj; exact ⟨x, rfl, h.1⟩
    | succ j => simpa using h2 j z (by simpa using hj)
  | [], _ :: _, h => h.elim
  | _ :: _, [], h => h.elim
theorem PLeL.refl : ∀ {l : List PV}, PLeL l l
  | [] => trivial
  | _ :: _ => ⟨PLe.refl, PLeL.refl⟩
theorem PLe.sl {z : Nat} {xs ys : List (List PV)} (h : PLeLL xs ys) : PLe (.sl z xs) (.sl z ys) := fun I w v hv => by
  obtain ⟨hl, hs⟩ := h.spec
  generalize hx : PV.sl z xs = x at hv
  cases hv with
  | val v => cases hx
  | ia u h0 h1 h2 => cases hx
  | fn hl h => cases hx
  | sl u hc h1 h2 =>
    injection hx with e1 e2; subst e1; subst e2
    rw [← hl]
    refine .sl u (by rw [hl]; exact hc) (fun i r hr => ?_) (fun i r j p hr hp => ?_)
    · obtain ⟨r0, hr0, hle⟩ := hs i r hr
      obtain ⟨g1, g2⟩ := h1 i r0 hr0
      exact ⟨by rw [hle.spec.1]; exact g1, g2⟩
    · obtain ⟨r0, hr0, hle⟩ := hs i r hr
      obtain ⟨p0, hp0, hpl⟩ := hle.spec.2 j p hp
      exact hpl _ _ _ (h2 i r0 j p0 hr0 hp0)
theorem ALe.pv {p q : PV} (h : PLe p q) : ALe (.pv p) (.pv q) := fun I β w v hv => by
  cases hv with
  | pv hv => exact .pv (h _ _ _ hv)
theorem ALe.agg {l m : List AV} (h : ALeL l m) : ALe (.agg l) (.agg m) := fun I β w v hv => by
  obtain ⟨h1, h2⟩ := h.spec
  cases hv with
  | agg hl hc =>
    refine .agg (by rw [hl, h1]) fun j c hj => ?_
    obtain ⟨x, hx, hxc⟩ := h2 j c hj
    exact hxc _ _ _ _ (hc j x hx)
theorem ALe.tup {l m : List AV} (h : ALeL l m) : ALe (.tup l) (.tup m) := fun I β w v hv => by
  obtain ⟨h1, h2⟩ := h.spec
  cases hv with
  | tup hl hc =>
    refine .tup (by rw [hl, h1]) fun j c hj => ?_
    obtain ⟨x, hx, hxc⟩ := h2 j c hj
    exact hxc _ _ _ _ (hc j x hx)
theorem ACall.weak {f : FuncId} {args : List AV} {H : Heap} {Post Post' : AV → Heap → Prop} (h : ACall P f args H Post) (hp : ∀ r H', Post r H' → ∃ r2, ALe r r2 ∧ Post' r2 H') : ACall P f args H Post' :=
  ⟨h.1, fun I β w vs h1 h2 h3 => (h.2 I β w vs h1 h2 h3).mono fun e w' ⟨r, H', I', β', v, e1, e2, e3, e4, e5⟩ => by
    obtain ⟨r2, g1, g2⟩ := hp r H' e2
    exact ⟨r2, H', I', β', v, e1, g2, e3, g1 _ _ _ _ e4, e5⟩⟩
theorem PCall.weak {f : FuncId} {args : List AV} {Post Post' : AV → Prop} (h : PCall P f args Post) (hp : ∀ r, Post r → ∃ r2, ALe r r2 ∧ Post' r2) : PCall P f args Post' :=
  ACall.weak h fun r H' ⟨e, k⟩ => by
    obtain ⟨r2, g1, g2⟩ := hp r k
    exact ⟨r2, g1, e, g2⟩
theorem ACall.le_args {f : FuncId} {args as_ : List AV} {H : Heap} {Post : AV → Heap → Prop} (hle : ALeL args as_) (h : ACall P f as_ H Post) : ACall P f args H Post := by
  obtain ⟨l1, l2⟩ := hle.spec
  refine ⟨h.1, fun I β w vs h1 h2 h3 => h.2 I β w vs h1 (by rw [h2, l1]) fun j c hj => ?_⟩
  obtain ⟨x, hx, hxc⟩ := l2 j c hj
  exact hxc _ _ _ _ (h3 j x hx)
end
end Go.Cw
/-
  Cw, part J: what a law is handed, as_ pure values with their types.
-/
namespace Go.Cw
set_option linter.unusedVariables false
open Go.WideShapes
mutual
inductive PTyN (T : Tab) (N : TypeId → Nat) : TypeId → List PV → Prop
  | int {t : TypeId} {size bytes : Nat} {agg : Bool} {k : IntKind} {zero : List PV} {n : Int} (h : look T t = some ⟨size, bytes, agg, .int k, zero⟩) (hw : k.min ≤ n ∧ n ≤ k.max) : PTyN T N t [.val (.int k n)]
  | bool {t : TypeId} {size bytes : Nat} {agg : Bool} {zero : List PV} {b : Bool} (h : look T t = some ⟨size, bytes, agg, .bool, zero⟩) : PTyN T N t [.val (.bool b)]
  | str {t : TypeId} {size bytes : Nat} {agg : Bool} {zero : List PV} {s : ByteArray} (h : look T t = some ⟨size, bytes, agg, .str, zero⟩) (hs : s.size ≤ 9223372036854775807) : PTyN T N t [.val (.string s)]
  | slice {t : TypeId} {size bytes : Nat} {agg : Bool} {e : TypeId} {zero : List PV} {esize ebytes : Nat} {eagg : Bool} {etk : TK} {ezero : List PV} {xs : List (List PV)} (h : look T t = some ⟨size, bytes, agg, .slice e, zero⟩)
      (he : look T e = some ⟨esize, ebytes, eagg, etk, ezero⟩) (hl : xs.length ≤ N e) (hx : ∀ (i : Nat) r, xs[i]? = some r → PTyN T N e r) : PTyN T N t [.sl esize xs]
  | struct {t : TypeId} {size bytes : Nat} {agg : Bool} {fs : List (Nat × TypeId)} {zero : List PV} {cs : List PV} (h : look T t = some ⟨size, bytes, agg, .struct fs, zero⟩) (hl : PTyLN T N (fs.map (·.2)) cs) : PTyN T N t cs
inductive PTyLN (T : Tab) (N : TypeId → Nat) : List TypeId → List PV → Prop
  | nil : PTyLN T N [] []
  | cons {t : TypeId} {ts : List TypeId} {q qs : List PV} {d : TyD} (h : PTyN T N t q) (hd : look T t = some d) (hq : q.length = d.size) (hr : PTyLN T N ts qs) : PTyLN T N (t :: ts) (q ++ qs)
end
abbrev maxN : TypeId → Nat := fun _ => 9223372036854775807
abbrev PTy (T : Tab) := PTyN T maxN
abbrev PTyL (T : Tab) := PTyLN T maxN
def tiles (T : Tab) : Nat → List (Nat × TypeId) → Nat → Bool
  | o, [], size => Nat.beq o size
  | o, (off, t) :: l, size => match look T t with
    | some d => Nat.beq off o && tiles T (o + d.size) l size
    | none => false
def plainT (T : Tab) (q : TypeId → Bool) (t : TypeId) : Bool := match look T t with
    | some ⟨size, _, agg, tk, _⟩ => match tk with
      | .int _ | .bool | .str => Nat.beq size 1 && !agg
      | .slice e => Nat.beq size 1 && !agg && (match look T e with
        | some d => Nat.blt 0 d.size
        | none => false) && q e
      | .struct fs => tiles T 0 fs size && agg && fs.all fun f => q f.2
      | _ => false
    | none => false
def plain (T : Tab) : Nat → TypeId → Bool
  | 0, _ => false
  | n + 1, t => plainT T (plain T n) t
def plainS (T : Tab) (S : List Nat) : Bool := S.all (plainT T fun t => S.any fun u => Nat.beq u t)
def PlainQ (T : Tab) (Q : TypeId → Prop) : Prop := ∀ t, Q t → ∃ q, plainT T q t = true ∧ ∀ t, q t = true → Q t
theorem plainQ_s {T : Tab} {S : List Nat} (h : plainS T S = true) : PlainQ T fun t => (S.any fun u => Nat.beq u t) = true := fun t ht => by
  obtain ⟨u, hu, e⟩ := List.any_eq_true.1 ht
  obtain rfl : u = t := Nat.eq_of_beq_eq_true e
  exact ⟨_, List.all_eq_true.1 h u hu, fun t h => h⟩
section
variable {H : Type} {enc : TypeId × Value → H} {P : Program} {T : Tab} {W : World}
theorem mapM_opt {α γ : Type} {f : α → Option γ} : ∀ {l : List α} {r : List γ}, l.mapM f = some r → r.length = l.length ∧ ∀ (j : Nat) x, l[j]? = some x → ∃ y, r[j]? = some y ∧ f x = some y
  | [], r, h => by simp at h; subst h; simp
  | x :: l, r, h => by
    simp only [List.mapM_cons, Option.bind_eq_bind, Option.bind_eq_some_iff, Option.pure_def, Option.some.injEq] at h
    obtain ⟨y, hy, ys, hys, rfl⟩ := h
    obtain ⟨h1, h2⟩ := mapM_opt hys
    refine ⟨by simp [h1], fun j z hj => ?_⟩
    cases j with
    | zero => simp at hj; subst hj; exact ⟨y, rfl, hy⟩
    | succ j => simpa using h2 j z (by simpa using hj)
theorem pick_list {α : Type} {R : Nat → α → Prop} : ∀ (n : Nat), (∀ i, i < n → ∃ x, R i x) → ∃ xs : List α, xs.length = n ∧ ∀ (i : Nat) x, xs[i]? = some x → R i x
  | 0, _ => ⟨[], rfl, fun i x h => by simp at h⟩
  | n + 1, h => by
    obtain ⟨xs, h1, h2⟩ := pick_list n fun i hi => h i (by omega)
    obtain ⟨x, hx⟩ := h n (by omega)
    refine ⟨xs ++ [x], by simp [h1], fun i y hy => ?_⟩
    rcases Nat.lt_or_ge i n with hi | hi
    · rw [List.getElem?_append_left (by omega)] at hy; exact h2 i y hy
    · have : i = n := by have := (List.getElem?_eq_some_iff.1 hy).1; simp at this; omega
      subst this
      rw [List.getElem?_append_right (by omega)] at hy
      simp [h1] at hy; subst hy; exact hx
def Reads (W : World) (qs : List PV) (cs : List Value) : Prop := qs.length = cs.length ∧ ∀ (j : Nat) q v, qs[j]? = some q → cs[j]? = some v → v.oneCell' = true ∧ PRel (fun b => b < W.heap.size) W q v
theorem cell_block {a : Addr} {v : Value} (h : W.cell? a = some v) : a.block < W.heap.size := by
  unfold World.cell? at h
  split at h
  · rename_i hb
    have := (Array.getElem?_eq_some_iff.1 hb).1
    exact this
  · cases h
theorem reads_one {q : PV} {v : Value} (h1 : v.oneCell' = true) (h : PRel (fun b => b < W.heap.size) W q v) : Reads W [q] [v] := ⟨rfl, fun j q' v' hq hv => by
  cases j with
  | zero => simp at hq hv; subst hq; subst hv; exact ⟨h1, h⟩
  | succ j => simp at hq⟩
theorem cells_sp {a : Addr} {n : Nat} {cs : List Value} (h : W.cells? 0 a n = some cs) : cs.length = n ∧ ∀ j, j < n → ∃ v, cs[j]? = some v ∧ W.cell? (a.add j) = some v := by
  unfold World.cells? at h
  rw [if_pos (Nat.zero_le _)] at h
  obtain ⟨h1, h2⟩ := mapM_opt h
  refine ⟨by simpa using h1, fun j hj => ?_⟩
  obtain ⟨y, h3, h4⟩ := h2 j j (by simp [hj])
  exact ⟨y, h3, h4⟩
structure Bnd (P : Program) (B : TypeId → DataW H → Prop) (N : TypeId → Nat) : Prop where
  slice : ∀ {t e : TypeId} {elems spare : List (DataW H)}, P.underlying t = some (.slice e) → B t (.slice elems spare) → (elems.length ≤ 9223372036854775807 → elems.length ≤ N e) ∧ ∀ d ∈ elems, B e d
  struct : ∀ {t : TypeId} {fs : Array Field} {parts : List (DataW H)}, P.underlying t = some (.struct fs) → B t (.agg parts) → ∀ (i : Nat) f d, fs.toList[i]? = some f → parts[i]? = some d → B f.type d
theorem bnd_max : Bnd P (fun _ (_ : DataW H) => True) maxN := ⟨fun _ _ => ⟨id, fun _ _ => trivial⟩, fun _ _ _ _ _ _ _ => trivial⟩
theorem trod_pv (hT : TabOk P T) {Q : TypeId → Prop} (hQ : PlainQ T Q) {B : TypeId → DataW H → Prop} {N : TypeId → Nat} (hB : Bnd P B N) : ∀ (fuel : Nat) (t : TypeId) (cs : List Value) (x : DataW H × List MemPlace), Q t → DataW.trod enc P W 0 (fun _ => true) true fuel t cs = some x → B t x.1 →
    ∃ qs, PTyN T N t qs ∧ Reads W qs cs ∧ ∃ d, look T t = some d ∧ cs.length = d.size
  | 0, t, cs, x, _, h, _ => by simp [DataW.trod] at h
  | fuel + 1, t, cs, x, hp, h, hbx => by
    obtain ⟨qq, hp, hqq⟩ := hQ t hp
    unfold plainT at hp
    split at hp
    · rename_i size bytes agg tk zero hl
      obtain ⟨i, u, z, hi, hu, _, _, hsz, _, _, htk, _⟩ := look_spec hT hl
      split at hp
      · rename_i k
        have := tkOf_int htk; subst this
        simp only [Bool.and_eq_true, Nat.beq_eq] at hp
        obtain ⟨rfl, _⟩ := hp
        unfold DataW.trod at h
        rw [hu] at h
        split at h <;> try (rename_i h0 _; cases h0; done)
        all_goals (try (rename_i h0; cases h0; done))
        · rename_i h0
          injection h0 with h0; injection h0 with h0; subst h0
          split at h
          · rename_i hk
            obtain ⟨rfl, hw⟩ := hk
            simp only [Lit.wf, Bool.and_eq_true, decide_eq_true_eq] at hw
            exact ⟨_, .int hl hw, reads_one rfl (.val _), _, hl, rfl⟩
          · cases h
        · cases h
      · have := tkOf_bool htk; subst this
        simp only [Bool.and_eq_true, Nat.beq_eq] at hp
        obtain ⟨rfl, _⟩ := hp
        unfold DataW.trod at h
        rw [hu] at h
        split at h <;> try (rename_i h0 _; cases h0; done)
        all_goals (try (rename_i h0; cases h0; done))
        · exact ⟨_, .bool hl, reads_one rfl (.val _), _, hl, rfl⟩
        · cases h
      · have := tkOf_str htk; subst this
        simp only [Bool.and_eq_true, Nat.beq_eq] at hp
        obtain ⟨rfl, _⟩ := hp
        unfold DataW.trod at h
        rw [hu] at h
        split at h <;> try (rename_i h0 _; cases h0; done)
        all_goals (try (rename_i h0; cases h0; done))
        · split at h
          · rename_i hs
            exact ⟨_, .str hl (by simpa [maxLen] using hs), reads_one rfl (.val _), _, hl, rfl⟩
          · cases h
        · cases h
      · rename_i e
        have := tkOf_slice htk; subst this
        simp only [Bool.and_eq_true, Nat.beq_eq] at hp
        obtain ⟨⟨⟨rfl, _⟩, hpos⟩, hpe⟩ := hp
        split at hpos
        case h_2 => cases hpos
        rename_i de hle
        obtain ⟨esize, ebytes, eagg, etk, ezero⟩ := de
        obtain ⟨ie, ue, ze, hie, hue, _, _, hesz, _, _, hetk, _⟩ := look_spec hT hle
        have hcells : P.cellsOf e = esize := by simp [Program.cellsOf, hie, hesz]
        unfold DataW.trod at h
        rw [hu] at h
        split at h <;> try (rename_i h0 _; cases h0; done)
        all_goals (try (rename_i h0; cases h0; done))
        · exact ⟨[.sl esize []], .slice hl hle (Nat.zero_le _) (fun i r h => by simp at h), reads_one rfl (PLe.nil _ _ _ (.val _)), _, hl, rfl⟩
        · rename_i a len cap h0
          injection h0 with h0; injection h0 with h0; subst h0
          simp only [hcells] at h
          split at h
          case isFalse => cases h
          rename_i hcap
          simp only [Option.bind_eq_some_iff] at h
          obtain ⟨elems, hel, hex⟩ := h
          simp only [Option.map_eq_some_iff] at hex
          obtain ⟨rest, _, rfl⟩ := hex
          obtain ⟨hbn, hbe⟩ := hB.slice hu hbx
          rw [List.length_map] at hbn
          obtain ⟨hlen, hget⟩ := mapM_opt hel
          have hrow : ∀ i, i < len → ∃ qs : List PV, PTyN T N e qs ∧ qs.length = esize ∧ a.block < W.heap.size ∧ ∀ j, j < esize → ∃ q v, qs[j]? = some q ∧ W.cell? (a.add (i * esize + j)) = some v ∧ v.oneCell' = true ∧ PRel (fun b => b < W.heap.size) W q v := fun i hi => by
            obtain ⟨y, hy0, hy⟩ := hget i i (by simp [hi])
            simp only [Option.bind_eq_some_iff] at hy
            obtain ⟨cs', hcs', htr⟩ := hy
            obtain ⟨qs, h1, ⟨h2, h2'⟩, d, h3, h4⟩ := trod_pv hT hQ hB fuel e cs' y (hqq _ hpe) htr (hbe _ (List.mem_map.2 ⟨y, List.mem_of_getElem? hy0, rfl⟩))
            rw [hle] at h3; injection h3 with h3; subst h3
            obtain ⟨h5, h6⟩ := cells_sp hcs'
            have hb : a.block < W.heap.size := by
              obtain ⟨v, _, hv⟩ := h6 0 (by simpa [Nat.blt_eq] using hpos)
              have := cell_block hv
              rwa [add_block, add_block] at this
            refine ⟨qs, h1, by rw [h2, h4], hb, fun j hj => ?_⟩
            obtain ⟨v, hv, hcell⟩ := h6 j hj
            have hq : qs[j]? = some qs[j] := List.getElem?_eq_getElem (by rw [h2, h5]; exact hj)
            rw [add_add] at hcell
            exact ⟨_, v, hq, hcell, (h2' j _ v hq hv).1, (h2' j _ v hq hv).2⟩
          obtain ⟨xs, hxl, hxs⟩ := pick_list len hrow
          subst hxl
          rw [hlen, List.length_range] at hbn
          refine ⟨[.sl esize xs], .slice hl hle (hbn (by simp [maxLen] at hcap; omega)) (fun i r hr => (hxs i r hr).1), reads_one rfl ?_, _, hl, rfl⟩
          refine .sl (fun i j => (W.cell? (a.add (i * esize + j))).getD undef) hcap.2.1 (fun i r hr => ?_) (fun i r j p hr hp => ?_)
          · obtain ⟨_, h1, hb, h2⟩ := hxs i r hr
            refine ⟨h1, a, rfl, hb, fun j hj => ?_⟩
            obtain ⟨q, v, _, h3, h4, _⟩ := h2 j hj
            simp only [h3, Option.getD_some]
            exact ⟨trivial, h4⟩
          · obtain ⟨_, h1, hb, h2⟩ := hxs i r hr
            have hj : j < esize := by rw [← h1]; exact (List.getElem?_eq_some_iff.1 hp).1
            obtain ⟨q, v, h3, h4, _, h5⟩ := h2 j hj
            rw [hp] at h3; injection h3 with h3; subst h3
            simp only [h4, Option.getD_some]
            exact h5
        · cases h
      · rename_i fs
        obtain ⟨Fs, rfl, rfl⟩ := tkOf_struct htk
        simp only [Bool.and_eq_true, List.all_eq_true] at hp
        obtain ⟨⟨htile, _⟩, hall⟩ := hp
        have hcells : P.cellsOf t = size := by simp [Program.cellsOf, hi, hsz]
        unfold DataW.trod at h
        simp only [hu] at h
        · split at h
          case isFalse => cases h
          rename_i hlen
          rw [hcells] at hlen
          simp only [Option.map_eq_some_iff] at h
          obtain ⟨xs, hxs, rfl⟩ := h
          have hbs := hB.struct hu hbx
          have key : ∀ (fs : List Field) (o : Nat) (xs : List (DataW H × List MemPlace)), tiles T o (fs.map fun f => (f.offset, f.type)) size = true → (∀ f ∈ fs, qq f.type = true) → o ≤ cs.length →
              fs.mapM (fun f => DataW.trod enc P W 0 (fun _ => true) true fuel f.type ((cs.drop f.offset).take (P.cellsOf f.type))) = some xs →
              (∀ (i : Nat) f y, fs[i]? = some f → xs[i]? = some y → B f.type y.1) → ∃ qs, PTyLN T N (fs.map (·.type)) qs ∧ Reads W qs (cs.drop o) := by
            intro fs
            induction fs with
            | nil =>
              intro o xs h1 _ ho _ _
              simp only [List.map_nil, tiles] at h1
              have : o = size := Nat.eq_of_beq_eq_true h1
              refine ⟨[], .nil, by simp; omega, fun j q v hq => by simp at hq⟩
            | cons f fs ih =>
              intro o xs h1 h2 ho h3 h4
              simp only [List.map_cons, tiles] at h1
              split at h1
              case h_2 => cases h1
              rename_i df hdf
              simp only [Bool.and_eq_true] at h1
              obtain ⟨hoff, h1⟩ := h1
              have hoff := Nat.eq_of_beq_eq_true hoff
              simp only [List.mapM_cons, Option.bind_eq_bind, Option.bind_eq_some_iff, Option.pure_def, Option.some.injEq] at h3
              obtain ⟨y, hy, ys, hys, rfl⟩ := h3
              obtain ⟨qs, g1, ⟨g2, g2'⟩, d, g3, g4⟩ := trod_pv hT hQ hB fuel f.type _ y (hqq _ (h2 f (by simp))) hy (h4 0 f y rfl rfl)
              rw [hdf] at g3; injection g3 with g3; subst g3
              obtain ⟨dsz, dby, dag, dtk, dze⟩ := df
              obtain ⟨fi, fu, fz, hfi, _, _, _, hfsz, _⟩ := look_spec hT hdf
              have hfc : P.cellsOf f.type = dsz := by simp [Program.cellsOf, hfi, hfsz]
              rw [hfc, hoff] at g4 g2 g2'
              simp only [List.length_take, List.length_drop] at g4
              simp only at h1
              obtain ⟨qs', k1, k2, k3⟩ := ih (o + dsz) ys h1 (fun f hf => h2 f (by simp [hf])) (by omega) hys fun i g y hg hy => h4 (i + 1) g y (by simpa using hg) (by simpa using hy)
              refine ⟨qs ++ qs', .cons g1 hdf (by rw [g2]; simp; omega) k1, ?_, fun j q v hq hv => ?_⟩
              · simp only [List.length_append, k2, g2, List.length_take, List.length_drop]; omega
              · rcases Nat.lt_or_ge j qs.length with hj | hj
                · rw [List.getElem?_append_left hj] at hq
                  have hjd : j < dsz := by rw [g2] at hj; simp at hj; omega
                  exact g2' j q v hq (by rw [List.getElem?_take, if_pos hjd]; exact hv)
                · rw [List.getElem?_append_right hj] at hq
                  have hql : qs.length = dsz := by rw [g2]; simp; omega
                  refine k3 (j - qs.length) q v hq ?_
                  rw [List.getElem?_drop] at hv ⊢
                  rw [← hv]; congr 1; omega
          obtain ⟨qs, g1, g2⟩ := key Fs.toList 0 xs htile (fun f hf => hall (f.offset, f.type) (by simpa using ⟨f, by simpa using hf, rfl, rfl⟩)) (Nat.zero_le _) hxs fun i f y hf hy => hbs i f y.1 hf (by rw [List.getElem?_map, hy]; rfl)
          rw [List.drop_zero] at g2
          refine ⟨qs, .struct hl (by simpa [List.map_map, Function.comp_def] using g1), g2, _, hl, hlen⟩
      · cases hp
    · cases hp
end
end Go.Cw
/-
  Cw, part K: from a law's contract to what the row asks.
-/
namespace Go.Cw
set_option linter.unusedVariables false
open Go.WideShapes Go.ChangeShapes Go.RowKit
inductive ArgsN (T : Tab) (N : TypeId → Nat) : List TypeId → List AV → Prop
  | nil : ArgsN T N [] []
  | one {t : TypeId} {ts : List TypeId} {q : PV} {as_ : List AV} {d : TyD} (h : PTyN T N t [q]) (hl : look T t = some d) (ha : d.agg = false) (hr : ArgsN T N ts as_) : ArgsN T N (t :: ts) (.pv q :: as_)
  | agg {t : TypeId} {ts : List TypeId} {qs : List PV} {as_ : List AV} {d : TyD} (h : PTyN T N t qs) (hl : look T t = some d) (ha : d.agg = true) (hr : ArgsN T N ts as_) : ArgsN T N (t :: ts) (.agg (pvs qs) :: as_)
abbrev ArgsOk (T : Tab) := ArgsN T maxN
section
variable {H : Type} {enc : TypeId × Value → H} {P : Program} {T : Tab} {W : World}
theorem reads_agg {qs : List PV} {cs : Array Value} (h : Reads W qs cs.toList) : ARel (fun b => b < W.heap.size) [] W (.agg (pvs qs)) (.agg cs) := by
  refine .agg (by rw [pvs_length, h.1]; simp) fun j c hj => ?_
  obtain ⟨p, hp, rfl⟩ := pvs_get.1 hj
  have hlt : j < cs.size := by have := (List.getElem?_eq_some_iff.1 hp).1; rw [h.1] at this; simpa using this
  have := (h.2 j p cs[j] hp (by simp [hlt])).2
  exact .pv (by simpa [hlt] using this)
theorem arg_in (hT : TabOk P T) {Q : TypeId → Prop} (hQ : PlainQ T Q) {B : TypeId → DataW H → Prop} {N : TypeId → Nat} (hB : Bnd P B N) {base : Nat} {t : TypeId} {v : Value} {d : DataW H} {ps : List MemPlace} (hp : Q t) (h : DataW.Trod enc P W 0 (fun _ => true) true t v d ps) (ho : Value.okWide P W .any base t v) (hbt : B t d) :
    ∃ D, look T t = some D ∧ ((D.agg = false ∧ ∃ q, PTyN T N t [q] ∧ ARel (fun b => b < W.heap.size) [] W (.pv q) v) ∨ (D.agg = true ∧ ∃ qs, PTyN T N t qs ∧ ARel (fun b => b < W.heap.size) [] W (.agg (pvs qs)) v)) := by
  obtain ⟨fuel, h⟩ := h
  obtain ⟨qs, h1, h2, D, h3, h4⟩ := trod_pv hT hQ hB fuel t _ _ hp h hbt
  refine ⟨D, h3, ?_⟩
  have scalar : ∀ {v0 : Value}, v = v0 → v0.cells = #[v0] → D.agg = false → (D.agg = false ∧ ∃ q, PTyN T N t [q] ∧ ARel (fun b => b < W.heap.size) [] W (.pv q) v) := fun hv hc ha => by
    subst hv
    rw [hc] at h2
    match qs, h1, h2 with
    | [q], h1, h2 => exact ⟨ha, q, h1, .pv (h2.2 0 q v rfl rfl).2⟩
    | [], h1, h2 => exact absurd h2.1 (by simp)
    | a :: b :: l, h1, h2 => exact absurd h2.1 (by simp)
  obtain ⟨qq, hp, -⟩ := hQ t hp
  obtain ⟨size, bytes, agg, tk, zero⟩ := D
  unfold plainT at hp
  rw [h3] at hp
  dsimp only at hp
  obtain ⟨i, u, z, hi, hu, _, _, hsz, _, _, htk, _⟩ := look_spec hT h3
  split at hp
  · simp only [Bool.and_eq_true, Bool.not_eq_true'] at hp
    rw [tkOf_int htk] at hu
    obtain ⟨x, hx⟩ := okWide_int hu ho
    exact .inl (scalar hx rfl hp.2)
  · simp only [Bool.and_eq_true, Bool.not_eq_true'] at hp
    rw [tkOf_bool htk] at hu
    obtain ⟨x, hx⟩ := okWide_bool hu ho
    exact .inl (scalar hx rfl hp.2)
  · simp only [Bool.and_eq_true, Bool.not_eq_true'] at hp
    rw [tkOf_str htk] at hu
    obtain ⟨x, hx⟩ := okWide_string hu ho
    exact .inl (scalar hx rfl hp.2)
  · simp only [Bool.and_eq_true, Bool.not_eq_true'] at hp
    rw [tkOf_slice htk] at hu
    obtain ⟨x, y, z, hx⟩ := okWide_slice hu ho
    exact .inl (scalar hx rfl hp.1.1.2)
  · simp only [Bool.and_eq_true] at hp
    obtain ⟨Fs, rfl, _⟩ := tkOf_struct htk
    simp only [Value.okWide, hu] at ho
    obtain ⟨cs, rfl, _⟩ := ho
    exact .inr ⟨hp.1.2, qs, h1, reads_agg h2⟩
  · cases hp
theorem args_in (hT : TabOk P T) {Q : TypeId → Prop} (hQ : PlainQ T Q) {B : TypeId → DataW H → Prop} {N : TypeId → Nat} (hB : Bnd P B N) {base : Nat} : ∀ (ts : List TypeId) (vs : List Value) (ds : List (DataW H)) (ps : List MemPlace), DataW.TrodAll enc P W 0 (fun _ => true) true ts vs ds ps → (∀ t ∈ ts, Q t) →
    (∀ (j : Nat) t v, ts[j]? = some t → vs[j]? = some v → Value.okWide P W .any base t v) → (∀ (j : Nat) t d, ts[j]? = some t → ds[j]? = some d → B t d) → ds.length = ts.length ∧ ∃ as_, ArgsN T N ts as_ ∧ as_.length = vs.length ∧ ∀ (j : Nat) c, as_[j]? = some c → ∃ v, vs[j]? = some v ∧ ARel (fun b => b < W.heap.size) [] W c v
  | [], [], [], ps, _, _, _, _ => ⟨rfl, [], .nil, rfl, fun j c h => by simp at h⟩
  | t :: ts, v :: vs, d :: ds, ps, h, hp, ho, hbs => by
    obtain ⟨p, q, h1, h2, _⟩ := h
    obtain ⟨hl, as_, h3, h4, h5⟩ := args_in hT hQ hB ts vs ds q h2 (fun t ht => hp t (by simp [ht])) (fun j t v hj hv => ho (j + 1) t v (by simpa using hj) (by simpa using hv)) (fun j t d hj hd => hbs (j + 1) t d (by simpa using hj) (by simpa using hd))
    obtain ⟨D, hD, hcase⟩ := arg_in hT hQ hB (hp t (by simp)) h1 (ho 0 t v rfl rfl) (hbs 0 t d rfl rfl)
    refine ⟨by simp [hl], ?_⟩
    have fin : ∀ a, ArgsN T N (t :: ts) (a :: as_) → ARel (fun b => b < W.heap.size) [] W a v → ∃ as_, ArgsN T N (t :: ts) as_ ∧ as_.length = (v :: vs).length ∧ ∀ (j : Nat) c, as_[j]? = some c → ∃ v', (v :: vs)[j]? = some v' ∧ ARel (fun b => b < W.heap.size) [] W c v' := fun a ha hr =>
      ⟨_, ha, by simp [h4], fun j c hj => by
        cases j with
        | zero => simp at hj; subst hj; exact ⟨v, rfl, hr⟩
        | succ j => simpa using h5 j c (by simpa using hj)⟩
    rcases hcase with ⟨ha, q, hq, hr⟩ | ⟨ha, qs, hq, hr⟩
    · exact fin _ (.one hq hD ha h3) hr
    · exact fin _ (.agg hq hD ha h3) hr
  | [], _ :: _, _, _, h, _, _, _ => by simp [DataW.TrodAll] at h
  | [], [], _ :: _, _, h, _, _, _ => by simp [DataW.TrodAll] at h
  | _ :: _, [], _, _, h, _, _, _ => by simp [DataW.TrodAll] at h
  | _ :: _, _ :: _, [], _, h, _, _, _ => by simp [DataW.TrodAll] at h
theorem trodAll_again (hlaid : laidOutB P = true) {W' : World} (hb : Below W.heap.size W W') : ∀ (ts : List TypeId) (vs : List Value) (ds : List (DataW H)) (ps : List MemPlace), DataW.TrodAll enc P W 0 (fun _ => true) true ts vs ds ps →
    (∀ t ∈ ts, P.readableRec t = true ∧ t < P.types.size) → DataW.TrodAll enc P W' 0 (fun b => decide (b < W.heap.size)) true ts vs ds ps
  | [], [], [], ps, h, _ => h
  | t :: ts, v :: vs, d :: ds, ps, h, hp => by
    obtain ⟨p, q, h1, h2, e⟩ := h
    refine ⟨p, q, ?_, trodAll_again hlaid hb ts vs ds q h2 (fun t ht => hp t (by simp [ht])), e⟩
    exact Below.trod hlaid (hp t (by simp)).1 (hp t (by simp)).2 h1 hb (by obtain ⟨m, hm⟩ := h1; exact DataW.trod_lt m _ _ _ hm)
  | [], _ :: _, _, _, h, _ => by simp [DataW.TrodAll] at h
  | [], [], _ :: _, _, h, _ => by simp [DataW.TrodAll] at h
  | _ :: _, [], _, _, h, _ => by simp [DataW.TrodAll] at h
  | _ :: _, _ :: _, [], _, h, _ => by simp [DataW.TrodAll] at h
theorem law_stepB (hT : TabOk P T) (hlaid : laidOutB P = true) {B : TypeId → DataW H → Prop} {N : TypeId → Nat} (hB : Bnd P B N) {Q : TypeId → Prop} (hQ : PlainQ T Q) {f : FuncId} {fn : Func} {s : ChangeSpec} {tb : TypeId} (hvars : s.vars = [])
    (hplain : ∀ t ∈ fn.params.toList, Q t ∧ P.readableRec t = true ∧ t < P.types.size) (hres : fn.resultTypes = #[tb]) (hb : P.underlying tb = some .bool)
    (hspec : ∀ ds : List (DataW H), ds.length = fn.params.size → (s.fn H ds).results = [.lit (.bool true)] ∧ (s.fn H ds).args = ds ∧ (s.fn H ds).vars = [])
    {base : Nat} {args : Array Value} {ds gs : List (DataW H)} {before : List MemPlace}
    (hbs : ∀ (j : Nat) t d, fn.params.toList[j]? = some t → ds[j]? = some d → B t d)
    (hcall : ∀ as_, ArgsN T N fn.params.toList as_ → ACall P f as_ [] (fun r H' => r = vbool true))
    (hval : ∀ (j : Nat) t v, fn.params[j]? = some t → args[j]? = some v → Value.okWide P W .any base t v)
    (hW : DataW.Whole enc P fn.params.toList s.vars false W args.toList ds gs before) (hgl : Gl (fun b => b < W.heap.size) W) :
    Calls P f args W fun e W' => ∃ v, e = .returned v ∧ s.post enc P fn false true false false W args v W' := by
  have hW' := hW
  obtain ⟨p, q, hA, hV, rfl, hfz, hnd⟩ := hW
  obtain ⟨hlen, as_, h1, h2, h3⟩ := args_in hT hQ hB (base := base) _ _ _ _ hA (fun t ht => (hplain t ht).1) (fun j t v hj hv => hval j t v (by simpa using hj) (by simpa using hv)) hbs
  have hgs : gs = [] ∧ q = [] := by rw [hvars] at hV; exact trodVars_none hV
  obtain ⟨rfl, rfl⟩ := hgs
  obtain ⟨hent, hc⟩ := hcall as_ h1
  have hsim : HSim (fun b => b < W.heap.size) [] [] W := ⟨rfl, fun i o h => by simp at h, fun i j oi oj b b' h => by simp at h, ⟨fun b h => h, hgl⟩, fun i b h => by simp at h⟩
  refine (hc _ [] W args hsim (by rw [h2]; simp) (fun j c hj => by
    obtain ⟨v, hv, hr⟩ := h3 j c hj
    have : args[j]? = some v := by simpa using hv
    rw [Array.getD_eq_getD_getElem?, this]; exact hr)).mono fun e W' he => ?_
  obtain ⟨r, H', I', β', v, rfl, rfl, hH', hr, hevo⟩ := he
  have hv : v = .bool true := val_inv hr
  subst hv
  have bel : Below W.heap.size W W' := ⟨hevo.os, hevo.tape, hevo.output, hevo.size, fun k hk => hevo.keep k hk (fun i => by simp)⟩
  obtain ⟨s1, s2, s3⟩ := hspec (ds ++ []) (by simpa using hlen)
  refine ⟨_, rfl, ds, [], p ++ [], [], p, [], hW', ?_, ?_, ?_, bel.frame _, fun h => by cases h⟩
  · rw [s1, hres]; exact trodAll_mk1 (shut_bool hb _)
  · rw [s2, List.append_nil]
    exact trodAll_again hlaid bel _ _ _ _ hA (fun t ht => (hplain t ht).2)
  · rw [s3, hvars]; rfl
theorem law_stepQ (hT : TabOk P T) (hlaid : laidOutB P = true) {Q : TypeId → Prop} (hQ : PlainQ T Q) {f : FuncId} {fn : Func} {s : ChangeSpec} {tb : TypeId} (hvars : s.vars = [])
    (hplain : ∀ t ∈ fn.params.toList, Q t ∧ P.readableRec t = true ∧ t < P.types.size) (hres : fn.resultTypes = #[tb]) (hb : P.underlying tb = some .bool)
    (hspec : ∀ ds : List (DataW H), ds.length = fn.params.size → (s.fn H ds).results = [.lit (.bool true)] ∧ (s.fn H ds).args = ds ∧ (s.fn H ds).vars = [])
    {base : Nat} {args : Array Value} {ds gs : List (DataW H)} {before : List MemPlace}
    (hcall : ∀ as_, ArgsOk T fn.params.toList as_ → ACall P f as_ [] (fun r H' => r = vbool true))
    (hval : ∀ (j : Nat) t v, fn.params[j]? = some t → args[j]? = some v → Value.okWide P W .any base t v)
    (hW : DataW.Whole enc P fn.params.toList s.vars false W args.toList ds gs before) (hgl : Gl (fun b => b < W.heap.size) W) :
    Calls P f args W fun e W' => ∃ v, e = .returned v ∧ s.post enc P fn false true false false W args v W' :=
  law_stepB hT hlaid bnd_max hQ hvars hplain hres hb hspec (fun _ _ _ _ _ => trivial) hcall hval hW hgl
theorem law_stepS (hT : TabOk P T) (hlaid : laidOutB P = true) (S : List Nat) (hS : plainS T S = true) {f : FuncId} {fn : Func} {s : ChangeSpec} {tb : TypeId} (hvars : s.vars = [])
    (hplain : fn.params.toList.all (fun t => (S.any fun u => Nat.beq u t) && P.readableRec t && Nat.blt t P.types.size) = true) (hres : fn.resultTypes = #[tb]) (hb : P.underlying tb = some .bool)
    (hspec : ∀ ds : List (DataW H), ds.length = fn.params.size → (s.fn H ds).results = [.lit (.bool true)] ∧ (s.fn H ds).args = ds ∧ (s.fn H ds).vars = [])
    {base : Nat} {args : Array Value} {ds gs : List (DataW H)} {before : List MemPlace}
    (hcall : ∀ as_, ArgsOk T fn.params.toList as_ → ACall P f as_ [] (fun r H' => r = vbool true))
    (hval : ∀ (j : Nat) t v, fn.params[j]? = some t → args[j]? = some v → Value.okWide P W .any base t v)
    (hW : DataW.Whole enc P fn.params.toList s.vars false W args.toList ds gs before) (hgl : Gl (fun b => b < W.heap.size) W) :
    Calls P f args W fun e W' => ∃ v, e = .returned v ∧ s.post enc P fn false true false false W args v W' :=
  law_stepQ hT hlaid (plainQ_s hS) hvars (fun t ht => by
    have := List.all_eq_true.1 hplain t ht
    simp only [Bool.and_eq_true, Nat.blt_eq] at this
    exact ⟨this.1.1, this.1.2, this.2⟩) hres hb hspec hcall hval hW hgl
end
end Go.Cw
/-
  Cw, part T: the words of walks.
-/
namespace Go.Cw
section
variable {P : Program} {T : Tab} {n : Nat} {H : Heap} {K : AV → Heap → Prop} {f : FuncId} {args as0 as_ : List AV} {v : AV}
theorem ret_pure {r r0 : AV} {Post : AV → Prop} (hc : conv H r = some r0) (hok : ok1 H r) (h : Post r0) : retOk 0 r H (fun r H' => H' = [] ∧ Post r) := by
  refine ⟨[], [], rfl, rfl, trivial, .inr ?_⟩
  rw [hc]
  refine ⟨hok, r0, rfl, ?_, rfl, h⟩
  simp [disj]
theorem call_scal {Post : AV → Prop} (hc : mapO (conv H) args = some as0) (hok : andL (ok1 H) args) (hle : ALeL as0 as_) (hp : PCall P f as_ Post) (hK : ∀ r, Post r → scal r = true ∧ K r H) : vcFun P f args H K := by
  refine ⟨args, ALeL.refl, .inl ?_⟩
  rw [hc]
  exact ⟨hok, as0, Post, rfl, hp.le_args hle, fun r hr => .inl (hK r hr)⟩
theorem call_eq (hc : mapO (conv H) args = some as0) (hok : andL (ok1 H) args) (hle : ALeL as0 as_) (hp : PCall P f as_ (fun r => r = v)) (hv : scal v = true) (hK : K v H) : vcFun P f args H K :=
  call_scal hc hok hle hp fun r hr => by subst hr; exact ⟨hv, hK⟩
theorem call_frz {Post : AV → Prop} (hc : mapO (conv H) args = some as0) (hok : andL (ok1 H) args) (hle : ALeL as0 as_) (hp : PCall P f as_ Post) (hK : ∀ r, Post r → K r (app H (frz H (args.flatMap (ids1 H))))) : vcFun P f args H K := by
  refine ⟨args, ALeL.refl, .inl ?_⟩
  rw [hc]
  exact ⟨hok, as0, Post, rfl, hp.le_args hle, fun r hr => .inr (hK r hr)⟩
theorem call_obj {Post : AV → Heap → Prop} (ids : List Nat) (Hc : Heap) (as_ : List AV) (hd : allD ids = true) (hp : passed H H.length ids ids Hc) (ha : args = renL H.length ids as_) (hc : ACall P f as_ Hc Post)
    (hK : ∀ r Hc', Post r Hc' → ids.length ≤ Hc'.length ∧ K (renC 0 (ids ++ tabl H.length (Hc'.length - ids.length)) r) (taken 0 (ids ++ tabl H.length (Hc'.length - ids.length)) ids Hc' H)) : vcFun P f args H K :=
  ⟨args, ALeL.refl, .inr ⟨ids, Hc, as_, Post, hd, hp, ha, hc, hK⟩⟩
theorem callD_eq {K : AV → Upd → List Nat → Prop} (hc : mapO (conv H) args = some as0) (hok : andL (ok1 H) args) (hle : ALeL as0 as_) (hp : PCall P f as_ (fun r => r = v)) (hv : scal v || (args.flatMap (ids1 H)).isEmpty = true) (hK : K v [] (args.flatMap (rds1 H))) : vcFunD P f args H K := by
  refine ⟨args, ALeL.refl, .inl ?_⟩
  rw [hc]
  exact ⟨hok, as0, v, rfl, ACall.le_args hle hp, by simpa using hv, hK⟩
theorem call_one {i : Nat} {o : AObj} {Post : AV → Heap → Prop} (hi : H[i]? = some (some o)) (ho : ∀ d rn, renO d rn o = o) (as_ : List AV) (ha : args = renL H.length [i] as_) (hc : ACall P f as_ [some o] Post)
    (hK : ∀ r Hc', Post r Hc' → ∃ o', Hc' = [some o'] ∧ (∀ d rn, renO d rn o' = o') ∧ (∀ d rn, renC d rn r = r) ∧ K r (H.set i (some o'))) : vcFun P f args H K := by
  refine call_obj [i] [some o] as_ rfl ⟨by rw [ho]; exact hi, trivial⟩ ha hc fun r Hc' hp => ?_
  obtain ⟨o', rfl, h1, h2, h3⟩ := hK r Hc' hp
  refine ⟨Nat.le_refl _, ?_⟩
  simp only [List.length_cons, List.length_nil, Nat.sub_self, tabl, List.append_nil, taken, renOpt, h1, h2, List.map_nil]
  exact h3
theorem ret_obj {k : Nat} {r r' : AV} {H : Heap} {Post : AV → Heap → Prop} (rn : List Nat) (H' : Heap) (hd : allD rn = true) (ht : rn.take k = tabl 0 k) (hk : kept H H.length rn rn H') (hr : r = renC H.length rn r') (h : Post r' H') : retOk k r H Post :=
  ⟨rn, H', hd, ht, hk, .inl ⟨r', hr, h⟩⟩
theorem slot_eq {Γ : Slots} {s : Nat} {x y : AV} (h : get Γ s = some x) (e : x = y) : get Γ s = some y := e ▸ h
theorem wrap64 {x : Int} (h1 : -9223372036854775808 ≤ x) (h2 : x ≤ 9223372036854775807) : IntKind.i64.wrap x = x := by
  simp only [IntKind.wrap, IntKind.bits, IntKind.signed] at *
  first | omega | (simp; omega)
theorem at_map {α β : Type} {f : α → β} {l : List α} {i : Nat} {x : α} (h : l[i]? = some x) : (l.map f)[i]? = some (f x) := by simp [h]
theorem getE {α : Type} {l : List α} {i : Nat} (h : i < l.length) : ∃ x, l[i]? = some x := ⟨_, List.getElem?_eq_getElem h⟩
theorem eqv_wrap {x : Int} {K : Int → Prop} (h1 : -9223372036854775808 ≤ x) (h2 : x ≤ 9223372036854775807) (h : K x) : eqv (IntKind.i64.wrap x) K := ⟨x, wrap64 h1 h2, h⟩
theorem eqv_len_map {α β : Type} {f : α → β} {l : List α} {K : Nat → Prop} (h : K l.length) : eqv (l.map f).length K := ⟨_, by simp, h⟩
theorem eqv_zero {k : Nat} {K : Nat → Prop} (h : K k) : eqv (0 + k) K := ⟨_, by simp, h⟩
theorem eqv_rfl {α : Type} {a : α} {K : α → Prop} (h : K a) : eqv a K := ⟨_, rfl, h⟩
theorem eqv_to {α : Type} {a : α} {K : α → Prop} (b : α) (e : a = b) (h : K b) : eqv a K := ⟨b, e, h⟩
theorem idx_sl {n : Int} {xs : List (List PV)} {r : List PV} {k : Nat} {K : List PV → Prop} (h1 : xs[k]? = some r) (h2 : n = ↑k) (h : K r) : ∃ (k : Nat) (r : List PV), n = ↑k ∧ xs[k]? = some r ∧ K r := ⟨k, r, h2, h1, h⟩
theorem idx_ms {n : Int} {len off : Nat} {K : Nat → Prop} (k : Nat) (h1 : n = ↑k) (h2 : k < len) (h : eqv (off + k) K) : ∃ k : Nat, n = ↑k ∧ k < len ∧ eqv (off + k) K := ⟨k, h1, h2, h⟩
theorem set_map {α : Type} {f : α → List PV} {s : List α} {i : Nat} {y : α} {p q : PV} {r : List PV} (hp : f y = [p]) (hr : r = [q]) : (s.map f).set i (splice 0 [p] r) = (s.set i y).map f := by
  subst hr; rw [List.map_set, hp]; rfl
theorem app_row {α : Type} {f : α → List PV} {l : List α} {y : α} {row : List PV} (h : f y = row) : Rows.p (List.drop 0 (l.map f) ++ List.take 1 (List.drop 0 [row])) = .p ((l ++ [y]).map f) := by
  subst h; simp
theorem app_first {α : Type} {f : α → List PV} {y : α} {row : List PV} (h : f y = row) : Rows.p (List.take 1 (List.drop 0 [row])) = .p ([y].map f) := by
  subst h; simp
theorem app_len {α : Type} {f : α → List PV} {l : List α} : rowsLen (.p (l.map f)) = l.length := by simp [rowsLen]
end
end Go.Cw
/-
  Room for new objects at chosen numbers.
-/
namespace Go.Cw
open Go
set_option linter.unusedVariables false
end Go.Cw
/-
  Room for new objects at numbers that nothing leads to; a box's cell, and what it leads to, said as_ a pure value.
-/
namespace Go.Cw
open Go
set_option linter.unusedVariables false
mutual
def far (k m : Nat) : AV → Bool
  | .pv _ => true
  | .agg cs => farL k m cs
  | .ms id _ _ _ => Nat.blt id k || Nat.ble (k + m) id
  | .ptr id _ _ _ => Nat.blt id k || Nat.ble (k + m) id
  | .mp id => Nat.blt id k || Nat.ble (k + m) id
  | .fn _ caps => farL k m caps
  | .tup vs => farL k m vs
  | .clip .. => true
  | .dead => true
def farL (k m : Nat) : List AV → Bool
  | [] => true
  | x :: l => far k m x && farL k m l
end
def farS (k m : Nat) : Slots → Bool
  | [] => true
  | (_, x) :: l => far k m x && farS k m l
def farR (k m : Nat) : Rows → Prop
  | .box cs => farL k m cs = true
  | .p _ => True
  | .m xs => ∀ r ∈ xs, farL k m r = true
  | .mp _ _ es _ => ∀ e ∈ es, far k m e.2.2 = true
def farH (k m : Nat) : Nat → Heap → Prop
  | _, [] => True
  | i, none :: l => farH k m (i + 1) l
  | i, some o :: l => (i < k ∨ k + m ≤ i) ∧ farR k m o.rows ∧ farH k m (i + 1) l
def cutB (k m : Nat) (β : Beta) : Beta := β.mapIdx fun i x => if k ≤ i ∧ i < k + m then none else x
end Go.Cw
/-
  Loops and joins that say only what changes; shorter words.
-/
namespace Go.Cw
open Go
set_option linter.unusedVariables false
def asgOps : List Oper → List Nat → List Nat
  | [], acc => acc
  | o :: l, acc => match o.dst with
    | some d => asgOps l (d :: acc)
    | none => asgOps l acc
def asg : Code → List Nat → List Nat
  | .region _ ops _, acc => asgOps ops.toList acc
  | .seq a b, acc => asg a (asg b acc)
  | .cond _ a b, acc => asg a (asg b acc)
  | .block _ a, acc => asg a acc
  | .loop a, acc => asg a acc
  | .scope a, acc => asg a acc
  | _, acc => acc
def keepS : List Nat → Slots → Slots
  | _, [] => []
  | bad, (k, v) :: l => bif hasN k bad then keepS bad l else (k, v) :: keepS (k :: bad) l
def forceS : Slots → (Slots → Prop) → Prop
  | [], K => K []
  | x :: l, K => forceS l fun l => K (x :: l)
def setR : Heap → List (Nat × Option Rows) → Heap
  | H, [] => H
  | H, (i, r) :: l => setR (match r, H[i]? with
    | some r, some (some o) => H.set i (some { o with rows := r })
    | _, _ => H.set i none) l
def subH : Heap → Heap → Prop
  | [], [] => True
  | none :: l, _ :: m => subH l m
  | some o :: l, some o' :: m => o = o' ∧ subH l m
  | _, _ => False
def entS (Γ : Slots) : Slots → Prop
  | [] => True
  | (s, y) :: l => (∃ x, get Γ s = some x ∧ ALe x y) ∧ entS Γ l
theorem forceS_eq : ∀ (l : Slots) (K : Slots → Prop), forceS l K = K l
  | [], _ => rfl
  | x :: l, K => by simp only [forceS]; rw [forceS_eq l]
theorem hasN_mem : ∀ {l : List Nat} {k : Nat}, hasN k l = true ↔ k ∈ l
  | [], k => by simp [hasN]
  | x :: l, k => by
    simp only [hasN, List.mem_cons]
    cases h : Nat.beq x k
    · have : ¬ k = x := fun e => by subst e; simp at h
      simp only [cond_false, hasN_mem (l := l), this, false_or]
    · have := Nat.eq_of_beq_eq_true h; subst this; simp
theorem keepS_get : ∀ {Γ : Slots} {bad : List Nat} {s : Nat} {x : AV}, get (keepS bad Γ) s = some x → get Γ s = some x ∧ s ∉ bad
  | [], bad, s, x, h => by simp [keepS, get] at h
  | (k, v) :: l, bad, s, x, h => by
    simp only [keepS] at h
    cases hk : hasN k bad
    · rw [hk] at h
      simp only [cond_false, get_cons] at h
      rw [get_cons]
      have hkb : k ∉ bad := fun e => by rw [hasN_mem.2 e] at hk; cases hk
      split at h
      · rename_i e; subst e; rw [if_pos rfl]; exact ⟨h, hkb⟩
      · rename_i e
        obtain ⟨h1, h2⟩ := keepS_get h
        rw [if_neg e]; exact ⟨h1, fun hb => h2 (by simp [hb])⟩
    · rw [hk] at h
      simp only [cond_true] at h
      obtain ⟨h1, h2⟩ := keepS_get h
      have hkb := hasN_mem.1 hk
      have hne : ¬ k = s := fun e => by subst e; exact h2 hkb
      rw [get_cons, if_neg hne]
      exact ⟨h1, h2⟩
theorem get_append : ∀ {a b : Slots} {s : Nat} {x : AV}, get (a ++ b) s = some x → get a s = some x ∨ get b s = some x
  | [], b, s, x, h => .inr h
  | (k, v) :: a, b, s, x, h => by
    simp only [List.cons_append, get_cons] at h ⊢
    split at h
    · rename_i e; rw [if_pos e]; exact .inl h
    · rename_i e; rw [if_neg e]; exact get_append h
theorem entS_get {Γ : Slots} : ∀ {l : Slots} {s : Nat} {y : AV}, entS Γ l → get l s = some y → ∃ x, get Γ s = some x ∧ ALe x y
  | [], s, y, _, h => by simp [get] at h
  | (k, v) :: l, s, y, he, h => by
    rw [get_cons] at h
    split at h
    · rename_i e; subst e; injection h with h; subst h; exact he.1
    · exact entS_get he.2 h
theorem subH_get : ∀ {A B : Heap}, subH A B → A.length = B.length ∧ ∀ (i : Nat) o, A[i]? = some (some o) → B[i]? = some (some o)
  | [], [], _ => ⟨rfl, fun i o h => by simp at h⟩
  | [], _ :: _, h => h.elim
  | none :: l, [], h => h.elim
  | some _ :: l, [], h => h.elim
  | some _ :: l, none :: m, h => h.elim
  | none :: l, x :: m, h => by
    obtain ⟨h1, h2⟩ := subH_get (A := l) (B := m) h
    refine ⟨by simp [h1], fun i o hi => ?_⟩
    cases i with
    | zero => simp at hi
    | succ i => simpa using h2 i o (by simpa using hi)
  | some o :: l, some o' :: m, h => by
    obtain ⟨rfl, h⟩ := h
    obtain ⟨h1, h2⟩ := subH_get (A := l) (B := m) h
    refine ⟨by simp [h1], fun i o2 hi => ?_⟩
    cases i with
    | zero => simpa using hi
    | succ i => simpa using h2 i o2 (by simpa using hi)
theorem Ghost.le {n nh : Nat} {Γ Γ' : Slots} {H H' : Heap} (hs : ∀ s y, get Γ' s = some y → ∃ x, get Γ s = some x ∧ ALe x y) (hh : subH H' H) : Ghost n nh Γ H Γ' H' := fun I0 β0 w0 a w _ ⟨I, β, h⟩ => by
  obtain ⟨hl, ho⟩ := subH_get hh
  have hH := h.h
  refine ⟨I, β, ⟨by rw [hH.len, hl], fun i o hi => hH.obj i o (ho i o hi), fun i j oi oj b b' h1 h2 => hH.inj i j oi oj b b' (ho i oi h1) (ho j oj h2), hH.imm, hH.lt⟩, h.defers, h.size, fun s y hy => ?_, h.evo, h.free⟩
  obtain ⟨x, hx, hle⟩ := hs s y hy
  exact hle _ _ _ _ (h.slot s x hx)
theorem ghost_ent {n nh : Nat} {Γ G : Slots} {H H' : Heap} {bad : List Nat} (he : entS Γ G) (hh : subH H' H) : Ghost n nh Γ H (G ++ keepS bad Γ) H' :=
  Ghost.le (fun s y hy => (get_append hy).elim (entS_get he) fun h => ⟨y, (keepS_get h).1, ALe.refl⟩) hh
section
variable {P : Program} {T : Tab} {n nh : Nat} {a b : Code} {Q : Exit → Slots → Heap → Prop} {Γ : Slots} {H : Heap}
theorem loop_at {X : Type} (g : X → Slots) (h : X → List (Nat × Option Rows)) (cond : X → Prop) (μ : X → Nat) (x0 : X) (h0 : cond x0) (he : entS Γ (g x0)) (hh : subH (setR H (h x0)) H)
    (hb : forceS (keepS (asg a []) Γ) fun base => ∀ x, cond x → forceH (setR H (h x)) fun H1 => xCode P T n nh a (thenQ (fun Γ' H' => ∃ x', cond x' ∧ μ x' < μ x ∧ Ghost n nh Γ' H' (g x' ++ base) (setR H (h x'))) Q) (g x ++ base) H1) : xCode P T n nh (.loop a) Q Γ H := by
  rw [forceS_eq] at hb
  refine code_loop (fun x => ⟨g x ++ keepS (asg a []) Γ, setR H (h x)⟩) cond μ ⟨x0, h0, ghost_ent he hh⟩ fun x hx => ?_
  have := hb x hx
  rw [forceH_eq] at this
  exact this
theorem back (rn : List Nat) {Γ' : Slots} {H' : Heap} {G : Slots} {H2 : Heap} (hd : allD rn = true) (ht : rn.take nh = tabl 0 nh) (hk : kept H' H'.length rn rn H2) (hs : refSlots H'.length rn Γ' G) : Ghost n nh Γ' H' G H2 :=
  Ghost.ref (S := ⟨G, H2⟩) ⟨rn, hd, ht, hk, hs⟩
end
abbrev o1 := @ops_cons
abbrev o2 := @ops_nil
abbrev o3 := @opsD_cons
abbrev o4 := @opsD_nil
abbrev o5 := @any_step
abbrev o6 := @any_nil
abbrev k1 := @code_seq
abbrev k2 := @code_region
abbrev k3 := @code_cond
abbrev k4 := @code_block
abbrev k5 := @code_scope
abbrev k6 := @code_skip
abbrev k7 := @code_ret
abbrev k8 := @code_exit
theorem eqv_size {s : ByteArray} {K : Nat → Prop} (h : K s.size) : eqv s.size K := ⟨_, rfl, h⟩
theorem nz (n : Nat) {p : Prop} (h : n + 1 = 0) : p := absurd h (Nat.succ_ne_zero _)
theorem conv_pv (H : Heap) (p : PV) : conv H (.pv p) = some (.pv p) := by simp [conv, conv1, convC]
theorem mapO_pvs (H : Heap) : ∀ l : List PV, mapO (conv H) (pvs l) = some (pvs l)
  | [] => rfl
  | p :: l => by simp only [pvs, mapO, conv_pv, mapO_pvs H l]
theorem mapO_app {α β : Type} {f : α → Option β} : ∀ {a b : List α} {x y : List β}, mapO f a = some x → mapO f b = some y → mapO f (a ++ b) = some (x ++ y)
  | [], b, x, y, h1, h2 => by simp only [mapO, Option.some.injEq] at h1; subst h1; exact h2
  | p :: a, b, x, y, h1, h2 => by
    simp only [mapO] at h1
    split at h1
    · rename_i z zs hz hzs
      injection h1 with h1; subst h1
      simp only [List.cons_append, mapO, hz, mapO_app hzs h2]
    · cases h1
theorem andL_cons {f : AV → Prop} (hp : ∀ p, f (.pv p)) {x : AV} {l : List AV} : andL f (x :: l) ↔ f x ∧ andL f l := by
  cases x <;> simp [andL, hp]
theorem andL_pvs {f : AV → Prop} : ∀ l : List PV, andL f (pvs l)
  | [] => trivial
  | p :: l => by simp only [pvs, andL]; exact andL_pvs l
theorem andL_app {f : AV → Prop} (hp : ∀ p, f (.pv p)) : ∀ {a b : List AV}, andL f a → andL f b → andL f (a ++ b)
  | [], b, _, h => h
  | x :: a, b, h1, h2 => by
    rw [andL_cons hp] at h1
    rw [List.cons_append, andL_cons hp]
    exact ⟨h1.1, andL_app hp h1.2 h2⟩
theorem call_cap {P : Program} {H : Heap} {K : AV → Heap → Prop} {f : FuncId} {args as0 : List AV} {caps : List PV} {v : AV} (hc : mapO (conv H) args = some as0) (hok : andL (ok1 H) args) (hp : PCall P f (as0 ++ pvs caps) (fun r => r = v)) (hv : scal v = true) (hK : K v H) :
    vcFun P f (args ++ pvs caps) H K :=
  call_eq (mapO_app hc (mapO_pvs H caps)) (andL_app (fun p => ok1_pv p) hok (andL_pvs caps)) ALeL.refl hp hv hK
theorem eqv_put {k : Value} {v : AV} {ck : Nat} {es : List (Value × Nat × AV)} {K : List (Value × Nat × AV) → Prop} (h : K (putM k v ck es)) : eqv (putM k v ck es) K := ⟨_, rfl, h⟩
theorem eqv_ck {k : Value} {ck : Nat} {es : List (Value × Nat × AV)} {K : Nat → Prop} (h : K (ckM k ck es)) : eqv (ckM k ck es) K := ⟨_, rfl, h⟩
theorem kEq_str {a b : ByteArray} : kEq (.string a) (.string b) = true ↔ a = b := MapKept.bytes_beq a b
def strM (es : List (Value × Nat × AV)) : Prop := ∀ e ∈ es, ∃ s, e.1 = .string s
theorem get_put_str {a b : ByteArray} {v : AV} {ck : Nat} : ∀ {es : List (Value × Nat × AV)}, strM es → (a = b → getM (.string a) (putM (.string b) v ck es) = some v) ∧ (a ≠ b → getM (.string a) (putM (.string b) v ck es) = getM (.string a) es)
  | [], _ => by
    simp only [putM, getM]
    cases h : kEq (.string a) (.string b)
    · exact ⟨fun e => (by rw [kEq_str.2 e] at h; cases h), fun _ => rfl⟩
    · exact ⟨fun _ => rfl, fun e => absurd (kEq_str.1 h) e⟩
  | (k, c, x) :: l, hs => by
    obtain ⟨s, rfl⟩ := hs (k, c, x) (by simp)
    have ih := get_put_str (a := a) (b := b) (v := v) (ck := ck) (es := l) fun e he => hs e (by simp [he])
    simp only [putM]
    cases h : kEq (.string b) (.string s)
    · simp only [cond_false, getM]
      cases h2 : kEq (.string a) (.string s)
      · simp only [cond_false]; exact ih
      · have e2 := kEq_str.1 h2
        exact ⟨fun e => (by rw [e2] at e; rw [kEq_str.2 e.symm] at h; cases h), fun _ => rfl⟩
    · have e1 := kEq_str.1 h
      subst e1
      simp only [cond_true, getM]
      cases h2 : kEq (.string a) (.string b)
      · exact ⟨fun e => (by rw [kEq_str.2 e] at h2; cases h2), fun _ => rfl⟩
      · exact ⟨fun _ => rfl, fun e => absurd (kEq_str.1 h2) e⟩
theorem strM_put {b : ByteArray} {v : AV} {ck : Nat} : ∀ {es : List (Value × Nat × AV)}, strM es → strM (putM (.string b) v ck es)
  | [], _ => fun e he => by simp [putM] at he; subst he; exact ⟨_, rfl⟩
  | (k, c, x) :: l, hs => fun e he => by
    simp only [putM] at he
    cases h : kEq (.string b) k
    · rw [h] at he
      simp only [cond_false, List.mem_cons] at he
      rcases he with rfl | he
      · exact hs _ (by simp)
      · exact strM_put (fun e he => hs e (by simp [he])) e he
    · rw [h] at he
      simp only [cond_true, List.mem_cons] at he
      rcases he with rfl | he
      · exact ⟨_, rfl⟩
      · exact hs e (by simp [he])
def pureM (es : List (Value × Nat × AV)) : Prop := ∀ e ∈ es, ∃ p, e.2.2 = .pv p
theorem ren_mp {d : Nat} {rn : List Nat} {ty z : Nat} {fz : Bool} {s : KS} {k : IntKind} {es : List (Value × Nat × AV)} {ck : Nat} (h : pureM es) : renO d rn ⟨ty, z, fz, .mp s k es ck⟩ = ⟨ty, z, fz, .mp s k es ck⟩ := by
  have : es.map (fun e => (e.1, e.2.1, renC d rn e.2.2)) = es := by
    conv => rhs; rw [← List.map_id es]
    refine List.map_congr_left fun e he => ?_
    obtain ⟨p, hp⟩ := h e he
    obtain ⟨a, b, c⟩ := e
    simp only at hp
    subst hp
    rfl
  simp only [renO, renRows, this]
theorem pureM_put {k : Value} {p : PV} {ck : Nat} : ∀ {es : List (Value × Nat × AV)}, pureM es → pureM (putM k (.pv p) ck es)
  | [], _ => fun e he => by simp [putM] at he; subst he; exact ⟨_, rfl⟩
  | (k2, c, x) :: l, hs => fun e he => by
    simp only [putM] at he
    cases h : kEq k k2
    · rw [h] at he
      simp only [cond_false, List.mem_cons] at he
      rcases he with rfl | he
      · exact hs _ (by simp)
      · exact pureM_put (fun e he => hs e (by simp [he])) e he
    · rw [h] at he
      simp only [cond_true, List.mem_cons] at he
      rcases he with rfl | he
      · exact ⟨_, rfl⟩
      · exact hs e (by simp [he])
end Go.Cw
/-
  More ghost steps and statements: cells of rows become pure; loops unrolled; objects at a loop's head.
-/
namespace Go.Cw
set_option linter.unusedVariables false
section
variable {P : Program} {T : Tab} {n nh : Nat} {a b c : Code} {Q : Exit → Slots → Heap → Prop} {Γ : Slots} {H : Heap}
theorem code_rounds (m : Nat) (h : rounds (xCode P T n nh a) Q m Γ H) : xCode P T n nh (.loop a) Q Γ H := by
  rw [xCode_eq] at *
  exact gh.same (.inr ⟨m, h⟩)
theorem loop_in {X : Type} (g : X → Slots) (hp : X → Heap) (cond : X → Prop) (μ : X → Nat) (x0 : X) (h0 : cond x0)
    (hb : forceS (keepS (asg a []) Γ) fun base => Ghost n nh Γ H (g x0 ++ base) (hp x0) ∧ ∀ x, cond x → forceH (hp x) fun H1 => xCode P T n nh a (thenQ (fun Γ' H' => ∃ x', cond x' ∧ μ x' < μ x ∧ Ghost n nh Γ' H' (g x' ++ base) (hp x')) Q) (g x ++ base) H1) : xCode P T n nh (.loop a) Q Γ H := by
  rw [forceS_eq] at hb
  refine code_loop (fun x => ⟨g x ++ keepS (asg a []) Γ, hp x⟩) cond μ ⟨x0, h0, hb.1⟩ fun x hx => ?_
  have := hb.2 x hx
  rw [forceH_eq] at this
  exact this
structure Later (p : Prop) : Prop where
  go : p
theorem join_in {X : Type} (g : X → Slots) (hp : X → Heap) (cond : X → Prop)
    (ha : forceS (keepS (asg a []) Γ) fun base => xCode P T n nh a (thenQ (fun Γ' H' => ∃ x, cond x ∧ Ghost n nh Γ' H' (g x ++ base) (hp x)) Q) Γ H ∧
      Later (∀ x, cond x → forceH (hp x) fun H1 => xCode P T n nh b Q (g x ++ base) H1)) : xCode P T n nh (.seq a b) Q Γ H := by
  rw [forceS_eq] at ha
  refine code_join (fun S => ∃ x, cond x ∧ S = ⟨g x ++ keepS (asg a []) Γ, hp x⟩) ?_ ?_
  · have : (fun Γ' H' => ∃ x, cond x ∧ Ghost n nh Γ' H' (g x ++ keepS (asg a []) Γ) (hp x)) = fun Γ' H' => ∃ S, (∃ x, cond x ∧ S = (⟨g x ++ keepS (asg a []) Γ, hp x⟩ : ASt)) ∧ Ghost n nh Γ' H' S.sl S.hp := by
      funext Γ' H'
      exact propext ⟨fun ⟨x, h1, h2⟩ => ⟨_, ⟨x, h1, rfl⟩, h2⟩, fun ⟨S, ⟨x, h1, e⟩, h2⟩ => ⟨x, h1, by subst e; exact h2⟩⟩
    rw [← this]
    exact ha.1
  · rintro S ⟨x, hx, rfl⟩
    have := ha.2.go x hx
    rw [forceH_eq] at this
    exact this
end
end Go.Cw
/-
  Cw: the library's sort, part 1: worlds that have grown, rows of cells that are put anew. No conditions.
-/
namespace Go.Cw
open Go.Sort
set_option linter.unusedVariables false
theorem shape_lt {w : World} {b : Nat} {t : TypeId} {n : Nat} (h : w.shape? b = some (t, n)) : b < w.heap.size := by
  rcases Nat.lt_or_ge b w.heap.size with h1 | h1
  · exact h1
  · simp [World.shape?, Array.getElem?_eq_none h1] at h
theorem grow_sim {I : Nat → Prop} {β : Beta} {H : Heap} {w : World} (hH : HSim I β H w) (os : Array Obj) : HSim I β H (grow w os) ∧ Evo I β w I β (grow w os) := by
  have hold : ∀ b, b < w.heap.size → (grow w os).heap[b]? = w.heap[b]? := fun b hb => heap_grow_old w os hb
  have hkI : ∀ b, I b → (grow w os).heap[b]? = w.heap[b]? ∧ I b := fun b hb => ⟨hold b (hH.imm b hb), hb⟩
  have hsh : ∀ b t n, w.shape? b = some (t, n) → (grow w os).shape? b = some (t, n) := fun b t n hs => by
    have hb := shape_lt hs
    simpa [World.shape?, hold b hb] using hs
  have hsz : w.heap.size ≤ (grow w os).heap.size := by rw [size_grow]; omega
  refine ⟨⟨hH.len, fun i o ho => ?_, hH.inj, ⟨fun b hb => Nat.lt_of_lt_of_le (hH.imm b hb) hsz, hH.imm.gl.mono hkI⟩, fun i b hb => Nat.lt_of_lt_of_le (hH.lt i b hb) hsz⟩, ⟨rfl, rfl, rfl, hsz, fun _ _ h => h, fun i b h => .inr ⟨i, b, h, rfl⟩, fun b hb _ => hold b hb, hkI, fun _ _ h => .inl h, hsh, Nat.le_refl _⟩⟩
  obtain ⟨b, hb, hos⟩ := hH.obj i o ho
  exact ⟨b, hb, hos.mono hkI (fun _ _ h => h) hsh (hold b.1 (hH.lt i b hb)) (fun h => h)⟩
theorem get!_of {α : Type} [Inhabited α] {a : Array α} {i : Nat} {x : α} (h : a[i]? = some x) : a[i]! = x := by simp [getElem!_def, h]
theorem putCells_get {α : Type} [Inhabited α] {enc : α → Value} {off : Nat} {d : Array α} {c : Array Value} {j : Nat} (hj : j < d.size) (hc : off + d.size ≤ c.size) : (putCells enc off d c)[off + j]? = some (enc d[j]!) := by
  have h1 : off + j < c.size := by omega
  simp only [putCells, Array.getElem?_mapIdx, Array.getElem?_eq_getElem h1, Option.map_some]
  rw [if_pos ⟨by omega, by omega⟩, show off + j - off = j by omega]
theorem putCells_size {α : Type} [Inhabited α] {enc : α → Value} {off : Nat} {d : Array α} {c : Array Value} : (putCells enc off d c).size = c.size := by simp [putCells]
theorem putRow_heap {α : Type} [Inhabited α] (enc : α → Value) (w : World) (blk off : Nat) (d : Array α) {c : Array Value} {e : TypeId} {fr : Nat × Nat} (h : w.heap[blk]? = some (.cells c e fr)) :
    (putRow enc w blk off d).heap[blk]? = some (.cells (putCells enc off d c) e fr) := by
  simp [putRow, mapBlock, Array.getElem?_modify, h, onCells]
theorem putRow_heap_other {α : Type} [Inhabited α] (enc : α → Value) (w : World) (blk off : Nat) (d : Array α) {k : Nat} (h : k ≠ blk) : (putRow enc w blk off d).heap[k]? = w.heap[k]? := by
  simp [putRow, mapBlock, Array.getElem?_modify, Ne.symm h]
theorem put_sim {I : Nat → Prop} {β : Beta} {w : World} {ty : TypeId} {z : Nat} {xs ys : List (List PV)} {b : Nat × Nat} {c : Array Value} (hH : HSim I β [some ⟨ty, z, false, .p xs⟩] w) (hb : β[0]? = some (some b))
    (hc : w.heap[b.1]? = some (.cells c ty (0, 0))) {α : Type} [Inhabited α] (enc : α → Value) (d : Array α) (n off : Nat) (os : Array Obj) (hwide : rowsWide (.p ys) z)
    (hcell : BCellsAt I β w (.p ys) z b.2 (putCells enc off d c)) :
    HSim I β [some ⟨ty, z, false, .p ys⟩] (grow (putRow enc (Sort.ahead w n) b.1 off d) os) ∧ Evo I β w I β (grow (putRow enc (Sort.ahead w n) b.1 off d) os) := by
  have hw1 : (putRow enc (Sort.ahead w n) b.1 off d).heap[b.1]? = some (.cells (putCells enc off d c) ty (0, 0)) := putRow_heap enc (Sort.ahead w n) b.1 off d hc
  obtain ⟨h1, h2⟩ := heap_upd (id := 0) (tgt := 0) (b := b) (b2 := b) (on := ⟨ty, z, false, .p ys⟩) (arr := putCells enc off d c) (w' := putRow enc (Sort.ahead w n) b.1 off d) (β2 := β) (H2 := [some ⟨ty, z, false, .p ys⟩]) hH rfl hb rfl rfl rfl
    hw1 (fun t m hs => by rw [shape_of_heap hc] at hs; rw [shape_of_heap hw1, putCells_size]; exact hs) (fun k hk => putRow_heap_other enc (Sort.ahead w n) b.1 off d hk) (by simp) rfl rfl rfl (by show w.drawn ≤ w.drawn + n; omega) hH.len (fun _ _ h => h)
    (fun i o2 ho2 => by
      cases i with
      | zero => injection ho2 with ho2; injection ho2 with ho2; exact .inr ⟨rfl, ho2.symm⟩
      | succ i => cases ho2) hb (fun _ _ h => .inl h) hwide hcell
  obtain ⟨h3, h4⟩ := grow_sim h1 os
  exact ⟨h3, h2.trans h4⟩
theorem obj_p {I : Nat → Prop} {β : Beta} {w : World} {ty : TypeId} {z : Nat} {xs : List (List PV)} (hH : HSim I β [some ⟨ty, z, false, .p xs⟩] w) :
    ∃ b c, β[0]? = some (some b) ∧ w.heap[b.1]? = some (.cells c ty (0, 0)) ∧ ¬ I b.1 ∧ b.1 < w.heap.size ∧ (∀ (i : Nat) r, xs[i]? = some r → r.length = z) ∧
      ∀ (i j : Nat) r p, xs[i]? = some r → r[j]? = some p → ∃ v, c[(i + b.2) * z + j]? = some v ∧ v.oneCell' = true ∧ PRel I w p v := by
  obtain ⟨b, hb, h1, h2, c, h3, h4⟩ := hH.obj 0 _ rfl
  refine ⟨b, c, hb, h3, (fun h => by have := h2.2 h; cases this), hH.lt 0 b hb, h1, fun i j r p hr hp => ?_⟩
  obtain ⟨v, hv, ho, ha⟩ := h4 i j (.pv p) (by simp [rowCell, hr, hp])
  cases ha with
  | pv ha => exact ⟨v, hv, ho, ha⟩
theorem arg_ms {I : Nat → Prop} {β : Beta} {w : World} {z n : Nat} {b : Nat × Nat} {v : Value} (h : ARel I β w (.ms 0 z 0 n) v) (hb : β[0]? = some (some b)) (hn : 0 < n) : ∃ cap, v = .slice (some ⟨b.1, b.2 * z, none⟩) n cap := by
  cases h with
  | ms h1 h2 h3 h4 h5 =>
    rw [hb] at h1; injection h1 with h1; injection h1 with h1; subst h1
    rcases h4 with h4 | h4
    · subst h4; exact ⟨_, by rw [Nat.zero_add]⟩
    · omega
end Go.Cw
/-
  Cw: the library's sort, part 2: slices.Sort at strings. Conditions: the program bears its text (Lays.n190).
-/
namespace Go.Cw
open Go.Sort Go.Shelf
set_option linter.unusedVariables false
variable {P : Program} {ρ : Ren}
def strRow (s : ByteArray) : List PV := [.val (.string s)]
def sortS (l : List ByteArray) : List ByteArray := ((l.map bts).mergeSort fun x y => decide (x ≤ y)).map fun x => ⟨x.toArray⟩
theorem bts_back (s : ByteArray) : (⟨(bts s).toArray⟩ : ByteArray) = s := by cases s; rfl
end Go.Cw
/-
  Cw: the library's sort, part 4: slices.Compact at strings; what slices.Sort and slices.Compact give together. Conditions: the program bears its text (Lays.n194).
-/
namespace Go.Cw
open Go.Sort Go.Shelf
set_option linter.unusedVariables false
variable {P : Program} {ρ : Ren}
def compactS (l : List ByteArray) : List ByteArray := (Lib.compact (l.map bts)).map fun x => ⟨x.toArray⟩
/-! ### Plain laws -/
theorem sLt_eq (a b : ByteArray) : sLt a b = decide (bts a < bts b) := Go.Proofs.bytesLess_eq _ _
theorem bts_inj {a b : ByteArray} (h : bts a = bts b) : a = b := by rw [← bts_back a, ← bts_back b, h]
def ascS (l : List ByteArray) : Prop := l.Pairwise fun a b => sLt b a = false
def strS (l : List ByteArray) : Prop := l.Pairwise fun a b => sLt a b = true
theorem sLt_irr (a : ByteArray) : sLt a a = false := by rw [sLt_eq]; exact decide_eq_false (List.lt_irrefl _)
theorem sLt_trans {a b c : ByteArray} (h1 : sLt a b = true) (h2 : sLt b c = true) : sLt a c = true := by
  rw [sLt_eq] at *
  exact decide_eq_true (List.lt_trans (of_decide_eq_true h1) (of_decide_eq_true h2))
theorem sLt_conn {a b : ByteArray} (h1 : sLt a b = false) (h2 : sLt b a = false) : a = b := by
  rw [sLt_eq] at *
  exact bts_inj (List.le_antisymm (List.not_lt.1 (of_decide_eq_false h2)) (List.not_lt.1 (of_decide_eq_false h1)))
end Go.Cw
/-
  Cw: the library's sort, part 3: slices.SortFunc at structs of k cells. Conditions: the program bears its text (SlLaysF0.n6); the function that compares is a strict weak order on the rows.
-/
namespace Go.Cw
open Go.Sort Go.Shelf
set_option linter.unusedVariables false
variable {P : Program} {ρ : Ren}
def RowsAsc (C : List PV → List PV → Int) (ys : List (List PV)) : Prop := ∀ (i j : Nat) x y, i < j → ys[i]? = some x → ys[j]? = some y → ¬ C y x < 0
structure WeakOrd (C : List PV → List PV → Int) (xs : List (List PV)) : Prop where
  irr : ∀ x ∈ xs, ¬ C x x < 0
  trans : ∀ x ∈ xs, ∀ y ∈ xs, ∀ z ∈ xs, C x y < 0 → C y z < 0 → C x z < 0
  ntrans : ∀ x ∈ xs, ∀ y ∈ xs, ∀ z ∈ xs, ¬ C x y < 0 → ¬ C y z < 0 → ¬ C x z < 0
theorem heap_split {a b : Array Obj} (hs : a.size ≤ b.size) (h : ∀ i, i < a.size → b[i]? = a[i]?) : ∃ os, b = a ++ os := by
  refine ⟨b.extract a.size b.size, ?_⟩
  apply Array.ext_getElem?
  intro i
  by_cases hi : i < a.size
  · rw [h i hi, Array.getElem?_append_left hi]
  · rw [Array.getElem?_append_right (by omega), Array.getElem?_extract]
    by_cases hb : i < b.size
    · rw [if_pos (by omega), show a.size + (i - a.size) = i by omega]
    · rw [if_neg (by omega), Array.getElem?_eq_none (by omega)]
theorem world_grown {w w' : World} (h1 : w'.os = w.os) (h2 : w'.tape = w.tape) (h3 : w'.output = w.output) (h4 : w.drawn ≤ w'.drawn) (hs : w.heap.size ≤ w'.heap.size) (h : ∀ i, i < w.heap.size → w'.heap[i]? = w.heap[i]?) :
    ∃ q os, w' = grow (w.drewN q) os := by
  obtain ⟨os, ho⟩ := heap_split hs h
  refine ⟨w'.drawn - w.drawn, os, ?_⟩
  cases w; cases w'
  simp only at h1 h2 h3 h4 ho
  subst h1 h2 h3 ho
  simp only [grow, World.drewN, World.mk.injEq, true_and, and_true]
  omega
theorem cmp_calls {I : Nat → Prop} {w W : World} {g : FuncId} {caps x y : List PV} {n : Int} {cb vx vy : Array Value}
    (hC : PCall P g ([.agg (pvs x), .agg (pvs y)] ++ pvs caps) (fun r => r = vint .i64 n)) (hI : ∀ b, I b → W.heap[b]? = w.heap[b]? ∧ I b) (himm : Imm I W)
    (hx1 : vx.size = x.length) (hx2 : ∀ (j : Nat) p, x[j]? = some p → PRel I w p (vx.getD j undef)) (hy1 : vy.size = y.length) (hy2 : ∀ (j : Nat) p, y[j]? = some p → PRel I w p (vy.getD j undef))
    (hc1 : cb.size = caps.length) (hc2 : ∀ (j : Nat) p, caps[j]? = some p → PRel I w p (cb.getD j undef)) :
    Calls P g (#[.agg vx, .agg vy] ++ cb) W fun e w' => e = .returned (.int .i64 n) ∧ ∃ q os', w' = grow (W.drewN q) os' := by
  have hag : ∀ {z : List PV} {v : Array Value}, v.size = z.length → (∀ (j : Nat) p, z[j]? = some p → PRel I w p (v.getD j undef)) → ARel I [] W (.agg (pvs z)) (.agg v) := fun h1 h2 => .agg (by rw [pvs_length]; exact h1) fun j c hj => by
    obtain ⟨p, hp, rfl⟩ := pvs_get.1 hj
    exact .pv ((h2 j p hp).mono hI)
  refine (hC.2 I [] W _ ⟨rfl, fun i o ho => by simp at ho, fun i j oi oj b b' hi => by simp at hi, himm, fun i b hb => by simp at hb⟩ (by simp [pvs_length, hc1]; omega) (fun j c hj => ?_)).mono ?_
  · match j with
    | 0 => injection hj with hj; subst hj; rw [show (#[Value.agg vx, Value.agg vy] ++ cb).getD 0 undef = .agg vx by rw [Array.getD_eq_getD_getElem?, Array.getElem?_append_left (by simp)]; rfl]; exact hag hx1 hx2
    | 1 => injection hj with hj; subst hj; rw [show (#[Value.agg vx, Value.agg vy] ++ cb).getD 1 undef = .agg vy by rw [Array.getD_eq_getD_getElem?, Array.getElem?_append_left (by simp)]; rfl]; exact hag hy1 hy2
    | j + 2 =>
      obtain ⟨p, hp, rfl⟩ := pvs_get.1 (show (pvs caps)[j]? = some c from hj)
      have e : (#[Value.agg vx, Value.agg vy] ++ cb).getD (j + 2) undef = cb.getD j undef := by
        simp only [Array.getD_eq_getD_getElem?]
        rw [Array.getElem?_append_right (by simp)]
        congr 2
      rw [e]
      exact .pv ((hc2 j p hp).mono hI)
  · rintro e w' ⟨r, H', I', β', v, rfl, ⟨rfl, rfl⟩, h1, h2, h3⟩
    have hv : v = .int .i64 n := by
      cases h2 with
      | pv h => cases h; rfl
    exact ⟨by rw [hv], world_grown h3.os h3.tape h3.output h3.drawn h3.size fun i hi => h3.keep i hi fun j c hj => by simp at hj⟩
theorem acall_sortK (L : Go.Proofs.SlLaysF0.n6 P ρ) (he : Enterable P (ρ.f 6)) {k : Nat} (aE : ∀ w, (isAgg (ρ.t 24)).run P w = .ok true w) (zE : ∀ w, (Go.sizeOf (ρ.t 24)).run P w = .ok k w) (ty : TypeId) (xs : List (List PV)) (g : FuncId) (caps : List PV) (C : List PV → List PV → Int)
    (eg : ∀ args w, (callFunc g args).run P w = .ok (.enter g args) w) (hC : ∀ x ∈ xs, ∀ y ∈ xs, PCall P g ([.agg (pvs x), .agg (pvs y)] ++ pvs caps) (fun r => r = vint .i64 (C x y))) (hO : WeakOrd C xs) (hk0 : 0 < k) (hne : xs ≠ []) (hlen : xs.length < 4611686018427387904) :
    ACall P (ρ.f 6) [.ms 0 k 0 xs.length, .pv (.fn g caps)] [some ⟨ty, k, false, .p xs⟩] fun r H' => r = .tup [] ∧ ∃ ys, ys.Perm xs ∧ RowsAsc C ys ∧ H' = [some ⟨ty, k, false, .p ys⟩] := by
  refine ⟨he, fun I β w vs hH hvs hrel => ?_⟩
  have hpos := List.length_pos_iff.2 hne
  obtain ⟨b, c, hb, hc, hI, hblk, hwide, hcell⟩ := obj_p hH
  obtain ⟨v0, v1, rfl⟩ : ∃ v0 v1, vs = #[v0, v1] := by
    match vs, hvs with
    | ⟨[v, v']⟩, _ => exact ⟨v, v', rfl⟩
  obtain ⟨cap, rfl⟩ := arg_ms (hrel 0 _ rfl) hb hpos
  obtain ⟨cb, rfl, hcb1, hcb2⟩ : ∃ cb : Array Value, v1 = .func (.func g) #[] cb ∧ cb.size = caps.length ∧ ∀ (j : Nat) p, caps[j]? = some p → PRel I w p (cb.getD j undef) := by
    have h := hrel 1 _ rfl
    cases h with
    | pv h =>
      change PRel I w _ v1 at h
      cases h with
      | fn hl h => exact ⟨_, rfl, hl, h⟩
  -- the rows by their numbers
  let n := xs.length
  haveI : Inhabited (Fin n) := ⟨⟨0, hpos⟩⟩
  let row : Fin n → List PV := fun i => xs[i.1]
  have hrow : ∀ i : Fin n, xs[i.1]? = some (row i) := fun i => List.getElem?_eq_getElem i.2
  have hmem : ∀ i : Fin n, row i ∈ xs := fun i => List.mem_of_getElem? (hrow i)
  let enc : Fin n → List Value := fun i => (List.range k).map fun j => (c[(i.1 + b.2) * k + j]?).getD undef
  have hencl : ∀ i, (enc i).length = k := fun i => by simp [enc]
  have hat : ∀ (i : Fin n) j, j < k → ∃ v p, c[(i.1 + b.2) * k + j]? = some v ∧ (row i)[j]? = some p ∧ v.oneCell' = true ∧ PRel I w p v := fun i j hj => by
    have hl := hwide i.1 _ (hrow i)
    obtain ⟨p, hp⟩ : ∃ p, (row i)[j]? = some p := ⟨_, List.getElem?_eq_getElem (by omega)⟩
    obtain ⟨v, h1, h2, h3⟩ := hcell i.1 j _ p (hrow i) hp
    exact ⟨v, p, h1, hp, h2, h3⟩
  have hencg : ∀ (i : Fin n) j, j < k → (enc i)[j]? = c[(i.1 + b.2) * k + j]? := fun i j hj => by
    obtain ⟨v, p, h1, -⟩ := hat i j hj
    simp only [enc, List.getElem?_map, List.getElem?_range hj, Option.map_some]
    rw [h1]; rfl
  have h1c : ∀ i, ∀ v ∈ enc i, v.oneCell' = true := fun i v hv => by
    obtain ⟨j, hj⟩ := List.getElem?_of_mem hv
    have hjk : j < k := by have := (List.getElem?_eq_some_iff.1 hj).1; rw [hencl] at this; exact this
    rw [hencg i j hjk] at hj
    obtain ⟨v', p, h1, -, h2, -⟩ := hat i j hjk
    rw [hj] at h1; injection h1 with h1; subst h1; exact h2
  have hrelx : ∀ (i : Fin n), (enc i).toArray.size = (row i).length ∧ ∀ (j : Nat) p, (row i)[j]? = some p → PRel I w p ((enc i).toArray.getD j undef) := fun i => by
    have hl := hwide i.1 _ (hrow i)
    refine ⟨by simp [hencl, hl], fun j p hp => ?_⟩
    have hjk : j < k := by have := (List.getElem?_eq_some_iff.1 hp).1; omega
    obtain ⟨v, p', h1, h2, -, h3⟩ := hat i j hjk
    rw [hp] at h2; injection h2 with h2; subst h2
    have : (enc i).toArray.getD j undef = v := by
      rw [Array.getD_eq_getD_getElem?, List.getElem?_toArray, hencg i j hjk, h1]; rfl
    rw [this]; exact h3
  let d : Array (Fin n) := (List.finRange n).toArray
  have hds : d.size = n := by simp [d]
  have hdg : ∀ (i : Nat) (h : i < n), d[i]! = ⟨i, h⟩ := fun i h => get!_of (by simp [d, h])
  have hflat : ∀ t, t < n * k → (flatK enc k d)[t]! = (c[b.2 * k + t]?).getD undef ∧ (c[b.2 * k + t]?).isSome := fun t ht => by
    have hq : t / k < n := Nat.div_lt_of_lt_mul (by rwa [Nat.mul_comm])
    have hr : t % k < k := Nat.mod_lt _ hk0
    have e : (t / k + b.2) * k + t % k = b.2 * k + t := by
      have := Nat.div_add_mod t k
      rw [Nat.add_mul, Nat.mul_comm (t / k) k]; omega
    rw [get_flatK enc k d t (by rw [hds]; exact ht), hdg _ hq]
    obtain ⟨v, p, h1, -⟩ := hat ⟨t / k, hq⟩ (t % k) hr
    have h2 := hencg ⟨t / k, hq⟩ (t % k) hr
    rw [h1] at h2
    simp only [e] at h1
    rw [h1]
    refine ⟨?_, rfl⟩
    rw [List.getElem!_eq_getElem?_getD, h2]; rfl
  have hH2 : HoldsK enc k w b.1 (b.2 * k) d := fun t ht => by
    have ht' : t < n * k := by simpa [hds] using ht
    obtain ⟨h1, h2⟩ := hflat t ht'
    refine ⟨?_, by simp [World.frozen?, hc]⟩
    rw [h1]
    simp only [World.cell?, hc]
    show c[b.2 * k + t]? = _
    cases hv : c[b.2 * k + t]? with
    | none => rw [hv] at h2; cases h2
    | some v => rfl
  have hO2 : SWO (Go.Proofs.ltOf fun i j : Fin n => C (row i) (row j)) := by
    refine ⟨fun x => ?_, fun x y z h1 h2 => ?_, fun x y z h1 h2 => ?_⟩
    · exact decide_eq_false (hO.irr _ (hmem x))
    · exact decide_eq_true (hO.trans _ (hmem x) _ (hmem y) _ (hmem z) (of_decide_eq_true h1) (of_decide_eq_true h2))
    · exact decide_eq_false (hO.ntrans _ (hmem x) _ (hmem y) _ (hmem z) (of_decide_eq_false h1) (of_decide_eq_false h2))
  have hcmp : Go.Proofs.CmpLays P g cb enc k (fun i j : Fin n => C (row i) (row j)) b.1 (b.2 * k) d.size w := fun m os dk hdk x y => by
    have hsz : w.heap.size ≤ (Go.Proofs.sortWorldK enc k w b.1 (b.2 * k) m dk os).heap.size := Go.Proofs.size_sortWorldK_c enc k w b.1 (b.2 * k) m dk os
    have hkk : ∀ b', I b' → (Go.Proofs.sortWorldK enc k w b.1 (b.2 * k) m dk os).heap[b']? = w.heap[b']? ∧ I b' := fun b' hb' => by
      refine ⟨?_, hb'⟩
      have hne' : b' ≠ b.1 := fun e => hI (e ▸ hb')
      unfold Go.Proofs.sortWorldK putRowK
      rw [heap_grow_old _ os (by rw [size_putRow]; exact hH.imm b' hb')]
      exact putRow_heap_other id (Sort.ahead w m) b.1 (b.2 * k) _ hne'
    exact cmp_calls (I := I) (w := w) (hC _ (hmem x) _ (hmem y)) hkk ⟨fun b' hb' => Nat.lt_of_lt_of_le (hH.imm b' hb') hsz, hH.imm.gl.mono hkk⟩ (hrelx x).1 (hrelx x).2 (hrelx y).1 (hrelx y).2 hcb1 hcb2
  have hcall := Go.Proofs.AnyQ.slices_SortFunc L k aE zE enc hencl h1c (fun i j : Fin n => C (row i) (row j)) hO2 g cb b.1 (b.2 * k) cap d w eg hcmp hH2 hblk (by rw [hds]; exact hlen)
  rw [hds] at hcall
  refine hcall.mono ?_
  rintro e w' ⟨rfl, d', m, os, hp, hs, rfl⟩
  obtain ⟨hp1, -, hp3⟩ := hp
  have hd's : d'.size = n := hp1.trans hds
  have hperm : d'.toList.Perm (List.finRange n) := by
    have h1 : d'.extract 0 d.size = d' := by rw [← hp1]; simp
    have h2 : d.extract 0 d.size = d := by simp
    rw [hds] at h1 h2
    rw [h1, h2] at hp3
    exact hp3
  let ys := d'.toList.map row
  have hyp : ys.Perm xs := by
    have h1 := hperm.map row
    have h2 : (List.finRange n).map row = xs := by
      apply List.ext_getElem?
      intro i
      rw [List.getElem?_map]
      by_cases hi : i < n
      · rw [List.getElem?_eq_getElem (by simpa using hi)]
        simp [row, List.getElem?_eq_getElem hi]
      · rw [List.getElem?_eq_none (by simpa using hi), List.getElem?_eq_none (by omega)]; rfl
    rw [h2] at h1
    exact h1
  have hyg : ∀ (i : Nat) x, ys[i]? = some x → ∃ q : Fin n, d'[i]? = some q ∧ x = row q := fun i x hx => by
    rw [List.getElem?_map] at hx
    obtain ⟨q, hq, rfl⟩ := Option.map_eq_some_iff.1 hx
    exact ⟨q, by rw [← Array.getElem?_toList]; exact hq, rfl⟩
  have hcs : b.2 * k + n * k ≤ c.size := by
    have ht : n * k - 1 < n * k := Nat.sub_lt (Nat.mul_pos hpos hk0) (by omega)
    have h2 := (hflat (n * k - 1) ht).2
    obtain ⟨v, hv⟩ := Option.isSome_iff_exists.1 h2
    have := (Array.getElem?_eq_some_iff.1 hv).1
    omega
  obtain ⟨h1, h2⟩ := put_sim (ys := ys) hH hb hc id (flatK enc k d') m (b.2 * k) os
    (fun i r hr => by
      obtain ⟨q, -, rfl⟩ := hyg i r hr
      exact hwide q.1 _ (hrow q))
    (fun i j x hx => by
      simp only [rowCell] at hx
      obtain ⟨p, hx', rfl⟩ := Option.map_eq_some_iff.1 hx
      obtain ⟨r, hr, hp⟩ := Option.bind_eq_some_iff.1 hx'
      obtain ⟨q, hq, rfl⟩ := hyg i r hr
      have hi : i < n := by rw [← hd's]; exact (Array.getElem?_eq_some_iff.1 hq).1
      have hjk : j < k := by
        have h1 := (List.getElem?_eq_some_iff.1 hp).1
        have h2 := hwide q.1 _ (hrow q)
        omega
      obtain ⟨v, p', e1, e2, e3, e4⟩ := hat q j hjk
      rw [hp] at e2; injection e2 with e2; subst e2
      refine ⟨v, ?_, e3, .pv e4⟩
      have hlt : i * k + j < n * k := by
        have := Nat.mul_le_mul_right k (show i + 1 ≤ n from hi)
        rw [Nat.add_mul] at this; omega
      rw [show (i + b.2) * k + j = b.2 * k + (i * k + j) by rw [Nat.add_mul]; omega, putCells_get (by simpa [hd's] using hlt) (by simpa [hd's] using hcs)]
      have e : (flatK enc k d')[i * k + j]! = v := by
        rw [get_flatK enc k d' _ (by rw [hd's]; exact hlt)]
        have e5 : (i * k + j) / k = i := by rw [Nat.mul_comm, Nat.mul_add_div hk0, Nat.div_eq_of_lt hjk]; rfl
        have e6 : (i * k + j) % k = j := by rw [Nat.mul_comm, Nat.mul_add_mod, Nat.mod_eq_of_lt hjk]
        rw [e5, e6, get!_of hq, List.getElem!_eq_getElem?_getD, hencg q j hjk, e1]; rfl
      rw [e]; rfl)
  refine ⟨_, _, I, β, _, rfl, ⟨rfl, ys, hyp, fun i j x y hij hx hy => ?_, rfl⟩, h1, .tup rfl (fun j c hj => by simp at hj), h2⟩
  obtain ⟨q, hq, rfl⟩ := hyg i x hx
  obtain ⟨q', hq', rfl⟩ := hyg j y hy
  have hj : j < n := by rw [← hd's]; exact (Array.getElem?_eq_some_iff.1 hq').1
  have h3 := hs i j (Nat.zero_le _) hij hj
  rw [get!_of hq, get!_of hq'] at h3
  exact of_decide_eq_false h3
end Go.Cw
/-
  What a law is handed, type by type.
-/
namespace Go.Cw
set_option linter.unusedVariables false
def intAt (T : Tab) (t : TypeId) : Bool := match look T t with
  | some ⟨_, _, _, .int .i64, _⟩ => true
  | _ => false
def strAt (T : Tab) (t : TypeId) : Bool := match look T t with
  | some ⟨_, _, _, .str, _⟩ => true
  | _ => false
def boolAt (T : Tab) (t : TypeId) : Bool := match look T t with
  | some ⟨_, _, _, .bool, _⟩ => true
  | _ => false
def elemAt (T : Tab) (t : TypeId) : Option (TypeId × Nat) := match look T t with
  | some ⟨_, _, _, .slice e, _⟩ => match look T e with
    | some d => some (e, d.size)
    | none => none
  | _ => none
def fieldsAt (T : Tab) (t : TypeId) : Option (List TypeId) := match look T t with
  | some ⟨_, _, _, .struct fs, _⟩ => some (fs.map (·.2))
  | _ => none
def aggAt (T : Tab) (t : TypeId) : Option Bool := match look T t with
  | some d => some d.agg
  | none => none
section
variable {T : Tab} {N : TypeId → Nat} {t : TypeId} {qs : List PV}
theorem kd_int (hk : intAt T t = true) (h : PTyN T N t qs) : ∃ n : Int, qs = [.val (.int .i64 n)] ∧ -9223372036854775808 ≤ n ∧ n ≤ 9223372036854775807 := by
  unfold intAt at hk
  cases h with
  | int h hw => rw [h] at hk; rename_i k _ n; cases k <;> first | exact ⟨n, rfl, hw.1, hw.2⟩ | cases hk
  | bool h => rw [h] at hk; cases hk
  | str h => rw [h] at hk; cases hk
  | slice h => rw [h] at hk; cases hk
  | struct h => rw [h] at hk; cases hk
theorem kd_str (hk : strAt T t = true) (h : PTyN T N t qs) : ∃ s : ByteArray, qs = [.val (.string s)] ∧ s.size ≤ 9223372036854775807 := by
  unfold strAt at hk
  cases h with
  | int h => rw [h] at hk; cases hk
  | bool h => rw [h] at hk; cases hk
  | str h hs => exact ⟨_, rfl, hs⟩
  | slice h => rw [h] at hk; cases hk
  | struct h => rw [h] at hk; cases hk
theorem kd_rows {α : Type} {f : α → List PV} {p : α → Prop} : ∀ {xs : List (List PV)}, (∀ r ∈ xs, ∃ a, r = f a ∧ p a) → ∃ l : List α, xs = l.map f ∧ ∀ a ∈ l, p a
  | [], _ => ⟨[], rfl, by simp⟩
  | r :: xs, h => by
    obtain ⟨a, rfl, ha⟩ := h r (by simp)
    obtain ⟨l, rfl, hl⟩ := kd_rows (xs := xs) fun r hr => h r (by simp [hr])
    exact ⟨a :: l, rfl, by simpa using ⟨ha, hl⟩⟩
theorem kd_slice {α : Type} (f : α → List PV) (p : α → Prop) {e : TypeId} {z : Nat} (hk : elemAt T t = some (e, z)) (hr : ∀ r, PTyN T N e r → ∃ a, r = f a ∧ p a) (h : PTyN T N t qs) :
    ∃ l : List α, qs = [.sl z (l.map f)] ∧ l.length ≤ N e ∧ ∀ a ∈ l, p a := by
  unfold elemAt at hk
  cases h with
  | int h => rw [h] at hk; cases hk
  | bool h => rw [h] at hk; cases hk
  | str h hs => rw [h] at hk; cases hk
  | slice h he2 hlen hx =>
    rw [h] at hk
    dsimp only at hk
    rw [he2] at hk
    injection hk with hk; injection hk with hk hz; subst hk; subst hz
    obtain ⟨l, rfl, hl⟩ := kd_rows (f := f) (p := p) fun r hr' => by obtain ⟨i, hi⟩ := List.getElem?_of_mem hr'; exact hr r (hx i r hi)
    exact ⟨l, rfl, by simpa using hlen, hl⟩
  | struct h => rw [h] at hk; cases hk
theorem kd_struct {ts : List TypeId} (hk : fieldsAt T t = some ts) (h : PTyN T N t qs) : PTyLN T N ts qs := by
  unfold fieldsAt at hk
  cases h with
  | int h => rw [h] at hk; cases hk
  | bool h => rw [h] at hk; cases hk
  | str h hs => rw [h] at hk; cases hk
  | slice h => rw [h] at hk; cases hk
  | struct h hr => rw [h] at hk; injection hk with hk; subst hk; exact hr
theorem kd_cons {ts : List TypeId} (h : PTyLN T N (t :: ts) qs) : ∃ q r, qs = q ++ r ∧ PTyN T N t q ∧ PTyLN T N ts r := by
  cases h with
  | cons h hd hq hr => exact ⟨_, _, rfl, h, hr⟩
theorem kd_nil (h : PTyLN T N [] qs) : qs = [] := by cases h; rfl
variable {ts : List TypeId} {al : List AV}
theorem args_agg (hk : aggAt T t = some true) (h : ArgsN T N (t :: ts) al) : ∃ qs al', al = .agg (pvs qs) :: al' ∧ PTyN T N t qs ∧ ArgsN T N ts al' := by
  cases h with
  | one h hl ha hr => unfold aggAt at hk; rw [hl] at hk; injection hk with hk; rw [ha] at hk; cases hk
  | agg h hl ha hr => exact ⟨_, _, rfl, h, hr⟩
theorem args_end (h : ArgsN T N [] al) : al = [] := by cases h; rfl
end
end Go.Cw
