/-
  Cw, part XB: one operation, continued.
-/
import Derived.Test.YtlhakdmenohdnaaCwXA
namespace Go.Cw
set_option linter.unusedVariables false
set_option linter.unusedSimpArgs false
section
variable {T : Tab} {H : Heap} {K : AV → Prop} {r : AV}

def exBuild (T : Tab) (t : TypeId) (parts : List (Nat × Operand)) (ρ : Operand → Option AV) : Option AV :=
  match look T t with
  | some ⟨size, bytes, agg, tk, zero⟩ => match tk with
    | .struct fs => match fs.all (fun f => (look T f.2).isSome), buildCells T fs ρ (pvs zero) parts with
      | true, some cs => some (.agg cs)
      | _, _ => none
    | _ => none
  | none => none

theorem exBuild_ok {t : TypeId} {parts : List (Nat × Operand)} {ρ : Operand → Option AV} (h : exBuild T t parts ρ = some r) (hk : K r) : vcBuild T t parts ρ K := by
  unfold exBuild at h
  split at h
  · rename_i h1
    split at h
    · split at h
      · rename_i h2 h3; injection h with h; subst h; simp only [vcBuild, h1, h2, h3]; exact hk
      · cases h
    · cases h
  · cases h

def natOf (n : Int) : Option Nat :=
  match n with
  | .ofNat k => some k
  | _ => none

theorem natOf_eq {n : Int} {k : Nat} (h : natOf n = some k) : n = ↑k := by
  cases n <;> simp [natOf] at h; subst h; rfl

def exIndexAddr (T : Tab) (t : TypeId) (x i : AV) : Option AV :=
  match look T t, i with
  | some ⟨size, bytes, agg, tk, zero⟩, .pv (.val (.int _ n)) => match tk, x with
    | .slice e, .pv (.sl z xs) => match look T e with
      | some ⟨esize, ebytes, _, _, ezero⟩ => match Nat.beq esize z, natOf n with
        | true, some k => match xs[k]? with
          | some r => some (.pv (.ia r))
          | none => none
        | _, _ => none
      | none => none
    | .slice e, .ms id z off len => match look T e with
      | some ⟨esize, ebytes, _, _, ezero⟩ => match Nat.beq esize z, natOf n with
        | true, some k => match Nat.blt k len with
          | true => some (.ptr id z (off + k) 0)
          | false => none
        | _, _ => none
      | none => none
    | _, _ => none
  | _, _ => none

theorem exIndexAddr_ok {t : TypeId} {x i : AV} (h : exIndexAddr T t x i = some r) (hk : K r) : vcIndexAddr T t x i K := by
  unfold exIndexAddr at h
  split at h
  · rename_i h1
    split at h
    · split at h
      · rename_i h2
        split at h
        · rename_i h3 h4
          split at h
          · rename_i h5; injection h with h; subst h
            simp only [vcIndexAddr, eqv_eq, h1, h2, h3]; exact ⟨_, _, natOf_eq h4, h5, hk⟩
          · cases h
        · cases h
      · cases h
    · split at h
      · rename_i h2
        split at h
        · rename_i h3 h4
          split at h
          · rename_i h5; injection h with h; subst h
            simp only [vcIndexAddr, eqv_eq, h1, h2, h3]; exact ⟨_, natOf_eq h4, by simpa [Nat.blt_eq] using h5, hk⟩
          · cases h
        · cases h
      · cases h
    · cases h
  · cases h

def exFieldAddr (T : Tab) (s : TypeId) (x : AV) (f : Nat) : Option AV :=
  match look T s with
  | some ⟨size, bytes, agg, tk, zero⟩ => match tk with
    | .struct fs => match fs[f]? with
      | some (off, ft) => match look T ft with
        | some ⟨fsize, _, _, _, _⟩ => match Nat.blt 0 fsize with
          | true => match x with
            | .pv (.ia cs) => match Nat.ble off cs.length with
              | true => some (.pv (.ia (cs.drop off)))
              | false => none
            | .ptr id z row col => some (.ptr id z row (col + off))
            | _ => none
          | false => none
        | none => none
      | none => none
    | _ => none
  | none => none

theorem exFieldAddr_ok {s : TypeId} {x : AV} {f : Nat} (h : exFieldAddr T s x f = some r) (hk : K r) : vcFieldAddr T s x f K := by
  unfold exFieldAddr at h
  split at h
  · rename_i h1
    split at h
    · split at h
      · rename_i h2
        split at h
        · rename_i h3
          split at h
          · rename_i h4
            split at h
            · split at h
              · rename_i h5; injection h with h; subst h
                simp only [vcFieldAddr, h1, h2, h3, h4, h5]; exact hk
              · cases h
            · injection h with h; subst h
              simp only [vcFieldAddr, h1, h2, h3, h4]; exact hk
            · cases h
          · cases h
        · cases h
      · cases h
    · cases h
  · cases h

def exField (T : Tab) (s : TypeId) (x : AV) (f : Nat) : Option AV :=
  match look T s, x with
  | some ⟨size, bytes, agg, tk, zero⟩, .agg cs => match tk with
    | .struct fs => match fs[f]? with
      | some (off, t) => match look T t with
        | some ⟨tsize, _, tagg, _, _⟩ => exTake tsize tagg (cs.drop off)
        | none => none
      | none => none
    | _ => none
  | _, _ => none

theorem exField_ok {s : TypeId} {x : AV} {f : Nat} (h : exField T s x f = some r) (hk : K r) : vcField T s x f K := by
  unfold exField at h
  split at h
  · rename_i h1
    split at h
    · split at h
      · rename_i h2
        split at h
        · rename_i h3
          simp only [vcField, h1, h2, h3]; exact exTake_ok h hk
        · cases h
      · cases h
    · cases h
  · cases h

def exLen (T : Tab) (t : TypeId) (x : AV) : Option AV :=
  match look T t with
  | some ⟨size, bytes, agg, tk, zero⟩ => match tk, x with
    | .slice _, .pv (.val (.slice _ n _)) => some (vint .i64 n)
    | .str, .pv (.val (.string s)) => some (vint .i64 s.size)
    | .slice _, .pv (.sl _ xs) => some (vint .i64 xs.length)
    | .slice _, .ms _ _ _ n => some (vint .i64 n)
    | _, _ => none
  | none => none

theorem exLen_ok {t : TypeId} {x : AV} (h : exLen T t x = some r) (hk : K r) : vcLen T t x K := by
  unfold exLen at h
  split at h
  · rename_i h1
    split at h <;> first
      | (injection h with h; subst h; simp only [vcLen, eqv_eq, h1]; exact hk)
      | cases h
  · cases h

def exLo (lo : Option AV) : Option Nat :=
  match lo with
  | none => some 0
  | some (.pv (.val (.int _ n))) => natOf n
  | _ => none

def exHi (hi : Option AV) (len : Nat) : Option Nat :=
  match hi with
  | none => some len
  | some (.pv (.val (.int _ n))) => natOf n
  | _ => none

theorem exLo_ok {lo : Option AV} {l : Nat} (h : exLo lo = some l) : loIs lo l := by
  unfold exLo at h
  split at h
  · injection h with h; exact h.symm
  · exact natOf_eq h
  · cases h
theorem exHi_ok {hi : Option AV} {len l : Nat} (h : exHi hi len = some l) : hiIs hi len l := by
  unfold exHi at h
  split at h
  · injection h with h; exact h.symm
  · exact natOf_eq h
  · cases h

def exSlice (T : Tab) (t : TypeId) (x : AV) (lo hi : Option AV) : Option AV :=
  match look T t with
  | some ⟨size, bytes, agg, tk, zero⟩ => match tk, x with
    | .slice e, .pv (.sl z xs) => match look T e with
      | some ⟨esize, ebytes, _, _, ezero⟩ => match Nat.beq esize z, exLo lo, exHi hi xs.length with
        | true, some l, some h => match Nat.ble l h && Nat.ble h xs.length with
          | true => some (.pv (.sl z ((xs.take h).drop l)))
          | false => none
        | _, _, _ => none
      | none => none
    | .slice e, .ms id z off len => match look T e with
      | some ⟨esize, ebytes, _, _, ezero⟩ => match Nat.beq esize z, exLo lo, exHi hi len with
        | true, some l, some h => match Nat.ble l h && Nat.ble h len with
          | true => some (.ms id z (off + l) (h - l))
          | false => none
        | _, _, _ => none
      | none => none
    | .str, .pv (.val (.string s)) => match exLo lo, exHi hi s.size with
      | some l, some h => match Nat.ble l h && Nat.ble h s.size with
        | true => some (.pv (.val (.string (s.extract l h))))
        | false => none
      | _, _ => none
    | _, _ => none
  | none => none

theorem exSlice_ok {t : TypeId} {x : AV} {lo hi : Option AV} (h : exSlice T t x lo hi = some r) (hk : K r) : vcSlice T t x lo hi K := by
  unfold exSlice at h
  split at h
  · rename_i h1
    split at h
    · split at h
      · rename_i h2
        split at h
        · rename_i h3 h4 h5
          split at h
          · rename_i h6; injection h with h; subst h
            simp only [Bool.and_eq_true, Nat.ble_eq] at h6
            simp only [vcSlice, eqv_eq, h1, h2, h3]; exact ⟨_, _, exLo_ok h4, exHi_ok h5, h6.1, h6.2, hk⟩
          · cases h
        · cases h
      · cases h
    · split at h
      · rename_i h2
        split at h
        · rename_i h3 h4 h5
          split at h
          · rename_i h6; injection h with h; subst h
            simp only [Bool.and_eq_true, Nat.ble_eq] at h6
            simp only [vcSlice, eqv_eq, h1, h2, h3]; exact ⟨_, _, exLo_ok h4, exHi_ok h5, h6.1, h6.2, hk⟩
          · cases h
        · cases h
      · cases h
    · split at h
      · rename_i h4 h5
        split at h
        · rename_i h6; injection h with h; subst h
          simp only [Bool.and_eq_true, Nat.ble_eq] at h6
          simp only [vcSlice, eqv_eq, h1]; exact ⟨_, _, exLo_ok h4, exHi_ok h5, h6.1, h6.2, hk⟩
        · cases h
      · cases h
    · cases h
  · cases h

def exPick (c : AV) (a b : Option AV) : Option AV :=
  match c with
  | .pv (.val (.bool true)) => a
  | .pv (.val (.bool false)) => b
  | _ => none

theorem exPick_ok {c : AV} {a b : Option AV} (h : exPick c a b = some r) (hk : K r) : vcPick c a b K := by
  unfold exPick at h
  split at h
  · subst h; exact ⟨fun _ => hk, fun e => nomatch e⟩
  · subst h; exact ⟨fun e => (nomatch e), fun _ => hk⟩
  · cases h

def exMinMax (isMax : Bool) (xs : List (Option AV)) : Option AV :=
  match xs with
  | [some (.pv (.val (.int k a))), some (.pv (.val (.int k' b)))] => match ixEq k k' with
    | true => some (vint k (bif isMax then (if b > a then b else a) else (if b < a then b else a)))
    | false => none
  | _ => none

theorem exMinMax_ok {m : Bool} {xs : List (Option AV)} (h : exMinMax m xs = some r) (hk : K r) : vcMinMax m xs K := by
  unfold exMinMax at h
  split at h
  · split at h
    · rename_i h1; injection h with h; subst h; simp only [vcMinMax, h1]; exact hk
    · cases h
  · cases h

def exAppend (T : Tab) (t : TypeId) (site : Nat) (s x : AV) (H : Heap) : Option (AV × Upd × List Nat) :=
  match look T t with
  | some ⟨size, bytes, agg, tk, zero⟩ => match tk with
    | .slice e => match look T e with
      | some ⟨esize, ebytes, _, _, ezero⟩ => match srcOk esize x && Nat.blt 0 esize, srcRows H x with
        | true, some (rx, rdx) => match s with
          | .pv (.val (.slice none 0 0)) => match Nat.beq (srcLen x) (rowsLen rx) && (Nat.ble (rowsLen rx * ebytes) 140737488355328 && Nat.ble (rowsLen rx) 9223372036854775807) with
            | true => match rowsLen rx with
              | 0 => some (.pv (.val (.slice none 0 0)), [], rdx)
              | m + 1 => some (.ms site esize 0 (m + 1), [(site, some ⟨e, esize, false, rx⟩)], rdx)
            | false => none
          | .ms id z off len => match Nat.beq z esize, H[id]? with
            | true, some (some o) => match !o.fz && (Nat.beq o.ty e && Nat.beq o.z esize), catRows (dropR off o.rows) rx with
              | true, some rr => match Nat.beq (off + len) (rowsLen o.rows) && Nat.beq (srcLen x) (rowsLen rx) && (Nat.ble (rowsLen rr * ebytes) 140737488355328 && Nat.ble (rowsLen rr) 9223372036854775807) with
                | true => some (.ms site esize 0 (rowsLen rr), [(id, none), (site, some ⟨e, esize, false, rr⟩)], id :: rdx)
                | false => none
              | _, _ => none
            | _, _ => none
          | _ => none
        | _, _ => none
      | none => none
    | _ => none
  | none => none

theorem exAppend_ok {t : TypeId} {site : Nat} {s x : AV} {u : Upd} {rd : List Nat} {K : AV → Upd → List Nat → Prop} (h : exAppend T t site s x H = some (r, u, rd)) (hk : K r u rd) : vcAppend T t site s x H K := by
  unfold exAppend at h
  split at h
  · rename_i h1
    split at h
    · split at h
      · rename_i h2
        split at h
        · rename_i rx rdx h3 h4
          split at h
          · split at h
            · rename_i h5
              simp only [Bool.and_eq_true, Nat.ble_eq, Nat.beq_eq] at h5
              split at h
              · rename_i h6; injection h with h; injection h with ha hb; injection hb with hb hc; subst ha; subst hb; subst hc
                simp only [vcAppend, eqv_eq, h1, h2, h3, h4]; exact ⟨h5.1, h5.2.1, h5.2.2, fun h => by omega, fun _ => hk⟩
              · rename_i m h6; injection h with h; injection h with ha hb; injection hb with hb hc; subst ha; subst hb; subst hc
                simp only [vcAppend, eqv_eq, h1, h2, h3, h4]; exact ⟨h5.1, h5.2.1, h5.2.2, fun _ => by rw [h6]; exact hk, fun h => by omega⟩
            · cases h
          · split at h
            · rename_i h5 h6
              split at h
              · rename_i h7 h8
                split at h
                · rename_i h9
                  simp only [Bool.and_eq_true, Nat.ble_eq, Nat.beq_eq] at h9
                  injection h with h; injection h with ha hb; injection hb with hb hc; subst ha; subst hb; subst hc
                  simp only [vcAppend, eqv_eq, h1, h2, h3, h4, h5, h6, h7, h8]; exact ⟨h9.1.1, h9.1.2, h9.2.1, h9.2.2, hk⟩
                · cases h
              · cases h
            · cases h
          · cases h
        · cases h
      · cases h
    · cases h
  · cases h

def exMakeSlice (T : Tab) (t : TypeId) (site : Nat) (l c : AV) : Option (AV × Upd × List Nat) :=
  match look T t, l, c with
  | some ⟨size, bytes, agg, tk, zero⟩, .pv (.val (.int .i64 n)), .pv (.val (.int .i64 m)) => match tk with
    | .slice e => match look T e with
      | some ⟨esize, ebytes, _, _, ezero⟩ => match allOne (pvs ezero), natOf n, natOf m with
        | true, some j, some k => match Nat.ble j k && (Nat.ble (k * ebytes) 140737488355328 && Nat.ble k 9223372036854775807) with
          | true => some (.ms site esize 0 j, [(site, some ⟨e, esize, false, .p (List.replicate j ezero)⟩)], [])
          | false => none
        | _, _, _ => none
      | none => none
    | _ => none
  | _, _, _ => none

theorem exMakeSlice_ok {t : TypeId} {site : Nat} {l c : AV} {u : Upd} {rd : List Nat} {K : AV → Upd → List Nat → Prop} (h : exMakeSlice T t site l c = some (r, u, rd)) (hk : K r u rd) : vcMakeSlice T t site l c K := by
  unfold exMakeSlice at h
  split at h
  · rename_i h1
    split at h
    · split at h
      · rename_i h2
        split at h
        · rename_i h3 h4 h5
          split at h
          · rename_i h6
            simp only [Bool.and_eq_true, Nat.ble_eq] at h6
            injection h with h; injection h with ha hb; injection hb with hb hc; subst ha; subst hb; subst hc
            simp only [vcMakeSlice, eqv_eq, h1, h2]; exact ⟨h3, _, _, natOf_eq h4, natOf_eq h5, h6.1, h6.2.1, h6.2.2, hk⟩
          · cases h
        · cases h
      · cases h
    · cases h
  · cases h

end
end Go.Cw
