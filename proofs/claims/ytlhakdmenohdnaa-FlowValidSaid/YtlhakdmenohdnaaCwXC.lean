/-
  Cw, part XC: one operation, put together; calls.
-/
import Derived.Test.YtlhakdmenohdnaaCwXB
namespace Go.Cw
set_option linter.unusedVariables false
set_option linter.unusedSimpArgs false
section
variable {T : Tab} {H : Heap}

abbrev Out := AV × Upd × List Nat

def just (v : Option AV) : Option Out :=
  match v with
  | some r => some (r, [], [])
  | none => none

theorem just_ok {v : Option AV} {r : AV} {u : Upd} {rd : List Nat} (h : just v = some (r, u, rd)) : v = some r ∧ u = [] ∧ rd = [] := by
  unfold just at h
  split at h
  · injection h with h; injection h with h1 h; injection h with h2 h3; subst h1; exact ⟨rfl, h2.symm, h3.symm⟩
  · cases h

def exOp (T : Tab) (site : Nat) (op : Op) (ρ : Operand → Option AV) (H : Heap) : Option Out :=
  match op with
  | .move x | .assign x => just (ρ x)
  | .pick c a b => match ρ c with
    | some vc => just (exPick vc (ρ a) (ρ b))
    | none => none
  | .alloc t => match look T t with
    | some ⟨size, bytes, agg, tk, zero⟩ => match allOne (pvs zero) with
      | true => some (.ptr site size 0 0, [(site, some ⟨t, size, false, .box (pvs zero)⟩)], [])
      | false => none
    | none => none
  | .box t x => match look T t, ρ x with
    | some ⟨size, bytes, agg, tk, zero⟩, some v => match Nat.beq (cellsOf v).length size && allOne (cellsOf v) with
      | true => some (.ptr site size 0 0, [(site, some ⟨t, size, false, .box (cellsOf v)⟩)], [])
      | false => none
    | _, _ => none
  | .build t parts => just (exBuild T t parts.toList ρ)
  | .buildSlice t len parts => match look T t with
    | some ⟨size, bytes, agg, tk, zero⟩ => match tk with
      | .slice e => match look T e with
        | some ⟨esize, ebytes, _, _, ezero⟩ => match rowsOf ρ esize 0 parts.toList with
          | some rs => match Nat.beq rs.length len && (Nat.ble (len * esize) 4096 && Nat.ble len 4096) with
            | true => some (.ms site esize 0 len, [(site, some ⟨e, esize, false, mkRows rs⟩)], [])
            | false => none
          | none => none
        | none => none
      | _ => none
    | none => none
  | .load t x => match ρ x with
    | some v => match exLoad T t v H with
      | some (r, f) => some (r, [], f)
      | none => none
    | none => none
  | .store t a x => match ρ a, ρ x with
    | some va, some vx => match exStore T t va vx H with
      | some (u, f) => some (.pv (.val undef), u, f)
      | none => none
    | _, _ => none
  | .nilCheck x => match ρ x with
    | some (.ptr id z row col) => some (.ptr id z row col, [], [])
    | some (.pv (.ia cs)) => some (.pv (.ia cs), [], [])
    | some (.pv (.fn f caps)) => some (.pv (.fn f caps), [], [])
    | some (.fn f caps) => some (.fn f caps, [], [])
    | _ => none
  | .binOp op t x y _ => match ρ x, ρ y with
    | some vx, some vy => just (exBin T op t vx vy)
    | _, _ => none
  | .unOp op _ x => match ρ x with
    | some v => just (exUn op v)
    | none => none
  | .makeFunc (.func f) first caps => match first.toList, caps.toList.mapM ρ with
    | [], some vs => some (.fn f vs, [], [])
    | _, _ => none
  | .makeSlice t l c => match ρ l, ρ c with
    | some vl, some vc => exMakeSlice T t site vl vc
    | _, _ => none
  | .slice t x lo hi none => match ρ x with
    | some v => match lo, hi with
      | none, none => just (exSlice T t v none none)
      | some l, none => match ρ l with
        | some vl => just (exSlice T t v (some vl) none)
        | none => none
      | none, some h => match ρ h with
        | some vh => just (exSlice T t v none (some vh))
        | none => none
      | some l, some h => match ρ l, ρ h with
        | some vl, some vh => just (exSlice T t v (some vl) (some vh))
        | _, _ => none
    | none => none
  | .fieldAddr s x f => match ρ x with
    | some v => just (exFieldAddr T s v f)
    | none => none
  | .field s x f => match ρ x with
    | some v => just (exField T s v f)
    | none => none
  | .indexAddr t x i => match ρ x, ρ i with
    | some vx, some vi => just (exIndexAddr T t vx vi)
    | _, _ => none
  | .extract x i => match ρ x with
    | some (.tup vs) => just vs[i]?
    | _ => none
  | .call { callee := .builtin b, args := args, argTypes := ats } => match b with
    | .len => match args.toList, ats.toList with
      | [x], [t] => match ρ x with
        | some v => just (exLen T t v)
        | none => none
      | _, _ => none
    | .append => match args.toList, ats.toList with
      | [s, x], [t, t2] => match Nat.beq t t2, ρ s, ρ x with
        | true, some vs, some vx => exAppend T t site vs vx H
        | _, _, _ => none
      | _, _ => none
    | .min => just (exMinMax false (args.toList.map ρ))
    | .max => just (exMinMax true (args.toList.map ρ))
    | _ => none
  | _ => none

theorem exOp_ok {site : Nat} {op : Op} {ρ : Operand → Option AV} {r : AV} {u : Upd} {rd : List Nat} {K : AV → Upd → List Nat → Prop} (h : exOp T site op ρ H = some (r, u, rd)) (hk : K r u rd) : vcOp T site op ρ H K := by
  have trip : ∀ {a a' : AV} {b b' : Upd} {c c' : List Nat}, some (a, b, c) = some (a', b', c') → a = a' ∧ b = b' ∧ c = c' := fun h => by
    injection h with h; injection h with h1 h; injection h with h2 h3; exact ⟨h1, h2, h3⟩
  unfold exOp at h
  split at h
  · obtain ⟨hj, rfl, rfl⟩ := just_ok h; simp only [vcOp, hj]; exact hk
  · obtain ⟨hj, rfl, rfl⟩ := just_ok h; simp only [vcOp, hj]; exact hk
  · split at h
    · rename_i h1; obtain ⟨hj, rfl, rfl⟩ := just_ok h; simp only [vcOp, h1]; exact exPick_ok hj hk
    · cases h
  · split at h
    · rename_i h1
      split at h
      · rename_i h2; obtain ⟨rfl, rfl, rfl⟩ := trip h; simp only [vcOp, h1]; exact ⟨h2, hk⟩
      · cases h
    · cases h
  · split at h
    · rename_i h1 h2
      split at h
      · rename_i h3; obtain ⟨rfl, rfl, rfl⟩ := trip h; simp only [vcOp, h1, h2, h3]; exact hk
      · cases h
    · cases h
  · obtain ⟨hj, rfl, rfl⟩ := just_ok h; simp only [vcOp]; exact exBuild_ok hj hk
  · split at h
    · rename_i h1
      split at h
      · split at h
        · rename_i h2
          split at h
          · rename_i h3
            split at h
            · rename_i h4; obtain ⟨rfl, rfl, rfl⟩ := trip h; simp only [vcOp, h1, h2, h3, h4]; exact hk
            · cases h
          · cases h
        · cases h
      · cases h
    · cases h
  · split at h
    · rename_i h1
      split at h
      · rename_i h2; obtain ⟨rfl, rfl, rfl⟩ := trip h; simp only [vcOp, h1]; exact exLoad_ok (K := fun r f => K r [] f) h2 hk
      · cases h
    · cases h
  · split at h
    · rename_i h1 h1'
      split at h
      · rename_i h2; obtain ⟨rfl, rfl, rfl⟩ := trip h; simp only [vcOp, h1, h1']; exact exStore_ok (K := fun u f => K _ u f) h2 hk
      · cases h
    · cases h
  · split at h <;> first
      | (rename_i h1; obtain ⟨rfl, rfl, rfl⟩ := trip h; simp only [vcOp, h1]; exact hk)
      | cases h
  · split at h
    · rename_i h1 h1'; obtain ⟨hj, rfl, rfl⟩ := just_ok h; simp only [vcOp, h1, h1']; exact exBin_ok (K := fun v => K v [] []) hj hk
    · cases h
  · split at h
    · rename_i h1; obtain ⟨hj, rfl, rfl⟩ := just_ok h; simp only [vcOp, h1]; exact exUn_ok (K := fun v => K v [] []) hj hk
    · cases h
  · split at h
    · rename_i h1 h1'; obtain ⟨rfl, rfl, rfl⟩ := trip h; simp only [vcOp, h1, h1']; exact hk
    · cases h
  · split at h
    · rename_i h1 h1'; simp only [vcOp, h1, h1']; exact exMakeSlice_ok h hk
    · cases h
  · split at h
    · rename_i h1
      split at h
      · obtain ⟨hj, rfl, rfl⟩ := just_ok h; simp only [vcOp, h1]; exact exSlice_ok (K := fun v => K v [] []) hj hk
      · split at h
        · rename_i h2; obtain ⟨hj, rfl, rfl⟩ := just_ok h; simp only [vcOp, h1, h2]; exact exSlice_ok (K := fun v => K v [] []) hj hk
        · cases h
      · split at h
        · rename_i h2; obtain ⟨hj, rfl, rfl⟩ := just_ok h; simp only [vcOp, h1, h2]; exact exSlice_ok (K := fun v => K v [] []) hj hk
        · cases h
      · split at h
        · rename_i h2 h3; obtain ⟨hj, rfl, rfl⟩ := just_ok h; simp only [vcOp, h1, h2, h3]; exact exSlice_ok (K := fun v => K v [] []) hj hk
        · cases h
    · cases h
  · split at h
    · rename_i h1; obtain ⟨hj, rfl, rfl⟩ := just_ok h; simp only [vcOp, h1]; exact exFieldAddr_ok (K := fun v => K v [] []) hj hk
    · cases h
  · split at h
    · rename_i h1; obtain ⟨hj, rfl, rfl⟩ := just_ok h; simp only [vcOp, h1]; exact exField_ok (K := fun v => K v [] []) hj hk
    · cases h
  · split at h
    · rename_i h1 h1'; obtain ⟨hj, rfl, rfl⟩ := just_ok h; simp only [vcOp, h1, h1']; exact exIndexAddr_ok (K := fun v => K v [] []) hj hk
    · cases h
  · split at h
    · rename_i h1; obtain ⟨hj, rfl, rfl⟩ := just_ok h; simp only [vcOp, h1, hj]; exact hk
    · cases h
  · split at h
    · split at h
      · rename_i h1 h2
        split at h
        · rename_i h3; obtain ⟨hj, rfl, rfl⟩ := just_ok h; simp only [vcOp, h1, h2, h3]; exact exLen_ok (K := fun v => K v [] []) hj hk
        · cases h
      · cases h
    · split at h
      · rename_i h1 h2
        split at h
        · rename_i h3 h4 h5; simp only [vcOp, h1, h2, h3, h4, h5]; exact exAppend_ok h hk
        · cases h
      · cases h
    · obtain ⟨hj, rfl, rfl⟩ := just_ok h; simp only [vcOp]; exact exMinMax_ok (K := fun v => K v [] []) hj hk
    · obtain ⟨hj, rfl, rfl⟩ := just_ok h; simp only [vcOp]; exact exMinMax_ok (K := fun v => K v [] []) hj hk
    · cases h
  · cases h

end
end Go.Cw
