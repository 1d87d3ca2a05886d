/-
  Cw, part XA: an abstract state without unknowns is run by computation: definitions, one operation.
-/
import Derived.Test.YtlhakdmenohdnaaCwK
namespace Go.Cw
set_option linter.unusedVariables false
set_option linter.unusedSimpArgs false

def exInt (op : BinOp) (k : IntKind) (x y : Int) : Option AV :=
  match op with
  | .add => some (vint k (k.wrap (x + y)))
  | .sub => some (vint k (k.wrap (x - y)))
  | .mul => some (vint k (k.wrap (x * y)))
  | .quo => if y = 0 then none else some (vint k (k.wrap (x.tdiv y)))
  | .rem => if y = 0 then none else some (vint k (x.tmod y))
  | .and => some (vint k (bits .and k x y))
  | .or => some (vint k (bits .or k x y))
  | .xor => some (vint k (bits .xor k x y))
  | .andNot => some (vint k (bits .andNot k x y))
  | .eql => some (vbool (x == y))
  | .neq => some (vbool (x != y))
  | .lss => some (vbool (decide (x < y)))
  | .leq => some (vbool (decide (x ≤ y)))
  | .gtr => some (vbool (decide (x > y)))
  | .geq => some (vbool (decide (x ≥ y)))
  | _ => none

theorem exInt_ok {op : BinOp} {k : IntKind} {x y : Int} {r : AV} {K : AV → Prop} (h : exInt op k x y = some r) (hk : K r) : intBin op k x y K := by
  cases op <;> simp only [exInt, intBin, eqv_eq] at h ⊢ <;> first
    | (injection h with h; subst h; exact hk)
    | (split at h
       · cases h
       · rename_i hy; injection h with h; subst h; exact ⟨hy, hk⟩)
    | cases h

def exStr (op : BinOp) (x y : ByteArray) : Option AV :=
  match op with
  | .eql => some (vbool (x.toList == y.toList))
  | .neq => some (vbool (!(x.toList == y.toList)))
  | .lss => some (vbool (Op.bytesLess x.toList y.toList))
  | .leq => some (vbool (Op.bytesLess x.toList y.toList || x.toList == y.toList))
  | .gtr => some (vbool (!(Op.bytesLess x.toList y.toList || x.toList == y.toList)))
  | .geq => some (vbool (!Op.bytesLess x.toList y.toList))
  | .add => if x.size + y.size ≤ 9223372036854775807 then some (.pv (.val (.string (x ++ y)))) else none
  | _ => none

theorem exStr_ok {op : BinOp} {x y : ByteArray} {r : AV} {K : AV → Prop} (h : exStr op x y = some r) (hk : K r) : strBin op x y K := by
  cases op <;> simp only [exStr, strBin] at h ⊢ <;> first
    | (injection h with h; subst h; exact hk)
    | (split at h
       · rename_i hy; injection h with h; subst h; exact ⟨hy, hk⟩
       · cases h)
    | cases h

def exEq (op : BinOp) (tk : TK) (x y : AV) : Option AV :=
  match op, tk, x, y with
  | .eql, .bool, .pv (.val (.bool a)), .pv (.val (.bool b)) => some (vbool (a == b))
  | .neq, .bool, .pv (.val (.bool a)), .pv (.val (.bool b)) => some (vbool (!(a == b)))
  | .eql, .slice _, .pv (.val (.slice none 0 0)), .pv (.val (.slice none 0 0)) => some (vbool true)
  | .neq, .slice _, .pv (.val (.slice none 0 0)), .pv (.val (.slice none 0 0)) => some (vbool false)
  | .eql, .slice _, .pv (.sl _ (_ :: _)), .pv (.val (.slice none 0 0)) => some (vbool false)
  | .neq, .slice _, .pv (.sl _ (_ :: _)), .pv (.val (.slice none 0 0)) => some (vbool true)
  | .eql, .slice _, .ms .., .pv (.val (.slice none 0 0)) => some (vbool false)
  | .neq, .slice _, .ms .., .pv (.val (.slice none 0 0)) => some (vbool true)
  | _, _, _, _ => none

theorem exEq_ok {op : BinOp} {tk : TK} {x y : AV} {r : AV} {K : AV → Prop} (h : exEq op tk x y = some r) (hk : K r) : eqBin op tk x y K := by
  unfold exEq at h
  split at h <;> first
    | (injection h with h; subst h; simp only [eqBin]; exact hk)
    | (injection h with h; subst h; simp only [eqBin]; exact ⟨by simp, hk⟩)
    | cases h

def exBin (T : Tab) (op : BinOp) (t : TypeId) (x y : AV) : Option AV :=
  match x, y with
  | .pv (.val (.int k a)), .pv (.val (.int k' b)) => match op with
    | .shl => if 0 ≤ b then some (vint k (k.wrap (a * 2 ^ (min b.toNat k.bits)))) else none
    | .shr => if 0 ≤ b then some (vint k (a.fdiv (2 ^ (min b.toNat k.bits)))) else none
    | _ => match ixEq k k' with
      | true => exInt op k a b
      | false => none
  | .pv (.val (.string a)), .pv (.val (.string b)) => exStr op a b
  | x, y => match look T t with
    | some ⟨size, bytes, agg, tk, zero⟩ => exEq op tk x y
    | none => none

theorem exBin_ok {T : Tab} {op : BinOp} {t : TypeId} {x y : AV} {r : AV} {K : AV → Prop} (h : exBin T op t x y = some r) (hk : K r) : vcBin T op t x y K := by
  unfold exBin at h
  unfold vcBin
  split at h
  · split at h
    · split at h
      · rename_i h0; injection h with h; subst h; exact ⟨h0, hk⟩
      · cases h
    · split at h
      · rename_i h0; injection h with h; subst h; exact ⟨h0, hk⟩
      · cases h
    · split at h
      · rename_i h0; simp only [h0]; exact exInt_ok h hk
      · cases h
  · exact exStr_ok h hk
  · split at h
    · rename_i h0; simp only [h0]; exact exEq_ok h hk
    · cases h

def exUn (op : UnOp) (x : AV) : Option AV :=
  match op, x with
  | .neg, .pv (.val (.int k n)) => some (vint k (k.wrap (0 - n)))
  | .not, .pv (.val (.bool b)) => some (vbool (!b))
  | _, _ => none

theorem exUn_ok {op : UnOp} {x r : AV} {K : AV → Prop} (h : exUn op x = some r) (hk : K r) : vcUn op x K := by
  unfold exUn at h
  split at h <;> first
    | (injection h with h; subst h; simp only [vcUn, eqv_eq]; exact hk)
    | (injection h with h; subst h; exact hk)
    | cases h

def exTake (size : Nat) (agg : Bool) (cs : List AV) : Option AV :=
  match agg with
  | true => match Nat.ble size cs.length with
    | true => some (.agg (cs.take size))
    | false => none
  | false => match cs with
    | c :: _ => some c
    | [] => none

theorem exTake_ok {size : Nat} {agg : Bool} {cs : List AV} {r : AV} {K : AV → Prop} (h : exTake size agg cs = some r) (hk : K r) : vcTake size agg cs K := by
  unfold exTake at h
  split at h
  · split at h
    · rename_i h0; injection h with h; subst h; simp only [vcTake, h0]; exact hk
    · cases h
  · split at h
    · injection h with h; subst h; exact hk
    · cases h

def exLoad (T : Tab) (t : TypeId) (x : AV) (H : Heap) : Option (AV × List Nat) :=
  match look T t with
  | none => none
  | some ⟨size, bytes, agg, tk, zero⟩ => match x with
    | .pv (.ia cs) => (exTake size agg (pvs cs)).map fun v => (v, [])
    | .ptr id z row col => match H[id]? with
      | some (some o) => match Nat.beq z o.z, o.rows with
        | true, .box cs => match row with
          | 0 => (exTake size agg (cs.drop col)).map fun v => (v, [id])
          | _ => none
        | true, .p xs => match xs[row]? with
          | some r => (exTake size agg (pvs (r.drop col))).map fun v => (v, [id])
          | none => none
        | true, .m xs => match xs[row]? with
          | some r => (exTake size agg (r.drop col)).map fun v => (v, [id])
          | none => none
        | _, _ => none
      | _ => none
    | _ => none

theorem exLoad_ok {T : Tab} {t : TypeId} {x : AV} {H : Heap} {r : AV} {rd : List Nat} {K : AV → List Nat → Prop} (h : exLoad T t x H = some (r, rd)) (hk : K r rd) : vcLoad T t x H K := by
  have fin : ∀ {size : Nat} {agg : Bool} {cs : List AV} {l : List Nat}, (exTake size agg cs).map (fun v => (v, l)) = some (r, rd) → vcTake size agg cs fun v => K v l := fun h => by
    obtain ⟨v, h1, h2⟩ := Option.map_eq_some_iff.1 h
    injection h2 with h2 h3; subst h2; subst h3
    exact exTake_ok h1 hk
  unfold exLoad at h
  split at h
  · cases h
  · rename_i h1
    split at h
    · simp only [vcLoad, h1]; exact fin h
    · split at h
      · rename_i h2
        split at h
        · rename_i h3 h4
          split at h
          · simp only [vcLoad, h1, h2, h3, h4]; exact fin h
          · cases h
        · rename_i h3 h4
          split at h
          · rename_i h5; simp only [vcLoad, h1, h2, h3, h4]; exact ⟨_, h5, fin h⟩
          · cases h
        · rename_i h3 h4
          split at h
          · rename_i h5; simp only [vcLoad, h1, h2, h3, h4]; exact ⟨_, h5, fin h⟩
          · cases h
        · cases h
      · cases h
    · cases h

def exStore (T : Tab) (t : TypeId) (x v : AV) (H : Heap) : Option (Upd × List Nat) :=
  match look T t with
  | none => none
  | some ⟨size, bytes, agg, tk, zero⟩ => match (Nat.beq (cellsOf v).length size && allOne (cellsOf v)) && Nat.blt 0 size with
    | false => none
    | true => match x with
      | .ptr id z row col => match H[id]? with
        | some (some o) => match !o.fz && Nat.beq z o.z with
          | false => none
          | true => match o.rows with
            | .box cs => match row with
              | 0 => match Nat.ble (col + size) cs.length with
                | true => some ([(id, some { o with rows := .box (splice col (cellsOf v) cs) })], [id])
                | false => none
              | _ => none
            | .p xs => match purify (cellsOf v) with
              | some ps => match xs[row]? with
                | some r => match Nat.ble (col + size) r.length with
                  | true => some ([(id, some { o with rows := .p (xs.set row (splice col ps r)) })], [id])
                  | false => none
                | none => none
              | none => match xs[row]? with
                | some r => match Nat.ble (col + size) r.length with
                  | true => some ([(id, some { o with rows := .m ((xs.map pvs).set row (splice col (cellsOf v) (pvs r))) })], [id])
                  | false => none
                | none => none
            | .m xs => match xs[row]? with
              | some r => match Nat.ble (col + size) r.length with
                | true => some ([(id, some { o with rows := .m (xs.set row (splice col (cellsOf v) r)) })], [id])
                | false => none
              | none => none
        | _ => none
      | _ => none

theorem exStore_ok {T : Tab} {t : TypeId} {x v : AV} {H : Heap} {u : Upd} {rd : List Nat} {K : Upd → List Nat → Prop} (h : exStore T t x v H = some (u, rd)) (hk : K u rd) : vcStore T t x v H K := by
  unfold exStore at h
  split at h
  · cases h
  · rename_i h1
    split at h
    · cases h
    · rename_i h2
      split at h
      · split at h
        · rename_i h3
          split at h
          · cases h
          · rename_i h4
            split at h
            · rename_i h5
              split at h
              · split at h
                · rename_i h6; injection h with h; injection h with ha hb; subst ha; subst hb
                  simp only [vcStore, eqv_eq, h1, h2, h3, h4, h5, h6]; exact hk
                · cases h
              · cases h
            · rename_i h5
              split at h
              · rename_i h6
                split at h
                · rename_i h7
                  split at h
                  · rename_i h8; injection h with h; injection h with ha hb; subst ha; subst hb
                    simp only [vcStore, eqv_eq, h1, h2, h3, h4, h5, h6]; exact ⟨_, h7, Nat.le_of_ble_eq_true h8, hk⟩
                  · cases h
                · cases h
              · rename_i h6
                split at h
                · rename_i h7
                  split at h
                  · rename_i h8; injection h with h; injection h with ha hb; subst ha; subst hb
                    simp only [vcStore, eqv_eq, h1, h2, h3, h4, h5, h6]; exact ⟨_, h7, Nat.le_of_ble_eq_true h8, hk⟩
                  · cases h
                · cases h
            · rename_i h5
              split at h
              · rename_i h7
                split at h
                · rename_i h8; injection h with h; injection h with ha hb; subst ha; subst hb
                  simp only [vcStore, eqv_eq, h1, h2, h3, h4, h5]; exact ⟨_, h7, Nat.le_of_ble_eq_true h8, hk⟩
                · cases h
              · cases h
        · cases h
      · cases h

end Go.Cw
