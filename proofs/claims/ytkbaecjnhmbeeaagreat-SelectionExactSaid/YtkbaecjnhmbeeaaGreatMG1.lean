/-
  Part 1 of the proof (CwA, CwB, CwD, CwE, CwF, CwG, CwM, CwN, CwO): what later parts use. No conditions.
-/
import Derived.Orders
import Derived.Below
import Derived.Laws.Sem
import Derived.WalkKit
import Derived.Laws.CopyRow
import Derived.Maps.AppendAt
import Derived.Lib.SliceRun
import Derived.WalkSpells
import Derived.Laws.Cells
import Derived.ChangeKeysEq
import Derived.Laws.StructEq
import Derived.Laws.Tables
import Derived.Laws.MakeOwn
import Derived.Laws.AppendOwn
/-
  Cw, part A: abstract values, abstract states and the function 'vcCode', which runs code over them and says what is left to prove. Definitions alone; no conditions.
-/
namespace Go.Cw
set_option linter.unusedVariables false
inductive PV where
  | val (v : Value)
  | sl (z : Nat) (xs : List (List PV))
  | ia (cs : List PV)
  | fn (f : FuncId) (caps : List PV)
instance : Inhabited PV := ⟨.val undef⟩
inductive AV where
  | pv (p : PV)
  | agg (cs : List AV)
  | ms (id z off len : Nat)
  | ptr (id z row col : Nat)
  | mp (id : Nat)
  | fn (f : FuncId) (caps : List AV)
  | tup (vs : List AV)
  | clip (z : Nat) (xs : List (List PV))
  | dead
inductive KS where
  | num
  | str
  | arr (n : Nat)
inductive Rows where
  | box (cs : List AV)
  | p (xs : List (List PV))
  | m (xs : List (List AV))
  | mp (kst : KS) (k : IntKind) (es : List (Value × Nat × AV)) (ck : Nat)
structure AObj where
  ty : TypeId
  z : Nat
  fz : Bool
  rows : Rows
abbrev Heap := List (Option AObj)
inductive TK where
  | int (k : IntKind) | bool | str | slice (e : TypeId) | ptr (e : TypeId) | struct (fs : List (Nat × TypeId))
  | array (n : Nat) (e : TypeId) | func | map (k e : TypeId) | other
structure TyD where
  size : Nat
  bytes : Nat
  agg : Bool
  tk : TK
  zero : List PV
inductive TT where
  | nil
  | node (k : TypeId) (d : TyD) (l r : TT)
structure Tab where
  ty : TT
  eq : List TypeId
def tkOf : TypeDesc → TK
  | .int k => .int k
  | .bool => .bool
  | .string => .str
  | .slice e => .slice e
  | .pointer e => .ptr e
  | .struct fs => .struct (fs.toList.map fun f => (f.offset, f.type))
  | .array n e => .array n e
  | .func .. => .func
  | .map k e => .map k e
  | _ => .other
def isAggD : TypeDesc → Bool
  | .struct _ | .array _ _ => true
  | _ => false
def isAggV : Value → Bool
  | .agg _ => true
  | _ => false
def tyOf (P : Program) (t : TypeId) : Option TyD :=
  match P.info? t, P.underlying t with
  | some i, some u =>
    match i.zero with
    | some z => if z.cells.size = i.size ∧ isAggV z = isAggD u then some { size := i.size, bytes := i.bytes, agg := isAggD u, tk := tkOf u, zero := z.cells.toList.map .val } else none
    | none => none
  | _, _ => none
def lookL : TT → TypeId → Option TyD
  | .nil, _ => none
  | .node k d l r, t => bif Nat.beq k t then some d else bif Nat.blt t k then lookL l t else lookL r t
def TT.all (p : TypeId → TyD → Prop) : TT → Prop
  | .nil => True
  | .node k d l r => p k d ∧ l.all p ∧ r.all p
def TT.list : TT → List (TypeId × TyD)
  | .nil => []
  | .node k d l r => (k, d) :: (l.list ++ r.list)
def look (T : Tab) (t : TypeId) : Option TyD := lookL T.ty t
def memT : List TypeId → TypeId → Bool
  | [], _ => false
  | k :: l, t => bif Nat.beq k t then true else memT l t
def eqOk (P : Program) (t : TypeId) : Bool := match P.underlying t with
  | some (.struct fs) => !P.stoodInHeld t && (!P.eqGuardType P.depth t && fs.toList.all fun f => f.name != "_")
  | _ => false
def TabOk (P : Program) (T : Tab) : Prop := (∀ t d, look T t = some d → tyOf P t = some d) ∧ ∀ t, memT T.eq t = true → eqOk P t = true
theorem lookL_mem : ∀ {tt : TT} {t : TypeId} {d : TyD}, lookL tt t = some d → (t, d) ∈ tt.list
  | .nil, _, _, h => by simp [lookL] at h
  | .node k d0 l r, t, d, h => by
    simp only [lookL] at h
    simp only [TT.list, List.mem_cons, List.mem_append]
    cases hk : Nat.beq k t
    · rw [hk] at h
      cases hb : Nat.blt t k
      · rw [hb] at h; exact .inr (.inr (lookL_mem h))
      · rw [hb] at h; exact .inr (.inl (lookL_mem h))
    · rw [hk] at h
      have : k = t := Nat.eq_of_beq_eq_true hk
      subst this
      simp only [cond_true, Option.some.injEq] at h
      rw [← h]; exact .inl rfl
theorem map_eq_mem {α β : Type} {f g : α → β} : ∀ {l : List α}, l.map f = l.map g → ∀ x ∈ l, f x = g x
  | [], _, x, h => by simp at h
  | y :: l, he, x, h => by
    simp only [List.map_cons, List.cons.injEq] at he
    rcases List.mem_cons.1 h with rfl | h
    · exact he.1
    · exact map_eq_mem he.2 x h
theorem TabOk.ty {P : Program} {tt : TT} (h : tt.list.map (fun x => tyOf P x.1) = tt.list.map (fun x => some x.2)) : ∀ t d, lookL tt t = some d → tyOf P t = some d :=
  fun t d hl => map_eq_mem h _ (lookL_mem hl)
theorem memT_all {p : TypeId → Bool} : ∀ {l : List TypeId}, l.all p = true → ∀ t, memT l t = true → p t = true
  | [], _, t, h => by simp [memT] at h
  | k :: l, he, t, h => by
    simp only [List.all_cons, Bool.and_eq_true] at he
    simp only [memT] at h
    cases hk : Nat.beq k t
    · rw [hk] at h; exact memT_all he.2 t h
    · have : k = t := Nat.eq_of_beq_eq_true hk
      subst this; exact he.1
theorem TabOk.of_eq {P : Program} {T : Tab} (h : T.ty.list.map (fun x => tyOf P x.1) = T.ty.list.map (fun x => some x.2)) (he : T.eq.all (eqOk P) = true) : TabOk P T := ⟨TabOk.ty h, memT_all he⟩
abbrev Slots := List (Nat × AV)
def get : Slots → Nat → Option AV
  | [], _ => none
  | (k, v) :: l, s => bif Nat.beq k s then some v else get l s
structure ASt where
  sl : Slots
  hp : Heap
def evc : Value → AV
  | .agg cs => .agg (cs.toList.map fun c => .pv (.val c))
  | .func (.func f) first caps => match first.toList, caps.toList with
    | [], [] => .pv (.fn f [])
    | _, _ => .dead
  | v => .pv (.val v)
def VT : List (Nat × List PV) := []
def lookV : List (Nat × List PV) → Nat → Option AV
  | [], _ => none
  | (k, cs) :: l, g => bif Nat.beq k g then some (.pv (.ia cs)) else lookV l g
def ev (Γ : Slots) : Operand → Option AV
  | .tmp t => get Γ t
  | .const v => some (evc v)
  | .func f => some (.pv (.fn f []))
  | .global g => lookV VT g
def put (Γ : Slots) (d : Option Tmp) (v : AV) : Slots :=
  match d with
  | some t => (t, v) :: Γ
  | none => Γ
def oneV : Value → Bool
  | .agg _ | .tuple _ => false
  | _ => true
def oneCell : AV → Bool
  | .pv (.val v) => oneV v
  | .pv (.sl ..) | .pv (.ia _) | .pv (.fn ..) | .ms .. | .ptr .. | .mp _ | .fn .. | .clip .. => true
  | _ => false
def allOne : List AV → Bool
  | [] => true
  | x :: l => oneCell x && allOne l
def cellsOf : AV → List AV
  | .agg cs => cs
  | x => [x]
def pvs : List PV → List AV
  | [] => []
  | p :: l => .pv p :: pvs l
def purify : List AV → Option (List PV)
  | [] => some []
  | .pv p :: l => match purify l with
    | some ps => some (p :: ps)
    | none => none
  | _ :: _ => none
def splice {α : Type} : Nat → List α → List α → List α
  | 0, [], cs => cs
  | 0, x :: xs, _ :: cs => x :: splice 0 xs cs
  | 0, _ :: _, [] => []
  | n + 1, xs, c :: cs => c :: splice n xs cs
  | _ + 1, _, [] => []
def ixEq : IntKind → IntKind → Bool
  | .i8, .i8 | .i16, .i16 | .i32, .i32 | .i64, .i64 | .u8, .u8 | .u16, .u16 | .u32, .u32 | .u64, .u64 => true
  | _, _ => false
abbrev Upd := List (Nat × Option AObj)
def app : Heap → Upd → Heap
  | H, [] => H
  | H, (i, o) :: u => app (H.set i o) u
def vint (k : IntKind) (n : Int) : AV := .pv (.val (.int k n))
def vbool (b : Bool) : AV := .pv (.val (.bool b))
def eqv {α : Type} (a : α) (K : α → Prop) : Prop := ∃ b, a = b ∧ K b
theorem eqv_eq {α : Type} (a : α) (K : α → Prop) : eqv a K = K a := propext ⟨fun ⟨_, e, h⟩ => e ▸ h, fun h => ⟨a, rfl, h⟩⟩
def intBin (op : BinOp) (k : IntKind) (x y : Int) (K : AV → Prop) : Prop :=
  match op with
  | .add => eqv (k.wrap (x + y)) fun z => K (vint k z)
  | .sub => eqv (k.wrap (x - y)) fun z => K (vint k z)
  | .mul => eqv (k.wrap (x * y)) fun z => K (vint k z)
  | .quo => y ≠ 0 ∧ eqv (k.wrap (x.tdiv y)) fun z => K (vint k z)
  | .rem => y ≠ 0 ∧ eqv (x.tmod y) fun z => K (vint k z)
  | .and => eqv (bits .and k x y) fun z => K (vint k z)
  | .or => eqv (bits .or k x y) fun z => K (vint k z)
  | .xor => eqv (bits .xor k x y) fun z => K (vint k z)
  | .andNot => eqv (bits .andNot k x y) fun z => K (vint k z)
  | .eql => K (vbool (x == y))
  | .neq => K (vbool (x != y))
  | .lss => K (vbool (decide (x < y)))
  | .leq => K (vbool (decide (x ≤ y)))
  | .gtr => K (vbool (decide (x > y)))
  | .geq => K (vbool (decide (x ≥ y)))
  | _ => False
abbrev bts (s : ByteArray) : List UInt8 := s.data.toList
def sEq (x y : ByteArray) : Bool := bts x == bts y
def sLt (x y : ByteArray) : Bool := Op.bytesLess (bts x) (bts y)
def sLe (x y : ByteArray) : Bool := sLt x y || sEq x y
def strBin (op : BinOp) (x y : ByteArray) (K : AV → Prop) : Prop :=
  match op with
  | .eql => K (vbool (sEq x y))
  | .neq => K (vbool (!sEq x y))
  | .lss => K (vbool (sLt x y))
  | .leq => K (vbool (sLe x y))
  | .gtr => K (vbool (!sLe x y))
  | .geq => K (vbool (!sLt x y))
  | .add => x.size + y.size ≤ 9223372036854775807 ∧ K (.pv (.val (.string (x ++ y))))
  | _ => False
def eqBin (op : BinOp) (tk : TK) (x y : AV) (K : AV → Prop) : Prop :=
  match op, tk, x, y with
  | .eql, .bool, .pv (.val (.bool a)), .pv (.val (.bool b)) => K (vbool (a == b))
  | .neq, .bool, .pv (.val (.bool a)), .pv (.val (.bool b)) => K (vbool (!(a == b)))
  | .eql, .slice _, .pv (.val (.slice none 0 0)), .pv (.val (.slice none 0 0)) => K (vbool true)
  | .neq, .slice _, .pv (.val (.slice none 0 0)), .pv (.val (.slice none 0 0)) => K (vbool false)
  | .eql, .slice _, .pv (.sl _ xs), .pv (.val (.slice none 0 0)) => xs ≠ [] ∧ K (vbool false)
  | .neq, .slice _, .pv (.sl _ xs), .pv (.val (.slice none 0 0)) => xs ≠ [] ∧ K (vbool true)
  | .eql, .slice _, .ms .., .pv (.val (.slice none 0 0)) => K (vbool false)
  | .neq, .slice _, .ms .., .pv (.val (.slice none 0 0)) => K (vbool true)
  | _, _, _, _ => False
def eqFs (F : TypeId → List AV → List AV → (Bool → Prop) → Prop) : List (Nat × TypeId) → List AV → List AV → (Bool → Prop) → Prop
  | [], _, _, K => K true
  | (off, t) :: fs, xs, ys, K => F t (xs.drop off) (ys.drop off) fun b => eqFs F fs xs ys fun c => K (b && c)
def eqCells (T : Tab) : Nat → TypeId → List AV → List AV → (Bool → Prop) → Prop
  | 0, _, _, _, _ => False
  | d + 1, t, xs, ys, K => match look T t with
    | some ⟨size, bytes, agg, tk, zero⟩ => match Nat.blt 0 size && (Nat.ble size xs.length && Nat.ble size ys.length), tk with
      | true, .int _ => match xs, ys with
        | .pv (.val (.int k1 a)) :: _, .pv (.val (.int k2 b)) :: _ => match ixEq k1 k2 with
          | true => K (a == b)
          | false => False
        | _, _ => False
      | true, .bool => match xs, ys with
        | .pv (.val (.bool a)) :: _, .pv (.val (.bool b)) :: _ => K (a == b)
        | _, _ => False
      | true, .str => match xs, ys with
        | .pv (.val (.string a)) :: _, .pv (.val (.string b)) :: _ => K (sEq a b)
        | _, _ => False
      | true, .struct fs => match memT T.eq t with
        | true => eqFs (eqCells T d) fs (xs.take size) (ys.take size) K
        | false => False
      | _, _ => False
    | none => False
def vcBin (T : Tab) (op : BinOp) (t : TypeId) (x y : AV) (K : AV → Prop) : Prop :=
  match x, y with
  | .pv (.val (.int k a)), .pv (.val (.int k' b)) => match op with
    | .shl => 0 ≤ b ∧ eqv (k.wrap (a * 2 ^ (min b.toNat k.bits))) fun z => K (vint k z)
    | .shr => 0 ≤ b ∧ eqv (a.fdiv (2 ^ (min b.toNat k.bits))) fun z => K (vint k z)
    | _ => match ixEq k k' with
      | true => intBin op k a b K
      | false => False
  | .pv (.val (.string a)), .pv (.val (.string b)) => strBin op a b K
  | .agg xs, .agg ys => match memT T.eq t, op with
    | true, .eql => eqCells T 6 t xs ys fun b => K (vbool b)
    | true, .neq => eqCells T 6 t xs ys fun b => K (vbool (!b))
    | _, _ => False
  | x, y => match look T t with
    | some ⟨size, bytes, agg, tk, zero⟩ => eqBin op tk x y K
    | none => False
def vcUn (op : UnOp) (x : AV) (K : AV → Prop) : Prop :=
  match op, x with
  | .neg, .pv (.val (.int k n)) => eqv (k.wrap (0 - n)) fun z => K (vint k z)
  | .xor, .pv (.val (.int k n)) => eqv (bits .xor k (if k.signed then -1 else k.max) n) fun z => K (vint k z)
  | .not, .pv (.val (.bool b)) => K (vbool (!b))
  | _, _ => False
def vcTake (size : Nat) (agg : Bool) (cs : List AV) (K : AV → Prop) : Prop :=
  match agg with
  | true => match Nat.ble size cs.length with
    | true => K (.agg (cs.take size))
    | false => False
  | false => match cs with
    | c :: _ => K c
    | [] => False
def vcLoad (T : Tab) (t : TypeId) (x : AV) (H : Heap) (K : AV → List Nat → Prop) : Prop :=
  match look T t with
  | none => False
  | some ⟨size, bytes, agg, tk, zero⟩ => match x with
    | .pv (.ia cs) => vcTake size agg (pvs cs) fun v => K v []
    | .ptr id z row col => match H[id]? with
      | some (some o) => match Nat.beq z o.z, o.rows with
        | true, .box cs => match row with
          | 0 => vcTake size agg (cs.drop col) fun v => K v [id]
          | _ => False
        | true, .p xs => ∃ r, xs[row]? = some r ∧ vcTake size agg (pvs (r.drop col)) fun v => K v [id]
        | true, .m xs => ∃ r, xs[row]? = some r ∧ vcTake size agg (r.drop col) fun v => K v [id]
        | _, _ => False
      | _ => False
    | _ => False
def vcStore (T : Tab) (t : TypeId) (x v : AV) (H : Heap) (K : Upd → List Nat → Prop) : Prop :=
  match look T t with
  | none => False
  | some ⟨size, bytes, agg, tk, zero⟩ => match (Nat.beq (cellsOf v).length size && allOne (cellsOf v)) && Nat.blt 0 size with
    | false => False
    | true => match x with
      | .ptr id z row col => match H[id]? with
        | some (some o) => match !o.fz && Nat.beq z o.z with
          | false => False
          | true => match o.rows with
            | .box cs => match row with
              | 0 => match Nat.ble (col + size) cs.length with
                | true => K [(id, some { o with rows := .box (splice col (cellsOf v) cs) })] [id]
                | false => False
              | _ => False
            | .p xs => match purify (cellsOf v) with
              | some ps => ∃ r, xs[row]? = some r ∧ col + size ≤ r.length ∧ eqv (xs.set row (splice col ps r)) fun ys => K [(id, some { o with rows := .p ys })] [id]
              | none => ∃ r, xs[row]? = some r ∧ col + size ≤ r.length ∧ eqv ((xs.map pvs).set row (splice col (cellsOf v) (pvs r))) fun ys => K [(id, some { o with rows := .m ys })] [id]
            | .m xs => ∃ r, xs[row]? = some r ∧ col + size ≤ r.length ∧ eqv (xs.set row (splice col (cellsOf v) r)) fun ys => K [(id, some { o with rows := .m ys })] [id]
            | .mp .. => False
        | _ => False
      | _ => False
def mkRows (xs : List (List AV)) : Rows :=
  match go xs with
  | some ps => .p ps
  | none => .m xs
where
  go : List (List AV) → Option (List (List PV))
    | [] => some []
    | r :: l => match purify r, go l with
      | some p, some ps => some (p :: ps)
      | _, _ => none
def rowsOf (ρ : Operand → Option AV) (z : Nat) : Nat → List (Nat × Operand) → Option (List (List AV))
  | _, [] => some []
  | i, (k, x) :: l => match Nat.beq k i, ρ x with
    | true, some v => match Nat.beq (cellsOf v).length z && allOne (cellsOf v), rowsOf ρ z (i + 1) l with
      | true, some rs => some (cellsOf v :: rs)
      | _, _ => none
    | _, _ => none
def buildCells (T : Tab) (fs : List (Nat × TypeId)) (ρ : Operand → Option AV) : List AV → List (Nat × Operand) → Option (List AV)
  | cs, [] => some cs
  | cs, (i, x) :: l => match fs[i]?, ρ x with
    | some (off, t), some v => match look T t with
      | some ⟨size, bytes, agg, tk, zero⟩ => match Nat.beq (cellsOf v).length size && (Nat.ble (off + size) cs.length && allOne (cellsOf v)) with
        | true => buildCells T fs ρ (splice off (cellsOf v) cs) l
        | false => none
      | none => none
    | _, _ => none
def arrFs (e : TypeId) (z : Nat) : Nat → Nat → List (Nat × TypeId)
  | 0, _ => []
  | n + 1, off => (off, e) :: arrFs e z n (off + z)
def vcBuild (T : Tab) (t : TypeId) (parts : List (Nat × Operand)) (ρ : Operand → Option AV) (K : AV → Prop) : Prop :=
  match look T t with
  | some ⟨size, bytes, agg, tk, zero⟩ => match tk with
    | .struct fs => match fs.all (fun f => (look T f.2).isSome), buildCells T fs ρ (pvs zero) parts with
      | true, some cs => K (.agg cs)
      | _, _ => False
    | .array n e => match look T e with
      | some ⟨esize, _, _, _, _⟩ => match buildCells T (arrFs e esize n 0) ρ (pvs zero) parts with
        | some cs => K (.agg cs)
        | none => False
      | none => False
    | _ => False
  | none => False
def vcIndexAddr (T : Tab) (t : TypeId) (x i : AV) (K : AV → Prop) : Prop :=
  match look T t, i with
  | some ⟨size, bytes, agg, tk, zero⟩, .pv (.val (.int _ n)) => match tk, x with
    | .slice e, .pv (.sl z xs) => match look T e with
      | some ⟨esize, ebytes, _, _, ezero⟩ => match Nat.beq esize z with
        | true => ∃ (k : Nat) (r : List PV), n = ↑k ∧ xs[k]? = some r ∧ K (.pv (.ia r))
        | false => False
      | none => False
    | .slice e, .ms id z off len => match look T e with
      | some ⟨esize, ebytes, _, _, ezero⟩ => match Nat.beq esize z with
        | true => ∃ (k : Nat), n = ↑k ∧ k < len ∧ eqv (off + k) fun row => K (.ptr id z row 0)
        | false => False
      | none => False
    | .array len e, .ptr id z row col => match look T e with
      | some ⟨esize, ebytes, _, _, ezero⟩ => ∃ (k : Nat), n = ↑k ∧ k < len ∧ K (.ptr id z row (col + k * esize))
      | none => False
    | .array len e, .pv (.ia cs) => match look T e with
      | some ⟨esize, ebytes, _, _, ezero⟩ => ∃ (k : Nat), n = ↑k ∧ k < len ∧ k * esize ≤ cs.length ∧ K (.pv (.ia (cs.drop (k * esize))))
      | none => False
    | _, _ => False
  | _, _ => False
def vcFieldAddr (T : Tab) (s : TypeId) (x : AV) (f : Nat) (K : AV → Prop) : Prop :=
  match look T s with
  | some ⟨size, bytes, agg, tk, zero⟩ => match tk with
    | .struct fs => match fs[f]? with
      | some (off, ft) => match look T ft with
        | some ⟨fsize, _, _, _, _⟩ => match Nat.blt 0 fsize with
          | true => match x with
            | .pv (.ia cs) => match Nat.ble off cs.length with
              | true => K (.pv (.ia (cs.drop off)))
              | false => False
            | .ptr id z row col => K (.ptr id z row (col + off))
            | _ => False
          | false => False
        | none => False
      | none => False
    | _ => False
  | none => False
def vcField (T : Tab) (s : TypeId) (x : AV) (f : Nat) (K : AV → Prop) : Prop :=
  match look T s, x with
  | some ⟨size, bytes, agg, tk, zero⟩, .agg cs => match tk with
    | .struct fs => match fs[f]? with
      | some (off, t) => match look T t with
        | some ⟨tsize, _, tagg, _, _⟩ => vcTake tsize tagg (cs.drop off) K
        | none => False
      | none => False
    | _ => False
  | _, _ => False
def vcLen (T : Tab) (t : TypeId) (x : AV) (K : AV → Prop) : Prop :=
  match look T t with
  | some ⟨size, bytes, agg, tk, zero⟩ => match tk, x with
    | .slice _, .pv (.val (.slice _ n _)) => K (vint .i64 n)
    | .str, .pv (.val (.string s)) => eqv s.size fun n => K (vint .i64 n)
    | .slice _, .pv (.sl _ xs) => eqv xs.length fun n => K (vint .i64 n)
    | .slice _, .ms _ _ _ n => K (vint .i64 n)
    | _, _ => False
  | none => False
def loIs (lo : Option AV) (l : Nat) : Prop :=
  match lo with
  | none => l = 0
  | some (.pv (.val (.int _ n))) => n = ↑l
  | _ => False
def hiIs (hi : Option AV) (len h : Nat) : Prop :=
  match hi with
  | none => h = len
  | some (.pv (.val (.int _ n))) => n = ↑h
  | _ => False
def vcClip (T : Tab) (t : TypeId) (x hi mx : AV) (K : AV → Prop) : Prop :=
  match look T t with
  | some ⟨_, _, _, .slice e, _⟩ => match x with
    | .pv (.sl z xs) => match look T e with
      | some ⟨esize, _, _, _, _⟩ => match Nat.beq esize z with
        | true => ∃ n : Nat, n ≤ xs.length ∧ hiIs (some hi) xs.length n ∧ hiIs (some mx) xs.length n ∧ K (.clip z (xs.take n))
        | false => False
      | none => False
    | _ => False
  | _ => False
def vcSlice (T : Tab) (t : TypeId) (x : AV) (lo hi : Option AV) (K : AV → Prop) : Prop :=
  match look T t with
  | some ⟨size, bytes, agg, tk, zero⟩ => match tk, x with
    | .slice e, .pv (.sl z xs) => match look T e with
      | some ⟨esize, ebytes, _, _, ezero⟩ => match Nat.beq esize z with
        | true => ∃ (l h : Nat), loIs lo l ∧
            hiIs hi xs.length h ∧ l ≤ h ∧ h ≤ xs.length ∧ eqv ((xs.take h).drop l) fun ys => K (.pv (.sl z ys))
        | false => False
      | none => False
    | .slice e, .ms id z off len => match look T e with
      | some ⟨esize, ebytes, _, _, ezero⟩ => match Nat.beq esize z with
        | true => ∃ (l h : Nat), loIs lo l ∧
            hiIs hi len h ∧ l ≤ h ∧ h ≤ len ∧ eqv (off + l) fun o => eqv (h - l) fun n => K (.ms id z o n)
        | false => False
      | none => False
    | .slice e, .pv (.val (.slice none 0 0)) => match look T e with
      | some ⟨esize, ebytes, _, _, ezero⟩ => loIs lo 0 ∧ hiIs hi 0 0 ∧ K (.pv (.val (.slice none 0 0)))
      | none => False
    | .str, .pv (.val (.string s)) => ∃ (l h : Nat), loIs lo l ∧
            hiIs hi s.size h ∧ l ≤ h ∧ h ≤ s.size ∧ eqv (s.extract l h) fun b => K (.pv (.val (.string b)))
    | _, _ => False
  | none => False
def vcPick (c : AV) (a b : Option AV) (K : AV → Prop) : Prop :=
  match c with
  | .pv (.val (.bool t)) => (t = true → match a with | some v => K v | none => False) ∧ (t = false → match b with | some v => K v | none => False)
  | _ => False
def srcRows (H : Heap) (x : AV) : Option (Rows × List Nat) :=
  match x with
  | .pv (.val (.slice none 0 0)) => some (.p [], [])
  | .pv (.sl _ xs) => some (.p xs, [])
  | .ms id z off len => match H[id]? with
    | some (some o) => match Nat.beq o.z z, o.rows with
      | true, .p xs => some (.p ((xs.drop off).take len), [id])
      | true, .m xs => some (.m ((xs.drop off).take len), [id])
      | _, _ => none
    | _ => none
  | _ => none
def catRows : Rows → Rows → Option Rows
  | .p a, .p b => some (.p (a ++ b))
  | .m a, .m b => some (.m (a ++ b))
  | .p a, .m b => some (.m (a.map pvs ++ b))
  | .m a, .p b => some (.m (a ++ b.map pvs))
  | _, _ => none
def dropR (n : Nat) (r : Rows) : Rows :=
  match r with
  | .box cs => .box cs
  | .p xs => .p (xs.drop n)
  | .m xs => .m (xs.drop n)
  | .mp s k es ck => .mp s k es ck
def rowsLen : Rows → Nat
  | .box _ => 0
  | .p xs => xs.length
  | .m xs => xs.length
  | .mp .. => 0
def srcLen : AV → Nat
  | .pv (.sl _ xs) => xs.length
  | .ms _ _ _ len => len
  | _ => 0
def srcOk (z : Nat) : AV → Bool
  | .pv (.val (.slice none 0 0)) => true
  | .pv (.sl z' _) => Nat.beq z' z
  | .ms _ z' _ _ => Nat.beq z' z
  | _ => false
def vcAppend (T : Tab) (t : TypeId) (site : Nat) (s x : AV) (H : Heap) (K : AV → Upd → List Nat → Prop) : Prop :=
  match look T t with
  | some ⟨size, bytes, agg, tk, zero⟩ => match tk with
    | .slice e => match look T e with
      | some ⟨esize, ebytes, _, _, ezero⟩ => match srcOk esize x && Nat.blt 0 esize, srcRows H x with
        | true, some (rx, rdx) => match s with
          | .pv (.val (.slice none 0 0)) =>
            srcLen x = rowsLen rx ∧ rowsLen rx * ebytes ≤ 140737488355328 ∧ rowsLen rx ≤ 9223372036854775807 ∧
              (0 < rowsLen rx → eqv rx fun rx => eqv (rowsLen rx) fun n => K (.ms site esize 0 n) [(site, some ⟨e, esize, false, rx⟩)] rdx) ∧
              (rowsLen rx = 0 → K (.pv (.val (.slice none 0 0))) [] rdx)
          | .ms id z off len => match Nat.beq z esize, H[id]? with
            | true, some (some o) => match !o.fz && (Nat.beq o.ty e && Nat.beq o.z esize), catRows (dropR off o.rows) rx with
              | true, some rr => off + len = rowsLen o.rows ∧ srcLen x = rowsLen rx ∧ rowsLen rr * ebytes ≤ 140737488355328 ∧ rowsLen rr ≤ 9223372036854775807 ∧
                  eqv rr fun rr => eqv (rowsLen rr) fun n => K (.ms site esize 0 n) [(id, none), (site, some ⟨e, esize, false, rr⟩)] (id :: rdx)
              | _, _ => False
            | _, _ => False
          | .clip z xs => match Nat.beq z esize, catRows (.p xs) rx with
            | true, some rr => srcLen x = rowsLen rx ∧ rowsLen rr * ebytes ≤ 140737488355328 ∧ rowsLen rr ≤ 9223372036854775807 ∧
                (0 < rowsLen rx → eqv rr fun rr => eqv (rowsLen rr) fun n => K (.ms site esize 0 n) [(site, some ⟨e, esize, false, rr⟩)] rdx) ∧
                (rowsLen rx = 0 → K (.pv (.sl z xs)) [] rdx)
            | _, _ => False
          | _ => False
        | _, _ => False
      | none => False
    | _ => False
  | none => False
def vcAppH (T : Tab) (t : TypeId) (site : Nat) (s x : AV) (H : Heap) (K : AV → Upd → List Nat → Prop) : Prop :=
  match s with
  | .ms id z off len => match H[id]? with
    | some (some o) => match o.rows with
      | .p xs => vcAppend T t site s x (H.set id (some { o with rows := .p (xs.take (off + len)) })) fun r u f => K r ((id, some { o with rows := .p (xs.take (off + len)) }) :: u) (id :: f)
      | _ => False
    | _ => False
  | _ => False
def vcCopy (T : Tab) (t : TypeId) (d x : AV) (H : Heap) (K : AV → Upd → List Nat → Prop) : Prop :=
  match look T t with
  | some ⟨size, bytes, agg, tk, zero⟩ => match tk with
    | .slice e => match look T e with
      | some ⟨esize, ebytes, _, _, ezero⟩ => match d, x with
        | .ms id z off len, .pv (.sl z' ys) => match Nat.beq z' esize && Nat.blt 0 esize, H[id]? with
          | true, some (some o) => match !o.fz && (Nat.beq z esize && Nat.beq o.z esize), o.rows with
            | true, .p xs => 0 < ys.length ∧ ys.length ≤ len ∧ off + ys.length ≤ xs.length ∧
                eqv (xs.take off ++ ys ++ xs.drop (off + ys.length)) fun zs => K (vint .i64 ys.length) [(id, some { o with rows := .p zs })] [id]
            | _, _ => False
          | _, _ => False
        | _, _ => False
      | none => False
    | _ => False
  | none => False
def vcClear (T : Tab) (t : TypeId) (d : AV) (H : Heap) (K : AV → Upd → List Nat → Prop) : Prop :=
  match look T t with
  | some ⟨size, bytes, agg, tk, zero⟩ => match tk with
    | .slice e => match look T e with
      | some ⟨esize, ebytes, _, _, ezero⟩ => match d with
        | .ms id z off len => match Nat.blt 0 esize, H[id]? with
          | true, some (some o) => match !o.fz && (Nat.beq z esize && Nat.beq o.z esize), o.rows with
            | true, .p xs => allOne (pvs ezero) = true ∧ 0 < len ∧ off + len ≤ xs.length ∧
                eqv (xs.take off ++ List.replicate len ezero ++ xs.drop (off + len)) fun zs => K (.tup []) [(id, some { o with rows := .p zs })] [id]
            | _, _ => False
          | _, _ => False
        | _ => False
      | none => False
    | _ => False
  | none => False
def vcMakeSlice (T : Tab) (t : TypeId) (site : Nat) (l c : AV) (K : AV → Upd → List Nat → Prop) : Prop :=
  match look T t, l, c with
  | some ⟨size, bytes, agg, tk, zero⟩, .pv (.val (.int .i64 n)), .pv (.val (.int .i64 m)) => match tk with
    | .slice e => match look T e with
      | some ⟨esize, ebytes, _, _, ezero⟩ => allOne (pvs ezero) = true ∧ ∃ (j k : Nat), n = ↑j ∧ m = ↑k ∧ j ≤ k ∧ k * ebytes ≤ 140737488355328 ∧ k ≤ 9223372036854775807 ∧
          eqv (List.replicate j ezero) fun ys => K (.ms site esize 0 j) [(site, some ⟨e, esize, false, .p ys⟩)] []
      | none => False
    | _ => False
  | _, _, _ => False
def mm (isMax : Bool) (a b : Int) : Int := bif isMax then (if b > a then b else a) else (if b < a then b else a)
def vcMinMax (isMax : Bool) (xs : List (Option AV)) (K : AV → Prop) : Prop :=
  match xs with
  | [some (.pv (.val (.int k a))), some (.pv (.val (.int k' b)))] => match ixEq k k' with
    | true => K (vint k (bif isMax then (if b > a then b else a) else (if b < a then b else a)))
    | false => False
  | [some (.pv (.val (.int k a))), some (.pv (.val (.int k' b))), some (.pv (.val (.int k2 c)))] => match ixEq k k' && ixEq k k2 with
    | true => K (vint k (mm isMax (mm isMax a b) c))
    | false => False
  | _ => False
def bytesRows (s : ByteArray) : List (List PV) := (bts s).map fun b => [.val (.int .u8 b.toNat)]
def isInt (k : IntKind) : Value → Bool
  | .int k' _ => ixEq k k'
  | _ => false
def keyOk (kst : KS) (k : IntKind) : Value → Bool
  | .int k' _ => match kst with
    | .num => ixEq k k'
    | _ => false
  | .string _ => match kst with
    | .str => true
    | _ => false
  | .agg cs => match kst with
    | .arr n => Nat.beq cs.size n && cs.toList.all (isInt k)
    | _ => false
  | _ => false
def keyTk (T : Tab) (kst : KS) (k : IntKind) : TK → Bool
  | .int k' => match kst with
    | .num => ixEq k k'
    | _ => false
  | .str => match kst with
    | .str => true
    | _ => false
  | .array n e => match kst with
    | .arr n' => Nat.beq n' n && (match look T e with
      | some ⟨sz, _, agg, .int k', _⟩ => Nat.beq sz 1 && !agg && ixEq k k'
      | _ => false)
    | _ => false
  | _ => false
def eqV : List Value → List Value → Bool
  | .int _ a :: l, .int _ b :: m => a == b && eqV l m
  | [], [] => true
  | _, _ => false
def kEq : Value → Value → Bool
  | .int _ a, .int _ b => a == b
  | .string a, .string b => a == b
  | .agg a, .agg b => eqV a.toList b.toList
  | _, _ => false
def valL : List AV → Option (List Value)
  | [] => some []
  | .pv (.val v) :: l => match valL l with
    | some m => some (v :: m)
    | none => none
  | _ => none
def keyVal : AV → Option Value
  | .pv (.val v) => some v
  | .agg cs => match valL cs with
    | some vs => some (.agg vs.toArray)
    | none => none
  | _ => none
def getM (k : Value) : List (Value × Nat × AV) → Option AV
  | [] => none
  | e :: l => bif kEq k e.1 then some e.2.2 else getM k l
def putM (k : Value) (v : AV) (ck : Nat) : List (Value × Nat × AV) → List (Value × Nat × AV)
  | [] => [(k, ck, v)]
  | e :: l => bif kEq k e.1 then (k, e.2.1, v) :: l else e :: putM k v ck l
def ckM (k : Value) (ck : Nat) (es : List (Value × Nat × AV)) : Nat :=
  match getM k es with
  | some _ => ck
  | none => ck + 1
def vcMore (T : Tab) (site : Nat) (op : Op) (ρ : Operand → Option AV) (H : Heap) (K : AV → Upd → List Nat → Prop) : Prop :=
  match op with
  | .index t x i => match ρ x, ρ i, look T t with
    | some (.pv (.val (.string s))), some (.pv (.val (.int _ n))), some ⟨size, bytes, agg, tk, zero⟩ => match tk with
      | .str => ∃ (j : Nat) (b : UInt8), n = ↑j ∧ s[j]? = some b ∧ K (vint .u8 b.toNat) [] []
      | _ => False
    | some (.agg cs), some (.pv (.val (.int _ n))), some ⟨size, bytes, agg, tk, zero⟩ => match tk with
      | .array len e => match look T e with
        | some ⟨esize, ebytes, eagg, etk, ezero⟩ => match Nat.blt 0 esize with
          | true => ∃ (j : Nat), n = ↑j ∧ j < len ∧ (j + 1) * esize ≤ cs.length ∧ vcTake esize eagg (cs.drop (j * esize)) fun v => K v [] []
          | false => False
        | none => False
      | _ => False
    | _, _, _ => False
  | .convert s d x => match ρ x, look T s, look T d with
    | some (.pv (.val (.int ks n))), some ⟨_, _, _, stk, _⟩, some ⟨_, _, _, tk, _⟩ => match stk, tk with
      | .int _, .int k => eqv (k.wrap n) fun m => K (vint k m) [] []
      | _, _ => False
    | some (.pv (.val (.string b))), some ⟨_, _, _, stk, _⟩, some ⟨_, _, _, tk, _⟩ => match stk, tk with
      | .str, .str => K (.pv (.val (.string b))) [] []
      | _, _ => False
    | some v, some ⟨_, _, _, stk, _⟩, some ⟨_, _, _, tk, _⟩ => match stk, tk with
      | .slice e, .str => match look T e with
        | some ⟨esize, ebytes, eagg, etk, ezero⟩ => match etk, srcOk 1 v, srcRows H v with
          | .int .u8, true, some (.p rows, rd) => ∃ b : ByteArray, rows = bytesRows b ∧ srcLen v = rows.length ∧ K (.pv (.val (.string b))) [] rd
          | _, _, _ => False
        | none => False
      | _, _ => False
    | _, _, _ => False
  | .makeMap t none => match look T t with
    | some ⟨size, bytes, agg, tk, zero⟩ => match tk with
      | .map kt et => match look T kt, look T et with
        | some ⟨_, _, _, ktk, _⟩, some ⟨esize, _, _, _, ezero⟩ => match ktk, esize, allOne (pvs ezero) with
          | .str, 1, true => K (.mp site) [(site, some ⟨t, 1, false, .mp .str .i64 [] 0⟩)] []
          | .int k, 1, true => K (.mp site) [(site, some ⟨t, 1, false, .mp .num k [] 0⟩)] []
          | .array n e, 1, true => match look T e with
            | some ⟨_, _, _, .int k, _⟩ => K (.mp site) [(site, some ⟨t, 1, false, .mp (.arr n) k [] 0⟩)] []
            | _ => False
          | _, _, _ => False
        | _, _ => False
      | _ => False
    | none => False
  | .lookup t x i commaOk => match ρ x, (ρ i).bind keyVal, look T t with
    | some (.mp id), some kv, some ⟨size, bytes, agg, tk, zero⟩ => match tk, H[id]? with
      | .map kt et, some (some ⟨ty, z, fz, .mp s k es ck⟩) => match look T kt, look T et with
        | some ⟨_, _, _, ktk, _⟩, some ⟨esize, _, eagg, _, ezero⟩ => match keyTk T s k ktk && keyOk s k kv, eagg, ezero with
          | true, false, [z0] => eqv (getM kv es) fun r => match r with
            | some v => K (bif commaOk then .tup [v, vbool true] else v) [] [id]
            | none => K (bif commaOk then .tup [.pv z0, vbool false] else .pv z0) [] [id]
          | _, _, _ => False
        | _, _ => False
      | _, _ => False
    | _, _, _ => False
  | .mapUpdate t m i x => match ρ m, (ρ i).bind keyVal, ρ x, look T t with
    | some (.mp id), some kv, some v, some ⟨size, bytes, agg, tk, zero⟩ => match tk, H[id]? with
      | .map kt et, some (some ⟨ty, z, fz, .mp s k es ck⟩) => match look T kt with
        | some ⟨_, _, _, ktk, _⟩ => match keyTk T s k ktk && keyOk s k kv, !fz && oneCell v with
          | true, true => eqv (putM kv v ck es) fun es' => eqv (ckM kv ck es) fun ck' => K (.pv (.val undef)) [(id, some ⟨ty, z, fz, .mp s k es' ck'⟩)] [id]
          | _, _ => False
        | _ => False
      | _, _ => False
    | _, _, _, _ => False
  | _ => False
def vcMapLen (T : Tab) (t : TypeId) (id : Nat) (H : Heap) (K : AV → Upd → List Nat → Prop) : Prop :=
  match look T t with
  | some ⟨size, bytes, agg, tk, zero⟩ => match tk, H[id]? with
    | .map kt et, some (some ⟨ty, z, fz, .mp s k es ck⟩) => eqv es.length fun n => K (vint .i64 n) [] [id]
    | _, _ => False
  | none => False
def vcOp (T : Tab) (site : Nat) (op : Op) (ρ : Operand → Option AV) (H : Heap) (K : AV → Upd → List Nat → Prop) : Prop :=
  match op with
  | .move x | .assign x => match ρ x with
    | some v => K v [] []
    | none => False
  | .pick c a b => match ρ c with
    | some vc => vcPick vc (ρ a) (ρ b) fun v => K v [] []
    | none => False
  | .alloc t => match look T t with
    | some ⟨size, bytes, agg, tk, zero⟩ => allOne (pvs zero) = true ∧ K (.ptr site size 0 0) [(site, some ⟨t, size, false, .box (pvs zero)⟩)] []
    | none => False
  | .box t x => match look T t, ρ x with
    | some ⟨size, bytes, agg, tk, zero⟩, some v => match Nat.beq (cellsOf v).length size && allOne (cellsOf v) with
      | true => K (.ptr site size 0 0) [(site, some ⟨t, size, false, .box (cellsOf v)⟩)] []
      | false => False
    | _, _ => False
  | .build t parts => vcBuild T t parts.toList ρ fun v => K v [] []
  | .buildSlice t len parts => match look T t with
    | some ⟨size, bytes, agg, tk, zero⟩ => match tk with
      | .slice e => match look T e with
        | some ⟨esize, ebytes, _, _, ezero⟩ => match rowsOf ρ esize 0 parts.toList with
          | some rs => match Nat.beq rs.length len && (Nat.ble (len * esize) 4096 && Nat.ble len 4096) with
            | true => K (.ms site esize 0 len) [(site, some ⟨e, esize, false, mkRows rs⟩)] []
            | false => False
          | none => False
        | none => False
      | _ => False
    | none => False
  | .load t x => match ρ x with
    | some v => vcLoad T t v H fun r f => K r [] f
    | none => False
  | .store t a x => match ρ a, ρ x with
    | some va, some vx => vcStore T t va vx H fun u f => K (.pv (.val undef)) u f
    | _, _ => False
  | .nilCheck x => match ρ x with
    | some (.ptr id z row col) => K (.ptr id z row col) [] []
    | some (.pv (.ia cs)) => K (.pv (.ia cs)) [] []
    | some (.pv (.fn f caps)) => K (.pv (.fn f caps)) [] []
    | some (.fn f caps) => K (.fn f caps) [] []
    | _ => False
  | .binOp op t x y _ => match ρ x, ρ y with
    | some vx, some vy => vcBin T op t vx vy fun v => K v [] []
    | _, _ => False
  | .unOp op _ x => match ρ x with
    | some v => vcUn op v fun r => K r [] []
    | none => False
  | .makeFunc (.func f) first caps => match first.toList, caps.toList.mapM ρ with
    | [], some vs => K (.fn f vs) [] []
    | _, _ => False
  | .makeSlice t l c => match ρ l, ρ c with
    | some vl, some vc => vcMakeSlice T t site vl vc K
    | _, _ => False
  | .slice t x lo hi none => match ρ x with
    | some v => match lo, hi with
      | none, none => vcSlice T t v none none fun r => K r [] []
      | some l, none => match ρ l with
        | some vl => vcSlice T t v (some vl) none fun r => K r [] []
        | none => False
      | none, some h => match ρ h with
        | some vh => vcSlice T t v none (some vh) fun r => K r [] []
        | none => False
      | some l, some h => match ρ l, ρ h with
        | some vl, some vh => vcSlice T t v (some vl) (some vh) fun r => K r [] []
        | _, _ => False
    | none => False
  | .slice t x none (some h) (some m) => match ρ x, ρ h, ρ m with
    | some vx, some vh, some vm => vcClip T t vx vh vm fun r => K r [] []
    | _, _, _ => False
  | .fieldAddr s x f => match ρ x with
    | some v => vcFieldAddr T s v f fun r => K r [] []
    | none => False
  | .field s x f => match ρ x with
    | some v => vcField T s v f fun r => K r [] []
    | none => False
  | .indexAddr t x i => match ρ x, ρ i with
    | some vx, some vi => vcIndexAddr T t vx vi fun r => K r [] []
    | _, _ => False
  | .extract x i => match ρ x with
    | some (.tup vs) => match vs[i]? with
      | some v => K v [] []
      | none => False
    | _ => False
  | .call { callee := .builtin b, args := args, argTypes := ats } => match b with
    | .len => match args.toList, ats.toList with
      | [x], [t] => match ρ x with
        | some (.mp id) => vcMapLen T t id H K
        | some v => vcLen T t v fun r => K r [] []
        | none => False
      | _, _ => False
    | .append => match args.toList, ats.toList with
      | [s, x], [t, t2] => match Nat.beq t t2, ρ s, ρ x with
        | true, some vs, some vx => vcAppend T t site vs vx H K ∨ vcAppH T t site vs vx H K
        | _, _, _ => False
      | _, _ => False
    | .copy => match args.toList, ats.toList with
      | [s, x], [t, t2] => match ρ s, ρ x with
        | some vs, some vx => vcCopy T t vs vx H K
        | _, _ => False
      | _, _ => False
    | .clear => match args.toList, ats.toList with
      | [s], [t] => match ρ s with
        | some vs => vcClear T t vs H K
        | _ => False
      | _, _ => False
    | .min => vcMinMax false (args.toList.map ρ) fun r => K r [] []
    | .max => vcMinMax true (args.toList.map ρ) fun r => K r [] []
    | _ => False
  | op => vcMore T site op ρ H K
end Go.Cw
/-
  Cw, part B: what an abstract state says of a real one; contracts; 'vcCode'. Definitions alone; no conditions.
-/
namespace Go.Cw
set_option linter.unusedVariables false
inductive PRel (I : Nat → Prop) (w : World) : PV → Value → Prop
  | val (v : Value) : PRel I w (.val v) v
  | sl {z : Nat} {xs : List (List PV)} {ad : Option Addr} {cap : Nat} (u : Nat → Nat → Value) (hc : xs.length ≤ cap)
      (h1 : ∀ i r, xs[i]? = some r → r.length = z ∧ ∃ a, ad = some a ∧ I a.block ∧ ∀ j, j < z → w.cell? (a.add (i * z + j)) = some (u i j) ∧ (u i j).oneCell' = true)
      (h2 : ∀ i r j p, xs[i]? = some r → r[j]? = some p → PRel I w p (u i j)) : PRel I w (.sl z xs) (.slice ad xs.length cap)
  | ia {cs : List PV} {a : Addr} (u : Nat → Value) (h0 : I a.block) (h1 : ∀ j, j < cs.length → w.cell? (a.add j) = some (u j) ∧ (u j).oneCell' = true)
      (h2 : ∀ j p, cs[j]? = some p → PRel I w p (u j)) : PRel I w (.ia cs) (.pointer (some a))
  | fn {f : FuncId} {caps : List PV} {vs : Array Value} (hl : vs.size = caps.length) (h : ∀ j p, caps[j]? = some p → PRel I w p (vs.getD j undef)) :
      PRel I w (.fn f caps) (.func (.func f) #[] vs)
abbrev Beta := List (Option (Nat × Nat))
inductive ARel (I : Nat → Prop) (β : Beta) (w : World) : AV → Value → Prop
  | pv {p : PV} {v : Value} (h : PRel I w p v) : ARel I β w (.pv p) v
  | agg {cs : List AV} {vs : Array Value} (hl : vs.size = cs.length) (h : ∀ (j : Nat) c, cs[j]? = some c → ARel I β w c (vs.getD j undef)) : ARel I β w (.agg cs) (.agg vs)
  | ms {id z off len cap o : Nat} {b : Nat × Nat} (hb : β[id]? = some (some b)) (hc : len ≤ cap) (hm : cap ≤ maxLen) (ho : o = (off + b.2) * z ∨ (cap = 0 ∧ 0 < off + b.2))
      (hs : ∃ t, w.shape? b.1 = some (t, (off + b.2 + cap) * z)) : ARel I β w (.ms id z off len) (.slice (some ⟨b.1, o, none⟩) len cap)
  | ptr {id z row col : Nat} {b : Nat × Nat} (hb : β[id]? = some (some b)) : ARel I β w (.ptr id z row col) (.pointer (some ⟨b.1, (row + b.2) * z + col, none⟩))
  | mp {id b : Nat} (hb : β[id]? = some (some (b, 0))) : ARel I β w (.mp id) (.map (some b))
  | fn {f : FuncId} {caps : List AV} {vs : Array Value} (hl : vs.size = caps.length) (h : ∀ (j : Nat) c, caps[j]? = some c → ARel I β w c (vs.getD j undef)) :
      ARel I β w (.fn f caps) (.func (.func f) #[] vs)
  | tup {cs : List AV} {vs : Array Value} (hl : vs.size = cs.length) (h : ∀ (j : Nat) c, cs[j]? = some c → ARel I β w c (vs.getD j undef)) : ARel I β w (.tup cs) (.tuple vs)
  | clip {z n : Nat} {xs : List (List PV)} {ad : Option Addr} (h : PRel I w (.sl z xs) (.slice ad n n)) : ARel I β w (.clip z xs) (.slice ad n n)
  | dead (v : Value) : ARel I β w .dead v
def rowCell : Rows → Nat → Nat → Option AV
  | .box cs, i, j => if i = 0 then cs[j]? else none
  | .p xs, i, j => ((xs[i]?).bind (·[j]?)).map .pv
  | .m xs, i, j => (xs[i]?).bind (·[j]?)
  | .mp _ _ es _, i, j => if j = 0 then (es[i]?).map (·.2.2) else none
def rowsWide : Rows → Nat → Prop
  | .box cs, z => cs.length = z
  | .p xs, z => ∀ (i : Nat) r, xs[i]? = some r → r.length = z
  | .m xs, z => ∀ (i : Nat) r, xs[i]? = some r → r.length = z
  | .mp s k es _, z => z = 1 ∧ ∀ e ∈ es, keyOk s k e.1 = true
def memOf : Rows → Array Value → TypeId → Obj
  | .mp _ _ es ck, c, _ => .map ((es.zip c.toList).map fun p => ⟨p.1.1, p.2, p.1.2.1⟩).toArray ck
  | .box _, c, ty => .cells c ty (0, 0)
  | .p _, c, ty => .cells c ty (0, 0)
  | .m _, c, ty => .cells c ty (0, 0)
def OSim (I : Nat → Prop) (β : Beta) (w : World) (b : Nat × Nat) (o : AObj) : Prop :=
  rowsWide o.rows o.z ∧ (o.fz = true ↔ I b.1) ∧ ∃ c, w.heap[b.1]? = some (memOf o.rows c o.ty) ∧
    ∀ i j x, rowCell o.rows i j = some x → ∃ v, c[(i + b.2) * o.z + j]? = some v ∧ v.oneCell' = true ∧ ARel I β w x v
def Gl (I : Nat → Prop) (w : World) : Prop := ∀ e ∈ VT, PRel I w (.ia e.2) (.pointer (some ⟨e.1, 0, none⟩))
structure Imm (I : Nat → Prop) (w : World) : Prop where
  lt : ∀ b, I b → b < w.heap.size
  gl : Gl I w
instance {I : Nat → Prop} {w : World} : CoeFun (Imm I w) (fun _ => ∀ b, I b → b < w.heap.size) := ⟨Imm.lt⟩
structure HSim (I : Nat → Prop) (β : Beta) (H : Heap) (w : World) : Prop where
  len : β.length = H.length
  obj : ∀ (i : Nat) o, H[i]? = some (some o) → ∃ b, β[i]? = some (some b) ∧ OSim I β w b o
  inj : ∀ (i j : Nat) oi oj b b', H[i]? = some (some oi) → H[j]? = some (some oj) → β[i]? = some (some b) → β[j]? = some (some b') → b.1 = b'.1 → i = j
  imm : Imm I w
  lt : ∀ (i : Nat) b, β[i]? = some (some b) → b.1 < w.heap.size
structure Evo (I : Nat → Prop) (β : Beta) (w : World) (I' : Nat → Prop) (β' : Beta) (w' : World) : Prop where
  os : w'.os = w.os
  tape : w'.tape = w.tape
  output : w'.output = w.output
  size : w.heap.size ≤ w'.heap.size
  pre : ∀ (i : Nat) b, β[i]? = some (some b) → β'[i]? = some (some b)
  fresh : ∀ (i : Nat) b, β'[i]? = some (some b) → w.heap.size ≤ b.1 ∨ ∃ (j : Nat) (b0 : Nat × Nat), β[j]? = some (some b0) ∧ b0.1 = b.1
  keep : ∀ b, b < w.heap.size → (∀ (i : Nat) c, β[i]? = some (some c) → c.1 ≠ b) → w'.heap[b]? = w.heap[b]?
  keepI : ∀ b, I b → w'.heap[b]? = w.heap[b]? ∧ I' b
  old : ∀ b, b < w.heap.size → I' b → I b ∨ ∃ (i : Nat) (c : Nat × Nat), β[i]? = some (some c) ∧ c.1 = b
  shape : ∀ b t n, w.shape? b = some (t, n) → w'.shape? b = some (t, n)
  drawn : w.drawn ≤ w'.drawn
structure Sim (I0 : Nat → Prop) (β0 : Beta) (w0 : World) (n : Nat) (lo cnt : Nat) (g : Nat → Option AV) (H : Heap) (I : Nat → Prop) (β : Beta) (a : Act) (w : World) : Prop where
  h : HSim I β H w
  defers : a.defers = []
  size : a.tmps.size = n
  slot : ∀ s x, g s = some x → ARel I β w x (a.tmps.getD s undef)
  evo : Evo I0 β0 w0 I β w
  free : ∀ s, lo ≤ s → s < lo + cnt → β[s]? = some none
def SimE (I0 : Nat → Prop) (β0 : Beta) (w0 : World) (n : Nat) (lo cnt : Nat) (g : Nat → Option AV) (H : Heap) (a : Act) (w : World) : Prop := ∃ I β, Sim I0 β0 w0 n lo cnt g H I β a w
def Ghost (n nh : Nat) (Γ : Slots) (H : Heap) (Γ' : Slots) (H' : Heap) : Prop := ∀ I0 (β0 : Beta) w0 a w, β0.length ≤ nh → SimE I0 β0 w0 n 0 0 (get Γ) H a w → SimE I0 β0 w0 n 0 0 (get Γ') H' a w
def GhostF (n nh k m : Nat) (Γ : Slots) (H : Heap) (Γ' : Slots) (H' : Heap) : Prop := ∀ I0 (β0 : Beta) w0 a w, β0.length ≤ nh → SimE I0 β0 w0 n 0 0 (get Γ) H a w → SimE I0 β0 w0 n k m (get Γ') H' a w
theorem Ghost.refl {n nh : Nat} {Γ : Slots} {H : Heap} : Ghost n nh Γ H Γ H := fun _ _ _ _ _ _ h => h
def gh (n nh : Nat) (Γ : Slots) (H : Heap) (K : Slots → Heap → Prop) : Prop := ∃ Γ' H', Ghost n nh Γ H Γ' H' ∧ K Γ' H'
theorem gh.same {n nh : Nat} {Γ : Slots} {H : Heap} {K : Slots → Heap → Prop} (h : K Γ H) : gh n nh Γ H K := ⟨Γ, H, Ghost.refl, h⟩
def PLe (p q : PV) : Prop := ∀ I w v, PRel I w p v → PRel I w q v
def ALe (x y : AV) : Prop := ∀ I β w v, ARel I β w x v → ARel I β w y v
def ALeL : List AV → List AV → Prop
  | [], [] => True
  | x :: l, y :: m => ALe x y ∧ ALeL l m
  | _, _ => False
theorem ALe.refl {x : AV} : ALe x x := fun _ _ _ _ h => h
theorem ALeL.refl : ∀ {l : List AV}, ALeL l l
  | [] => trivial
  | _ :: _ => ⟨ALe.refl, ALeL.refl⟩
theorem ALeL.spec : ∀ {l m : List AV}, ALeL l m → m.length = l.length ∧ ∀ (j : Nat) y, m[j]? = some y → ∃ x, l[j]? = some x ∧ ALe x y
  | [], [], _ => ⟨rfl, fun j y h => by simp at h⟩
  | x :: l, y :: m, h => by
    obtain ⟨h1, h2⟩ := ALeL.spec h.2
    refine ⟨by simp [h1], fun j z hj => ?_⟩
    cases j with
    | zero => simp at hj; subst hj; exact ⟨x, rfl, h.1⟩
    | succ j => simpa using h2 j z (by simpa using hj)
  | [], _ :: _, h => h.elim
  | _ :: _, [], h => h.elim
def Enterable (P : Program) (f : FuncId) : Prop := ∃ fn, P.funcs[f]? = some fn ∧ (fn.name == "runtime.NumGoroutine") = false ∧ fn.body.isNone = false
def ACall (P : Program) (f : FuncId) (args : List AV) (H : Heap) (Post : AV → Heap → Prop) : Prop :=
  Enterable P f ∧ ∀ (I : Nat → Prop) (β : Beta) (w : World) (vs : Array Value), HSim I β H w → vs.size = args.length →
    (∀ (j : Nat) c, args[j]? = some c → ARel I β w c (vs.getD j undef)) →
    Calls P f vs w fun e w' => ∃ r H' I' β' v, e = .returned v ∧ Post r H' ∧ HSim I' β' H' w' ∧ ARel I' β' w' r v ∧ Evo I β w I' β' w'
def PCall (P : Program) (f : FuncId) (args : List AV) (Post : AV → Prop) : Prop := ACall P f args [] fun r H' => H' = [] ∧ Post r
mutual
def renC (d : Nat) (rn : List Nat) : AV → AV
  | .pv p => .pv p
  | .agg cs => .agg (renL d rn cs)
  | .ms id z off len => .ms (rn.getD id d) z off len
  | .ptr id z row col => .ptr (rn.getD id d) z row col
  | .mp id => .mp (rn.getD id d)
  | .fn f caps => .fn f (renL d rn caps)
  | .tup vs => .tup (renL d rn vs)
  | .clip z xs => .clip z xs
  | .dead => .dead
def renL (d : Nat) (rn : List Nat) : List AV → List AV
  | [] => []
  | x :: l => renC d rn x :: renL d rn l
end
def renRows (d : Nat) (rn : List Nat) : Rows → Rows
  | .box cs => .box (renL d rn cs)
  | .p xs => .p xs
  | .m xs => .m (xs.map (renL d rn))
  | .mp s k es ck => .mp s k (es.map fun e => (e.1, e.2.1, renC d rn e.2.2)) ck
def renO (d : Nat) (rn : List Nat) (o : AObj) : AObj := { o with rows := renRows d rn o.rows }
def mapO {α β : Type} (f : α → Option β) : List α → Option (List β)
  | [] => some []
  | x :: l => match f x, mapO f l with
    | some y, some ys => some (y :: ys)
    | _, _ => none
def convC (H : Heap) : Nat → AV → Option PV
  | _, .pv p => some p
  | n + 1, .ms id z off len => match H[id]? with
    | some (some o) => match Nat.beq o.z z, o.rows with
      | true, .p xs => some (.sl z ((xs.drop off).take len))
      | true, .m xs => match mapO (mapO (convC H n)) ((xs.drop off).take len) with
        | some ps => some (.sl z ps)
        | none => none
      | _, _ => none
    | _ => none
  | n + 1, .ptr id z row col => match H[id]? with
    | some (some o) => match Nat.beq o.z z, o.rows, row with
      | true, .box cs, 0 => match mapO (convC H n) (cs.drop col) with
        | some ps => some (.ia ps)
        | none => none
      | _, _, _ => none
    | _ => none
  | n + 1, .fn f caps => match mapO (convC H n) caps with
    | some ps => some (.fn f ps)
    | none => none
  | _ + 1, .clip z xs => some (.sl z xs)
  | _, _ => none
def andL (f : AV → Prop) : List AV → Prop
  | [] => True
  | .pv _ :: l => andL f l
  | x :: l => f x ∧ andL f l
def okC (H : Heap) : Nat → AV → Prop
  | n + 1, .ms id _ off len => match H[id]? with
    | some (some o) => match o.rows with
      | .p xs => off + len ≤ xs.length
      | .m xs => off + len ≤ xs.length ∧ ∀ r ∈ (xs.drop off).take len, andL (okC H n) r
      | .box _ => True
      | .mp .. => True
    | _ => True
  | n + 1, .ptr id _ _ col => match H[id]? with
    | some (some o) => match o.rows with
      | .box cs => andL (okC H n) (cs.drop col)
      | _ => True
    | _ => True
  | n + 1, .fn _ caps => andL (okC H n) caps
  | _, _ => True
def ok0 (H : Heap) : AV → Prop
  | .agg cs => andL (okC H 5) cs
  | x => okC H 5 x
def ok1 (H : Heap) : AV → Prop
  | .tup vs => andL (ok0 H) vs
  | x => ok0 H x
def conv1 (H : Heap) : AV → Option AV
  | .agg cs => match mapO (convC H 5) cs with
    | some ps => some (.agg (pvs ps))
    | none => none
  | x => match convC H 5 x with
    | some p => some (.pv p)
    | none => none
def conv (H : Heap) : AV → Option AV
  | .tup vs => match mapO (conv1 H) vs with
    | some ps => some (.tup ps)
    | none => none
  | x => conv1 H x
def idsC (H : Heap) : Nat → AV → List Nat
  | n + 1, .ms id _ off len => match H[id]? with
    | some (some o) => (match o.fz with | true => [] | false => [id]) ++ (match o.rows with
      | .m xs => ((xs.drop off).take len).flatMap fun r => r.flatMap (idsC H n)
      | _ => [])
    | _ => []
  | n + 1, .ptr id _ _ col => match H[id]? with
    | some (some o) => (match o.fz with | true => [] | false => [id]) ++ (match o.rows with
      | .box cs => (cs.drop col).flatMap (idsC H n)
      | _ => [])
    | _ => []
  | n + 1, .fn _ caps => caps.flatMap (idsC H n)
  | _, _ => []
def ids0 (H : Heap) : AV → List Nat
  | .agg cs => cs.flatMap (idsC H 5)
  | x => idsC H 5 x
def ids1 (H : Heap) : AV → List Nat
  | .tup vs => vs.flatMap (ids0 H)
  | x => ids0 H x
def rdsC (H : Heap) : Nat → AV → List Nat
  | n + 1, .ms id _ off len => match H[id]? with
    | some (some o) => id :: (match o.rows with
      | .m xs => ((xs.drop off).take len).flatMap fun r => r.flatMap (rdsC H n)
      | _ => [])
    | _ => [id]
  | n + 1, .ptr id _ row col => match H[id]? with
    | some (some o) => id :: (match o.rows with
      | .box cs => (cs.drop col).flatMap (rdsC H n)
      | _ => [])
    | _ => [id]
  | n + 1, .fn _ caps => caps.flatMap (rdsC H n)
  | _, _ => []
def rds0 (H : Heap) : AV → List Nat
  | .agg cs => cs.flatMap (rdsC H 5)
  | x => rdsC H 5 x
def rds1 (H : Heap) : AV → List Nat
  | .tup vs => vs.flatMap (rds0 H)
  | x => rds0 H x
def frz (H : Heap) : List Nat → Upd
  | [] => []
  | i :: l => match H[i]? with
    | some (some o) => (i, some { o with fz := true }) :: frz H l
    | _ => frz H l
def scal1 : AV → Bool
  | .pv (.val _) => true
  | _ => false
def scal : AV → Bool
  | .pv (.val _) => true
  | .agg cs => cs.all scal1
  | .tup cs => cs.all fun x => match x with
    | .agg ds => ds.all scal1
    | x => scal1 x
  | _ => false
def passed (H : Heap) (d : Nat) (rn : List Nat) : List Nat → Heap → Prop
  | [], [] => True
  | i :: l, some o :: Hc => H[i]? = some (some (renO d rn o)) ∧ passed H d rn l Hc
  | _, _ => False
def renOpt (d : Nat) (rn : List Nat) : Option AObj → Option AObj
  | some o => some (renO d rn o)
  | none => none
def taken (d : Nat) (rn : List Nat) : List Nat → Heap → Heap → Heap
  | [], Hc, H => H ++ Hc.map (renOpt d rn)
  | i :: l, o :: Hc, H => taken d rn l Hc (H.set i (renOpt d rn o))
  | _ :: _, [], H => H
def tabl (from_ : Nat) : Nat → List Nat
  | 0 => []
  | n + 1 => from_ :: tabl (from_ + 1) n
def allD : List Nat → Bool
  | [] => true
  | x :: l => l.all (fun y => !Nat.beq x y) && allD l
def vcFun0 (P : Program) (f : FuncId) (args : List AV) (H : Heap) (K : AV → Heap → Prop) : Prop :=
  (match mapO (conv H) args with
    | some as0 => andL (ok1 H) args ∧ ∃ as_ Post, as_ = as0 ∧ PCall P f as_ Post ∧ ∀ r, Post r → (scal r = true ∧ K r H) ∨ K r (app H (frz H (args.flatMap (ids1 H))))
    | none => False) ∨
  ∃ ids Hc as_ Post, allD ids = true ∧ passed H H.length ids ids Hc ∧ args = renL H.length ids as_ ∧ ACall P f as_ Hc Post ∧
    ∀ r Hc', Post r Hc' → ids.length ≤ Hc'.length ∧ K (renC 0 (ids ++ tabl H.length (Hc'.length - ids.length)) r) (taken 0 (ids ++ tabl H.length (Hc'.length - ids.length)) ids Hc' H)
def vcFun (P : Program) (f : FuncId) (args : List AV) (H : Heap) (K : AV → Heap → Prop) : Prop := ∃ as_, ALeL args as_ ∧ vcFun0 P f as_ H K
def updOf (d : Nat) (rn : List Nat) : List Nat → Heap → Upd
  | i :: l, o :: Hc => (i, renOpt d rn o) :: updOf d rn l Hc
  | _, _ => []
def vcFunD0 (P : Program) (f : FuncId) (args : List AV) (H : Heap) (K : AV → Upd → List Nat → Prop) : Prop :=
  (match mapO (conv H) args with
    | some as0 => andL (ok1 H) args ∧ ∃ as_ r, as_ = as0 ∧ PCall P f as_ (fun x => x = r) ∧ (scal r || (args.flatMap (ids1 H)).isEmpty) = true ∧ K r [] (args.flatMap (rds1 H))
    | none => False) ∨
  ∃ ids Hc as_ r Hc', allD ids = true ∧ passed H H.length ids ids Hc ∧ args = renL H.length ids as_ ∧ ACall P f as_ Hc (fun x Hx => x = r ∧ Hx = Hc') ∧ Hc'.length = ids.length ∧
    K (renC 0 ids r) (updOf 0 ids ids Hc') ids
def vcFunD (P : Program) (f : FuncId) (args : List AV) (H : Heap) (K : AV → Upd → List Nat → Prop) : Prop := ∃ as_, ALeL args as_ ∧ vcFunD0 P f as_ H K
def isAlloc : Op → Bool
  | .alloc _ | .box .. | .buildSlice .. | .makeSlice .. | .makeMap .. | .call { callee := .builtin .append, .. } => true
  | _ => false
def allocs : List Oper → Nat
  | [] => 0
  | o :: l => bif isAlloc o.op then allocs l + 1 else allocs l
def nones {α : Type} : Nat → List (Option α)
  | 0 => []
  | n + 1 => none :: nones n
abbrev Known := List (Nat × Bool)
def kn : Known → Nat → Option Bool
  | [], _ => none
  | (k, b) :: l, s => bif Nat.beq k s then some b else kn l s
def knOut : Known → Nat → (Known → Prop) → Prop
  | [], _, K => K []
  | (k, b) :: l, s, K => match Nat.beq k s with
    | true => knOut l s K
    | false => knOut l s fun l' => K ((k, b) :: l')
def knOf (dc : Known) : Operand → Option Bool
  | .const (.bool b) => some b
  | .tmp t => kn dc t
  | _ => none
def knRes (dc : Known) : Op → Option Bool
  | .move x | .assign x => knOf dc x
  | .pick c a b => match knOf dc c with
    | some true => knOf dc a
    | some false => knOf dc b
    | none => none
  | _ => none
def knPut (dc : Known) (o : Oper) (K : Known → Prop) : Prop :=
  match o.dst with
  | some d => match knRes dc o.op with
    | some true => knOut dc d fun l => K ((d, true) :: l)
    | some false => knOut dc d fun l => K ((d, false) :: l)
    | none => knOut dc d K
  | none => K dc
def knSkip (dc : Known) (o : Oper) (K : Known → Prop) : Prop :=
  match o.dst with
  | some d => knOut dc d K
  | none => K dc
def simpOp (dc : Known) : Op → Op
  | .pick c a b => match knOf dc c with
    | some true => .move a
    | some false => .move b
    | none => .pick c a b
  | op => op
def vcGuard (ops : List Oper) (Γ : Slots) (dc : Known) (g : Option (Nat × Bool)) (run skip : Known → Prop) : Prop :=
  match g with
  | none => run dc
  | some (j, want) => match ops[j]? with
    | some o => match o.dst with
      | some d => match kn dc d with
        | some b => match b, want with
          | true, true => run dc
          | false, false => run dc
          | _, _ => skip dc
        | none => match get Γ d with
          | some (.pv (.val (.bool b))) => match want with
            | true => (b = true → run ((d, true) :: dc)) ∧ (b = false → skip ((d, false) :: dc))
            | false => (b = false → run ((d, false) :: dc)) ∧ (b = true → skip ((d, true) :: dc))
          | some (.pv (.val (.tuple _))) => skip dc
          | _ => False
      | none => False
    | none => False
def vcCall (P : Program) (fv : AV) (args : List AV) (H : Heap) (K : AV → Heap → Prop) : Prop :=
  match fv with
  | .pv (.fn f caps) => vcFun P f (args ++ pvs caps) H K
  | .fn f caps => vcFun P f (args ++ caps) H K
  | _ => False
def vcCallD (P : Program) (fv : AV) (args : List AV) (H : Heap) (K : AV → Upd → List Nat → Prop) : Prop :=
  match fv with
  | .pv (.fn f caps) => vcFunD P f (args ++ pvs caps) H K
  | .fn f caps => vcFunD P f (args ++ caps) H K
  | _ => False
def forceL {α : Type} : List α → (List α → Prop) → Prop
  | [], K => K []
  | x :: l, K => forceL l fun l' => K (x :: l')
def forceH : Heap → (Heap → Prop) → Prop
  | [], K => K []
  | none :: l, K => forceH l fun l' => K (none :: l')
  | some ⟨ty, z, fz, .box cs⟩ :: l, K => forceL cs fun cs' => forceH l fun l' => K (some ⟨ty, z, fz, .box cs'⟩ :: l')
  | some ⟨ty, z, fz, .p xs⟩ :: l, K => forceH l fun l' => K (some ⟨ty, z, fz, .p xs⟩ :: l')
  | some ⟨ty, z, fz, .m xs⟩ :: l, K => forceH l fun l' => K (some ⟨ty, z, fz, .m xs⟩ :: l')
  | some ⟨ty, z, fz, .mp s k es ck⟩ :: l, K => forceH l fun l' => K (some ⟨ty, z, fz, .mp s k es ck⟩ :: l')
def forceV : AV → (AV → Prop) → Prop
  | .agg cs, K => forceL cs fun cs' => K (.agg cs')
  | .tup cs, K => forceL cs fun cs' => K (.tup cs')
  | v, K => K v
def putK (Γ : Slots) (d : Option Tmp) (v : AV) (K : Slots → Prop) : Prop :=
  match d with
  | some t => forceV v fun v' => K ((t, v') :: Γ)
  | none => K Γ
def appK (H : Heap) (u : Upd) (K : Heap → Prop) : Prop :=
  match u with
  | [] => K H
  | p :: u => forceH (app H (p :: u)) K
def vcStep (P : Program) (T : Tab) (site : Nat) (dst : Option Tmp) (op : Op) (Γ : Slots) (H : Heap) (K : Slots → Heap → Prop) : Prop :=
  match op with
  | .call { callee := .value f, args := args, .. } => match ev Γ f, mapO (ev Γ) args.toList with
    | some fv, some vs => vcCall P fv vs H fun r H' => putK Γ dst r fun Γ' => forceH H' fun H2 => K Γ' H2
    | _, _ => False
  | op => vcOp T site op (ev Γ) H fun r u _ => putK Γ dst r fun Γ' => appK H u fun H2 => K Γ' H2
def dstOk (n : Nat) (o : Oper) : Bool :=
  match o.dst with
  | some d => Nat.blt d n
  | none => true
def vcOps (P : Program) (T : Tab) (n : Nat) (all : List Oper) : List Oper → Nat → (Slots → Heap → Prop) → Known → Slots → Heap → Prop
  | [], _, K, _, Γ, H => K Γ H
  | o :: l, site, K, dc, Γ, H => match dstOk n o, isAlloc o.op with
    | true, true => vcGuard all Γ dc o.guard (fun dc' => knPut dc' o fun d2 => vcStep P T site o.dst (simpOp dc' o.op) Γ H (vcOps P T n all l (site + 1) K d2))
        (fun dc' => knSkip dc' o fun d2 => putK Γ o.dst (.pv (.val undef)) fun Γ' => vcOps P T n all l (site + 1) K d2 Γ' H)
    | true, false => vcGuard all Γ dc o.guard (fun dc' => knPut dc' o fun d2 => vcStep P T site o.dst (simpOp dc' o.op) Γ H (vcOps P T n all l site K d2))
        (fun dc' => knSkip dc' o fun d2 => putK Γ o.dst (.pv (.val undef)) fun Γ' => vcOps P T n all l site K d2 Γ' H)
    | _, _ => False
def keysOf : Upd → List Nat
  | [] => []
  | (i, _) :: u => i :: keysOf u
def vcStepD (P : Program) (T : Tab) (site : Nat) (dst : Option Tmp) (op : Op) (Γ : Slots) (H : Heap) (K : Slots → Heap → List Nat × List Nat → Prop) : Prop :=
  match op with
  | .call { callee := .value f, args := args, .. } => match ev Γ f, mapO (ev Γ) args.toList with
    | some fv, some vs => vcCallD P fv vs H fun r u rd => putK Γ dst r fun Γ' => appK H u fun H2 => K Γ' H2 (rd, keysOf u)
    | _, _ => False
  | op => vcOp T site op (ev Γ) H fun r u rd => putK Γ dst r fun Γ' => appK H u fun H2 => K Γ' H2 (rd, keysOf u)
def takeR (n : Nat) (r : Rows) : Rows :=
  match r with
  | .box cs => .box cs
  | .p xs => .p (xs.take n)
  | .m xs => .m (xs.take n)
  | .mp s k es ck => .mp s k es ck
def vcCut (T : Tab) (site : Nat) (op : Op) (ρ : Operand → Option AV) (H : Heap) (K : AV → Upd → List Nat → Prop) : Prop :=
  ∃ id o n, H[id]? = some (some o) ∧ vcOp T site op ρ (H.set id (some { o with rows := takeR n o.rows })) fun r u rd => K r u rd ∧ id ∈ rd ∧ ∃ q, u = (id, none) :: q
def vcStepDX (P : Program) (T : Tab) (site : Nat) (dst : Option Tmp) (op : Op) (Γ : Slots) (H : Heap) (K : Slots → Heap → List Nat × List Nat → Prop) : Prop :=
  vcStepD P T site dst op Γ H K ∨ vcCut T site op (ev Γ) H fun r u rd => putK Γ dst r fun Γ' => appK H u fun H2 => K Γ' H2 (rd, keysOf u)
def vcOpsD (P : Program) (T : Tab) (n : Nat) (all : List Oper) : List Oper → Nat → (List (List Nat × List Nat) → Slots → Heap → Prop) → List (List Nat × List Nat) → Known → Slots → Heap → Prop
  | [], _, K, fs, _, Γ, H => K fs Γ H
  | o :: l, site, K, fs, dc, Γ, H => match dstOk n o, isAlloc o.op with
    | true, true => vcGuard all Γ dc o.guard (fun dc' => knPut dc' o fun d2 => vcStepDX P T site o.dst (simpOp dc' o.op) Γ H fun Γ' H' f => vcOpsD P T n all l (site + 1) K (f :: fs) d2 Γ' H')
        (fun dc' => knSkip dc' o fun d2 => putK Γ o.dst (.pv (.val undef)) fun Γ' => vcOpsD P T n all l (site + 1) K (([], []) :: fs) d2 Γ' H)
    | true, false => vcGuard all Γ dc o.guard (fun dc' => knPut dc' o fun d2 => vcStepDX P T site o.dst (simpOp dc' o.op) Γ H fun Γ' H' f => vcOpsD P T n all l site K (f :: fs) d2 Γ' H')
        (fun dc' => knSkip dc' o fun d2 => putK Γ o.dst (.pv (.val undef)) fun Γ' => vcOpsD P T n all l site K (([], []) :: fs) d2 Γ' H)
    | _, _ => False
def maskOf (o : Oper) (acc : List Nat) : Nat := o.after.toList.foldl (fun s e => bif Region.binds .any e then (s ||| 2 ^ e.on) ||| acc.getD e.on 0 else s) 0
def masks : List Oper → List Nat → List Nat
  | [], acc => acc
  | o :: l, acc => masks l (acc ++ [maskOf o acc])
def disj (xs ys : List Nat) : Bool := xs.all fun x => ys.all fun y => !Nat.beq x y
def pairOk (ops : Array Oper) (ms : List Nat) (fs : List (List Nat × List Nat)) (i j : Nat) : Bool :=
  (ms.getD j 0).testBit i ||
  (match ops[i]?, ops[j]?, fs[i]?, fs[j]? with
    | some x, some y, some f, some g => x.apart ops y && disj f.2 g.1 && disj f.2 g.2 && disj g.2 f.1
    | _, _, _, _ => false)
def drawOk (ops : Array Oper) (fs : List (List Nat × List Nat)) : Bool :=
  (ops.toList.zipIdx.all fun (o, i) => o.after.toList.all fun e => !Region.binds .any e || Nat.blt e.on i) &&
  (List.range ops.size).all fun j => (List.range j).all fun i => pairOk ops (masks ops.toList []) fs i j
def refSlots (d : Nat) (rn : List Nat) (Γ : Slots) : Slots → Prop
  | [] => True
  | (s, x) :: l => get Γ s = some (renC d rn x) ∧ refSlots d rn Γ l
def kept (H : Heap) (d : Nat) (rn : List Nat) : List Nat → Heap → Prop
  | [], [] => True
  | i :: l, some o :: Hc => H[i]? = some (some (renO d rn o)) ∧ kept H d rn l Hc
  | _ :: l, none :: Hc => kept H d rn l Hc
  | _, _ => False
def Ref (nh : Nat) (Γ : Slots) (H : Heap) (T : ASt) : Prop := ∃ rn, allD rn = true ∧ rn.take nh = tabl 0 nh ∧ kept H H.length rn rn T.hp ∧ refSlots H.length rn Γ T.sl
def thenQ (next : Slots → Heap → Prop) (Q : Exit → Slots → Heap → Prop) : Exit → Slots → Heap → Prop
  | .normal, Γ, H => next Γ H
  | e, Γ, H => Q e Γ H
def inBlockQ (id : Nat) (Q : Exit → Slots → Heap → Prop) : Exit → Slots → Heap → Prop
  | .exit id', Γ, H => bif Nat.beq id' id then Q .normal Γ H else Q (.exit id') Γ H
  | e, Γ, H => Q e Γ H
def noGotoQ (Q : Exit → Slots → Heap → Prop) : Exit → Slots → Heap → Prop
  | .goto _, _, _ => False
  | e, Γ, H => Q e Γ H
def lenK {α : Type} : List α → Nat → (Nat → Prop) → Prop
  | [], n, K => K n
  | _ :: l, n, K => lenK l (n + 1) K
def vcRegion (P : Program) (T : Tab) (n : Nat) (ops : Array Oper) (draw : Bool) (K : Slots → Heap → Prop) (Γ : Slots) (H : Heap) : Prop :=
  match draw with
  | false => match allocs ops.toList with
    | 0 => vcOps P T n ops.toList ops.toList 0 K [] Γ H
    | m + 1 => lenK H 0 fun k => forceH (H ++ nones (m + 1)) fun H' => vcOps P T n ops.toList ops.toList k K [] Γ H'
  | true => match allocs ops.toList with
    | 0 => vcOpsD P T n ops.toList ops.toList 0 (fun fs Γ' H' => drawOk ops fs.reverse = true ∧ K Γ' H') [] [] Γ H
    | m + 1 => lenK H 0 fun k => forceH (H ++ nones (m + 1)) fun H1 => vcOpsD P T n ops.toList ops.toList k (fun fs Γ' H' => drawOk ops fs.reverse = true ∧ K Γ' H') [] [] Γ H1
def without (j : Nat) : List Nat → List Nat
  | [] => []
  | k :: l => bif Nat.beq k j then without j l else k :: without j l
def hasN (j : Nat) : List Nat → Bool
  | [] => false
  | k :: l => bif Nat.beq k j then true else hasN j l
def readyIn (ops : Array Oper) (rem : List Nat) (j : Nat) : Bool :=
  match ops[j]? with
  | some o => o.after.toList.all fun e => !Region.binds .any e || (Nat.blt e.on ops.size && !hasN e.on rem)
  | none => false
def eachReady (ops : Array Oper) (rem : List Nat) (F : Nat → Prop) : List Nat → Prop
  | [] => True
  | j :: l => match readyIn ops rem j with
    | true => F j ∧ eachReady ops rem F l
    | false => eachReady ops rem F l
def vcAny (P : Program) (T : Tab) (n : Nat) (ops : Array Oper) : Nat → List Nat → Nat → (Slots → Heap → Prop) → Slots → Heap → Prop
  | _, [], _, K, Γ, H => K Γ H
  | 0, _ :: _, _, _, _, _ => False
  | fuel + 1, rem, site, K, Γ, H => match rem.any (readyIn ops rem) with
    | true => eachReady ops rem (fun j => match ops[j]? with
      | some o => match dstOk n o, isAlloc o.op with
        | true, true => vcGuard ops.toList Γ [] o.guard (fun _ => vcStep P T site o.dst (simpOp [] o.op) Γ H (vcAny P T n ops fuel (without j rem) (site + 1) K))
            (fun _ => putK Γ o.dst (.pv (.val undef)) fun Γ' => vcAny P T n ops fuel (without j rem) (site + 1) K Γ' H)
        | true, false => vcGuard ops.toList Γ [] o.guard (fun _ => vcStep P T site o.dst (simpOp [] o.op) Γ H (vcAny P T n ops fuel (without j rem) site K))
            (fun _ => putK Γ o.dst (.pv (.val undef)) fun Γ' => vcAny P T n ops fuel (without j rem) site K Γ' H)
        | _, _ => False
      | none => False) rem
    | false => False
def vcRegionAny (P : Program) (T : Tab) (n : Nat) (ops : Array Oper) (K : Slots → Heap → Prop) (Γ : Slots) (H : Heap) : Prop :=
  match allocs ops.toList with
  | 0 => vcAny P T n ops ops.size (List.range ops.size) 0 K Γ H
  | m + 1 => lenK H 0 fun k => forceH (H ++ nones (m + 1)) fun H1 => vcAny P T n ops ops.size (List.range ops.size) k K Γ H1
def rounds (F : (Exit → Slots → Heap → Prop) → Slots → Heap → Prop) (Q : Exit → Slots → Heap → Prop) : Nat → Slots → Heap → Prop
  | 0, _, _ => False
  | m + 1, Γ, H => F (thenQ (rounds F Q m) Q) Γ H
def vcRegionAt (P : Program) (T : Tab) (n nh : Nat) (ops : Array Oper) (draw : Bool) (K : Slots → Heap → Prop) (Γ : Slots) (H : Heap) : Prop :=
  ∃ k Γ' H', GhostF n nh k (allocs ops.toList) Γ H Γ' H' ∧ match draw with
    | false => vcOps P T n ops.toList ops.toList k K [] Γ' H'
    | true => vcOpsD P T n ops.toList ops.toList k (fun fs Γ' H' => drawOk ops fs.reverse = true ∧ K Γ' H') [] [] Γ' H' ∨ vcAny P T n ops ops.size (List.range ops.size) k K Γ' H'
def vcCode (P : Program) (T : Tab) (n nh : Nat) : Code → (Exit → Slots → Heap → Prop) → Slots → Heap → Prop
  | .skip, Q, Γ, H => Q .normal Γ H
  | .label _, Q, Γ, H => Q .normal Γ H
  | .region _ ops draw, Q, Γ, H => gh n nh Γ H fun Γ H => vcRegion P T n ops draw (Q .normal) Γ H ∨ (draw = true ∧ vcRegionAny P T n ops (Q .normal) Γ H) ∨ vcRegionAt P T n nh ops draw (Q .normal) Γ H
  | .seq a b, Q, Γ, H => gh n nh Γ H fun Γ H => vcCode P T n nh a (thenQ (vcCode P T n nh b Q) Q) Γ H ∨
      ∃ R : ASt → Prop, vcCode P T n nh a (thenQ (fun Γ' H' => ∃ S, R S ∧ Ghost n nh Γ' H' S.sl S.hp) Q) Γ H ∧ ∀ S, R S → vcCode P T n nh b Q S.sl S.hp
  | .cond c x y, Q, Γ, H => gh n nh Γ H fun Γ H => match ev Γ c with
    | some (.pv (.val (.bool b))) => (b = true → vcCode P T n nh x Q Γ H) ∧ (b = false → vcCode P T n nh y Q Γ H)
    | _ => False
  | .block id c, Q, Γ, H => gh n nh Γ H fun Γ H => vcCode P T n nh c (inBlockQ id Q) Γ H
  | .loop c, Q, Γ, H => gh n nh Γ H fun Γ H => (∃ (X : Type) (J : X → ASt) (cond : X → Prop) (μ : X → Nat), (∃ x, cond x ∧ Ghost n nh Γ H (J x).sl (J x).hp) ∧
      ∀ x, cond x → vcCode P T n nh c (thenQ (fun Γ' H' => ∃ x', cond x' ∧ μ x' < μ x ∧ Ghost n nh Γ' H' (J x').sl (J x').hp) Q) (J x).sl (J x).hp) ∨ ∃ m, rounds (vcCode P T n nh c) Q m Γ H
  | .scope c, Q, Γ, H => gh n nh Γ H fun Γ H => vcCode P T n nh c (noGotoQ Q) Γ H
  | .exit id, Q, Γ, H => Q (.exit id) Γ H
  | .ret, Q, Γ, H => gh n nh Γ H fun Γ H => Q .ret Γ H
  | _, _, _, _ => False
def resOf (T : Tab) (Γ : Slots) (H : Heap) : List ResultVar → Option (List AV)
  | [] => some []
  | .tmp t :: l => match get Γ t, resOf T Γ H l with
    | some v, some vs => some (v :: vs)
    | _, _ => none
  | .cell a t :: l => match get Γ a, look T t, resOf T Γ H l with
    | some (.ptr id z 0 0), some d, some vs => match H[id]? with
      | some (some o) => match Nat.beq o.z z, o.rows with
        | true, .box cs => match Nat.beq cs.length d.size, d.agg, cs with
          | true, true, cs => some (.agg cs :: vs)
          | true, false, [c] => some (c :: vs)
          | _, _, _ => none
        | _, _ => none
      | _ => none
    | _, _, _ => none
def retOk (k : Nat) (r : AV) (H : Heap) (Post : AV → Heap → Prop) : Prop :=
  ∃ rn H', allD rn = true ∧ rn.take k = tabl 0 k ∧ kept H H.length rn rn H' ∧
    ((∃ r', r = renC H.length rn r' ∧ Post r' H') ∨ (match conv H r with
      | some r0 => ok1 H r ∧ ∃ r', r' = r0 ∧ disj (ids1 H r) rn = true ∧ Post r' H'
      | none => False))
def retQ (T : Tab) (k : Nat) (fn : Func) (Post : AV → Heap → Prop) : Exit → Slots → Heap → Prop
  | .normal, Γ, H | .ret, Γ, H => match resOf T Γ H fn.results.toList with
    | some [r] => retOk k r H Post
    | some rs => retOk k (.tup rs) H Post
    | none => False
  | _, _, _ => False
def argSlots : Nat → List AV → Slots
  | _, [] => []
  | i, x :: l => (i, x) :: argSlots (i + 1) l
/-! Copies of the recursions that nobody can unfold (the kernel would run the whole code to compare two of them), and one step of each. -/
theorem ops_ex : ∃ F, F = @vcOps := ⟨_, rfl⟩
theorem opsD_ex : ∃ F, F = @vcOpsD := ⟨_, rfl⟩
theorem code_ex : ∃ F, F = @vcCode := ⟨_, rfl⟩
theorem any_ex : ∃ F, F = @vcAny := ⟨_, rfl⟩
noncomputable def xOps := Classical.choose ops_ex
noncomputable def xOpsD := Classical.choose opsD_ex
noncomputable def xCode := Classical.choose code_ex
theorem xOps_eq : xOps = vcOps := Classical.choose_spec ops_ex
theorem xOpsD_eq : xOpsD = vcOpsD := Classical.choose_spec opsD_ex
noncomputable def xAny := Classical.choose any_ex
theorem xAny_eq : xAny = vcAny := Classical.choose_spec any_ex
theorem xCode_eq : xCode = vcCode := Classical.choose_spec code_ex
attribute [irreducible] xOps xOpsD xCode xAny
def xRegion (P : Program) (T : Tab) (n : Nat) (ops : Array Oper) (draw : Bool) (K : Slots → Heap → Prop) (Γ : Slots) (H : Heap) : Prop :=
  match draw with
  | false => match allocs ops.toList with
    | 0 => xOps P T n ops.toList ops.toList 0 K [] Γ H
    | m + 1 => lenK H 0 fun k => forceH (H ++ nones (m + 1)) fun H' => xOps P T n ops.toList ops.toList k K [] Γ H'
  | true => match allocs ops.toList with
    | 0 => xOpsD P T n ops.toList ops.toList 0 (fun fs Γ' H' => drawOk ops fs.reverse = true ∧ K Γ' H') [] [] Γ H
    | m + 1 => lenK H 0 fun k => forceH (H ++ nones (m + 1)) fun H1 => xOpsD P T n ops.toList ops.toList k (fun fs Γ' H' => drawOk ops fs.reverse = true ∧ K Γ' H') [] [] Γ H1
def xRegionAny (P : Program) (T : Tab) (n : Nat) (ops : Array Oper) (K : Slots → Heap → Prop) (Γ : Slots) (H : Heap) : Prop :=
  match allocs ops.toList with
  | 0 => xAny P T n ops ops.size (List.range ops.size) 0 K Γ H
  | m + 1 => lenK H 0 fun k => forceH (H ++ nones (m + 1)) fun H1 => xAny P T n ops ops.size (List.range ops.size) k K Γ H1
theorem xRegionAny_eq : xRegionAny = vcRegionAny := by
  unfold xRegionAny vcRegionAny
  rw [xAny_eq]
theorem xRegion_eq : xRegion = vcRegion := by
  unfold xRegion vcRegion
  rw [xOps_eq, xOpsD_eq]
theorem knOut_mono1 : ∀ (dc : Known) {d : Nat} (A B : Known → Prop), (∀ d2, A d2 → B d2) → knOut dc d A → knOut dc d B
  | [], d, A, B, hab, ha => hab _ ha
  | (k, bb) :: dc, d, A, B, hab, ha => by
    simp only [knOut] at ha ⊢
    split
    · rename_i hk; rw [hk] at ha; exact knOut_mono1 dc A B hab ha
    · rename_i hk; rw [hk] at ha; exact knOut_mono1 dc _ _ (fun d2 h2 => hab _ h2) ha
theorem knPut_mono {dc : Known} {o : Oper} {A B : Known → Prop} (hab : ∀ d2, A d2 → B d2) (h : knPut dc o A) : knPut dc o B := by
  unfold knPut at *
  split at h
  · split at h
    · exact knOut_mono1 _ _ _ (fun d2 h2 => hab _ h2) h
    · exact knOut_mono1 _ _ _ (fun d2 h2 => hab _ h2) h
    · exact knOut_mono1 _ _ _ hab h
  · exact hab _ h
theorem vcGuard_mono {ops : List Oper} {Γ : Slots} {dc : Known} {g : Option (Nat × Bool)} {run run' skip skip' : Known → Prop} (h1 : ∀ d, run d → run' d) (h2 : ∀ d, skip d → skip' d) (h : vcGuard ops Γ dc g run skip) : vcGuard ops Γ dc g run' skip' := by
  unfold vcGuard at *
  repeat' split at h
  all_goals first
    | exact h1 _ h
    | exact h2 _ h
    | exact ⟨fun e => h1 _ (h.1 e), fun e => h2 _ (h.2 e)⟩
    | exact h.elim
section
variable {P : Program} {T : Tab} {n : Nat} {all l : List Oper} {o : Oper} {site : Nat} {K : Slots → Heap → Prop} {dc : Known} {Γ : Slots} {H : Heap}
  {KD : List (List Nat × List Nat) → Slots → Heap → Prop} {fs : List (List Nat × List Nat)} {Q : Exit → Slots → Heap → Prop} {a b : Code} {c : Operand} {id nh : Nat} {ops : Array Oper} {draw : Bool}
theorem ops_nil (h : K Γ H) : xOps P T n all [] site K dc Γ H := by rw [xOps_eq] at *; exact h
theorem ops_cons (h : match dstOk n o, isAlloc o.op with
    | true, true => vcGuard all Γ dc o.guard (fun dc' => knPut dc' o fun d2 => vcStep P T site o.dst (simpOp dc' o.op) Γ H (xOps P T n all l (site + 1) K d2))
        (fun dc' => knSkip dc' o fun d2 => putK Γ o.dst (.pv (.val undef)) fun Γ' => xOps P T n all l (site + 1) K d2 Γ' H)
    | true, false => vcGuard all Γ dc o.guard (fun dc' => knPut dc' o fun d2 => vcStep P T site o.dst (simpOp dc' o.op) Γ H (xOps P T n all l site K d2))
        (fun dc' => knSkip dc' o fun d2 => putK Γ o.dst (.pv (.val undef)) fun Γ' => xOps P T n all l site K d2 Γ' H)
    | _, _ => False) : xOps P T n all (o :: l) site K dc Γ H := by rw [xOps_eq] at *; exact h
theorem opsD_nil (h : KD fs Γ H) : xOpsD P T n all [] site KD fs dc Γ H := by rw [xOpsD_eq] at *; exact h
theorem opsD_cons (h : match dstOk n o, isAlloc o.op with
    | true, true => vcGuard all Γ dc o.guard (fun dc' => knPut dc' o fun d2 => vcStepD P T site o.dst (simpOp dc' o.op) Γ H fun Γ' H' f => xOpsD P T n all l (site + 1) KD (f :: fs) d2 Γ' H')
        (fun dc' => knSkip dc' o fun d2 => putK Γ o.dst (.pv (.val undef)) fun Γ' => xOpsD P T n all l (site + 1) KD (([], []) :: fs) d2 Γ' H)
    | true, false => vcGuard all Γ dc o.guard (fun dc' => knPut dc' o fun d2 => vcStepD P T site o.dst (simpOp dc' o.op) Γ H fun Γ' H' f => xOpsD P T n all l site KD (f :: fs) d2 Γ' H')
        (fun dc' => knSkip dc' o fun d2 => putK Γ o.dst (.pv (.val undef)) fun Γ' => xOpsD P T n all l site KD (([], []) :: fs) d2 Γ' H)
    | _, _ => False) : xOpsD P T n all (o :: l) site KD fs dc Γ H := by
  rw [xOpsD_eq] at *
  simp only [vcOpsD]
  split at h
  · exact vcGuard_mono (fun dc' => knPut_mono fun d2 => .inl) (fun _ h => h) h
  · exact vcGuard_mono (fun dc' => knPut_mono fun d2 => .inl) (fun _ h => h) h
  · exact h.elim
theorem code_skip (h : Q .normal Γ H) : xCode P T n nh .skip Q Γ H := by rw [xCode_eq] at *; exact h
theorem code_region (h : xRegion P T n ops draw (Q .normal) Γ H) : xCode P T n nh (.region id ops draw) Q Γ H := by rw [xRegion_eq] at h; rw [xCode_eq]; exact gh.same (.inl h)
theorem code_region_any (h : xRegionAny P T n ops (Q .normal) Γ H) : xCode P T n nh (.region id ops true) Q Γ H := by rw [xRegionAny_eq] at h; rw [xCode_eq]; exact gh.same (.inr (.inl ⟨rfl, h⟩))
theorem any_nil {fuel : Nat} (h : K Γ H) : xAny P T n ops fuel [] site K Γ H := by rw [xAny_eq]; cases fuel <;> exact h
theorem any_step {fuel j : Nat} {rem0 : List Nat} (h : match (j :: rem0).any (readyIn ops (j :: rem0)) with
    | true => eachReady ops (j :: rem0) (fun j' => match ops[j']? with
      | some o => match dstOk n o, isAlloc o.op with
        | true, true => vcGuard ops.toList Γ [] o.guard (fun _ => vcStep P T site o.dst (simpOp [] o.op) Γ H (xAny P T n ops fuel (without j' (j :: rem0)) (site + 1) K))
            (fun _ => putK Γ o.dst (.pv (.val undef)) fun Γ' => xAny P T n ops fuel (without j' (j :: rem0)) (site + 1) K Γ' H)
        | true, false => vcGuard ops.toList Γ [] o.guard (fun _ => vcStep P T site o.dst (simpOp [] o.op) Γ H (xAny P T n ops fuel (without j' (j :: rem0)) site K))
            (fun _ => putK Γ o.dst (.pv (.val undef)) fun Γ' => xAny P T n ops fuel (without j' (j :: rem0)) site K Γ' H)
        | _, _ => False
      | none => False) (j :: rem0)
    | false => False) : xAny P T n ops (fuel + 1) (j :: rem0) site K Γ H := by rw [xAny_eq] at *; exact h
theorem code_seq (h : xCode P T n nh a (thenQ (xCode P T n nh b Q) Q) Γ H) : xCode P T n nh (.seq a b) Q Γ H := by rw [xCode_eq] at *; exact gh.same (.inl h)
theorem code_cond (h : match ev Γ c with
    | some (.pv (.val (.bool t))) => (t = true → xCode P T n nh a Q Γ H) ∧ (t = false → xCode P T n nh b Q Γ H)
    | _ => False) : xCode P T n nh (.cond c a b) Q Γ H := by rw [xCode_eq] at *; exact gh.same h
theorem code_block (h : xCode P T n nh a (inBlockQ id Q) Γ H) : xCode P T n nh (.block id a) Q Γ H := by rw [xCode_eq] at *; exact gh.same h
theorem code_scope (h : xCode P T n nh a (noGotoQ Q) Γ H) : xCode P T n nh (.scope a) Q Γ H := by rw [xCode_eq] at *; exact gh.same h
theorem code_exit (h : Q (.exit id) Γ H) : xCode P T n nh (.exit id) Q Γ H := by rw [xCode_eq] at *; exact h
theorem code_ret (h : Q .ret Γ H) : xCode P T n nh .ret Q Γ H := by rw [xCode_eq] at *; exact gh.same h
theorem code_loop {X : Type} (J : X → ASt) (cond : X → Prop) (μ : X → Nat) (h0 : ∃ x, cond x ∧ Ghost n nh Γ H (J x).sl (J x).hp)
    (h : ∀ x, cond x → xCode P T n nh a (thenQ (fun Γ' H' => ∃ x', cond x' ∧ μ x' < μ x ∧ Ghost n nh Γ' H' (J x').sl (J x').hp) Q) (J x).sl (J x).hp) : xCode P T n nh (.loop a) Q Γ H := by rw [xCode_eq] at *; exact gh.same (.inl ⟨X, J, cond, μ, h0, h⟩)
theorem code_join (R : ASt → Prop) (h : xCode P T n nh a (thenQ (fun Γ' H' => ∃ S, R S ∧ Ghost n nh Γ' H' S.sl S.hp) Q) Γ H) (k : ∀ S, R S → xCode P T n nh b Q S.sl S.hp) : xCode P T n nh (.seq a b) Q Γ H := by rw [xCode_eq] at *; exact gh.same (.inr ⟨R, h, k⟩)
end
end Go.Cw
/-
  Cw, part D: laws of the relations between abstract and real values.
-/
namespace Go.Cw
set_option linter.unusedVariables false
theorem add_block (a : Addr) (n : Nat) : (a.add n).block = a.block := by unfold Addr.add; split <;> rfl
theorem PRel.mono {I I' : Nat → Prop} {w w' : World} {p : PV} {v : Value} (h : PRel I w p v) (hk : ∀ b, I b → w'.heap[b]? = w.heap[b]? ∧ I' b) : PRel I' w' p v := by
  induction h with
  | val v => exact .val v
  | sl u hc h1 h2 ih =>
    refine .sl u hc (fun i r hr => ?_) (fun i r j p hr hp => ih i r j p hr hp)
    obtain ⟨hl, a, rfl, hI, hcc⟩ := h1 i r hr
    exact ⟨hl, a, rfl, (hk _ hI).2, fun j hj => ⟨(World.cell?_of_block (by rw [add_block]; exact (hk _ hI).1)).trans (hcc j hj).1, (hcc j hj).2⟩⟩
  | ia u h0 h1 h2 ih =>
    refine .ia u (hk _ h0).2 (fun j hj => ?_) ih
    exact ⟨(World.cell?_of_block (by rw [add_block]; exact (hk _ h0).1)).trans (h1 j hj).1, (h1 j hj).2⟩
  | fn hl h ih => exact .fn hl ih
theorem Gl.mono {I I' : Nat → Prop} {w w' : World} (h : Gl I w) (hk : ∀ b, I b → w'.heap[b]? = w.heap[b]? ∧ I' b) : Gl I' w' := fun e he => (h e he).mono hk
theorem lookV_mem : ∀ {l : List (Nat × List PV)} {g : Nat} {x : AV}, lookV l g = some x → ∃ cs, (g, cs) ∈ l ∧ x = .pv (.ia cs)
  | [], _, _, h => by simp [lookV] at h
  | (k, cs) :: l, g, x, h => by
    simp only [lookV] at h
    cases hk : Nat.beq k g
    · rw [hk] at h
      obtain ⟨c, h1, h2⟩ := lookV_mem h
      exact ⟨c, List.mem_cons_of_mem _ h1, h2⟩
    · rw [hk] at h
      have : k = g := Nat.eq_of_beq_eq_true hk
      subst this
      simp only [cond_true, Option.some.injEq] at h
      exact ⟨cs, by simp, h.symm⟩
theorem ARel.mono {I I' : Nat → Prop} {β β' : Beta} {w w' : World} {x : AV} {v : Value} (h : ARel I β w x v)
    (hk : ∀ b, I b → w'.heap[b]? = w.heap[b]? ∧ I' b) (hb : ∀ (i : Nat) b, β[i]? = some (some b) → β'[i]? = some (some b))
    (hs : ∀ b t n, w.shape? b = some (t, n) → w'.shape? b = some (t, n)) : ARel I' β' w' x v := by
  induction h with
  | pv h => exact .pv (h.mono hk)
  | agg hl h ih => exact .agg hl ih
  | ms h1 h2 h3 h4 h5 => obtain ⟨t, ht⟩ := h5; exact .ms (hb _ _ h1) h2 h3 h4 ⟨t, hs _ _ _ ht⟩
  | ptr h1 => exact .ptr (hb _ _ h1)
  | mp h1 => exact .mp (hb _ _ h1)
  | fn hl h ih => exact .fn hl ih
  | tup hl h ih => exact .tup hl ih
  | clip h => exact .clip (h.mono hk)
  | dead v => exact .dead v
theorem Evo.mono {I I' : Nat → Prop} {β β' : Beta} {w w' : World} {x : AV} {v : Value} (h : Evo I β w I' β' w') (hx : ARel I β w x v) : ARel I' β' w' x v :=
  hx.mono h.keepI h.pre h.shape
theorem Evo.refl (I : Nat → Prop) (β : Beta) (w : World) : Evo I β w I β w :=
  ⟨rfl, rfl, rfl, Nat.le_refl _, fun _ _ h => h, fun i b h => .inr ⟨i, b, h, rfl⟩, fun _ _ _ => rfl, fun _ h => ⟨rfl, h⟩, fun _ _ h => .inl h, fun _ _ _ h => h, Nat.le_refl _⟩
theorem Evo.trans {I I1 I2 : Nat → Prop} {β β1 β2 : Beta} {w w1 w2 : World} (h : Evo I β w I1 β1 w1) (k : Evo I1 β1 w1 I2 β2 w2) : Evo I β w I2 β2 w2 where
  os := k.os.trans h.os
  tape := k.tape.trans h.tape
  output := k.output.trans h.output
  size := Nat.le_trans h.size k.size
  pre := fun i b hb => k.pre i b (h.pre i b hb)
  fresh := fun i b hb => by
    rcases k.fresh i b hb with h1 | ⟨j, c, hj, hc⟩
    · exact .inl (Nat.le_trans h.size h1)
    · rw [← hc]; exact h.fresh j c hj
  keep := fun b hb hn => by
    refine (k.keep b (Nat.lt_of_lt_of_le hb h.size) (fun i c hi hc => ?_)).trans (h.keep b hb hn)
    rcases h.fresh i c hi with h1 | ⟨j, c', hj, hc'⟩
    · omega
    · exact hn j c' hj (hc'.trans hc)
  keepI := fun b hb => ⟨((k.keepI b (h.keepI b hb).2).1).trans (h.keepI b hb).1, (k.keepI b (h.keepI b hb).2).2⟩
  old := fun b hb hI => by
    rcases k.old b (Nat.lt_of_lt_of_le hb h.size) hI with h1 | ⟨i, hi⟩
    · exact h.old b hb h1
    · obtain ⟨c, hi, hc⟩ := hi
      rcases h.fresh i c hi with h2 | ⟨j, c', hj, hc'⟩
      · omega
      · exact .inr ⟨j, c', hj, hc'.trans hc⟩
  shape := fun b t n hs => k.shape b t n (h.shape b t n hs)
  drawn := Nat.le_trans h.drawn k.drawn
theorem Evo.drew (I : Nat → Prop) (β : Beta) (w : World) : Evo I β w I β w.drew :=
  ⟨rfl, rfl, rfl, Nat.le_refl _, fun _ _ h => h, fun i b h => .inr ⟨i, b, h, rfl⟩, fun _ _ _ => rfl, fun _ h => ⟨rfl, h⟩, fun _ _ h => .inl h, fun _ _ _ h => h, Nat.le_succ _⟩
theorem OSim.mono {I I' : Nat → Prop} {β β' : Beta} {w w' : World} {b : Nat × Nat} {o : AObj} (h : OSim I β w b o) (hk : ∀ b, I b → w'.heap[b]? = w.heap[b]? ∧ I' b)
    (hb : ∀ (i : Nat) b, β[i]? = some (some b) → β'[i]? = some (some b)) (hs : ∀ b t n, w.shape? b = some (t, n) → w'.shape? b = some (t, n))
    (hw : w'.heap[b.1]? = w.heap[b.1]?) (hI : I' b.1 → I b.1) : OSim I' β' w' b o := by
  obtain ⟨h1, h2, c, h3, h4⟩ := h
  refine ⟨h1, ⟨fun e => (hk _ (h2.1 e)).2, fun e => h2.2 (hI e)⟩, c, hw.trans h3, fun i j x hx => ?_⟩
  obtain ⟨v, hv, ho, hr⟩ := h4 i j x hx
  exact ⟨v, hv, ho, hr.mono hk hb hs⟩
theorem HSim.drew {I : Nat → Prop} {β : Beta} {H : Heap} {w : World} (h : HSim I β H w) : HSim I β H w.drew :=
  ⟨h.len, fun i o ho => by
    obtain ⟨b, hb, hos⟩ := h.obj i o ho
    exact ⟨b, hb, hos.mono (fun _ h => ⟨rfl, h⟩) (fun _ _ h => h) (fun _ _ _ h => h) rfl (fun h => h)⟩, h.inj, ⟨h.imm.lt, h.imm.gl.mono fun b hb => ⟨rfl, hb⟩⟩, h.lt⟩
theorem shape_of_heap {w : World} {b : Nat} {c : Array Value} {t : TypeId} {fr : Nat × Nat} (h : w.heap[b]? = some (.cells c t fr)) : w.shape? b = some (t, c.size) := by
  simp [World.shape?, h]
theorem get_cons (Γ : Slots) (d s : Nat) (v : AV) : get ((d, v) :: Γ) s = if d = s then some v else get Γ s := by
  simp only [get]
  cases h : Nat.beq d s
  · have : d ≠ s := fun e => by subst e; simp at h
    simp [this]
  · have : d = s := Nat.eq_of_beq_eq_true h
    simp [this]
theorem forceL_eq {α : Type} : ∀ (l : List α) (K : List α → Prop), forceL l K = K l
  | [], _ => rfl
  | x :: l, K => by simp only [forceL]; rw [forceL_eq l]
theorem forceH_eq : ∀ (H : Heap) (K : Heap → Prop), forceH H K = K H
  | [], _ => rfl
  | none :: l, K => by simp only [forceH]; rw [forceH_eq l]
  | some ⟨ty, z, fz, .box cs⟩ :: l, K => by simp only [forceH]; rw [forceL_eq, forceH_eq l]
  | some ⟨ty, z, fz, .p xs⟩ :: l, K => by simp only [forceH]; rw [forceH_eq l]
  | some ⟨ty, z, fz, .m xs⟩ :: l, K => by simp only [forceH]; rw [forceH_eq l]
  | some ⟨ty, z, fz, .mp s k es ck⟩ :: l, K => by simp only [forceH]; rw [forceH_eq l]
def isMp : Rows → Bool
  | .mp .. => true
  | _ => false
theorem memOf_cells {r : Rows} (h : isMp r = false) (c : Array Value) (t : TypeId) : memOf r c t = .cells c t (0, 0) := by cases r <;> first | rfl | cases h
theorem forceV_eq (v : AV) (K : AV → Prop) : forceV v K = K v := by
  cases v <;> simp only [forceV] <;> rw [forceL_eq]
theorem putK_eq (Γ : Slots) (d : Option Tmp) (v : AV) (K : Slots → Prop) : putK Γ d v K = K (put Γ d v) := by
  cases d <;> simp only [putK, put]
  rw [forceV_eq]
theorem appK_eq (H : Heap) (u : Upd) (K : Heap → Prop) : appK H u K = K (app H u) := by
  cases u <;> simp only [appK]
  · rfl
  · rw [forceH_eq]
theorem lenK_eq {α : Type} : ∀ (l : List α) (n : Nat) (K : Nat → Prop), lenK l n K = K (n + l.length)
  | [], n, K => by simp [lenK]
  | x :: l, n, K => by simp only [lenK]; rw [lenK_eq l]; congr 1; simp; omega
theorem tyOf_spec {P : Program} {t : TypeId} {size bytes : Nat} {agg : Bool} {tk : TK} {zero : List PV} (h : tyOf P t = some ⟨size, bytes, agg, tk, zero⟩) :
    ∃ i u z, P.info? t = some i ∧ P.underlying t = some u ∧ i.zero = some z ∧ z.cells.size = i.size ∧ i.size = size ∧ i.bytes = bytes ∧
      agg = isAggD u ∧ tk = tkOf u ∧ zero = z.cells.toList.map .val := by
  unfold tyOf at h
  split at h
  · rename_i i u hi hu
    split at h
    · rename_i z hz
      split at h
      · rename_i hs
        injection h with h
        injection h with h1 h2 h3 h4 h5
        exact ⟨i, u, z, hi, hu, hz, hs.1, h1, h2, h3.symm, h4.symm, h5.symm⟩
      · cases h
    · cases h
  · cases h
theorem tyOf_zero {P : Program} {t : TypeId} {size bytes : Nat} {tk : TK} {zero : List PV} (h : tyOf P t = some ⟨size, bytes, false, tk, zero⟩) {i : TypeInfo} {z : Value} (hi : P.info? t = some i) (hz : i.zero = some z) : z.cells = #[z] := by
  unfold tyOf at h
  split at h
  · rename_i i' u hi' hu
    rw [hi] at hi'; injection hi' with hi'; subst hi'
    rw [hz] at h
    split at h
    · rename_i z' hz'
      injection hz' with hz'; subst hz'
      split at h
      · rename_i hs
        injection h with h
        injection h with h1 h2 h3 h4 h5
        have := hs.2
        rw [h3] at this
        cases z <;> first | rfl | cases this
      · cases h
    · cases h
  · cases h
theorem pvs_get {l : List PV} {j : Nat} {c : AV} : (pvs l)[j]? = some c ↔ ∃ p, l[j]? = some p ∧ c = .pv p := by
  induction l generalizing j with
  | nil => simp [pvs]
  | cons p l ih => cases j <;> simp [pvs, ih, eq_comm]
theorem pvs_length (l : List PV) : (pvs l).length = l.length := by induction l <;> simp [pvs, *]
theorem pvs_map (l : List PV) : pvs l = l.map .pv := by induction l <;> simp [pvs, *]
end Go.Cw
/-
  Cw, part E: an operation that leaves memory alone does what 'vcOp' says.
-/
namespace Go.Cw
set_option linter.unusedVariables false
section
variable {P : Program} {T : Tab} {I : Nat → Prop} {β : Beta} {w : World}
theorem val_inv {u v : Value} (h : ARel I β w (.pv (.val u)) v) : v = u := by
  cases h with
  | pv h => cases h; rfl
theorem int_inv {k : IntKind} {n : Int} {v : Value} (h : ARel I β w (.pv (.val (.int k n))) v) : v = .int k n := val_inv h
theorem rel_val (u : Value) : ARel I β w (.pv (.val u)) u := .pv (.val u)
theorem rel_int (k : IntKind) (n : Int) : ARel I β w (vint k n) (.int k n) := .pv (.val _)
theorem rel_bool (b : Bool) : ARel I β w (vbool b) (.bool b) := .pv (.val _)
theorem evc_sound (v : Value) : ARel I β w (evc v) v := by
  unfold evc
  split
  · rename_i cs
    refine .agg (by simp) (fun j c hc => ?_)
    simp only [List.getElem?_map, Option.map_eq_some_iff] at hc
    obtain ⟨u, hu, rfl⟩ := hc
    have hj : j < cs.size := by
      have := (List.getElem?_eq_some_iff.1 hu).1; simpa using this
    have : cs.getD j undef = u := by
      have := (List.getElem?_eq_some_iff.1 hu).2
      simp at this
      simp [hj, this]
    rw [this]; exact rel_val u
  · rename_i f first caps
    split
    · rename_i h1 h2
      have e1 : first = #[] := by simpa using h1
      have e2 : caps = #[] := by simpa using h2
      subst e1; subst e2
      exact .pv (.fn rfl (fun j p hp => by simp at hp))
    · exact .dead _
  · exact rel_val v
def evF (g : Nat → Option AV) : Operand → Option AV
  | .tmp t => g t
  | .const v => some (evc v)
  | .func f => some (.pv (.fn f []))
  | .global g => lookV VT g
theorem ev_eq (Γ : Slots) : ev Γ = evF (get Γ) := by funext x; cases x <;> rfl
theorem evF_sound (hG : Gl I w) {g : Nat → Option AV} {a : Act} (h : ∀ s x, g s = some x → ARel I β w x (a.tmps.getD s undef)) {x : Operand} {v : AV} (hx : evF g x = some v) : ARel I β w v (a.eval x) := by
  cases x with
  | tmp t => exact h t v hx
  | const c => simp only [evF, Option.some.injEq] at hx; subst hx; exact evc_sound c
  | func f => simp only [evF, Option.some.injEq] at hx; subst hx; exact .pv (.fn rfl (fun j p hp => by simp at hp))
  | global g =>
    obtain ⟨cs, h1, rfl⟩ := lookV_mem (show lookV VT g = some v from hx)
    exact .pv (hG _ h1)
def Yields (P : Program) (I : Nat → Prop) (β : Beta) (w : World) (x : Sem Value) (r : AV) : Prop := ∃ v, x.run P w = .ok v w ∧ ARel I β w r v
theorem ixEq_eq {j k : IntKind} (h : ixEq j k = true) : j = k := by cases j <;> cases k <;> first | rfl | simp [ixEq] at h
theorem intBin_sound {op : BinOp} {k : IntKind} {x y : Int} {K : AV → Prop} (t : TypeId) (hop : op ≠ .shl ∧ op ≠ .shr) (h : intBin op k x y K) :
    ∃ r, K r ∧ Yields P I β w (binOp op t (.int k x) (.int k y)) r := by
  cases op <;> simp only [intBin, eqv_eq] at h
  case quo => exact ⟨_, h.2, _, by simp [binOp, Op.intDiv, h.1], rel_int _ _⟩
  case rem => exact ⟨_, h.2, _, by simp [binOp, Op.intDiv, h.1], rel_int _ _⟩
  case add => exact ⟨_, h, _, by simp [binOp, Op.intArith], rel_int _ _⟩
  case sub => exact ⟨_, h, _, by simp [binOp, Op.intArith], rel_int _ _⟩
  case mul => exact ⟨_, h, _, by simp [binOp, Op.intArith], rel_int _ _⟩
  case and => exact ⟨_, h, _, by simp [binOp]; rfl, rel_int _ _⟩
  case or => exact ⟨_, h, _, by simp [binOp]; rfl, rel_int _ _⟩
  case xor => exact ⟨_, h, _, by simp [binOp]; rfl, rel_int _ _⟩
  case andNot => exact ⟨_, h, _, by simp [binOp]; rfl, rel_int _ _⟩
  all_goals exact ⟨_, h, _, by simp [binOp, Op.intCmp], rel_bool _⟩
theorem strBin_sound {op : BinOp} {x y : ByteArray} {K : AV → Prop} (t : TypeId) (h : strBin op x y K) :
    ∃ r, K r ∧ Yields P I β w (binOp op t (.string x) (.string y)) r := by
  cases op <;> simp only [strBin] at h
  case add =>
    refine ⟨_, h.2, _, ?_, rel_val _⟩
    have hb : ¬ (((x.size + y.size : Nat) : Int) > IntKind.i64.max) := by simp; omega
    simp only [binOp, Op.stringOp, if_neg hb, Sem.run_pure]
  all_goals first
    | exact h.elim
    | exact ⟨_, h, _, by simp only [binOp, Op.stringOp, Sem.run_pure, ByteArray.toList_eq, sLe, sEq, sLt, bts], rel_bool _⟩
theorem tkOf_bool {u : TypeDesc} (h : TK.bool = tkOf u) : u = .bool := by cases u <;> simp [tkOf] at h; rfl
theorem tkOf_slice {u : TypeDesc} {e : TypeId} (h : TK.slice e = tkOf u) : u = .slice e := by cases u <;> simp [tkOf] at h; subst h; rfl
theorem tkOf_str {u : TypeDesc} (h : TK.str = tkOf u) : u = .string := by cases u <;> simp [tkOf] at h; rfl
theorem tkOf_struct {u : TypeDesc} {fs : List (Nat × TypeId)} (h : TK.struct fs = tkOf u) : ∃ Fs, u = .struct Fs ∧ fs = Fs.toList.map fun f => (f.offset, f.type) := by
  cases u <;> simp [tkOf] at h
  exact ⟨_, rfl, h⟩
theorem tkOf_array {u : TypeDesc} {n : Nat} {e : TypeId} (h : TK.array n e = tkOf u) : u = .array n e := by cases u <;> simp [tkOf] at h; obtain ⟨rfl, rfl⟩ := h; rfl
theorem sl_inv {z : Nat} {xs : List (List PV)} {v : Value} (h : ARel I β w (.pv (.sl z xs)) v) : ∃ ad cap, v = .slice ad xs.length cap ∧ xs.length ≤ cap ∧
    (∃ u : Nat → Nat → Value, (∀ i r, xs[i]? = some r → r.length = z ∧ ∃ a, ad = some a ∧ I a.block ∧ ∀ j, j < z → w.cell? (a.add (i * z + j)) = some (u i j) ∧ (u i j).oneCell' = true) ∧
      ∀ i r j p, xs[i]? = some r → r[j]? = some p → PRel I w p (u i j)) := by
  cases h with
  | pv h => cases h with
    | sl u hc h1 h2 => exact ⟨_, _, rfl, hc, u, h1, h2⟩
theorem sl_some {z : Nat} {xs : List (List PV)} {ad : Option Addr} {n cap : Nat} (h : ARel I β w (.pv (.sl z xs)) (.slice ad n cap)) (hx : xs ≠ []) : ad.isNone = false := by
  obtain ⟨ad', cap', hv, _, u, h1, _⟩ := sl_inv h
  injection hv with e1 e2 e3
  subst e1
  cases xs with
  | nil => exact absurd rfl hx
  | cons r l =>
    obtain ⟨_, a, rfl, _⟩ := h1 0 r rfl
    rfl
theorem run_eq_bool {t : TypeId} (a b : Bool) (hu : P.underlying t = some .bool) : (Op.equal t (.bool a) (.bool b)).run P w = .ok (a == b) w := by
  have h : ∀ d : Nat, (Op.equalIn (d + 1) t (.bool a) (.bool b)).run P w = .ok (a == b) w := fun d => by simp [Op.equalIn, run_underlying hu]
  simp only [Op.equal, Op.maxDepth]
  exact h 9999
theorem eqBin_sound {op : BinOp} {tk : TK} {x y : AV} {vx vy : Value} {K : AV → Prop} {t : TypeId} {u : TypeDesc} (hu : P.underlying t = some u) (htk : tk = tkOf u)
    (hx : ARel I β w x vx) (hy : ARel I β w y vy) (xo yo : Operand) (h : eqBin op tk x y K) :
    ∃ r, K r ∧ Yields P I β w (do eqGuard op t xo yo vx vy; binOp op t vx vy) r := by
  unfold eqBin at h
  split at h
  · obtain rfl := val_inv hx; obtain rfl := val_inv hy; obtain rfl := tkOf_bool htk
    exact ⟨_, h, _, by simp only [eqGuard_at_bool, binOp, Sem.run_bind, Sem.run_pure, Result.andThen_ok, run_eq_bool _ _ hu], rel_bool _⟩
  · obtain rfl := val_inv hx; obtain rfl := val_inv hy; obtain rfl := tkOf_bool htk
    exact ⟨_, h, _, by simp only [eqGuard_at_bool, binOp, Sem.run_bind, Sem.run_pure, Result.andThen_ok, run_eq_bool _ _ hu], rel_bool _⟩
  · obtain rfl := val_inv hx; obtain rfl := val_inv hy; obtain rfl := tkOf_slice htk
    exact ⟨_, h, _, by simp only [eqGuard_at_slice, Sem.run_bind, Sem.run_pure, Result.andThen_ok]; exact Lib.run_eql_slice_nil w t _ none 0 0 0 0 hu, rel_bool _⟩
  · obtain rfl := val_inv hx; obtain rfl := val_inv hy; obtain rfl := tkOf_slice htk
    exact ⟨_, h, _, by simp only [eqGuard_at_slice, Sem.run_bind, Sem.run_pure, Result.andThen_ok]; exact run_neq_slice_nil_any w t _ none 0 0 0 0 hu, rel_bool _⟩
  · obtain ⟨ad, cap, rfl, _⟩ := sl_inv hx; obtain rfl := val_inv hy; obtain rfl := tkOf_slice htk
    have hn := sl_some hx h.1
    exact ⟨_, h.2, _, by simp only [eqGuard_at_slice, Sem.run_bind, Sem.run_pure, Result.andThen_ok]; rw [Lib.run_eql_slice_nil w t _ ad _ cap 0 0 hu, hn], rel_bool _⟩
  · obtain ⟨ad, cap, rfl, _⟩ := sl_inv hx; obtain rfl := val_inv hy; obtain rfl := tkOf_slice htk
    have hn := sl_some hx h.1
    exact ⟨_, h.2, _, by simp only [eqGuard_at_slice, Sem.run_bind, Sem.run_pure, Result.andThen_ok]; rw [run_neq_slice_nil_any w t _ ad _ cap 0 0 hu, hn]; rfl, rel_bool _⟩
  · obtain rfl := val_inv hy; obtain rfl := tkOf_slice htk
    cases hx with
    | ms _ _ _ _ _ => exact ⟨_, h, _, by simp only [eqGuard_at_slice, Sem.run_bind, Sem.run_pure, Result.andThen_ok]; exact Lib.run_eql_slice_nil w t _ _ _ _ 0 0 hu, rel_bool _⟩
  · obtain rfl := val_inv hy; obtain rfl := tkOf_slice htk
    cases hx with
    | ms _ _ _ _ _ => exact ⟨_, h, _, by simp only [eqGuard_at_slice, Sem.run_bind, Sem.run_pure, Result.andThen_ok]; exact run_neq_slice_nil_any w t _ _ _ _ 0 0 hu, rel_bool _⟩
  · exact h.elim
theorem look_spec (hT : TabOk P T) {t : TypeId} {size bytes : Nat} {agg : Bool} {tk : TK} {zero : List PV} (h : look T t = some ⟨size, bytes, agg, tk, zero⟩) :
    ∃ i u z, P.info? t = some i ∧ P.underlying t = some u ∧ i.zero = some z ∧ z.cells.size = i.size ∧ i.size = size ∧ i.bytes = bytes ∧
      agg = isAggD u ∧ tk = tkOf u ∧ zero = z.cells.toList.map .val := tyOf_spec (hT.1 _ _ h)
theorem eqOk_spec {t : TypeId} (h : eqOk P t = true) : P.underlying t = some (.struct (P.fieldsOf t)) ∧ P.stoodInHeld t = false ∧ P.eqGuardType P.depth t = false ∧ ∀ f ∈ (P.fieldsOf t).toList, f.name ≠ "_" := by
  unfold eqOk at h
  split at h
  · rename_i fs hu
    have hf : P.fieldsOf t = fs := by unfold Program.fieldsOf; rw [hu]
    simp only [Bool.and_eq_true, Bool.not_eq_true', List.all_eq_true, bne_iff_ne] at h
    rw [hf]
    exact ⟨hu, h.1, h.2.1, fun f hf => h.2.2 f hf⟩
  · cases h
def AtCells (I : Nat → Prop) (β : Beta) (w : World) (u : TypeDesc) (size : Nat) (cs : List AV) (v : Value) : Prop :=
  (isAggD u = true ∧ ∃ vs : Array Value, v = .agg vs ∧ size ≤ vs.size ∧ ∀ (j : Nat) c, j < size → cs[j]? = some c → ARel I β w c (vs.getD j undef)) ∨ (isAggD u = false ∧ ∀ c, cs[0]? = some c → ARel I β w c v)
theorem part_at {t : TypeId} {i : TypeInfo} {u : TypeDesc} (hi : P.info? t = some i) (hu : P.underlying t = some u) {vs : Array Value} {off : Nat} {cs : List AV} (hle : off + i.size ≤ vs.size) (hz : 0 < i.size)
    (hc : ∀ (j : Nat) c, cs[j]? = some c → off + j < vs.size → ARel I β w c (vs.getD (off + j) undef)) : ∃ v, (part t vs off).run P w = .ok v w ∧ AtCells I β w u i.size cs v := by
  have hagg : (isAgg t).run P w = .ok (isAggD u) w := by unfold isAgg; cases u <;> simp [run_underlying hu, isAggD]
  cases hb : isAggD u
  · refine ⟨vs.getD off undef, ?_, .inr ⟨hb, fun c hc0 => by have := hc 0 c hc0 (by omega); simpa using this⟩⟩
    unfold part
    have hv : off < vs.size := by omega
    simp [hagg, hb, hv]
  · refine ⟨.agg (vs.extract off (off + i.size)), ?_, .inl ⟨hb, _, rfl, by simp; omega, fun j c hj hcj => ?_⟩⟩
    · unfold part
      simp [hagg, hb, sizeOf, typeInfo, hi]
    · have h1 : off + j < vs.size := by omega
      have := hc j c hcj h1
      have e : (vs.extract off (off + i.size)).getD j undef = vs.getD (off + j) undef := by
        have h2 : j < min (off + i.size) vs.size - off := by omega
        simp [h1, h2]
      rw [e]; exact this
def AtT (P : Program) (I : Nat → Prop) (β : Beta) (w : World) (t : TypeId) (cs : List AV) (v : Value) : Prop := ∃ i u, P.info? t = some i ∧ P.underlying t = some u ∧ AtCells I β w u i.size cs v
theorem tkOf_int {u : TypeDesc} {k : IntKind} (h : TK.int k = tkOf u) : u = .int k := by cases u <;> simp [tkOf] at h; subst h; rfl
theorem eqFs_sound {F : TypeId → List AV → List AV → (Bool → Prop) → Prop} {d : Nat} {vx vy : Array Value} {xs ys : List AV}
    (hF : ∀ {t : TypeId} {off : Nat} {K : Bool → Prop}, F t (xs.drop off) (ys.drop off) K → ∃ b, K b ∧ ∃ x y, (part t vx off).run P w = .ok x w ∧ (part t vy off).run P w = .ok y w ∧ (Op.equalIn d t x y).run P w = .ok b w) :
    ∀ {fs : List Field} {K : Bool → Prop}, (∀ f ∈ fs, f.name ≠ "_") → eqFs F (fs.map fun f => (f.offset, f.type)) xs ys K → ∃ b, K b ∧ (Op.eqFields d vx vy fs).run P w = .ok b w
  | [], K, _, h => ⟨true, h, by simp [Op.eqFields]⟩
  | f :: fs, K, hn, h => by
    obtain ⟨b, hb, x, y, h1, h2, h3⟩ := hF h
    obtain ⟨c, hc, h4⟩ := eqFs_sound hF (fun f hf => hn f (by simp [hf])) hb
    refine ⟨b && c, hc, ?_⟩
    have hf := hn f (by simp)
    simp only [Op.eqFields, if_pos hf, Sem.run_bind, h1, h2, h3, Result.andThen_ok]
    cases b
    · simp
    · simpa using h4
theorem eqCells_sound (hT : TabOk P T) : ∀ (d : Nat) {t : TypeId} {xs ys : List AV} {K : Bool → Prop}, eqCells T d t xs ys K → ∀ (m : Nat) {x y : Value}, AtT P I β w t xs x → AtT P I β w t ys y →
    ∃ b, K b ∧ (Op.equalIn (d + m) t x y).run P w = .ok b w
  | 0, _, _, _, _, h, _, _, _, _, _ => h.elim
  | d + 1, t, xs, ys, K, h, m, x, y, hx, hy => by
    obtain ⟨i, u, hi, hu, hx⟩ := hx
    obtain ⟨i', u', hi', hu', hy⟩ := hy
    rw [hi] at hi'; injection hi' with hi'; subst hi'
    rw [hu] at hu'; injection hu' with hu'; subst hu'
    unfold eqCells at h
    rw [show d + 1 + m = (d + m) + 1 by omega]
    split at h
    · rename_i size bytes agg tk zero hl
      obtain ⟨i2, u2, z, hi2, hu2, _, _, hsz, _, hagg, htk, _⟩ := look_spec hT hl
      rw [hi] at hi2; injection hi2 with hi2; subst hi2
      rw [hu] at hu2; injection hu2 with hu2; subst hu2
      have one : isAggD u = false → ∀ c l, xs = c :: l → ARel I β w c x := fun hu c l e => by
        rcases hx with ⟨h1, _⟩ | ⟨_, h2⟩
        · rw [h1] at hu; cases hu
        · exact h2 c (by rw [e]; rfl)
      have one' : isAggD u = false → ∀ c l, ys = c :: l → ARel I β w c y := fun hu c l e => by
        rcases hy with ⟨h1, _⟩ | ⟨_, h2⟩
        · rw [h1] at hu; cases hu
        · exact h2 c (by rw [e]; rfl)
      split at h
      · obtain rfl := tkOf_int htk
        split at h
        · split at h
          · rename_i hk
            obtain rfl := ixEq_eq hk
            obtain rfl := val_inv (one rfl _ _ rfl)
            obtain rfl := val_inv (one' rfl _ _ rfl)
            exact ⟨_, h, run_equalIn_int w _ t _ _ _ _ hu⟩
          · exact h.elim
        · exact h.elim
      · obtain rfl := tkOf_bool htk
        split at h
        · obtain rfl := val_inv (one rfl _ _ rfl)
          obtain rfl := val_inv (one' rfl _ _ rfl)
          exact ⟨_, h, run_equalIn_bool' w _ t _ _ hu⟩
        · exact h.elim
      · obtain rfl := tkOf_str htk
        split at h
        · obtain rfl := val_inv (one rfl _ _ rfl)
          obtain rfl := val_inv (one' rfl _ _ rfl)
          exact ⟨_, h, by rw [run_equalIn_string w _ t _ _ hu, ByteArray.toList_eq, ByteArray.toList_eq]; rfl⟩
        · exact h.elim
      · rename_i fs hsize
        simp only [Bool.and_eq_true, Nat.blt_eq, Nat.ble_eq] at hsize
        split at h
        · rename_i hm
          obtain ⟨e1, e2, e3, e4⟩ := eqOk_spec (hT.2 t hm)
          obtain ⟨Fs, hus, rfl⟩ := tkOf_struct htk
          have hFs : P.fieldsOf t = Fs := by unfold Program.fieldsOf; rw [hu, hus]
          subst hus
          have ag : isAggD (.struct Fs) = true := rfl
          rcases hx with ⟨_, vx, rfl, hxs, hxr⟩ | ⟨h1, _⟩
          rotate_left
          · rw [ag] at h1; cases h1
          rcases hy with ⟨_, vy, rfl, hys, hyr⟩ | ⟨h1, _⟩
          rotate_left
          · rw [ag] at h1; cases h1
          rw [run_equalIn_struct w (d + m) t vx vy e1 e2, hFs]
          rw [hFs] at e4
          subst hsz
          refine eqFs_sound (fun {ft off K} hF => ?_) e4 h
          cases d with
          | zero => exact hF.elim
          | succ d =>
            have hF' := hF
            unfold eqCells at hF'
            split at hF'
            · rename_i fsize fbytes fagg ftk fzero hfl
              obtain ⟨fi, fu, fz, hfi, hfu, _, _, hfsz, _, _, _, _⟩ := look_spec hT hfl
              have hb : (Nat.blt 0 fsize && (Nat.ble fsize ((xs.take i.size).drop off).length && Nat.ble fsize ((ys.take i.size).drop off).length)) = true := by
                split at hF' <;> first | assumption | exact hF'.elim
              simp only [Bool.and_eq_true, Nat.blt_eq, Nat.ble_eq, List.length_drop, List.length_take] at hb
              subst hfsz
              obtain ⟨x, px, ax⟩ := part_at (I := I) (β := β) hfi hfu (vs := vx) (off := off) (cs := (xs.take i.size).drop off) (by omega) (by omega) (fun j c hj _ => by
                rw [List.getElem?_drop, List.getElem?_take] at hj
                split at hj
                · rename_i hlt; exact hxr (off + j) c hlt hj
                · cases hj)
              obtain ⟨y, py, ay⟩ := part_at (I := I) (β := β) hfi hfu (vs := vy) (off := off) (cs := (ys.take i.size).drop off) (by omega) (by omega) (fun j c hj _ => by
                rw [List.getElem?_drop, List.getElem?_take] at hj
                split at hj
                · rename_i hlt; exact hyr (off + j) c hlt hj
                · cases hj)
              obtain ⟨b, hb, hr⟩ := eqCells_sound hT (d + 1) hF m ⟨fi, fu, hfi, hfu, ax⟩ ⟨fi, fu, hfi, hfu, ay⟩
              exact ⟨b, hb, x, y, px, py, hr⟩
            · exact hF'.elim
        · exact h.elim
      · exact h.elim
    · exact h.elim
theorem vcBin_sound (hT : TabOk P T) {op : BinOp} {t : TypeId} {x y : AV} {vx vy : Value} {K : AV → Prop} (hx : ARel I β w x vx) (hy : ARel I β w y vy) (xo yo : Operand) (h : vcBin T op t x y K) :
    ∃ r, K r ∧ Yields P I β w (do eqGuard op t xo yo vx vy; binOp op t vx vy) r := by
  unfold vcBin at h
  split at h
  · obtain rfl := val_inv hx; obtain rfl := val_inv hy
    rename_i k a k' b
    simp only [Yields, eqGuard_at_int, Sem.run_bind, Sem.run_pure, Result.andThen_ok]
    split at h
    · rw [eqv_eq] at h
      refine ⟨_, h.2, _, ?_, rel_int _ _⟩
      have hn : ¬ b < 0 := by omega
      simp [binOp, Op.shift, hn]
    · rw [eqv_eq] at h
      refine ⟨_, h.2, _, ?_, rel_int _ _⟩
      have hn : ¬ b < 0 := by omega
      simp [binOp, Op.shift, hn]
    · rename_i h1 h2
      split at h
      · rename_i he
        obtain rfl := ixEq_eq he
        exact intBin_sound t ⟨h1, h2⟩ h
      · exact h.elim
  · obtain rfl := val_inv hx; obtain rfl := val_inv hy
    simp only [Yields, eqGuard_at_string, Sem.run_bind, Sem.run_pure, Result.andThen_ok]
    exact strBin_sound t h
  · rename_i xs ys
    have key : ∀ {K : Bool → Prop}, memT T.eq t = true → eqCells T 6 t xs ys K → ∃ b va vb, K b ∧ vx = .agg va ∧ vy = .agg vb ∧ P.eqGuardType P.depth t = false ∧ (Op.equalIn 10000 t (.agg va) (.agg vb)).run P w = .ok b w := fun {K} hm h => by
      have h0 := h
      obtain ⟨e1, e2, e3, e4⟩ := eqOk_spec (hT.2 t hm)
      unfold eqCells at h0
      split at h0
      · rename_i size bytes agg tk zero hl
        obtain ⟨i, u, z, hi, hu, _, _, hsz, _, hagg, htk, _⟩ := look_spec hT hl
        rw [hu] at e1
        injection e1 with e1
        subst e1
        cases hx with
        | agg lx rx =>
          rename_i va
          cases hy with
          | agg ly ry =>
            rename_i vb
            subst htk
            split at h0
            · rename_i heq; simp [tkOf] at heq
            · rename_i heq; simp [tkOf] at heq
            · rename_i heq; simp [tkOf] at heq
            · rename_i fs _ hb _
              simp only [Bool.and_eq_true, Nat.blt_eq, Nat.ble_eq] at hb
              subst hsz
              obtain ⟨b, k1, k2⟩ := eqCells_sound hT 6 h 9994 (I := I) (β := β) ⟨i, _, hi, hu, .inl ⟨rfl, va, rfl, by omega, fun j c _ hj => rx j c hj⟩⟩ ⟨i, _, hi, hu, .inl ⟨rfl, vb, rfl, by omega, fun j c _ hj => ry j c hj⟩⟩
              exact ⟨b, va, vb, k1, rfl, rfl, e3, k2⟩
            · exact h0.elim
      · exact h0.elim
    split at h
    · rename_i hm
      obtain ⟨b, va, vb, k1, rfl, rfl, k2, k3⟩ := key hm h
      exact ⟨_, k1, _, by simp only [Sem.run_bind, run_eqGuard_agg w _ t xo yo va vb k2, Result.andThen_ok, run_eql_struct, k3], rel_bool _⟩
    · rename_i hm
      obtain ⟨b, va, vb, k1, rfl, rfl, k2, k3⟩ := key hm h
      exact ⟨_, k1, _, by simp only [Sem.run_bind, run_eqGuard_agg w _ t xo yo va vb k2, Result.andThen_ok, run_neq_struct, k3], rel_bool _⟩
    · exact h.elim
  · split at h
    · rename_i hl
      obtain ⟨i, u, z, hi, hu, hz, _, _, _, _, htk, _⟩ := look_spec hT hl
      exact eqBin_sound hu htk hx hy xo yo h
    · exact h.elim
theorem vcUn_sound {op : UnOp} {x : AV} {v : Value} {K : AV → Prop} (hx : ARel I β w x v) (h : vcUn op x K) : ∃ r, K r ∧ Yields P I β w (Op.unary op v) r := by
  unfold vcUn at h
  simp only [eqv_eq] at h
  split at h
  · obtain rfl := val_inv hx
    exact ⟨_, h, _, by simp [Op.unary, Op.intArith], rel_int _ _⟩
  · obtain rfl := val_inv hx
    exact ⟨_, h, _, by simp [Op.unary]; rfl, rel_int _ _⟩
  · obtain rfl := val_inv hx
    exact ⟨_, h, _, by simp [Op.unary], rel_bool _⟩
  · exact h.elim
end
end Go.Cw
/-
  Cw, part F: more operations that leave memory alone: reading, addresses, slices, literals of structs.
-/
namespace Go.Cw
set_option linter.unusedVariables false
section
variable {P : Program} {T : Tab} {I : Nat → Prop} {β : Beta} {w : World}
theorem add_add (a : Addr) (i j : Nat) : (a.add i).add j = a.add (i + j) := by
  unfold Addr.add
  by_cases hi : i = 0 <;> by_cases hj : j = 0 <;> simp [hi, hj, Nat.add_assoc]
theorem add_zero (a : Addr) : a.add 0 = a := by simp [Addr.add]
theorem add_at (b o n : Nat) : Addr.add ⟨b, o, none⟩ n = ⟨b, o + n, none⟩ := by
  unfold Addr.add; split
  · rename_i h; subst h; rfl
  · rfl
theorem one_rel {x : AV} {v : Value} (h1 : oneCell x = true) (h : ARel I β w x v) : v.oneCell' = true ∧ v.cells = #[v] := by
  cases h with
  | pv h => cases h with
    | val v =>
      simp only [oneCell] at h1
      cases v <;> simp [oneV] at h1 <;> exact ⟨rfl, rfl⟩
    | sl => exact ⟨rfl, rfl⟩
    | ia => exact ⟨rfl, rfl⟩
    | fn => exact ⟨rfl, rfl⟩
  | agg => simp [oneCell] at h1
  | ms => exact ⟨rfl, rfl⟩
  | ptr => exact ⟨rfl, rfl⟩
  | mp => exact ⟨rfl, rfl⟩
  | fn => exact ⟨rfl, rfl⟩
  | tup => simp [oneCell] at h1
  | clip => exact ⟨rfl, rfl⟩
  | dead => simp [oneCell] at h1
theorem allOne_get {l : List AV} (h : allOne l = true) {j : Nat} {c : AV} (hj : l[j]? = some c) : oneCell c = true := by
  induction l generalizing j with
  | nil => simp at hj
  | cons x l ih =>
    simp only [allOne, Bool.and_eq_true] at h
    cases j with
    | zero => simp at hj; subst hj; exact h.1
    | succ j => simp at hj; exact ih h.2 hj
theorem cells_rel {x : AV} {v : Value} (h1 : allOne (cellsOf x) = true) (h : ARel I β w x v) :
    v.cells.size = (cellsOf x).length ∧ (∀ (j : Nat) c, (cellsOf x)[j]? = some c → ARel I β w c (v.cells.getD j undef)) ∧ ∀ u ∈ v.cells.toList, u.oneCell' = true := by
  cases x with
  | agg cs =>
    cases h with
    | agg hl h =>
      refine ⟨hl, h, fun u hu => ?_⟩
      simp only [Value.cells] at hu
      obtain ⟨j, hj, rfl⟩ := List.getElem_of_mem hu
      simp only [Array.length_toList] at hj
      simp only [cellsOf] at h1
      have hj' : j < cs.length := by omega
      have := (one_rel (allOne_get h1 (List.getElem?_eq_getElem hj')) (h j _ (List.getElem?_eq_getElem hj'))).1
      simpa [hj] using this
  | _ =>
    simp only [cellsOf, allOne, Bool.and_true] at h1
    obtain ⟨ho, hc⟩ := one_rel h1 h
    rw [hc]
    refine ⟨rfl, fun j c hj => ?_, fun u hu => ?_⟩
    · cases j with
      | zero => simp [cellsOf] at hj; subst hj; exact h
      | succ j => simp [cellsOf] at hj
    · simp at hu; subst hu; exact ho
theorem run_isAgg {t : TypeId} {u : TypeDesc} (hu : P.underlying t = some u) : (isAgg t).run P w = .ok (isAggD u) w := by
  unfold isAgg
  cases u <;> simp [run_underlying hu, isAggD]
def CellsAt (I : Nat → Prop) (β : Beta) (w : World) (a : Addr) (cs : List AV) : Prop := ∀ (j : Nat) c, cs[j]? = some c → ∃ v, w.cell? (a.add j) = some v ∧ v.oneCell' = true ∧ ARel I β w c v
theorem vcTake_sound {t : TypeId} {i : TypeInfo} {u : TypeDesc} (hi : P.info? t = some i) (hu : P.underlying t = some u) {agg : Bool}
    (hagg : agg = isAggD u) {a : Addr} {cs : List AV} {K : AV → Prop} (hc : CellsAt I β w a cs) (h : vcTake i.size agg cs K) :
    ∃ r, K r ∧ Yields P I β w (loadVar t a) r := by
  unfold vcTake at h
  have hs : (sizeOf t).run P w = .ok i.size w := by simp [sizeOf, typeInfo, hi]
  split at h
  · split at h
    · rename_i hb
      have hle : i.size ≤ cs.length := Nat.le_of_ble_eq_true hb
      have hex : ∀ j, ∃ v, j < i.size → w.cell? (a.add j) = some v ∧ ∀ c, cs[j]? = some c → ARel I β w c v := fun j => by
        by_cases hj : j < i.size
        · obtain ⟨v, h1, _, h2⟩ := hc j _ (List.getElem?_eq_getElem (show j < cs.length by omega))
          exact ⟨v, fun _ => ⟨h1, fun c hc => by rw [List.getElem?_eq_getElem (show j < cs.length by omega)] at hc; injection hc with hc; subst hc; exact h2⟩⟩
        · exact ⟨undef, fun h => absurd h hj⟩
      obtain ⟨f, hf⟩ := Classical.axiomOfChoice hex
      refine ⟨_, h, .agg ((List.range i.size).map f).toArray, ?_, .agg (by simp; omega) (fun j c hj => ?_)⟩
      · unfold loadVar
        simp only [Sem.run_bind, run_isAgg hu, ← hagg, Result.andThen_ok, if_true, hs, run_loadCells w a i.size f (fun j hj => (hf j hj).1), Sem.run_pure]
      · have hlt : j < i.size := by
          have := (List.getElem?_eq_some_iff.1 hj).1
          simp at this; omega
        rw [List.getElem?_take_of_lt hlt] at hj
        have := (hf j hlt).2 c hj
        simpa [hlt] using this
    · exact h.elim
  · split at h
    · rename_i c l
      obtain ⟨v, h1, _, h2⟩ := hc 0 c rfl
      rw [add_zero] at h1
      refine ⟨_, h, v, ?_, h2⟩
      unfold loadVar
      simp only [Sem.run_bind, run_isAgg hu, ← hagg, Result.andThen_ok, Bool.false_eq_true, if_false, run_load, h1]
    · exact h.elim
theorem ia_inv {cs : List PV} {v : Value} (h : ARel I β w (.pv (.ia cs)) v) : ∃ a, v = .pointer (some a) ∧ I a.block ∧ CellsAt I β w a (pvs cs) ∧
    ∀ n, n ≤ cs.length → ARel I β w (.pv (.ia (cs.drop n))) (.pointer (some (a.add n))) := by
  cases h with
  | pv h => cases h with
    | ia u h0 h1 h2 =>
      rename_i a
      refine ⟨a, rfl, h0, fun j c hj => ?_, fun n hn => .pv (.ia (fun j => u (n + j)) (by rw [add_block]; exact h0) (fun j hj => ?_) (fun j p hp => ?_))⟩
      · obtain ⟨p, hp, rfl⟩ := pvs_get.1 hj
        have hlt := (List.getElem?_eq_some_iff.1 hp).1
        exact ⟨_, (h1 j hlt).1, (h1 j hlt).2, .pv (h2 j p hp)⟩
      · rw [add_add]
        simp only [List.length_drop] at hj
        exact h1 (n + j) (by omega)
      · rw [List.getElem?_drop] at hp
        exact h2 _ _ hp
theorem ptr_inv {id z row col : Nat} {v : Value} (h : ARel I β w (.ptr id z row col) v) : ∃ b, β[id]? = some (some b) ∧ v = .pointer (some ⟨b.1, (row + b.2) * z + col, none⟩) := by
  cases h with
  | ptr hb => exact ⟨_, hb, rfl⟩
theorem clip_inv {z : Nat} {xs : List (List PV)} {v : Value} (h : ARel I β w (.clip z xs) v) : ∃ ad n, v = .slice ad n n ∧ PRel I w (.sl z xs) (.slice ad n n) := by
  cases h with
  | clip h => exact ⟨_, _, rfl, h⟩
theorem ms_inv {id z off len : Nat} {v : Value} (h : ARel I β w (.ms id z off len) v) : ∃ b cap o, v = .slice (some ⟨b.1, o, none⟩) len cap ∧ β[id]? = some (some b) ∧ len ≤ cap ∧ cap ≤ maxLen ∧
    (o = (off + b.2) * z ∨ (cap = 0 ∧ 0 < off + b.2)) ∧ ∃ t, w.shape? b.1 = some (t, (off + b.2 + cap) * z) := by
  cases h with
  | ms hb hc hm ho hs => exact ⟨_, _, _, rfl, hb, hc, hm, ho, hs⟩
theorem obj_cells {H : Heap} (hH : HSim I β H w) {id : Nat} {b : Nat × Nat} {o : AObj} (ho : H[id]? = some (some o)) (hb : β[id]? = some (some b)) (hmp : isMp o.rows = false) (row col : Nat) (cs : List AV)
    (hcs : ∀ (j : Nat) c, cs[j]? = some c → rowCell o.rows row (col + j) = some c) : CellsAt I β w ⟨b.1, (row + b.2) * o.z + col, none⟩ cs := by
  obtain ⟨b', hb', h1, h2, c, h3, h4⟩ := hH.obj id o ho
  rw [hb] at hb'
  injection hb' with hb'; injection hb' with hb'; subst hb'
  intro j x hx
  obtain ⟨v, hv, ho1, hr⟩ := h4 row (col + j) x (hcs j x hx)
  refine ⟨v, ?_, ho1, hr⟩
  rw [memOf_cells hmp] at h3
  rw [add_at, cell_of_row w b.1 _ c o.ty (0, 0) h3, Nat.add_assoc]
  exact hv
theorem run_loadAt (t : TypeId) (a : Addr) : (Instr.loadAt t (.pointer (some a))).run P w = (loadVar t a).run P w := by
  simp [Instr.loadAt, Instr.sureAddr]
theorem vcLoad_sound (hT : TabOk P T) {t : TypeId} {x : AV} {v : Value} {H : Heap} (hH : HSim I β H w) {K : AV → List Nat → Prop} (hx : ARel I β w x v) (h : vcLoad T t x H K) :
    ∃ r rd, K r rd ∧ Yields P I β w (Instr.loadAt t v) r := by
  unfold vcLoad at h
  split at h
  · exact h.elim
  · rename_i size bytes agg tk zero hl
    obtain ⟨i, u, zv, hi, hu, _, _, hsz, _, hagg, _, _⟩ := look_spec hT hl
    subst hsz
    split at h
    · obtain ⟨a, rfl, _, hc, _⟩ := ia_inv hx
      obtain ⟨r, hk, hy⟩ := vcTake_sound hi hu hagg hc h
      exact ⟨r, _, hk, by simpa only [Yields, run_loadAt] using hy⟩
    · rename_i id z row col
      obtain ⟨b, hb, rfl⟩ := ptr_inv hx
      split at h
      · rename_i o ho
        split at h
        · rename_i cs hz hr
          have hz := Nat.eq_of_beq_eq_true hz; subst hz
          split at h
          · obtain ⟨r, hk, hy⟩ := vcTake_sound hi hu hagg (obj_cells hH ho hb (by rw [hr]; rfl) 0 _ _ (fun j c hj => by rw [hr]; simp only [rowCell, if_true]; rw [List.getElem?_drop] at hj; exact hj)) h
            exact ⟨r, _, hk, by simpa only [Yields, run_loadAt] using hy⟩
          · exact h.elim
        · rename_i xs hz hr
          have hz := Nat.eq_of_beq_eq_true hz; subst hz
          obtain ⟨rw_, hrow, h⟩ := h
          obtain ⟨r, hk, hy⟩ := vcTake_sound hi hu hagg (obj_cells hH ho hb (by rw [hr]; rfl) row col _ (fun j c hj => by
            rw [hr]; simp only [rowCell, hrow, Option.bind_some]
            obtain ⟨p, hp, rfl⟩ := pvs_get.1 hj
            rw [List.getElem?_drop] at hp
            rw [hp]; rfl)) h
          exact ⟨r, _, hk, by simpa only [Yields, run_loadAt] using hy⟩
        · rename_i xs hz hr
          have hz := Nat.eq_of_beq_eq_true hz; subst hz
          obtain ⟨rw_, hrow, h⟩ := h
          obtain ⟨r, hk, hy⟩ := vcTake_sound hi hu hagg (obj_cells hH ho hb (by rw [hr]; rfl) row col _ (fun j c hj => by
            rw [hr]; simp only [rowCell, hrow, Option.bind_some]
            rw [List.getElem?_drop] at hj
            exact hj)) h
          exact ⟨r, _, hk, by simpa only [Yields, run_loadAt] using hy⟩
        · exact h.elim
      · exact h.elim
    · exact h.elim
theorem vcFieldAddr_sound (hT : TabOk P T) {s : TypeId} {x : AV} {v : Value} {f : Nat} {K : AV → Prop} (hx : ARel I β w x v) (h : vcFieldAddr T s x f K) :
    ∃ r, K r ∧ Yields P I β w (Instr.fieldAt s v f) r := by
  unfold vcFieldAddr at h
  split at h
  · rename_i hl
    obtain ⟨i, u, z, hi, hu, _, _, hsz, _, hagg, htk, _⟩ := look_spec hT hl
    split at h
    · obtain ⟨Fs, rfl, rfl⟩ := tkOf_struct htk
      split at h
      · rename_i off ft hf
        simp only [List.getElem?_map, Option.map_eq_some_iff, Prod.mk.injEq] at hf
        obtain ⟨fd, hfd, rfl, rfl⟩ := hf
        have hfd' : Fs[f]? = some fd := by simpa using hfd
        split at h
        · rename_i hlf
          obtain ⟨i2, u2, z2, hi2, _, _, _, hs2, _, _, _, _⟩ := look_spec hT hlf
          split at h
          · rename_i hpos
            have hne : i2.size ≠ 0 := by
              have := hpos
              simp [Nat.blt_eq] at this
              omega
            have hrun : ∀ a : Addr, (Instr.fieldAt s (.pointer (some a)) f).run P w = .ok (.pointer (some (a.add fd.offset))) w := fun a => by
              simp [Instr.fieldAt, run_underlying hu, hfd', Instr.sureAddr, fieldPlace, sizeOf, typeInfo, hi2, hne]
            split at h
            · split at h
              · rename_i hle
                obtain ⟨a, rfl, _, _, hd⟩ := ia_inv hx
                exact ⟨_, h, _, hrun a, hd _ (Nat.le_of_ble_eq_true hle)⟩
              · exact h.elim
            · obtain ⟨b, hb, rfl⟩ := ptr_inv hx
              refine ⟨_, h, _, hrun _, ?_⟩
              rw [add_at, Nat.add_assoc]
              exact .ptr hb
            · exact h.elim
          · exact h.elim
        · exact h.elim
      · exact h.elim
    · exact h.elim
  · exact h.elim
theorem vcIndexAddr_sound (hT : TabOk P T) {t : TypeId} {x iv : AV} {v vi : Value} {K : AV → Prop} (hx : ARel I β w x v) (hi : ARel I β w iv vi) (h : vcIndexAddr T t x iv K) :
    ∃ r, K r ∧ Yields P I β w (Instr.indexAt t v vi) r := by
  unfold vcIndexAddr at h
  simp only [eqv_eq] at h
  split at h
  · rename_i hl
    obtain ⟨i, u, zv, hinf, hu, _, _, hsz, _, hagg, htk, _⟩ := look_spec hT hl
    obtain rfl := int_inv hi
    split at h
    · obtain rfl := tkOf_slice htk
      split at h
      · rename_i hle
        obtain ⟨ie, ue, ze, hie, _, _, _, hse, _, _, _, _⟩ := look_spec hT hle
        split at h
        · rename_i hb
          have hb := Nat.eq_of_beq_eq_true hb
          obtain ⟨k, r, rfl, hr, h⟩ := h
          obtain ⟨ad, cap, rfl, hcap, u, h1, h2⟩ := sl_inv hx
          obtain ⟨hlr, a, rfl, hI, hc⟩ := h1 k r hr
          have hk := (List.getElem?_eq_some_iff.1 hr).1
          refine ⟨_, h, .pointer (some (a.add (k * ie.size))), ?_, .pv (.ia (u k) (by rw [add_block]; exact hI) (fun j hj => ?_) (fun j p hp => h2 k r j p hr hp))⟩
          · simp [Instr.indexAt, asIntOf, run_underlying hu, sizeOf, typeInfo, hie, hk]
          · rw [add_add, hse, hb]
            exact hc j (by omega)
        · exact h.elim
      · exact h.elim
    · rename_i id z off len
      obtain rfl := tkOf_slice htk
      split at h
      · rename_i hle
        obtain ⟨ie, ue, ze, hie, _, _, _, hse, _, _, _, _⟩ := look_spec hT hle
        split at h
        · rename_i hb
          have hb := Nat.eq_of_beq_eq_true hb
          obtain ⟨k, rfl, hk, h⟩ := h
          obtain ⟨b, cap, o, rfl, hbl, hcap, _, ho, _⟩ := ms_inv hx
          have ho : o = _ := ho.resolve_right (fun e => by omega)
          subst ho
          refine ⟨_, h, .pointer (some ⟨b.1, (off + b.2) * z + k * ie.size, none⟩), ?_, ?_⟩
          · rw [← add_at]
            simp [Instr.indexAt, asIntOf, run_underlying hu, sizeOf, typeInfo, hie, hk]
          · have e := ARel.ptr (I := I) (w := w) (z := z) (row := off + k) (col := 0) hbl
            rw [Nat.add_zero, show off + k + b.2 = off + b.2 + k from by omega, Nat.add_mul] at e
            rw [hse, hb]
            exact e
        · exact h.elim
      · exact h.elim
    · rename_i id z row col
      obtain rfl := tkOf_array htk
      split at h
      · rename_i hle
        obtain ⟨ie, ue, ze, hie, _, _, _, hse, _, _, _, _⟩ := look_spec hT hle
        obtain ⟨k, rfl, hk, h⟩ := h
        obtain ⟨b, hb, rfl⟩ := ptr_inv hx
        have e := ARel.ptr (I := I) (w := w) (z := z) (row := row) (col := col + k * ie.size) hb
        rw [← Nat.add_assoc, ← add_at] at e
        rw [← hse] at h
        refine ⟨_, h, _, ?_, e⟩
        simp [Instr.indexAt, asIntOf, run_underlying hu, sizeOf, typeInfo, hie, hk, Instr.sureAddr]
      · exact h.elim
    · obtain rfl := tkOf_array htk
      split at h
      · rename_i hle
        obtain ⟨ie, ue, ze, hie, _, _, _, hse, _, _, _, _⟩ := look_spec hT hle
        obtain ⟨k, rfl, hk, hle2, h⟩ := h
        obtain ⟨a, rfl, _, _, hd⟩ := ia_inv hx
        refine ⟨_, h, _, ?_, hd _ hle2⟩
        rw [← hse]
        simp [Instr.indexAt, asIntOf, run_underlying hu, sizeOf, typeInfo, hie, hk, Instr.sureAddr]
      · exact h.elim
    · exact h.elim
  · exact h.elim
theorem vcField_sound (hT : TabOk P T) {s : TypeId} {x : AV} {v : Value} {f : Nat} {K : AV → Prop} (hx : ARel I β w x v) (h : vcField T s x f K) :
    ∃ r, K r ∧ Yields P I β w (Instr.field s v f) r := by
  unfold vcField at h
  split at h
  · rename_i cs hl
    obtain ⟨i, u, z, hi, hu, _, _, hsz, _, hagg, htk, _⟩ := look_spec hT hl
    cases hx with
    | agg hlen hcs =>
      rename_i vs
      split at h
      · obtain ⟨Fs, rfl, rfl⟩ := tkOf_struct htk
        split at h
        · rename_i off ft hf
          simp only [List.getElem?_map, Option.map_eq_some_iff, Prod.mk.injEq] at hf
          obtain ⟨fd, hfd, rfl, rfl⟩ := hf
          have hfd' : Fs[f]? = some fd := by simpa using hfd
          split at h
          · rename_i hlf
            obtain ⟨i2, u2, z2, hi2, hu2, _, _, hs2, _, hag2, _, _⟩ := look_spec hT hlf
            subst hs2
            have hpart : (Instr.field s (.agg vs) f).run P w = (part fd.type vs fd.offset).run P w := by
              simp [Instr.field, run_underlying hu, hfd', asAgg]
            unfold vcTake at h
            split at h
            · split at h
              · rename_i hb
                have hle := Nat.le_of_ble_eq_true hb
                simp only [List.length_drop] at hle
                refine ⟨_, h, .agg (vs.extract fd.offset (fd.offset + i2.size)), ?_, .agg ?_ (fun j c hj => ?_)⟩
                · rw [hpart]
                  unfold part
                  simp [run_isAgg hu2, ← hag2, sizeOf, typeInfo, hi2]
                · simp; omega
                · have hlt : j < i2.size := by
                    have := (List.getElem?_eq_some_iff.1 hj).1
                    simp at this; omega
                  rw [List.getElem?_take_of_lt hlt, List.getElem?_drop] at hj
                  have hh := hcs _ _ hj
                  have hj2 := (List.getElem?_eq_some_iff.1 hj).1
                  have e : (vs.extract fd.offset (fd.offset + i2.size)).getD j undef = vs.getD (fd.offset + j) undef := by
                    have h1 : fd.offset + j < vs.size := by omega
                    have h2 : j < min (fd.offset + i2.size) vs.size - fd.offset := by omega
                    simp [h1, h2]
                  rw [e]; exact hh
              · exact h.elim
            · split at h
              · rename_i c l hd
                have hj : cs[fd.offset]? = some c := by
                  have := congrArg (·[0]?) hd
                  simpa [List.getElem?_drop] using this
                have hlt := (List.getElem?_eq_some_iff.1 hj).1
                have hv : fd.offset < vs.size := by omega
                refine ⟨_, h, vs.getD fd.offset undef, ?_, hcs _ _ hj⟩
                rw [hpart]
                unfold part
                simp [run_isAgg hu2, ← hag2, hv]
              · exact h.elim
          · exact h.elim
        · exact h.elim
      · exact h.elim
  · exact h.elim
theorem vcLen_sound (hT : TabOk P T) {t ty : TypeId} {x : AV} {v : Value} {K : AV → Prop} (hx : ARel I β w x v) (h : vcLen T t x K) :
    ∃ r, K r ∧ Yields P I β w (Builtin.len_ #[t] ty #[v]) r := by
  unfold vcLen at h
  simp only [eqv_eq] at h
  split at h
  · rename_i hl
    obtain ⟨i, u, z, hi, hu, _, _, hsz, _, hagg, htk, _⟩ := look_spec hT hl
    split at h
    · obtain rfl := val_inv hx; obtain rfl := tkOf_slice htk
      exact ⟨_, h, _, by simp [Builtin.len_, run_underlying hu, goInt], rel_int _ _⟩
    · obtain rfl := val_inv hx; obtain rfl := tkOf_str htk
      exact ⟨_, h, _, by simp [Builtin.len_, run_underlying hu, goInt], rel_int _ _⟩
    · obtain ⟨ad, cap, rfl, _⟩ := sl_inv hx; obtain rfl := tkOf_slice htk
      exact ⟨_, h, _, by simp [Builtin.len_, run_underlying hu, goInt], rel_int _ _⟩
    · obtain ⟨b, cap, o, rfl, _⟩ := ms_inv hx; obtain rfl := tkOf_slice htk
      exact ⟨_, h, _, by simp [Builtin.len_, run_underlying hu, goInt], rel_int _ _⟩
    · exact h.elim
  · exact h.elim
theorem vcMinMax_sound {isMax : Bool} {xs : List (Option AV)} {vs : List Value} {K : AV → Prop} (ts : Array TypeId) (ty : TypeId)
    (hx : ∀ (j : Nat) x, xs[j]? = some (some x) → ∃ v, vs[j]? = some v ∧ ARel I β w x v) (hl : vs.length = xs.length) (h : vcMinMax isMax xs K) :
    ∃ r, K r ∧ Yields P I β w (bif isMax then Builtin.max_ ts ty vs.toArray else Builtin.min_ ts ty vs.toArray) r := by
  unfold vcMinMax at h
  split at h
  · rename_i k a k' b
    obtain ⟨v0, h0, r0⟩ := hx 0 _ rfl
    obtain ⟨v1, h1, r1⟩ := hx 1 _ rfl
    obtain rfl := int_inv r0; obtain rfl := int_inv r1
    have hvs : vs = [.int k a, .int k' b] := by
      match vs, hl with
      | [x, y], _ => simp at h0 h1; rw [h0, h1]
    subst hvs
    split at h
    · refine ⟨_, h, _, ?_, rel_int _ _⟩
      cases isMax
      · simp [Builtin.min_, Builtin.min2, List.foldlM]
      · simp [Builtin.max_, Builtin.max2, List.foldlM]
    · exact h.elim
  · rename_i k a k' b k'' c
    obtain ⟨v0, h0, r0⟩ := hx 0 _ rfl
    obtain ⟨v1, h1, r1⟩ := hx 1 _ rfl
    obtain ⟨v2, h2, r2⟩ := hx 2 _ rfl
    obtain rfl := int_inv r0; obtain rfl := int_inv r1; obtain rfl := int_inv r2
    have hvs : vs = [.int k a, .int k' b, .int k'' c] := by
      match vs, hl with
      | [x, y, z], _ => simp at h0 h1 h2; rw [h0, h1, h2]
    subst hvs
    split at h
    · refine ⟨_, h, _, ?_, rel_int _ _⟩
      cases isMax
      · simp only [mm, cond_false]
        by_cases h1 : b < a <;> simp [Builtin.min_, Builtin.min2, List.foldlM, h1]
      · simp only [mm, cond_true]
        by_cases h1 : b > a <;> simp [Builtin.max_, Builtin.max2, List.foldlM, h1]
    · exact h.elim
  · exact h.elim
end
end Go.Cw
/-
  Cw, part G: cutting a slice; a literal of a struct.
-/
namespace Go.Cw
set_option linter.unusedVariables false
section
variable {P : Program} {T : Tab} {I : Nat → Prop} {β : Beta} {w : World}
def ORel (I : Nat → Prop) (β : Beta) (w : World) : Option AV → Option Value → Prop
  | none, none => True
  | some x, some v => ARel I β w x v
  | _, _ => False
theorem run_sliceBound (k : IntKind) (n y : Nat) (c : BoundsCode) (h : n ≤ y) : (Instr.sliceBound (.int k n) y c).run P w = .ok n w := by
  have h2 : (0 : Int) ≤ (n : Int) ∧ (n : Int) ≤ (y : Int) := by omega
  simp [Instr.sliceBound, asIntOf, h2]
theorem lo_form {lo : Option AV} {vlo : Option Value} {l : Nat} (hlo : ORel I β w lo vlo) (h1 : loIs lo l) : (vlo = none ∧ l = 0) ∨ ∃ k, vlo = some (.int k (l : Int)) := by
  cases lo with
  | none => cases vlo with
    | none => exact .inl ⟨rfl, h1⟩
    | some v => exact hlo.elim
  | some x => cases vlo with
    | none => exact hlo.elim
    | some v =>
      unfold loIs at h1
      split at h1
      · rename_i heq; cases heq
      · rename_i k n heq
        injection heq with heq; subst heq; subst h1
        have hv : v = _ := int_inv hlo
        subst hv
        exact .inr ⟨_, rfl⟩
      · exact h1.elim
theorem hi_form {lo : Option AV} {vlo : Option Value} {len l : Nat} (hlo : ORel I β w lo vlo) (h1 : hiIs lo len l) : (vlo = none ∧ l = len) ∨ ∃ k, vlo = some (.int k (l : Int)) := by
  cases lo with
  | none => cases vlo with
    | none => exact .inl ⟨rfl, h1⟩
    | some v => exact hlo.elim
  | some x => cases vlo with
    | none => exact hlo.elim
    | some v =>
      unfold hiIs at h1
      split at h1
      · rename_i heq; cases heq
      · rename_i k n heq
        injection heq with heq; subst heq; subst h1
        have hv : v = _ := int_inv hlo
        subst hv
        exact .inr ⟨_, rfl⟩
      · exact h1.elim
theorem run_sliceBounds (s : Bool) (len cap : Nat) {lo hi : Option AV} {vlo vhi : Option Value} {l h : Nat} (hlo : ORel I β w lo vlo) (hhi : ORel I β w hi vhi)
    (h1 : loIs lo l) (h2 : hiIs hi len h) (h3 : l ≤ h) (h4 : h ≤ cap) : (Instr.sliceBounds s len cap vlo vhi none).run P w = .ok (l, h, cap) w := by
  rcases lo_form hlo h1 with ⟨rfl, rfl⟩ | ⟨k, rfl⟩ <;> rcases hi_form hhi h2 with ⟨rfl, rfl⟩ | ⟨k', rfl⟩ <;>
    simp only [Instr.sliceBounds, Sem.run_bind, Sem.run_pure, Result.andThen_ok, run_sliceBound _ _ _ _ h4, run_sliceBound _ _ _ _ h3]
theorem vcClip_sound (hT : TabOk P T) {t : TypeId} {x hi mx : AV} {v vhi vmx : Value} {K : AV → Prop} (hx : ARel I β w x v) (hhi : ARel I β w hi vhi) (hmx : ARel I β w mx vmx)
    (h : vcClip T t x hi mx K) : ∃ r, K r ∧ Yields P I β w (Instr.sliceAt t v none (some vhi) (some vmx)) r := by
  unfold vcClip at h
  split at h
  · rename_i hl
    obtain ⟨i, u, zv, hi', hu, _, _, hsz, _, hagg, htk, _⟩ := look_spec hT hl
    obtain rfl := tkOf_slice htk
    split at h
    · rename_i z xs
      split at h
      · rename_i hle
        obtain ⟨ie, ue, ze, hie, _, _, _, hse, _, _, _, _⟩ := look_spec hT hle
        split at h
        · rename_i hb
          have hb := Nat.eq_of_beq_eq_true hb
          obtain ⟨n, hn, hh1, hm1, h⟩ := h
          obtain ⟨ad, cap, rfl, hcap, u, h1, h2⟩ := sl_inv hx
          have hbd : (Instr.sliceBounds true xs.length cap none (some vhi) (some vmx)).run P w = .ok (0, n, n) w := by
            rcases hi_form (lo := some hi) (vlo := some vhi) hhi hh1 with ⟨e, _⟩ | ⟨k, e⟩
            · cases e
            rcases hi_form (lo := some mx) (vlo := some vmx) hmx hm1 with ⟨e', _⟩ | ⟨k', e'⟩
            · cases e'
            cases e; cases e'
            simp only [Instr.sliceBounds, Sem.run_bind, Sem.run_pure, Result.andThen_ok, run_sliceBound _ _ _ _ (Nat.le_trans hn hcap), run_sliceBound _ _ _ _ (Nat.le_refl _)]
          have htn : (xs.take n).length = n := by rw [List.length_take]; omega
          have hcl : ARel I β w (.clip z (xs.take n)) (.slice (if n = 0 then ad else ad.map (·.add (0 * ie.size))) (xs.take n).length (xs.take n).length) := by
            refine .clip (.sl u (Nat.le_refl _) (fun i r hr => ?_) fun i r j p hr hp => ?_)
            · have hlt := (List.getElem?_eq_some_iff.1 hr).1
              rw [htn] at hlt
              rw [List.getElem?_take_of_lt hlt] at hr
              obtain ⟨e1, a, rfl, e2, e3⟩ := h1 i r hr
              rw [if_neg (by omega)]
              refine ⟨e1, a, ?_, e2, e3⟩
              simp [Addr.add]
            · have hlt := (List.getElem?_eq_some_iff.1 hr).1
              rw [htn] at hlt
              rw [List.getElem?_take_of_lt hlt] at hr
              exact h2 i r j p hr hp
          rw [htn] at hcl
          refine ⟨_, h, .slice (if n = 0 then ad else ad.map (·.add (0 * ie.size))) n n, ?_, hcl⟩
          simp [Instr.sliceAt, Instr.slice, run_underlying hu, hbd, sizeOf, typeInfo, hie]
        · exact h.elim
      · exact h.elim
    · exact h.elim
  · exact h.elim
theorem vcSlice_sound (hT : TabOk P T) {t : TypeId} {x : AV} {v : Value} {lo hi : Option AV} {vlo vhi : Option Value} {K : AV → Prop} (hx : ARel I β w x v) (hlo : ORel I β w lo vlo) (hhi : ORel I β w hi vhi)
    (h : vcSlice T t x lo hi K) : ∃ r, K r ∧ Yields P I β w (Instr.sliceAt t v vlo vhi none) r := by
  unfold vcSlice at h
  simp only [eqv_eq] at h
  split at h
  · rename_i hl
    obtain ⟨i, u, zv, hi', hu, _, _, hsz, _, hagg, htk, _⟩ := look_spec hT hl
    split at h
    · rename_i e z xs
      obtain rfl := tkOf_slice htk
      split at h
      · rename_i hle
        obtain ⟨ie, ue, ze, hie, _, _, _, hse, _, _, _, _⟩ := look_spec hT hle
        split at h
        · rename_i hb
          have hb := Nat.eq_of_beq_eq_true hb
          obtain ⟨l, hh, hl1, hh1, h3, h4, h⟩ := h
          obtain ⟨ad, cap, rfl, hcap, u, h1, h2⟩ := sl_inv hx
          have hbd := run_sliceBounds (P := P) true xs.length cap hlo hhi hl1 hh1 h3 (by omega)
          have hlen : ((xs.take hh).drop l).length = hh - l := by simp; omega
          refine ⟨_, h, .slice (if cap = l then ad else ad.map (·.add (l * ie.size))) (hh - l) (cap - l), ?_, ?_⟩
          · simp [Instr.sliceAt, Instr.slice, run_underlying hu, hbd, sizeOf, typeInfo, hie]
          · rw [← hlen]
            refine .pv (.sl (fun i j => u (l + i) j) (by omega) (fun i r hr => ?_) (fun i r j p hr hp => ?_))
            · have hr' : xs[l + i]? = some r := by
                rw [List.getElem?_drop] at hr
                have := (List.getElem?_eq_some_iff.1 hr).1
                rw [List.getElem?_take_of_lt (by simp only [List.length_take] at this; omega)] at hr
                exact hr
              obtain ⟨e1, a, rfl, e2, e3⟩ := h1 _ r hr'
              have hlt := (List.getElem?_eq_some_iff.1 hr').1
              rw [if_neg (by omega)]
              refine ⟨e1, _, rfl, by rw [add_block]; exact e2, fun j hj => ?_⟩
              rw [add_add, hse, hb, ← Nat.add_assoc, ← Nat.add_mul]
              exact e3 j hj
            · refine h2 (l + i) r j p ?_ hp
              rw [List.getElem?_drop] at hr
              have := (List.getElem?_eq_some_iff.1 hr).1
              rw [List.getElem?_take_of_lt (by simp only [List.length_take] at this; omega)] at hr
              exact hr
        · exact h.elim
      · exact h.elim
    · rename_i e id z off len
      obtain rfl := tkOf_slice htk
      split at h
      · rename_i hle
        obtain ⟨ie, ue, ze, hie, _, _, _, hse, _, _, _, _⟩ := look_spec hT hle
        split at h
        · rename_i hb
          have hb := Nat.eq_of_beq_eq_true hb
          obtain ⟨l, hh, hl1, hh1, h3, h4, h⟩ := h
          obtain ⟨b, cap, o, rfl, hbl, hcap, hm, ho, t', hsh⟩ := ms_inv hx
          have hbd := run_sliceBounds (P := P) true len cap hlo hhi hl1 hh1 h3 (by omega)
          have hval : (if cap = l then some (⟨b.1, o, none⟩ : Addr) else some (Addr.add ⟨b.1, o, none⟩ (l * ie.size))) = some ⟨b.1, (if cap = l then o else o + l * z), none⟩ := by
            split
            · rfl
            · rw [add_at, hse, hb]
          refine ⟨_, h, .slice (if cap = l then some ⟨b.1, o, none⟩ else some (Addr.add ⟨b.1, o, none⟩ (l * ie.size))) (hh - l) (cap - l), ?_, ?_⟩
          · simp [Instr.sliceAt, Instr.slice, run_underlying hu, hbd, sizeOf, typeInfo, hie]
          · rw [hval]
            refine .ms hbl (by omega) (by omega) ?_ ⟨t', ?_⟩
            · split
              · rename_i hcl
                rcases ho with rfl | ⟨h5, h6⟩
                · rcases Nat.eq_zero_or_pos (off + l + b.2) with h0 | h0
                  · left
                    rw [show off + l + b.2 = off + b.2 from by omega]
                  · exact .inr ⟨by omega, h0⟩
                · exact .inr ⟨by omega, by omega⟩
              · rename_i hcl
                rcases ho with rfl | ⟨h5, h6⟩
                · left; rw [show off + l + b.2 = off + b.2 + l from by omega, Nat.add_mul (off + b.2) l]
                · omega
            · rw [show off + l + b.2 + (cap - l) = off + b.2 + cap from by omega]; exact hsh
        · exact h.elim
      · exact h.elim
    · obtain rfl := tkOf_slice htk
      split at h
      · rename_i hle
        obtain ⟨ie, ue, ze, hie, _, _, _, hse, _, _, _, _⟩ := look_spec hT hle
        obtain ⟨hl1, hh1, h⟩ := h
        obtain rfl := val_inv hx
        have hbd := run_sliceBounds (P := P) true 0 0 hlo hhi hl1 hh1 (Nat.le_refl _) (Nat.le_refl _)
        exact ⟨_, h, .slice none 0 0, by simp [Instr.sliceAt, Instr.slice, run_underlying hu, hbd, sizeOf, typeInfo, hie], rel_val _⟩
      · exact h.elim
    · obtain rfl := tkOf_str htk
      obtain ⟨l, hh, hl1, hh1, h3, h4, h⟩ := h
      obtain rfl := val_inv hx
      have hbd := run_sliceBounds (P := P) false _ _ hlo hhi hl1 hh1 h3 h4
      exact ⟨_, h, _, by simp [Instr.sliceAt, Instr.slice, run_underlying hu, hbd], rel_val _⟩
    · exact h.elim
  · exact h.elim
theorem splice_get {α : Type} : ∀ (n : Nat) (xs cs : List α), n + xs.length ≤ cs.length → ∀ j : Nat, (splice n xs cs)[j]? = if n ≤ j ∧ j < n + xs.length then xs[j - n]? else cs[j]?
  | 0, [], cs, h, j => by simp [splice]
  | 0, x :: xs, [], h, j => by simp at h
  | 0, x :: xs, c :: cs, h, j => by
    simp only [splice]
    cases j with
    | zero => simp
    | succ j =>
      have := splice_get 0 xs cs (by simp at h ⊢; omega) j
      simp only [List.getElem?_cons_succ, List.length_cons] at this ⊢
      rw [this]
      by_cases hj : j < xs.length
      · rw [if_pos (by omega), if_pos (by omega)]
        simp
      · rw [if_neg (by omega), if_neg (by omega)]
  | n + 1, xs, [], h, j => by simp at h
  | n + 1, xs, c :: cs, h, j => by
    simp only [splice]
    cases j with
    | zero => simp
    | succ j =>
      have := splice_get n xs cs (by simp at h; omega) j
      simp only [List.getElem?_cons_succ] at this ⊢
      rw [this]
      by_cases hj : n ≤ j ∧ j < n + xs.length
      · rw [if_pos hj, if_pos (by omega), show j + 1 - (n + 1) = j - n from by omega]
      · rw [if_neg hj, if_neg (by omega)]
theorem splice_length {α : Type} : ∀ (n : Nat) (xs cs : List α), n + xs.length ≤ cs.length → (splice n xs cs).length = cs.length
  | 0, [], cs, h => by simp [splice]
  | 0, x :: xs, [], h => by simp at h
  | 0, x :: xs, c :: cs, h => by
    simp only [splice, List.length_cons]
    rw [splice_length 0 xs cs (by simp at h ⊢; omega)]
  | n + 1, xs, [], h => by simp at h
  | n + 1, xs, c :: cs, h => by
    simp only [splice, List.length_cons]
    rw [splice_length n xs cs (by simp at h; omega)]
theorem fold_set (off : Nat) : ∀ (l : List Value) (k : Nat) (cs : Array Value), ((l.zipIdx k).foldl (fun cs (x : Value × Nat) => cs.setIfInBounds (off + x.2) x.1) cs).size = cs.size ∧
    ∀ j : Nat, off + k + l.length ≤ cs.size → ((l.zipIdx k).foldl (fun cs (x : Value × Nat) => cs.setIfInBounds (off + x.2) x.1) cs)[j]? = if off + k ≤ j ∧ j < off + k + l.length then l[j - (off + k)]? else cs[j]?
  | [], k, cs => by
    refine ⟨rfl, fun j h => ?_⟩
    simp only [List.zipIdx_nil, List.foldl_nil, List.length_nil]
    rw [if_neg (by omega)]
  | v :: l, k, cs => by
    obtain ⟨h1, h2⟩ := fold_set off l (k + 1) (cs.setIfInBounds (off + k) v)
    refine ⟨by simpa using h1, fun j h => ?_⟩
    simp only [List.zipIdx_cons, List.foldl_cons]
    simp only [List.length_cons] at h
    rw [h2 j (by simp; omega)]
    simp only [List.length_cons]
    by_cases hj : j = off + k
    · subst hj
      rw [if_neg (by omega), if_pos (by omega), Array.getElem?_setIfInBounds_self_of_lt (by omega)]
      simp
    · by_cases hj2 : off + (k + 1) ≤ j ∧ j < off + (k + 1) + l.length
      · rw [if_pos hj2, if_pos (by omega)]
        obtain ⟨m, hm⟩ : ∃ m, j - (off + k) = m + 1 := ⟨j - (off + k) - 1, by omega⟩
        rw [hm, show j - (off + (k + 1)) = m from by omega]
        simp
      · rw [if_neg hj2, if_neg (by omega), Array.getElem?_setIfInBounds_ne (by omega)]
def CRel (I : Nat → Prop) (β : Beta) (w : World) (cs : List AV) (vs : Array Value) : Prop := vs.size = cs.length ∧ ∀ (j : Nat) c, cs[j]? = some c → ∃ v, vs[j]? = some v ∧ ARel I β w c v
theorem CRel.agg {cs : List AV} {vs : Array Value} (h : CRel I β w cs vs) : ARel I β w (.agg cs) (.agg vs) :=
  .agg h.1 fun j c hc => by
    obtain ⟨v, hv, hr⟩ := h.2 j c hc
    have hlt := (Array.getElem?_eq_some_iff.1 hv).1
    have e : vs.getD j undef = v := by
      have := (Array.getElem?_eq_some_iff.1 hv).2
      simp [hlt, this]
    rw [e]; exact hr
theorem CRel.of_cells {x : AV} {v : Value} (h1 : allOne (cellsOf x) = true) (h : ARel I β w x v) : CRel I β w (cellsOf x) v.cells := by
  obtain ⟨a, b, _⟩ := cells_rel h1 h
  refine ⟨a, fun j c hc => ?_⟩
  have hlt := (List.getElem?_eq_some_iff.1 hc).1
  have hlt2 : j < v.cells.size := by omega
  exact ⟨v.cells[j], Array.getElem?_eq_getElem hlt2, by simpa [hlt2] using b j c hc⟩
theorem CRel.fold {cs new : List AV} {vs nv : Array Value} {off : Nat} (h : CRel I β w cs vs) (hn : CRel I β w new nv) (hle : off + new.length ≤ cs.length) :
    CRel I β w (splice off new cs) (nv.zipIdx.foldl (fun cs (x : Value × Nat) => cs.setIfInBounds (off + x.2) x.1) vs) := by
  have hf := fold_set off nv.toList 0 vs
  have e : nv.zipIdx.foldl (fun cs (x : Value × Nat) => cs.setIfInBounds (off + x.2) x.1) vs = (nv.toList.zipIdx 0).foldl (fun cs (x : Value × Nat) => cs.setIfInBounds (off + x.2) x.1) vs := by
    rw [← Array.foldl_toList, Array.toList_zipIdx]
  rw [e]
  refine ⟨by rw [hf.1, h.1, splice_length _ _ _ hle], fun j c hj => ?_⟩
  rw [splice_get _ _ _ hle] at hj
  have hg := hf.2 j (by simp; have := h.1; have := hn.1; omega)
  simp only [Nat.add_zero, Array.length_toList] at hg
  rw [hg]
  by_cases hc : off ≤ j ∧ j < off + new.length
  · rw [if_pos hc] at hj
    rw [if_pos (by have := hn.1; omega)]
    obtain ⟨v, hv, hr⟩ := hn.2 _ _ hj
    exact ⟨v, by simpa using hv, hr⟩
  · rw [if_neg hc] at hj
    rw [if_neg (by have := hn.1; omega)]
    exact h.2 _ _ hj
theorem buildCells_sound (hT : TabOk P T) {fs : List (Nat × TypeId)} {ρ : Operand → Option AV} {val : Operand → Value} (hρ : ∀ x v, ρ x = some v → ARel I β w v (val x))
    {pl : Nat → Option (Nat × Nat)} (hp : ∀ (i off : Nat) (t : TypeId) d, fs[i]? = some (off, t) → P.info? t = some d → pl i = some (off, d.size)) :
    ∀ (parts : List (Nat × Operand)) (cs : List AV) (vs : Array Value) (out : List AV), CRel I β w cs vs → buildCells T fs ρ cs parts = some out →
      ∃ cells, Instr.fill pl vs (parts.map fun (i, x) => (i, val x)) = some cells ∧ CRel I β w out cells
  | [], cs, vs, out, hc, h => by
    simp only [buildCells, Option.some.injEq] at h
    subst h
    exact ⟨vs, rfl, hc⟩
  | (i, x) :: l, cs, vs, out, hc, h => by
    simp only [buildCells] at h
    split at h
    · rename_i off t v hf hv
      split at h
      · rename_i hl
        obtain ⟨ii, u, zv, hii, hu, _, _, hsz, _, _, _, _⟩ := look_spec hT hl
        split at h
        · rename_i hb
          simp only [Bool.and_eq_true] at hb
          obtain ⟨hb1, hb2, hb3⟩ := hb
          have hb1 := Nat.eq_of_beq_eq_true hb1
          have hb2 := Nat.le_of_ble_eq_true hb2
          have hpl := hp i off t ii hf hii
          have hcr := CRel.of_cells hb3 (hρ x v hv)
          have hfold := hc.fold (off := off) hcr (by omega)
          obtain ⟨cells, h1, h2⟩ := buildCells_sound hT hρ hp l _ _ out hfold h
          refine ⟨cells, ?_, h2⟩
          simp only [List.map_cons, Instr.fill]
          simp only [hpl]
          have hs1 : (val x).cells.size = ii.size := by rw [hcr.1, hb1, hsz]
          have hs2 : off + ii.size ≤ vs.size := by rw [hc.1, hsz]; exact hb2
          rw [if_neg (by simp [hs1]; exact hs2)]
          exact h1
        · cases h
      · cases h
    · cases h
theorem places_of (hT : TabOk P T) : ∀ (fs : List Field), ((fs.map fun f => (f.offset, f.type)).all fun f => (look T f.2).isSome) = true →
    ∃ places, fs.mapM (fun f => (P.info? f.type).map fun i => (f.offset, i.size)) = some places ∧ ∀ (i : Nat) f d, fs[i]? = some f → P.info? f.type = some d → places[i]? = some (f.offset, d.size)
  | [], _ => ⟨[], rfl, fun i f d h _ => by simp at h⟩
  | f :: fs, h => by
    simp only [List.map_cons, List.all_cons, Bool.and_eq_true] at h
    obtain ⟨places, h1, h2⟩ := places_of hT fs h.2
    obtain ⟨d, hd⟩ := Option.isSome_iff_exists.1 h.1
    obtain ⟨size, bytes, agg, tk, zero⟩ := d
    obtain ⟨i, u, zv, hi, _⟩ := look_spec hT hd
    refine ⟨(f.offset, i.size) :: places, by simp [List.mapM_cons, hi, h1], fun j g d' hj hd' => ?_⟩
    cases j with
    | zero =>
      simp at hj; subst hj
      rw [hi] at hd'; injection hd' with hd'; subst hd'
      rfl
    | succ j => exact h2 j g d' (by simpa using hj) hd'
theorem CRel.zero {z : Value} : CRel I β w (pvs (z.cells.toList.map .val)) z.cells := by
  refine ⟨by simp [pvs_length], fun j c hc => ?_⟩
  obtain ⟨p, hp, rfl⟩ := pvs_get.1 hc
  simp only [List.getElem?_map, Option.map_eq_some_iff] at hp
  obtain ⟨v, hv, rfl⟩ := hp
  exact ⟨v, by simpa using hv, rel_val v⟩
theorem vcBuild_struct (hT : TabOk P T) {t : TypeId} {parts : List (Nat × Operand)} {ρ : Operand → Option AV} {val : Operand → Value} {K : AV → Prop} (hρ : ∀ x v, ρ x = some v → ARel I β w v (val x))
    {size bytes : Nat} {agg : Bool} {fs : List (Nat × TypeId)} {zero : List PV} (hl : look T t = some ⟨size, bytes, agg, .struct fs, zero⟩)
    {cs : List AV} (h1 : fs.all (fun f => (look T f.2).isSome) = true) (h2 : buildCells T fs ρ (pvs zero) parts = some cs) (h : K (.agg cs)) :
    ∃ r, K r ∧ Yields P I β w (Instr.build t (parts.toArray.map fun (i, x) => (i, val x))) r := by
  obtain ⟨i, u, z, hi, hu, hz, hzs, hsz, _, _, htk, hzero⟩ := look_spec hT hl
  obtain ⟨Fs, rfl, rfl⟩ := tkOf_struct htk
  obtain ⟨places, hp1, hp2⟩ := places_of hT _ h1
  rw [hzero] at h2
  obtain ⟨cells, hf, hr⟩ := buildCells_sound (pl := fun i => places.toArray[i]?) hT hρ (fun i off t d hi hd => by
    simp only [List.getElem?_map, Option.map_eq_some_iff, Prod.mk.injEq] at hi
    obtain ⟨fd, hfd, rfl, rfl⟩ := hi
    simpa using hp2 i fd d hfd hd) parts _ z.cells cs CRel.zero h2
  refine ⟨_, h, _, run_build w t _ cells ?_, hr.agg⟩
  simp only [Program.built, hi, hu, hz, hp1]
  simpa using hf
theorem arrFs_get {e t : TypeId} {z : Nat} : ∀ {n off i o : Nat}, (arrFs e z n off)[i]? = some (o, t) → o = off + i * z ∧ t = e
  | 0, _, _, _, h => by simp [arrFs] at h
  | n + 1, off, 0, o, h => by
    simp [arrFs] at h
    exact ⟨by rw [← h.1]; simp, h.2.symm⟩
  | n + 1, off, i + 1, o, h => by
    simp only [arrFs, List.getElem?_cons_succ] at h
    obtain ⟨h1, h2⟩ := arrFs_get h
    exact ⟨by rw [h1, Nat.add_mul]; omega, h2⟩
theorem vcBuild_array (hT : TabOk P T) {t e : TypeId} {n : Nat} {parts : List (Nat × Operand)} {ρ : Operand → Option AV} {val : Operand → Value} {K : AV → Prop} (hρ : ∀ x v, ρ x = some v → ARel I β w v (val x))
    {size bytes : Nat} {agg : Bool} {zero : List PV} (hl : look T t = some ⟨size, bytes, agg, .array n e, zero⟩)
    {esize ebytes : Nat} {eagg : Bool} {etk : TK} {ezero : List PV} (hle : look T e = some ⟨esize, ebytes, eagg, etk, ezero⟩)
    {cs : List AV} (h2 : buildCells T (arrFs e esize n 0) ρ (pvs zero) parts = some cs) (h : K (.agg cs)) :
    ∃ r, K r ∧ Yields P I β w (Instr.build t (parts.toArray.map fun (i, x) => (i, val x))) r := by
  obtain ⟨i, u, z, hi, hu, hz, hzs, hsz, _, _, htk, hzero⟩ := look_spec hT hl
  obtain ⟨ie, ue, ze, hie, _, _, _, hesz, _, _, _, _⟩ := look_spec hT hle
  have := tkOf_array htk; subst this
  rw [hzero] at h2
  obtain ⟨cells, hf, hr⟩ := buildCells_sound (pl := fun i => some (i * ie.size, ie.size)) hT hρ (fun i off t d hi hd => by
    obtain ⟨h1, rfl⟩ := arrFs_get hi
    rw [hie] at hd; injection hd with hd; subst hd
    rw [h1, hesz]; simp) parts _ z.cells cs CRel.zero h2
  refine ⟨_, h, _, run_build w t _ cells ?_, hr.agg⟩
  simp only [Program.built, hi, hu, hz, hie]
  simpa using hf
end
end Go.Cw
/-
  Cw, part M: operations that write or make memory.
-/
namespace Go.Cw
set_option linter.unusedVariables false
section
variable {P : Program} {T : Tab} {I : Nat → Prop} {β : Beta} {w : World} {H : Heap}
def Left_ (I : Nat → Prop) (β : Beta) (w : World) (H : Heap) (r : AV) (u : Upd) (v : Value) (w' : World) (site : Nat) : Prop :=
  ∃ I' β', HSim I' β' (app H u) w' ∧ ARel I' β' w' r v ∧ Evo I β w I' β' w' ∧ ∀ s, β[s]? = some none → s ≠ site → β'[s]? = some none
theorem Left_.same (hH : HSim I β H w) {r : AV} {v : Value} {site : Nat} (hr : ARel I β w r v) : Left_ I β w H r [] v w site :=
  ⟨I, β, hH, hr, Evo.refl _ _ _, fun _ h _ => h⟩
def BCells (I : Nat → Prop) (β : Beta) (w : World) (rows : Rows) (z : Nat) (c : Array Value) : Prop :=
  ∀ i j x, rowCell rows i j = some x → ∃ v, c[i * z + j]? = some v ∧ v.oneCell' = true ∧ ARel I β w x v
theorem new_obj (hH : HSim I β H w) {site : Nat} (hsite : β[site]? = some none) (ty z : Nat) (rows : Rows) (c : Array Value) (hw : rowsWide rows z) (hc : BCells I β w rows z c) {w' : World}
    {ob : Obj} (hob : ob = memOf rows c ty) (hw' : w' = w.alloc ob ∨ w' = w.drew.alloc ob) :
    HSim I (β.set site (some (w.heap.size, 0))) (H.set site (some ⟨ty, z, false, rows⟩)) w' ∧ Evo I β w I (β.set site (some (w.heap.size, 0))) w' := by
  have hnew : w'.heap[w.heap.size]? = some (memOf rows c ty) := by rw [← hob]; rcases hw' with rfl | rfl <;> exact heap_alloc_new _ _
  have hold : ∀ b, b < w.heap.size → w'.heap[b]? = w.heap[b]? := fun b hb => by
    rcases hw' with rfl | rfl
    · exact heap_alloc_old w _ hb
    · exact heap_alloc_old w.drew _ hb
  have hsz : w'.heap.size = w.heap.size + 1 := by rcases hw' with rfl | rfl <;> simp
  have hlt : site < β.length := by
    have := (List.getElem?_eq_some_iff.1 hsite).1; exact this
  have hpre : ∀ (i : Nat) b, β[i]? = some (some b) → (β.set site (some (w.heap.size, 0)))[i]? = some (some b) := fun i b hb => by
    by_cases h : site = i
    · subst h; rw [hsite] at hb; cases hb
    · rw [List.getElem?_set_ne h]; exact hb
  have hshape : ∀ b t n, w.shape? b = some (t, n) → w'.shape? b = some (t, n) := fun b t n hs => by
    have hb : b < w.heap.size := by
      rcases Nat.lt_or_ge b w.heap.size with h | h
      · exact h
      · simp [World.shape?, Array.getElem?_eq_none h] at hs
    simpa [World.shape?, hold b hb] using hs
  have hkI : ∀ b, I b → w'.heap[b]? = w.heap[b]? ∧ I b := fun b hb => ⟨hold b (hH.imm b hb), hb⟩
  refine ⟨⟨by simp [hH.len], fun i o ho => ?_, fun i j oi oj b b' hi hj hbi hbj hbb => ?_, ⟨fun b hb => ?_, hH.imm.gl.mono hkI⟩, fun i b hb => ?_⟩, ⟨?_, ?_, ?_, by omega, hpre, fun i b hb => ?_, fun b hb _ => hold b hb, hkI, fun b _ h => .inl h, hshape, ?_⟩⟩
  · by_cases h : site = i
    · subst h
      rw [List.getElem?_set_self (by rw [← hH.len]; exact hlt)] at ho
      injection ho with ho; injection ho with ho; subst ho
      refine ⟨(w.heap.size, 0), by rw [List.getElem?_set_self hlt], hw, ⟨(fun h => by cases h), (fun h => absurd (hH.imm _ h) (Nat.lt_irrefl _))⟩, c, hnew, fun i j x hx => ?_⟩
      obtain ⟨v, hv, h1, hr⟩ := hc i j x hx
      exact ⟨v, hv, h1, hr.mono hkI hpre hshape⟩
    · rw [List.getElem?_set_ne h] at ho
      obtain ⟨b, hb, hos⟩ := hH.obj i o ho
      exact ⟨b, hpre i b hb, hos.mono hkI hpre hshape (hold b.1 (hH.lt i b hb)) (fun h => h)⟩
  · by_cases h1 : site = i
    · by_cases h2 : site = j
      · omega
      · subst h1
        rw [List.getElem?_set_self hlt] at hbi
        rw [List.getElem?_set_ne h2] at hbj
        injection hbi with hbi; injection hbi with hbi; subst hbi
        exact absurd (hH.lt _ _ hbj) (by simp only at hbb; omega)
    · by_cases h2 : site = j
      · subst h2
        rw [List.getElem?_set_self hlt] at hbj
        rw [List.getElem?_set_ne h1] at hbi
        injection hbj with hbj; injection hbj with hbj; subst hbj
        exact absurd (hH.lt _ _ hbi) (by simp only at hbb; omega)
      · rw [List.getElem?_set_ne h1] at hi hbi
        rw [List.getElem?_set_ne h2] at hj hbj
        exact hH.inj i j oi oj b b' hi hj hbi hbj hbb
  · exact Nat.lt_of_lt_of_le (hH.imm b hb) (by omega)
  · by_cases h : site = i
    · subst h
      rw [List.getElem?_set_self hlt] at hb
      injection hb with hb; injection hb with hb; subst hb; simp only; omega
    · rw [List.getElem?_set_ne h] at hb
      exact Nat.lt_of_lt_of_le (hH.lt i b hb) (by omega)
  · rcases hw' with rfl | rfl <;> rfl
  · rcases hw' with rfl | rfl <;> rfl
  · rcases hw' with rfl | rfl <;> rfl
  · by_cases h : site = i
    · subst h
      rw [List.getElem?_set_self hlt] at hb
      injection hb with hb; injection hb with hb; subst hb
      exact .inl (Nat.le_refl _)
    · rw [List.getElem?_set_ne h] at hb
      exact .inr ⟨i, b, hb, rfl⟩
  · rcases hw' with rfl | rfl
    · exact Nat.le_refl _
    · exact Nat.le_succ _
theorem new_free {site s : Nat} {x : Option (Nat × Nat)} (h : β[s]? = some none) (hne : s ≠ site) : (β.set site x)[s]? = some none := by
  rw [List.getElem?_set_ne (fun e => hne e.symm)]; exact h
theorem box_cells {cs : List AV} {c : Array Value} (h : CRel I β w cs c) (h1 : ∀ u ∈ c.toList, u.oneCell' = true) {z : Nat} : BCells I β w (.box cs) z c := by
  intro i j x hx
  simp only [rowCell] at hx
  split at hx
  · rename_i hi; subst hi
    obtain ⟨v, hv, hr⟩ := h.2 j x hx
    refine ⟨v, by simpa using hv, h1 v ?_, hr⟩
    exact Array.mem_toList_iff.2 (Array.mem_of_getElem? hv)
  · cases hx
theorem new_box (hH : HSim I β H w) {site : Nat} (hsite : β[site]? = some none) (ty : Nat) {cs : List AV} {c : Array Value} (h : CRel I β w cs c) (h1 : ∀ u ∈ c.toList, u.oneCell' = true) :
    Left_ I β w H (.ptr site cs.length 0 0) [(site, some ⟨ty, cs.length, false, .box cs⟩)] (.pointer (some ⟨w.heap.size, 0, none⟩)) (w.alloc (.cells c ty)) site := by
  obtain ⟨a, b⟩ := new_obj hH hsite ty cs.length (.box cs) c rfl (box_cells h h1) rfl (.inl rfl)
  refine ⟨I, _, a, ?_, b, fun s hs hne => new_free hs hne⟩
  have hlt : site < β.length := (List.getElem?_eq_some_iff.1 hsite).1
  have := ARel.ptr (I := I) (w := w.alloc (.cells c ty)) (z := cs.length) (row := 0) (col := 0) (id := site) (b := (w.heap.size, 0)) (β := β.set site (some (w.heap.size, 0))) (by rw [List.getElem?_set_self hlt])
  simpa using this
theorem run_box (t : TypeId) (v : Value) : (Instr.box t v).run P w = .ok (.pointer (some ⟨w.heap.size, 0, none⟩)) (w.alloc (.cells v.cells t)) := by
  simp [Instr.box, newVar, newRow]
theorem run_alloc {t : TypeId} {i : TypeInfo} {z : Value} (hi : P.info? t = some i) (hz : i.zero = some z) (old : Value) :
    (Instr.alloc t true old).run P w = .ok (.pointer (some ⟨w.heap.size, 0, none⟩)) (w.alloc (.cells z.cells t)) := by
  simp [Instr.alloc, zeroValue, typeInfo, hi, hz, newVar, newRow]
theorem new_slice (hH : HSim I β H w) {site : Nat} (hsite : β[site]? = some none) (ty z n cap : Nat) (rows : Rows) (c : Array Value) (hw : rowsWide rows z) (hc : BCells I β w rows z c)
    (hn : n ≤ cap) (hcap : cap ≤ maxLen) (hmp : isMp rows = false) (hsz : c.size = cap * z) {w' : World} (hw' : w' = w.alloc (.cells c ty) ∨ w' = w.drew.alloc (.cells c ty)) :
    Left_ I β w H (.ms site z 0 n) [(site, some ⟨ty, z, false, rows⟩)] (.slice (some ⟨w.heap.size, 0, none⟩) n cap) w' site := by
  obtain ⟨a, b⟩ := new_obj hH hsite ty z rows c hw hc (memOf_cells hmp c ty).symm hw'
  refine ⟨I, _, a, ?_, b, fun s hs hne => new_free hs hne⟩
  have hlt : site < β.length := (List.getElem?_eq_some_iff.1 hsite).1
  have hnew : w'.heap[w.heap.size]? = some (.cells c ty (0, 0)) := by rcases hw' with rfl | rfl <;> exact heap_alloc_new _ _
  have := ARel.ms (I := I) (w := w') (z := z) (off := 0) (id := site) (b := (w.heap.size, 0)) (o := 0) (β := β.set site (some (w.heap.size, 0))) (by rw [List.getElem?_set_self hlt]) hn hcap (.inl (by simp)) ⟨ty, by
    simp only; rw [shape_of_heap hnew, hsz]; simp⟩
  exact this
theorem purify_spec : ∀ {l : List AV} {ps : List PV}, purify l = some ps → l = pvs ps
  | [], ps, h => by simp [purify] at h; subst h; rfl
  | x :: l, ps, h => by
    cases x <;> simp only [purify] at h <;> try (cases h; done)
    rename_i p
    split at h
    · rename_i qs hq
      injection h with h; subst h
      simp [pvs, purify_spec hq]
    · cases h
theorem mkRows_go : ∀ {xs : List (List AV)} {ps : List (List PV)}, mkRows.go xs = some ps → xs = ps.map pvs
  | [], ps, h => by simp [mkRows.go] at h; subst h; rfl
  | r :: l, ps, h => by
    simp only [mkRows.go] at h
    split at h
    · rename_i p ps' h1 h2
      injection h with h; subst h
      simp [purify_spec h1, mkRows_go h2]
    · cases h
theorem rowCell_p (xs : List (List PV)) (i j : Nat) : rowCell (.p xs) i j = rowCell (.m (xs.map pvs)) i j := by
  simp only [rowCell, List.getElem?_map]
  cases xs[i]? with
  | none => rfl
  | some r =>
    simp only [Option.bind_some, Option.map_some]
    induction r generalizing j with
    | nil => simp [pvs]
    | cons p r ih => cases j <;> simp [pvs, ih]
theorem rowCell_mk (xs : List (List AV)) (i j : Nat) : rowCell (mkRows xs) i j = rowCell (.m xs) i j := by
  unfold mkRows
  split
  · rename_i ps h
    rw [rowCell_p, ← mkRows_go h]
  · rfl
theorem rowsWide_mk {xs : List (List AV)} {z : Nat} (h : rowsWide (.m xs) z) : rowsWide (mkRows xs) z := by
  unfold mkRows
  split
  · rename_i ps hp
    have e := mkRows_go hp
    intro i r hr
    have := h i (pvs r) (by rw [e]; simp [hr])
    simpa [pvs_length] using this
  · exact h
def flatV (f : Nat → List Value) (n : Nat) : List Value := (List.range n).flatMap f
theorem flatV_length {f : Nat → List Value} {z : Nat} : ∀ {n : Nat}, (∀ i, i < n → (f i).length = z) → (flatV f n).length = n * z
  | 0, _ => by simp [flatV]
  | n + 1, h => by
    have ih := flatV_length (n := n) (fun i hi => h i (by omega))
    simp only [flatV] at ih
    simp only [flatV, List.range_succ, List.flatMap_append, List.length_append, ih, List.flatMap_cons, List.flatMap_nil, List.append_nil, h n (by omega), Nat.succ_mul]
theorem flatV_get {f : Nat → List Value} {z : Nat} : ∀ {n : Nat}, (∀ i, i < n → (f i).length = z) → ∀ i j, i < n → j < z → (flatV f n)[i * z + j]? = (f i)[j]?
  | 0, _, i, j, hi, _ => by omega
  | n + 1, h, i, j, hi, hj => by
    have ih := flatV_get (n := n) (fun i hi => h i (by omega))
    have hl := flatV_length (n := n) (fun i hi => h i (by omega))
    have e : flatV f (n + 1) = flatV f n ++ f n := by simp [flatV, List.range_succ]
    rw [e]
    by_cases hn : i < n
    · have hlt : i * z + j < n * z := by
        have := Nat.mul_le_mul_right z (show i + 1 ≤ n from hn)
        rw [Nat.succ_mul] at this; omega
      rw [List.getElem?_append_left (by rw [hl]; exact hlt)]
      exact ih i j hn hj
    · have : i = n := by omega
      subst this
      rw [List.getElem?_append_right (by rw [hl]; omega), hl]
      congr 1; omega
structure Src (I : Nat → Prop) (β : Beta) (w : World) (rows : Rows) (z m : Nat) (v : Value) (news : List Value) : Prop where
  len : news.length = m * z
  form : (∃ c, v = .slice none 0 c ∧ m = 0) ∨ ∃ a c, v = .slice (some a) m c ∧ ∀ (k : Nat) u, news[k]? = some u → w.cell? (a.add k) = some u
  one : ∀ u ∈ news, u.oneCell' = true
  cell : ∀ i j x, rowCell rows i j = some x → ∃ u, news[i * z + j]? = some u ∧ u.oneCell' = true ∧ ARel I β w x u
  wide : rowsWide rows z
  rl : rowsLen rows = m
end
end Go.Cw
/-
  Cw, part N: store, literals of slices, make, append.
-/
namespace Go.Cw
set_option linter.unusedVariables false
section
variable {P : Program} {T : Tab} {I : Nat → Prop} {β : Beta} {w : World} {H : Heap}
theorem mul_lt_of {i j n z : Nat} (hi : i < n) (hj : j < z) : i * z + j < n * z := by
  have := Nat.mul_le_mul_right z (show i + 1 ≤ n from hi)
  rw [Nat.succ_mul] at this; omega
theorem rowCell_lt {rows : Rows} {i j : Nat} {x : AV} {z : Nat} (hw : rowsWide rows z) (h : rowCell rows i j = some x) : j < z := by
  cases rows with
  | box cs =>
    simp only [rowCell] at h
    split at h
    · have := (List.getElem?_eq_some_iff.1 h).1
      simp only [rowsWide] at hw; omega
    · cases h
  | p xs =>
    simp only [rowCell, Option.map_eq_some_iff, Option.bind_eq_some_iff] at h
    obtain ⟨p, ⟨r, hr, hp⟩, _⟩ := h
    have := hw i r hr
    have := (List.getElem?_eq_some_iff.1 hp).1; omega
  | m xs =>
    simp only [rowCell, Option.bind_eq_some_iff] at h
    obtain ⟨r, hr, hp⟩ := h
    have := hw i r hr
    have := (List.getElem?_eq_some_iff.1 hp).1; omega
  | mp s k es ck =>
    simp only [rowCell] at h
    split at h
    · have := hw.1; omega
    · cases h
theorem obj_at0 (hH : HSim I β H w) {id : Nat} {b : Nat × Nat} {o : AObj} (ho : H[id]? = some (some o)) (hb : β[id]? = some (some b)) :
    rowsWide o.rows o.z ∧ (o.fz = true ↔ I b.1) ∧ ∃ c, w.heap[b.1]? = some (memOf o.rows c o.ty) ∧ ∀ i j x, rowCell o.rows i j = some x → ∃ v, c[(i + b.2) * o.z + j]? = some v ∧ v.oneCell' = true ∧ ARel I β w x v := by
  obtain ⟨b', hb', hos⟩ := hH.obj id o ho
  rw [hb] at hb'
  injection hb' with hb'; injection hb' with hb'; subst hb'
  exact hos
theorem obj_at (hH : HSim I β H w) {id : Nat} {b : Nat × Nat} {o : AObj} (ho : H[id]? = some (some o)) (hb : β[id]? = some (some b)) (hmp : isMp o.rows = false) :
    rowsWide o.rows o.z ∧ (o.fz = true ↔ I b.1) ∧ ∃ c, w.heap[b.1]? = some (.cells c o.ty (0, 0)) ∧ ∀ i j x, rowCell o.rows i j = some x → ∃ v, c[(i + b.2) * o.z + j]? = some v ∧ v.oneCell' = true ∧ ARel I β w x v := by
  obtain ⟨h1, h2, c, h3, h4⟩ := obj_at0 hH ho hb
  exact ⟨h1, h2, c, by rw [← memOf_cells hmp]; exact h3, h4⟩
theorem sub_rows {α : Type} {xs : List α} {off len i : Nat} {r : α} (h : ((xs.drop off).take len)[i]? = some r) : xs[off + i]? = some r ∧ i < len := by
  have hlt := (List.getElem?_eq_some_iff.1 h).1
  simp only [List.length_take] at hlt
  rw [List.getElem?_take_of_lt (by omega), List.getElem?_drop] at h
  exact ⟨h, by omega⟩
theorem src_of (hH : HSim I β H w) {x : AV} {v : Value} {z : Nat} {rx : Rows} {rdx : List Nat} (hx : ARel I β w x v) (hz : srcOk z x = true) (hs : srcRows H x = some (rx, rdx)) (hl : srcLen x = rowsLen rx) :
    ∃ news, Src I β w rx z (rowsLen rx) v news := by
  unfold srcRows at hs
  split at hs
  · injection hs with hs; injection hs with h1 h2; subst h1
    obtain rfl := val_inv hx
    exact ⟨[], by simp [rowsLen], .inl ⟨0, rfl, rfl⟩, by simp, fun i j x h => by simp [rowCell] at h, fun i r h => by simp at h, rfl⟩
  · rename_i z' xs
    injection hs with hs; injection hs with h1 h2; subst h1
    have hz := Nat.eq_of_beq_eq_true hz; subst hz
    obtain ⟨ad, cap, rfl, hcap, u, h1, h2⟩ := sl_inv hx
    refine ⟨flatV (fun i => (List.range z').map fun j => u i j) xs.length, ?_, ?_, ?_, ?_, ?_, rfl⟩
    · rw [flatV_length (z := z') (fun i _ => by simp)]; rfl
    · cases ad with
      | none =>
        left
        refine ⟨cap, ?_, ?_⟩
        · cases xs with
          | nil => rfl
          | cons r l => obtain ⟨_, a, ha, _⟩ := h1 0 r rfl; cases ha
        · cases xs with
          | nil => rfl
          | cons r l => obtain ⟨_, a, ha, _⟩ := h1 0 r rfl; cases ha
      | some a =>
        right
        refine ⟨a, cap, rfl, fun k y hk => ?_⟩
        have hlt := (List.getElem?_eq_some_iff.1 hk).1
        rw [flatV_length (z := z') (fun i _ => by simp)] at hlt
        have hz0 : 0 < z' := by rcases Nat.eq_zero_or_pos z' with h | h; (subst h; simp at hlt); exact h
        have hi : k / z' < xs.length := by rw [Nat.div_lt_iff_lt_mul hz0]; exact hlt
        have hj : k % z' < z' := Nat.mod_lt _ hz0
        have hk2 : k = k / z' * z' + k % z' := by rw [Nat.mul_comm]; exact (Nat.div_add_mod k z').symm
        rw [hk2, flatV_get (z := z') (fun i _ => by simp) _ _ hi hj] at hk
        simp [hj] at hk
        obtain ⟨hlr, a', ha', _, hc⟩ := h1 (k / z') _ (List.getElem?_eq_getElem hi)
        injection ha' with ha'; subst ha'
        rw [hk2, (hc _ hj).1, hk]
    · intro y hy
      simp only [flatV, List.mem_flatMap, List.mem_map, List.mem_range] at hy
      obtain ⟨i, hi, j, hj, rfl⟩ := hy
      obtain ⟨_, a, _, _, hc⟩ := h1 i _ (List.getElem?_eq_getElem hi)
      exact (hc j hj).2
    · intro i j x hx
      simp only [rowCell, Option.map_eq_some_iff, Option.bind_eq_some_iff] at hx
      obtain ⟨p, ⟨r, hr, hp⟩, rfl⟩ := hx
      obtain ⟨hlr, a, _, _, hc⟩ := h1 i r hr
      have hi := (List.getElem?_eq_some_iff.1 hr).1
      have hj : j < z' := by have := (List.getElem?_eq_some_iff.1 hp).1; omega
      refine ⟨u i j, ?_, (hc j hj).2, .pv (h2 i r j p hr hp)⟩
      rw [flatV_get (z := z') (fun i _ => by simp) _ _ hi hj]
      simp [hj]
    · intro i r hr
      exact (h1 i r hr).1
  · rename_i id z' off len
    have hz := Nat.eq_of_beq_eq_true hz; subst hz
    obtain ⟨b, cap, o', rfl, hbl, hcap, hm, ho', t, hsh⟩ := ms_inv hx
    split at hs
    · rename_i o ho
      have key : isMp o.rows = false → ∀ (xs : List (List AV)), (∀ i j, rowCell o.rows i j = rowCell (.m xs) i j) → rowsWide (.m xs) o.z → o.z = z' → (∀ i j, rowCell rx i j = rowCell (.m ((xs.drop off).take len)) i j) →
          rowsLen rx = ((xs.drop off).take len).length → rowsWide rx z' → ∃ news, Src I β w rx z' (rowsLen rx) (.slice (some ⟨b.1, o', none⟩) len cap) news := by
        intro hmp xs hxs hwide hzz hrx hrl hrw
        subst hzz
        obtain ⟨hw, hfz, c, hc, hcell⟩ := obj_at hH ho hbl hmp
        have hlen : len = ((xs.drop off).take len).length := by rw [← hrl, ← hl]; rfl
        have hle : off + len ≤ xs.length ∨ len = 0 := by simp at hlen; omega
        refine ⟨flatV (fun i => (List.range o.z).map fun j => (c[(off + i + b.2) * o.z + j]?).getD undef) len, ?_, ?_, ?_, ?_, hrw, rfl⟩
        · rw [flatV_length (z := o.z) (fun i _ => by simp), hrl, ← hlen]
        · right
          refine ⟨⟨b.1, o', none⟩, cap, by rw [hrl, ← hlen], fun k y hk => ?_⟩
          have hlt := (List.getElem?_eq_some_iff.1 hk).1
          rw [flatV_length (z := o.z) (fun i _ => by simp)] at hlt
          have hz0 : 0 < o.z := by rcases Nat.eq_zero_or_pos o.z with h | h; (rw [h] at hlt; simp at hlt); exact h
          have hi : k / o.z < len := by rw [Nat.div_lt_iff_lt_mul hz0]; exact hlt
          have hj : k % o.z < o.z := Nat.mod_lt _ hz0
          have hk2 : k = k / o.z * o.z + k % o.z := by rw [Nat.mul_comm]; exact (Nat.div_add_mod k o.z).symm
          have hoo : o' = (off + b.2) * o.z := ho'.resolve_right (fun e => by
            have hl0 : len = 0 := Nat.le_zero.1 (e.1 ▸ hcap)
            rw [hl0] at hi
            exact Nat.not_lt_zero _ hi)
          generalize k / o.z = q at *
          generalize k % o.z = m at *
          have hrow : xs[off + q]? = some (xs[off + q]'(by omega)) := List.getElem?_eq_getElem _
          have hwr := hwide _ _ hrow
          have hcl : rowCell o.rows (off + q) m = some ((xs[off + q]'(by omega))[m]'(by omega)) := by
            rw [hxs]; simp only [rowCell, hrow, Option.bind_some]; exact List.getElem?_eq_getElem _
          obtain ⟨v, hv, _, _⟩ := hcell _ _ _ hcl
          rw [hk2, flatV_get (z := o.z) (fun i _ => by simp) _ _ hi hj] at hk
          simp only [List.getElem?_map, List.getElem?_range hj, Option.map_some, hv, Option.getD_some, Option.some.injEq] at hk
          subst hk
          rw [add_at, cell_of_row w b.1 _ c o.ty (0, 0) hc, hoo, ← hv]
          congr 1
          rw [show off + q + b.2 = off + b.2 + q from by omega, Nat.add_mul (off + b.2) q, Nat.add_assoc, ← hk2]
        · intro y hy
          simp only [flatV, List.mem_flatMap, List.mem_map, List.mem_range] at hy
          obtain ⟨i, hi, j, hj, rfl⟩ := hy
          have hrow : xs[off + i]? = some (xs[off + i]'(by omega)) := List.getElem?_eq_getElem _
          have hwr := hwide _ _ hrow
          have hcl : rowCell o.rows (off + i) j = some ((xs[off + i]'(by omega))[j]'(by omega)) := by
            rw [hxs]; simp only [rowCell, hrow, Option.bind_some]; exact List.getElem?_eq_getElem _
          obtain ⟨v, hv, h1, _⟩ := hcell _ _ _ hcl
          rw [hv]; exact h1
        · intro i j x hx
          have hj := rowCell_lt hrw hx
          rw [hrx] at hx
          simp only [rowCell, Option.bind_eq_some_iff] at hx
          obtain ⟨r, hr, hp⟩ := hx
          obtain ⟨hr', hi⟩ := sub_rows hr
          have hcl : rowCell o.rows (off + i) j = some x := by rw [hxs]; simp only [rowCell, hr', Option.bind_some]; exact hp
          obtain ⟨v, hv, h1, hrel⟩ := hcell _ _ _ hcl
          refine ⟨v, ?_, h1, hrel⟩
          rw [flatV_get (z := o.z) (fun i _ => by simp) _ _ hi hj]
          simp [hj, hv]
      have hw := (obj_at0 hH ho hbl).1
      split at hs
      · rename_i xs hzz hrows
        injection hs with hs; injection hs with h1 h2; subst h1
        have hzz := Nat.eq_of_beq_eq_true hzz
        rw [hrows] at hw
        refine key (by rw [hrows]; rfl) (xs.map pvs) (fun i j => by rw [hrows, rowCell_p]) (fun i r hr => ?_) hzz (fun i j => by rw [rowCell_p, List.map_take, List.map_drop]) (by simp [rowsLen]) (fun i r hr => ?_)
        · simp only [List.getElem?_map, Option.map_eq_some_iff] at hr
          obtain ⟨r', hr', rfl⟩ := hr
          rw [pvs_length]; exact hw i r' hr'
        · rw [← hzz]; exact hw _ r (sub_rows hr).1
      · rename_i xs hzz hrows
        injection hs with hs; injection hs with h1 h2; subst h1
        have hzz := Nat.eq_of_beq_eq_true hzz
        rw [hrows] at hw
        refine key (by rw [hrows]; rfl) xs (fun i j => by rw [hrows]) hw hzz (fun i j => rfl) rfl (fun i r hr => ?_)
        rw [← hzz]; exact hw _ r (sub_rows hr).1
      · cases hs
    · cases hs
  · cases hs
theorem rowsLen_cat {a b c : Rows} (h : catRows a b = some c) : rowsLen c = rowsLen a + rowsLen b := by
  unfold catRows at h
  split at h <;> first | (injection h with h; subst h; simp [rowsLen]) | cases h
theorem rowsWide_cat {a b c : Rows} {z : Nat} (h : catRows a b = some c) (ha : rowsWide a z) (hb : rowsWide b z) : rowsWide c z := by
  unfold catRows at h
  split at h
  · injection h with h; subst h
    intro i r hr
    rw [List.getElem?_append] at hr
    split at hr
    · exact ha i r hr
    · exact hb _ r hr
  · injection h with h; subst h
    intro i r hr
    rw [List.getElem?_append] at hr
    split at hr
    · exact ha i r hr
    · exact hb _ r hr
  · injection h with h; subst h
    intro i r hr
    rw [List.getElem?_append] at hr
    split at hr
    · simp only [List.getElem?_map, Option.map_eq_some_iff] at hr
      obtain ⟨r', hr', rfl⟩ := hr
      rw [pvs_length]; exact ha i r' hr'
    · exact hb _ r hr
  · injection h with h; subst h
    intro i r hr
    rw [List.getElem?_append] at hr
    split at hr
    · exact ha i r hr
    · simp only [List.getElem?_map, Option.map_eq_some_iff] at hr
      obtain ⟨r', hr', rfl⟩ := hr
      rw [pvs_length]; exact hb _ r' hr'
  · cases h
theorem rowCell_cat {a b c : Rows} (h : catRows a b = some c) (i j : Nat) : rowCell c i j = if i < rowsLen a then rowCell a i j else rowCell b (i - rowsLen a) j := by
  unfold catRows at h
  split at h
  · rename_i a b
    injection h with h; subst h
    simp only [rowCell, rowsLen, List.getElem?_append]
    by_cases hi : i < a.length <;> simp only [hi, if_true, if_false]
  · rename_i a b
    injection h with h; subst h
    simp only [rowCell, rowsLen, List.getElem?_append]
    by_cases hi : i < a.length <;> simp only [hi, if_true, if_false]
  · rename_i a b
    injection h with h; subst h
    rw [rowCell_p a]
    simp only [rowCell, rowsLen, List.getElem?_append, List.length_map]
    by_cases hi : i < a.length <;> simp only [hi, if_true, if_false]
  · rename_i a b
    injection h with h; subst h
    rw [rowCell_p]
    simp only [rowCell, rowsLen, List.getElem?_append]
    by_cases hi : i < a.length <;> simp only [hi, if_true, if_false]
  · cases h
theorem cat_cells {a b c : Rows} {z n : Nat} (h : catRows a b = some c) (hwa : rowsWide a z) (hwb : rowsWide b z) (hn : n = rowsLen a) {old new : List Value} (hol : old.length = n * z)
    (hold : ∀ i j x, rowCell a i j = some x → ∃ v, old[i * z + j]? = some v ∧ v.oneCell' = true ∧ ARel I β w x v) (hnew : ∀ i j x, rowCell b i j = some x → ∃ v, new[i * z + j]? = some v ∧ v.oneCell' = true ∧ ARel I β w x v)
    {arr : Array Value} (harr : ∀ (k : Nat) v, (old ++ new)[k]? = some v → arr[k]? = some v) : BCells I β w c z arr := by
  intro i j x hx
  have hj := rowCell_lt (rowsWide_cat h hwa hwb) hx
  rw [rowCell_cat h] at hx
  by_cases hi : i < rowsLen a
  · rw [if_pos hi] at hx
    obtain ⟨v, hv, h1, hr⟩ := hold i j x hx
    refine ⟨v, harr _ _ ?_, h1, hr⟩
    rw [List.getElem?_append_left (by rw [hol, hn]; exact mul_lt_of hi hj)]
    exact hv
  · rw [if_neg hi] at hx
    obtain ⟨v, hv, h1, hr⟩ := hnew _ j x hx
    refine ⟨v, harr _ _ ?_, h1, hr⟩
    have e : i * z = n * z + (i - rowsLen a) * z := by rw [← Nat.add_mul]; congr 1; omega
    rw [List.getElem?_append_right (by rw [hol, e]; omega), hol, ← hv]
    congr 1
    omega
end
end Go.Cw
/-
  Cw, part O: a block that is written; append, store, make and literals of slices.
-/
namespace Go.Cw
set_option linter.unusedVariables false
section
variable {P : Program} {T : Tab} {I : Nat → Prop} {β : Beta} {w : World} {H : Heap}
def BCellsAt (I : Nat → Prop) (β : Beta) (w : World) (rows : Rows) (z s : Nat) (c : Array Value) : Prop :=
  ∀ i j x, rowCell rows i j = some x → ∃ v, c[(i + s) * z + j]? = some v ∧ v.oneCell' = true ∧ ARel I β w x v
theorem heap_upd (hH : HSim I β H w) {id tgt : Nat} {b b2 : Nat × Nat} {o on : AObj} (ho : H[id]? = some (some o)) (hb : β[id]? = some (some b)) (hbb : b2.1 = b.1) (hfz : o.fz = false) (hfn : on.fz = false) {w' : World} {arr : Array Value}
    (hw1 : w'.heap[b.1]? = some (memOf on.rows arr on.ty)) (hshb : ∀ t n, w.shape? b.1 = some (t, n) → w'.shape? b.1 = some (t, n)) (hw2 : ∀ k, k ≠ b.1 → w'.heap[k]? = w.heap[k]?) (hw3 : w'.heap.size = w.heap.size)
    (hos : w'.os = w.os) (htp : w'.tape = w.tape) (hout : w'.output = w.output) (hdr : w.drawn ≤ w'.drawn) {β2 : Beta} {H2 : Heap} (hlen : β2.length = H2.length) (hpre : ∀ (i : Nat) b, β[i]? = some (some b) → β2[i]? = some (some b))
    (hlive : ∀ (i : Nat) o2, H2[i]? = some (some o2) → (H[i]? = some (some o2) ∧ i ≠ id) ∨ (i = tgt ∧ o2 = on)) (htgt : β2[tgt]? = some (some b2)) (hnew : ∀ (i : Nat) b', β2[i]? = some (some b') → β[i]? = some (some b') ∨ b' = b2)
    (hwide : rowsWide on.rows on.z) (hcell : BCellsAt I β w on.rows on.z b2.2 arr) : HSim I β2 H2 w' ∧ Evo I β w I β2 w' := by
  have hIb : ¬ I b.1 := fun h => by
    have := (obj_at0 hH ho hb).2.1.2 h
    rw [hfz] at this; cases this
  have hkI : ∀ k, I k → w'.heap[k]? = w.heap[k]? ∧ I k := fun k hk => ⟨hw2 k (fun e => hIb (e ▸ hk)), hk⟩
  have hshape : ∀ k t n, w.shape? k = some (t, n) → w'.shape? k = some (t, n) := fun k t n hs => by
    by_cases hkb : k = b.1
    · subst hkb
      exact hshb t n hs
    · simpa [World.shape?, hw2 k hkb] using hs
  have hblt : b.1 < w.heap.size := hH.lt id b hb
  refine ⟨⟨hlen, fun i o2 ho2 => ?_, fun i j oi oj bi bj hi hj hbi hbj hbij => ?_, ⟨fun k hk => by rw [hw3]; exact hH.imm k hk, hH.imm.gl.mono hkI⟩, fun i b' hb' => ?_⟩,
    ⟨hos, htp, hout, by omega, hpre, fun i b' hb' => ?_, fun k hk hn => hw2 k (fun e => hn id b hb e.symm), hkI, fun k _ h => .inl h, hshape, hdr⟩⟩
  · rcases hlive i o2 ho2 with ⟨h1, h2⟩ | ⟨rfl, rfl⟩
    · obtain ⟨bi, hbi, hosim⟩ := hH.obj i o2 h1
      have hne : bi.1 ≠ b.1 := fun e => h2 (hH.inj i id o2 o bi b h1 ho hbi hb e)
      exact ⟨bi, hpre i bi hbi, hosim.mono hkI hpre hshape (hw2 bi.1 hne) (fun h => h)⟩
    · refine ⟨b2, htgt, hwide, ⟨(fun h => absurd (hfn ▸ h) (by simp)), (fun h => absurd h (by rw [hbb]; exact hIb))⟩, arr, by rw [hbb]; exact hw1, fun i j x hx => ?_⟩
      obtain ⟨v, hv, h1, hr⟩ := hcell i j x hx
      exact ⟨v, hv, h1, hr.mono hkI hpre hshape⟩
  · have val : ∀ {k : Nat} {x y : Nat × Nat}, β2[k]? = some (some x) → β2[k]? = some (some y) → x = y := fun h1 h2 => by
      rw [h1] at h2; injection h2 with h2; injection h2
    rcases hlive i oi hi with ⟨h1, h2⟩ | ⟨rfl, rfl⟩
    · obtain ⟨bi0, hbi', _⟩ := hH.obj i oi h1
      obtain rfl := val (hpre i bi0 hbi') hbi
      have hne : bi0.1 ≠ b.1 := fun e => h2 (hH.inj i id oi o bi0 b h1 ho hbi' hb e)
      rcases hlive j oj hj with ⟨h3, h4⟩ | ⟨rfl, rfl⟩
      · obtain ⟨bj0, hbj', _⟩ := hH.obj j oj h3
        obtain rfl := val (hpre j bj0 hbj') hbj
        exact hH.inj i j oi oj bi0 bj0 h1 h3 hbi' hbj' hbij
      · obtain rfl := val htgt hbj
        exact absurd (hbij.trans hbb) hne
    · obtain rfl := val htgt hbi
      rcases hlive j oj hj with ⟨h3, h4⟩ | ⟨rfl, rfl⟩
      · obtain ⟨bj0, hbj', _⟩ := hH.obj j oj h3
        obtain rfl := val (hpre j bj0 hbj') hbj
        exact absurd (hH.inj j id oj o bj0 b h3 ho hbj' hb (hbij.symm.trans hbb)) h4
      · rfl
  · rcases hnew i b' hb' with h | rfl
    · rw [hw3]; exact hH.lt i b' h
    · rw [hw3, hbb]; exact hblt
  · rcases hnew i b' hb' with h | rfl
    · exact .inr ⟨i, b', h, rfl⟩
    · exact .inr ⟨id, b, hb, hbb.symm⟩
theorem append_here (hH : HSim I β H w) {id site cap off : Nat} {b : Nat × Nat} {o' : Nat} {o : AObj} (ho : H[id]? = some (some o)) (hb : β[id]? = some (some b)) (hfz : o.fz = false) (hsite : β[site]? = some none) {w' : World} {c arr : Array Value}
    (hc : w.heap[b.1]? = some (.cells c o.ty (0, 0))) (hw1 : w'.heap[b.1]? = some (.cells arr o.ty (0, 0))) (hsz : arr.size = c.size) (hw2 : ∀ k, k ≠ b.1 → w'.heap[k]? = w.heap[k]?) (hw3 : w'.heap.size = w.heap.size)
    (hos : w'.os = w.os) (htp : w'.tape = w.tape) (hout : w'.output = w.output) (hdr : w.drawn ≤ w'.drawn) {rr : Rows} {n z : Nat} (hwide : rowsWide rr z) (hmp : isMp rr = false) (hcell : BCellsAt I β w rr z (off + b.2) arr) (hn : n ≤ cap) (hcm : cap ≤ maxLen) (hcs : c.size = (off + b.2 + cap) * z)
    (ho' : o' = (off + b.2) * z ∨ (cap = 0 ∧ 0 < off + b.2)) :
    Left_ I β w H (.ms site z 0 n) [(id, none), (site, some ⟨o.ty, z, false, rr⟩)] (.slice (some ⟨b.1, o', none⟩) n cap) w' site := by
  have hlt : site < β.length := (List.getElem?_eq_some_iff.1 hsite).1
  have hne : site ≠ id := fun e => by subst e; rw [hsite] at hb; cases hb
  obtain ⟨h1, h2⟩ := heap_upd (on := ⟨o.ty, z, false, rr⟩) (tgt := site) (b2 := (b.1, off + b.2)) (β2 := β.set site (some (b.1, off + b.2))) (H2 := (H.set id none).set site (some ⟨o.ty, z, false, rr⟩)) hH ho hb rfl hfz rfl (by rw [memOf_cells hmp]; exact hw1) (fun t n hs => by rw [shape_of_heap hc] at hs; rw [shape_of_heap hw1, hsz]; exact hs) hw2 hw3 hos htp hout hdr
    (by simp [hH.len]) (fun i b' hb' => by
      by_cases h : site = i
      · subst h; rw [hsite] at hb'; cases hb'
      · rw [List.getElem?_set_ne h]; exact hb')
    (fun i o2 ho2 => by
      by_cases h : site = i
      · subst h
        rw [List.getElem?_set_self (by rw [List.length_set, ← hH.len]; exact hlt)] at ho2
        injection ho2 with ho2; injection ho2 with ho2
        exact .inr ⟨rfl, ho2.symm⟩
      · rw [List.getElem?_set_ne h] at ho2
        by_cases h3 : id = i
        · subst h3
          rw [List.getElem?_set_self (List.getElem?_eq_some_iff.1 ho).1] at ho2
          cases ho2
        · rw [List.getElem?_set_ne h3] at ho2
          exact .inl ⟨ho2, fun e => h3 e.symm⟩)
    (by rw [List.getElem?_set_self hlt]) (fun i b' hb' => by
      by_cases h : site = i
      · subst h; rw [List.getElem?_set_self hlt] at hb'; injection hb' with hb'; injection hb' with hb'; exact .inr hb'.symm
      · rw [List.getElem?_set_ne h] at hb'; exact .inl hb') hwide hcell
  refine ⟨I, _, h1, ?_, h2, fun s hs hne => new_free hs hne⟩
  have := ARel.ms (I := I) (w := w') (z := z) (off := 0) (id := site) (b := (b.1, off + b.2)) (o := o') (β := β.set site (some (b.1, off + b.2))) (by rw [List.getElem?_set_self hlt]) hn hcm (by rw [Nat.zero_add]; exact ho')
    ⟨o.ty, by simp only; rw [shape_of_heap hw1, hsz, hcs, Nat.zero_add]⟩
  exact this
theorem append_there (hH : HSim I β H w) {id site cap : Nat} {o : AObj} (ho : H[id]? = some (some o)) (hsite : β[site]? = some none) (hid : β[id]? ≠ some none) {arr : Array Value} {rr : Rows} {n z : Nat} (ty : TypeId)
    (hwide : rowsWide rr z) (hmp : isMp rr = false) (hcell : BCells I β w rr z arr) (hn : n ≤ cap) (hcm : cap ≤ maxLen) (hcs : arr.size = cap * z) {w' : World} (hw' : w' = w.alloc (.cells arr ty) ∨ w' = w.drew.alloc (.cells arr ty)) :
    Left_ I β w H (.ms site z 0 n) [(id, none), (site, some ⟨ty, z, false, rr⟩)] (.slice (some ⟨w.heap.size, 0, none⟩) n cap) w' site := by
  have hH2 : HSim I β (H.set id none) w := by
    refine ⟨by simp [hH.len], fun i o2 ho2 => ?_, fun i j oi oj b b' hi hj hbi hbj hbb => ?_, hH.imm, hH.lt⟩
    · by_cases h : id = i
      · subst h; rw [List.getElem?_set_self (List.getElem?_eq_some_iff.1 ho).1] at ho2; cases ho2
      · rw [List.getElem?_set_ne h] at ho2; exact hH.obj i o2 ho2
    · by_cases h : id = i
      · subst h; rw [List.getElem?_set_self (List.getElem?_eq_some_iff.1 ho).1] at hi; cases hi
      · by_cases h2 : id = j
        · subst h2; rw [List.getElem?_set_self (List.getElem?_eq_some_iff.1 ho).1] at hj; cases hj
        · rw [List.getElem?_set_ne h] at hi; rw [List.getElem?_set_ne h2] at hj
          exact hH.inj i j oi oj b b' hi hj hbi hbj hbb
  exact new_slice hH2 hsite ty z n cap rr arr hwide hcell hn hcm hmp hcs hw'
theorem run_append_nil_src (t ty e : TypeId) (i : TypeInfo) (ht : P.underlying t = some (.slice e)) (hi : P.info? e = some i) (A : Option Addr) (n cap c : Nat) (hn : n ≤ cap) :
    (Builtin.append_ #[t, t] ty #[.slice A n cap, .slice none 0 c]).run P w = .ok (.slice A n cap) w := by
  cases A <;> simp [Builtin.append_, run_underlying ht, sizeOf, typeInfo, hi, Builtin.lenOf, Builtin.firstCells, hn, storeCells]
theorem run_append_empty_src (t ty e : TypeId) (i : TypeInfo) (ht : P.underlying t = some (.slice e)) (hi : P.info? e = some i) (a : Addr) (c : Nat) :
    (Builtin.append_ #[t, t] ty #[.slice none 0 0, .slice (some a) 0 c]).run P w = .ok (.slice none 0 0) w := by
  simp [Builtin.append_, run_underlying ht, sizeOf, typeInfo, hi, Builtin.lenOf, Builtin.firstCells, loadCells, loadCellsFrom]
theorem rowCell_rl {a b c : Rows} (hcat : catRows a b = some c) {i j : Nat} {x : AV} (hx : rowCell a i j = some x) : i < rowsLen a := by
  cases a with
  | box cs => cases b <;> simp [catRows] at hcat
  | p xs =>
    rcases Nat.lt_or_ge i xs.length with h | h
    · exact h
    · simp [rowCell, List.getElem?_eq_none h] at hx
  | m xs =>
    rcases Nat.lt_or_ge i xs.length with h | h
    · exact h
    · simp [rowCell, List.getElem?_eq_none h] at hx
  | mp s k es ck => cases b <;> simp [catRows] at hcat
theorem rowCell_drop {off : Nat} {a : Rows} {i j : Nat} {x : AV} (hx : rowCell (dropR off a) i j = some x) (hb : ∀ cs, a ≠ .box cs) (hmp : isMp a = false) : rowCell a (off + i) j = some x := by
  cases a with
  | box cs => exact absurd rfl (hb cs)
  | p xs => simpa [dropR, rowCell, List.getElem?_drop] using hx
  | m xs => simpa [dropR, rowCell, List.getElem?_drop] using hx
  | mp s k es ck => cases hmp
theorem rowsLen_drop {off len : Nat} {a : Rows} (h : off + len = rowsLen a) : rowsLen (dropR off a) = len := by
  cases a <;> simp only [rowsLen, dropR, List.length_drop] at h ⊢ <;> omega
theorem rowsWide_drop {off z : Nat} {a : Rows} (h : rowsWide a z) : rowsWide (dropR off a) z := by
  cases a with
  | mp s k es ck => exact h
  | box cs => exact h
  | p xs => exact fun i r hr => h (off + i) r (by simpa [List.getElem?_drop] using hr)
  | m xs => exact fun i r hr => h (off + i) r (by simpa [List.getElem?_drop] using hr)
theorem cat_nobox {off : Nat} {a b c : Rows} (h : catRows (dropR off a) b = some c) : ∀ cs, a ≠ .box cs := fun cs e => by
  subst e
  cases b <;> simp [dropR, catRows] at h
theorem cat_nomp {off : Nat} {a b c : Rows} (h : catRows (dropR off a) b = some c) : isMp a = false ∧ isMp c = false := by
  cases a <;> cases b <;> simp [dropR, catRows] at h <;> subst h <;> exact ⟨rfl, rfl⟩
theorem src_nomp {x : AV} {rx : Rows} {rd : List Nat} (h : srcRows H x = some (rx, rd)) : isMp rx = false := by
  unfold srcRows at h
  split at h
  · injection h with h; injection h with h _; subst h; rfl
  · injection h with h; injection h with h _; subst h; rfl
  · split at h
    · split at h
      · injection h with h; injection h with h _; subst h; rfl
      · injection h with h; injection h with h _; subst h; rfl
      · cases h
    · cases h
  · cases h
theorem run_append_room_at (t ty e : TypeId) (i : TypeInfo) (ht : P.underlying t = some (.slice e)) (hi : P.info? e = some i)
    (g o' sLen sCap : Nat) (cur : Array Value) (hg : w.heap[g]? = some (.cells cur e (0, 0)))
    (a : Addr) (m c : Nat) (news : List Value) (hl : news.length = m * i.size) (hnews : ∀ (j : Nat) u, news[j]? = some u → w.cell? (a.add j) = some u) (h1 : ∀ u ∈ news, u.oneCell' = true)
    (hroom : sLen + m ≤ sCap) (hfit : o' + sLen * i.size + news.length ≤ cur.size) :
    (Builtin.append_ #[t, t] ty #[.slice (some ⟨g, o', none⟩) sLen sCap, .slice (some a) m c]).run P w =
      .ok (.slice (some ⟨g, o', none⟩) (sLen + m) sCap) (w.setRow g (cur.toList.take (o' + sLen * i.size) ++ news ++ cur.toList.drop (o' + sLen * i.size + news.length)).toArray) := by
  have hf := run_firstCells_some (P := P) w i.size m a m c news hl hnews
  have hst := run_storeCells_at P g (o' + sLen * i.size) e news 0 cur w hg (by simpa using hfit) h1
  simp only [Nat.add_zero] at hst
  simp [Builtin.append_, run_underlying ht, sizeOf, typeInfo, hi, Builtin.lenOf, hroom, hf, Addr.add_lit, hst]
theorem vcAppend_sound (hT : TabOk P T) (hH : HSim I β H w) {t ty : TypeId} {site : Nat} (hsite : β[site]? = some none) {s x : AV} {vs vx : Value} {K : AV → Upd → List Nat → Prop}
    (hs : ARel I β w s vs) (hx : ARel I β w x vx) (h : vcAppend T t site s x H K) :
    ∃ r u rd, K r u rd ∧ ∃ v' w', (Builtin.append_ #[t, t] ty #[vs, vx]).run P w = .ok v' w' ∧ Left_ I β w H r u v' w' site := by
  unfold vcAppend at h
  simp only [eqv_eq] at h
  split at h
  · rename_i hl
    obtain ⟨i0, u, zv, hi, hu, _, _, hsz, _, hagg, htk, _⟩ := look_spec hT hl
    split at h
    · rename_i e
      obtain rfl := tkOf_slice htk
      split at h
      · rename_i hle
        obtain ⟨ie, ue, ze, hie, _, hze, hzs, hse, hby, _, _, _⟩ := look_spec hT hle
        subst hse; subst hby
        split at h
        · rename_i rx rdx hok hrows
          simp only [Bool.and_eq_true] at hok
          obtain ⟨hok, hpos⟩ := hok
          have hpos : 0 < ie.size := by simpa [Nat.blt_eq] using hpos
          split at h
          · obtain rfl := val_inv hs
            obtain ⟨hsl, hbytes, hmax, hk1, hk2⟩ := h
            obtain ⟨news, hsrc⟩ := src_of hH hx hok hrows hsl
            by_cases hm : rowsLen rx = 0
            · refine ⟨_, _, _, hk2 hm, .slice none 0 0, w, ?_, Left_.same hH (rel_val _)⟩
              rcases hsrc.form with ⟨c, rfl, _⟩ | ⟨a, c, rfl, _⟩
              · exact run_append_nil_src t ty e ie hu hie none 0 0 c (Nat.le_refl _)
              · rw [hm]; exact run_append_empty_src t ty e ie hu hie a c
            · rcases hsrc.form with ⟨c, rfl, h0⟩ | ⟨a, c, rfl, hcells⟩
              · exact absurd h0 hm
              · refine ⟨_, _, _, hk1 (by omega), _, _, run_append_nil (P := P) w t ty e ie ze hu hie hze a _ c news hsrc.len hcells (by omega) (by omega) (by omega), ?_⟩
                refine new_slice hH hsite e ie.size _ _ rx _ hsrc.wide (fun i j x hx => ?_) (grownCap_ge _ _ _ _) (grownCap_le_maxLen _ _ _ _ hmax) (src_nomp hrows) ?_ (.inr rfl)
                · obtain ⟨v, hv, h1, hr⟩ := hsrc.cell i j x hx
                  refine ⟨v, ?_, h1, hr⟩
                  have hlt := (List.getElem?_eq_some_iff.1 hv).1
                  rw [Array.getElem?_append_left (by simpa using hlt)]
                  simpa using hv
                · have hge := grownCap_ge w (rowsLen rx) 0 e
                  simp only [Array.size_append, List.size_toArray, size_zeroCells, hzs, hsrc.len, ← Nat.add_mul]
                  congr 1; omega
          · rename_i id z off len
            obtain ⟨b, cap, o', rfl, hbl, hcap, hcm, ho', t', hsh⟩ := ms_inv hs
            split at h
            · rename_i o hz ho
              have hz := Nat.eq_of_beq_eq_true hz; subst hz
              split at h
              · rename_i rr hck hcat
                simp only [Bool.and_eq_true, Bool.not_eq_true'] at hck
                obtain ⟨hfz, hty, hoz⟩ := hck
                have hty := Nat.eq_of_beq_eq_true hty
                have hoz := Nat.eq_of_beq_eq_true hoz
                obtain ⟨hlen0, hsl, hbytes, hmax, hk⟩ := h
                obtain ⟨news, hsrc⟩ := src_of hH hx hok hrows hsl
                obtain ⟨hmp1, hmp2⟩ := cat_nomp hcat
                obtain ⟨hw, _, c, hc, hcell⟩ := obj_at hH ho hbl hmp1
                rw [hoz] at hw hcell
                have hcsz : c.size = (off + b.2 + cap) * ie.size := by
                  rw [shape_of_heap hc] at hsh
                  injection hsh with hsh; injection hsh
                have hlen := rowsLen_drop hlen0
                have hrl := rowsLen_cat hcat
                have hwd := rowsWide_drop (off := off) hw
                have hrw := rowsWide_cat hcat hwd hsrc.wide
                have hnb := cat_nobox hcat
                have hid : β[id]? ≠ some none := by rw [hbl]; intro h; cases h
                -- the cells from the slice's first one on
                have holdl : ((c.toList.drop ((off + b.2) * ie.size)).take (len * ie.size)).length = len * ie.size := by
                  have : len * ie.size ≤ cap * ie.size := Nat.mul_le_mul_right _ hcap
                  simp only [List.length_take, List.length_drop, Array.length_toList, hcsz, Nat.add_mul]; omega
                have hold : ∀ i j x, rowCell (dropR off o.rows) i j = some x → ∃ v, ((c.toList.drop ((off + b.2) * ie.size)).take (len * ie.size))[i * ie.size + j]? = some v ∧ v.oneCell' = true ∧ ARel I β w x v := fun i j x hx => by
                  have hj := rowCell_lt hwd hx
                  have hi : i < len := by rw [← hlen]; exact rowCell_rl hcat hx
                  obtain ⟨v, hv, h1, hr⟩ := hcell _ j x (rowCell_drop hx hnb hmp1)
                  refine ⟨v, ?_, h1, hr⟩
                  rw [List.getElem?_take_of_lt (mul_lt_of hi hj), List.getElem?_drop, ← Nat.add_assoc, ← Nat.add_mul, show off + b.2 + i = off + i + b.2 from by omega]
                  simpa using hv
                have hbc : ∀ {arr : Array Value}, (∀ (k : Nat) v, ((c.toList.drop ((off + b.2) * ie.size)).take (len * ie.size) ++ news)[k]? = some v → arr[k]? = some v) → BCells I β w rr ie.size arr :=
                  fun harr => cat_cells hcat hwd hsrc.wide hlen.symm holdl hold hsrc.cell harr
                have hbs : ∀ {arr : Array Value}, (∀ (k : Nat) v, ((c.toList.drop ((off + b.2) * ie.size)).take (len * ie.size) ++ news)[k]? = some v → arr[(off + b.2) * ie.size + k]? = some v) → BCellsAt I β w rr ie.size (off + b.2) arr := fun {arr} harr i j x hx => by
                  obtain ⟨v, hv, h1, hr⟩ := hbc (arr := ((c.toList.drop ((off + b.2) * ie.size)).take (len * ie.size) ++ news).toArray) (fun k v hk => by simpa using hk) i j x hx
                  refine ⟨v, ?_, h1, hr⟩
                  rw [show (i + (off + b.2)) * ie.size + j = (off + b.2) * ie.size + (i * ie.size + j) from by rw [Nat.add_mul]; omega]
                  exact harr _ _ (by simpa using hv)
                rcases hsrc.form with ⟨c0, rfl, hm0⟩ | ⟨a, c0, rfl, hcells⟩
                · refine ⟨_, _, _, hk, _, w, run_append_nil_src t ty e ie hu hie _ len cap c0 hcap, ?_⟩
                  rw [show rowsLen rr = len from by omega]
                  rw [← hty]
                  have hn0 : news = [] := List.eq_nil_of_length_eq_zero (by rw [hsrc.len, hm0]; simp)
                  refine append_here hH ho hbl hfz hsite hc hc rfl (fun _ _ => rfl) rfl rfl rfl rfl (Nat.le_refl _) hrw hmp2 (hbs (fun k v hk => ?_)) hcap hcm hcsz ho'
                  rw [hn0, List.append_nil] at hk
                  have hlt := (List.getElem?_eq_some_iff.1 hk).1
                  rw [holdl] at hlt
                  rw [List.getElem?_take_of_lt hlt, List.getElem?_drop] at hk
                  simpa using hk
                · by_cases hroom : len + rowsLen rx ≤ cap
                  · by_cases hcap0 : cap = 0
                    · have hm0 : rowsLen rx = 0 := by omega
                      have hl0 : len = 0 := by omega
                      have hn0 : news = [] := List.eq_nil_of_length_eq_zero (by rw [hsrc.len, hm0]; simp)
                      refine ⟨_, _, _, hk, .slice (some ⟨b.1, o', none⟩) len cap, w, ?_, ?_⟩
                      · rw [hm0]
                        simp [Builtin.append_, run_underlying hu, sizeOf, typeInfo, hie, Builtin.lenOf, Builtin.firstCells, hcap, storeCells, loadCells, loadCellsFrom]
                      · rw [show rowsLen rr = len from by omega, ← hty]
                        refine append_here hH ho hbl hfz hsite hc hc rfl (fun _ _ => rfl) rfl rfl rfl rfl (Nat.le_refl _) hrw hmp2 (hbs (fun k v hk => ?_)) hcap hcm hcsz ho'
                        rw [hn0, List.append_nil] at hk
                        have hlt := (List.getElem?_eq_some_iff.1 hk).1
                        rw [holdl, hl0] at hlt
                        omega
                    · have hoo : o' = (off + b.2) * ie.size := ho'.resolve_right (fun e => hcap0 e.1)
                      have hmn : len * ie.size + news.length ≤ cap * ie.size := by rw [hsrc.len, ← Nat.add_mul]; exact Nat.mul_le_mul_right _ hroom
                      have hfit : o' + len * ie.size + news.length ≤ c.size := by rw [hoo, hcsz, Nat.add_mul (off + b.2) cap]; omega
                      rw [← hty] at hu hie hk
                      refine ⟨_, _, _, hk, _, _, run_append_room_at (P := P) (w := w) t ty o.ty ie hu hie b.1 o' len cap c hc a _ c0 news hsrc.len hcells hsrc.one hroom hfit, ?_⟩
                      rw [show rowsLen rr = len + rowsLen rx from by omega]
                      refine append_here hH ho hbl hfz hsite hc (setRow_heap w b.1 c _ o.ty _ hc) ?_ (fun k hk => setRow_other w b.1 k _ hk) (by simp) rfl rfl rfl (Nat.le_refl _) hrw hmp2 (hbs (fun k v hk => ?_)) hroom hcm hcsz ho'
                      · simp; omega
                      · have hkl := (List.getElem?_eq_some_iff.1 hk).1
                        rw [List.length_append, holdl] at hkl
                        rw [List.getElem?_toArray, ← hoo, List.getElem?_append_left (by simp; omega)]
                        rcases Nat.lt_or_ge k (len * ie.size) with hkk | hkk
                        · rw [List.getElem?_append_left (by rw [holdl]; exact hkk), List.getElem?_take_of_lt hkk, List.getElem?_drop, ← hoo] at hk
                          rw [List.getElem?_append_left (by simp; omega), List.getElem?_take_of_lt (by omega)]
                          exact hk
                        · rw [List.getElem?_append_right (by rw [holdl]; exact hkk), holdl] at hk
                          rw [List.getElem?_append_right (by simp; omega)]
                          simp only [List.length_take, Array.length_toList]
                          rw [show o' + k - min (o' + len * ie.size) c.size = k - len * ie.size from by omega]
                          exact hk
                  · by_cases hl0 : len = 0
                    · have hempty : (c.toList.drop ((off + b.2) * ie.size)).take (len * ie.size) = [] := List.eq_nil_of_length_eq_zero (by rw [holdl, hl0]; simp)
                      refine ⟨_, _, _, hk, _, _, run_append_grow (P := P) w t ty e ie ze hu hie hze ⟨b.1, o', none⟩ len cap [] (by simp [hl0]) (fun j v h => by simp at h) a _ c0 news hsrc.len hcells (by omega) (by omega) (growslice_fits (by omega) (by rw [hlen] at hrl; rw [← hrl]; exact hbytes)), ?_⟩
                      rw [show rowsLen rr = len + rowsLen rx from by omega]
                      have hge := grownCap_ge w (len + rowsLen rx) cap e
                      refine append_there hH ho hsite hid e hrw hmp2 (hbc (fun k v hk => ?_)) hge (grownCap_le_maxLen _ _ _ _ (by unfold maxLen; omega)) ?_ (.inr rfl)
                      · rw [hempty] at hk
                        rw [Array.getElem?_append_left (by have := (List.getElem?_eq_some_iff.1 hk).1; simpa using this)]
                        simpa using hk
                      · simp only [Array.size_append, List.size_toArray, size_zeroCells, hzs, hsrc.len, List.length_nil]
                        rw [Nat.zero_add, ← Nat.add_mul]
                        congr 1; omega
                    · have hoo : o' = (off + b.2) * ie.size := ho'.resolve_right (fun e => by omega)
                      have holds : ∀ (j : Nat) v, ((c.toList.drop ((off + b.2) * ie.size)).take (len * ie.size))[j]? = some v → w.cell? ((⟨b.1, o', none⟩ : Addr).add j) = some v := fun j v hj => by
                        have hlt := (List.getElem?_eq_some_iff.1 hj).1
                        rw [holdl] at hlt
                        rw [List.getElem?_take_of_lt hlt, List.getElem?_drop] at hj
                        rw [add_at, cell_of_row w b.1 _ c o.ty (0, 0) hc, hoo]
                        simpa using hj
                      refine ⟨_, _, _, hk, _, _, run_append_grow (P := P) w t ty e ie ze hu hie hze ⟨b.1, o', none⟩ len cap _ holdl holds a _ c0 news hsrc.len hcells (by omega) (by omega) (growslice_fits (by omega) (by rw [hlen] at hrl; rw [← hrl]; exact hbytes)), ?_⟩
                      rw [show rowsLen rr = len + rowsLen rx from by omega]
                      have hge := grownCap_ge w (len + rowsLen rx) cap e
                      refine append_there hH ho hsite hid e hrw hmp2 (hbc (fun k v hk => ?_)) hge (grownCap_le_maxLen _ _ _ _ (by unfold maxLen; omega)) ?_ (.inr rfl)
                      · rw [Array.getElem?_append_left (by have := (List.getElem?_eq_some_iff.1 hk).1; simpa using this)]
                        simpa using hk
                      · simp only [Array.size_append, List.size_toArray, size_zeroCells, hzs, hsrc.len, holdl, ← Nat.add_mul]
                        congr 1; omega
              · exact h.elim
            · exact h.elim
          · rename_i z xs
            obtain ⟨ad, n, rfl, hp⟩ := clip_inv hs
            have hn : n = xs.length := by cases hp; rfl
            split at h
            · rename_i rr hz hcat
              have hz := Nat.eq_of_beq_eq_true hz; subst hz
              obtain ⟨hsl, hbytes, hmax, hk1, hk2⟩ := h
              obtain ⟨news, hsrc⟩ := src_of hH hx hok hrows hsl
              obtain ⟨olds, hold⟩ := src_of (x := .pv (.sl ie.size xs)) (rx := .p xs) (rdx := []) (z := ie.size) hH (.pv hp) (by simp [srcOk]) rfl rfl
              have hrl := rowsLen_cat hcat
              have hrw := rowsWide_cat hcat hold.wide hsrc.wide
              obtain ⟨-, hmp2⟩ := cat_nomp (off := 0) (a := .p xs) (by simpa [dropR] using hcat)
              have hxl : rowsLen (.p xs) = n := by rw [hn]; rfl
              by_cases hm : rowsLen rx = 0
              · refine ⟨_, _, _, hk2 hm, .slice ad n n, w, ?_, Left_.same hH (.pv hp)⟩
                rcases hsrc.form with ⟨c0, rfl, _⟩ | ⟨a, c0, rfl, _⟩
                · exact run_append_nil_src t ty e ie hu hie ad n n c0 (Nat.le_refl _)
                · rw [hm]
                  cases ad <;> simp [Builtin.append_, run_underlying hu, sizeOf, typeInfo, hie, Builtin.lenOf, Builtin.firstCells, storeCells, loadCells, loadCellsFrom]
              · rcases hsrc.form with ⟨c0, rfl, h0⟩ | ⟨a, c0, rfl, hcells⟩
                · exact absurd h0 hm
                · have hbc : ∀ {arr : Array Value}, (∀ (k : Nat) v, (olds ++ news)[k]? = some v → arr[k]? = some v) → BCells I β w rr ie.size arr :=
                    fun harr => cat_cells hcat hold.wide hsrc.wide rfl hold.len hold.cell hsrc.cell harr
                  rcases hold.form with ⟨c1, hv1, h1⟩ | ⟨a1, c1, hv1, hcells1⟩
                  · injection hv1 with hv1 hv2 hv3; subst hv1; subst hv2
                    have ho0 : olds = [] := List.eq_nil_of_length_eq_zero (by rw [hold.len, h1]; simp)
                    have hrr : rowsLen rr = rowsLen rx := by omega
                    rw [hrr] at hbytes
                    refine ⟨_, _, _, hk1 (by omega), _, _, run_append_nil (P := P) w t ty e ie ze hu hie hze a _ c0 news hsrc.len hcells (by omega) (by omega) (by omega), ?_⟩
                    rw [show rowsLen rr = rowsLen rx from by omega]
                    refine new_slice hH hsite e ie.size _ _ rr _ hrw (hbc (fun k v hk => ?_)) (grownCap_ge _ _ _ _) (grownCap_le_maxLen _ _ _ _ (by unfold maxLen; omega)) hmp2 ?_ (.inr rfl)
                    · rw [ho0, List.nil_append] at hk
                      have hlt := (List.getElem?_eq_some_iff.1 hk).1
                      rw [Array.getElem?_append_left (by simpa using hlt)]
                      simpa using hk
                    · have hge := grownCap_ge w (rowsLen rx) 0 e
                      simp only [Array.size_append, List.size_toArray, size_zeroCells, hzs, hsrc.len, ← Nat.add_mul]
                      congr 1; omega
                  · injection hv1 with hv1 hv2 hv3; subst hv1
                    have hol : olds.length = n * ie.size := by rw [hold.len, hxl]
                    refine ⟨_, _, _, hk1 (by omega), _, _, run_append_grow (P := P) w t ty e ie ze hu hie hze a1 n n _ hol hcells1 a _ c0 news hsrc.len hcells (by omega) (by omega) (growslice_fits (by omega) (by rw [hxl] at hrl; rw [← hrl]; exact hbytes)), ?_⟩
                    rw [show rowsLen rr = n + rowsLen rx from by omega]
                    have hge := grownCap_ge w (n + rowsLen rx) n e
                    refine new_slice hH hsite e ie.size _ _ rr _ hrw (hbc (fun k v hk => ?_)) hge (grownCap_le_maxLen _ _ _ _ (by unfold maxLen; omega)) hmp2 ?_ (.inr rfl)
                    · rw [Array.getElem?_append_left (by have := (List.getElem?_eq_some_iff.1 hk).1; simpa using this)]
                      simpa using hk
                    · simp only [Array.size_append, List.size_toArray, size_zeroCells, hzs, hsrc.len, hol, ← Nat.add_mul]
                      congr 1; omega
            · exact h.elim
          · exact h.elim
        · exact h.elim
      · exact h.elim
    · exact h.elim
  · exact h.elim
theorem HSim.forget (hH : HSim I β H w) {id k : Nat} {o : AObj} {xs : List (List PV)} (ho : H[id]? = some (some o)) (hr : o.rows = .p xs) : HSim I β (H.set id (some { o with rows := .p (xs.take k) })) w := by
  have hlt := (List.getElem?_eq_some_iff.1 ho).1
  have hcase : ∀ (i : Nat) o2, (H.set id (some { o with rows := .p (xs.take k) }))[i]? = some (some o2) → (i = id ∧ o2 = { o with rows := .p (xs.take k) }) ∨ (i ≠ id ∧ H[i]? = some (some o2)) := fun i o2 h => by
    by_cases e : id = i
    · subst e
      rw [List.getElem?_set_self hlt] at h
      injection h with h; injection h with h
      exact .inl ⟨rfl, h.symm⟩
    · rw [List.getElem?_set_ne e] at h
      exact .inr ⟨fun h => e h.symm, h⟩
  have hlive : ∀ (i : Nat) o2, (H.set id (some { o with rows := .p (xs.take k) }))[i]? = some (some o2) → ∃ o3, H[i]? = some (some o3) := fun i o2 h => by
    rcases hcase i o2 h with ⟨rfl, _⟩ | ⟨_, h⟩
    · exact ⟨o, ho⟩
    · exact ⟨o2, h⟩
  refine ⟨by rw [List.length_set]; exact hH.len, fun i o2 h => ?_, fun i j oi oj b b' hi hj hb hb' hbb => ?_, hH.imm, hH.lt⟩
  · rcases hcase i o2 h with ⟨rfl, rfl⟩ | ⟨_, h⟩
    · obtain ⟨b, hb, h1, h2, c, h3, h4⟩ := hH.obj i o ho
      rw [hr] at h1 h3 h4
      refine ⟨b, hb, fun q r hq => ?_, h2, c, h3, fun q j x hx => h4 q j x ?_⟩
      · have hq : (xs.take k)[q]? = some r := hq
        rw [List.getElem?_take] at hq
        split at hq
        · exact h1 q r hq
        · cases hq
      · simp only [rowCell, List.getElem?_take] at hx ⊢
        split at hx
        · exact hx
        · simp at hx
    · exact hH.obj i o2 h
  · obtain ⟨o3, h3⟩ := hlive i oi hi
    obtain ⟨o4, h4⟩ := hlive j oj hj
    exact hH.inj i j o3 o4 b b' h3 h4 hb hb' hbb
theorem vcAppH_sound (hT : TabOk P T) (hH : HSim I β H w) {t ty : TypeId} {site : Nat} (hsite : β[site]? = some none) {s x : AV} {vs vx : Value} {K : AV → Upd → List Nat → Prop}
    (hs : ARel I β w s vs) (hx : ARel I β w x vx) (h : vcAppH T t site s x H K) :
    ∃ r u rd, K r u rd ∧ ∃ v' w', (Builtin.append_ #[t, t] ty #[vs, vx]).run P w = .ok v' w' ∧ Left_ I β w H r u v' w' site := by
  unfold vcAppH at h
  split at h
  · split at h
    · rename_i o ho
      split at h
      · rename_i xs hr
        obtain ⟨r, u, rd, hk, v', w', hrun, hleft⟩ := vcAppend_sound (ty := ty) hT (hH.forget ho hr) hsite hs hx h
        exact ⟨_, _, _, hk, v', w', hrun, hleft⟩
      · exact h.elim
    · exact h.elim
  · exact h.elim
end
end Go.Cw
