/-
  Cw, part A: abstract values, abstract states and the function 'vcCode', which runs code over them and says what is left to prove. Definitions alone; no conditions.
-/
import Derived.Orders
import Derived.Below
namespace Go.Cw
set_option linter.unusedVariables false

/-- A pure value: a value without memory; a slice whose memory nobody writes any more, as its rows of z cells; the address of such cells; a function with such captures. -/
inductive PV where
  | val (v : Value)
  | sl (z : Nat) (xs : List (List PV))
  | ia (cs : List PV)
  | fn (f : FuncId) (caps : List PV)

instance : Inhabited PV := ⟨.val undef⟩

/-- What a slot or a cell holds. 'ms', 'ptr': into object 'id' of the abstract heap, whose rows have z cells. -/
inductive AV where
  | pv (p : PV)
  | agg (cs : List AV)
  | ms (id z off len : Nat)
  | ptr (id z row col : Nat)
  | fn (f : FuncId) (caps : List AV)
  | tup (vs : List AV)
  | dead

inductive Rows where
  | box (cs : List AV)
  | p (xs : List (List PV))
  | m (xs : List (List AV))

structure AObj where
  ty : TypeId
  z : Nat
  fz : Bool
  rows : Rows

abbrev Heap := List (Option AObj)

/-- What is known of a type. -/
inductive TK where
  | int (k : IntKind) | bool | str | slice (e : TypeId) | ptr (e : TypeId) | struct (fs : List (Nat × TypeId))
  | array (n : Nat) (e : TypeId) | func | map (k e : TypeId) | other

structure TyD where
  size : Nat
  bytes : Nat
  agg : Bool
  tk : TK
  zero : List PV

abbrev Tab := List (TypeId × TyD)

def tkOf : TypeDesc → TK
  | .int k => .int k
  | .bool => .bool
  | .string => .str
  | .slice e => .slice e
  | .pointer e => .ptr e
  | .struct fs => .struct (fs.toList.map fun f => (f.offset, f.type))
  | .array n e => .array n e
  | .func .. => .func
  | .map k e => .map k e
  | _ => .other

def isAggD : TypeDesc → Bool
  | .struct _ | .array _ _ => true
  | _ => false

def tyOf (P : Program) (t : TypeId) : Option TyD :=
  match P.info? t, P.underlying t with
  | some i, some u =>
    match i.zero with
    | some z => if z.cells.size = i.size then some { size := i.size, bytes := i.bytes, agg := isAggD u, tk := tkOf u, zero := z.cells.toList.map .val } else none
    | none => none
  | _, _ => none

def look : Tab → TypeId → Option TyD
  | [], _ => none
  | (k, d) :: l, t => bif Nat.beq k t then some d else look l t

def TabOk (P : Program) (T : Tab) : Prop := ∀ t d, look T t = some d → tyOf P t = some d

theorem TabOk.of_eq {P : Program} : ∀ {T : Tab}, T.map (fun x => tyOf P x.1) = T.map (fun x => some x.2) → TabOk P T
  | [], _ => fun t d h => by simp [look] at h
  | (k, d0) :: l, he => fun t d h => by
    simp only [List.map_cons, List.cons.injEq] at he
    simp only [look] at h
    cases hk : Nat.beq k t
    · rw [hk] at h; exact TabOk.of_eq he.2 t d h
    · rw [hk] at h
      have : k = t := Nat.eq_of_beq_eq_true hk
      subst this
      simp only [cond_true, Option.some.injEq] at h
      rw [← h]; exact he.1

abbrev Slots := List (Nat × AV)

def get : Slots → Nat → Option AV
  | [], _ => none
  | (k, v) :: l, s => bif Nat.beq k s then some v else get l s

structure ASt where
  sl : Slots
  hp : Heap

/-- The abstract value of a constant. -/
def evc : Value → AV
  | .agg cs => .agg (cs.toList.map fun c => .pv (.val c))
  | .func (.func f) first caps => match first.toList, caps.toList with
    | [], [] => .pv (.fn f [])
    | _, _ => .dead
  | v => .pv (.val v)

def ev (Γ : Slots) : Operand → Option AV
  | .tmp t => get Γ t
  | .const v => some (evc v)
  | .func f => some (.pv (.fn f []))
  | .global _ => none

def put (Γ : Slots) (d : Option Tmp) (v : AV) : Slots :=
  match d with
  | some t => (t, v) :: Γ
  | none => Γ

def oneV : Value → Bool
  | .agg _ | .tuple _ => false
  | _ => true

def oneCell : AV → Bool
  | .pv (.val v) => oneV v
  | .pv (.sl ..) | .pv (.ia _) | .pv (.fn ..) | .ms .. | .ptr .. | .fn .. => true
  | _ => false

def allOne : List AV → Bool
  | [] => true
  | x :: l => oneCell x && allOne l

/-- The cells of a value that can lie in memory. -/
def cellsOf : AV → List AV
  | .agg cs => cs
  | x => [x]

def pvs : List PV → List AV
  | [] => []
  | p :: l => .pv p :: pvs l

def purify : List AV → Option (List PV)
  | [] => some []
  | .pv p :: l => match purify l with
    | some ps => some (p :: ps)
    | none => none
  | _ :: _ => none

def splice {α : Type} : Nat → List α → List α → List α
  | 0, [], cs => cs
  | 0, x :: xs, _ :: cs => x :: splice 0 xs cs
  | 0, _ :: _, [] => []
  | n + 1, xs, c :: cs => c :: splice n xs cs
  | _ + 1, _, [] => []

def ixEq : IntKind → IntKind → Bool
  | .i8, .i8 | .i16, .i16 | .i32, .i32 | .i64, .i64 | .u8, .u8 | .u16, .u16 | .u32, .u32 | .u64, .u64 => true
  | _, _ => false

/-- What an operation changes: objects by their index. -/
abbrev Upd := List (Nat × Option AObj)

def app : Heap → Upd → Heap
  | H, [] => H
  | H, (i, o) :: u => app (H.set i o) u

def vint (k : IntKind) (n : Int) : AV := .pv (.val (.int k n))
def vbool (b : Bool) : AV := .pv (.val (.bool b))

/-- 'K a', with room for another word for 'a'. -/
def eqv {α : Type} (a : α) (K : α → Prop) : Prop := ∃ b, a = b ∧ K b
theorem eqv_eq {α : Type} (a : α) (K : α → Prop) : eqv a K = K a := propext ⟨fun ⟨_, e, h⟩ => e ▸ h, fun h => ⟨a, rfl, h⟩⟩

def intBin (op : BinOp) (k : IntKind) (x y : Int) (K : AV → Prop) : Prop :=
  match op with
  | .add => eqv (k.wrap (x + y)) fun z => K (vint k z)
  | .sub => eqv (k.wrap (x - y)) fun z => K (vint k z)
  | .mul => eqv (k.wrap (x * y)) fun z => K (vint k z)
  | .quo => y ≠ 0 ∧ eqv (k.wrap (x.tdiv y)) fun z => K (vint k z)
  | .rem => y ≠ 0 ∧ eqv (x.tmod y) fun z => K (vint k z)
  | .and => K (vint k (bits .and k x y))
  | .or => K (vint k (bits .or k x y))
  | .xor => K (vint k (bits .xor k x y))
  | .andNot => K (vint k (bits .andNot k x y))
  | .eql => K (vbool (x == y))
  | .neq => K (vbool (x != y))
  | .lss => K (vbool (decide (x < y)))
  | .leq => K (vbool (decide (x ≤ y)))
  | .gtr => K (vbool (decide (x > y)))
  | .geq => K (vbool (decide (x ≥ y)))
  | _ => False

def strBin (op : BinOp) (x y : ByteArray) (K : AV → Prop) : Prop :=
  match op with
  | .eql => K (vbool (x.toList == y.toList))
  | .neq => K (vbool (!(x.toList == y.toList)))
  | .lss => K (vbool (Op.bytesLess x.toList y.toList))
  | .leq => K (vbool (Op.bytesLess x.toList y.toList || x.toList == y.toList))
  | .gtr => K (vbool (!(Op.bytesLess x.toList y.toList || x.toList == y.toList)))
  | .geq => K (vbool (!Op.bytesLess x.toList y.toList))
  | .add => x.size + y.size ≤ 9223372036854775807 ∧ K (.pv (.val (.string (x ++ y))))
  | _ => False

/-- '==' and '!=' on what else can be compared: bools; a slice and nil. -/
def eqBin (op : BinOp) (tk : TK) (x y : AV) (K : AV → Prop) : Prop :=
  match op, tk, x, y with
  | .eql, .bool, .pv (.val (.bool a)), .pv (.val (.bool b)) => K (vbool (a == b))
  | .neq, .bool, .pv (.val (.bool a)), .pv (.val (.bool b)) => K (vbool (!(a == b)))
  | .eql, .slice _, .pv (.val (.slice none 0 0)), .pv (.val (.slice none 0 0)) => K (vbool true)
  | .neq, .slice _, .pv (.val (.slice none 0 0)), .pv (.val (.slice none 0 0)) => K (vbool false)
  | .eql, .slice _, .pv (.sl _ xs), .pv (.val (.slice none 0 0)) => xs ≠ [] ∧ K (vbool false)
  | .neq, .slice _, .pv (.sl _ xs), .pv (.val (.slice none 0 0)) => xs ≠ [] ∧ K (vbool true)
  | .eql, .slice _, .ms .., .pv (.val (.slice none 0 0)) => K (vbool false)
  | .neq, .slice _, .ms .., .pv (.val (.slice none 0 0)) => K (vbool true)
  | _, _, _, _ => False

def vcBin (T : Tab) (op : BinOp) (t : TypeId) (x y : AV) (K : AV → Prop) : Prop :=
  match x, y with
  | .pv (.val (.int k a)), .pv (.val (.int k' b)) => match op with
    | .shl => 0 ≤ b ∧ K (vint k (k.wrap (a * 2 ^ (min b.toNat k.bits))))
    | .shr => 0 ≤ b ∧ K (vint k (a.fdiv (2 ^ (min b.toNat k.bits))))
    | _ => match ixEq k k' with
      | true => intBin op k a b K
      | false => False
  | .pv (.val (.string a)), .pv (.val (.string b)) => strBin op a b K
  | x, y => match look T t with
    | some ⟨size, bytes, agg, tk, zero⟩ => eqBin op tk x y K
    | none => False

def vcUn (op : UnOp) (x : AV) (K : AV → Prop) : Prop :=
  match op, x with
  | .neg, .pv (.val (.int k n)) => eqv (k.wrap (0 - n)) fun z => K (vint k z)
  | .not, .pv (.val (.bool b)) => K (vbool (!b))
  | _, _ => False

/-- A value of a type read out of cells. -/
def vcTake (size : Nat) (agg : Bool) (cs : List AV) (K : AV → Prop) : Prop :=
  match agg with
  | true => match Nat.ble size cs.length with
    | true => K (.agg (cs.take size))
    | false => False
  | false => match cs with
    | c :: _ => K c
    | [] => False

def vcLoad (T : Tab) (t : TypeId) (x : AV) (H : Heap) (K : AV → List Nat → Prop) : Prop :=
  match look T t with
  | none => False
  | some ⟨size, bytes, agg, tk, zero⟩ => match x with
    | .pv (.ia cs) => vcTake size agg (pvs cs) fun v => K v []
    | .ptr id z row col => match H[id]? with
      | some (some o) => match Nat.beq z o.z, o.rows with
        | true, .box cs => match row with
          | 0 => vcTake size agg (cs.drop col) fun v => K v [id]
          | _ => False
        | true, .p xs => ∃ r, xs[row]? = some r ∧ vcTake size agg (pvs (r.drop col)) fun v => K v [id]
        | true, .m xs => ∃ r, xs[row]? = some r ∧ vcTake size agg (r.drop col) fun v => K v [id]
        | _, _ => False
      | _ => False
    | _ => False

def vcStore (T : Tab) (t : TypeId) (x v : AV) (H : Heap) (K : Upd → List Nat → Prop) : Prop :=
  match look T t with
  | none => False
  | some ⟨size, bytes, agg, tk, zero⟩ => match (Nat.beq (cellsOf v).length size && allOne (cellsOf v)) && Nat.blt 0 size with
    | false => False
    | true => match x with
      | .ptr id z row col => match H[id]? with
        | some (some o) => match !o.fz && Nat.beq z o.z with
          | false => False
          | true => match o.rows with
            | .box cs => match row with
              | 0 => match Nat.ble (col + size) cs.length with
                | true => K [(id, some { o with rows := .box (splice col (cellsOf v) cs) })] [id]
                | false => False
              | _ => False
            | .p xs => match purify (cellsOf v) with
              | some ps => ∃ r, xs[row]? = some r ∧ col + size ≤ r.length ∧ eqv (xs.set row (splice col ps r)) fun ys => K [(id, some { o with rows := .p ys })] [id]
              | none => ∃ r, xs[row]? = some r ∧ col + size ≤ r.length ∧ eqv ((xs.map pvs).set row (splice col (cellsOf v) (pvs r))) fun ys => K [(id, some { o with rows := .m ys })] [id]
            | .m xs => ∃ r, xs[row]? = some r ∧ col + size ≤ r.length ∧ eqv (xs.set row (splice col (cellsOf v) r)) fun ys => K [(id, some { o with rows := .m ys })] [id]
        | _ => False
      | _ => False

def mkRows (xs : List (List AV)) : Rows :=
  match go xs with
  | some ps => .p ps
  | none => .m xs
where
  go : List (List AV) → Option (List (List PV))
    | [] => some []
    | r :: l => match purify r, go l with
      | some p, some ps => some (p :: ps)
      | _, _ => none

/-- The parts of a literal whose parts are all given, in order. -/
def rowsOf (ρ : Operand → Option AV) (z : Nat) : Nat → List (Nat × Operand) → Option (List (List AV))
  | _, [] => some []
  | i, (k, x) :: l => match Nat.beq k i, ρ x with
    | true, some v => match Nat.beq (cellsOf v).length z && allOne (cellsOf v), rowsOf ρ z (i + 1) l with
      | true, some rs => some (cellsOf v :: rs)
      | _, _ => none
    | _, _ => none

def buildCells (T : Tab) (fs : List (Nat × TypeId)) (ρ : Operand → Option AV) : List AV → List (Nat × Operand) → Option (List AV)
  | cs, [] => some cs
  | cs, (i, x) :: l => match fs[i]?, ρ x with
    | some (off, t), some v => match look T t with
      | some ⟨size, bytes, agg, tk, zero⟩ => match Nat.beq (cellsOf v).length size && (Nat.ble (off + size) cs.length && allOne (cellsOf v)) with
        | true => buildCells T fs ρ (splice off (cellsOf v) cs) l
        | false => none
      | none => none
    | _, _ => none

def vcBuild (T : Tab) (t : TypeId) (parts : List (Nat × Operand)) (ρ : Operand → Option AV) (K : AV → Prop) : Prop :=
  match look T t with
  | some ⟨size, bytes, agg, tk, zero⟩ => match tk with
    | .struct fs => match fs.all (fun f => (look T f.2).isSome), buildCells T fs ρ (pvs zero) parts with
      | true, some cs => K (.agg cs)
      | _, _ => False
    | _ => False
  | none => False

def vcIndexAddr (T : Tab) (t : TypeId) (x i : AV) (K : AV → Prop) : Prop :=
  match look T t, i with
  | some ⟨size, bytes, agg, tk, zero⟩, .pv (.val (.int _ n)) => match tk, x with
    | .slice e, .pv (.sl z xs) => match look T e with
      | some ⟨esize, ebytes, _, _, ezero⟩ => match Nat.beq esize z with
        | true => ∃ (k : Nat) (r : List PV), n = ↑k ∧ xs[k]? = some r ∧ K (.pv (.ia r))
        | false => False
      | none => False
    | .slice e, .ms id z off len => match look T e with
      | some ⟨esize, ebytes, _, _, ezero⟩ => match Nat.beq esize z with
        | true => ∃ (k : Nat), n = ↑k ∧ k < len ∧ eqv (off + k) fun row => K (.ptr id z row 0)
        | false => False
      | none => False
    | _, _ => False
  | _, _ => False

def vcFieldAddr (T : Tab) (s : TypeId) (x : AV) (f : Nat) (K : AV → Prop) : Prop :=
  match look T s with
  | some ⟨size, bytes, agg, tk, zero⟩ => match tk with
    | .struct fs => match fs[f]? with
      | some (off, ft) => match look T ft with
        | some ⟨fsize, _, _, _, _⟩ => match Nat.blt 0 fsize with
          | true => match x with
            | .pv (.ia cs) => match Nat.ble off cs.length with
              | true => K (.pv (.ia (cs.drop off)))
              | false => False
            | .ptr id z row col => K (.ptr id z row (col + off))
            | _ => False
          | false => False
        | none => False
      | none => False
    | _ => False
  | none => False

def vcField (T : Tab) (s : TypeId) (x : AV) (f : Nat) (K : AV → Prop) : Prop :=
  match look T s, x with
  | some ⟨size, bytes, agg, tk, zero⟩, .agg cs => match tk with
    | .struct fs => match fs[f]? with
      | some (off, t) => match look T t with
        | some ⟨tsize, _, tagg, _, _⟩ => vcTake tsize tagg (cs.drop off) K
        | none => False
      | none => False
    | _ => False
  | _, _ => False

def vcLen (T : Tab) (t : TypeId) (x : AV) (K : AV → Prop) : Prop :=
  match look T t with
  | some ⟨size, bytes, agg, tk, zero⟩ => match tk, x with
    | .slice _, .pv (.val (.slice _ n _)) => K (vint .i64 n)
    | .str, .pv (.val (.string s)) => eqv s.size fun n => K (vint .i64 n)
    | .slice _, .pv (.sl _ xs) => eqv xs.length fun n => K (vint .i64 n)
    | .slice _, .ms _ _ _ n => K (vint .i64 n)
    | _, _ => False
  | none => False

def loIs (lo : Option AV) (l : Nat) : Prop :=
  match lo with
  | none => l = 0
  | some (.pv (.val (.int _ n))) => n = ↑l
  | _ => False

def hiIs (hi : Option AV) (len h : Nat) : Prop :=
  match hi with
  | none => h = len
  | some (.pv (.val (.int _ n))) => n = ↑h
  | _ => False

/-- x[lo:hi] of a slice. -/
def vcSlice (T : Tab) (t : TypeId) (x : AV) (lo hi : Option AV) (K : AV → Prop) : Prop :=
  match look T t with
  | some ⟨size, bytes, agg, tk, zero⟩ => match tk, x with
    | .slice e, .pv (.sl z xs) => match look T e with
      | some ⟨esize, ebytes, _, _, ezero⟩ => match Nat.beq esize z with
        | true => ∃ (l h : Nat), loIs lo l ∧
            hiIs hi xs.length h ∧ l ≤ h ∧ h ≤ xs.length ∧ eqv ((xs.take h).drop l) fun ys => K (.pv (.sl z ys))
        | false => False
      | none => False
    | .slice e, .ms id z off len => match look T e with
      | some ⟨esize, ebytes, _, _, ezero⟩ => match Nat.beq esize z with
        | true => ∃ (l h : Nat), loIs lo l ∧
            hiIs hi len h ∧ l ≤ h ∧ h ≤ len ∧ eqv (off + l) fun o => eqv (h - l) fun n => K (.ms id z o n)
        | false => False
      | none => False
    | .str, .pv (.val (.string s)) => ∃ (l h : Nat), loIs lo l ∧
            hiIs hi s.size h ∧ l ≤ h ∧ h ≤ s.size ∧ eqv (s.extract l h) fun b => K (.pv (.val (.string b)))
    | _, _ => False
  | none => False

def vcPick (c : AV) (a b : Option AV) (K : AV → Prop) : Prop :=
  match c with
  | .pv (.val (.bool t)) => (t = true → match a with | some v => K v | none => False) ∧ (t = false → match b with | some v => K v | none => False)
  | _ => False

/-- Read a slice value as rows: what append takes. -/
def srcRows (H : Heap) (x : AV) : Option (Rows × List Nat) :=
  match x with
  | .pv (.val (.slice none 0 0)) => some (.p [], [])
  | .pv (.sl _ xs) => some (.p xs, [])
  | .ms id z off len => match H[id]? with
    | some (some o) => match Nat.beq o.z z, o.rows with
      | true, .p xs => some (.p ((xs.drop off).take len), [id])
      | true, .m xs => some (.m ((xs.drop off).take len), [id])
      | _, _ => none
    | _ => none
  | _ => none

def catRows : Rows → Rows → Option Rows
  | .p a, .p b => some (.p (a ++ b))
  | .m a, .m b => some (.m (a ++ b))
  | .p a, .m b => some (.m (a.map pvs ++ b))
  | .m a, .p b => some (.m (a ++ b.map pvs))
  | _, _ => none

/-- Without the first rows. -/
def dropR : Nat → Rows → Rows
  | 0, r => r
  | _ + 1, .box cs => .box cs
  | n + 1, .p xs => .p (xs.drop (n + 1))
  | n + 1, .m xs => .m (xs.drop (n + 1))

def rowsLen : Rows → Nat
  | .box _ => 0
  | .p xs => xs.length
  | .m xs => xs.length

def srcLen : AV → Nat
  | .pv (.sl _ xs) => xs.length
  | .ms _ _ _ len => len
  | _ => 0

def srcOk (z : Nat) : AV → Bool
  | .pv (.val (.slice none 0 0)) => true
  | .pv (.sl z' _) => Nat.beq z' z
  | .ms _ z' _ _ => Nat.beq z' z
  | _ => false

/-- append: the result is a new object; the old one is given up. -/
def vcAppend (T : Tab) (t : TypeId) (site : Nat) (s x : AV) (H : Heap) (K : AV → Upd → List Nat → Prop) : Prop :=
  match look T t with
  | some ⟨size, bytes, agg, tk, zero⟩ => match tk with
    | .slice e => match look T e with
      | some ⟨esize, ebytes, _, _, ezero⟩ => match srcOk esize x && Nat.blt 0 esize, srcRows H x with
        | true, some (rx, rdx) => match s with
          | .pv (.val (.slice none 0 0)) =>
            srcLen x = rowsLen rx ∧ rowsLen rx * ebytes ≤ 140737488355328 ∧ rowsLen rx ≤ 9223372036854775807 ∧
              (0 < rowsLen rx → eqv rx fun rx => eqv (rowsLen rx) fun n => K (.ms site esize 0 n) [(site, some ⟨e, esize, false, rx⟩)] rdx) ∧
              (rowsLen rx = 0 → K (.pv (.val (.slice none 0 0))) [] rdx)
          | .ms id z off len => match Nat.beq z esize, H[id]? with
            | true, some (some o) => match !o.fz && (Nat.beq o.ty e && Nat.beq o.z esize), catRows (dropR off o.rows) rx with
              | true, some rr => off + len = rowsLen o.rows ∧ srcLen x = rowsLen rx ∧ rowsLen rr * ebytes ≤ 140737488355328 ∧ rowsLen rr ≤ 9223372036854775807 ∧
                  eqv rr fun rr => eqv (rowsLen rr) fun n => K (.ms site esize 0 n) [(id, none), (site, some ⟨e, esize, false, rr⟩)] (id :: rdx)
              | _, _ => False
            | _, _ => False
          | _ => False
        | _, _ => False
      | none => False
    | _ => False
  | none => False

def vcMakeSlice (T : Tab) (t : TypeId) (site : Nat) (l c : AV) (K : AV → Upd → List Nat → Prop) : Prop :=
  match look T t, l, c with
  | some ⟨size, bytes, agg, tk, zero⟩, .pv (.val (.int .i64 n)), .pv (.val (.int .i64 m)) => match tk with
    | .slice e => match look T e with
      | some ⟨esize, ebytes, _, _, ezero⟩ => allOne (pvs ezero) = true ∧ ∃ (j k : Nat), n = ↑j ∧ m = ↑k ∧ j ≤ k ∧ k * ebytes ≤ 140737488355328 ∧ k ≤ 9223372036854775807 ∧
          eqv (List.replicate j ezero) fun ys => K (.ms site esize 0 j) [(site, some ⟨e, esize, false, .p ys⟩)] []
      | none => False
    | _ => False
  | _, _, _ => False

def vcMinMax (isMax : Bool) (xs : List (Option AV)) (K : AV → Prop) : Prop :=
  match xs with
  | [some (.pv (.val (.int k a))), some (.pv (.val (.int k' b)))] => match ixEq k k' with
    | true => K (vint k (bif isMax then (if b > a then b else a) else (if b < a then b else a)))
    | false => False
  | _ => False

/-- An operation that is no call of a function. -/
def vcOp (T : Tab) (site : Nat) (op : Op) (ρ : Operand → Option AV) (H : Heap) (K : AV → Upd → List Nat → Prop) : Prop :=
  match op with
  | .move x | .assign x => match ρ x with
    | some v => K v [] []
    | none => False
  | .pick c a b => match ρ c with
    | some vc => vcPick vc (ρ a) (ρ b) fun v => K v [] []
    | none => False
  | .alloc t => match look T t with
    | some ⟨size, bytes, agg, tk, zero⟩ => allOne (pvs zero) = true ∧ K (.ptr site size 0 0) [(site, some ⟨t, size, false, .box (pvs zero)⟩)] []
    | none => False
  | .box t x => match look T t, ρ x with
    | some ⟨size, bytes, agg, tk, zero⟩, some v => match Nat.beq (cellsOf v).length size && allOne (cellsOf v) with
      | true => K (.ptr site size 0 0) [(site, some ⟨t, size, false, .box (cellsOf v)⟩)] []
      | false => False
    | _, _ => False
  | .build t parts => vcBuild T t parts.toList ρ fun v => K v [] []
  | .buildSlice t len parts => match look T t with
    | some ⟨size, bytes, agg, tk, zero⟩ => match tk with
      | .slice e => match look T e with
        | some ⟨esize, ebytes, _, _, ezero⟩ => match rowsOf ρ esize 0 parts.toList with
          | some rs => match Nat.beq rs.length len && (Nat.ble (len * esize) 4096 && Nat.ble len 4096) with
            | true => K (.ms site esize 0 len) [(site, some ⟨e, esize, false, mkRows rs⟩)] []
            | false => False
          | none => False
        | none => False
      | _ => False
    | none => False
  | .load t x => match ρ x with
    | some v => vcLoad T t v H fun r f => K r [] f
    | none => False
  | .store t a x => match ρ a, ρ x with
    | some va, some vx => vcStore T t va vx H fun u f => K (.pv (.val undef)) u f
    | _, _ => False
  | .nilCheck x => match ρ x with
    | some (.ptr id z row col) => K (.ptr id z row col) [] []
    | some (.pv (.ia cs)) => K (.pv (.ia cs)) [] []
    | some (.pv (.fn f caps)) => K (.pv (.fn f caps)) [] []
    | some (.fn f caps) => K (.fn f caps) [] []
    | _ => False
  | .binOp op t x y _ => match ρ x, ρ y with
    | some vx, some vy => vcBin T op t vx vy fun v => K v [] []
    | _, _ => False
  | .unOp op _ x => match ρ x with
    | some v => vcUn op v fun r => K r [] []
    | none => False
  | .makeFunc (.func f) first caps => match first.toList, caps.toList.mapM ρ with
    | [], some vs => K (.fn f vs) [] []
    | _, _ => False
  | .makeSlice t l c => match ρ l, ρ c with
    | some vl, some vc => vcMakeSlice T t site vl vc K
    | _, _ => False
  | .slice t x lo hi none => match ρ x with
    | some v => match lo, hi with
      | none, none => vcSlice T t v none none fun r => K r [] []
      | some l, none => match ρ l with
        | some vl => vcSlice T t v (some vl) none fun r => K r [] []
        | none => False
      | none, some h => match ρ h with
        | some vh => vcSlice T t v none (some vh) fun r => K r [] []
        | none => False
      | some l, some h => match ρ l, ρ h with
        | some vl, some vh => vcSlice T t v (some vl) (some vh) fun r => K r [] []
        | _, _ => False
    | none => False
  | .fieldAddr s x f => match ρ x with
    | some v => vcFieldAddr T s v f fun r => K r [] []
    | none => False
  | .field s x f => match ρ x with
    | some v => vcField T s v f fun r => K r [] []
    | none => False
  | .indexAddr t x i => match ρ x, ρ i with
    | some vx, some vi => vcIndexAddr T t vx vi fun r => K r [] []
    | _, _ => False
  | .extract x i => match ρ x with
    | some (.tup vs) => match vs[i]? with
      | some v => K v [] []
      | none => False
    | _ => False
  | .call { callee := .builtin b, args := args, argTypes := ats } => match b with
    | .len => match args.toList, ats.toList with
      | [x], [t] => match ρ x with
        | some v => vcLen T t v fun r => K r [] []
        | none => False
      | _, _ => False
    | .append => match args.toList, ats.toList with
      | [s, x], [t, t2] => match Nat.beq t t2, ρ s, ρ x with
        | true, some vs, some vx => vcAppend T t site vs vx H K
        | _, _, _ => False
      | _, _ => False
    | .min => vcMinMax false (args.toList.map ρ) fun r => K r [] []
    | .max => vcMinMax true (args.toList.map ρ) fun r => K r [] []
    | _ => False
  | _ => False

end Go.Cw
