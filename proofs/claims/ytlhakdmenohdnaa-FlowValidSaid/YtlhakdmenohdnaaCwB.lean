/-
  Cw, part B: what an abstract state says of a real one; contracts; 'vcCode'. Definitions alone; no conditions.
-/
import Derived.Test.YtlhakdmenohdnaaCwA
import Derived.Laws.Sem
namespace Go.Cw
set_option linter.unusedVariables false

/-- I: the blocks that nobody writes any more. -/
inductive PRel (I : Nat → Prop) (w : World) : PV → Value → Prop
  | val (v : Value) : PRel I w (.val v) v
  | sl {z : Nat} {xs : List (List PV)} {ad : Option Addr} {cap : Nat} (u : Nat → Nat → Value) (hc : xs.length ≤ cap)
      (h1 : ∀ i r, xs[i]? = some r → r.length = z ∧ ∃ a, ad = some a ∧ I a.block ∧ ∀ j, j < z → w.cell? (a.add (i * z + j)) = some (u i j) ∧ (u i j).oneCell' = true)
      (h2 : ∀ i r j p, xs[i]? = some r → r[j]? = some p → PRel I w p (u i j)) : PRel I w (.sl z xs) (.slice ad xs.length cap)
  | ia {cs : List PV} {a : Addr} (u : Nat → Value) (h0 : I a.block) (h1 : ∀ j, j < cs.length → w.cell? (a.add j) = some (u j) ∧ (u j).oneCell' = true)
      (h2 : ∀ j p, cs[j]? = some p → PRel I w p (u j)) : PRel I w (.ia cs) (.pointer (some a))
  | fn {f : FuncId} {caps : List PV} {vs : Array Value} (hl : vs.size = caps.length) (h : ∀ j p, caps[j]? = some p → PRel I w p (vs.getD j undef)) :
      PRel I w (.fn f caps) (.func (.func f) #[] vs)

/-- A block, and so many rows ahead of an object's first one. -/
abbrev Beta := List (Option (Nat × Nat))

/-- β: in which block an object lies. -/
inductive ARel (I : Nat → Prop) (β : Beta) (w : World) : AV → Value → Prop
  | pv {p : PV} {v : Value} (h : PRel I w p v) : ARel I β w (.pv p) v
  | agg {cs : List AV} {vs : Array Value} (hl : vs.size = cs.length) (h : ∀ (j : Nat) c, cs[j]? = some c → ARel I β w c (vs.getD j undef)) : ARel I β w (.agg cs) (.agg vs)
  | ms {id z off len cap o : Nat} {b : Nat × Nat} (hb : β[id]? = some (some b)) (hc : len ≤ cap) (hm : cap ≤ maxLen) (ho : o = (off + b.2) * z ∨ (cap = 0 ∧ 0 < off + b.2))
      (hs : ∃ t, w.shape? b.1 = some (t, (off + b.2 + cap) * z)) : ARel I β w (.ms id z off len) (.slice (some ⟨b.1, o, none⟩) len cap)
  | ptr {id z row col : Nat} {b : Nat × Nat} (hb : β[id]? = some (some b)) : ARel I β w (.ptr id z row col) (.pointer (some ⟨b.1, (row + b.2) * z + col, none⟩))
  | fn {f : FuncId} {caps : List AV} {vs : Array Value} (hl : vs.size = caps.length) (h : ∀ (j : Nat) c, caps[j]? = some c → ARel I β w c (vs.getD j undef)) :
      ARel I β w (.fn f caps) (.func (.func f) #[] vs)
  | tup {cs : List AV} {vs : Array Value} (hl : vs.size = cs.length) (h : ∀ (j : Nat) c, cs[j]? = some c → ARel I β w c (vs.getD j undef)) : ARel I β w (.tup cs) (.tuple vs)
  | dead (v : Value) : ARel I β w .dead v

def rowCell : Rows → Nat → Nat → Option AV
  | .box cs, i, j => if i = 0 then cs[j]? else none
  | .p xs, i, j => ((xs[i]?).bind (·[j]?)).map .pv
  | .m xs, i, j => (xs[i]?).bind (·[j]?)

def rowsWide : Rows → Nat → Prop
  | .box cs, z => cs.length = z
  | .p xs, z => ∀ (i : Nat) r, xs[i]? = some r → r.length = z
  | .m xs, z => ∀ (i : Nat) r, xs[i]? = some r → r.length = z

/-- Block b bears object o. -/
def OSim (I : Nat → Prop) (β : Beta) (w : World) (b : Nat × Nat) (o : AObj) : Prop :=
  rowsWide o.rows o.z ∧ (o.fz = true ↔ I b.1) ∧ ∃ c, w.heap[b.1]? = some (.cells c o.ty (0, 0)) ∧
    ∀ i j x, rowCell o.rows i j = some x → ∃ v, c[(i + b.2) * o.z + j]? = some v ∧ v.oneCell' = true ∧ ARel I β w x v

structure HSim (I : Nat → Prop) (β : Beta) (H : Heap) (w : World) : Prop where
  len : β.length = H.length
  obj : ∀ (i : Nat) o, H[i]? = some (some o) → ∃ b, β[i]? = some (some b) ∧ OSim I β w b o
  inj : ∀ (i j : Nat) oi oj b b', H[i]? = some (some oi) → H[j]? = some (some oj) → β[i]? = some (some b) → β[j]? = some (some b') → b.1 = b'.1 → i = j
  imm : ∀ b, I b → b < w.heap.size
  lt : ∀ (i : Nat) b, β[i]? = some (some b) → b.1 < w.heap.size

/-- What may have become of the world. -/
structure Evo (I : Nat → Prop) (β : Beta) (w : World) (I' : Nat → Prop) (β' : Beta) (w' : World) : Prop where
  os : w'.os = w.os
  tape : w'.tape = w.tape
  output : w'.output = w.output
  size : w.heap.size ≤ w'.heap.size
  pre : ∀ (i : Nat) b, β[i]? = some (some b) → β'[i]? = some (some b)
  fresh : ∀ (i : Nat) b, β'[i]? = some (some b) → w.heap.size ≤ b.1 ∨ ∃ (j : Nat) (b0 : Nat × Nat), β[j]? = some (some b0) ∧ b0.1 = b.1
  keep : ∀ b, b < w.heap.size → (∀ (i : Nat) c, β[i]? = some (some c) → c.1 ≠ b) → w'.heap[b]? = w.heap[b]?
  keepI : ∀ b, I b → w'.heap[b]? = w.heap[b]? ∧ I' b
  old : ∀ b, b < w.heap.size → I' b → I b ∨ ∃ (i : Nat) (c : Nat × Nat), β[i]? = some (some c) ∧ c.1 = b
  shape : ∀ b t n, w.shape? b = some (t, n) → w'.shape? b = some (t, n)

/-- An abstract state says of an activation and a world; since the function was entered the world has come from w0. -/
structure Sim (I0 : Nat → Prop) (β0 : Beta) (w0 : World) (n : Nat) (lo cnt : Nat) (g : Nat → Option AV) (H : Heap) (I : Nat → Prop) (β : Beta) (a : Act) (w : World) : Prop where
  h : HSim I β H w
  defers : a.defers = []
  size : a.tmps.size = n
  slot : ∀ s x, g s = some x → ARel I β w x (a.tmps.getD s undef)
  evo : Evo I0 β0 w0 I β w
  free : ∀ s, lo ≤ s → s < lo + cnt → β[s]? = some none

def SimE (I0 : Nat → Prop) (β0 : Beta) (w0 : World) (n : Nat) (lo cnt : Nat) (g : Nat → Option AV) (H : Heap) (a : Act) (w : World) : Prop := ∃ I β, Sim I0 β0 w0 n lo cnt g H I β a w

/-- What one abstract state says, the other says too. -/
def Ghost (n nh : Nat) (Γ : Slots) (H : Heap) (Γ' : Slots) (H' : Heap) : Prop := ∀ I0 (β0 : Beta) w0 a w, β0.length ≤ nh → SimE I0 β0 w0 n 0 0 (get Γ) H a w → SimE I0 β0 w0 n 0 0 (get Γ') H' a w

theorem Ghost.refl {n nh : Nat} {Γ : Slots} {H : Heap} : Ghost n nh Γ H Γ H := fun _ _ _ _ _ _ h => h
theorem Ghost.trans {n nh : Nat} {Γ Γ1 Γ2 : Slots} {H H1 H2 : Heap} (h : Ghost n nh Γ H Γ1 H1) (k : Ghost n nh Γ1 H1 Γ2 H2) : Ghost n nh Γ H Γ2 H2 := fun _ _ _ _ _ l e => k _ _ _ _ _ l (h _ _ _ _ _ l e)

def gh (n nh : Nat) (Γ : Slots) (H : Heap) (K : Slots → Heap → Prop) : Prop := ∃ Γ' H', Ghost n nh Γ H Γ' H' ∧ K Γ' H'
theorem gh.same {n nh : Nat} {Γ : Slots} {H : Heap} {K : Slots → Heap → Prop} (h : K Γ H) : gh n nh Γ H K := ⟨Γ, H, Ghost.refl, h⟩
theorem gh.step {n nh : Nat} {Γ Γ1 : Slots} {H H1 : Heap} {K : Slots → Heap → Prop} (h : Ghost n nh Γ H Γ1 H1) (k : gh n nh Γ1 H1 K) : gh n nh Γ H K := by
  obtain ⟨Γ2, H2, h2, hk⟩ := k
  exact ⟨Γ2, H2, h.trans h2, hk⟩

/-- Whatever is x is y too. -/
def PLe (p q : PV) : Prop := ∀ I w v, PRel I w p v → PRel I w q v
def ALe (x y : AV) : Prop := ∀ I β w v, ARel I β w x v → ARel I β w y v
def ALeL : List AV → List AV → Prop
  | [], [] => True
  | x :: l, y :: m => ALe x y ∧ ALeL l m
  | _, _ => False
theorem ALe.refl {x : AV} : ALe x x := fun _ _ _ _ h => h
theorem ALeL.refl : ∀ {l : List AV}, ALeL l l
  | [] => trivial
  | _ :: _ => ⟨ALe.refl, ALeL.refl⟩
theorem ALeL.spec : ∀ {l m : List AV}, ALeL l m → m.length = l.length ∧ ∀ (j : Nat) y, m[j]? = some y → ∃ x, l[j]? = some x ∧ ALe x y
  | [], [], _ => ⟨rfl, fun j y h => by simp at h⟩
  | x :: l, y :: m, h => by
    obtain ⟨h1, h2⟩ := ALeL.spec h.2
    refine ⟨by simp [h1], fun j z hj => ?_⟩
    cases j with
    | zero => simp at hj; subst hj; exact ⟨x, rfl, h.1⟩
    | succ j => simpa using h2 j z (by simpa using hj)
  | [], _ :: _, h => h.elim
  | _ :: _, [], h => h.elim

/-- The contract of a call: 'args' and the objects that it is handed, 'Post' of the result and of the objects behind the call (what is new comes behind them). -/
def Enterable (P : Program) (f : FuncId) : Prop := ∃ fn, P.funcs[f]? = some fn ∧ (fn.name == "runtime.NumGoroutine") = false ∧ fn.body.isNone = false

def ACall (P : Program) (f : FuncId) (args : List AV) (H : Heap) (Post : AV → Heap → Prop) : Prop :=
  Enterable P f ∧ ∀ (I : Nat → Prop) (β : Beta) (w : World) (vs : Array Value), HSim I β H w → vs.size = args.length →
    (∀ (j : Nat) c, args[j]? = some c → ARel I β w c (vs.getD j undef)) →
    Calls P f vs w fun e w' => ∃ r H' I' β' v, e = .returned v ∧ Post r H' ∧ HSim I' β' H' w' ∧ ARel I' β' w' r v ∧ Evo I β w I' β' w'

/-- A call whose arguments and result are pure. -/
def PCall (P : Program) (f : FuncId) (args : List AV) (Post : AV → Prop) : Prop := ACall P f args [] fun r H' => H' = [] ∧ Post r

mutual
/-- With other numbers for the objects; d: a number that is no object's. -/
def renC (d : Nat) (rn : List Nat) : AV → AV
  | .pv p => .pv p
  | .agg cs => .agg (renL d rn cs)
  | .ms id z off len => .ms (rn.getD id d) z off len
  | .ptr id z row col => .ptr (rn.getD id d) z row col
  | .fn f caps => .fn f (renL d rn caps)
  | .tup vs => .tup (renL d rn vs)
  | .dead => .dead
def renL (d : Nat) (rn : List Nat) : List AV → List AV
  | [] => []
  | x :: l => renC d rn x :: renL d rn l
end

def renRows (d : Nat) (rn : List Nat) : Rows → Rows
  | .box cs => .box (renL d rn cs)
  | .p xs => .p xs
  | .m xs => .m (xs.map (renL d rn))

def renO (d : Nat) (rn : List Nat) (o : AObj) : AObj := { o with rows := renRows d rn o.rows }

def mapO {α β : Type} (f : α → Option β) : List α → Option (List β)
  | [] => some []
  | x :: l => match f x, mapO f l with
    | some y, some ys => some (y :: ys)
    | _, _ => none

/-- The pure form of a cell: objects are read where they are met. -/
def convC (H : Heap) : Nat → AV → Option PV
  | _, .pv p => some p
  | n + 1, .ms id z off len => match H[id]? with
    | some (some o) => match Nat.beq o.z z, o.rows with
      | true, .p xs => some (.sl z ((xs.drop off).take len))
      | true, .m xs => match mapO (mapO (convC H n)) ((xs.drop off).take len) with
        | some ps => some (.sl z ps)
        | none => none
      | _, _ => none
    | _ => none
  | n + 1, .ptr id z row col => match H[id]? with
    | some (some o) => match Nat.beq o.z z, o.rows, row with
      | true, .box cs, 0 => match mapO (convC H n) (cs.drop col) with
        | some ps => some (.ia ps)
        | none => none
      | _, _, _ => none
    | _ => none
  | n + 1, .fn f caps => match mapO (convC H n) caps with
    | some ps => some (.fn f ps)
    | none => none
  | _, _ => none

def andL (f : AV → Prop) : List AV → Prop
  | [] => True
  | .pv _ :: l => andL f l
  | x :: l => f x ∧ andL f l

/-- What 'convC' asks: a slice does not reach beyond what is known of its object. -/
def okC (H : Heap) : Nat → AV → Prop
  | n + 1, .ms id _ off len => match H[id]? with
    | some (some o) => match o.rows with
      | .p xs => off + len ≤ xs.length
      | .m xs => off + len ≤ xs.length ∧ ∀ r ∈ (xs.drop off).take len, andL (okC H n) r
      | .box _ => True
    | _ => True
  | n + 1, .ptr id _ _ col => match H[id]? with
    | some (some o) => match o.rows with
      | .box cs => andL (okC H n) (cs.drop col)
      | _ => True
    | _ => True
  | n + 1, .fn _ caps => andL (okC H n) caps
  | _, _ => True

def ok0 (H : Heap) : AV → Prop
  | .agg cs => andL (okC H 5) cs
  | x => okC H 5 x

def ok1 (H : Heap) : AV → Prop
  | .tup vs => andL (ok0 H) vs
  | x => ok0 H x

def conv1 (H : Heap) : AV → Option AV
  | .agg cs => match mapO (convC H 5) cs with
    | some ps => some (.agg (pvs ps))
    | none => none
  | x => match convC H 5 x with
    | some p => some (.pv p)
    | none => none

def conv (H : Heap) : AV → Option AV
  | .tup vs => match mapO (conv1 H) vs with
    | some ps => some (.tup ps)
    | none => none
  | x => conv1 H x

/-- The objects that 'convC' reads and that are not frozen. -/
def idsC (H : Heap) : Nat → AV → List Nat
  | n + 1, .ms id _ off len => match H[id]? with
    | some (some o) => (match o.fz with | true => [] | false => [id]) ++ (match o.rows with
      | .m xs => ((xs.drop off).take len).flatMap fun r => r.flatMap (idsC H n)
      | _ => [])
    | _ => []
  | n + 1, .ptr id _ _ col => match H[id]? with
    | some (some o) => (match o.fz with | true => [] | false => [id]) ++ (match o.rows with
      | .box cs => (cs.drop col).flatMap (idsC H n)
      | _ => [])
    | _ => []
  | n + 1, .fn _ caps => caps.flatMap (idsC H n)
  | _, _ => []

def ids0 (H : Heap) : AV → List Nat
  | .agg cs => cs.flatMap (idsC H 5)
  | x => idsC H 5 x

def ids1 (H : Heap) : AV → List Nat
  | .tup vs => vs.flatMap (ids0 H)
  | x => ids0 H x

/-- The objects that 'convC' reads. -/
def rdsC (H : Heap) : Nat → AV → List Nat
  | n + 1, .ms id _ off len => match H[id]? with
    | some (some o) => id :: (match o.rows with
      | .m xs => ((xs.drop off).take len).flatMap fun r => r.flatMap (rdsC H n)
      | _ => [])
    | _ => [id]
  | n + 1, .ptr id _ row col => match H[id]? with
    | some (some o) => id :: (match o.rows with
      | .box cs => (cs.drop col).flatMap (rdsC H n)
      | _ => [])
    | _ => [id]
  | n + 1, .fn _ caps => caps.flatMap (rdsC H n)
  | _, _ => []

def rds0 (H : Heap) : AV → List Nat
  | .agg cs => cs.flatMap (rdsC H 5)
  | x => rdsC H 5 x

def rds1 (H : Heap) : AV → List Nat
  | .tup vs => vs.flatMap (rds0 H)
  | x => rds0 H x

def frz (H : Heap) : List Nat → Upd
  | [] => []
  | i :: l => match H[i]? with
    | some (some o) => (i, some { o with fz := true }) :: frz H l
    | _ => frz H l

def scal1 : AV → Bool
  | .pv (.val _) => true
  | _ => false

def scal : AV → Bool
  | .pv (.val _) => true
  | .agg cs => cs.all scal1
  | .tup cs => cs.all fun x => match x with
    | .agg ds => ds.all scal1
    | x => scal1 x
  | _ => false

/-- The objects 'ids' of H are those of Hc, seen by the callee's numbers. -/
def passed (H : Heap) (d : Nat) (rn : List Nat) : List Nat → Heap → Prop
  | [], [] => True
  | i :: l, some o :: Hc => H[i]? = some (some (renO d rn o)) ∧ passed H d rn l Hc
  | _, _ => False

def renOpt (d : Nat) (rn : List Nat) : Option AObj → Option AObj
  | some o => some (renO d rn o)
  | none => none

/-- The caller's heap behind the call. -/
def taken (d : Nat) (rn : List Nat) : List Nat → Heap → Heap → Heap
  | [], Hc, H => H ++ Hc.map (renOpt d rn)
  | i :: l, o :: Hc, H => taken d rn l Hc (H.set i (renOpt d rn o))
  | _ :: _, [], H => H

def tabl (from_ : Nat) : Nat → List Nat
  | 0 => []
  | n + 1 => from_ :: tabl (from_ + 1) n

def allD : List Nat → Bool
  | [] => true
  | x :: l => l.all (fun y => !Nat.beq x y) && allD l

/-- A call of function f: with pure arguments (objects are borrowed, or frozen), or with objects handed over. -/
def vcFun0 (P : Program) (f : FuncId) (args : List AV) (H : Heap) (K : AV → Heap → Prop) : Prop :=
  (match mapO (conv H) args with
    | some as0 => andL (ok1 H) args ∧ ∃ as Post, as = as0 ∧ PCall P f as Post ∧ ∀ r, Post r → (scal r = true ∧ K r H) ∨ K r (app H (frz H (args.flatMap (ids1 H))))
    | none => False) ∨
  ∃ ids Hc as Post, allD ids = true ∧ passed H H.length ids ids Hc ∧ args = renL H.length ids as ∧ ACall P f as Hc Post ∧
    ∀ r Hc', Post r Hc' → ids.length ≤ Hc'.length ∧ K (renC 0 (ids ++ tabl H.length (Hc'.length - ids.length)) r) (taken 0 (ids ++ tabl H.length (Hc'.length - ids.length)) ids Hc' H)

def vcFun (P : Program) (f : FuncId) (args : List AV) (H : Heap) (K : AV → Heap → Prop) : Prop := ∃ as, ALeL args as ∧ vcFun0 P f as H K

def updOf (d : Nat) (rn : List Nat) : List Nat → Heap → Upd
  | i :: l, o :: Hc => (i, renOpt d rn o) :: updOf d rn l Hc
  | _, _ => []

/-- The same in a statement that draws its order: the result is known. -/
def vcFunD0 (P : Program) (f : FuncId) (args : List AV) (H : Heap) (K : AV → Upd → List Nat → Prop) : Prop :=
  (match mapO (conv H) args with
    | some as0 => andL (ok1 H) args ∧ ∃ as r, as = as0 ∧ PCall P f as (fun x => x = r) ∧ (scal r || (args.flatMap (ids1 H)).isEmpty) = true ∧ K r [] (args.flatMap (rds1 H))
    | none => False) ∨
  ∃ ids Hc as r Hc', allD ids = true ∧ passed H H.length ids ids Hc ∧ args = renL H.length ids as ∧ ACall P f as Hc (fun x Hx => x = r ∧ Hx = Hc') ∧ Hc'.length = ids.length ∧
    K (renC 0 ids r) (updOf 0 ids ids Hc') ids

def vcFunD (P : Program) (f : FuncId) (args : List AV) (H : Heap) (K : AV → Upd → List Nat → Prop) : Prop := ∃ as, ALeL args as ∧ vcFunD0 P f as H K

def isAlloc : Op → Bool
  | .alloc _ | .box .. | .buildSlice .. | .makeSlice .. | .call { callee := .builtin .append, .. } => true
  | _ => false

def allocs : List Oper → Nat
  | [] => 0
  | o :: l => bif isAlloc o.op then allocs l + 1 else allocs l

def nones {α : Type} : Nat → List (Option α)
  | 0 => []
  | n + 1 => none :: nones n

/-- Slots of which it is known which bool they hold. -/
abbrev Known := List (Nat × Bool)

def kn : Known → Nat → Option Bool
  | [], _ => none
  | (k, b) :: l, s => bif Nat.beq k s then some b else kn l s

def knOut : Known → Nat → (Known → Prop) → Prop
  | [], _, K => K []
  | (k, b) :: l, s, K => match Nat.beq k s with
    | true => knOut l s K
    | false => knOut l s fun l' => K ((k, b) :: l')

def knOf (dc : Known) : Operand → Option Bool
  | .const (.bool b) => some b
  | .tmp t => kn dc t
  | _ => none

/-- What is known of the result of an operation. -/
def knRes (dc : Known) : Op → Option Bool
  | .move x | .assign x => knOf dc x
  | .pick c a b => match knOf dc c with
    | some true => knOf dc a
    | some false => knOf dc b
    | none => none
  | _ => none

def knPut (dc : Known) (o : Oper) (K : Known → Prop) : Prop :=
  match o.dst with
  | some d => match knRes dc o.op with
    | some true => knOut dc d fun l => K ((d, true) :: l)
    | some false => knOut dc d fun l => K ((d, false) :: l)
    | none => knOut dc d K
  | none => K dc

def knSkip (dc : Known) (o : Oper) (K : Known → Prop) : Prop :=
  match o.dst with
  | some d => knOut dc d K
  | none => K dc

/-- The operation that is carried out where the bool of a 'pick' is known. -/
def simpOp (dc : Known) : Op → Op
  | .pick c a b => match knOf dc c with
    | some true => .move a
    | some false => .move b
    | none => .pick c a b
  | op => op

/-- A guarded operation. -/
def vcGuard (ops : List Oper) (Γ : Slots) (dc : Known) (g : Option (Nat × Bool)) (run skip : Known → Prop) : Prop :=
  match g with
  | none => run dc
  | some (j, want) => match ops[j]? with
    | some o => match o.dst with
      | some d => match kn dc d with
        | some b => match b, want with
          | true, true => run dc
          | false, false => run dc
          | _, _ => skip dc
        | none => match get Γ d with
          | some (.pv (.val (.bool b))) => match want with
            | true => (b = true → run ((d, true) :: dc)) ∧ (b = false → skip ((d, false) :: dc))
            | false => (b = false → run ((d, false) :: dc)) ∧ (b = true → skip ((d, true) :: dc))
          | some (.pv (.val (.tuple _))) => skip dc
          | _ => False
      | none => False
    | none => False

def vcCall (P : Program) (fv : AV) (args : List AV) (H : Heap) (K : AV → Heap → Prop) : Prop :=
  match fv with
  | .pv (.fn f caps) => vcFun P f (args ++ pvs caps) H K
  | .fn f caps => vcFun P f (args ++ caps) H K
  | _ => False

def vcCallD (P : Program) (fv : AV) (args : List AV) (H : Heap) (K : AV → Upd → List Nat → Prop) : Prop :=
  match fv with
  | .pv (.fn f caps) => vcFunD P f (args ++ pvs caps) H K
  | .fn f caps => vcFunD P f (args ++ caps) H K
  | _ => False

/-- The same, with its argument laid out: so that what a step leaves stays small. -/
def forceL {α : Type} : List α → (List α → Prop) → Prop
  | [], K => K []
  | x :: l, K => forceL l fun l' => K (x :: l')

def forceH : Heap → (Heap → Prop) → Prop
  | [], K => K []
  | none :: l, K => forceH l fun l' => K (none :: l')
  | some ⟨ty, z, fz, .box cs⟩ :: l, K => forceL cs fun cs' => forceH l fun l' => K (some ⟨ty, z, fz, .box cs'⟩ :: l')
  | some ⟨ty, z, fz, .p xs⟩ :: l, K => forceH l fun l' => K (some ⟨ty, z, fz, .p xs⟩ :: l')
  | some ⟨ty, z, fz, .m xs⟩ :: l, K => forceH l fun l' => K (some ⟨ty, z, fz, .m xs⟩ :: l')

def forceV : AV → (AV → Prop) → Prop
  | .agg cs, K => forceL cs fun cs' => K (.agg cs')
  | .tup cs, K => forceL cs fun cs' => K (.tup cs')
  | v, K => K v

def putK (Γ : Slots) (d : Option Tmp) (v : AV) (K : Slots → Prop) : Prop :=
  match d with
  | some t => forceV v fun v' => K ((t, v') :: Γ)
  | none => K Γ

def appK (H : Heap) (u : Upd) (K : Heap → Prop) : Prop :=
  match u with
  | [] => K H
  | p :: u => forceH (app H (p :: u)) K

def vcStep (P : Program) (T : Tab) (site : Nat) (dst : Option Tmp) (op : Op) (Γ : Slots) (H : Heap) (K : Slots → Heap → Prop) : Prop :=
  match op with
  | .call { callee := .value f, args := args, .. } => match ev Γ f, mapO (ev Γ) args.toList with
    | some fv, some vs => vcCall P fv vs H fun r H' => putK Γ dst r fun Γ' => forceH H' fun H2 => K Γ' H2
    | _, _ => False
  | op => vcOp T site op (ev Γ) H fun r u _ => putK Γ dst r fun Γ' => appK H u fun H2 => K Γ' H2

def dstOk (n : Nat) (o : Oper) : Bool :=
  match o.dst with
  | some d => Nat.blt d n
  | none => true

def vcOps (P : Program) (T : Tab) (n : Nat) (all : List Oper) : List Oper → Nat → (Slots → Heap → Prop) → Known → Slots → Heap → Prop
  | [], _, K, _, Γ, H => K Γ H
  | o :: l, site, K, dc, Γ, H => match dstOk n o, isAlloc o.op with
    | true, true => vcGuard all Γ dc o.guard (fun dc' => knPut dc' o fun d2 => vcStep P T site o.dst (simpOp dc' o.op) Γ H (vcOps P T n all l (site + 1) K d2))
        (fun dc' => knSkip dc' o fun d2 => putK Γ o.dst (.pv (.val undef)) fun Γ' => vcOps P T n all l (site + 1) K d2 Γ' H)
    | true, false => vcGuard all Γ dc o.guard (fun dc' => knPut dc' o fun d2 => vcStep P T site o.dst (simpOp dc' o.op) Γ H (vcOps P T n all l site K d2))
        (fun dc' => knSkip dc' o fun d2 => putK Γ o.dst (.pv (.val undef)) fun Γ' => vcOps P T n all l site K d2 Γ' H)
    | _, _ => False

def keysOf : Upd → List Nat
  | [] => []
  | (i, _) :: u => i :: keysOf u

def vcStepD (P : Program) (T : Tab) (site : Nat) (dst : Option Tmp) (op : Op) (Γ : Slots) (H : Heap) (K : Slots → Heap → List Nat × List Nat → Prop) : Prop :=
  match op with
  | .call { callee := .value f, args := args, .. } => match ev Γ f, mapO (ev Γ) args.toList with
    | some fv, some vs => vcCallD P fv vs H fun r u rd => putK Γ dst r fun Γ' => appK H u fun H2 => K Γ' H2 (rd, keysOf u)
    | _, _ => False
  | op => vcOp T site op (ev Γ) H fun r u rd => putK Γ dst r fun Γ' => appK H u fun H2 => K Γ' H2 (rd, keysOf u)

/-- The operations of a statement that draws its order, in the text's order, with what each read and changed. -/
def vcOpsD (P : Program) (T : Tab) (n : Nat) (all : List Oper) : List Oper → Nat → (List (List Nat × List Nat) → Slots → Heap → Prop) → List (List Nat × List Nat) → Known → Slots → Heap → Prop
  | [], _, K, fs, _, Γ, H => K fs Γ H
  | o :: l, site, K, fs, dc, Γ, H => match dstOk n o, isAlloc o.op with
    | true, true => vcGuard all Γ dc o.guard (fun dc' => knPut dc' o fun d2 => vcStepD P T site o.dst (simpOp dc' o.op) Γ H fun Γ' H' f => vcOpsD P T n all l (site + 1) K (f :: fs) d2 Γ' H')
        (fun dc' => knSkip dc' o fun d2 => putK Γ o.dst (.pv (.val undef)) fun Γ' => vcOpsD P T n all l (site + 1) K (([], []) :: fs) d2 Γ' H)
    | true, false => vcGuard all Γ dc o.guard (fun dc' => knPut dc' o fun d2 => vcStepD P T site o.dst (simpOp dc' o.op) Γ H fun Γ' H' f => vcOpsD P T n all l site K (f :: fs) d2 Γ' H')
        (fun dc' => knSkip dc' o fun d2 => putK Γ o.dst (.pv (.val undef)) fun Γ' => vcOpsD P T n all l site K (([], []) :: fs) d2 Γ' H)
    | _, _ => False

/-- Which operations come ahead of one, through others too (as a number's bits). -/
def maskOf (o : Oper) (acc : List Nat) : Nat := o.after.toList.foldl (fun s e => bif Region.binds .any e then (s ||| 2 ^ e.on) ||| acc.getD e.on 0 else s) 0

def masks : List Oper → List Nat → List Nat
  | [], acc => acc
  | o :: l, acc => masks l (acc ++ [maskOf o acc])

def disj (xs ys : List Nat) : Bool := xs.all fun x => ys.all fun y => !Nat.beq x y

def pairOk (ops : Array Oper) (ms : List Nat) (fs : List (List Nat × List Nat)) (i j : Nat) : Bool :=
  (ms.getD j 0).testBit i ||
  (match ops[i]?, ops[j]?, fs[i]?, fs[j]? with
    | some x, some y, some f, some g => x.apart ops y && disj f.2 g.1 && disj f.2 g.2 && disj g.2 f.1
    | _, _, _, _ => false)

/-- Whatever order the edges let, the statement does the same. -/
def drawOk (ops : Array Oper) (fs : List (List Nat × List Nat)) : Bool :=
  (ops.toList.zipIdx.all fun (o, i) => o.after.toList.all fun e => !Region.binds .any e || Nat.blt e.on i) &&
  (List.range ops.size).all fun j => (List.range j).all fun i => pairOk ops (masks ops.toList []) fs i j

/-- State S says all that T says, with other numbers for the objects. -/
def refSlots (d : Nat) (rn : List Nat) (Γ : Slots) : Slots → Prop
  | [] => True
  | (s, x) :: l => get Γ s = some (renC d rn x) ∧ refSlots d rn Γ l

/-- The objects 'ids' of H are those of Hc; some are given up. -/
def kept (H : Heap) (d : Nat) (rn : List Nat) : List Nat → Heap → Prop
  | [], [] => True
  | i :: l, some o :: Hc => H[i]? = some (some (renO d rn o)) ∧ kept H d rn l Hc
  | _ :: l, none :: Hc => kept H d rn l Hc
  | _, _ => False

/-- nh: so many objects were handed to the function. -/
def Ref (nh : Nat) (Γ : Slots) (H : Heap) (T : ASt) : Prop := ∃ rn, allD rn = true ∧ rn.take nh = tabl 0 nh ∧ kept H H.length rn rn T.hp ∧ refSlots H.length rn Γ T.sl

def thenQ (next : Slots → Heap → Prop) (Q : Exit → Slots → Heap → Prop) : Exit → Slots → Heap → Prop
  | .normal, Γ, H => next Γ H
  | e, Γ, H => Q e Γ H

def inBlockQ (id : Nat) (Q : Exit → Slots → Heap → Prop) : Exit → Slots → Heap → Prop
  | .exit id', Γ, H => bif Nat.beq id' id then Q .normal Γ H else Q (.exit id') Γ H
  | e, Γ, H => Q e Γ H

def noGotoQ (Q : Exit → Slots → Heap → Prop) : Exit → Slots → Heap → Prop
  | .goto _, _, _ => False
  | e, Γ, H => Q e Γ H

def lenK {α : Type} : List α → Nat → (Nat → Prop) → Prop
  | [], n, K => K n
  | _ :: l, n, K => lenK l (n + 1) K

def vcRegion (P : Program) (T : Tab) (n : Nat) (ops : Array Oper) (draw : Bool) (K : Slots → Heap → Prop) (Γ : Slots) (H : Heap) : Prop :=
  match draw with
  | false => match allocs ops.toList with
    | 0 => vcOps P T n ops.toList ops.toList 0 K [] Γ H
    | m + 1 => lenK H 0 fun k => forceH (H ++ nones (m + 1)) fun H' => vcOps P T n ops.toList ops.toList k K [] Γ H'
  | true => match allocs ops.toList with
    | 0 => vcOpsD P T n ops.toList ops.toList 0 (fun fs Γ' H' => drawOk ops fs.reverse = true ∧ K Γ' H') [] [] Γ H
    | m + 1 => lenK H 0 fun k => forceH (H ++ nones (m + 1)) fun H1 => vcOpsD P T n ops.toList ops.toList k (fun fs Γ' H' => drawOk ops fs.reverse = true ∧ K Γ' H') [] [] Γ H1

/-- The numbers without one. -/
def without (j : Nat) : List Nat → List Nat
  | [] => []
  | k :: l => bif Nat.beq k j then without j l else k :: without j l

def hasN (j : Nat) : List Nat → Bool
  | [] => false
  | k :: l => bif Nat.beq k j then true else hasN j l

/-- Operation j may come next: what its edges name is done. -/
def readyIn (ops : Array Oper) (rem : List Nat) (j : Nat) : Bool :=
  match ops[j]? with
  | some o => o.after.toList.all fun e => !Region.binds .any e || (Nat.blt e.on ops.size && !hasN e.on rem)
  | none => false

def eachReady (ops : Array Oper) (rem : List Nat) (F : Nat → Prop) : List Nat → Prop
  | [] => True
  | j :: l => match readyIn ops rem j with
    | true => F j ∧ eachReady ops rem F l
    | false => eachReady ops rem F l

/-- The operations 'rem' of a statement in every order that its edges let. -/
def vcAny (P : Program) (T : Tab) (n : Nat) (ops : Array Oper) : Nat → List Nat → Nat → (Slots → Heap → Prop) → Slots → Heap → Prop
  | _, [], _, K, Γ, H => K Γ H
  | 0, _ :: _, _, _, _, _ => False
  | fuel + 1, rem, site, K, Γ, H => match rem.any (readyIn ops rem) with
    | true => eachReady ops rem (fun j => match ops[j]? with
      | some o => match dstOk n o, isAlloc o.op with
        | true, true => vcGuard ops.toList Γ [] o.guard (fun _ => vcStep P T site o.dst (simpOp [] o.op) Γ H (vcAny P T n ops fuel (without j rem) (site + 1) K))
            (fun _ => putK Γ o.dst (.pv (.val undef)) fun Γ' => vcAny P T n ops fuel (without j rem) (site + 1) K Γ' H)
        | true, false => vcGuard ops.toList Γ [] o.guard (fun _ => vcStep P T site o.dst (simpOp [] o.op) Γ H (vcAny P T n ops fuel (without j rem) site K))
            (fun _ => putK Γ o.dst (.pv (.val undef)) fun Γ' => vcAny P T n ops fuel (without j rem) site K Γ' H)
        | _, _ => False
      | none => False) rem
    | false => False

def vcRegionAny (P : Program) (T : Tab) (n : Nat) (ops : Array Oper) (K : Slots → Heap → Prop) (Γ : Slots) (H : Heap) : Prop :=
  match allocs ops.toList with
  | 0 => vcAny P T n ops ops.size (List.range ops.size) 0 K Γ H
  | m + 1 => lenK H 0 fun k => forceH (H ++ nones (m + 1)) fun H1 => vcAny P T n ops ops.size (List.range ops.size) k K Γ H1

/-- So many rounds of a loop. -/
def rounds (F : (Exit → Slots → Heap → Prop) → Slots → Heap → Prop) (Q : Exit → Slots → Heap → Prop) : Nat → Slots → Heap → Prop
  | 0, _, _ => False
  | m + 1, Γ, H => F (thenQ (rounds F Q m) Q) Γ H

def vcCode (P : Program) (T : Tab) (n nh : Nat) : Code → (Exit → Slots → Heap → Prop) → Slots → Heap → Prop
  | .skip, Q, Γ, H => Q .normal Γ H
  | .label _, Q, Γ, H => Q .normal Γ H
  | .region _ ops draw, Q, Γ, H => gh n nh Γ H fun Γ H => vcRegion P T n ops draw (Q .normal) Γ H ∨ (draw = true ∧ vcRegionAny P T n ops (Q .normal) Γ H)
  | .seq a b, Q, Γ, H => gh n nh Γ H fun Γ H => vcCode P T n nh a (thenQ (vcCode P T n nh b Q) Q) Γ H
  | .cond c x y, Q, Γ, H => gh n nh Γ H fun Γ H => match ev Γ c with
    | some (.pv (.val (.bool b))) => (b = true → vcCode P T n nh x Q Γ H) ∧ (b = false → vcCode P T n nh y Q Γ H)
    | _ => False
  | .block id c, Q, Γ, H => gh n nh Γ H fun Γ H => vcCode P T n nh c (inBlockQ id Q) Γ H
  | .loop c, Q, Γ, H => gh n nh Γ H fun Γ H => (∃ (X : Type) (J : X → ASt) (cond : X → Prop) (μ : X → Nat), (∃ x, cond x ∧ Ref nh Γ H (J x)) ∧
      ∀ x, cond x → vcCode P T n nh c (thenQ (fun Γ' H' => ∃ x', cond x' ∧ μ x' < μ x ∧ Ref nh Γ' H' (J x')) Q) (J x).sl (J x).hp) ∨ ∃ m, rounds (vcCode P T n nh c) Q m Γ H
  | .scope c, Q, Γ, H => gh n nh Γ H fun Γ H => vcCode P T n nh c (noGotoQ Q) Γ H
  | .exit id, Q, Γ, H => Q (.exit id) Γ H
  | .ret, Q, Γ, H => gh n nh Γ H fun Γ H => Q .ret Γ H
  | _, _, _, _ => False

def resOf (T : Tab) (Γ : Slots) (H : Heap) : List ResultVar → Option (List AV)
  | [] => some []
  | .tmp t :: l => match get Γ t, resOf T Γ H l with
    | some v, some vs => some (v :: vs)
    | _, _ => none
  | .cell a t :: l => match get Γ a, look T t, resOf T Γ H l with
    | some (.ptr id z 0 0), some d, some vs => match H[id]? with
      | some (some o) => match Nat.beq o.z z, o.rows with
        | true, .box cs => match Nat.beq cs.length d.size, d.agg, cs with
          | true, true, cs => some (.agg cs :: vs)
          | true, false, [c] => some (c :: vs)
          | _, _, _ => none
        | _, _ => none
      | _ => none
    | _, _, _ => none

/-- What a function hands back: k objects were handed to it. -/
def retOk (k : Nat) (r : AV) (H : Heap) (Post : AV → Heap → Prop) : Prop :=
  ∃ rn H', allD rn = true ∧ rn.take k = tabl 0 k ∧ kept H H.length rn rn H' ∧
    ((∃ r', r = renC H.length rn r' ∧ Post r' H') ∨ (match conv H r with
      | some r0 => ok1 H r ∧ ∃ r', r' = r0 ∧ disj (ids1 H r) rn = true ∧ Post r' H'
      | none => False))

def retQ (T : Tab) (k : Nat) (fn : Func) (Post : AV → Heap → Prop) : Exit → Slots → Heap → Prop
  | .normal, Γ, H | .ret, Γ, H => match resOf T Γ H fn.results.toList with
    | some [r] => retOk k r H Post
    | some rs => retOk k (.tup rs) H Post
    | none => False
  | _, _, _ => False

/-- The arguments lie in the first slots. -/
def argSlots : Nat → List AV → Slots
  | _, [] => []
  | i, x :: l => (i, x) :: argSlots (i + 1) l

/-! Copies of the recursions that nobody can unfold (the kernel would run the whole code to compare two of them), and one step of each. -/
theorem ops_ex : ∃ F, F = @vcOps := ⟨_, rfl⟩
theorem opsD_ex : ∃ F, F = @vcOpsD := ⟨_, rfl⟩
theorem code_ex : ∃ F, F = @vcCode := ⟨_, rfl⟩
theorem any_ex : ∃ F, F = @vcAny := ⟨_, rfl⟩
noncomputable def xOps := Classical.choose ops_ex
noncomputable def xOpsD := Classical.choose opsD_ex
noncomputable def xCode := Classical.choose code_ex
theorem xOps_eq : xOps = vcOps := Classical.choose_spec ops_ex
theorem xOpsD_eq : xOpsD = vcOpsD := Classical.choose_spec opsD_ex
noncomputable def xAny := Classical.choose any_ex
theorem xAny_eq : xAny = vcAny := Classical.choose_spec any_ex
theorem xCode_eq : xCode = vcCode := Classical.choose_spec code_ex
attribute [irreducible] xOps xOpsD xCode xAny

def xRegion (P : Program) (T : Tab) (n : Nat) (ops : Array Oper) (draw : Bool) (K : Slots → Heap → Prop) (Γ : Slots) (H : Heap) : Prop :=
  match draw with
  | false => match allocs ops.toList with
    | 0 => xOps P T n ops.toList ops.toList 0 K [] Γ H
    | m + 1 => lenK H 0 fun k => forceH (H ++ nones (m + 1)) fun H' => xOps P T n ops.toList ops.toList k K [] Γ H'
  | true => match allocs ops.toList with
    | 0 => xOpsD P T n ops.toList ops.toList 0 (fun fs Γ' H' => drawOk ops fs.reverse = true ∧ K Γ' H') [] [] Γ H
    | m + 1 => lenK H 0 fun k => forceH (H ++ nones (m + 1)) fun H1 => xOpsD P T n ops.toList ops.toList k (fun fs Γ' H' => drawOk ops fs.reverse = true ∧ K Γ' H') [] [] Γ H1

def xRegionAny (P : Program) (T : Tab) (n : Nat) (ops : Array Oper) (K : Slots → Heap → Prop) (Γ : Slots) (H : Heap) : Prop :=
  match allocs ops.toList with
  | 0 => xAny P T n ops ops.size (List.range ops.size) 0 K Γ H
  | m + 1 => lenK H 0 fun k => forceH (H ++ nones (m + 1)) fun H1 => xAny P T n ops ops.size (List.range ops.size) k K Γ H1

theorem xRegionAny_eq : xRegionAny = vcRegionAny := by
  unfold xRegionAny vcRegionAny
  rw [xAny_eq]

theorem xRegion_eq : xRegion = vcRegion := by
  unfold xRegion vcRegion
  rw [xOps_eq, xOpsD_eq]

section
variable {P : Program} {T : Tab} {n : Nat} {all l : List Oper} {o : Oper} {site : Nat} {K : Slots → Heap → Prop} {dc : Known} {Γ : Slots} {H : Heap}
  {KD : List (List Nat × List Nat) → Slots → Heap → Prop} {fs : List (List Nat × List Nat)} {Q : Exit → Slots → Heap → Prop} {a b : Code} {c : Operand} {id nh : Nat} {ops : Array Oper} {draw : Bool}

theorem ops_nil (h : K Γ H) : xOps P T n all [] site K dc Γ H := by rw [xOps_eq] at *; exact h
theorem ops_cons (h : match dstOk n o, isAlloc o.op with
    | true, true => vcGuard all Γ dc o.guard (fun dc' => knPut dc' o fun d2 => vcStep P T site o.dst (simpOp dc' o.op) Γ H (xOps P T n all l (site + 1) K d2))
        (fun dc' => knSkip dc' o fun d2 => putK Γ o.dst (.pv (.val undef)) fun Γ' => xOps P T n all l (site + 1) K d2 Γ' H)
    | true, false => vcGuard all Γ dc o.guard (fun dc' => knPut dc' o fun d2 => vcStep P T site o.dst (simpOp dc' o.op) Γ H (xOps P T n all l site K d2))
        (fun dc' => knSkip dc' o fun d2 => putK Γ o.dst (.pv (.val undef)) fun Γ' => xOps P T n all l site K d2 Γ' H)
    | _, _ => False) : xOps P T n all (o :: l) site K dc Γ H := by rw [xOps_eq] at *; exact h
theorem opsD_nil (h : KD fs Γ H) : xOpsD P T n all [] site KD fs dc Γ H := by rw [xOpsD_eq] at *; exact h
theorem opsD_cons (h : match dstOk n o, isAlloc o.op with
    | true, true => vcGuard all Γ dc o.guard (fun dc' => knPut dc' o fun d2 => vcStepD P T site o.dst (simpOp dc' o.op) Γ H fun Γ' H' f => xOpsD P T n all l (site + 1) KD (f :: fs) d2 Γ' H')
        (fun dc' => knSkip dc' o fun d2 => putK Γ o.dst (.pv (.val undef)) fun Γ' => xOpsD P T n all l (site + 1) KD (([], []) :: fs) d2 Γ' H)
    | true, false => vcGuard all Γ dc o.guard (fun dc' => knPut dc' o fun d2 => vcStepD P T site o.dst (simpOp dc' o.op) Γ H fun Γ' H' f => xOpsD P T n all l site KD (f :: fs) d2 Γ' H')
        (fun dc' => knSkip dc' o fun d2 => putK Γ o.dst (.pv (.val undef)) fun Γ' => xOpsD P T n all l site KD (([], []) :: fs) d2 Γ' H)
    | _, _ => False) : xOpsD P T n all (o :: l) site KD fs dc Γ H := by rw [xOpsD_eq] at *; exact h
theorem code_skip (h : Q .normal Γ H) : xCode P T n nh .skip Q Γ H := by rw [xCode_eq] at *; exact h
theorem code_label (h : Q .normal Γ H) : xCode P T n nh (.label id) Q Γ H := by rw [xCode_eq] at *; exact h
theorem code_region (h : xRegion P T n ops draw (Q .normal) Γ H) : xCode P T n nh (.region id ops draw) Q Γ H := by rw [xRegion_eq] at h; rw [xCode_eq]; exact gh.same (.inl h)
theorem code_region_any (h : xRegionAny P T n ops (Q .normal) Γ H) : xCode P T n nh (.region id ops true) Q Γ H := by rw [xRegionAny_eq] at h; rw [xCode_eq]; exact gh.same (.inr ⟨rfl, h⟩)
theorem any_nil {fuel : Nat} (h : K Γ H) : xAny P T n ops fuel [] site K Γ H := by rw [xAny_eq]; cases fuel <;> exact h
theorem any_step {fuel j : Nat} {rem0 : List Nat} (h : match (j :: rem0).any (readyIn ops (j :: rem0)) with
    | true => eachReady ops (j :: rem0) (fun j' => match ops[j']? with
      | some o => match dstOk n o, isAlloc o.op with
        | true, true => vcGuard ops.toList Γ [] o.guard (fun _ => vcStep P T site o.dst (simpOp [] o.op) Γ H (xAny P T n ops fuel (without j' (j :: rem0)) (site + 1) K))
            (fun _ => putK Γ o.dst (.pv (.val undef)) fun Γ' => xAny P T n ops fuel (without j' (j :: rem0)) (site + 1) K Γ' H)
        | true, false => vcGuard ops.toList Γ [] o.guard (fun _ => vcStep P T site o.dst (simpOp [] o.op) Γ H (xAny P T n ops fuel (without j' (j :: rem0)) site K))
            (fun _ => putK Γ o.dst (.pv (.val undef)) fun Γ' => xAny P T n ops fuel (without j' (j :: rem0)) site K Γ' H)
        | _, _ => False
      | none => False) (j :: rem0)
    | false => False) : xAny P T n ops (fuel + 1) (j :: rem0) site K Γ H := by rw [xAny_eq] at *; exact h
theorem code_seq (h : xCode P T n nh a (thenQ (xCode P T n nh b Q) Q) Γ H) : xCode P T n nh (.seq a b) Q Γ H := by rw [xCode_eq] at *; exact gh.same h
theorem code_cond (h : match ev Γ c with
    | some (.pv (.val (.bool t))) => (t = true → xCode P T n nh a Q Γ H) ∧ (t = false → xCode P T n nh b Q Γ H)
    | _ => False) : xCode P T n nh (.cond c a b) Q Γ H := by rw [xCode_eq] at *; exact gh.same h
theorem code_block (h : xCode P T n nh a (inBlockQ id Q) Γ H) : xCode P T n nh (.block id a) Q Γ H := by rw [xCode_eq] at *; exact gh.same h
theorem code_scope (h : xCode P T n nh a (noGotoQ Q) Γ H) : xCode P T n nh (.scope a) Q Γ H := by rw [xCode_eq] at *; exact gh.same h
theorem code_exit (h : Q (.exit id) Γ H) : xCode P T n nh (.exit id) Q Γ H := by rw [xCode_eq] at *; exact h
theorem code_ret (h : Q .ret Γ H) : xCode P T n nh .ret Q Γ H := by rw [xCode_eq] at *; exact gh.same h
theorem ghost_region {Γ' : Slots} {H' : Heap} (g : Ghost n nh Γ H Γ' H') (h : xCode P T n nh (.region id ops draw) Q Γ' H') : xCode P T n nh (.region id ops draw) Q Γ H := by rw [xCode_eq] at *; exact gh.step g h
theorem ghost_seq {Γ' : Slots} {H' : Heap} (g : Ghost n nh Γ H Γ' H') (h : xCode P T n nh (.seq a b) Q Γ' H') : xCode P T n nh (.seq a b) Q Γ H := by rw [xCode_eq] at *; exact gh.step g h
theorem ghost_cond {Γ' : Slots} {H' : Heap} (g : Ghost n nh Γ H Γ' H') (h : xCode P T n nh (.cond c a b) Q Γ' H') : xCode P T n nh (.cond c a b) Q Γ H := by rw [xCode_eq] at *; exact gh.step g h
theorem ghost_block {Γ' : Slots} {H' : Heap} (g : Ghost n nh Γ H Γ' H') (h : xCode P T n nh (.block id a) Q Γ' H') : xCode P T n nh (.block id a) Q Γ H := by rw [xCode_eq] at *; exact gh.step g h
theorem ghost_scope {Γ' : Slots} {H' : Heap} (g : Ghost n nh Γ H Γ' H') (h : xCode P T n nh (.scope a) Q Γ' H') : xCode P T n nh (.scope a) Q Γ H := by rw [xCode_eq] at *; exact gh.step g h
theorem ghost_loop {Γ' : Slots} {H' : Heap} (g : Ghost n nh Γ H Γ' H') (h : xCode P T n nh (.loop a) Q Γ' H') : xCode P T n nh (.loop a) Q Γ H := by rw [xCode_eq] at *; exact gh.step g h
theorem ghost_ret {Γ' : Slots} {H' : Heap} (g : Ghost n nh Γ H Γ' H') (h : xCode P T n nh .ret Q Γ' H') : xCode P T n nh .ret Q Γ H := by rw [xCode_eq] at *; exact gh.step g h
theorem code_loop {X : Type} (J : X → ASt) (cond : X → Prop) (μ : X → Nat) (h0 : ∃ x, cond x ∧ Ref nh Γ H (J x))
    (h : ∀ x, cond x → xCode P T n nh a (thenQ (fun Γ' H' => ∃ x', cond x' ∧ μ x' < μ x ∧ Ref nh Γ' H' (J x')) Q) (J x).sl (J x).hp) : xCode P T n nh (.loop a) Q Γ H := by rw [xCode_eq] at *; exact gh.same (.inl ⟨X, J, cond, μ, h0, h⟩)
end
end Go.Cw
