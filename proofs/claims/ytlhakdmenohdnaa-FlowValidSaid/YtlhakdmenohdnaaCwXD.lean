/-
  Cw, part XD: code and calls, run by computation: definitions.
-/
import Derived.Test.YtlhakdmenohdnaaCwXC
namespace Go.Cw
set_option linter.unusedVariables false

def findI : List Nat → Nat → Nat → Option Nat
  | [], _, _ => none
  | y :: l, x, k => bif Nat.beq y x then some k else findI l x (k + 1)

mutual
/-- Back from other numbers. -/
def unC (rn : List Nat) : AV → Option AV
  | .pv p => some (.pv p)
  | .agg cs => match unL rn cs with
    | some ds => some (.agg ds)
    | none => none
  | .ms id z off len => match findI rn id 0 with
    | some k => some (.ms k z off len)
    | none => none
  | .ptr id z row col => match findI rn id 0 with
    | some k => some (.ptr k z row col)
    | none => none
  | .fn f caps => match unL rn caps with
    | some ds => some (.fn f ds)
    | none => none
  | .tup vs => match unL rn vs with
    | some ds => some (.tup ds)
    | none => none
  | .dead => some .dead
def unL (rn : List Nat) : List AV → Option (List AV)
  | [] => some []
  | x :: l => match unC rn x, unL rn l with
    | some y, some ys => some (y :: ys)
    | _, _ => none
end

def unLL (rn : List Nat) : List (List AV) → Option (List (List AV))
  | [] => some []
  | x :: l => match unL rn x, unLL rn l with
    | some y, some ys => some (y :: ys)
    | _, _ => none

def unRows (rn : List Nat) : Rows → Option Rows
  | .box cs => match unL rn cs with
    | some ds => some (.box ds)
    | none => none
  | .p xs => some (.p xs)
  | .m xs => match unLL rn xs with
    | some ds => some (.m ds)
    | none => none

def unO (rn : List Nat) (o : AObj) : Option AObj :=
  match unRows rn o.rows with
  | some r => some { o with rows := r }
  | none => none

/-- The objects 'ids', all of them there. -/
def unHeap (H : Heap) (rn : List Nat) : List Nat → Option Heap
  | [] => some []
  | i :: l => match H[i]? with
    | some (some o) => match unO rn o, unHeap H rn l with
      | some o', some Hc => some (some o' :: Hc)
      | _, _ => none
    | _ => none

/-- The objects 'ids'; some may have been given up. -/
def unHeapN (H : Heap) (rn : List Nat) : List Nat → Option Heap
  | [] => some []
  | i :: l => match H[i]? with
    | some (some o) => match unO rn o, unHeapN H rn l with
      | some o', some Hc => some (some o' :: Hc)
      | _, _ => none
    | _ => match unHeapN H rn l with
      | some Hc => some (none :: Hc)
      | none => none

mutual
def idsV : AV → List Nat → List Nat
  | .pv _, l => l
  | .agg cs, l => idsL cs l
  | .ms id _ _ _, l => id :: l
  | .ptr id _ _ _, l => id :: l
  | .fn _ caps, l => idsL caps l
  | .tup vs, l => idsL vs l
  | .dead, l => l
def idsL : List AV → List Nat → List Nat
  | [], l => l
  | x :: xs, l => idsV x (idsL xs l)
end

def idsLL : List (List AV) → List Nat → List Nat
  | [], l => l
  | x :: xs, l => idsL x (idsLL xs l)

def idsR : Rows → List Nat → List Nat
  | .box cs, l => idsL cs l
  | .p _, l => l
  | .m xs, l => idsLL xs l

def memN : List Nat → Nat → Bool
  | [], _ => false
  | y :: l, x => bif Nat.beq y x then true else memN l x

/-- What is reached, behind 'acc'. -/
def close (H : Heap) : Nat → List Nat → List Nat → List Nat
  | 0, _, acc => acc
  | _ + 1, [], acc => acc
  | n + 1, i :: l, acc => bif memN acc i then close H n l acc else match H[i]? with
    | some (some o) => close H n (idsR o.rows l) (acc ++ [i])
    | _ => close H n l acc

def rowsOfIds (H : Heap) : List Nat → List Nat → List Nat
  | [], l => l
  | i :: ids, l => match H[i]? with
    | some (some o) => idsR o.rows (rowsOfIds H ids l)
    | _ => rowsOfIds H ids l

/-- What is known of a function. -/
structure FnD where
  n : Nat
  body : Code
  res : List ResultVar

abbrev FTab := List (FuncId × FnD)

def fnOf (P : Program) (f : FuncId) : Option FnD :=
  match P.funcs[f]? with
  | some fn => match fn.body, fn.name == "runtime.NumGoroutine" with
    | some c, false => some ⟨fn.ntmps, c, fn.results.toList⟩
    | _, _ => none
  | none => none

def lookF : FTab → FuncId → Option FnD
  | [], _ => none
  | (k, d) :: l, t => bif Nat.beq k t then some d else lookF l t

def FTabOk (P : Program) (F : FTab) : Prop := ∀ f d, lookF F f = some d → fnOf P f = some d

theorem FTabOk.of_eq {P : Program} : ∀ {F : FTab}, F.map (fun x => fnOf P x.1) = F.map (fun x => some x.2) → FTabOk P F
  | [], _ => fun t d h => by simp [lookF] at h
  | (k, d0) :: l, he => fun t d h => by
    simp only [List.map_cons, List.cons.injEq] at he
    simp only [lookF] at h
    cases hk : Nat.beq k t
    · rw [hk] at h; exact FTabOk.of_eq he.2 t d h
    · rw [hk] at h
      have : k = t := Nat.eq_of_beq_eq_true hk
      subst this
      simp only [cond_true, Option.some.injEq] at h
      rw [← h]; exact he.1

def exPut : Slots → Nat → AV → Slots
  | [], t, v => [(t, v)]
  | (k, x) :: l, t, v => bif Nat.beq k t then (t, v) :: l else (k, x) :: exPut l t v

def exPutO (Γ : Slots) (d : Option Tmp) (v : AV) : Slots :=
  match d with
  | some t => exPut Γ t v
  | none => Γ

abbrev Caller := FuncId → List AV → Heap → Option (AV × Heap)

/-- What a guard says: run, or skip. -/
def exGuard (ops : List Oper) (Γ : Slots) (g : Option (Nat × Bool)) : Option Bool :=
  match g with
  | none => some true
  | some (j, want) => match ops[j]? with
    | some o => match o.dst with
      | some d => match get Γ d with
        | some (.pv (.val (.bool b))) => some (b == want)
        | some (.pv (.val (.tuple _))) => some false
        | _ => none
      | none => none
    | none => none

/-- A call: the objects that the arguments reach are handed over. -/
def exFn (call : Caller) (f : FuncId) (args : List AV) (H : Heap) : Option (AV × Heap × Upd × List Nat) :=
  let ids := close H 100000 (idsL args []) []
  match unL ids args, unHeap H ids ids, allD ids with
  | some as, some Hc, true => match call f as Hc with
    | some (r, Hc') => match Nat.ble ids.length Hc'.length with
      | true => some (renC 0 (ids ++ tabl H.length (Hc'.length - ids.length)) r, taken 0 (ids ++ tabl H.length (Hc'.length - ids.length)) ids Hc' H, updOf 0 ids ids Hc', bif Nat.beq ids.length Hc'.length then ids else [])
      | false => none
    | none => none
  | _, _, _ => none

def callOf (fv : AV) : Option (FuncId × List AV) :=
  match fv with
  | .pv (.fn f caps) => some (f, pvs caps)
  | .fn f caps => some (f, caps)
  | _ => none

def exStep (T : Tab) (call : Caller) (site : Nat) (dst : Option Tmp) (op : Op) (Γ : Slots) (H : Heap) : Option (Slots × Heap) :=
  match op with
  | .call { callee := .value f, args := args, .. } => match ev Γ f, mapO (ev Γ) args.toList with
    | some fv, some vs => match callOf fv with
      | some (fid, caps) => match exFn call fid (vs ++ caps) H with
        | some (r, H', _, _) => some (exPutO Γ dst r, H')
        | none => none
      | none => none
    | _, _ => none
  | op => match exOp T site op (ev Γ) H with
    | some (r, u, _) => some (exPutO Γ dst r, app H u)
    | none => none

def exOps (T : Tab) (n : Nat) (call : Caller) (all : List Oper) : List Oper → Nat → Slots → Heap → Option (Slots × Heap)
  | [], _, Γ, H => some (Γ, H)
  | o :: l, site, Γ, H => match dstOk n o, exGuard all Γ o.guard with
    | true, some true => match exStep T call site o.dst o.op Γ H with
      | some (Γ', H') => exOps T n call all l (bif isAlloc o.op then site + 1 else site) Γ' H'
      | none => none
    | true, some false => exOps T n call all l (bif isAlloc o.op then site + 1 else site) (exPutO Γ o.dst (.pv (.val undef))) H
    | _, _ => none

/-- In a statement that draws: with what is read and changed. A call may make nothing. -/
def exStepD (T : Tab) (call : Caller) (site : Nat) (dst : Option Tmp) (op : Op) (Γ : Slots) (H : Heap) : Option (Slots × Heap × (List Nat × List Nat)) :=
  match op with
  | .call { callee := .value f, args := args, .. } => match ev Γ f, mapO (ev Γ) args.toList with
    | some fv, some vs => match callOf fv with
      | some (fid, caps) =>
        let ids := close H 100000 (idsL (vs ++ caps) []) []
        match unL ids (vs ++ caps), unHeap H ids ids, allD ids with
        | some as, some Hc, true => match call fid as Hc with
          | some (r, Hc') => match Nat.beq Hc'.length ids.length with
            | true => some (exPutO Γ dst (renC 0 ids r), app H (updOf 0 ids ids Hc'), (ids, keysOf (updOf 0 ids ids Hc')))
            | false => none
          | none => none
        | _, _, _ => none
      | none => none
    | _, _ => none
  | op => match exOp T site op (ev Γ) H with
    | some (r, u, rd) => some (exPutO Γ dst r, app H u, (rd, keysOf u))
    | none => none

def exOpsD (T : Tab) (n : Nat) (call : Caller) (all : List Oper) : List Oper → Nat → List (List Nat × List Nat) → Slots → Heap → Option (List (List Nat × List Nat) × Slots × Heap)
  | [], _, fs, Γ, H => some (fs, Γ, H)
  | o :: l, site, fs, Γ, H => match dstOk n o, exGuard all Γ o.guard with
    | true, some true => match exStepD T call site o.dst o.op Γ H with
      | some (Γ', H', f) => exOpsD T n call all l (bif isAlloc o.op then site + 1 else site) (f :: fs) Γ' H'
      | none => none
    | true, some false => exOpsD T n call all l (bif isAlloc o.op then site + 1 else site) (([], []) :: fs) (exPutO Γ o.dst (.pv (.val undef))) H
    | _, _ => none

def exRegion (T : Tab) (n : Nat) (call : Caller) (ops : Array Oper) (draw : Bool) (Γ : Slots) (H : Heap) : Option (Slots × Heap) :=
  let m := allocs ops.toList
  let lo := bif Nat.beq m 0 then 0 else H.length
  let H1 := bif Nat.beq m 0 then H else H ++ nones m
  match draw with
  | false => exOps T n call ops.toList ops.toList lo Γ H1
  | true => match exOpsD T n call ops.toList ops.toList lo [] Γ H1 with
    | some (fs, Γ', H') => match drawOk ops fs.reverse with
      | true => some (Γ', H')
      | false => none
    | none => none

def exCode (T : Tab) (n : Nat) (call : Caller) : Nat → Code → Slots → Heap → Option (Exit × Slots × Heap)
  | 0, _, _, _ => none
  | k + 1, c, Γ, H => match c with
    | .skip => some (.normal, Γ, H)
    | .label _ => some (.normal, Γ, H)
    | .region _ ops draw => match exRegion T n call ops draw Γ H with
      | some (Γ', H') => some (.normal, Γ', H')
      | none => none
    | .seq a b => match exCode T n call k a Γ H with
      | some (.normal, Γ', H') => exCode T n call k b Γ' H'
      | r => r
    | .cond c x y => match ev Γ c with
      | some (.pv (.val (.bool true))) => exCode T n call k x Γ H
      | some (.pv (.val (.bool false))) => exCode T n call k y Γ H
      | _ => none
    | .block id c => match exCode T n call k c Γ H with
      | some (.exit id', Γ', H') => bif Nat.beq id' id then some (.normal, Γ', H') else some (.exit id', Γ', H')
      | r => r
    | .scope c => match exCode T n call k c Γ H with
      | some (.goto _, _, _) => none
      | r => r
    | .loop c => match exCode T n call k c Γ H with
      | some (.normal, Γ', H') => exCode T n call k (.loop c) Γ' H'
      | r => r
    | .exit id => some (.exit id, Γ, H)
    | .ret => some (.ret, Γ, H)
    | _ => none

/-- What a function hands back. -/
def exRet (k : Nat) (r : AV) (H : Heap) : Option (AV × Heap) :=
  let h := tabl 0 k
  let rn := close H 100000 (idsV r (rowsOfIds H h [])) h
  match unC rn r, unHeapN H rn rn, allD rn with
  | some r', some H', true => some (r', H')
  | _, _, _ => none

def exFun (T : Tab) (F : FTab) (fuel : Nat) : Nat → Caller
  | 0, _, _, _ => none
  | d + 1, f, args, H => match lookF F f with
    | some fn => match Nat.ble args.length fn.n with
      | true => match exCode T fn.n (exFun T F fuel d) fuel fn.body (argSlots 0 args) H with
        | some (e, Γ, H') => match e with
          | .normal | .ret => match resOf T Γ H' fn.res with
            | some [r] => exRet H.length r H'
            | some rs => exRet H.length (.tup rs) H'
            | none => none
          | _ => none
        | none => none
      | false => none
    | none => none

end Go.Cw
