/-
  Cw, part E: an operation that leaves memory alone does what 'vcOp' says.
-/
import Derived.Test.YtlhakdmenohdnaaCwD
import Derived.Lib.SliceRun
import Derived.WalkSpells
import Derived.Laws.Cells
import Derived.ChangeKeysEq
namespace Go.Cw
set_option linter.unusedVariables false
section
variable {P : Program} {T : Tab} {I : Nat → Prop} {β : Beta} {w : World}

theorem val_inv {u v : Value} (h : ARel I β w (.pv (.val u)) v) : v = u := by
  cases h with
  | pv h => cases h; rfl
theorem int_inv {k : IntKind} {n : Int} {v : Value} (h : ARel I β w (.pv (.val (.int k n))) v) : v = .int k n := val_inv h
theorem rel_val (u : Value) : ARel I β w (.pv (.val u)) u := .pv (.val u)
theorem rel_int (k : IntKind) (n : Int) : ARel I β w (vint k n) (.int k n) := .pv (.val _)
theorem rel_bool (b : Bool) : ARel I β w (vbool b) (.bool b) := .pv (.val _)

theorem evc_sound (v : Value) : ARel I β w (evc v) v := by
  unfold evc
  split
  · rename_i cs
    refine .agg (by simp) (fun j c hc => ?_)
    simp only [List.getElem?_map, Option.map_eq_some_iff] at hc
    obtain ⟨u, hu, rfl⟩ := hc
    have hj : j < cs.size := by
      have := (List.getElem?_eq_some_iff.1 hu).1; simpa using this
    have : cs.getD j undef = u := by
      have := (List.getElem?_eq_some_iff.1 hu).2
      simp at this
      simp [hj, this]
    rw [this]; exact rel_val u
  · rename_i f first caps
    split
    · rename_i h1 h2
      have e1 : first = #[] := by simpa using h1
      have e2 : caps = #[] := by simpa using h2
      subst e1; subst e2
      exact .pv (.fn rfl (fun j p hp => by simp at hp))
    · exact .dead _
  · exact rel_val v

def evF (g : Nat → Option AV) : Operand → Option AV
  | .tmp t => g t
  | .const v => some (evc v)
  | .func f => some (.pv (.fn f []))
  | .global _ => none

theorem ev_eq (Γ : Slots) : ev Γ = evF (get Γ) := by funext x; cases x <;> rfl

theorem evF_sound {g : Nat → Option AV} {a : Act} (h : ∀ s x, g s = some x → ARel I β w x (a.tmps.getD s undef)) {x : Operand} {v : AV} (hx : evF g x = some v) : ARel I β w v (a.eval x) := by
  cases x with
  | tmp t => exact h t v hx
  | const c => simp only [evF, Option.some.injEq] at hx; subst hx; exact evc_sound c
  | func f => simp only [evF, Option.some.injEq] at hx; subst hx; exact .pv (.fn rfl (fun j p hp => by simp at hp))
  | global g => simp [evF] at hx

/-- 'x' computes 'r' and leaves the world alone. -/
def Yields (P : Program) (I : Nat → Prop) (β : Beta) (w : World) (x : Sem Value) (r : AV) : Prop := ∃ v, x.run P w = .ok v w ∧ ARel I β w r v

theorem ixEq_eq {j k : IntKind} (h : ixEq j k = true) : j = k := by cases j <;> cases k <;> first | rfl | simp [ixEq] at h

theorem intBin_sound {op : BinOp} {k : IntKind} {x y : Int} {K : AV → Prop} (t : TypeId) (hop : op ≠ .shl ∧ op ≠ .shr) (h : intBin op k x y K) :
    ∃ r, K r ∧ Yields P I β w (binOp op t (.int k x) (.int k y)) r := by
  cases op <;> simp only [intBin, eqv_eq] at h
  case quo => exact ⟨_, h.2, _, by simp [binOp, Op.intDiv, h.1], rel_int _ _⟩
  case rem => exact ⟨_, h.2, _, by simp [binOp, Op.intDiv, h.1], rel_int _ _⟩
  case add => exact ⟨_, h, _, by simp [binOp, Op.intArith], rel_int _ _⟩
  case sub => exact ⟨_, h, _, by simp [binOp, Op.intArith], rel_int _ _⟩
  case mul => exact ⟨_, h, _, by simp [binOp, Op.intArith], rel_int _ _⟩
  case and => exact ⟨_, h, _, by simp [binOp]; rfl, rel_int _ _⟩
  case or => exact ⟨_, h, _, by simp [binOp]; rfl, rel_int _ _⟩
  case xor => exact ⟨_, h, _, by simp [binOp]; rfl, rel_int _ _⟩
  case andNot => exact ⟨_, h, _, by simp [binOp]; rfl, rel_int _ _⟩
  all_goals exact ⟨_, h, _, by simp [binOp, Op.intCmp], rel_bool _⟩

theorem strBin_sound {op : BinOp} {x y : ByteArray} {K : AV → Prop} (t : TypeId) (h : strBin op x y K) :
    ∃ r, K r ∧ Yields P I β w (binOp op t (.string x) (.string y)) r := by
  cases op <;> simp only [strBin] at h
  case add =>
    refine ⟨_, h.2, _, ?_, rel_val _⟩
    have hb : ¬ (((x.size + y.size : Nat) : Int) > IntKind.i64.max) := by simp; omega
    simp only [binOp, Op.stringOp, if_neg hb, Sem.run_pure]
  all_goals first
    | exact h.elim
    | exact ⟨_, h, _, by simp only [binOp, Op.stringOp, Sem.run_pure], rel_bool _⟩

theorem tkOf_bool {u : TypeDesc} (h : TK.bool = tkOf u) : u = .bool := by cases u <;> simp [tkOf] at h; rfl
theorem tkOf_slice {u : TypeDesc} {e : TypeId} (h : TK.slice e = tkOf u) : u = .slice e := by cases u <;> simp [tkOf] at h; subst h; rfl
theorem tkOf_str {u : TypeDesc} (h : TK.str = tkOf u) : u = .string := by cases u <;> simp [tkOf] at h; rfl
theorem tkOf_struct {u : TypeDesc} {fs : List (Nat × TypeId)} (h : TK.struct fs = tkOf u) : ∃ Fs, u = .struct Fs ∧ fs = Fs.toList.map fun f => (f.offset, f.type) := by
  cases u <;> simp [tkOf] at h
  exact ⟨_, rfl, h⟩
theorem tkOf_array {u : TypeDesc} {n : Nat} {e : TypeId} (h : TK.array n e = tkOf u) : u = .array n e := by cases u <;> simp [tkOf] at h; obtain ⟨rfl, rfl⟩ := h; rfl

theorem sl_inv {z : Nat} {xs : List (List PV)} {v : Value} (h : ARel I β w (.pv (.sl z xs)) v) : ∃ ad cap, v = .slice ad xs.length cap ∧ xs.length ≤ cap ∧
    (∃ u : Nat → Nat → Value, (∀ i r, xs[i]? = some r → r.length = z ∧ ∃ a, ad = some a ∧ I a.block ∧ ∀ j, j < z → w.cell? (a.add (i * z + j)) = some (u i j) ∧ (u i j).oneCell' = true) ∧
      ∀ i r j p, xs[i]? = some r → r[j]? = some p → PRel I w p (u i j)) := by
  cases h with
  | pv h => cases h with
    | sl u hc h1 h2 => exact ⟨_, _, rfl, hc, u, h1, h2⟩

theorem sl_some {z : Nat} {xs : List (List PV)} {ad : Option Addr} {n cap : Nat} (h : ARel I β w (.pv (.sl z xs)) (.slice ad n cap)) (hx : xs ≠ []) : ad.isNone = false := by
  obtain ⟨ad', cap', hv, _, u, h1, _⟩ := sl_inv h
  injection hv with e1 e2 e3
  subst e1
  cases xs with
  | nil => exact absurd rfl hx
  | cons r l =>
    obtain ⟨_, a, rfl, _⟩ := h1 0 r rfl
    rfl

theorem run_eq_bool {t : TypeId} (a b : Bool) (hu : P.underlying t = some .bool) : (Op.equal t (.bool a) (.bool b)).run P w = .ok (a == b) w := by
  have h : ∀ d : Nat, (Op.equalIn (d + 1) t (.bool a) (.bool b)).run P w = .ok (a == b) w := fun d => by simp [Op.equalIn, run_underlying hu]
  simp only [Op.equal, Op.maxDepth]
  exact h 9999

theorem eqBin_sound {op : BinOp} {tk : TK} {x y : AV} {vx vy : Value} {K : AV → Prop} {t : TypeId} {u : TypeDesc} (hu : P.underlying t = some u) (htk : tk = tkOf u)
    (hx : ARel I β w x vx) (hy : ARel I β w y vy) (xo yo : Operand) (h : eqBin op tk x y K) :
    ∃ r, K r ∧ Yields P I β w (do eqGuard op t xo yo vx vy; binOp op t vx vy) r := by
  unfold eqBin at h
  split at h
  · obtain rfl := val_inv hx; obtain rfl := val_inv hy; obtain rfl := tkOf_bool htk
    exact ⟨_, h, _, by simp only [eqGuard_at_bool, binOp, Sem.run_bind, Sem.run_pure, Result.andThen_ok, run_eq_bool _ _ hu], rel_bool _⟩
  · obtain rfl := val_inv hx; obtain rfl := val_inv hy; obtain rfl := tkOf_bool htk
    exact ⟨_, h, _, by simp only [eqGuard_at_bool, binOp, Sem.run_bind, Sem.run_pure, Result.andThen_ok, run_eq_bool _ _ hu], rel_bool _⟩
  · obtain rfl := val_inv hx; obtain rfl := val_inv hy; obtain rfl := tkOf_slice htk
    exact ⟨_, h, _, by simp only [eqGuard_at_slice, Sem.run_bind, Sem.run_pure, Result.andThen_ok]; exact Lib.run_eql_slice_nil w t _ none 0 0 0 0 hu, rel_bool _⟩
  · obtain rfl := val_inv hx; obtain rfl := val_inv hy; obtain rfl := tkOf_slice htk
    exact ⟨_, h, _, by simp only [eqGuard_at_slice, Sem.run_bind, Sem.run_pure, Result.andThen_ok]; exact run_neq_slice_nil_any w t _ none 0 0 0 0 hu, rel_bool _⟩
  · obtain ⟨ad, cap, rfl, _⟩ := sl_inv hx; obtain rfl := val_inv hy; obtain rfl := tkOf_slice htk
    have hn := sl_some hx h.1
    exact ⟨_, h.2, _, by simp only [eqGuard_at_slice, Sem.run_bind, Sem.run_pure, Result.andThen_ok]; rw [Lib.run_eql_slice_nil w t _ ad _ cap 0 0 hu, hn], rel_bool _⟩
  · obtain ⟨ad, cap, rfl, _⟩ := sl_inv hx; obtain rfl := val_inv hy; obtain rfl := tkOf_slice htk
    have hn := sl_some hx h.1
    exact ⟨_, h.2, _, by simp only [eqGuard_at_slice, Sem.run_bind, Sem.run_pure, Result.andThen_ok]; rw [run_neq_slice_nil_any w t _ ad _ cap 0 0 hu, hn]; rfl, rel_bool _⟩
  · obtain rfl := val_inv hy; obtain rfl := tkOf_slice htk
    cases hx with
    | ms _ _ _ _ _ => exact ⟨_, h, _, by simp only [eqGuard_at_slice, Sem.run_bind, Sem.run_pure, Result.andThen_ok]; exact Lib.run_eql_slice_nil w t _ _ _ _ 0 0 hu, rel_bool _⟩
  · obtain rfl := val_inv hy; obtain rfl := tkOf_slice htk
    cases hx with
    | ms _ _ _ _ _ => exact ⟨_, h, _, by simp only [eqGuard_at_slice, Sem.run_bind, Sem.run_pure, Result.andThen_ok]; exact run_neq_slice_nil_any w t _ _ _ _ 0 0 hu, rel_bool _⟩
  · exact h.elim

theorem look_spec (hT : TabOk P T) {t : TypeId} {size bytes : Nat} {agg : Bool} {tk : TK} {zero : List PV} (h : look T t = some ⟨size, bytes, agg, tk, zero⟩) :
    ∃ i u z, P.info? t = some i ∧ P.underlying t = some u ∧ i.zero = some z ∧ z.cells.size = i.size ∧ i.size = size ∧ i.bytes = bytes ∧
      agg = isAggD u ∧ tk = tkOf u ∧ zero = z.cells.toList.map .val := tyOf_spec (hT _ _ h)

theorem vcBin_sound (hT : TabOk P T) {op : BinOp} {t : TypeId} {x y : AV} {vx vy : Value} {K : AV → Prop} (hx : ARel I β w x vx) (hy : ARel I β w y vy) (xo yo : Operand) (h : vcBin T op t x y K) :
    ∃ r, K r ∧ Yields P I β w (do eqGuard op t xo yo vx vy; binOp op t vx vy) r := by
  unfold vcBin at h
  split at h
  · obtain rfl := val_inv hx; obtain rfl := val_inv hy
    rename_i k a k' b
    simp only [Yields, eqGuard_at_int, Sem.run_bind, Sem.run_pure, Result.andThen_ok]
    split at h
    · refine ⟨_, h.2, _, ?_, rel_int _ _⟩
      have hn : ¬ b < 0 := by omega
      simp [binOp, Op.shift, hn]
    · refine ⟨_, h.2, _, ?_, rel_int _ _⟩
      have hn : ¬ b < 0 := by omega
      simp [binOp, Op.shift, hn]
    · rename_i h1 h2
      split at h
      · rename_i he
        obtain rfl := ixEq_eq he
        exact intBin_sound t ⟨h1, h2⟩ h
      · exact h.elim
  · obtain rfl := val_inv hx; obtain rfl := val_inv hy
    simp only [Yields, eqGuard_at_string, Sem.run_bind, Sem.run_pure, Result.andThen_ok]
    exact strBin_sound t h
  · split at h
    · rename_i hl
      obtain ⟨i, u, z, hi, hu, hz, _, _, _, _, htk, _⟩ := look_spec hT hl
      exact eqBin_sound hu htk hx hy xo yo h
    · exact h.elim

theorem vcUn_sound {op : UnOp} {x : AV} {v : Value} {K : AV → Prop} (hx : ARel I β w x v) (h : vcUn op x K) : ∃ r, K r ∧ Yields P I β w (Op.unary op v) r := by
  unfold vcUn at h
  simp only [eqv_eq] at h
  split at h
  · obtain rfl := val_inv hx
    exact ⟨_, h, _, by simp [Op.unary, Op.intArith], rel_int _ _⟩
  · obtain rfl := val_inv hx
    exact ⟨_, h, _, by simp [Op.unary], rel_bool _⟩
  · exact h.elim

end
end Go.Cw
