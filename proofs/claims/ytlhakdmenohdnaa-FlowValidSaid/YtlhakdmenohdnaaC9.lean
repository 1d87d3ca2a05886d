/-
  What the flow laws are handed, as networks and lists.
-/
import Derived.Test.YtlhakdmenohdnaaAwake
import Derived.Test.YtlhakdmenohdnaaC1
namespace Go.Proofs.Ytlhakdmenohdnaa.Cw
open Go.Cw Go.Proofs
set_option linter.unusedVariables false
set_option maxRecDepth 100000

theorem lk3 : Cw.look T 3 = some ⟨1, 8, false, .int .i64, [.val (.int .i64 0)]⟩ := by kernel_rfl
theorem lk4 : Cw.look T 4 = some ⟨1, 1, false, .bool, [.val (.bool false)]⟩ := by kernel_rfl
theorem lk22 : Cw.look T 22 = some ⟨1, 24, false, .slice 46, [.val (.slice none 0 0)]⟩ := by kernel_rfl
theorem lk24 : Cw.look T 24 = some ⟨2, 32, true, .struct [(0, 3), (1, 22)], [.val (.int .i64 0), .val (.slice none 0 0)]⟩ := by kernel_rfl
theorem lk25 : Cw.look T 25 = some ⟨1, 24, false, .slice 3, [.val (.slice none 0 0)]⟩ := by kernel_rfl
theorem lk41 : Cw.look T 41 = some ⟨1, 24, false, .slice 4, [.val (.slice none 0 0)]⟩ := by kernel_rfl
theorem lk46 : Cw.look T 46 = some ⟨5, 40, true, .struct [(0, 3), (1, 3), (2, 3), (3, 3), (4, 3)], [.val (.int .i64 0), .val (.int .i64 0), .val (.int .i64 0), .val (.int .i64 0), .val (.int .i64 0)]⟩ := by kernel_rfl

theorem pty_int {qs : List PV} (h : PTy T 3 qs) : ∃ n : Int, qs = [ei n] ∧ -9223372036854775808 ≤ n ∧ n ≤ 9223372036854775807 := by
  cases h with
  | int h hw =>
    rw [lk3] at h; injection h with h; injection h with _ _ _ h _; injection h with h; subst h
    exact ⟨_, rfl, hw.1, hw.2⟩
  | bool h => rw [lk3] at h; injection h with h; injection h with _ _ _ h _; cases h
  | str h => rw [lk3] at h; injection h with h; injection h with _ _ _ h _; cases h
  | slice h => rw [lk3] at h; injection h with h; injection h with _ _ _ h _; cases h
  | struct h => rw [lk3] at h; injection h with h; injection h with _ _ _ h _; cases h

theorem pty_bool {qs : List PV} (h : PTy T 4 qs) : ∃ b : Bool, qs = [.val (.bool b)] := by
  cases h with
  | int h hw => rw [lk4] at h; injection h with h; injection h with _ _ _ h _; cases h
  | bool h => exact ⟨_, rfl⟩
  | str h => rw [lk4] at h; injection h with h; injection h with _ _ _ h _; cases h
  | slice h => rw [lk4] at h; injection h with h; injection h with _ _ _ h _; cases h
  | struct h => rw [lk4] at h; injection h with h; injection h with _ _ _ h _; cases h

/-- A slice's rows, each of a kind. -/
theorem pty_slice {t e : TypeId} {qs : List PV} {size bytes : Nat} {agg : Bool} {zero : List PV} {d : TyD} (hl : Cw.look T t = some ⟨size, bytes, agg, .slice e, zero⟩) (he : Cw.look T e = some d) (h : PTy T t qs) :
    ∃ xs, qs = [.sl d.size xs] ∧ xs.length ≤ 9223372036854775807 ∧ ∀ r ∈ xs, PTy T e r := by
  cases h with
  | int h hw => rw [hl] at h; injection h with h; injection h with _ _ _ h _; cases h
  | bool h => rw [hl] at h; injection h with h; injection h with _ _ _ h _; cases h
  | str h => rw [hl] at h; injection h with h; injection h with _ _ _ h _; cases h
  | slice h he2 hlen hx =>
    rw [hl] at h; injection h with h; injection h with _ _ _ h _; injection h with h; subst h
    rw [he] at he2; injection he2 with he2; subst he2
    exact ⟨_, rfl, hlen, fun r hr => by obtain ⟨i, hi⟩ := List.getElem?_of_mem hr; exact hx i r hi⟩
  | struct h => rw [hl] at h; injection h with h; injection h with _ _ _ h _; cases h

theorem rows_map {α : Type} {f : α → List PV} {p : α → Prop} : ∀ {xs : List (List PV)}, (∀ r ∈ xs, ∃ a, r = f a ∧ p a) → ∃ l : List α, xs = l.map f ∧ ∀ a ∈ l, p a
  | [], _ => ⟨[], rfl, by simp⟩
  | r :: xs, h => by
    obtain ⟨a, rfl, ha⟩ := h r (by simp)
    obtain ⟨l, rfl, hl⟩ := rows_map (xs := xs) fun r hr => h r (by simp [hr])
    exact ⟨a :: l, rfl, by simpa using ⟨ha, hl⟩⟩

theorem pty_ints {qs : List PV} (h : PTy T 25 qs) : ∃ l : List Int, qs = [.sl 1 (l.map fun x => [ei x])] ∧ l.length ≤ 9223372036854775807 := by
  obtain ⟨xs, rfl, h1, h2⟩ := pty_slice lk25 lk3 h
  obtain ⟨l, rfl, _⟩ := rows_map (f := fun x => [ei x]) (p := fun _ => True) fun r hr => by
    obtain ⟨n, hn, _⟩ := pty_int (h2 r hr)
    exact ⟨n, hn, trivial⟩
  exact ⟨l, rfl, by simpa using h1⟩

theorem pty_struct {t : TypeId} {qs : List PV} {size bytes : Nat} {agg : Bool} {zero : List PV} {fs : List (Nat × TypeId)} (hl : Cw.look T t = some ⟨size, bytes, agg, .struct fs, zero⟩) (h : PTy T t qs) : PTyL T (fs.map (·.2)) qs := by
  cases h with
  | int h hw => rw [hl] at h; injection h with h; injection h with _ _ _ h _; cases h
  | bool h => rw [hl] at h; injection h with h; injection h with _ _ _ h _; cases h
  | str h => rw [hl] at h; injection h with h; injection h with _ _ _ h _; cases h
  | slice h => rw [hl] at h; injection h with h; injection h with _ _ _ h _; cases h
  | struct h hr => rw [hl] at h; injection h with h; injection h with _ _ _ h _; injection h with h; subst h; exact hr

theorem ptyl_cons {t : TypeId} {ts : List TypeId} {qs : List PV} (h : PTyL T (t :: ts) qs) : ∃ q r, qs = q ++ r ∧ PTy T t q ∧ PTyL T ts r := by
  cases h with
  | cons h hd hq hr => exact ⟨_, _, rfl, h, hr⟩
theorem ptyl_nil {qs : List PV} (h : PTyL T [] qs) : qs = [] := by cases h; rfl

theorem pty_edge {qs : List PV} (h : PTy T 46 qs) : ∃ e : Edge, qs = encE e := by
  obtain ⟨_, _, rfl, h1, h⟩ := ptyl_cons (pty_struct lk46 h)
  obtain ⟨_, _, rfl, h2, h⟩ := ptyl_cons h
  obtain ⟨_, _, rfl, h3, h⟩ := ptyl_cons h
  obtain ⟨_, _, rfl, h4, h⟩ := ptyl_cons h
  obtain ⟨_, _, rfl, h5, h⟩ := ptyl_cons h
  obtain rfl := ptyl_nil h
  obtain ⟨a, rfl, _⟩ := pty_int h1
  obtain ⟨b, rfl, _⟩ := pty_int h2
  obtain ⟨c, rfl, _⟩ := pty_int h3
  obtain ⟨d, rfl, _⟩ := pty_int h4
  obtain ⟨e, rfl, _⟩ := pty_int h5
  exact ⟨⟨a, b, c, d, e⟩, rfl⟩

theorem pty_net {qs : List PV} (h : PTy T 24 qs) : ∃ n : Net, qs = [ei n.nodes, .sl 5 (n.es.map encE)] := by
  obtain ⟨_, _, rfl, h1, h⟩ := ptyl_cons (pty_struct lk24 h)
  obtain ⟨_, _, rfl, h2, h⟩ := ptyl_cons h
  obtain rfl := ptyl_nil h
  obtain ⟨a, rfl, _⟩ := pty_int h1
  obtain ⟨xs, rfl, _, h3⟩ := pty_slice lk22 lk46 h2
  obtain ⟨l, rfl, _⟩ := rows_map (f := encE) (p := fun _ => True) fun r hr => by
    obtain ⟨e, he⟩ := pty_edge (h3 r hr)
    exact ⟨e, he, trivial⟩
  exact ⟨⟨a, l⟩, rfl⟩

theorem args_net {ts : List TypeId} {al : List AV} (h : ArgsOk T (24 :: ts) al) : ∃ n al', al = encN n :: al' ∧ ArgsOk T ts al' := by
  cases h with
  | one h hl ha hr => rw [lk24] at hl; injection hl with hl; subst hl; cases ha
  | agg h hl ha hr => obtain ⟨n, rfl⟩ := pty_net h; exact ⟨n, _, rfl, hr⟩

theorem args_ints {ts : List TypeId} {al : List AV} (h : ArgsOk T (25 :: ts) al) : ∃ l al', al = encI l :: al' ∧ l.length ≤ 9223372036854775807 ∧ ArgsOk T ts al' := by
  cases h with
  | one h hl ha hr =>
    obtain ⟨l, hq, hb⟩ := pty_ints h
    injection hq with hq _; subst hq
    exact ⟨l, _, rfl, hb, hr⟩
  | agg h hl ha hr => rw [lk25] at hl; injection hl with hl; subst hl; cases ha

theorem args_int {ts : List TypeId} {al : List AV} (h : ArgsOk T (3 :: ts) al) : ∃ (n : Int) (al' : _), al = vint .i64 n :: al' ∧ -9223372036854775808 ≤ n ∧ n ≤ 9223372036854775807 ∧ ArgsOk T ts al' := by
  cases h with
  | one h hl ha hr =>
    obtain ⟨n, hq, h1, h2⟩ := pty_int h
    injection hq with hq _; subst hq
    exact ⟨n, _, rfl, h1, h2, hr⟩
  | agg h hl ha hr => rw [lk3] at hl; injection hl with hl; subst hl; cases ha

theorem args_nil {al : List AV} (h : ArgsOk T [] al) : al = [] := by cases h; rfl
end Go.Proofs.Ytlhakdmenohdnaa.Cw
