/-
  Cw, part K: from a law's contract to what the row asks.
-/
import Derived.Test.YtlhakdmenohdnaaCwJ
import Derived.OpenShut
import Derived.ProofKit
namespace Go.Cw
set_option linter.unusedVariables false
open Go.WideShapes Go.ChangeShapes Go.RowKit

/-- What the parameters hold. -/
inductive ArgsOk (T : Tab) : List TypeId → List AV → Prop
  | nil : ArgsOk T [] []
  | one {t : TypeId} {ts : List TypeId} {q : PV} {as : List AV} {d : TyD} (h : PTy T t [q]) (hl : look T t = some d) (ha : d.agg = false) (hr : ArgsOk T ts as) : ArgsOk T (t :: ts) (.pv q :: as)
  | agg {t : TypeId} {ts : List TypeId} {qs : List PV} {as : List AV} {d : TyD} (h : PTy T t qs) (hl : look T t = some d) (ha : d.agg = true) (hr : ArgsOk T ts as) : ArgsOk T (t :: ts) (.agg (pvs qs) :: as)

section
variable {H : Type} {enc : TypeId × Value → H} {P : Program} {T : Tab} {W : World}

theorem reads_agg {qs : List PV} {cs : Array Value} (h : Reads W qs cs.toList) : ARel (fun b => b < W.heap.size) [] W (.agg (pvs qs)) (.agg cs) := by
  refine .agg (by rw [pvs_length, h.1]; simp) fun j c hj => ?_
  obtain ⟨p, hp, rfl⟩ := pvs_get.1 hj
  have hlt : j < cs.size := by have := (List.getElem?_eq_some_iff.1 hp).1; rw [h.1] at this; simpa using this
  have := (h.2 j p cs[j] hp (by simp [hlt])).2
  exact .pv (by simpa [hlt] using this)

theorem arg_in (hT : TabOk P T) {n base : Nat} {t : TypeId} {v : Value} {d : DataW H} {ps : List MemPlace} (hp : plain T n t = true) (h : DataW.Trod enc P W 0 (fun _ => true) true t v d ps) (ho : Value.okWide P W .any base t v) :
    ∃ D, look T t = some D ∧ ((D.agg = false ∧ ∃ q, PTy T t [q] ∧ ARel (fun b => b < W.heap.size) [] W (.pv q) v) ∨ (D.agg = true ∧ ∃ qs, PTy T t qs ∧ ARel (fun b => b < W.heap.size) [] W (.agg (pvs qs)) v)) := by
  obtain ⟨fuel, h⟩ := h
  obtain ⟨qs, h1, h2, D, h3, h4⟩ := trod_pv hT n fuel t _ _ hp h
  refine ⟨D, h3, ?_⟩
  have scalar : ∀ {v0 : Value}, v = v0 → v0.cells = #[v0] → D.agg = false → (D.agg = false ∧ ∃ q, PTy T t [q] ∧ ARel (fun b => b < W.heap.size) [] W (.pv q) v) := fun hv hc ha => by
    subst hv
    rw [hc] at h2
    match qs, h1, h2 with
    | [q], h1, h2 => exact ⟨ha, q, h1, .pv (h2.2 0 q v rfl rfl).2⟩
    | [], h1, h2 => exact absurd h2.1 (by simp)
    | a :: b :: l, h1, h2 => exact absurd h2.1 (by simp)
  cases n with
  | zero => simp [plain] at hp
  | succ n =>
    obtain ⟨size, bytes, agg, tk, zero⟩ := D
    simp only [plain, h3] at hp
    obtain ⟨i, u, z, hi, hu, _, _, hsz, _, _, htk, _⟩ := look_spec hT h3
    split at hp
    · simp only [Bool.and_eq_true, Bool.not_eq_true'] at hp
      rw [tkOf_int htk] at hu
      obtain ⟨x, hx⟩ := okWide_int hu ho
      exact .inl (scalar hx rfl hp.2)
    · simp only [Bool.and_eq_true, Bool.not_eq_true'] at hp
      rw [tkOf_bool htk] at hu
      obtain ⟨x, hx⟩ := okWide_bool hu ho
      exact .inl (scalar hx rfl hp.2)
    · simp only [Bool.and_eq_true, Bool.not_eq_true'] at hp
      rw [tkOf_str htk] at hu
      obtain ⟨x, hx⟩ := okWide_string hu ho
      exact .inl (scalar hx rfl hp.2)
    · simp only [Bool.and_eq_true, Bool.not_eq_true'] at hp
      rw [tkOf_slice htk] at hu
      obtain ⟨x, y, z, hx⟩ := okWide_slice hu ho
      exact .inl (scalar hx rfl hp.1.1.2)
    · simp only [Bool.and_eq_true] at hp
      obtain ⟨Fs, rfl, _⟩ := tkOf_struct htk
      simp only [Value.okWide, hu] at ho
      obtain ⟨cs, rfl, _⟩ := ho
      exact .inr ⟨hp.1.2, qs, h1, reads_agg h2⟩
    · cases hp

theorem args_in (hT : TabOk P T) {n base : Nat} : ∀ (ts : List TypeId) (vs : List Value) (ds : List (DataW H)) (ps : List MemPlace), DataW.TrodAll enc P W 0 (fun _ => true) true ts vs ds ps → (∀ t ∈ ts, plain T n t = true) →
    (∀ (j : Nat) t v, ts[j]? = some t → vs[j]? = some v → Value.okWide P W .any base t v) → ds.length = ts.length ∧ ∃ as, ArgsOk T ts as ∧ as.length = vs.length ∧ ∀ (j : Nat) c, as[j]? = some c → ∃ v, vs[j]? = some v ∧ ARel (fun b => b < W.heap.size) [] W c v
  | [], [], [], ps, _, _, _ => ⟨rfl, [], .nil, rfl, fun j c h => by simp at h⟩
  | t :: ts, v :: vs, d :: ds, ps, h, hp, ho => by
    obtain ⟨p, q, h1, h2, _⟩ := h
    obtain ⟨hl, as, h3, h4, h5⟩ := args_in hT ts vs ds q h2 (fun t ht => hp t (by simp [ht])) (fun j t v hj hv => ho (j + 1) t v (by simpa using hj) (by simpa using hv))
    obtain ⟨D, hD, hcase⟩ := arg_in hT (hp t (by simp)) h1 (ho 0 t v rfl rfl)
    refine ⟨by simp [hl], ?_⟩
    have fin : ∀ a, ArgsOk T (t :: ts) (a :: as) → ARel (fun b => b < W.heap.size) [] W a v → ∃ as, ArgsOk T (t :: ts) as ∧ as.length = (v :: vs).length ∧ ∀ (j : Nat) c, as[j]? = some c → ∃ v', (v :: vs)[j]? = some v' ∧ ARel (fun b => b < W.heap.size) [] W c v' := fun a ha hr =>
      ⟨_, ha, by simp [h4], fun j c hj => by
        cases j with
        | zero => simp at hj; subst hj; exact ⟨v, rfl, hr⟩
        | succ j => simpa using h5 j c (by simpa using hj)⟩
    rcases hcase with ⟨ha, q, hq, hr⟩ | ⟨ha, qs, hq, hr⟩
    · exact fin _ (.one hq hD ha h3) hr
    · exact fin _ (.agg hq hD ha h3) hr
  | [], _ :: _, _, _, h, _, _ => by simp [DataW.TrodAll] at h
  | [], [], _ :: _, _, h, _, _ => by simp [DataW.TrodAll] at h
  | _ :: _, [], _, _, h, _, _ => by simp [DataW.TrodAll] at h
  | _ :: _, _ :: _, [], _, h, _, _ => by simp [DataW.TrodAll] at h

theorem trodAll_again (hlaid : laidOutB P = true) {W' : World} (hb : Below W.heap.size W W') : ∀ (ts : List TypeId) (vs : List Value) (ds : List (DataW H)) (ps : List MemPlace), DataW.TrodAll enc P W 0 (fun _ => true) true ts vs ds ps →
    (∀ t ∈ ts, P.readableRec t = true ∧ t < P.types.size) → DataW.TrodAll enc P W' 0 (fun b => decide (b < W.heap.size)) true ts vs ds ps
  | [], [], [], ps, h, _ => h
  | t :: ts, v :: vs, d :: ds, ps, h, hp => by
    obtain ⟨p, q, h1, h2, e⟩ := h
    refine ⟨p, q, ?_, trodAll_again hlaid hb ts vs ds q h2 (fun t ht => hp t (by simp [ht])), e⟩
    exact Below.trod hlaid (hp t (by simp)).1 (hp t (by simp)).2 h1 hb (by obtain ⟨m, hm⟩ := h1; exact DataW.trod_lt m _ _ _ hm)
  | [], _ :: _, _, _, h, _ => by simp [DataW.TrodAll] at h
  | [], [], _ :: _, _, h, _ => by simp [DataW.TrodAll] at h
  | _ :: _, [], _, _, h, _ => by simp [DataW.TrodAll] at h
  | _ :: _, _ :: _, [], _, h, _ => by simp [DataW.TrodAll] at h

/-- What a row asks of a law, from the law's contract. -/
theorem law_step (hT : TabOk P T) (hlaid : laidOutB P = true) (n : Nat) {f : FuncId} {fn : Func} {s : ChangeSpec} {tb : TypeId} (hvars : s.vars = [])
    (hplain : fn.params.toList.all (fun t => plain T n t && P.readableRec t && Nat.blt t P.types.size) = true) (hres : fn.resultTypes = #[tb]) (hb : P.underlying tb = some .bool)
    (hspec : ∀ ds : List (DataW H), ds.length = fn.params.size → (s.fn H ds).results = [.lit (.bool true)] ∧ (s.fn H ds).args = ds ∧ (s.fn H ds).vars = [])
    {base : Nat} {args : Array Value} {ds gs : List (DataW H)} {before : List MemPlace}
    (hcall : ∀ as, ArgsOk T fn.params.toList as → ACall P f as [] (fun r H' => r = vbool true))
    (hval : ∀ (j : Nat) t v, fn.params[j]? = some t → args[j]? = some v → Value.okWide P W .any base t v)
    (hW : DataW.Whole enc P fn.params.toList s.vars false W args.toList ds gs before) :
    Calls P f args W fun e W' => ∃ v, e = .returned v ∧ s.post enc P fn false true false false W args v W' := by
  have hW' := hW
  obtain ⟨p, q, hA, hV, rfl, hfz, hnd⟩ := hW
  simp only [List.all_eq_true, Bool.and_eq_true, Nat.blt_eq] at hplain
  obtain ⟨hlen, as, h1, h2, h3⟩ := args_in hT (n := n) (base := base) _ _ _ _ hA (fun t ht => (hplain t ht).1.1) (fun j t v hj hv => hval j t v (by simpa using hj) (by simpa using hv))
  have hgs : gs = [] ∧ q = [] := by rw [hvars] at hV; exact trodVars_none hV
  obtain ⟨rfl, rfl⟩ := hgs
  obtain ⟨hent, hc⟩ := hcall as h1
  have hsim : HSim (fun b => b < W.heap.size) [] [] W := ⟨rfl, fun i o h => by simp at h, fun i j oi oj b b' h => by simp at h, fun b h => h, fun i b h => by simp at h⟩
  refine (hc _ [] W args hsim (by rw [h2]; simp) (fun j c hj => by
    obtain ⟨v, hv, hr⟩ := h3 j c hj
    have : args[j]? = some v := by simpa using hv
    rw [Array.getD_eq_getD_getElem?, this]; exact hr)).mono fun e W' he => ?_
  obtain ⟨r, H', I', β', v, rfl, rfl, hH', hr, hevo⟩ := he
  have hv : v = .bool true := val_inv hr
  subst hv
  have bel : Below W.heap.size W W' := ⟨hevo.os, hevo.tape, hevo.output, hevo.size, fun k hk => hevo.keep k hk (fun i => by simp)⟩
  obtain ⟨s1, s2, s3⟩ := hspec (ds ++ []) (by simpa using hlen)
  refine ⟨_, rfl, ds, [], p ++ [], [], p, [], hW', ?_, ?_, ?_, bel.frame _, fun h => by cases h⟩
  · rw [s1, hres]; exact trodAll_mk1 (shut_bool hb _)
  · rw [s2, List.append_nil]
    exact trodAll_again hlaid bel _ _ _ _ hA (fun t ht => ⟨(hplain t ht).1.2, (hplain t ht).2⟩)
  · rw [s3, hvars]; rfl

end
end Go.Cw
