/-
  Cw, part Y: what a function hands back; a contract from the code.
-/
import Derived.Test.YtlhakdmenohdnaaCwW
namespace Go.Cw
set_option linter.unusedVariables false
section
variable {P : Program} {T : Tab} {n nh : Nat}

theorem ble_same (m : Nat) : Nat.ble m m = true := by rw [Nat.ble_eq]; exact Nat.le_refl _

def resVar (tmps : Array Value) : ResultVar → Sem Value
  | .tmp t => pure (tmps.getD t undef)
  | .cell a t => do loadVar t (← asAddr (tmps.getD a undef))

theorem results_eq (fn : Func) (tmps : Array Value) : results fn tmps = (do
    let vs ← fn.results.mapM (resVar tmps)
    pure (if h : vs.size = 1 then vs[0] else .tuple vs)) := by
  unfold results
  congr 1

theorem resOf_sound (hT : TabOk P T) {I : Nat → Prop} {β : Beta} {w : World} {H : Heap} (hH : HSim I β H w) {Γ : Slots} {tmps : Array Value} (hs : ∀ s x, get Γ s = some x → ARel I β w x (tmps.getD s undef)) :
    ∀ (rs : List ResultVar) (vs : List AV), resOf T Γ H rs = some vs → ∃ us : List Value, (rs.mapM (resVar tmps)).run P w = .ok us w ∧ us.length = vs.length ∧ ∀ (j : Nat) c, vs[j]? = some c → ∃ u, us[j]? = some u ∧ ARel I β w c u
  | [], vs, h => by
    simp only [resOf, Option.some.injEq] at h; subst h
    exact ⟨[], by simp, rfl, fun j c hj => by simp at hj⟩
  | .tmp t :: l, vs, h => by
    simp only [resOf] at h
    split at h
    · rename_i v vs' hv hvs'
      injection h with h; subst h
      obtain ⟨us, hu, hlen, hr⟩ := resOf_sound hT hH hs l _ hvs'
      refine ⟨tmps.getD t undef :: us, by simp [List.mapM_cons, resVar, hu], by simp [hlen], fun j c hj => ?_⟩
      cases j with
      | zero => simp only [List.getElem?_cons_zero, Option.some.injEq] at hj; subst hj; exact ⟨_, rfl, hs _ _ hv⟩
      | succ j => simpa using hr j c (by simpa using hj)
    · cases h
  | .cell a t :: l, vs, h => by
    simp only [resOf] at h
    split at h
    · rename_i id z d vs' hv hd hvs'
      obtain ⟨size, bytes, agg, tk, zero⟩ := d
      obtain ⟨us, hu, hlen, hr⟩ := resOf_sound hT hH hs l _ hvs'
      obtain ⟨b, hb, hp⟩ := ptr_inv (hs _ _ hv)
      split at h
      · rename_i o ho
        obtain ⟨b', hb', hos⟩ := hH.obj id o ho
        have key : ∀ (x : AV), o.z = z → vcLoad T t (.ptr id o.z 0 0) H (fun r _ => r = x) → vs = x :: vs' → ∃ us : List Value, ((ResultVar.cell a t :: l).mapM (resVar tmps)).run P w = .ok us w ∧ us.length = vs.length ∧ ∀ (j : Nat) c, vs[j]? = some c → ∃ u, us[j]? = some u ∧ ARel I β w c u := fun x hz0 hx he => by
          subst he
          have hrel : ARel I β w (.ptr id o.z 0 0) (.pointer (some ⟨b.1, (0 + b.2) * o.z + 0, none⟩)) := .ptr hb
          obtain ⟨r, rd, rfl, u, hrun, hur⟩ := vcLoad_sound hT hH hrel hx
          rw [run_loadAt] at hrun
          have hp' : tmps.getD a undef = .pointer (some ⟨b.1, (0 + b.2) * o.z + 0, none⟩) := by rw [hp, hz0]
          refine ⟨u :: us, by simp only [List.mapM_cons, resVar, hp', asAddr, Sem.run_bind, Sem.run_pure, Result.andThen_ok, hrun, hu], by simp [hlen], fun j c hj => ?_⟩
          cases j with
          | zero => simp only [List.getElem?_cons_zero, Option.some.injEq] at hj; subst hj; exact ⟨_, rfl, hur⟩
          | succ j => simpa using hr j c (by simpa using hj)
        split at h
        · rename_i cs0 hzz hrows
          have hzz := Nat.eq_of_beq_eq_true hzz
          split at h
          · rename_i hagg hsz
            injection h with h
            simp only at hsz hagg; subst hagg
            have hsz := Nat.eq_of_beq_eq_true hsz
            refine key _ hzz ?_ h.symm
            subst hsz
            simp only [vcLoad, hd, ho, hrows, Nat.beq_refl, vcTake, List.drop_zero, ble_same]
            simp
          · rename_i hagg hsz
            injection h with h
            simp only at hsz hagg; subst hagg
            refine key _ hzz ?_ h.symm
            simp only [vcLoad, hd, ho, hrows, Nat.beq_refl, vcTake, List.drop_zero]
          · cases h
        · cases h
      · cases h
    · cases h

theorem argSlots_get : ∀ (l : List AV) (i s : Nat), get (argSlots i l) s = if i ≤ s then l[s - i]? else none
  | [], i, s => by simp [argSlots, get]
  | x :: l, i, s => by
    simp only [argSlots, get_cons, argSlots_get l (i + 1) s]
    by_cases h : i = s
    · subst h; simp
    · rw [if_neg h]
      by_cases h2 : i ≤ s
      · rw [if_pos h2, if_pos (by omega), show s - i = (s - (i + 1)) + 1 from by omega, List.getElem?_cons_succ]
      · rw [if_neg h2, if_neg (by omega)]

theorem retOk_sound {I0 I : Nat → Prop} {β0 β : Beta} {w0 w : World} {k : Nat} {r : AV} {H : Heap} {Post : AV → Heap → Prop} (hl : β0.length ≤ k) (hH : HSim I β H w) (he : Evo I0 β0 w0 I β w) {v : Value} (hr : ARel I β w r v) (h : retOk k r H Post) :
    ∃ r H' I' β', Post r H' ∧ HSim I' β' H' w ∧ ARel I' β' w r v ∧ Evo I0 β0 w0 I' β' w := by
  obtain ⟨rn, H', hd, ht, hk, h⟩ := h
  rcases h with ⟨r', rfl, hp⟩ | h
  · exact ⟨r', H', I, renB β rn, hp, hH.ren hd hk, ren_back (renB_back hH) rfl hr, he.ren hl ht⟩
  · split at h
    · rename_i r0 hc
      obtain ⟨hok, r', rfl, hdis, hp⟩ := h
      let J : Nat → Prop := fun b => I b ∨ ∃ id ∈ ids1 H r, ∃ c, β[id]? = some (some c) ∧ c.1 = b
      have hIJ : ∀ b, I b → J b := fun b h => .inl h
      have hJlt : ∀ b, J b → b < w.heap.size := fun b h => by
        rcases h with h | ⟨id, _, c, h, rfl⟩
        · exact hH.imm b h
        · exact hH.lt id c h
      have hd2 : ∀ x ∈ ids1 H r, x ∉ rn := fun x hx hxr => by
        simp only [disj, List.all_eq_true, Bool.not_eq_true'] at hdis
        have := hdis x hx x hxr
        simp at this
      have hS := hH.ren hd hk
      obtain ⟨hpl, hps⟩ := kept_spec hk
      have hE := he.ren hl ht
      refine ⟨r', H', J, renB β rn, hp, ⟨hS.len, fun i o ho => ?_, hS.inj, hJlt, hS.lt⟩, conv_sound hH hIJ hc hok hr (fun id hid b hb => .inr ⟨id, hid, b, hb, rfl⟩),
        ⟨hE.os, hE.tape, hE.output, hE.size, hE.pre, hE.fresh, hE.keep, fun b hb => ⟨(hE.keepI b hb).1, hIJ b (hE.keepI b hb).2⟩, fun b hb hJ => ?_, hE.shape⟩⟩
      · obtain ⟨b, hb, hos⟩ := hS.obj i o ho
        refine ⟨b, hb, hos.mono (fun b h => ⟨rfl, hIJ b h⟩) (fun _ _ h => h) (fun _ _ _ h => h) rfl (fun hJ => ?_)⟩
        rcases hJ with h | ⟨id, hid, c, h, hc⟩
        · exact h
        · exfalso
          obtain ⟨oid, hoid⟩ := ids1_live hid
          obtain ⟨i2, e2, e3⟩ := hps i o ho
          obtain ⟨i3, e4, e5⟩ := (renB_get i b).1 hb
          rw [e2] at e4; injection e4 with e4; subst e4
          have := hH.inj id i2 _ _ c b hoid e3 h e5 hc
          subst this
          exact hd2 id hid (List.mem_of_getElem? e2)
      · rcases hJ with h | ⟨id, hid, c, h, hc⟩
        · exact hE.old b hb h
        · rcases he.fresh id c h with h2 | ⟨j, c', h2, h3⟩
          · omega
          · exact .inr ⟨j, c', h2, h3.trans hc⟩
    · exact h.elim

/-- A contract from the code. -/
theorem acall_of_code (hT : TabOk P T) (hm : P.follows .mixedOrders = true) {f : FuncId} {fn : Func} {c : Code} {args : List AV} {H : Heap} {Post : AV → Heap → Prop} (hD : ∀ I0 β0 w0, DrawsOk P T fn.ntmps I0 β0 w0)
    (hfn : P.funcs[f]? = some fn) (hname : (fn.name == "runtime.NumGoroutine") = false) (hbody : fn.body = some c) (hlen : args.length ≤ fn.ntmps)
    (h : vcCode P T fn.ntmps H.length c (retQ T H.length fn Post) (argSlots 0 args) H) : ACall P f args H Post := by
  refine ⟨⟨fn, hfn, hname, by rw [hbody]; rfl⟩, fun I β w vs hH hvs hrel => ?_⟩
  refine calls_of_wp hfn hbody ?_
  have hs0 : SimE I β w fn.ntmps 0 0 (get (argSlots 0 args)) H { tmps := vs ++ Array.replicate (fn.ntmps - vs.size) undef, defers := [] } w := by
    refine ⟨I, β, hH, rfl, ?_, fun s x hx => ?_, Evo.refl I β w, fun s h1 h2 => by omega⟩
    · simp; omega
    · rw [argSlots_get, if_pos (Nat.zero_le _)] at hx
      have hlt := (List.getElem?_eq_some_iff.1 hx).1
      have hr := hrel s x (by simpa using hx)
      have e : (vs ++ Array.replicate (fn.ntmps - vs.size) undef).getD s undef = vs.getD s undef := by
        have h2 : s < vs.size := by omega
        have h1 : s < (vs ++ Array.replicate (fn.ntmps - vs.size) undef).size := by simp; omega
        simp only [Array.getD, h1, h2, dif_pos]
        exact Array.getElem_append_left h2
      rw [e]; exact hr
  refine vcCode_sound hT hm (hD I β w) (by rw [hH.len]; exact Nat.le_refl _) c _ _ _ _ _ w (fun e Γ H' a' w' hs hq => ?_) hs0 h
  obtain ⟨I', β', hs⟩ := hs
  have fin : ∀ (hq : match resOf T Γ H' fn.results.toList with
      | some [r] => retOk H.length r H' Post
      | some rs => retOk H.length (.tup rs) H' Post
      | none => False), a'.defers = [] ∧ ∃ v, (results fn a'.tmps).run P w' = .ok v w' ∧ ∃ r H2 I' β' v', Ending.returned v = .returned v' ∧ Post r H2 ∧ HSim I' β' H2 w' ∧ ARel I' β' w' r v' ∧ Evo I β w I' β' w' := fun hq => by
    refine ⟨hs.defers, ?_⟩
    have hl : β.length ≤ H.length := by rw [hH.len]; exact Nat.le_refl _
    cases hres : resOf T Γ H' fn.results.toList with
    | none => rw [hres] at hq; exact hq.elim
    | some rs =>
      obtain ⟨us, hu, hul, hur⟩ := resOf_sound hT hs.h hs.slot _ _ hres
      have hrun : ∀ v, v = (if h : us.toArray.size = 1 then us.toArray[0] else .tuple us.toArray) → (results fn a'.tmps).run P w' = .ok v w' := fun v hv => by
        subst hv
        rw [results_eq, Array.mapM_eq_mapM_toList]
        simp [hu]
      have many : retOk H.length (.tup rs) H' Post → us.length ≠ 1 → ∃ v, (results fn a'.tmps).run P w' = .ok v w' ∧ ∃ r H2 I' β' v', Ending.returned v = .returned v' ∧ Post r H2 ∧ HSim I' β' H2 w' ∧ ARel I' β' w' r v' ∧ Evo I β w I' β' w' := fun hq hne => by
        have hrel : ARel I' β' w' (.tup rs) (.tuple us.toArray) := .tup (by simpa using hul) fun j c hj => by
          obtain ⟨u, h1, h2⟩ := hur j c hj
          simpa [h1] using h2
        obtain ⟨r, H2, I2, β2, h1, h2, h3, h4⟩ := retOk_sound hl hs.h hs.evo hrel hq
        exact ⟨_, hrun _ (by rw [dif_neg (by simpa using hne)]), r, H2, I2, β2, _, rfl, h1, h2, h3, h4⟩
      rw [hres] at hq
      rcases rs with _ | ⟨r0, _ | ⟨b, l⟩⟩
      · exact many hq (by simp at hul; simp [hul])
      · obtain ⟨u, h1, h2⟩ := hur 0 r0 rfl
        obtain ⟨r, H2, I2, β2, h3, h4, h5, h6⟩ := retOk_sound hl hs.h hs.evo h2 hq
        have hlen1 : us.length = 1 := by simpa using hul
        refine ⟨u, hrun u ?_, r, H2, I2, β2, _, rfl, h3, h4, h5, h6⟩
        rw [dif_pos (by simpa using hlen1)]
        have h7 := (List.getElem?_eq_some_iff.1 h1).2
        simpa using h7.symm
      · exact many hq (by simp at hul; omega)
  cases e with
  | normal => exact fin hq
  | ret => exact fin hq
  | _ => exact absurd hq (by simp [retQ])

end
end Go.Cw
