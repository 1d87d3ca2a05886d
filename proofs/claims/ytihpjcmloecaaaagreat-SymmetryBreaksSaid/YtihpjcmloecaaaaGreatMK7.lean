/-
  Part 7 of the proof (SC4, SBB, SBC, SBD, RB, D1, D2, Mk1, SE1, SE2, SE3, SE4, MkB, MkC, MkD, Mk2): what later parts use. No conditions.
-/
import Derived.Test.YtihpjcmloecaaaaGreatMK6
namespace Go.Proofs.YtihpjcmloecaaaaGreat.Cw
open Go Go.Cw Go.Proofs
set_option linter.unusedVariables false
set_option maxRecDepth 100000
set_option maxHeartbeats 8000000
theorem zoY {s : List Int} {t : Int} {i : Nat} (h : ∀ j, j < i → ∀ y, s[j]? = some y → ¬ y = t) (hi : s[i]? = some t) : s.idxOf t = i := by
 induction s generalizing i with
 | nil => simp at hi
 | cons a s ih =>
   cases i with
   | zero => simp at hi; subst hi; simp
   | succ i =>
     have ha := h 0 (by omega) a rfl
     rw [List.idxOf_cons]
     simp only [beq_iff_eq, ha, cond_false, beq_eq_false_iff_ne.2 ha]
     have := ih (i := i) (fun j hj y hy => h (j + 1) (Nat.succ_lt_succ hj) y (by simpa using hy)) (by simpa using hi)
     omega
theorem zpA (s : List Int) (t : Int) (hs : s.length ≤ 100000) : zH Tryz.prog 49 [.pv (.sl 1 (s.map zr)), zg .i64 t] (fun r => r = zg .i64 (plI s t)) := by
 refine zh tok mixed 19 rfl (fn := Tryz.f49) (c := Tryz.f49.body.getD .skip) (by kernel_rfl) (by kernel_rfl) (by kernel_rfl) rfl 0 rfl ?_
 repeat' (first | refine o1 ?_ | refine o2 ?_ | refine k1 ?_ | refine k2 ?_ | refine k4 ?_ | fail)
 refine zB (fun i : Nat => [(0, .pv (.sl 1 (s.map zr))), (1, zg .i64 t), (5, zg .i64 i)]) (fun _ => []) (fun i => i ≤ s.length ∧ ∀ j, j < i → ∀ y, s[j]? = some y → ¬ y = t) (fun i => s.length - i) 0 ⟨Nat.zero_le _, fun j hj => absurd hj (Nat.not_lt_zero _)⟩ ?_ ?_
 · exact zJ [] rfl rfl trivial (by repeat' (first | exact trivial | exact rfl | refine And.intro ?_ ?_))
 rintro i ⟨hi, hn⟩
 rcases Nat.lt_or_ge i s.length with hlt | hge
 · obtain ⟨x, hx⟩ := qj hlt
   by_cases hxt : x = t
   · have e : plI s t = i := by unfold plI; rw [if_pos (hxt ▸ List.mem_of_getElem? hx), zoY hn (hxt ▸ hx)]
     rw [e]
     repeat' (first | (refine zj (k := i) (zf hx) (by omega) ?_) | refine o1 ?_ | refine o2 ?_ | refine k1 ?_ | refine k2 ?_ | refine k3 ?_ | refine k4 ?_ | refine k6 ?_ | refine k7 ?_ | refine And.intro ?_ ?_ | (intro h; first | exact Bool.noConfusion h | exact nz _ h | exact nl h | (simp at h; done) | (simp at h; first | (exfalso; omega) | skip) | skip) | (change zx _ _ _ _; refine zd rfl trivial ?_) | refine za ?_ | fail)
     all_goals first
      | (exfalso; omega)
      | rfl
   · repeat' (first | (refine zj (k := i) (zf hx) (by omega) ?_) | refine o1 ?_ | refine o2 ?_ | refine k1 ?_ | refine k2 ?_ | refine k3 ?_ | refine k4 ?_ | refine k6 ?_ | refine And.intro ?_ ?_ | (intro h; first | exact Bool.noConfusion h | exact nz _ h | exact nl h | (simp at h; done) | (simp at h; first | (exfalso; omega) | skip) | skip) | refine za ?_ | refine zc (by omega) (by omega) ?_ | fail)
     all_goals first
      | (exfalso; omega)
      | exact ⟨i + 1, ⟨by omega, fun j hj y hy => by
         rcases Nat.lt_or_ge j i with h1 | h1
         · exact hn j h1 y hy
         · obtain rfl : j = i := by omega
           rw [hx] at hy; cases hy; exact hxt⟩, by omega, zJ [] rfl rfl trivial (by repeat' (first | exact trivial | exact rfl | refine And.intro ?_ ?_))⟩
 · have e : plI s t = -1 := by
    unfold plI
    rw [if_neg fun h => by obtain ⟨j, hj⟩ := List.getElem?_of_mem h; exact hn j (by have := (List.getElem?_eq_some_iff.1 hj).1; omega) t hj rfl]
   rw [e]
   repeat' (first | refine o1 ?_ | refine o2 ?_ | refine k1 ?_ | refine k2 ?_ | refine k3 ?_ | refine k7 ?_ | refine k8 ?_ | refine And.intro ?_ ?_ | (intro h; first | exact Bool.noConfusion h | exact nz _ h | exact nl h | (simp at h; done) | (simp at h; first | (exfalso; omega) | skip) | skip) | (change zx _ _ _ _; refine zd rfl trivial ?_) | refine za ?_ | fail)
   all_goals first
    | (exfalso; omega)
    | rfl
def bI (s : List Int) (b : Int) : Int := if b < 0 then -1 else plI s b
end Go.Proofs.YtihpjcmloecaaaaGreat.Cw
namespace Go.Proofs.YtihpjcmloecaaaaGreat.Cw
open Go Go.Cw Go.Proofs
set_option linter.unusedVariables false
set_option maxRecDepth 100000
set_option maxHeartbeats 30000000
theorem plI_in {s : List Int} {t : Int} : decide (plI s t ≥ 0) = pB (t ∈ s) := by
 unfold plI
 by_cases h : t ∈ s
 · rw [if_pos h, zaS h]; simp
 · rw [if_neg h, zaj h]; rfl
theorem zlb {s : List Int} {t x0 : Int} {st : List Int} (hs : s = x0 :: st) : plI s t > 0 ↔ t ∈ s ∧ ¬ t = x0 := by
 subst hs
 unfold plI
 by_cases h : t ∈ x0 :: st
 · rw [if_pos h, List.idxOf_cons]
   by_cases e : x0 = t
   · subst e; simp
   · have e2 : (x0 == t) = false := beq_eq_false_iff_ne.2 e
     rw [e2]
     simp only [cond_false, h, true_and]
     constructor
     · intro _ h3; exact e h3.symm
     · intro _; omega
 · rw [if_neg h]
   constructor
   · intro h2; omega
   · intro h2; exact absurd h2.1 h
theorem c_uses (s : List Int) (l : List Opt) (hs : s.length ≤ 100000) (hl : l.length ≤ 100000) : zH Tryz.prog 56 [.pv (.sl 6 (l.map Opt.row)), .pv (.sl 1 (s.map zr))] (fun r => r = zo (l.any (inS s))) := by
 refine zh tok mixed 21 rfl (fn := Tryz.f56) (c := Tryz.f56.body.getD .skip) (by kernel_rfl) (by kernel_rfl) (by kernel_rfl) rfl 0 rfl ?_
 repeat' (first | refine o1 ?_ | refine o2 ?_ | refine k1 ?_ | refine k2 ?_ | refine k4 ?_ | fail)
 refine zB (fun i : Nat => [(0, .pv (.sl 6 (l.map Opt.row))), (1, .pv (.sl 1 (s.map zr))), (5, zg .i64 i)]) (fun _ => []) (fun i => i ≤ l.length ∧ ∀ j, j < i → ∀ y, l[j]? = some y → inS s y = false) (fun i => l.length - i) 0 ⟨Nat.zero_le _, fun j hj => absurd hj (Nat.not_lt_zero _)⟩ ?_ ?_
 · exact zJ [] rfl rfl trivial (by repeat' (first | exact trivial | exact rfl | refine And.intro ?_ ?_))
 rintro i ⟨hi, hn⟩
 rcases Nat.lt_or_ge i l.length with hlt | hge
 · obtain ⟨o, ho⟩ := qj hlt
   have hc := zpA s o.place.room hs
   repeat' (first | (refine zj (k := i) (zf ho) (by omega) ?_) | refine o1 ?_ | refine o2 ?_ | refine k1 ?_ | refine k2 ?_ | refine k3 ?_ | refine k4 ?_ | refine k6 ?_ | refine k7 ?_ | refine And.intro ?_ ?_ | (intro h; first | exact Bool.noConfusion h | exact nz _ h | exact nl h | (simp at h; done) | (simp at h; first | (exfalso; omega) | skip) | skip) | (change zx _ _ _ _; refine zd rfl trivial ?_) | refine za ?_ | refine zc (by omega) (by omega) ?_ | (change zp _ _ _ _ _; refine zC rfl (by repeat' (first | trivial | refine And.intro ?_ ?_ | (show 0 + _ ≤ List.length _; simp))) zW.refl (hc) rfl ?_) | fail)
   all_goals first
    | (exfalso; omega)
    | (have e : inS s o = false := by
        unfold inS
        rw [← plI_in]
        exact decide_eq_false (by omega)
       exact ⟨i + 1, ⟨by omega, fun j hj y hy => by
        rcases Nat.lt_or_ge j i with h1 | h1
        · exact hn j h1 y hy
        · obtain rfl : j = i := by omega
          rw [ho] at hy; cases hy; exact e⟩, by omega, zJ [] rfl rfl trivial (by repeat' (first | exact trivial | exact rfl | refine And.intro ?_ ?_))⟩)
    | (have e : l.any (inS s) = true := List.any_eq_true.2 ⟨o, List.mem_of_getElem? ho, by
        unfold inS
        rw [← plI_in]
        exact decide_eq_true (by omega)⟩
       rw [e]; rfl)
 · have e : l.any (inS s) = false := List.any_eq_false.2 fun o ho => by
    obtain ⟨j, hj⟩ := List.getElem?_of_mem ho
    rw [hn j (by have := (List.getElem?_eq_some_iff.1 hj).1; omega) o hj]; exact Bool.false_ne_true
   rw [e]
   repeat' (first | refine o1 ?_ | refine o2 ?_ | refine k1 ?_ | refine k2 ?_ | refine k3 ?_ | refine k7 ?_ | refine k8 ?_ | refine And.intro ?_ ?_ | (intro h; first | exact Bool.noConfusion h | exact nz _ h | exact nl h | (simp at h; done) | (simp at h; first | (exfalso; omega) | skip) | skip) | (change zx _ _ _ _; refine zd rfl trivial ?_) | refine za ?_ | fail)
   all_goals first
    | (exfalso; omega)
    | rfl
theorem zjA {fx : List Nat} {F n d : Nat} {x : Nat} {A : List (List Opt)} (hF : fx.length = F) (h : nT A ≤ n) : (zZ (shF F) 0 A).map (qE d (fx ++ (List.range' F n ++ [x]))) = zZ (shF F) 0 A := by
 rw [zap]
 exact xD fun q _ h2 => (zgw hF (by omega)).trans (if_neg (by omega))
theorem clsF_idG {fx : List Nat} {F n d : Nat} {x : Nat} {A : List (List Opt)} (hF : fx.length = F) (h : nT A ≤ n) : (qy (shF F) 0 A).map (zae d (fx ++ (List.range' F n ++ [x]))) = qy (shF F) 0 A := by
 rw [zaK]
 exact xG fun q _ h2 => (zgw hF (by omega)).trans (if_neg (by omega))
theorem kept_E {H T : zt} {y : Option AObj} {d F n x : Nat} {rn : List Nat} (hT : T.length = n) (hinv : T.map (qE d rn) = T) (hy : qE d rn y = y) (hX : ∀ (t : Nat) (o : AObj), T[t]? = some (some o) → H[t + F]? = some (some o)) (hx : y = none ∨ H[x]? = some y) : zaz H d rn (List.range' F n ++ [x]) (T ++ [y]) := by
 refine zdG (by simp [hT]) fun q i hq o ho => ?_
 rw [List.map_append, hinv] at ho
 simp only [List.map_cons, List.map_nil, hy] at ho
 rcases Nat.lt_or_ge q n with h | h
 · rw [List.getElem?_append_left (by rw [List.length_range']; exact h), List.getElem?_range' h, Nat.one_mul] at hq
   injection hq with hq
   subst hq
   rw [List.getElem?_append_left (by rw [hT]; exact h)] at ho
   rw [show F + q = q + F from Nat.add_comm _ _]
   exact hX q o ho
 · rw [List.getElem?_append_right (by rw [List.length_range']; exact h), List.length_range'] at hq
   rw [List.getElem?_append_right (by rw [hT]; exact h), hT] at ho
   obtain ⟨rfl⟩ : q = n := by
    rcases Nat.lt_or_ge (q - n) 1 with h3 | h3
    · omega
    · rw [List.getElem?_eq_none (by simpa using h3)] at hq; cases hq
   rw [Nat.sub_self] at hq ho
   obtain rfl : x = i := by simpa using hq
   have ho : y = some o := by simpa using ho
   rcases hx with h | h
   · rw [h] at ho; cases ho
   · rw [h, ho]
theorem zih {n i : Nat} {m : Model} {P C : PV} {r : Int} {A : List (List Opt)} {l : List Opt} {o : Opt} {R RO : List (List AV)} {TT : zt} {c : AV} {x5 x6 x7 x9 : Option AObj} {Γ' G0 : zw} (hR : qy (shF 10) 0 A = R) (ho : l[i]? = some o)
  (hRO : qa (shF 10) (nT A) (l.take i) = RO) (hTT : zZ (shF 10) 0 A ++ zam (l.take i) = TT) (hc : c = chC 6 o.charges) (h6 : chO o.charges = none ∨ x6 = chO o.charges)
  (h7 : Cw.get Γ' 7 = some (.ms 8 6 0 (RO.length + 1))) (hG : ∀ d rest, q7 d (0 :: 1 :: 2 :: 3 :: 8 :: rest) Γ' G0) :
  zD n 0 Γ' (zdX m :: zfj :: zdx (slC 3 1 R) (.pv P) (.pv C) r :: obM 51 1 R :: none :: x5 :: x6 :: x7 :: some ⟨62, 6, false, .m (RO ++ [zdU c o.place])⟩ :: x9 :: TT)
   (G0 ++ [(7, slC 4 6 (qa (shF 10) (nT A) (l.take (i + 1))))]) (zdX m :: zfj :: zdx (slC 3 1 R) (.pv P) (.pv C) r :: obM 51 1 R :: obM 62 6 (qa (shF 10) (nT A) (l.take (i + 1))) :: none :: none :: none :: none :: none :: (zZ (shF 10) 0 A ++ zam (l.take (i + 1)))) := by
 have hi := (List.getElem?_eq_some_iff.1 ho).1
 have hto : l.take (i + 1) = l.take i ++ [o] := by
  rw [List.take_add_one, ho]; rfl
 have hlt : (l.take i).length = i := by rw [List.length_take]; omega
 have hTTl : TT.length = nT A + i := by rw [← hTT, List.length_append, qm, qA, hlt]
 have hch : zam (l.take (i + 1)) = zam (l.take i) ++ [chO o.charges] := by
  rw [hto]; simp [zam]
 have hY : zZ (shF 10) 0 A ++ zam (l.take (i + 1)) = TT ++ [chO o.charges] := by rw [hch, ← List.append_assoc, hTT]
 have hg : ∀ {d : Nat} q, q ≤ nT A + i → ([0, 1, 2, 3, 8, 4, 5, 7, 9, 10 + (nT A + i)] ++ (List.range' 10 (nT A + i) ++ [6])).getD (shF 10 q) d = if q = nT A + i then 6 else shF 10 q := fun q hq => zgw (by rfl) hq
 have hro : ∀ d, (qa (shF 10) (nT A) (l.take (i + 1))).map (zae d ([0, 1, 2, 3, 8, 4, 5, 7, 9, 10 + (nT A + i)] ++ (List.range' 10 (nT A + i) ++ [6]))) = RO ++ [zdU c o.place] := fun d => by
  rw [hto, zgt, List.map_append, zaO, zaO, hlt]
  congr 1
  · rw [← hRO]
    exact xi fun q h1 h2 => by rw [hg q (by omega), if_neg (by omega)]
  · simp only [qa]
    rw [hg _ (Nat.le_refl _), if_pos rfl, hc]
 refine zJ ([0, 1, 2, 3, 8, 4, 5, 7, 9, 10 + (nT A + i)] ++ (List.range' 10 (nT A + i) ++ [6])) (ziD ?_ ?_) rfl ?_ ?_
 · apply zcO
   simp
   omega
 · intro a ha
   simp at ha
   omega
 · show zaz _ _ _ (0 :: 1 :: 2 :: 3 :: 8 :: 4 :: 5 :: 7 :: 9 :: (10 + (nT A + i)) :: (List.range' 10 (nT A + i) ++ [6])) _
   have hRi : ∀ d, R.map (zae d ([0, 1, 2, 3, 8, 4, 5, 7, 9, 10 + (nT A + i)] ++ (List.range' 10 (nT A + i) ++ [6]))) = R := fun d => by
    rw [← hR]; exact clsF_idG (F := 10) (by rfl) (by omega)
   refine ⟨rfl, rfl, qR rfl ?_ rfl rfl (xt rfl (hRi _) (xt (rows' := RO ++ [zdU c o.place]) ?_ (hro _) ?_))⟩
   · rw [xU, hRi]; rfl
   · rw [ziJ]; rfl
   · show zaz _ _ _ (List.range' 10 (nT A + i) ++ [6]) _
     rw [hY]
     refine kept_E hTTl ?_ zg8 (fun q x hx => hx) ?_
     · rw [← hTT, List.map_append, zjA (F := 10) (by rfl) (by omega), zbg]
     · rcases h6 with h | h
       · exact .inl h
       · exact .inr (congrArg some h)
 · exact zdd (hG _ _) ⟨zl0 (rows' := RO ++ [zdU c o.place]) (h7.trans (by rw [ziy]; rfl)) (hro _), True.intro⟩
theorem zlO {n : Nat} {m : Model} {P C : PV} {r : Int} {A : List (List Opt)} {l : List Opt} {R : List (List AV)} {x5 x7 x8 x9 : Option AObj} {Γ' G0 : zw} (hR : qy (shF 10) 0 A = R)
  (hG : ∀ d rest, q7 d (0 :: 1 :: 2 :: rest) Γ' G0) :
  zD n 0 Γ' (zdX m :: zfj :: zdx (.ms 6 1 0 (R.length + 1)) (.pv P) (.pv C) r :: none :: obM 62 6 (qa (shF 10) (nT A) l) :: x5 :: some ⟨51, 1, false, .m (R ++ [[slC 4 6 (qa (shF 10) (nT A) l)]])⟩ :: x7 :: x8 :: x9 :: (zZ (shF 10) 0 A ++ zam l)) G0 (hS0 m P C r none none (A ++ [l])) := by
 have hN : nT (A ++ [l]) = nT A + l.length + 1 := zoF
 have hg : ∀ {d : Nat} q, q ≤ nT A + l.length → ([0, 1, 2, 6, 3, 5, 7, 8, 9, 10 + (nT A + l.length)] ++ (List.range' 10 (nT A + l.length) ++ [4])).getD (shF 10 q) d = if q = nT A + l.length then 4 else shF 10 q := fun q hq => zgw (by rfl) hq
 have hcl : ∀ d, (qy (shF 10) 0 (A ++ [l])).map (zae d ([0, 1, 2, 6, 3, 5, 7, 8, 9, 10 + (nT A + l.length)] ++ (List.range' 10 (nT A + l.length) ++ [4]))) = R ++ [[slC 4 6 (qa (shF 10) (nT A) l)]] := fun d => by
  rw [zaK, zf4]
  congr 1
  · rw [← hR]
    exact xG fun q _ h2 => by rw [hg q (by omega), if_neg (by omega)]
  · simp only [qy, Nat.zero_add]
    congr 2
    cases l with
    | nil => rfl
    | cons o t =>
      simp only [zmU]
      rw [show t.length + 1 = (o :: t).length from rfl, hg _ (Nat.le_refl _), if_pos rfl, zc4 (by rw [qQ]; simp), qQ]
 have hY : zZ (shF 10) 0 (A ++ [l]) = (zZ (shF 10) 0 A ++ zam l) ++ [zhl (shF 10) (nT A) l] := by
  rw [zc1]; simp [zZ]
 refine zJ ([0, 1, 2, 6, 3, 5, 7, 8, 9, 10 + (nT A + l.length)] ++ (List.range' 10 (nT A + l.length) ++ [4])) (ziD ?_ ?_) rfl ?_ (hG _ _)
 · apply zcO
   simp
   omega
 · intro a ha
   simp at ha
   omega
 · show zaz _ _ _ (0 :: 1 :: 2 :: 6 :: 3 :: 5 :: 7 :: 8 :: 9 :: (10 + (nT A + l.length)) :: (List.range' 10 (nT A + l.length) ++ [4])) _
   refine ⟨rfl, rfl, qR rfl ?_ rfl rfl (xt (rows' := R ++ [[slC 4 6 (qa (shF 10) (nT A) l)]]) ?_ (hcl _) ?_)⟩
   · rw [xU, hcl, ziy]; rfl
   · rw [ziJ]; rfl
   · show zaz _ _ _ (List.range' 10 (nT A + l.length) ++ [4]) (zZ (shF 10) 0 (A ++ [l]))
     rw [hY]
     refine kept_E (by rw [List.length_append, qm, qA]) ?_ ?_ (fun q x hx => hx) (.inr rfl)
     · rw [List.map_append, zjA (F := 10) (by rfl) (by omega), zbg]
     · rw [zfV]
       unfold zhl
       rw [xi (g' := shF 10) fun q _ h2 => by rw [hg q (by omega), if_neg (by omega)]]
end Go.Proofs.YtihpjcmloecaaaaGreat.Cw
namespace Go.Proofs.YtihpjcmloecaaaaGreat.Cw
open Go Go.Cw Go.Proofs
set_option linter.unusedVariables false
set_option maxRecDepth 100000
set_option maxHeartbeats 30000000
def hSR (m : Model) (P C : PV) (r : Int) (R RO : List (List AV)) (x5 x6 : Option AObj) (TT : zt) : zt :=
 zdX m :: zfj :: zdx (slC 3 1 R) (.pv P) (.pv C) r :: obM 51 1 R :: obM 62 6 RO :: x5 :: x6 :: none :: none :: none :: TT
theorem zmJ {m : Model} {P C : PV} {r : Int} {R RO : List (List AV)} {x5 x6 : Option AObj} {TT : zt} {k m' : Nat} (hk : 5 ≤ k) (hR : ∀ r ∈ R, zab k m' r = true) (hO : ∀ r ∈ RO, zab k m' r = true) (hx : zcl k m' 5 (x5 :: x6 :: none :: none :: none :: TT)) : zcl k m' 0 (hSR m P C r R RO x5 x6 TT) := by
 refine ⟨.inl (by omega), zbK, .inl (by omega), rfl, .inl (by omega), ?_, zac (.inl (by omega)) hR (zac (.inl (by omega)) hO hx)⟩
 have : far k m' (slC 3 1 R) = true := xw (.inl (by omega))
 simp [zo8, zab, far, this]
theorem zpy (m : Model) (hl : Laid m) : zH Tryz.prog 23 [ag m.cells] (fun r => Leq r (.tup [ag (xJ m).1.cells, zg .i64 (xJ m).2])) := by
 have hv := zje m hl
 have hR := c_rRooms m hl
 by_cases hok : qx m = 0
 · by_cases h56 : 56 ≤ m.rules
   · have hbv : xJ m = (zeQ, 2) := by unfold xJ; rw [if_pos hok, if_pos h56]
     have hz := qP hok
     have := hz.2.2.2.2.2
     rw [hbv]
     rw [hok] at hv
     refine zh tok mixed 142 rfl (fn := Tryz.f23) (c := Tryz.f23.body.getD .skip) (by kernel_rfl) (by kernel_rfl) (by kernel_rfl) rfl 0 rfl ?_
     repeat' (first | refine o1 ?_ | refine o2 ?_ | refine k1 ?_ | refine k2 ?_ | refine k3 ?_ | refine k6 ?_ | refine k7 ?_ | refine And.intro ?_ ?_ | (intro h; first | exact Bool.noConfusion h | exact nz _ h | exact nl h | (simp at h; done) | (simp at h; first | (exfalso; omega) | skip) | skip) | exact (by kernel_rfl : zn _ _ = true) | refine zc (by omega) (by omega) ?_ | (change zp _ _ _ _ _; refine zC rfl (by repeat' (first | trivial | refine And.intro ?_ ?_ | (show 0 + _ ≤ List.length _; simp))) zW.refl (hv) rfl ?_) | fail)
     all_goals first
      | (exfalso; omega)
      | (change zx _ _ _ _; refine zd rfl (by repeat' (first | exact True.intro | refine And.intro ?_ ?_)) ?_; exact zeC)
   · have hbv : xJ m = (brkM m, 0) := by unfold xJ; rw [if_pos hok, if_neg h56]
     rw [hbv]
     rw [hok] at hv
     have hz := qP hok
     have hg := zak hok
     have hch : ∀ l ∈ m.classes, ∀ o ∈ l, o.charges.length ≤ 56 := fun l h o ho => zaE (hg.1 l h o ho) hz.2.2.2.2.2
     have hS : (xr m).length ≤ 100000 := by
      have h1 : (xr m).length ≤ (zS m).length := by unfold xr; rw [if_pos hok]; exact zfR
      have h2 := zaQ hz
      omega
     have hSs : ∀ s ∈ xr m, s.length ≤ 100000 := fun s h => zl1 hz hok s h
     obtain ⟨MC, MP, CC, MR⟩ := m
     have hbM : brkM ⟨MC, MP, CC, MR⟩ = ⟨zfK MR (xr ⟨MC, MP, CC, MR⟩) MC, MP, CC, MR + 1⟩ := rfl
     have hcls := fun {s L} => @cls_of ⟨MC, MP, CC, MR⟩ s L hok
     have hne := fun s => @ziz ⟨MC, MP, CC, MR⟩ s
     have hr0 : 0 ≤ MR := hz.2.2.2.2.1
     have hMC : ∀ l ∈ MC, l.length ≤ 24 := hz.2.1
     have hML : MC.length ≤ 24 := hz.1
     have h56 : MR < 56 := by dsimp only at h56; omega
     generalize xr ⟨MC, MP, CC, MR⟩ = S at *
     rw [hbM]
     clear hbM hbv hz hg hl hok
     refine zh tok mixed 142 rfl (fn := Tryz.f23) (c := Tryz.f23.body.getD .skip) (by kernel_rfl) (by kernel_rfl) (by kernel_rfl) rfl 0 rfl ?_
     repeat' (first | (refine zc (x := MR + 1) (by omega) (by omega) ?_) | refine o1 ?_ | refine o2 ?_ | refine k1 ?_ | refine k2 ?_ | refine k3 ?_ | refine k4 ?_ | refine k6 ?_ | refine And.intro ?_ ?_ | (intro h; first | exact Bool.noConfusion h | exact nz _ h | exact nl h | (simp at h; done) | (simp at h; first | (exfalso; omega) | skip) | skip) | exact (by kernel_rfl : zn _ _ = true) | (change zp _ _ _ _ _; refine zC rfl (by repeat' (first | trivial | refine And.intro ?_ ?_ | (show 0 + _ ≤ List.length _; simp))) zW.refl (hv) rfl ?_) | fail)
     all_goals try (exfalso; omega)
     refine zB (fun k : Nat => [(1, .ptr 0 4 0 0), (2, .ptr 1 4 0 0), (5, .ptr 2 4 0 0), (6, zg .i64 k)]) (fun k => hS0 ⟨MC, MP, CC, MR⟩ (.sl 4 (MP.map Pair.row)) (.sl 4 (CC.map Count.row)) (MR + 1) none none (MC.take k)) (fun k => k ≤ MC.length) (fun k => MC.length - k) 0 (Nat.zero_le _) ?_ ?_
     · refine zD.trans (zD.shut (i := 2) (c := 0) (x := qr) (y := qr) (y' := .clip 1 []) rfl rfl rfl True.intro (by simp [zby, zmx, zaW, qr]) (zeA 1)) ?_
       exact zJ [0, 1, 2, 3, 4, 5, 6, 7, 8, 9] rfl rfl (by repeat' (first | exact trivial | exact rfl | refine And.intro ?_ ?_)) (by repeat' (first | exact trivial | exact rfl | refine And.intro ?_ ?_))
     intro k hk
     rcases Nat.lt_or_ge k MC.length with hlt | hge
     · obtain ⟨l, hl⟩ := qj hlt
       have hll := hMC l (List.mem_of_getElem? hl)
       have hlc := hch l (List.mem_of_getElem? hl)
       have hAl : MC.take (k + 1) = MC.take k ++ [l] := by rw [List.take_add_one, hl]; rfl
       have hAk : (MC.take k).length = k := by rw [List.length_take]; omega
       generalize MC.take k = A at *
       dsimp only [hS0]
       generalize hT : zZ (shF 10) 0 A = T at *
       generalize hR : qy (shF 10) 0 A = R at *
       refine zq ?_
       repeat' (first | refine o1 ?_ | refine o2 ?_ | refine k1 ?_ | refine k2 ?_ | refine k3 ?_ | refine k4 ?_ | refine k6 ?_ | refine And.intro ?_ ?_ | (intro h; first | exact Bool.noConfusion h | exact nz _ h | exact nl h | (simp at h; done) | (simp at h; first | (exfalso; omega) | skip) | skip) | refine za ?_ | fail)
       all_goals try (exfalso; omega)
       refine zB (fun i : Nat => [(1, .ptr 0 4 0 0), (2, .ptr 1 4 0 0), (5, .ptr 2 4 0 0), (6, zg .i64 k), (8, zg .i64 i), (7, slC 4 6 (qa (shF 10) (nT A) (l.take i)))]) (fun i => hSR ⟨MC, MP, CC, MR⟩ (.sl 4 (MP.map Pair.row)) (.sl 4 (CC.map Count.row)) (MR + 1) R (qa (shF 10) (nT A) (l.take i)) none none (T ++ zam (l.take i))) (fun i => i ≤ l.length) (fun i => l.length - i) 0 (Nat.zero_le _) ?_ ?_
       · refine zD.trans (zD.weak (s := 7) (x := qr) (y := .clip 6 []) rfl (zeA 6)) ?_
         refine zJ ([0, 1, 2, 3, 4, 5, 6, 7, 8, 9] ++ List.range' 10 (nT A)) (zbb rfl (by decide)) rfl ?_ (by repeat' (first | exact trivial | exact rfl | refine And.intro ?_ ?_))
         show zaz _ _ _ (0 :: 1 :: 2 :: 3 :: 4 :: 5 :: 6 :: 7 :: 8 :: 9 :: List.range' 10 (nT A)) _
         refine ⟨rfl, rfl, qR rfl ?_ rfl rfl (xt rfl ?_ (zfy rfl ?_ ?_ ?_))⟩
         · rw [xU, ← hR, zef (F := 10) (by rfl) (Nat.le_refl _)]; rfl
         · rw [← hR, zef (F := 10) (by rfl) (Nat.le_refl _)]
         · rw [List.length_append, ← hT, qm]; rfl
         · rw [List.map_append, ← hT, zfP (F := 10) (by rfl) (Nat.le_refl _)]; rfl
         · intro q o ho
           exact (congrArg (·[q]?) (List.append_nil T)).symm.trans ho
       intro i hi
       rcases Nat.lt_or_ge i l.length with hlt2 | hge2
       · obtain ⟨o, ho⟩ := qj hlt2
         have hoc := hlc o (List.mem_of_getElem? ho)
         have hfT : ∀ k m, k + m ≤ 10 → zcl k m 10 (T ++ zam (l.take i)) := fun k m h => by
          rw [← hT]
          exact zbd (zaq (fun q => by show k + m ≤ q + 10; omega) h) (zdJ (by omega))
         have hfR : ∀ k m, k + m ≤ 10 → ∀ r ∈ R, zab k m r = true := fun k m h => by
          rw [← hR]
          exact zbL (fun q => by show k + m ≤ q + 10; omega)
         have hfO : ∀ k m, k + m ≤ 10 → ∀ r ∈ qa (shF 10) (nT A) (l.take i), zab k m r = true := fun k m h => zb8 (fun q => by show k + m ≤ q + 10; omega)
         have hro : (qa (shF 10) (nT A) (l.take i)).length = i := by rw [qQ, List.length_take]; omega
         have hf5 := zmJ (m := ⟨MC, MP, CC, MR⟩) (P := .sl 4 (MP.map Pair.row)) (C := .sl 4 (CC.map Count.row)) (r := MR + 1) (x5 := none) (x6 := none) (k := 5) (m' := 1) (Nat.le_refl _) (hfR 5 1 (by decide)) (hfO 5 1 (by decide)) (hfT 5 1 (by decide))
         have hf6 : ∀ b, _ := fun b => zmJ (m := ⟨MC, MP, CC, MR⟩) (P := .sl 4 (MP.map Pair.row)) (C := .sl 4 (CC.map Count.row)) (r := MR + 1) (x5 := some ⟨62, 6, false, .box (pvs b)⟩) (x6 := none) (k := 6) (m' := 1) (by decide) (hfR 6 1 (by decide)) (hfO 6 1 (by decide)) ⟨.inl (by decide), zbK, hfT 6 1 (by decide)⟩
         have hf7 : ∀ b x6, zab 7 2 b = true → zcl 7 2 6 (x6 :: none :: none :: none :: (T ++ zam (l.take i))) → _ := fun b x6 hb h6 => zmJ (m := ⟨MC, MP, CC, MR⟩) (P := .sl 4 (MP.map Pair.row)) (C := .sl 4 (CC.map Count.row)) (r := MR + 1) (x5 := some ⟨62, 6, false, .box b⟩) (x6 := x6) (k := 7) (m' := 2) (by decide) (hfR 7 2 (by decide)) (hfO 7 2 (by decide)) ⟨.inl (by decide), hb, h6⟩
         have hb72 := hfT 7 2 (by decide)
         generalize hRO : qa (shF 10) (nT A) (l.take i) = RO at *
         generalize hTT : T ++ zam (l.take i) = TT at *
         dsimp only [hSR] at hf5 hf6 hf7 ⊢
         have hb : (RO.length + 1) * 64 ≤ 140737488355328 := by omega
         have hn : RO.length + 1 ≤ 9223372036854775807 := by omega
         obtain ⟨pl, cs⟩ := o
         have hcl : cs.length ≤ 56 := hoc
         rcases cs with _ | ⟨c0, C0⟩
         · refine zq ?_
           repeat' (first | (refine zj (k := k) (zf hl) (by omega) ?_) | (refine zj (k := i) (zf ho) (by omega) ?_) | (refine zbs ?_) | ((change zP TT _; refine zq ?_)) | ((show zU _ _ _ _ (.region 14 _ _) _ _ _; refine zN (k := 5) (qZ.room (Nat.zero_le _) (Nat.le_of_ble_eq_true rfl) (fun _ _ h => h) (show zbk 5 1 _ = true by simp [zbk, zab, far, xw, zg, zo]) hf5) ?_)) | ((show zU _ _ _ _ (.region 15 _ _) _ _ _; refine zN (k := 6) (qZ.room (Nat.zero_le _) (Nat.le_of_ble_eq_true rfl) (fun _ _ h => h) (show zbk 6 1 _ = true by simp [zbk, zab, far, xw, zg, zo]) (hf6 (⟨pl, []⟩ : Opt).row)) ?_)) | ((show zU _ _ _ _ (.region 16 _ _) _ _ _; refine zbR ?_)) | refine o1 ?_ | refine o2 ?_ | refine k1 ?_ | refine k2 ?_ | refine k3 ?_ | refine k4 ?_ | refine k6 ?_ | refine And.intro ?_ ?_ | (intro h; first | exact Bool.noConfusion h | exact nz _ h | exact nl h | (simp at h; done) | (simp at h; first | (exfalso; omega) | skip) | skip) | (refine (?_ : z8 _ = zb _); rfl) | exact Nat.le_of_ble_eq_true rfl | exact (by kernel_rfl : zn _ _ = true) | refine za ?_ | fail)
           all_goals try (exfalso; omega)
           refine ⟨?_⟩
           refine zfz (zD.shut (i := 5) (c := 5) (x := qr) (y := qr) (y' := .clip 2 []) rfl rfl rfl True.intro (by simp [zby, zmx, zaW, qr]) (zeA 2)) ?_
           have hf72 := hf7 (zdU (chC 6 []) pl) none (by simp [zdU, chC, zab, far]) hb72
           repeat' (first | (refine zh5 ?_) | (refine zbs ?_) | ((change zP TT _; refine zq ?_)) | ((show zU _ _ _ _ (.region 16 _ _) _ _ _; refine zN (k := 7) (qZ.room (Nat.zero_le _) (Nat.le_of_ble_eq_true rfl) (fun _ _ h => h) (show zbk 7 2 _ = true by simp [zbk, zab, far, xw, zg, zo]) hf72) ?_)) | ((refine zmh (rows := RO) (id := 4) (idx := 7) rfl rfl rfl rfl rfl rfl rfl rfl rfl rfl rfl hb hn ?_)) | refine o1 ?_ | refine o2 ?_ | refine k2 ?_ | refine zc (by omega) (by omega) ?_ | fail)
           refine ⟨i + 1, hlt2, by omega, ?_⟩
           subst hT
           refine zih (m := ⟨MC, MP, CC, MR⟩) (G0 := [(1, .ptr 0 4 0 0), (2, .ptr 1 4 0 0), (5, .ptr 2 4 0 0), (6, zg .i64 k), (8, zg .i64 ((i + 1 : Nat) : Int))]) (o := ⟨pl, []⟩) hR ho hRO hTT rfl (.inl rfl) rfl (fun d rest => ?_)
           repeat' (first | exact trivial | exact rfl | refine And.intro ?_ ?_)
         · refine zq ?_
           repeat' (first | (refine zj (k := k) (zf hl) (by omega) ?_) | (refine zj (k := i) (zf ho) (by omega) ?_) | ((show zb _ * _ ≤ _; simp [zb] at *; omega)) | ((show zb _ ≤ _; simp [zb] at *; omega)) | (refine zi (Rows.p ((c0 :: C0).map Charge.row)) rfl (zi (C0.length + 1) (by simp [zb]) ?_)) | (refine zbs ?_) | ((change zP TT _; refine zq ?_)) | ((show zU _ _ _ _ (.region 14 _ _) _ _ _; refine zN (k := 5) (qZ.room (Nat.zero_le _) (Nat.le_of_ble_eq_true rfl) (fun _ _ h => h) (show zbk 5 1 _ = true by simp [zbk, zab, far, xw, zg, zo]) hf5) ?_)) | ((show zU _ _ _ _ (.region 15 _ _) _ _ _; refine zN (k := 6) (qZ.room (Nat.zero_le _) (Nat.le_of_ble_eq_true rfl) (fun _ _ h => h) (show zbk 6 1 _ = true by simp [zbk, zab, far, xw, zg, zo]) (hf6 (⟨pl, c0 :: C0⟩ : Opt).row)) ?_)) | ((show zU _ _ _ _ (.region 16 _ _) _ _ _; refine zbR ?_)) | refine o1 ?_ | refine o2 ?_ | refine k1 ?_ | refine k2 ?_ | refine k3 ?_ | refine k4 ?_ | refine k6 ?_ | refine And.intro ?_ ?_ | (intro h; first | exact Bool.noConfusion h | exact nz _ h | exact nl h | (simp at h; done) | (simp at h; first | (exfalso; omega) | skip) | skip) | (refine (?_ : z8 _ = zb _); rfl) | exact (by kernel_rfl : zn _ _ = true) | refine za ?_ | fail)
           all_goals try (exfalso; omega)
           refine ⟨?_⟩
           have hf72 := hf7 (zdU (chC 6 (c0 :: C0)) pl) (chO (c0 :: C0)) (by simp [zdU, chC, zab, far]) ⟨.inl (by decide), trivial, hb72⟩
           repeat' (first | (refine zh5 ?_) | (refine zbs ?_) | ((change zP TT _; refine zq ?_)) | ((show zU _ _ _ _ (.region 16 _ _) _ _ _; refine zN (k := 7) (qZ.room (Nat.zero_le _) (Nat.le_of_ble_eq_true rfl) (fun _ _ h => h) (show zbk 7 2 _ = true by simp [zbk, zab, far, xw, zg, zo]) hf72) ?_)) | ((refine zmh (rows := RO) (id := 4) (idx := 7) rfl rfl rfl rfl rfl rfl rfl rfl rfl rfl rfl hb hn ?_)) | refine o1 ?_ | refine o2 ?_ | refine k2 ?_ | refine zc (by omega) (by omega) ?_ | fail)
           refine ⟨i + 1, hlt2, by omega, ?_⟩
           subst hT
           refine zih (m := ⟨MC, MP, CC, MR⟩) (G0 := [(1, .ptr 0 4 0 0), (2, .ptr 1 4 0 0), (5, .ptr 2 4 0 0), (6, zg .i64 k), (8, zg .i64 ((i + 1 : Nat) : Int))]) (o := ⟨pl, c0 :: C0⟩) hR ho hRO hTT rfl (.inr rfl) rfl (fun d rest => ?_)
           repeat' (first | exact trivial | exact rfl | refine And.intro ?_ ?_)
       · obtain rfl : i = l.length := by omega
         have hlt' : l.take l.length = l := List.take_length
         rw [hlt'] at *
         have hfT : ∀ k m, k + m ≤ 10 → zcl k m 10 (T ++ zam l) := fun k m h => by
          rw [← hT]
          exact zbd (zaq (fun q => by show k + m ≤ q + 10; omega) h) (zdJ (by omega))
         have hfR : ∀ k m, k + m ≤ 10 → ∀ r ∈ R, zab k m r = true := fun k m h => by
          rw [← hR]
          exact zbL (fun q => by show k + m ≤ q + 10; omega)
         have hfO : ∀ k m, k + m ≤ 10 → ∀ r ∈ qa (shF 10) (nT A) l, zab k m r = true := fun k m h => zb8 (fun q => by show k + m ≤ q + 10; omega)
         have hro : (qa (shF 10) (nT A) l).length = l.length := qQ
         have hRl : R.length = k := by rw [← hR, zbf, hAk]
         have hf5 := zmJ (m := ⟨MC, MP, CC, MR⟩) (P := .sl 4 (MP.map Pair.row)) (C := .sl 4 (CC.map Count.row)) (r := MR + 1) (x5 := none) (x6 := none) (k := 5) (m' := 2) (Nat.le_refl _) (hfR 5 2 (by decide)) (hfO 5 2 (by decide)) (hfT 5 2 (by decide))
         have hbk := fun (Γ' : zw) (x5 x7 x8 x9 : Option AObj) (G0 : zw) => zlO (n := 142) (m := ⟨MC, MP, CC, MR⟩) (P := .sl 4 (MP.map Pair.row)) (C := .sl 4 (CC.map Count.row)) (r := MR + 1) (l := l) (x5 := x5) (x7 := x7) (x8 := x8) (x9 := x9) (Γ' := Γ') (G0 := G0) hR
         rw [← hAl, hT] at hbk
         dsimp only [hSR] at hf5 ⊢
         generalize hRO : qa (shF 10) (nT A) l = RO at *
         generalize hTT : T ++ zam l = TT at *
         have hb : (R.length + 1) * 24 ≤ 140737488355328 := by omega
         have hn : R.length + 1 ≤ 9223372036854775807 := by omega
         refine zq ?_
         rcases RO with _ | ⟨r0, RO⟩
         all_goals
          repeat' (first | (refine zj (k := k) (zf hl) (by omega) ?_) | (refine zh5 ?_) | (refine zbs ?_) | ((show zU _ _ _ _ (.region 17 _ _) _ _ _; refine zN (k := 5) (qZ.room (Nat.zero_le _) (Nat.le_of_ble_eq_true rfl) (fun _ _ h => h) (show zbk 5 2 _ = true by simp [zbk, zab, far, xw, zg, zo, slC]) hf5) ?_)) | ((change zP TT _; refine zq ?_)) | ((refine zmh (rows := R) (id := 3) (idx := 5) rfl rfl rfl rfl rfl rfl rfl rfl rfl rfl rfl hb hn ?_)) | refine o1 ?_ | refine o2 ?_ | refine k1 ?_ | refine k2 ?_ | refine k3 ?_ | refine k8 ?_ | refine And.intro ?_ ?_ | (intro h; first | exact Bool.noConfusion h | exact nz _ h | exact nl h | (simp at h; done) | (simp at h; first | (exfalso; omega) | skip) | skip) | refine za ?_ | refine zc (by omega) (by omega) ?_ | fail)
          all_goals try (exfalso; omega)
          refine ⟨k + 1, hlt, by omega, ?_⟩
          refine hbk _ _ _ _ _ _ (fun d rest => ?_)
          repeat' (first | exact trivial | exact rfl | refine And.intro ?_ ?_)
     · obtain rfl : k = MC.length := by omega
       have hlt' : MC.take MC.length = MC := List.take_length
       rw [hlt']
       refine zq ?_
       repeat' (first | (refine zbs ?_) | ((change zP (zZ _ _ _) _; refine zq ?_)) | ((change zp _ _ _ _ _; refine qw rfl (by repeat' (first | trivial | refine And.intro ?_ ?_ | (show 0 + _ ≤ List.length _; simp))) zW.refl hR ?_; rintro _ rfl)) | refine o1 ?_ | refine o2 ?_ | refine k1 ?_ | refine k2 ?_ | refine k3 ?_ | refine k4 ?_ | refine k8 ?_ | refine And.intro ?_ ?_ | (intro h; first | exact Bool.noConfusion h | exact nz _ h | exact nl h | (simp at h; done) | (simp at h; first | (exfalso; omega) | skip) | skip) | refine za ?_ | fail)
       all_goals try (exfalso; omega)
       refine zB (fun k : Nat => [(1, .ptr 0 4 0 0), (2, .ptr 1 4 0 0), (5, .ptr 2 4 0 0), (10, .pv (.sl 1 (S.map q9))), (11, zg .i64 k)]) (fun k => hS0 ⟨MC, MP, CC, MR⟩ (.sl 4 (MP.map Pair.row)) (.sl 4 (CC.map Count.row)) (MR + 1) none none (zfK MR (S.take k) MC)) (fun k => k ≤ S.length) (fun k => S.length - k) 0 (Nat.zero_le _) ?_ ?_
       · exact zco (by repeat (first | exact zdH | refine zci rfl ?_))
       intro k hk
       rcases Nat.lt_or_ge k S.length with hlt | hge
       · obtain ⟨s, hs⟩ := qj hlt
         have hsS := List.mem_of_getElem? hs
         obtain ⟨x0, st0, hs0⟩ := hne s hsS
         have hsl := hSs s hsS
         have hto : S.take (k + 1) = S.take k ++ [s] := by rw [List.take_add_one, hs]; rfl
         have hL1 : (zfK MR (S.take k) MC).map zhk = MC.map zhk := zf6
         have hL2 := zla hL1 hMC
         have hL3 := zjg (R := MR) (S := S.take k) hch
         have hL4 : (zfK MR (S.take k) MC).length ≤ 24 := by rw [zeS]; exact hML
         have hL5 : (zfK MR (S.take k) MC).length = MC.length := zeS
         have hnx : zfK MR (S.take (k + 1)) MC = zlN MR s (zfK MR (S.take k) MC) := by rw [hto, zkD]
         generalize zfK MR (S.take k) MC = L at *
         obtain ⟨A, l, B, rfl, hA, hl⟩ := hcls hsS hL1
         rw [zpV hA hl] at hnx
         have hlp : 0 < l.length := by
          cases l with
          | nil => simp at hl
          | cons a t => simp
         have hAn : A.length < zhV A B := by unfold zhV; omega
         have hAM : A.length < MC.length := by rw [← hL5]; simp
         dsimp only [hS0]
         refine zq ?_
         repeat' (first | refine o1 ?_ | refine o2 ?_ | refine k1 ?_ | refine k2 ?_ | refine k3 ?_ | refine k4 ?_ | refine k6 ?_ | refine And.intro ?_ ?_ | (intro h; first | exact Bool.noConfusion h | exact nz _ h | exact nl h | (simp at h; done) | (simp at h; first | (exfalso; omega) | skip) | skip) | refine za ?_ | fail)
         all_goals try (exfalso; omega)
         refine zB (fun c : Nat => [(1, .ptr 0 4 0 0), (2, .ptr 1 4 0 0), (5, .ptr 2 4 0 0), (10, .pv (.sl 1 (S.map q9))), (11, zg .i64 k), (12, zg .i64 c)]) (fun _ => hS0 ⟨MC, MP, CC, MR⟩ (.sl 4 (MP.map Pair.row)) (.sl 4 (CC.map Count.row)) (MR + 1) none none (A ++ l :: B)) (fun c => c ≤ A.length) (fun c => A.length - c) 0 (Nat.zero_le _) ?_ ?_
         · exact zco (by repeat (first | exact zdH | refine zci rfl ?_))
         intro c hc
         obtain ⟨lc, hlc⟩ := qj (show c < MC.length by omega)
         have hu := c_uses s lc hsl (by have := hMC lc (List.mem_of_getElem? hlc); omega)
         have hlc2 : ∀ l', (A ++ l :: B)[c]? = some l' → lc.any (inS s) = l'.any (inS s) := fun l' h => by
          refine any_plc ?_
          have h1 := congrArg (·[c]?) hL1
          simp only [List.getElem?_map, h, hlc, Option.map_some, Option.some.injEq] at h1
          exact h1.symm
         dsimp only [hS0]
         rcases Nat.lt_or_ge c A.length with hcl | hcg
         · obtain ⟨a, ha⟩ := qj hcl
           rw [hlc2 a (by rw [List.getElem?_append_left hcl]; exact ha), hA a (List.mem_of_getElem? ha)] at hu
           refine zq ?_
           repeat' (first | (refine zj (k := k) (zf hs) (by omega) ?_) | (refine zj (k := c) (zf hlc) (by omega) ?_) | refine o1 ?_ | refine o2 ?_ | refine k1 ?_ | refine k2 ?_ | refine k3 ?_ | refine k4 ?_ | refine k6 ?_ | refine And.intro ?_ ?_ | refine o3 ?_ | refine o4 ?_ | (intro h; first | exact Bool.noConfusion h | exact nz _ h | exact nl h | (simp at h; done) | (simp at h; first | (exfalso; omega) | skip) | skip) | exact (by kernel_rfl : zn _ _ = true) | refine zc (by omega) (by omega) ?_ | (change zI _ _ _ _ _; refine zF rfl (by repeat' (first | trivial | refine And.intro ?_ ?_ | (show 0 + _ ≤ List.length _; simp))) zW.refl (hu) rfl ?_) | fail)
           all_goals try (exfalso; omega)
           refine ⟨c + 1, hcl, by omega, ?_⟩
           exact zco (by repeat (first | exact zdH | refine zci rfl ?_))
         · obtain rfl : c = A.length := by omega
           rw [hlc2 l (by simp), hl] at hu
           refine zq ?_
           repeat' (first | (refine zj (k := k) (zf hs) (by omega) ?_) | (refine zj (k := A.length) (zf hlc) (by omega) ?_) | refine o1 ?_ | refine o2 ?_ | refine k1 ?_ | refine k2 ?_ | refine k3 ?_ | refine k4 ?_ | refine k8 ?_ | refine And.intro ?_ ?_ | refine o3 ?_ | refine o4 ?_ | (intro h; first | exact Bool.noConfusion h | exact nz _ h | exact nl h | (simp at h; done) | (simp at h; first | (exfalso; omega) | skip) | skip) | exact (by kernel_rfl : zn _ _ = true) | (change zI _ _ _ _ _; refine zF rfl (by repeat' (first | trivial | refine And.intro ?_ ?_ | (show 0 + _ ≤ List.length _; simp))) zW.refl (hu) rfl ?_) | fail)
           all_goals try (exfalso; omega)
           refine zB (fun i : Nat => [(1, .ptr 0 4 0 0), (2, .ptr 1 4 0 0), (5, .ptr 2 4 0 0), (10, .pv (.sl 1 (S.map q9))), (11, zg .i64 k), (12, zg .i64 A.length), (13, zg .i64 i)]) (fun i => hS1 ⟨MC, MP, CC, MR⟩ (.sl 4 (MP.map Pair.row)) (.sl 4 (CC.map Count.row)) (MR + 1) none none A (lI (zdW MR s) l i) B) (fun i => i ≤ l.length) (fun i => l.length - i) 0 (Nat.zero_le _) ?_ ?_
           · exact zmD zaa zaa hlp (fun d rest => by repeat' (first | exact trivial | exact rfl | refine And.intro ?_ ?_))
           intro i hi
           rcases Nat.lt_or_ge i l.length with hlt2 | hge2
           · obtain ⟨o, ho⟩ := qj hlt2
             have hoi := lI_at (f := zdW MR s) ho
             have hsu := zoR (f := zdW MR s) ho
             have hll := lI_len (f := zdW MR s) (l := l) (i := i) hi
             have hoc := hL3 l (by simp) o (List.mem_of_getElem? ho)
             have hl24 := hL2 l (by simp)
             have hSk : (S.take k).length ≤ 100000 := by rw [List.length_take]; omega
             generalize lI (zdW MR s) l i = li at *
             have hfar := far_S2 (m := ⟨MC, MP, CC, MR⟩) (P := .sl 4 (MP.map Pair.row)) (C := .sl 4 (CC.map Count.row)) (R := MR + 1) (x4 := none) (x5 := none) (A := A) (l := li) (B := B) (i := i) (o := o) (q := nT A + i) (s := s) (.inl rfl) (.inl rfl)
             have hrow := zdD (g := gX (nT A + i) 7) (j := nT A) hoi
             rw [gX_at] at hrow
             have hrx := zo5 (A := A) (x := 7) hoi
             dsimp only [hS1]
             refine zq ?_
             repeat' (first | (refine ⟨_, zgu, ?_⟩) | ((show zU _ _ _ _ (.seq (.region 28 _ _) _) _ _ _; refine zbR ?_)) | refine o1 ?_ | refine o2 ?_ | refine k1 ?_ | refine k2 ?_ | refine k3 ?_ | refine k4 ?_ | refine k6 ?_ | refine And.intro ?_ ?_ | (intro h; first | exact Bool.noConfusion h | exact nz _ h | exact nl h | (simp at h; done) | (simp at h; first | (exfalso; omega) | skip) | skip) | refine zL ?_ | refine qp _ (by first | rfl | assumption) (by first | assumption | omega) ?_ | fail)
             all_goals try (exfalso; omega)
             refine ⟨?_⟩
             refine qh (zmB (G := [(1, .ptr 0 4 0 0), (2, .ptr 1 4 0 0), (5, .ptr 2 4 0 0), (10, .pv (.sl 1 (S.map q9))), (11, zg .i64 k), (12, zg .i64 A.length), (13, zg .i64 i)]) zaa zaa hoi (fun d rest => by repeat' (first | exact trivial | exact rfl | refine And.intro ?_ ?_))) ?_
             dsimp only [hS2] at hfar ⊢
             obtain ⟨pl, cs⟩ := o
             generalize qa (gX (nT A + i) 7) (nT A) li = rows at *
             generalize hM : mid A ((zam li).set i none) none B li.length = T2 at *
             have hpl := zpA s pl.room hsl
             have hin : inS s ⟨pl, cs⟩ = pB (pl.room ∈ s) := rfl
             have hh : plI s pl.room > 0 → zdW MR s ⟨pl, cs⟩ = ⟨pl, cs ++ [⟨MR, zhx⟩]⟩ := fun h => zm9 hs0 (zaS ((zlb hs0).1 h).1) ((zlb hs0).1 h).2
             have hno : ¬ plI s pl.room > 0 → zdW MR s ⟨pl, cs⟩ = ⟨pl, cs⟩ := fun h => by
              by_cases h1 : pl.room ∈ s
              · by_cases h2 : pl.room = x0
                · exact zkC hs0 h2
                · exact absurd ((zlb hs0).2 ⟨h1, h2⟩) h
              · exact zm8 (zaj h1)
             have hcl : cs.length ≤ 200000 := by have : cs.length ≤ 56 + _ := hoc; omega
             rcases cs with _ | ⟨c0, C0⟩
             · skip
               repeat' (first | ((change zP T2 _; refine zq ?_)) | (refine zj (k := k) (zf hs) (by omega) ?_) | (refine ⟨_, zgu, ?_⟩) | (refine ⟨_, hrow, ?_⟩) | ((show zU _ _ _ _ (.region 29 _ _) _ _ _; refine xy (k := 8) (qZ.room (Nat.zero_le _) (Nat.le_of_ble_eq_true rfl) (fun _ _ h => h) (show zbk 8 2 _ = true by simp [zbk, zab, far, zg, zo, chC]) hfar) ?_)) | (refine zi (rows.set i (zdU (.ms 9 2 0 1) pl)) rfl ?_) | refine o1 ?_ | refine o2 ?_ | refine k1 ?_ | refine k2 ?_ | refine k3 ?_ | refine k6 ?_ | refine And.intro ?_ ?_ | refine o3 ?_ | refine o4 ?_ | (intro h; first | exact Bool.noConfusion h | exact nz _ h | exact nl h | (simp at h; done) | (simp at h; first | (exfalso; omega) | skip) | skip) | (refine (?_ : z8 _ = zb _); rfl) | exact Nat.le_of_ble_eq_true rfl | exact (by kernel_rfl : zn _ _ = true) | refine zL ?_ | refine zc (by omega) (by omega) ?_ | refine zi _ (qb rfl) (zi 1 rfl ?_) | refine qp _ (by first | rfl | assumption) (by first | assumption | omega) ?_ | (change zI _ _ _ _ _; refine zF rfl (by repeat' (first | trivial | refine And.intro ?_ ?_ | (show 0 + _ ≤ List.length _; simp))) zW.refl (hpl) rfl ?_) | fail)
               all_goals try (exfalso; omega)
               all_goals try (focus
                have hb : zdW MR s _ = _ := hno (by omega)
                rw [hb] at hsu
                subst hM
                refine ⟨i + 1, hlt2, by omega, ?_⟩
                refine zbJ (x := 7) ⟨by decide, by decide⟩ zaa zaa hoi rfl hrx (by first | exact .inl rfl | exact .inr rfl) hsu (fun d rest => ?_)
                repeat' (first | exact trivial | exact rfl | refine And.intro ?_ ?_))
               have hb := hh (by omega)
               rw [hb] at hsu
               subst hM
               refine ⟨i + 1, hlt2, by omega, ?_⟩
               refine zbJ (x := 9) (o' := ⟨pl, ([] : List Charge) ++ [⟨MR, zhx⟩]⟩) ⟨by decide, by decide⟩ zaa zaa hoi rfl ?_ (.inr rfl) hsu (fun d rest => ?_)
               · rw [hrx, List.set_set]; simp [chC]
               · repeat' (first | exact trivial | exact rfl | refine And.intro ?_ ?_)
             · simp only [List.length_cons] at hcl
               repeat' (first | ((change zP T2 _; refine zq ?_)) | (refine zj (k := k) (zf hs) (by omega) ?_) | (refine ⟨_, zgu, ?_⟩) | (refine ⟨_, hrow, ?_⟩) | ((show zU _ _ _ _ (.region 29 _ _) _ _ _; refine xy (k := 8) (qZ.room (Nat.zero_le _) (Nat.le_of_ble_eq_true rfl) (fun _ _ h => h) (show zbk 8 2 _ = true by simp [zbk, zab, far, zg, zo, chC]) hfar) ?_)) | (refine zi (rows.set i (zdU (.ms 9 2 0 (C0.length + 2)) pl)) rfl ?_) | (refine zi _ (qK (f := Charge.row) (l := c0 :: C0) (y := ⟨MR, zhx⟩) rfl) (zi (C0.length + 2) (by simp [zb]) ?_)) | ((show zb _ * _ ≤ _; simp [zb]; omega)) | ((show zb _ ≤ _; simp [zb]; omega)) | refine o1 ?_ | refine o2 ?_ | refine k1 ?_ | refine k2 ?_ | refine k3 ?_ | refine k6 ?_ | refine And.intro ?_ ?_ | refine o3 ?_ | refine o4 ?_ | (intro h; first | exact Bool.noConfusion h | exact nz _ h | exact nl h | (simp at h; done) | (simp at h; first | (exfalso; omega) | skip) | skip) | (refine (?_ : z8 _ = zb _); rfl) | exact Nat.le_of_ble_eq_true rfl | exact (by kernel_rfl : zn _ _ = true) | refine zL ?_ | refine zc (by omega) (by omega) ?_ | (refine (?_ : _ = zb _); simp [zb] <;> omega) | refine qp _ (by first | rfl | assumption) (by first | assumption | omega) ?_ | (change zI _ _ _ _ _; refine zF rfl (by repeat' (first | trivial | refine And.intro ?_ ?_ | (show 0 + _ ≤ List.length _; simp))) zW.refl (hpl) rfl ?_) | fail)
               all_goals try (exfalso; omega)
               all_goals try (focus
                have hb : zdW MR s _ = _ := hno (by omega)
                rw [hb] at hsu
                subst hM
                refine ⟨i + 1, hlt2, by omega, ?_⟩
                refine zbJ (x := 7) ⟨by decide, by decide⟩ zaa zaa hoi rfl hrx (by first | exact .inl rfl | exact .inr rfl) hsu (fun d rest => ?_)
                repeat' (first | exact trivial | exact rfl | refine And.intro ?_ ?_))
               have hb := hh (by omega)
               rw [hb] at hsu
               subst hM
               refine ⟨i + 1, hlt2, by omega, ?_⟩
               refine zbJ (x := 9) (o' := ⟨pl, c0 :: C0 ++ [⟨MR, zhx⟩]⟩) ⟨by decide, by decide⟩ zaa zaa hoi rfl ?_ (.inr rfl) hsu (fun d rest => ?_)
               · rw [hrx, List.set_set]; simp [chC]
               · repeat' (first | exact trivial | exact rfl | refine And.intro ?_ ?_)
           · obtain rfl : i = l.length := by omega
             rw [lI_all]
             have hll : (l.map (zdW MR s)).length = l.length := List.length_map _
             dsimp only [hS1]
             refine zq ?_
             repeat' (first | (refine ⟨_, zgu, ?_⟩) | refine o1 ?_ | refine o2 ?_ | refine k1 ?_ | refine k2 ?_ | refine k3 ?_ | refine k8 ?_ | refine And.intro ?_ ?_ | (intro h; first | exact Bool.noConfusion h | exact nz _ h | exact nl h | (simp at h; done) | (simp at h; first | (exfalso; omega) | skip) | skip) | refine zL ?_ | refine zc (by omega) (by omega) ?_ | refine qp _ (by first | rfl | assumption) (by first | assumption | omega) ?_ | fail)
             all_goals try (exfalso; omega)
             refine ⟨k + 1, hlt, by omega, ?_⟩
             rw [hnx]
             refine zmC (x4 := none) (x5 := none) (by omega) (fun d rest => ?_)
             repeat' (first | exact trivial | exact rfl | refine And.intro ?_ ?_)
       · obtain rfl : k = S.length := by omega
         have hlt' : S.take S.length = S := List.take_length
         rw [hlt']
         generalize zfK MR S MC = L
         have hcv := fun a0 a1 a2 a4 a5 a6 a7 a8 a9 ty => @zlv L a0 a1 a2 a4 a5 a6 a7 a8 a9 ty
         have hfin : ∀ (x1 : Option AObj) (y : AV), y = slC 3 1 (qy (shF 10) 0 L) → zx 0 (.tup [.agg [y, .pv (.sl 4 (MP.map Pair.row)), .pv (.sl 4 (CC.map Count.row)), .pv (ei (MR + 1))], zg .i64 0]) (zdX ⟨MC, MP, CC, MR⟩ :: x1 :: zdx y (.pv (.sl 4 (MP.map Pair.row))) (.pv (.sl 4 (CC.map Count.row))) (MR + 1) :: obM 51 1 (qy (shF 10) 0 L) :: none :: none :: none :: none :: none :: none :: zZ (shF 10) 0 L) (fun r H' => H' = [] ∧ Leq r (.tup [ag (⟨L, MP, CC, MR + 1⟩ : Model).cells, zg .i64 0])) := fun x1 y hy => by
          subst hy
          have h1 := (hcv (zdX ⟨MC, MP, CC, MR⟩) x1 (zdx (slC 3 1 (qy (shF 10) 0 L)) (.pv (.sl 4 (MP.map Pair.row))) (.pv (.sl 4 (CC.map Count.row))) (MR + 1)) none none none none none none 51)
          refine zd (r0 := .tup [ag (⟨L, MP, CC, MR + 1⟩ : Model).cells, zg .i64 0]) ?_ ?_ ⟨ALe.refl⟩
          · simp only [conv, zdt, zav, h1.1, qv]
            rfl
          · refine ⟨?_, trivial⟩
            show za2 (okC _ 5) [slC 3 1 (qy (shF 10) 0 L), _, _, _]
            rw [zeT fun p => trivial]
            exact ⟨h1.2, trivial⟩
         clear hcv
         rcases L with _ | ⟨l0, L0⟩
         all_goals
          refine zq ?_
          repeat' (first | (refine zbs ?_) | ((change zP (zZ _ _ _) _; refine zq ?_)) | ((change zx _ _ _ _; refine hfin _ _ rfl)) | refine o1 ?_ | refine o2 ?_ | refine k1 ?_ | refine k2 ?_ | refine k3 ?_ | refine k7 ?_ | refine k8 ?_ | refine And.intro ?_ ?_ | (intro h; first | exact Bool.noConfusion h | exact nz _ h | exact nl h | (simp at h; done) | (simp at h; first | (exfalso; omega) | skip) | skip) | refine za ?_ | fail)
          all_goals try (exfalso; omega)
 · have hbv : xJ m = (zeQ, qx m) := by unfold xJ; rw [if_neg hok]
   rw [hbv]
   refine zh tok mixed 142 rfl (fn := Tryz.f23) (c := Tryz.f23.body.getD .skip) (by kernel_rfl) (by kernel_rfl) (by kernel_rfl) rfl 0 rfl ?_
   repeat' (first | refine o1 ?_ | refine o2 ?_ | refine k1 ?_ | refine k2 ?_ | refine k3 ?_ | refine k7 ?_ | refine And.intro ?_ ?_ | (intro h; first | exact Bool.noConfusion h | exact nz _ h | exact nl h | (simp at h; done) | (simp at h; first | (exfalso; omega) | skip) | skip) | exact (by kernel_rfl : zn _ _ = true) | (change zp _ _ _ _ _; refine zC rfl (by repeat' (first | trivial | refine And.intro ?_ ?_ | (show 0 + _ ≤ List.length _; simp))) zW.refl (hv) rfl ?_) | fail)
   all_goals first
    | (exfalso; omega)
    | (change zx _ _ _ _; refine zd rfl (by repeat' (first | exact True.intro | refine And.intro ?_ ?_)) ?_; exact zeC)
theorem c_rbreak (m : Model) (hl : Laid m) : zH Tryz.prog 23 [ag m.cells] (fun r => r = .tup [ag (xJ m).1.cells, zg .i64 (xJ m).2]) := (zpy m hl).weak fun r k => ⟨_, k.le, rfl⟩
end Go.Proofs.YtihpjcmloecaaaaGreat.Cw
namespace Go.Proofs.YtihpjcmloecaaaaGreat.Cw
open Go Go.Cw Go.Proofs
set_option linter.unusedVariables false
set_option maxRecDepth 100000
set_option maxHeartbeats 8000000
theorem zlD (m : List Opt) (hll : m.length ≤ 100000) (hch : ∀ o ∈ m, o.charges.length ≤ 1000000) : zH Tryz.prog 57 [.pv (.sl 6 (m.map Opt.row)), .pv (.sl 6 (m.map Opt.row))] (fun a => a = zo true) := by
 refine zh tok mixed 71 rfl (fn := Tryz.f57) (c := Tryz.f57.body.getD .skip) (by kernel_rfl) (by kernel_rfl) (by kernel_rfl) rfl 0 rfl ?_
 repeat' (first | refine o1 ?_ | refine o2 ?_ | refine k1 ?_ | refine k2 ?_ | refine k3 ?_ | refine k4 ?_ | refine k6 ?_ | refine And.intro ?_ ?_ | (intro h; first | exact Bool.noConfusion h | exact nz _ h | exact nl h | (simp at h; done) | (simp at h; first | (exfalso; omega) | skip) | skip) | refine za ?_ | fail)
 refine qu (fun i : Nat => [(5, zg .i64 i)]) (fun _ => []) (fun i => i ≤ m.length) (fun i => m.length - i) 0 (Nat.zero_le _) (by repeat' (first | exact trivial | exact ⟨_, rfl, ALe.refl⟩ | refine And.intro ?_ ?_)) (by repeat' (first | exact trivial)) ?_
 intro i hi
 rcases Nat.lt_or_ge i m.length with hlt | hge
 · obtain ⟨⟨p, ch⟩, hq⟩ := qj hlt
   have hc0 := hch _ (List.mem_of_getElem? hq)
   dsimp only at hc0
   repeat' (first | refine o1 ?_ | refine o2 ?_ | refine k1 ?_ | refine k2 ?_ | refine k3 ?_ | refine k4 ?_ | refine k6 ?_ | refine And.intro ?_ ?_ | refine o3 ?_ | refine o4 ?_ | (intro h; first | exact Bool.noConfusion h | exact nz _ h | exact nl h | (simp at h; done) | (simp at h; first | (exfalso; omega) | skip) | skip) | exact (by kernel_rfl : zn _ _ = true) | refine za ?_ | refine ⟨_, _, (by first | rfl | assumption), zf (by assumption), ?_⟩ | fail)
   all_goals first
    | (exfalso; simp_all; done)
    | skip
   refine qu (fun k : Nat => [(6, zg .i64 k)]) (fun _ => []) (fun k => k ≤ ch.length) (fun k => ch.length - k) 0 (Nat.zero_le _) (by repeat' (first | exact trivial | exact ⟨_, rfl, ALe.refl⟩ | refine And.intro ?_ ?_)) (by repeat' (first | exact trivial)) ?_
   intro k hk
   rcases Nat.lt_or_ge k ch.length with hlt2 | hge2
   · obtain ⟨c, hc⟩ := qj hlt2
     repeat' (first | refine o1 ?_ | refine o2 ?_ | refine k1 ?_ | refine k2 ?_ | refine k3 ?_ | refine k4 ?_ | refine k6 ?_ | refine And.intro ?_ ?_ | refine o3 ?_ | refine o4 ?_ | (intro h; first | exact Bool.noConfusion h | exact nz _ h | exact nl h | (simp at h; done) | (simp at h; first | (exfalso; omega) | skip) | skip) | exact (by kernel_rfl : zn _ _ = true) | refine za ?_ | refine zc (by omega) (by omega) ?_ | refine ⟨_, _, (by first | rfl | assumption), zf (by assumption), ?_⟩ | fail)
     all_goals first
      | exact ⟨k + 1, hlt2, by omega, zJ [] rfl rfl trivial (by repeat' (first | exact trivial | exact rfl | refine And.intro ?_ ?_))⟩
      | (exfalso; simp_all; done)
      | (exfalso; omega)
   · repeat' (first | refine o1 ?_ | refine o2 ?_ | refine k1 ?_ | refine k2 ?_ | refine k3 ?_ | refine k8 ?_ | refine And.intro ?_ ?_ | (intro h; first | exact Bool.noConfusion h | exact nz _ h | exact nl h | (simp at h; done) | (simp at h; first | (exfalso; omega) | skip) | skip) | refine za ?_ | refine zc (by omega) (by omega) ?_ | refine ⟨_, _, (by first | rfl | assumption), zf (by assumption), ?_⟩ | fail)
     all_goals first
      | exact ⟨i + 1, hlt, by omega, zJ [] rfl rfl trivial (by repeat' (first | exact trivial | exact rfl | refine And.intro ?_ ?_))⟩
      | (exfalso; omega)
 · repeat' (first | refine o1 ?_ | refine o2 ?_ | refine k1 ?_ | refine k2 ?_ | refine k3 ?_ | refine k7 ?_ | refine k8 ?_ | refine And.intro ?_ ?_ | (intro h; first | exact Bool.noConfusion h | exact nz _ h | exact nl h | (simp at h; done) | (simp at h; first | (exfalso; omega) | skip) | skip) | (change zx _ _ _ _; refine zd rfl trivial ?_) | refine za ?_ | fail)
   rfl
theorem zlC (M : Model) (hcl : M.classes.length ≤ 100000) (hl : ∀ l ∈ M.classes, l.length ≤ 100000) (hch : ∀ l ∈ M.classes, ∀ o ∈ l, o.charges.length ≤ 1000000) (hp : M.pairs.length ≤ 100000) (ht : ∀ p ∈ M.pairs, p.table.length ≤ 100000) (hn : M.counts.length ≤ 100000) (hld : ∀ c ∈ M.counts, c.loads.length ≤ 100000) : zH Tryz.prog 24 [ag M.cells, ag M.cells] (fun a => a = zo true) := by
 have hco : ∀ m ∈ M.classes, zH Tryz.prog 57 [.pv (.sl 6 (m.map Opt.row)), .pv (.sl 6 (m.map Opt.row))] (fun a => a = zo true) := fun m hm => zlD m (hl m hm) (hch m hm)
 obtain ⟨C, P2, N2, n2⟩ := M
 dsimp only at hco hcl hp ht hn hld
 refine zh tok mixed 171 rfl (fn := Tryz.f24) (c := Tryz.f24.body.getD .skip) (by kernel_rfl) (by kernel_rfl) (by kernel_rfl) rfl 0 rfl ?_
 repeat' (first | refine o1 ?_ | refine o2 ?_ | refine k1 ?_ | refine k2 ?_ | refine k3 ?_ | refine k4 ?_ | refine k6 ?_ | refine And.intro ?_ ?_ | (intro h; first | exact Bool.noConfusion h | exact nz _ h | exact nl h | (simp at h; done) | (simp at h; first | (exfalso; omega) | skip) | skip) | refine za ?_ | fail)
 all_goals try (exfalso; simp_all; done)
 refine ziR (fun i : Nat => [(5, zg .i64 i)]) (fun _ => [some ⟨29, 4, false, .box (pvs (Model.cells ⟨C, P2, N2, n2⟩))⟩, some ⟨29, 4, false, .box (pvs (Model.cells ⟨C, P2, N2, n2⟩))⟩]) (fun i => i ≤ C.length) (fun i => C.length - i) 0 (Nat.zero_le _) ⟨?_, ?_⟩
 · exact zJ [0, 1] rfl rfl ⟨rfl, rfl, trivial⟩ (by repeat' (first | exact trivial | exact rfl | refine And.intro ?_ ?_))
 intro i hi
 rcases Nat.lt_or_ge i C.length with hlt | hge
 · obtain ⟨q, hq⟩ := qj hlt
   have hcq := hco q (List.mem_of_getElem? hq)
   repeat' (first | refine o1 ?_ | refine o2 ?_ | refine k1 ?_ | refine k2 ?_ | refine k3 ?_ | refine k4 ?_ | refine k6 ?_ | refine And.intro ?_ ?_ | refine o3 ?_ | refine o4 ?_ | (intro h; first | exact Bool.noConfusion h | exact nz _ h | exact nl h | (simp at h; done) | (simp at h; first | (exfalso; omega) | skip) | skip) | exact (by kernel_rfl : zn _ _ = true) | refine za ?_ | refine zc (by omega) (by omega) ?_ | refine ⟨_, _, (by first | rfl | assumption), zf (by assumption), ?_⟩ | (change zI _ _ _ _ _; refine zF rfl (by repeat' (first | trivial | refine And.intro ?_ ?_ | (show 0 + _ ≤ List.length _; simp))) zW.refl (hcq) rfl ?_) | fail)
   all_goals first
    | exact ⟨i + 1, hlt, by omega, zJ [0, 1] rfl rfl ⟨rfl, rfl, trivial⟩ (by repeat' (first | exact trivial | exact rfl | refine And.intro ?_ ?_))⟩
 repeat' (first | refine o1 ?_ | refine o2 ?_ | refine k1 ?_ | refine k2 ?_ | refine k3 ?_ | refine k4 ?_ | refine k8 ?_ | refine And.intro ?_ ?_ | (intro h; first | exact Bool.noConfusion h | exact nz _ h | exact nl h | (simp at h; done) | (simp at h; first | (exfalso; omega) | skip) | skip) | refine za ?_ | fail)
 refine ziR (fun i : Nat => [(6, zg .i64 i)]) (fun _ => [some ⟨29, 4, false, .box (pvs (Model.cells ⟨C, P2, N2, n2⟩))⟩, some ⟨29, 4, false, .box (pvs (Model.cells ⟨C, P2, N2, n2⟩))⟩]) (fun i => i ≤ P2.length) (fun i => P2.length - i) 0 (Nat.zero_le _) ⟨?_, ?_⟩
 · exact zJ [0, 1] rfl rfl ⟨rfl, rfl, trivial⟩ (by repeat' (first | exact trivial | exact rfl | refine And.intro ?_ ?_))
 intro i hi
 rcases Nat.lt_or_ge i P2.length with hlt | hge
 · obtain ⟨q, hq⟩ := qj hlt
   have hcq := zlE q.table (ht q (List.mem_of_getElem? hq))
   repeat' (first | refine o1 ?_ | refine o2 ?_ | refine k1 ?_ | refine k2 ?_ | refine k3 ?_ | refine k4 ?_ | refine k6 ?_ | refine And.intro ?_ ?_ | refine o3 ?_ | refine o4 ?_ | (intro h; first | exact Bool.noConfusion h | exact nz _ h | exact nl h | (simp at h; done) | (simp at h; first | (exfalso; omega) | skip) | skip) | exact (by kernel_rfl : zn _ _ = true) | refine za ?_ | refine zc (by omega) (by omega) ?_ | refine ⟨_, _, (by first | rfl | assumption), zf (by assumption), ?_⟩ | (change zp _ _ _ _ _; refine zC rfl (by repeat' (first | trivial | refine And.intro ?_ ?_ | (show 0 + _ ≤ List.length _; simp))) zW.refl (hcq) rfl ?_) | fail)
   all_goals first
    | exact ⟨i + 1, hlt, by omega, zJ [0, 1] rfl rfl ⟨rfl, rfl, trivial⟩ (by repeat' (first | exact trivial | exact rfl | refine And.intro ?_ ?_))⟩
    | (exfalso; simp_all; done)
 repeat' (first | refine o1 ?_ | refine o2 ?_ | refine k1 ?_ | refine k2 ?_ | refine k3 ?_ | refine k4 ?_ | refine k8 ?_ | refine And.intro ?_ ?_ | (intro h; first | exact Bool.noConfusion h | exact nz _ h | exact nl h | (simp at h; done) | (simp at h; first | (exfalso; omega) | skip) | skip) | refine za ?_ | fail)
 refine ziR (fun i : Nat => [(9, zg .i64 i)]) (fun _ => [some ⟨29, 4, false, .box (pvs (Model.cells ⟨C, P2, N2, n2⟩))⟩, some ⟨29, 4, false, .box (pvs (Model.cells ⟨C, P2, N2, n2⟩))⟩]) (fun i => i ≤ N2.length) (fun i => N2.length - i) 0 (Nat.zero_le _) ⟨?_, ?_⟩
 · exact zJ [0, 1] rfl rfl ⟨rfl, rfl, trivial⟩ (by repeat' (first | exact trivial | exact rfl | refine And.intro ?_ ?_))
 intro i hi
 rcases Nat.lt_or_ge i N2.length with hlt | hge
 · obtain ⟨q, hq⟩ := qj hlt
   have hcq := hld q (List.mem_of_getElem? hq)
   repeat' (first | refine o1 ?_ | refine o2 ?_ | refine k1 ?_ | refine k2 ?_ | refine k3 ?_ | refine k4 ?_ | refine k6 ?_ | refine And.intro ?_ ?_ | refine o3 ?_ | refine o4 ?_ | (intro h; first | exact Bool.noConfusion h | exact nz _ h | exact nl h | (simp at h; done) | (simp at h; first | (exfalso; omega) | skip) | skip) | exact (by kernel_rfl : zn _ _ = true) | refine za ?_ | refine ⟨_, _, (by first | rfl | assumption), zf (by assumption), ?_⟩ | fail)
   all_goals try (exfalso; simp_all; done)
   refine ziR (fun k : Nat => [(12, zg .i64 k)]) (fun _ => [some ⟨29, 4, false, .box (pvs (Model.cells ⟨C, P2, N2, n2⟩))⟩, some ⟨29, 4, false, .box (pvs (Model.cells ⟨C, P2, N2, n2⟩))⟩, some ⟨78, 4, false, .box (pvs q.row)⟩, some ⟨78, 4, false, .box (pvs q.row)⟩]) (fun k => k ≤ q.loads.length) (fun k => q.loads.length - k) 0 (Nat.zero_le _) ⟨?_, ?_⟩
   · exact zJ [0, 1, 2, 3] rfl rfl ⟨rfl, rfl, rfl, rfl, trivial⟩ (by repeat' (first | exact trivial | exact rfl | refine And.intro ?_ ?_))
   intro k hk
   rcases Nat.lt_or_ge k q.loads.length with hlt2 | hge2
   · obtain ⟨x, hx⟩ := qj hlt2
     repeat' (first | refine o1 ?_ | refine o2 ?_ | refine k1 ?_ | refine k2 ?_ | refine k3 ?_ | refine k4 ?_ | refine k6 ?_ | refine And.intro ?_ ?_ | refine o3 ?_ | refine o4 ?_ | (intro h; first | exact Bool.noConfusion h | exact nz _ h | exact nl h | (simp at h; done) | (simp at h; first | (exfalso; omega) | skip) | skip) | exact (by kernel_rfl : zn _ _ = true) | refine za ?_ | refine zc (by omega) (by omega) ?_ | refine ⟨_, _, (by first | rfl | assumption), zf (by assumption), ?_⟩ | fail)
     all_goals first
      | exact ⟨k + 1, hlt2, by omega, zJ [0, 1, 2, 3] rfl rfl ⟨rfl, rfl, rfl, rfl, trivial⟩ (by repeat' (first | exact trivial | exact rfl | refine And.intro ?_ ?_))⟩
      | (exfalso; simp_all; done)
      | (exfalso; omega)
   · repeat' (first | refine o1 ?_ | refine o2 ?_ | refine k1 ?_ | refine k2 ?_ | refine k3 ?_ | refine k8 ?_ | refine And.intro ?_ ?_ | (intro h; first | exact Bool.noConfusion h | exact nz _ h | exact nl h | (simp at h; done) | (simp at h; first | (exfalso; omega) | skip) | skip) | refine za ?_ | refine zc (by omega) (by omega) ?_ | fail)
     all_goals first
      | exact ⟨i + 1, hlt, by omega, zJ [0, 1] rfl rfl ⟨rfl, rfl, trivial⟩ (by repeat' (first | exact trivial | exact rfl | refine And.intro ?_ ?_))⟩
      | (exfalso; omega)
 repeat' (first | refine o1 ?_ | refine o2 ?_ | refine k1 ?_ | refine k2 ?_ | refine k3 ?_ | refine k7 ?_ | refine k8 ?_ | refine And.intro ?_ ?_ | (intro h; first | exact Bool.noConfusion h | exact nz _ h | exact nl h | (simp at h; done) | (simp at h; first | (exfalso; omega) | skip) | skip) | (change zx _ _ _ _; refine zd rfl trivial ?_) | refine za ?_ | fail)
 rfl
end Go.Proofs.YtihpjcmloecaaaaGreat.Cw
namespace Go.Proofs.YtihpjcmloecaaaaGreat.Cw
open Go.Cw Go.Proofs
theorem z7 {d : Nat} {rn : List Nat} {id z : Nat} {rows : List (List PV)} {cs : List AV} : zae d rn (slP id z rows :: cs) = slP (rn.getD id d) z rows :: zae d rn cs := by simp [zae, zft]
theorem zV {d : Nat} {rn : List Nat} {id z : Nat} {rows : List (List PV)} {a b c : PV} : zae d rn [.pv a, slP id z rows, .pv b, .pv c] = [.pv a, slP (rn.getD id d) z rows, .pv b, .pv c] := by simp [zae, zft, xP]
theorem zcw {d : Nat} {rn : List Nat} {id z : Nat} {rows : List (List PV)} {a b c : PV} : zae d rn [.pv a, .pv b, slP id z rows, .pv c] = [.pv a, .pv b, slP (rn.getD id d) z rows, .pv c] := by simp [zae, zft, xP]
theorem qe {d : Nat} {rn : List Nat} {id z : Nat} {rows : List (List PV)} {a b c : PV} : zae d rn [.pv a, .pv b, .pv c, slP id z rows] = [.pv a, .pv b, .pv c, slP (rn.getD id d) z rows] := by simp [zae, zft, xP]
theorem zk7 {d : Nat} {rn : List Nat} {id z : Nat} {rows : List (List PV)} {a b c e f : PV} : zae d rn [.pv a, .pv b, .pv c, .pv e, .pv f, slP id z rows] = [.pv a, .pv b, .pv c, .pv e, .pv f, slP (rn.getD id d) z rows] := by simp [zae, zft, xP]
end Go.Proofs.YtihpjcmloecaaaaGreat.Cw
namespace Go.Proofs.YtihpjcmloecaaaaGreat.Cw
open Go.Cw Go.Proofs
set_option linter.unusedVariables false
set_option maxRecDepth 100000
def modI (a m : Int) : Int := if m < 1 then 0 else a % m
theorem tmod_mod {a m : Int} (h : 1 ≤ m) : (if a.tmod m < 0 then a.tmod m + m else a.tmod m) = a % m := by
 rw [Int.tmod_eq_emod]
 have h1 := Int.emod_nonneg a (show m ≠ 0 by omega)
 have h2 := Int.emod_lt_of_pos a (show 0 < m by omega)
 split
 · simp only [Int.ofNat_zero, Int.sub_zero]; rw [if_neg (by omega)]
 · rename_i h3
   have : (m.natAbs : Int) = m := by omega
   rw [this, if_pos (by omega)]; omega
theorem c_mod (a m : Int) (hm : m ≤ 9223372036854775807) : zH Tryz.prog 67 [zg .i64 a, zg .i64 m] (fun r => r = zg .i64 (modI a m)) := by
 refine zh tok mixed 16 rfl (fn := Tryz.f67) (c := Tryz.f67.body.getD .skip) (by kernel_rfl) (by kernel_rfl) (by kernel_rfl) rfl 0 rfl ?_
 repeat' (first | refine o1 ?_ | refine o2 ?_ | refine k1 ?_ | refine k2 ?_ | refine k3 ?_ | refine k6 ?_ | refine k7 ?_ | refine And.intro ?_ ?_ | (intro h; first | exact Bool.noConfusion h | exact nz _ h | exact nl h | (simp at h; done) | (simp at h; first | (exfalso; omega) | skip) | skip) | (change zx _ _ _ _; refine zd rfl trivial ?_) | fail)
 case' refine_2.refine_2 =>
  have ht := tmod_mod (a := a) (m := m) (by omega)
  have h1 := Int.emod_nonneg a (show m ≠ 0 by omega)
  have h2 := Int.emod_lt_of_pos a (show 0 < m by omega)
  refine zcG ?_
  generalize a.tmod m = q at *
  have hq : q < 0 → q + m = a % m := fun h => by rw [if_pos h] at ht; exact ht
  repeat' (first | refine o1 ?_ | refine o2 ?_ | refine k1 ?_ | refine k2 ?_ | refine k3 ?_ | refine k6 ?_ | refine k7 ?_ | refine And.intro ?_ ?_ | (intro h; first | exact Bool.noConfusion h | exact nz _ h | exact nl h | (simp at h; done) | (simp at h; first | (exfalso; omega) | skip) | skip) | (change zx _ _ _ _; refine zd rfl trivial ?_) | refine zc (by omega) (by omega) ?_ | fail)
 all_goals first
  | (exfalso; omega)
  | (refine congrArg (zg .i64) ?_; unfold modI; rw [if_neg (by omega)]; exact hq (by assumption))
  | (refine congrArg (zg .i64) ?_; unfold modI; rw [if_neg (by omega), ← ht, if_neg (by omega)])
  | (refine congrArg (zg .i64) ?_; unfold modI; rw [if_pos (by omega)])
def qd (t : List Int) (k : Nat) : Option AObj := some ⟨67, 2, false, .box [.pv (qV t), zg .i64 k]⟩
def zjT (t : List Int) (k : Nat) (n : Int) : Int := match t[k]? with
 | some x => modI x n
 | none => 0
def ziN (t : List Int) (k : Nat) : Nat := if k < t.length then k + 1 else k
theorem zgI (t : List Int) (k : Nat) {n : Int} (h : 1 ≤ n) : 0 ≤ zjT t k n ∧ zjT t k n < n := by
 unfold zjT
 split
 · unfold modI; rw [if_neg (by omega)]; exact ⟨Int.emod_nonneg _ (by omega), Int.emod_lt_of_pos _ (by omega)⟩
 · omega
theorem c_next (t : List Int) (k : Nat) (n : Int) (ht : t.length ≤ 400) (hk : k ≤ t.length) (hn : n ≤ 9223372036854775807) :
  qf Tryz.prog 31 [.ptr 0 2 0 0, zg .i64 n] [qd t k] (fun r H' => r = zg .i64 (zjT t k n) ∧ H' = [qd t (ziN t k)]) := by
 refine zh tok mixed 35 rfl (fn := Tryz.f31) (c := Tryz.f31.body.getD .skip) (by kernel_rfl) (by kernel_rfl) (by kernel_rfl) rfl 1 rfl ?_
 repeat' (first | refine o1 ?_ | refine o2 ?_ | refine k1 ?_ | refine k2 ?_ | refine k3 ?_ | refine k6 ?_ | refine k7 ?_ | refine And.intro ?_ ?_ | refine o3 ?_ | refine o4 ?_ | (intro h; first | exact Bool.noConfusion h | exact nz _ h | exact nl h | (simp at h; done) | (simp at h; first | (exfalso; omega) | skip) | skip) | exact (by kernel_rfl : zn _ _ = true) | refine za ?_ | refine zc (by omega) (by omega) ?_ | fail)
 case' refine_1 =>
  refine qC [0] [qd t (ziN t k)] rfl rfl ⟨(by rw [ziN, if_neg (by omega)]; rfl), trivial⟩ (r' := zg .i64 0) rfl ⟨?_, rfl⟩
  simp [zjT, List.getElem?_eq_none h]
 case' refine_2 =>
  obtain ⟨x, hx⟩ := qj h
  repeat' (first | refine o3 ?_ | refine zj (zf (by assumption)) (by omega) ?_ | fail)
  change zI _ _ _ _ _
  refine zF rfl (by repeat' (first | trivial)) zW.refl (c_mod x n hn) rfl ?_
  repeat' (first | refine k7 ?_ | refine And.intro ?_ ?_ | refine o3 ?_ | refine o4 ?_ | exact (by kernel_rfl : zn _ _ = true) | fail)
  refine qC [0] [qd t (ziN t k)] rfl rfl ⟨(by rw [ziN, if_pos h]; rfl), trivial⟩ (r' := zg .i64 (modI x n)) rfl ⟨?_, rfl⟩
  simp [zjT, hx]
theorem c_one (t : List Int) (k : Nat) (n : Int) (ht : t.length ≤ 400) (hk : k ≤ t.length) (hn : n ≤ 9223372036854775807) (hn1 : 1 ≤ n) :
  qf Tryz.prog 58 [.ptr 0 2 0 0, zg .i64 n] [qd t k] (fun r H' => r = zo (decide (zjT t k n = n - 1)) ∧ H' = [qd t (ziN t k)]) := by
 refine zh tok mixed 11 rfl (fn := Tryz.f58) (c := Tryz.f58.body.getD .skip) (by kernel_rfl) (by kernel_rfl) (by kernel_rfl) rfl 1 rfl ?_
 repeat' (first | refine o1 ?_ | refine o2 ?_ | refine k1 ?_ | refine k2 ?_ | fail)
 change zp _ _ _ _ _
 refine zaL [0] [qd t k] [.ptr 0 2 0 0, zg .i64 n] rfl ⟨rfl, trivial⟩ rfl (c_next t k n ht hk hn) ?_
 rintro r H' ⟨rfl, rfl⟩
 repeat' (first | refine o1 ?_ | refine o2 ?_ | refine k7 ?_ | refine And.intro ?_ ?_ | exact Nat.le_of_ble_eq_true rfl | refine zc (by omega) (by omega) ?_ | fail)
 refine qC [0] [qd t (ziN t k)] rfl rfl ⟨rfl, trivial⟩ (r' := zo (decide (zjT t k n = n - 1))) rfl ⟨rfl, rfl⟩
def Nxt (t : List Int) (k : Nat) (n v : Int) (k2 : Nat) : Prop := qf Tryz.prog 31 [.ptr 0 2 0 0, zg .i64 n] [qd t k] (fun r H' => r = zg .i64 v ∧ H' = [qd t k2])
theorem zmi {t : List Int} {k : Nat} (h : k ≤ t.length) : ziN t k ≤ t.length := by unfold ziN; split <;> omega
theorem ze7 (t : List Int) (k : Nat) (n : Int) (ht : t.length ≤ 400) (hk : k ≤ t.length) (hn : n ≤ 9223372036854775807) (h1 : 1 ≤ n) :
  ∃ v k2, 0 ≤ v ∧ v < n ∧ k2 ≤ t.length ∧ Nxt t k n v k2 :=
 ⟨_, _, (zgI t k h1).1, (zgI t k h1).2, zmi hk, c_next t k n ht hk hn⟩
def One (t : List Int) (k : Nat) (n : Int) (b : Bool) (k2 : Nat) : Prop := qf Tryz.prog 58 [.ptr 0 2 0 0, zg .i64 n] [qd t k] (fun r H' => r = zo b ∧ H' = [qd t k2])
theorem one_ex (t : List Int) (k : Nat) (n : Int) (ht : t.length ≤ 400) (hk : k ≤ t.length) (hn : n ≤ 9223372036854775807) (h1 : 1 ≤ n) :
  ∃ b k2, k2 ≤ t.length ∧ One t k n b k2 :=
 ⟨_, _, zmi hk, c_one t k n ht hk hn h1⟩
theorem c_roll (t : List Int) : qf Tryz.prog 12 [.pv (qV t)] [] (fun r H' => r = .ptr 0 2 0 0 ∧ H' = [qd t 0]) := by
 refine zh tok mixed 6 rfl (fn := Tryz.f12) (c := Tryz.f12.body.getD .skip) (by kernel_rfl) (by kernel_rfl) (by kernel_rfl) rfl 0 rfl ?_
 repeat' (first | refine o1 ?_ | refine o2 ?_ | refine k1 ?_ | refine k2 ?_ | refine k7 ?_ | fail)
 refine qC [0] [qd t 0] rfl rfl ⟨rfl, trivial⟩ (r' := .ptr 0 2 0 0) rfl ⟨rfl, rfl⟩
theorem c_light (t : List Int) : zH Tryz.prog 9 [.pv (qV t)] (fun r => r = zo (decide (t.length ≤ 400))) := by
 refine zh tok mixed 6 rfl (fn := Tryz.f9) (c := Tryz.f9.body.getD .skip) (by kernel_rfl) (by kernel_rfl) (by kernel_rfl) rfl 0 rfl ?_
 repeat' (first | refine o1 ?_ | refine o2 ?_ | refine k1 ?_ | refine k2 ?_ | refine k7 ?_ | (change zx _ _ _ _; refine zd rfl trivial ?_) | refine za ?_ | fail)
 refine congrArg zo ?_
 simp; omega
end Go.Proofs.YtihpjcmloecaaaaGreat.Cw
namespace Go.Proofs.YtihpjcmloecaaaaGreat.Cw
open Go.Cw Go.Proofs
set_option linter.unusedVariables false
set_option maxRecDepth 100000
section
variable {t : List Int} {k : Nat} {n : Int} {H : zt} (i : Nat)
theorem qi {K : AV → zt → Prop} (hi : H[i]? = some (qd t k)) (ht : t.length ≤ 400) (hk : k ≤ t.length) (h1 : 1 ≤ n) (hn : n ≤ 9223372036854775807)
  (hK : ∀ v k2, 0 ≤ v → v < n → k2 ≤ t.length → K (zg .i64 v) (H.set i (qd t k2))) : zp Tryz.prog 31 [.ptr i 2 0 0, zg .i64 n] H K := by
 obtain ⟨v, k2, a, b, c, hn⟩ := ze7 t k n ht hk hn h1
 refine qX (i := i) hi (fun _ _ => rfl) [.ptr 0 2 0 0, zg .i64 n] rfl hn ?_
 rintro r H' ⟨rfl, rfl⟩
 exact ⟨_, rfl, fun _ _ => rfl, fun _ _ => rfl, hK v k2 a b c⟩
theorem zaZ {K : AV → zt → Prop} (hi : H[i]? = some (qd t k)) (ht : t.length ≤ 400) (hk : k ≤ t.length) (h1 : 1 ≤ n) (hn : n ≤ 9223372036854775807)
  (hK : ∀ b k2, k2 ≤ t.length → K (zo b) (H.set i (qd t k2))) : zp Tryz.prog 58 [.ptr i 2 0 0, zg .i64 n] H K := by
 obtain ⟨v, k2, c, hn⟩ := one_ex t k n ht hk hn h1
 refine qX (i := i) hi (fun _ _ => rfl) [.ptr 0 2 0 0, zg .i64 n] rfl hn ?_
 rintro r H' ⟨rfl, rfl⟩
 exact ⟨_, rfl, fun _ _ => rfl, fun _ _ => rfl, hK v k2 c⟩
theorem qN {K : AV → Upd → List Nat → Prop} (hi : H[i]? = some (qd t k)) (ht : t.length ≤ 400) (hk : k ≤ t.length) (h1 : 1 ≤ n) (hn : n ≤ 9223372036854775807)
  (hK : ∀ v k2, 0 ≤ v → v < n → k2 ≤ t.length → K (zg .i64 v) [(i, qd t k2)] [i]) : zI Tryz.prog 31 [.ptr i 2 0 0, zg .i64 n] H K := by
 obtain ⟨v, k2, a, b, c, hn⟩ := ze7 t k n ht hk hn h1
 exact zhb (i := i) hi (fun _ _ => rfl) [.ptr 0 2 0 0, zg .i64 n] rfl hn (fun _ _ => rfl) (fun _ _ => rfl) (hK v k2 a b c)
theorem zcn {K : AV → Upd → List Nat → Prop} (hi : H[i]? = some (qd t k)) (ht : t.length ≤ 400) (hk : k ≤ t.length) (h1 : 1 ≤ n) (hn : n ≤ 9223372036854775807)
  (hK : ∀ b k2, k2 ≤ t.length → K (zo b) [(i, qd t k2)] [i]) : zI Tryz.prog 58 [.ptr i 2 0 0, zg .i64 n] H K := by
 obtain ⟨v, k2, c, hn⟩ := one_ex t k n ht hk hn h1
 exact zhb (i := i) hi (fun _ _ => rfl) [.ptr 0 2 0 0, zg .i64 n] rfl hn (fun _ _ => rfl) (fun _ _ => rfl) (hK v k2 c)
end
end Go.Proofs.YtihpjcmloecaaaaGreat.Cw
namespace Go.Proofs.YtihpjcmloecaaaaGreat.Cw
open Go.Cw Go.Proofs
set_option linter.unusedVariables false
set_option maxRecDepth 100000
set_option maxHeartbeats 1600000
def Cost (t : List Int) (k : Nat) (n : Int) (k2 : Nat) : Prop := qf Tryz.prog 72 [.ptr 0 2 0 0] [qd t k] (fun r H' => r = zg .i64 n ∧ H' = [qd t k2])
theorem zpg (t : List Int) (k : Nat) (ht : t.length ≤ 400) (hk : k ≤ t.length) : ∃ (n : Int) (k' : Nat), (n = 0 ∨ qF n) ∧ k' ≤ t.length ∧ Cost t k n k' := by
 obtain ⟨v, ka, h0, h1, h2, hn⟩ := ze7 t k 6 ht hk (by omega) (by omega)
 obtain ⟨w, kb, g0, g1, g2, gn⟩ := ze7 t ka 20 ht h2 (by omega) (by omega)
 have call1 : ∀ {H : zt} {K : AV → zt → Prop}, H[0]? = some (qd t k) → K (zg .i64 v) (H.set 0 (qd t ka)) → zp Tryz.prog 31 [.ptr 0 2 0 0, zg .i64 6] H K := fun hi hK => by
  refine qX (i := 0) hi (fun _ _ => rfl) [.ptr 0 2 0 0, zg .i64 6] rfl hn ?_
  rintro r H' ⟨rfl, rfl⟩
  exact ⟨_, rfl, fun _ _ => rfl, fun _ _ => rfl, hK⟩
 have call2 : ∀ {H : zt} {K : AV → zt → Prop}, H[0]? = some (qd t ka) → K (zg .i64 w) (H.set 0 (qd t kb)) → zp Tryz.prog 31 [.ptr 0 2 0 0, zg .i64 20] H K := fun hi hK => by
  refine qX (i := 0) hi (fun _ _ => rfl) [.ptr 0 2 0 0, zg .i64 20] rfl gn ?_
  rintro r H' ⟨rfl, rfl⟩
  exact ⟨_, rfl, fun _ _ => rfl, fun _ _ => rfl, hK⟩
 by_cases c1 : v ≤ 2
 · refine ⟨0, ka, .inl rfl, h2, ?_⟩
   unfold Cost
   refine zh tok mixed 14 rfl (fn := Tryz.f72) (c := Tryz.f72.body.getD .skip) (by kernel_rfl) (by kernel_rfl) (by kernel_rfl) rfl 1 rfl ?_
   repeat' (first | ((change zp _ _ _ _ _; refine call1 rfl ?_)) | refine o1 ?_ | refine o2 ?_ | refine k1 ?_ | refine k2 ?_ | refine k3 ?_ | refine k4 ?_ | refine k6 ?_ | refine k7 ?_ | refine And.intro ?_ ?_ | (intro h; first | exact Bool.noConfusion h | exact nz _ h | exact nl h | (simp at h; done) | (simp at h; first | (exfalso; omega) | skip) | skip) | fail)
   all_goals first
    | (exfalso; omega)
    | exact qC [0] [qd t ka] rfl rfl ⟨rfl, trivial⟩ (r' := zg .i64 0) rfl ⟨rfl, rfl⟩
 by_cases c2 : v = 3
 · refine ⟨1099511627776, ka, .inr (.inr rfl), h2, ?_⟩
   unfold Cost
   refine zh tok mixed 14 rfl (fn := Tryz.f72) (c := Tryz.f72.body.getD .skip) (by kernel_rfl) (by kernel_rfl) (by kernel_rfl) rfl 1 rfl ?_
   repeat' (first | ((change zp _ _ _ _ _; refine call1 rfl ?_)) | refine o1 ?_ | refine o2 ?_ | refine k1 ?_ | refine k2 ?_ | refine k3 ?_ | refine k4 ?_ | refine k7 ?_ | refine And.intro ?_ ?_ | (intro h; first | exact Bool.noConfusion h | exact nz _ h | exact nl h | (simp at h; done) | (simp at h; first | (exfalso; omega) | skip) | skip) | fail)
   all_goals first
    | (exfalso; omega)
    | exact qC [0] [qd t ka] rfl rfl ⟨rfl, trivial⟩ (r' := zg .i64 1099511627776) rfl ⟨rfl, rfl⟩
 · refine ⟨1 + w, kb, .inr (.inl (by omega)), g2, ?_⟩
   unfold Cost
   refine zh tok mixed 14 rfl (fn := Tryz.f72) (c := Tryz.f72.body.getD .skip) (by kernel_rfl) (by kernel_rfl) (by kernel_rfl) rfl 1 rfl ?_
   repeat' (first | ((change zp _ _ _ _ _; refine call1 rfl ?_)) | ((change zp _ _ _ _ _; refine call2 rfl ?_)) | refine o1 ?_ | refine o2 ?_ | refine k1 ?_ | refine k2 ?_ | refine k3 ?_ | refine k4 ?_ | refine k6 ?_ | refine k7 ?_ | refine And.intro ?_ ?_ | (intro h; first | exact Bool.noConfusion h | exact nz _ h | exact nl h | (simp at h; done) | (simp at h; first | (exfalso; omega) | skip) | skip) | refine zc (by omega) (by omega) ?_ | fail)
   all_goals first
    | (exfalso; omega)
    | exact qC [0] [qd t kb] rfl rfl ⟨rfl, trivial⟩ (r' := zg .i64 (1 + w)) rfl ⟨rfl, rfl⟩
theorem zku {t : List Int} {k : Nat} {H : zt} {K : AV → zt → Prop} (i : Nat) (hi : H[i]? = some (qd t k)) (ht : t.length ≤ 400) (hk : k ≤ t.length)
  (hK : ∀ n k2, (n = 0 ∨ qF n) → k2 ≤ t.length → K (zg .i64 n) (H.set i (qd t k2))) : zp Tryz.prog 72 [.ptr i 2 0 0] H K := by
 obtain ⟨n, k', h1, h2, hc⟩ := zpg t k ht hk
 refine qX (i := i) hi (fun _ _ => rfl) [.ptr 0 2 0 0] rfl hc ?_
 rintro r H' ⟨rfl, rfl⟩
 exact ⟨_, rfl, fun _ _ => rfl, fun _ _ => rfl, hK n k' h1 h2⟩
theorem znN {t : List Int} {k : Nat} {H : zt} {K : AV → Upd → List Nat → Prop} (i : Nat) (hi : H[i]? = some (qd t k)) (ht : t.length ≤ 400) (hk : k ≤ t.length)
  (hK : ∀ n k2, (n = 0 ∨ qF n) → k2 ≤ t.length → K (zg .i64 n) [(i, qd t k2)] [i]) : zI Tryz.prog 72 [.ptr i 2 0 0] H K := by
 obtain ⟨n, k', h1, h2, hc⟩ := zpg t k ht hk
 exact zhb (i := i) hi (fun _ _ => rfl) [.ptr 0 2 0 0] rfl hc (fun _ _ => rfl) (fun _ _ => rfl) (hK n k' h1 h2)
def mr (r : Int) : Model := ⟨[], [], [], r⟩
structure ChQ (r : Int) (u : Nat) (l : List Charge) : Prop where
 at_ : ∀ i, i < l.length → zcK (mr r) l i
 lt : ∀ c ∈ l, c.rule < u
 len : l.length ≤ u
theorem ChQ.nil {r : Int} : ChQ r 0 [] := ⟨fun i h => absurd h (Nat.not_lt_zero _), fun c h => absurd h (List.not_mem_nil), Nat.le_refl _⟩
theorem ChQ.skip {r : Int} {u : Nat} {l : List Charge} (h : ChQ r u l) : ChQ r (u + 1) l := ⟨h.at_, fun c hc => by have := h.lt c hc; omega, by have := h.len; omega⟩
theorem ChQ.app {r n : Int} {u : Nat} {l : List Charge} (h : ChQ r u l) (hu : (u : Int) < r) (hn : qF n) : ChQ r (u + 1) (l ++ [⟨u, n⟩]) := by
 refine ⟨fun i hi c hc => ?_, fun c hc => ?_, by have := h.len; simp; omega⟩
 · simp only [List.length_append, List.length_cons, List.length_nil] at hi
   rcases Nat.lt_or_ge i l.length with h1 | h1
   · rw [List.getElem?_append_left h1] at hc
     obtain ⟨a, b, d⟩ := h.at_ i h1 c hc
     exact ⟨a, b, fun k e hk he => d k e hk (by rw [List.getElem?_append_left (by omega)] at he; exact he)⟩
   · obtain rfl : i = l.length := by omega
     rw [List.getElem?_append_right (Nat.le_refl _)] at hc
     simp at hc; subst hc
     refine ⟨⟨by show (0 : Int) ≤ u; omega, hu⟩, hn, fun k e hk he => ?_⟩
     rw [List.getElem?_append_left (by omega)] at he
     exact h.lt e (List.mem_of_getElem? he)
 · rcases List.mem_append.1 hc with h1 | h1
   · have := h.lt c h1; omega
   · simp at h1; subst h1; show (u : Int) < (u + 1 : Nat); omega
def OptQ (r : Int) (o : Opt) : Prop := xI (mr r) o ∧ o.charges.length ≤ 4
def ClsQ (r : Int) (l : List Opt) : Prop := 1 ≤ l.length ∧ l.length ≤ 4 ∧ ∀ o ∈ l, OptQ r o
def ql : Option AObj := some ⟨29, 4, false, .box [qr, qr, qr, zg .i64 0]⟩
def mb (c p n : AV) (r : Int) : Option AObj := some ⟨29, 4, false, .box [c, p, n, zg .i64 r]⟩
def ob5 (w d s l rm : Int) (c : AV) : Option AObj := some ⟨62, 6, false, .box [zg .i64 w, zg .i64 d, zg .i64 s, zg .i64 l, zg .i64 rm, c]⟩
theorem zb1 {α : Type} {p : α → Prop} {l : List α} {x : α} (h : ∀ y ∈ l, p y) (hx : p x) : ∀ y ∈ l ++ [x], p y := fun y hy => by
 rcases List.mem_append.1 hy with h1 | h1
 · exact h y h1
 · simp at h1; subst h1; exact hx
def PB (l : List Pair) (u i k : Nat) : Prop := ∀ p ∈ l, p.rule < u ∨ (p.rule = u ∧ (p.first < i ∨ (p.first = i ∧ p.second < k)))
structure PrQ (cls : List (List Opt)) (r : Int) (l : List Pair) (u i k : Nat) : Prop where
 at_ : ∀ j, j < l.length → zcb ⟨cls, l, [], r⟩ j
 lt : PB l u i k
 len : l.length ≤ u * 25 + i * 5 + k
theorem PrQ.nil {cls : List (List Opt)} {r : Int} : PrQ cls r [] 0 0 0 := ⟨fun i h => absurd h (Nat.not_lt_zero _), fun c h => absurd h (List.not_mem_nil), Nat.le_refl _⟩
section
variable {cls : List (List Opt)} {r : Int} {l : List Pair} {u i k : Nat}
theorem PrQ.toK (h : PrQ cls r l u i 0) : PrQ cls r l u i (i + 1) := ⟨h.at_, fun p hp => by have := h.lt p hp; omega, by have := h.len; omega⟩
theorem PrQ.skip (h : PrQ cls r l u i k) : PrQ cls r l u i (k + 1) := ⟨h.at_, fun p hp => by have := h.lt p hp; omega, by have := h.len; omega⟩
theorem PrQ.toI (h : PrQ cls r l u i k) (hk : k ≤ 5) : PrQ cls r l u (i + 1) 0 := ⟨h.at_, fun p hp => by have := h.lt p hp; omega, by have := h.len; omega⟩
theorem PrQ.toU (h : PrQ cls r l u i 0) (hi : i ≤ 5) : PrQ cls r l (u + 1) 0 0 := ⟨h.at_, fun p hp => by have := h.lt p hp; omega, by have := h.len; omega⟩
theorem PrQ.app (h : PrQ cls r l u i k) {t : List Int} (hp : zhv ⟨cls, [], [], r⟩ ⟨i, k, u, t⟩) : PrQ cls r (l ++ [⟨i, k, u, t⟩]) u i (k + 1) := by
 refine ⟨fun j hj p hjp => ?_, fun p hm => ?_, by have := h.len; simp; omega⟩
 · dsimp only at hjp
   simp only [List.length_append, List.length_cons, List.length_nil] at hj
   rcases Nat.lt_or_ge j l.length with h1 | h1
   · rw [List.getElem?_append_left h1] at hjp
     obtain ⟨a, d⟩ := h.at_ j h1 p hjp
     exact ⟨a, fun k e hk he => d k e hk (by dsimp only at he ⊢; rw [List.getElem?_append_left (by omega)] at he; exact he)⟩
   · obtain rfl : j = l.length := by omega
     rw [List.getElem?_append_right (Nat.le_refl _)] at hjp
     simp at hjp; subst hjp
     refine ⟨hp, fun k' e hk he => ?_⟩
     dsimp only at he
     rw [List.getElem?_append_left (by omega)] at he
     have := h.lt e (List.mem_of_getElem? he)
     unfold zgD; dsimp only; omega
 · rcases List.mem_append.1 hm with h1 | h1
   · have := h.lt p h1; omega
   · simp at h1; subst h1; dsimp only; omega
end
def pb4 (a b c : Int) (t : AV) : Option AObj := some ⟨72, 4, false, .box [zg .i64 a, zg .i64 b, zg .i64 c, t]⟩
theorem zgC {cls : List (List Opt)} {r : Int} {u i k : Nat} {a b : List Opt} {t : List Int} (ha : cls[i]? = some a) (hb : cls[k]? = some b) (hik : i < k) (hu : (u : Int) < r) (ht : t.length = a.length * b.length) (h : ∀ x ∈ t, x = 0 ∨ qF x) : zhv ⟨cls, [], [], r⟩ ⟨i, k, u, t⟩ := by
 refine ⟨⟨by show (0 : Int) ≤ u; omega, hu⟩, by show (0 : Int) ≤ i; omega, by show (i : Int) < k; omega, ⟨a, b, ?_, ?_, ht⟩, h⟩
 · show cls[((i : Nat) : Int).toNat]? = _; rw [Int.toNat_natCast]; exact ha
 · show cls[((k : Nat) : Int).toNat]? = _; rw [Int.toNat_natCast]; exact hb
structure LoQ (cls : List (List Opt)) (l : List Load) (i j : Nat) : Prop where
 at_ : ∀ n, n < l.length → loadAt ⟨cls, [], [], 0⟩ l n
 lt : ∀ x ∈ l, x.cls < i ∨ (x.cls = i ∧ x.opt < j)
 len : l.length ≤ i * 4 + j
theorem LoQ.nil {cls : List (List Opt)} : LoQ cls [] 0 0 := ⟨fun i h => absurd h (Nat.not_lt_zero _), fun c h => absurd h (List.not_mem_nil), Nat.le_refl _⟩
section
variable {cls : List (List Opt)} {l : List Load} {i j : Nat}
theorem LoQ.skip (h : LoQ cls l i j) : LoQ cls l i (j + 1) := ⟨h.at_, fun p hp => by have := h.lt p hp; omega, by have := h.len; omega⟩
theorem LoQ.toI (h : LoQ cls l i j) (hj : j ≤ 4) : LoQ cls l (i + 1) 0 := ⟨h.at_, fun p hp => by have := h.lt p hp; omega, by have := h.len; omega⟩
theorem LoQ.app (h : LoQ cls l i j) {la : List Opt} {w : Int} (ha : cls[i]? = some la) (hj : j < la.length) (h1 : 1 ≤ w) (h2 : w ≤ 1000) : LoQ cls (l ++ [⟨i, j, w⟩]) i (j + 1) := by
 refine ⟨fun n hn x hx => ?_, fun x hm => ?_, by have := h.len; simp; omega⟩
 · simp only [List.length_append, List.length_cons, List.length_nil] at hn
   rcases Nat.lt_or_ge n l.length with g1 | g1
   · rw [List.getElem?_append_left g1] at hx
     obtain ⟨a, b, c, d⟩ := h.at_ n g1 x hx
     exact ⟨a, b, c, fun k e hk he => d k e hk (by rw [List.getElem?_append_left (by omega)] at he; exact he)⟩
   · obtain rfl : n = l.length := by omega
     rw [List.getElem?_append_right (Nat.le_refl _)] at hx
     simp at hx; subst hx
     refine ⟨⟨by dsimp only; omega, by dsimp only; omega, la, ?_, by dsimp only; omega⟩, h1, h2, fun k e hk he => ?_⟩
     · show cls[((i : Nat) : Int).toNat]? = _; rw [Int.toNat_natCast]; exact ha
     · rw [List.getElem?_append_left (by omega)] at he
       exact h.lt e (List.mem_of_getElem? he)
 · rcases List.mem_append.1 hm with g1 | g1
   · have := h.lt x g1; omega
   · simp at g1; subst g1; dsimp only; omega
end
theorem pen_ok {n : Int} (h : n = 0 ∨ qF n) : qF (bif true then (if n > 1 then n else 1) else (if n < 1 then n else 1)) := by
 dsimp only [cond]
 unfold qF at *
 split <;> omega
def CtQ (cls : List (List Opt)) (r : Int) (c : Count) : Prop := zds ⟨cls, [], [], r⟩ c ∧ c.loads.length ≤ 1000
def cb4 (a : Int) (l : AV) (m p : Int) : Option AObj := some ⟨78, 4, false, .box [zg .i64 a, l, zg .i64 m, zg .i64 p]⟩
structure Made (m : Model) : Prop where
 ok : qx m = 0
 laid : Laid m
 some_ : ∀ l ∈ m.classes, 1 ≤ l.length ∧ l.length ≤ 4
 few : m.classes.length ≤ 5
theorem made_of {cls : List (List Opt)} {prs : List Pair} {cts : List Count} {r : Int} (h1 : cls.length ≤ 5) (h2 : ∀ l ∈ cls, ClsQ r l) (h3 : ∀ j, j < prs.length → zcb ⟨cls, prs, [], r⟩ j) (h4 : prs.length ≤ 200) (h5 : cts.length ≤ 2) (h6 : ∀ c ∈ cts, CtQ cls r c) (r1 : 1 ≤ r) (r2 : r ≤ 4) : Made ⟨cls, prs, cts, r⟩ := by
 have hz : qJ ⟨cls, prs, cts, r⟩ := ⟨by dsimp only; omega, fun l hl => by have := (h2 l hl).2.1; omega, by dsimp only; omega, by dsimp only; omega, by dsimp only; omega, by dsimp only; omega⟩
 refine ⟨mE0 hz ⟨fun l hl o ho => ((h2 l hl).2.2 o ho).1, h3, fun c hc => (h6 c hc).1⟩, ⟨by dsimp only; omega, by dsimp only; omega, fun l hl o ho => by have := ((h2 l hl).2.2 o ho).2; omega, fun c hc => by have := (h6 c hc).2; omega⟩, fun l hl => ⟨(h2 l hl).1, (h2 l hl).2.1⟩, h1⟩
def cFst : Code → Code
 | .seq a _ => a
 | c => c
def cSnd : Code → Code
 | .seq _ b => b
 | c => c
noncomputable def codeM : Code := Tryz.f32.body.getD .skip
noncomputable def codeB : Code := cFst (cSnd (cSnd codeM))
noncomputable def codeC : Code := cFst (cSnd (cSnd (cSnd codeM)))
noncomputable def codeD : Code := cFst (cSnd (cSnd (cSnd (cSnd codeM))))
end Go.Proofs.YtihpjcmloecaaaaGreat.Cw
namespace Go.Proofs.YtihpjcmloecaaaaGreat.Cw
open Go Go.Cw Go.Proofs
set_option linter.unusedVariables false
set_option maxRecDepth 100000
set_option maxHeartbeats 8000000
def zp9 (t : List Int) (k : Nat) (n : Int) (k2 : Nat) : Prop := qf Tryz.prog 59 [.ptr 0 2 0 0] [qd t k] (fun r H' => r = zg .i64 n ∧ H' = [qd t k2])
theorem zbc (t : List Int) (k : Nat) (ht : t.length ≤ 400) (hk : k ≤ t.length) : ∃ (n : Int) (k' : Nat), (n = 0 ∨ qF n) ∧ k' ≤ t.length ∧ zp9 t k n k' := by
 obtain ⟨v, ka, h0, h1, h2, hn⟩ := ze7 t k 5 ht hk (by omega) (by omega)
 obtain ⟨w, kb, g0, g1, g2, gn⟩ := ze7 t ka 30 ht h2 (by omega) (by omega)
 have call1 : ∀ {H : zt} {K : AV → zt → Prop}, H[0]? = some (qd t k) → K (zg .i64 v) (H.set 0 (qd t ka)) → zp Tryz.prog 31 [.ptr 0 2 0 0, zg .i64 5] H K := fun hi hK => by
  refine qX (i := 0) hi (fun _ _ => rfl) [.ptr 0 2 0 0, zg .i64 5] rfl hn ?_
  rintro r H' ⟨rfl, rfl⟩
  exact ⟨_, rfl, fun _ _ => rfl, fun _ _ => rfl, hK⟩
 have call2 : ∀ {H : zt} {K : AV → zt → Prop}, H[0]? = some (qd t ka) → K (zg .i64 w) (H.set 0 (qd t kb)) → zp Tryz.prog 31 [.ptr 0 2 0 0, zg .i64 30] H K := fun hi hK => by
  refine qX (i := 0) hi (fun _ _ => rfl) [.ptr 0 2 0 0, zg .i64 30] rfl gn ?_
  rintro r H' ⟨rfl, rfl⟩
  exact ⟨_, rfl, fun _ _ => rfl, fun _ _ => rfl, hK⟩
 by_cases c1 : v = 0
 · refine ⟨1099511627776, ka, .inr (.inr rfl), h2, ?_⟩
   unfold zp9
   refine zh tok mixed 13 rfl (fn := Tryz.f59) (c := Tryz.f59.body.getD .skip) (by kernel_rfl) (by kernel_rfl) (by kernel_rfl) rfl 1 rfl ?_
   repeat' (first | ((change zp _ _ _ _ _; refine call1 rfl ?_)) | refine o1 ?_ | refine o2 ?_ | refine k1 ?_ | refine k2 ?_ | refine k3 ?_ | refine k4 ?_ | refine k7 ?_ | refine And.intro ?_ ?_ | (intro h; first | exact Bool.noConfusion h | exact nz _ h | exact nl h | (simp at h; done) | (simp at h; first | (exfalso; omega) | skip) | skip) | fail)
   all_goals first
    | (exfalso; omega)
    | exact qC [0] [qd t ka] rfl rfl ⟨rfl, trivial⟩ (r' := zg .i64 1099511627776) rfl ⟨rfl, rfl⟩
 by_cases c2 : v = 1 ∨ v = 2
 · refine ⟨1 + w, kb, .inr (.inl (by omega)), g2, ?_⟩
   unfold zp9
   refine zh tok mixed 13 rfl (fn := Tryz.f59) (c := Tryz.f59.body.getD .skip) (by kernel_rfl) (by kernel_rfl) (by kernel_rfl) rfl 1 rfl ?_
   repeat' (first | ((change zp _ _ _ _ _; refine call1 rfl ?_)) | ((change zp _ _ _ _ _; refine call2 rfl ?_)) | refine o1 ?_ | refine o2 ?_ | refine k1 ?_ | refine k2 ?_ | refine k3 ?_ | refine k4 ?_ | refine k6 ?_ | refine k7 ?_ | refine And.intro ?_ ?_ | (intro h; first | exact Bool.noConfusion h | exact nz _ h | exact nl h | (simp at h; done) | (simp at h; first | (exfalso; omega) | skip) | skip) | refine zc (by omega) (by omega) ?_ | fail)
   all_goals first
    | (exfalso; omega)
    | exact qC [0] [qd t kb] rfl rfl ⟨rfl, trivial⟩ (r' := zg .i64 (1 + w)) rfl ⟨rfl, rfl⟩
 · refine ⟨0, ka, .inl rfl, h2, ?_⟩
   unfold zp9
   refine zh tok mixed 13 rfl (fn := Tryz.f59) (c := Tryz.f59.body.getD .skip) (by kernel_rfl) (by kernel_rfl) (by kernel_rfl) rfl 1 rfl ?_
   repeat' (first | ((change zp _ _ _ _ _; refine call1 rfl ?_)) | refine o1 ?_ | refine o2 ?_ | refine k1 ?_ | refine k2 ?_ | refine k3 ?_ | refine k4 ?_ | refine k6 ?_ | refine k7 ?_ | refine And.intro ?_ ?_ | (intro h; first | exact Bool.noConfusion h | exact nz _ h | exact nl h | (simp at h; done) | (simp at h; first | (exfalso; omega) | skip) | skip) | fail)
   all_goals first
    | (exfalso; omega)
    | exact qC [0] [qd t ka] rfl rfl ⟨rfl, trivial⟩ (r' := zg .i64 0) rfl ⟨rfl, rfl⟩
theorem zie {t : List Int} {k : Nat} {H : zt} {K : AV → zt → Prop} (i : Nat) (hi : H[i]? = some (qd t k)) (ht : t.length ≤ 400) (hk : k ≤ t.length)
  (hK : ∀ n k2, (n = 0 ∨ qF n) → k2 ≤ t.length → K (zg .i64 n) (H.set i (qd t k2))) : zp Tryz.prog 59 [.ptr i 2 0 0] H K := by
 obtain ⟨n, k', h1, h2, hc⟩ := zbc t k ht hk
 refine qX (i := i) hi (fun _ _ => rfl) [.ptr 0 2 0 0] rfl hc ?_
 rintro r H' ⟨rfl, rfl⟩
 exact ⟨_, rfl, fun _ _ => rfl, fun _ _ => rfl, hK n k' h1 h2⟩
end Go.Proofs.YtihpjcmloecaaaaGreat.Cw
namespace Go.Proofs.YtihpjcmloecaaaaGreat.Cw
open Go Go.Cw Go.Proofs
set_option linter.unusedVariables false
set_option maxRecDepth 100000
set_option maxHeartbeats 8000000
theorem zdw {t : List Int} {k k2 : Nat} {n : Int} {H : zt} {K : AV → zt → Prop} (h : zp9 t k n k2) (hi : H[0]? = some (qd t k)) (hK : K (zg .i64 n) (H.set 0 (qd t k2))) : zp Tryz.prog 59 [.ptr 0 2 0 0] H K := by
 refine qX (i := 0) hi (fun _ _ => rfl) [.ptr 0 2 0 0] rfl h ?_
 rintro r H' ⟨rfl, rfl⟩
 exact ⟨_, rfl, fun _ _ => rfl, fun _ _ => rfl, hK⟩
theorem zmT {l : List Opt} (h : ∀ o ∈ l, o.place.time.day = 0 ∨ o.place.time.day = 1) {u : Nat} {o : Opt} (ho : l[u]? = some o) : o.place.time.day = 0 ∨ o.place.time.day = 1 := h o (List.mem_of_getElem? ho)
def evE (a1 a2 a3 a4 : Int) (o q : Opt) : Int :=
 if o.place.room = q.place.room ∧ 0 ≤ o.place.room then (if o.place.time.day = 0 then (if q.place.time.day = 0 then 1099511627776 else a1) else (if q.place.time.day = 0 then a2 else 1099511627776))
 else (if o.place.time.day = 0 then (if q.place.time.day = 0 then a3 else 0) else (if q.place.time.day = 0 then a4 else 0))
def evT (E : Opt → Opt → Int) (x y : List Opt) : List Int := x.flatMap fun o => y.map (E o)
theorem zgX {E : Opt → Opt → Int} {y : List Opt} : ∀ x : List Opt, (evT E x y).length = x.length * y.length
 | [] => by simp [evT]
 | o :: x => by
   have := zgX (E := E) (y := y) x
   unfold evT at *
   rw [List.flatMap_cons, List.length_append, this, List.length_map, List.length_cons, Nat.add_mul]; omega
theorem zmL {E : Opt → Opt → Int} {x y : List Opt} {u : Nat} {o : Opt} (h : x[u]? = some o) : evT E (x.take (u + 1)) y = evT E (x.take u) y ++ y.map (E o) := by
 unfold evT; rw [xS h, List.flatMap_append]; simp
theorem evT_ok {a1 a2 a3 a4 : Int} {x y : List Opt} (p1 : a1 = 0 ∨ qF a1) (p2 : a2 = 0 ∨ qF a2) (p3 : a3 = 0 ∨ qF a3) (p4 : a4 = 0 ∨ qF a4) : ∀ n ∈ evT (evE a1 a2 a3 a4) x y, n = 0 ∨ qF n := fun n hn => by
 obtain ⟨o, _, ho⟩ := List.mem_flatMap.1 hn
 obtain ⟨q, _, rfl⟩ := List.mem_map.1 ho
 have pf : (1099511627776 : Int) = 0 ∨ qF 1099511627776 := .inr (.inr rfl)
 unfold evE
 repeat' split
 all_goals first | assumption | exact .inl rfl
theorem zlI (t : List Int) (k : Nat) (ht : t.length ≤ 400) (hk : k ≤ t.length) (C : List (List Opt))  (i j : Nat) (x y : List Opt) (hx : C[i]? = some x) (hy : C[j]? = some y) (hxl : x.length ≤ 7) (hyl : y.length ≤ 7)
  (hdx : ∀ o ∈ x, o.place.time.day = 0 ∨ o.place.time.day = 1) (hdy : ∀ o ∈ y, o.place.time.day = 0 ∨ o.place.time.day = 1) :
  ∃ (TT : List Int) (k' : Nat), k' ≤ t.length ∧ TT.length = x.length * y.length ∧ (∀ n ∈ TT, n = 0 ∨ qF n) ∧ qf Tryz.prog 60 [.ptr 0 2 0 0, .agg [.pv (.sl 1 (C.map zA)), qr, qr, zg .i64 2], zg .i64 i, zg .i64 j] [qd t k]
   (fun r H' => r = ag (Pair.row ⟨i, j, 1, TT⟩) ∧ H' = [qd t k']) := by
 obtain ⟨a1, ka, p1, p2, g1⟩ := zbc t k ht hk
 obtain ⟨a2, kb, p3, p4, g2⟩ := zbc t ka ht p2
 obtain ⟨a3, kc, p5, p6, g3⟩ := zbc t kb ht p4
 obtain ⟨a4, kd, p7, p8, g4⟩ := zbc t kc ht p6
 have hxy : x.length * y.length ≤ 49 := Nat.mul_le_mul hxl hyl
 refine ⟨evT (evE a1 a2 a3 a4) x y, kd, p8, zgX x, evT_ok p1 p3 p5 p7, ?_⟩
 have hTl : ∀ u, u ≤ x.length → (evT (evE a1 a2 a3 a4) (x.take u) y).length = u * y.length := fun u hu => by rw [zgX, List.length_take, Nat.min_eq_left hu]
 generalize hE : evE a1 a2 a3 a4 = E at *
 refine zh tok mixed 103 rfl (fn := Tryz.f60) (c := Tryz.f60.body.getD .skip) (by kernel_rfl) (by kernel_rfl) (by kernel_rfl) rfl 1 rfl ?_
 repeat' (first | ((change zp _ _ _ _ _; refine zdw g1 rfl ?_)) | ((change zp _ _ _ _ _; refine zdw g2 rfl ?_)) | ((change zp _ _ _ _ _; refine zdw g3 rfl ?_)) | ((change zp _ _ _ _ _; refine zdw g4 rfl ?_)) | refine o1 ?_ | refine o2 ?_ | refine k1 ?_ | refine k2 ?_ | refine k4 ?_ | refine And.intro ?_ ?_ | exact (by kernel_rfl : zn _ _ = true) | fail)
 refine zB (fun u : Nat => [(2, zg .i64 i), (3, zg .i64 j), (5, .ptr 1 4 0 0), (8, .ptr 2 4 0 0), (9, .ptr 3 4 0 0), (10, .ptr 4 4 0 0), (11, .ptr 5 4 0 0), (12, zg .i64 u)])
  (fun u => [qd t kd, some ⟨29, 4, false, .box [.pv (.sl 1 (C.map zA)), qr, qr, zg .i64 2]⟩, some ⟨72, 4, false, .box [zg .i64 0, zg .i64 0, zg .i64 0, qr]⟩, some ⟨72, 4, false, .box [zg .i64 i, zg .i64 j, zg .i64 1, slP 6 1 ((evT E (x.take u) y).map zr)]⟩, some ⟨136, 4, false, .box [zg .i64 1099511627776, zg .i64 a1, zg .i64 a2, zg .i64 1099511627776]⟩, some ⟨136, 4, false, .box [zg .i64 a3, zg .i64 0, zg .i64 a4, zg .i64 0]⟩, obP 3 1 ((evT E (x.take u) y).map zr)])
  (fun u => u ≤ x.length) (fun u => x.length - u) 0 (Nat.zero_le _) ?_ ?_
 · exact zJ [0, 1, 2, 3, 4, 5, 6] rfl rfl (by repeat' (first | exact trivial | exact rfl | refine zl qe rfl ?_ | refine And.intro ?_ ?_)) (by repeat' (first | exact trivial | exact rfl | refine And.intro ?_ ?_))
 intro u hu
 have hTB := hTl u hu
 rcases Nat.lt_or_ge u x.length with hul | hug
 · obtain ⟨o, ho⟩ := qj hul
   have hdo := zmT hdx ho
   have hnx := zmL (E := E) (y := y) ho
   generalize evT E (x.take u) y = TB at *
   repeat' (first | (refine z6 ?_) | (refine zj (k := i) (zf hx) rfl ?_) | refine o1 ?_ | refine o2 ?_ | refine k1 ?_ | refine k2 ?_ | refine k3 ?_ | refine k4 ?_ | refine k6 ?_ | refine And.intro ?_ ?_ | (intro h; first | exact Bool.noConfusion h | exact nz _ h | exact nl h | (simp at h; done) | (simp at h; first | (exfalso; omega) | skip) | skip) | refine za ?_ | fail)
   refine zB (fun v : Nat => [(2, zg .i64 i), (3, zg .i64 j), (5, .ptr 1 4 0 0), (8, .ptr 2 4 0 0), (9, .ptr 3 4 0 0), (10, .ptr 4 4 0 0), (11, .ptr 5 4 0 0), (12, zg .i64 u), (13, zg .i64 v)])
    (fun v => [qd t kd, some ⟨29, 4, false, .box [.pv (.sl 1 (C.map zA)), qr, qr, zg .i64 2]⟩, some ⟨72, 4, false, .box [zg .i64 0, zg .i64 0, zg .i64 0, qr]⟩, some ⟨72, 4, false, .box [zg .i64 i, zg .i64 j, zg .i64 1, slP 6 1 ((TB ++ (y.take v).map (E o)).map zr)]⟩, some ⟨136, 4, false, .box [zg .i64 1099511627776, zg .i64 a1, zg .i64 a2, zg .i64 1099511627776]⟩, some ⟨136, 4, false, .box [zg .i64 a3, zg .i64 0, zg .i64 a4, zg .i64 0]⟩, obP 3 1 ((TB ++ (y.take v).map (E o)).map zr)])
    (fun v => v ≤ y.length) (fun v => y.length - v) 0 (Nat.zero_le _) ?_ ?_
   · rw [show TB ++ (y.take 0).map (E o) = TB by simp]
     exact zJ [0, 1, 2, 3, 4, 5, 6] rfl rfl (by repeat' (first | exact trivial | exact rfl | refine zu rfl ?_ | refine zl qe rfl ?_ | refine And.intro ?_ ?_)) (by repeat' (first | exact trivial | exact rfl | refine And.intro ?_ ?_))
   intro v hv
   have hul2 : (u + 1) * y.length ≤ x.length * y.length := Nat.mul_le_mul_right _ hul
   rw [Nat.add_mul] at hul2
   rcases Nat.lt_or_ge v y.length with hvl | hvg
   · obtain ⟨q, hq⟩ := qj hvl
     have hdq := zmT hdy hq
     have hKl : (TB ++ (y.take v).map (E o)).length ≤ 49 := by rw [List.length_append, List.length_map, List.length_take]; omega
     have hstep : TB ++ (y.take (v + 1)).map (E o) = (TB ++ (y.take v).map (E o)) ++ [E o q] := by rw [xS hq, List.map_append, List.append_assoc]; rfl
     generalize TB ++ (y.take v).map (E o) = KS at *
     have hb1 : ((KS.map zr).length + 1) * 8 ≤ 140737488355328 := by rw [List.length_map]; omega
     have hb2 : (KS.map zr).length + 1 ≤ 9223372036854775807 := by rw [List.length_map]; omega
     rcases hdo with hdo | hdo
     · rcases hdq with hdq | hdq
       · repeat' (first | (refine xl ?_) | (refine z6 ?_) | (refine zj (k := i) (zf hx) rfl ?_) | (refine zj (k := j) (zf hy) rfl ?_) | (refine zj (k := u) (zf ho) rfl ?_) | (refine zj (k := v) (zf hq) rfl ?_) | (refine zi (0 : Int) (by rw [hdo]; decide) ?_) | (refine zi (0 : Int) (by rw [hdq]; decide) ?_) | (refine ⟨0, rfl, (by decide), ?_⟩) | ((refine zcc rfl rfl rfl rfl rfl rfl rfl rfl rfl rfl rfl hb1 hb2 ?_)) | refine o1 ?_ | refine o2 ?_ | refine k1 ?_ | refine k2 ?_ | refine k3 ?_ | refine k4 ?_ | refine k6 ?_ | refine And.intro ?_ ?_ | refine o3 ?_ | refine o4 ?_ | (intro h; first | exact Bool.noConfusion h | exact nz _ h | exact nl h | (simp at h; done) | (simp at h; first | (exfalso; omega) | skip) | skip) | exact (by kernel_rfl : zn _ _ = true) | refine za ?_ | refine zc (by omega) (by omega) ?_ | fail)
         all_goals first
          | (refine ⟨v + 1, by omega, by omega, ?_⟩
             have hv : E o q = 1099511627776 := by rw [← hE]; unfold evE; rw [if_pos (by omega), if_pos hdo, if_pos hdq]
             rw [hstep, hv, zM, qn, qo]
             refine zJ [0, 1, 2, 3, 4, 5, 10] rfl rfl ?_ ?_
             · repeat' (first | exact trivial | exact rfl | refine And.intro ?_ ?_)
             · repeat' (first | exact trivial | exact rfl | refine And.intro ?_ ?_))
          | (refine ⟨v + 1, by omega, by omega, ?_⟩
             have hv : E o q = a3 := by rw [← hE]; unfold evE; rw [if_neg (by omega), if_pos hdo, if_pos hdq]
             rw [hstep, hv, zM, qn, qo]
             refine zJ [0, 1, 2, 3, 4, 5, 10] rfl rfl ?_ ?_
             · repeat' (first | exact trivial | exact rfl | refine And.intro ?_ ?_)
             · repeat' (first | exact trivial | exact rfl | refine And.intro ?_ ?_))
       · repeat' (first | (refine xl ?_) | (refine z6 ?_) | (refine zj (k := i) (zf hx) rfl ?_) | (refine zj (k := j) (zf hy) rfl ?_) | (refine zj (k := u) (zf ho) rfl ?_) | (refine zj (k := v) (zf hq) rfl ?_) | (refine zi (0 : Int) (by rw [hdo]; decide) ?_) | (refine zi (1 : Int) (by rw [hdq]; decide) ?_) | (refine ⟨1, rfl, (by decide), ?_⟩) | ((refine zcc rfl rfl rfl rfl rfl rfl rfl rfl rfl rfl rfl hb1 hb2 ?_)) | refine o1 ?_ | refine o2 ?_ | refine k1 ?_ | refine k2 ?_ | refine k3 ?_ | refine k4 ?_ | refine k6 ?_ | refine And.intro ?_ ?_ | refine o3 ?_ | refine o4 ?_ | (intro h; first | exact Bool.noConfusion h | exact nz _ h | exact nl h | (simp at h; done) | (simp at h; first | (exfalso; omega) | skip) | skip) | exact (by kernel_rfl : zn _ _ = true) | refine za ?_ | refine zc (by omega) (by omega) ?_ | fail)
         all_goals first
          | (refine ⟨v + 1, by omega, by omega, ?_⟩
             have hv : E o q = a1 := by rw [← hE]; unfold evE; rw [if_pos (by omega), if_pos hdo, if_neg (by omega)]
             rw [hstep, hv, zM, qn, qo]
             refine zJ [0, 1, 2, 3, 4, 5, 10] rfl rfl ?_ ?_
             · repeat' (first | exact trivial | exact rfl | refine And.intro ?_ ?_)
             · repeat' (first | exact trivial | exact rfl | refine And.intro ?_ ?_))
          | (refine ⟨v + 1, by omega, by omega, ?_⟩
             have hv : E o q = 0 := by rw [← hE]; unfold evE; rw [if_neg (by omega), if_pos hdo, if_neg (by omega)]
             rw [hstep, hv, zM, qn, qo]
             refine zJ [0, 1, 2, 3, 4, 5, 10] rfl rfl ?_ ?_
             · repeat' (first | exact trivial | exact rfl | refine And.intro ?_ ?_)
             · repeat' (first | exact trivial | exact rfl | refine And.intro ?_ ?_))
     · rcases hdq with hdq | hdq
       · repeat' (first | (refine xl ?_) | (refine z6 ?_) | (refine zj (k := i) (zf hx) rfl ?_) | (refine zj (k := j) (zf hy) rfl ?_) | (refine zj (k := u) (zf ho) rfl ?_) | (refine zj (k := v) (zf hq) rfl ?_) | (refine zi (2 : Int) (by rw [hdo]; decide) ?_) | (refine zi (2 : Int) (by rw [hdq]; decide) ?_) | (refine ⟨2, rfl, (by decide), ?_⟩) | ((refine zcc rfl rfl rfl rfl rfl rfl rfl rfl rfl rfl rfl hb1 hb2 ?_)) | refine o1 ?_ | refine o2 ?_ | refine k1 ?_ | refine k2 ?_ | refine k3 ?_ | refine k4 ?_ | refine k6 ?_ | refine And.intro ?_ ?_ | refine o3 ?_ | refine o4 ?_ | (intro h; first | exact Bool.noConfusion h | exact nz _ h | exact nl h | (simp at h; done) | (simp at h; first | (exfalso; omega) | skip) | skip) | exact (by kernel_rfl : zn _ _ = true) | refine za ?_ | refine zc (by omega) (by omega) ?_ | fail)
         all_goals first
          | (refine ⟨v + 1, by omega, by omega, ?_⟩
             have hv : E o q = a2 := by rw [← hE]; unfold evE; rw [if_pos (by omega), if_neg (by omega), if_pos hdq]
             rw [hstep, hv, zM, qn, qo]
             refine zJ [0, 1, 2, 3, 4, 5, 10] rfl rfl ?_ ?_
             · repeat' (first | exact trivial | exact rfl | refine And.intro ?_ ?_)
             · repeat' (first | exact trivial | exact rfl | refine And.intro ?_ ?_))
          | (refine ⟨v + 1, by omega, by omega, ?_⟩
             have hv : E o q = a4 := by rw [← hE]; unfold evE; rw [if_neg (by omega), if_neg (by omega), if_pos hdq]
             rw [hstep, hv, zM, qn, qo]
             refine zJ [0, 1, 2, 3, 4, 5, 10] rfl rfl ?_ ?_
             · repeat' (first | exact trivial | exact rfl | refine And.intro ?_ ?_)
             · repeat' (first | exact trivial | exact rfl | refine And.intro ?_ ?_))
       · repeat' (first | (refine xl ?_) | (refine z6 ?_) | (refine zj (k := i) (zf hx) rfl ?_) | (refine zj (k := j) (zf hy) rfl ?_) | (refine zj (k := u) (zf ho) rfl ?_) | (refine zj (k := v) (zf hq) rfl ?_) | (refine zi (2 : Int) (by rw [hdo]; decide) ?_) | (refine zi (3 : Int) (by rw [hdq]; decide) ?_) | (refine ⟨3, rfl, (by decide), ?_⟩) | ((refine zcc rfl rfl rfl rfl rfl rfl rfl rfl rfl rfl rfl hb1 hb2 ?_)) | refine o1 ?_ | refine o2 ?_ | refine k1 ?_ | refine k2 ?_ | refine k3 ?_ | refine k4 ?_ | refine k6 ?_ | refine And.intro ?_ ?_ | refine o3 ?_ | refine o4 ?_ | (intro h; first | exact Bool.noConfusion h | exact nz _ h | exact nl h | (simp at h; done) | (simp at h; first | (exfalso; omega) | skip) | skip) | exact (by kernel_rfl : zn _ _ = true) | refine za ?_ | refine zc (by omega) (by omega) ?_ | fail)
         all_goals first
          | (refine ⟨v + 1, by omega, by omega, ?_⟩
             have hv : E o q = 1099511627776 := by rw [← hE]; unfold evE; rw [if_pos (by omega), if_neg (by omega), if_neg (by omega)]
             rw [hstep, hv, zM, qn, qo]
             refine zJ [0, 1, 2, 3, 4, 5, 10] rfl rfl ?_ ?_
             · repeat' (first | exact trivial | exact rfl | refine And.intro ?_ ?_)
             · repeat' (first | exact trivial | exact rfl | refine And.intro ?_ ?_))
          | (refine ⟨v + 1, by omega, by omega, ?_⟩
             have hv : E o q = 0 := by rw [← hE]; unfold evE; rw [if_neg (by omega), if_neg (by omega), if_neg (by omega)]
             rw [hstep, hv, zM, qn, qo]
             refine zJ [0, 1, 2, 3, 4, 5, 10] rfl rfl ?_ ?_
             · repeat' (first | exact trivial | exact rfl | refine And.intro ?_ ?_)
             · repeat' (first | exact trivial | exact rfl | refine And.intro ?_ ?_))
   · obtain rfl : v = y.length := by omega
     rw [List.take_length, ← hnx]
     repeat' (first | (refine z6 ?_) | (refine zj (k := j) (zf hy) rfl ?_) | refine o1 ?_ | refine o2 ?_ | refine k1 ?_ | refine k2 ?_ | refine k3 ?_ | refine k8 ?_ | refine And.intro ?_ ?_ | (intro h; first | exact Bool.noConfusion h | exact nz _ h | exact nl h | (simp at h; done) | (simp at h; first | (exfalso; omega) | skip) | skip) | refine za ?_ | refine zc (by omega) (by omega) ?_ | fail)
     all_goals first
      | exact ⟨u + 1, by omega, by omega, zJ [0, 1, 2, 3, 4, 5, 6] rfl rfl (by repeat' (first | exact trivial | exact rfl | refine zu rfl ?_ | refine zl qe rfl ?_ | refine And.intro ?_ ?_)) (by repeat' (first | exact trivial | exact rfl | refine And.intro ?_ ?_))⟩
 · obtain rfl : u = x.length := by omega
   rw [List.take_length] at hTB ⊢
   generalize evT E x y = TB at *
   refine zq ?_
   refine qh (Γ' := [(2, zg .i64 i), (3, zg .i64 j), (5, .ptr 1 4 0 0), (8, .ptr 2 4 0 0), (9, .ptr 3 4 0 0), (12, zg .i64 x.length)]) (H' := [qd t kd, some ⟨29, 4, false, .box [.pv (.sl 1 (C.map zA)), qr, qr, zg .i64 2]⟩, some ⟨72, 4, false, .box [zg .i64 0, zg .i64 0, zg .i64 0, qr]⟩, some ⟨72, 4, false, .box [zg .i64 i, zg .i64 j, zg .i64 1, .pv (.sl 1 (TB.map zr))]⟩]) (zD.shut_sl (i := 3) (c := 3) (id := 6) rfl rfl rfl (by decide) fun H' hl h2 hH => zJ [0, 1, 2, 3] rfl rfl ⟨hH 0 (by decide) (by decide), hH 1 (by decide) (by decide), hH 2 (by decide) (by decide), h2, trivial⟩ (by repeat' (first | exact trivial | exact rfl | refine And.intro ?_ ?_))) ?_
   repeat' (first | (refine zj (k := i) (zf hx) rfl ?_) | refine o1 ?_ | refine o2 ?_ | refine k1 ?_ | refine k2 ?_ | refine k3 ?_ | refine k7 ?_ | refine k8 ?_ | refine And.intro ?_ ?_ | (intro h; first | exact Bool.noConfusion h | exact nz _ h | exact nl h | (simp at h; done) | (simp at h; first | (exfalso; omega) | skip) | skip) | refine za ?_ | fail)
   exact qC [0] [qd t kd] rfl rfl (by repeat' (first | exact trivial | exact rfl | refine And.intro ?_ ?_)) (r' := ag (Pair.row ⟨i, j, 1, TB⟩)) rfl ⟨rfl, rfl⟩
theorem zlJ (t : List Int) (k : Nat) (ht : t.length ≤ 400) (hk : k ≤ t.length) (C : List (List Opt)) (np : Nat) (rows : List (List PV)) (i j : Nat) (x y : List Opt) (hx : C[i]? = some x) (hy : C[j]? = some y) (hxl : x.length ≤ 7) (hyl : y.length ≤ 7)
  (hdx : ∀ o ∈ x, o.place.time.day = 0 ∨ o.place.time.day = 1) (hdy : ∀ o ∈ y, o.place.time.day = 0 ∨ o.place.time.day = 1) :
  ∃ (TT : List Int) (k' : Nat), k' ≤ t.length ∧ TT.length = x.length * y.length ∧ (∀ n ∈ TT, n = 0 ∨ qF n) ∧ qf Tryz.prog 60 [.ptr 0 2 0 0, .agg [.pv (.sl 1 (C.map zA)), .ms 1 4 0 np, qr, zg .i64 2], zg .i64 i, zg .i64 j] [qd t k, some ⟨72, 4, false, .p rows⟩]
   (fun r H' => r = ag (Pair.row ⟨i, j, 1, TT⟩) ∧ H' = [qd t k', some ⟨72, 4, false, .p rows⟩]) := by
 obtain ⟨a1, ka, p1, p2, g1⟩ := zbc t k ht hk
 obtain ⟨a2, kb, p3, p4, g2⟩ := zbc t ka ht p2
 obtain ⟨a3, kc, p5, p6, g3⟩ := zbc t kb ht p4
 obtain ⟨a4, kd, p7, p8, g4⟩ := zbc t kc ht p6
 have hxy : x.length * y.length ≤ 49 := Nat.mul_le_mul hxl hyl
 refine ⟨evT (evE a1 a2 a3 a4) x y, kd, p8, zgX x, evT_ok p1 p3 p5 p7, ?_⟩
 have hTl : ∀ u, u ≤ x.length → (evT (evE a1 a2 a3 a4) (x.take u) y).length = u * y.length := fun u hu => by rw [zgX, List.length_take, Nat.min_eq_left hu]
 generalize hE : evE a1 a2 a3 a4 = E at *
 refine zh tok mixed 103 rfl (fn := Tryz.f60) (c := Tryz.f60.body.getD .skip) (by kernel_rfl) (by kernel_rfl) (by kernel_rfl) rfl 2 rfl ?_
 repeat' (first | ((change zp _ _ _ _ _; refine zdw g1 rfl ?_)) | ((change zp _ _ _ _ _; refine zdw g2 rfl ?_)) | ((change zp _ _ _ _ _; refine zdw g3 rfl ?_)) | ((change zp _ _ _ _ _; refine zdw g4 rfl ?_)) | refine o1 ?_ | refine o2 ?_ | refine k1 ?_ | refine k2 ?_ | refine k4 ?_ | refine And.intro ?_ ?_ | exact (by kernel_rfl : zn _ _ = true) | fail)
 refine zB (fun u : Nat => [(2, zg .i64 i), (3, zg .i64 j), (5, .ptr 2 4 0 0), (8, .ptr 3 4 0 0), (9, .ptr 4 4 0 0), (10, .ptr 5 4 0 0), (11, .ptr 6 4 0 0), (12, zg .i64 u)])
  (fun u => [qd t kd, some ⟨72, 4, false, .p rows⟩, some ⟨29, 4, false, .box [.pv (.sl 1 (C.map zA)), .ms 1 4 0 np, qr, zg .i64 2]⟩, some ⟨72, 4, false, .box [zg .i64 0, zg .i64 0, zg .i64 0, qr]⟩, some ⟨72, 4, false, .box [zg .i64 i, zg .i64 j, zg .i64 1, slP 7 1 ((evT E (x.take u) y).map zr)]⟩, some ⟨136, 4, false, .box [zg .i64 1099511627776, zg .i64 a1, zg .i64 a2, zg .i64 1099511627776]⟩, some ⟨136, 4, false, .box [zg .i64 a3, zg .i64 0, zg .i64 a4, zg .i64 0]⟩, obP 3 1 ((evT E (x.take u) y).map zr)])
  (fun u => u ≤ x.length) (fun u => x.length - u) 0 (Nat.zero_le _) ?_ ?_
 · exact zJ [0, 1, 2, 3, 4, 5, 6, 7] rfl rfl (by repeat' (first | exact trivial | exact rfl | refine zl qe rfl ?_ | refine And.intro ?_ ?_)) (by repeat' (first | exact trivial | exact rfl | refine And.intro ?_ ?_))
 intro u hu
 have hTB := hTl u hu
 rcases Nat.lt_or_ge u x.length with hul | hug
 · obtain ⟨o, ho⟩ := qj hul
   have hdo := zmT hdx ho
   have hnx := zmL (E := E) (y := y) ho
   generalize evT E (x.take u) y = TB at *
   repeat' (first | (refine z6 ?_) | (refine zj (k := i) (zf hx) rfl ?_) | refine o1 ?_ | refine o2 ?_ | refine k1 ?_ | refine k2 ?_ | refine k3 ?_ | refine k4 ?_ | refine k6 ?_ | refine And.intro ?_ ?_ | (intro h; first | exact Bool.noConfusion h | exact nz _ h | exact nl h | (simp at h; done) | (simp at h; first | (exfalso; omega) | skip) | skip) | refine za ?_ | fail)
   refine zB (fun v : Nat => [(2, zg .i64 i), (3, zg .i64 j), (5, .ptr 2 4 0 0), (8, .ptr 3 4 0 0), (9, .ptr 4 4 0 0), (10, .ptr 5 4 0 0), (11, .ptr 6 4 0 0), (12, zg .i64 u), (13, zg .i64 v)])
    (fun v => [qd t kd, some ⟨72, 4, false, .p rows⟩, some ⟨29, 4, false, .box [.pv (.sl 1 (C.map zA)), .ms 1 4 0 np, qr, zg .i64 2]⟩, some ⟨72, 4, false, .box [zg .i64 0, zg .i64 0, zg .i64 0, qr]⟩, some ⟨72, 4, false, .box [zg .i64 i, zg .i64 j, zg .i64 1, slP 7 1 ((TB ++ (y.take v).map (E o)).map zr)]⟩, some ⟨136, 4, false, .box [zg .i64 1099511627776, zg .i64 a1, zg .i64 a2, zg .i64 1099511627776]⟩, some ⟨136, 4, false, .box [zg .i64 a3, zg .i64 0, zg .i64 a4, zg .i64 0]⟩, obP 3 1 ((TB ++ (y.take v).map (E o)).map zr)])
    (fun v => v ≤ y.length) (fun v => y.length - v) 0 (Nat.zero_le _) ?_ ?_
   · rw [show TB ++ (y.take 0).map (E o) = TB by simp]
     exact zJ [0, 1, 2, 3, 4, 5, 6, 7] rfl rfl (by repeat' (first | exact trivial | exact rfl | refine zu rfl ?_ | refine zl qe rfl ?_ | refine And.intro ?_ ?_)) (by repeat' (first | exact trivial | exact rfl | refine And.intro ?_ ?_))
   intro v hv
   have hul2 : (u + 1) * y.length ≤ x.length * y.length := Nat.mul_le_mul_right _ hul
   rw [Nat.add_mul] at hul2
   rcases Nat.lt_or_ge v y.length with hvl | hvg
   · obtain ⟨q, hq⟩ := qj hvl
     have hdq := zmT hdy hq
     have hKl : (TB ++ (y.take v).map (E o)).length ≤ 49 := by rw [List.length_append, List.length_map, List.length_take]; omega
     have hstep : TB ++ (y.take (v + 1)).map (E o) = (TB ++ (y.take v).map (E o)) ++ [E o q] := by rw [xS hq, List.map_append, List.append_assoc]; rfl
     generalize TB ++ (y.take v).map (E o) = KS at *
     have hb1 : ((KS.map zr).length + 1) * 8 ≤ 140737488355328 := by rw [List.length_map]; omega
     have hb2 : (KS.map zr).length + 1 ≤ 9223372036854775807 := by rw [List.length_map]; omega
     rcases hdo with hdo | hdo
     · rcases hdq with hdq | hdq
       · repeat' (first | (refine xl ?_) | (refine z6 ?_) | (refine zj (k := i) (zf hx) rfl ?_) | (refine zj (k := j) (zf hy) rfl ?_) | (refine zj (k := u) (zf ho) rfl ?_) | (refine zj (k := v) (zf hq) rfl ?_) | (refine zi (0 : Int) (by rw [hdo]; decide) ?_) | (refine zi (0 : Int) (by rw [hdq]; decide) ?_) | (refine ⟨0, rfl, (by decide), ?_⟩) | ((refine zcc rfl rfl rfl rfl rfl rfl rfl rfl rfl rfl rfl hb1 hb2 ?_)) | refine o1 ?_ | refine o2 ?_ | refine k1 ?_ | refine k2 ?_ | refine k3 ?_ | refine k4 ?_ | refine k6 ?_ | refine And.intro ?_ ?_ | refine o3 ?_ | refine o4 ?_ | (intro h; first | exact Bool.noConfusion h | exact nz _ h | exact nl h | (simp at h; done) | (simp at h; first | (exfalso; omega) | skip) | skip) | exact (by kernel_rfl : zn _ _ = true) | refine za ?_ | refine zc (by omega) (by omega) ?_ | fail)
         all_goals first
          | (refine ⟨v + 1, by omega, by omega, ?_⟩
             have hv : E o q = 1099511627776 := by rw [← hE]; unfold evE; rw [if_pos (by omega), if_pos hdo, if_pos hdq]
             rw [hstep, hv, zM, qn, qo]
             refine zJ [0, 1, 2, 3, 4, 5, 6, 11] rfl rfl ?_ ?_
             · repeat' (first | exact trivial | exact rfl | refine And.intro ?_ ?_)
             · repeat' (first | exact trivial | exact rfl | refine And.intro ?_ ?_))
          | (refine ⟨v + 1, by omega, by omega, ?_⟩
             have hv : E o q = a3 := by rw [← hE]; unfold evE; rw [if_neg (by omega), if_pos hdo, if_pos hdq]
             rw [hstep, hv, zM, qn, qo]
             refine zJ [0, 1, 2, 3, 4, 5, 6, 11] rfl rfl ?_ ?_
             · repeat' (first | exact trivial | exact rfl | refine And.intro ?_ ?_)
             · repeat' (first | exact trivial | exact rfl | refine And.intro ?_ ?_))
       · repeat' (first | (refine xl ?_) | (refine z6 ?_) | (refine zj (k := i) (zf hx) rfl ?_) | (refine zj (k := j) (zf hy) rfl ?_) | (refine zj (k := u) (zf ho) rfl ?_) | (refine zj (k := v) (zf hq) rfl ?_) | (refine zi (0 : Int) (by rw [hdo]; decide) ?_) | (refine zi (1 : Int) (by rw [hdq]; decide) ?_) | (refine ⟨1, rfl, (by decide), ?_⟩) | ((refine zcc rfl rfl rfl rfl rfl rfl rfl rfl rfl rfl rfl hb1 hb2 ?_)) | refine o1 ?_ | refine o2 ?_ | refine k1 ?_ | refine k2 ?_ | refine k3 ?_ | refine k4 ?_ | refine k6 ?_ | refine And.intro ?_ ?_ | refine o3 ?_ | refine o4 ?_ | (intro h; first | exact Bool.noConfusion h | exact nz _ h | exact nl h | (simp at h; done) | (simp at h; first | (exfalso; omega) | skip) | skip) | exact (by kernel_rfl : zn _ _ = true) | refine za ?_ | refine zc (by omega) (by omega) ?_ | fail)
         all_goals first
          | (refine ⟨v + 1, by omega, by omega, ?_⟩
             have hv : E o q = a1 := by rw [← hE]; unfold evE; rw [if_pos (by omega), if_pos hdo, if_neg (by omega)]
             rw [hstep, hv, zM, qn, qo]
             refine zJ [0, 1, 2, 3, 4, 5, 6, 11] rfl rfl ?_ ?_
             · repeat' (first | exact trivial | exact rfl | refine And.intro ?_ ?_)
             · repeat' (first | exact trivial | exact rfl | refine And.intro ?_ ?_))
          | (refine ⟨v + 1, by omega, by omega, ?_⟩
             have hv : E o q = 0 := by rw [← hE]; unfold evE; rw [if_neg (by omega), if_pos hdo, if_neg (by omega)]
             rw [hstep, hv, zM, qn, qo]
             refine zJ [0, 1, 2, 3, 4, 5, 6, 11] rfl rfl ?_ ?_
             · repeat' (first | exact trivial | exact rfl | refine And.intro ?_ ?_)
             · repeat' (first | exact trivial | exact rfl | refine And.intro ?_ ?_))
     · rcases hdq with hdq | hdq
       · repeat' (first | (refine xl ?_) | (refine z6 ?_) | (refine zj (k := i) (zf hx) rfl ?_) | (refine zj (k := j) (zf hy) rfl ?_) | (refine zj (k := u) (zf ho) rfl ?_) | (refine zj (k := v) (zf hq) rfl ?_) | (refine zi (2 : Int) (by rw [hdo]; decide) ?_) | (refine zi (2 : Int) (by rw [hdq]; decide) ?_) | (refine ⟨2, rfl, (by decide), ?_⟩) | ((refine zcc rfl rfl rfl rfl rfl rfl rfl rfl rfl rfl rfl hb1 hb2 ?_)) | refine o1 ?_ | refine o2 ?_ | refine k1 ?_ | refine k2 ?_ | refine k3 ?_ | refine k4 ?_ | refine k6 ?_ | refine And.intro ?_ ?_ | refine o3 ?_ | refine o4 ?_ | (intro h; first | exact Bool.noConfusion h | exact nz _ h | exact nl h | (simp at h; done) | (simp at h; first | (exfalso; omega) | skip) | skip) | exact (by kernel_rfl : zn _ _ = true) | refine za ?_ | refine zc (by omega) (by omega) ?_ | fail)
         all_goals first
          | (refine ⟨v + 1, by omega, by omega, ?_⟩
             have hv : E o q = a2 := by rw [← hE]; unfold evE; rw [if_pos (by omega), if_neg (by omega), if_pos hdq]
             rw [hstep, hv, zM, qn, qo]
             refine zJ [0, 1, 2, 3, 4, 5, 6, 11] rfl rfl ?_ ?_
             · repeat' (first | exact trivial | exact rfl | refine And.intro ?_ ?_)
             · repeat' (first | exact trivial | exact rfl | refine And.intro ?_ ?_))
          | (refine ⟨v + 1, by omega, by omega, ?_⟩
             have hv : E o q = a4 := by rw [← hE]; unfold evE; rw [if_neg (by omega), if_neg (by omega), if_pos hdq]
             rw [hstep, hv, zM, qn, qo]
             refine zJ [0, 1, 2, 3, 4, 5, 6, 11] rfl rfl ?_ ?_
             · repeat' (first | exact trivial | exact rfl | refine And.intro ?_ ?_)
             · repeat' (first | exact trivial | exact rfl | refine And.intro ?_ ?_))
       · repeat' (first | (refine xl ?_) | (refine z6 ?_) | (refine zj (k := i) (zf hx) rfl ?_) | (refine zj (k := j) (zf hy) rfl ?_) | (refine zj (k := u) (zf ho) rfl ?_) | (refine zj (k := v) (zf hq) rfl ?_) | (refine zi (2 : Int) (by rw [hdo]; decide) ?_) | (refine zi (3 : Int) (by rw [hdq]; decide) ?_) | (refine ⟨3, rfl, (by decide), ?_⟩) | ((refine zcc rfl rfl rfl rfl rfl rfl rfl rfl rfl rfl rfl hb1 hb2 ?_)) | refine o1 ?_ | refine o2 ?_ | refine k1 ?_ | refine k2 ?_ | refine k3 ?_ | refine k4 ?_ | refine k6 ?_ | refine And.intro ?_ ?_ | refine o3 ?_ | refine o4 ?_ | (intro h; first | exact Bool.noConfusion h | exact nz _ h | exact nl h | (simp at h; done) | (simp at h; first | (exfalso; omega) | skip) | skip) | exact (by kernel_rfl : zn _ _ = true) | refine za ?_ | refine zc (by omega) (by omega) ?_ | fail)
         all_goals first
          | (refine ⟨v + 1, by omega, by omega, ?_⟩
             have hv : E o q = 1099511627776 := by rw [← hE]; unfold evE; rw [if_pos (by omega), if_neg (by omega), if_neg (by omega)]
             rw [hstep, hv, zM, qn, qo]
             refine zJ [0, 1, 2, 3, 4, 5, 6, 11] rfl rfl ?_ ?_
             · repeat' (first | exact trivial | exact rfl | refine And.intro ?_ ?_)
             · repeat' (first | exact trivial | exact rfl | refine And.intro ?_ ?_))
          | (refine ⟨v + 1, by omega, by omega, ?_⟩
             have hv : E o q = 0 := by rw [← hE]; unfold evE; rw [if_neg (by omega), if_neg (by omega), if_neg (by omega)]
             rw [hstep, hv, zM, qn, qo]
             refine zJ [0, 1, 2, 3, 4, 5, 6, 11] rfl rfl ?_ ?_
             · repeat' (first | exact trivial | exact rfl | refine And.intro ?_ ?_)
             · repeat' (first | exact trivial | exact rfl | refine And.intro ?_ ?_))
   · obtain rfl : v = y.length := by omega
     rw [List.take_length, ← hnx]
     repeat' (first | (refine z6 ?_) | (refine zj (k := j) (zf hy) rfl ?_) | refine o1 ?_ | refine o2 ?_ | refine k1 ?_ | refine k2 ?_ | refine k3 ?_ | refine k8 ?_ | refine And.intro ?_ ?_ | (intro h; first | exact Bool.noConfusion h | exact nz _ h | exact nl h | (simp at h; done) | (simp at h; first | (exfalso; omega) | skip) | skip) | refine za ?_ | refine zc (by omega) (by omega) ?_ | fail)
     all_goals first
      | exact ⟨u + 1, by omega, by omega, zJ [0, 1, 2, 3, 4, 5, 6, 7] rfl rfl (by repeat' (first | exact trivial | exact rfl | refine zu rfl ?_ | refine zl qe rfl ?_ | refine And.intro ?_ ?_)) (by repeat' (first | exact trivial | exact rfl | refine And.intro ?_ ?_))⟩
 · obtain rfl : u = x.length := by omega
   rw [List.take_length] at hTB ⊢
   generalize evT E x y = TB at *
   refine zq ?_
   refine qh (Γ' := [(2, zg .i64 i), (3, zg .i64 j), (5, .ptr 2 4 0 0), (8, .ptr 3 4 0 0), (9, .ptr 4 4 0 0), (12, zg .i64 x.length)]) (H' := [qd t kd, some ⟨72, 4, false, .p rows⟩, some ⟨29, 4, false, .box [.pv (.sl 1 (C.map zA)), .ms 1 4 0 np, qr, zg .i64 2]⟩, some ⟨72, 4, false, .box [zg .i64 0, zg .i64 0, zg .i64 0, qr]⟩, some ⟨72, 4, false, .box [zg .i64 i, zg .i64 j, zg .i64 1, .pv (.sl 1 (TB.map zr))]⟩]) (zD.shut_sl (i := 4) (c := 3) (id := 7) rfl rfl rfl (by decide) fun H' hl h2 hH => zJ [0, 1, 2, 3, 4] rfl rfl ⟨hH 0 (by decide) (by decide), hH 1 (by decide) (by decide), hH 2 (by decide) (by decide), hH 3 (by decide) (by decide), h2, trivial⟩ (by repeat' (first | exact trivial | exact rfl | refine And.intro ?_ ?_))) ?_
   repeat' (first | (refine zj (k := i) (zf hx) rfl ?_) | refine o1 ?_ | refine o2 ?_ | refine k1 ?_ | refine k2 ?_ | refine k3 ?_ | refine k7 ?_ | refine k8 ?_ | refine And.intro ?_ ?_ | (intro h; first | exact Bool.noConfusion h | exact nz _ h | exact nl h | (simp at h; done) | (simp at h; first | (exfalso; omega) | skip) | skip) | refine za ?_ | fail)
   exact qC [0, 1] [qd t kd, some ⟨72, 4, false, .p rows⟩] rfl rfl (by repeat' (first | exact trivial | exact rfl | refine And.intro ?_ ?_)) (r' := ag (Pair.row ⟨i, j, 1, TB⟩)) rfl ⟨rfl, rfl⟩
end Go.Proofs.YtihpjcmloecaaaaGreat.Cw
namespace Go.Proofs.YtihpjcmloecaaaaGreat.Cw
open Go Go.Cw Go.Proofs
set_option linter.unusedVariables false
structure LdQ (C : List (List Opt)) (L : List Load) (i k : Nat) : Prop where
 at_ : ∀ j, j < L.length → loadAt ⟨C, [], [], 2⟩ L j
 lt : ∀ x ∈ L, x.cls < i ∨ (x.cls = i ∧ x.opt < k)
theorem LdQ.nil {C : List (List Opt)} : LdQ C [] 0 0 := ⟨fun j h => absurd h (Nat.not_lt_zero _), fun x h => absurd h List.not_mem_nil⟩
theorem LdQ.skip {C : List (List Opt)} {L : List Load} {i k : Nat} (h : LdQ C L i k) : LdQ C L i (k + 1) := ⟨h.at_, fun x hx => by have := h.lt x hx; omega⟩
theorem LdQ.next {C : List (List Opt)} {L : List Load} {i k : Nat} (h : LdQ C L i k) : LdQ C L (i + 1) 0 := ⟨h.at_, fun x hx => by have := h.lt x hx; omega⟩
theorem LdQ.app {C : List (List Opt)} {L : List Load} {i k : Nat} {l : List Opt} {w : Int} (h : LdQ C L i k) (hl : C[i]? = some l) (hk : k < l.length) (hw : 1 ≤ w ∧ w ≤ 1000) : LdQ C (L ++ [⟨i, k, w⟩]) i (k + 1) := by
 refine ⟨fun j hj x hx => ?_, fun x hx => ?_⟩
 · simp only [List.length_append, List.length_cons, List.length_nil] at hj
   rcases Nat.lt_or_ge j L.length with h1 | h1
   · rw [List.getElem?_append_left h1] at hx
     obtain ⟨a, b, c, d⟩ := h.at_ j h1 x hx
     exact ⟨a, b, c, fun e y he hy => d e y he (by rw [List.getElem?_append_left (by omega)] at hy; exact hy)⟩
   · obtain rfl : j = L.length := by omega
     rw [List.getElem?_append_right (Nat.le_refl _)] at hx
     simp at hx; subst hx
     refine ⟨⟨by simp, by simp, l, by simpa using hl, by show (k : Int) < _; omega⟩, hw.1, hw.2, fun e y he hy => ?_⟩
     rw [List.getElem?_append_left (by omega)] at hy
     have := h.lt y (List.mem_of_getElem? hy)
     exact this
 · rcases List.mem_append.1 hx with hx | hx
   · have := h.lt x hx; omega
   · simp at hx; subst hx; exact .inr ⟨rfl, by show (k : Int) < ((k + 1 : Nat) : Int); omega⟩
end Go.Proofs.YtihpjcmloecaaaaGreat.Cw
namespace Go.Proofs.YtihpjcmloecaaaaGreat.Cw
open Go Go.Cw Go.Proofs
set_option linter.unusedVariables false
set_option maxRecDepth 100000
set_option maxHeartbeats 8000000
def evM (C : List (List Opt)) (PR : List (List PV)) : Option AObj := some ⟨29, 4, false, .box [.pv (.sl 1 (C.map zA)), .pv (.sl 4 PR), .pv (.sl 4 []), zg .i64 2]⟩
def evC (s : AV) (mo pe : Int) : Option AObj := some ⟨78, 4, false, .box [zg .i64 1, s, zg .i64 mo, zg .i64 pe]⟩
theorem zky (t : List Int) (k : Nat) (ht : t.length ≤ 400) (hk : k ≤ t.length) (C : List (List Opt)) (PR : List (List PV)) (R : Nat) (hR : R ≤ 3) (hC : C.length ≤ 5) (hl : ∀ l ∈ C, l.length ≤ 7) :
  qf Tryz.prog 61 [.ptr 0 2 0 0, .agg [.pv (.sl 1 (C.map zA)), .pv (.sl 4 PR), .pv (.sl 4 []), zg .i64 2], zg .i64 R] [qd t k]
   (fun r H' => ∃ (L : List Count) (k' : Nat), k' ≤ t.length ∧ L.length ≤ 6 ∧ (∀ c ∈ L, CtQ C 2 c) ∧ r = .pv (.sl 4 (L.map Count.row)) ∧ H' = [qd t k']) := by
 refine zh tok mixed 102 rfl (fn := Tryz.f61) (c := Tryz.f61.body.getD .skip) (by kernel_rfl) (by kernel_rfl) (by kernel_rfl) rfl 1 rfl ?_
 repeat' (first | refine o1 ?_ | refine o2 ?_ | refine k1 ?_ | refine k2 ?_ | refine k4 ?_ | fail)
 refine zB (fun z : Nat × Nat × List Int => [(0, .ptr 0 2 0 0), (2, zg .i64 R), (4, .ptr 1 4 0 0), (7, slP 2 1 (z.2.2.map zr)), (8, zg .i64 z.1)])
  (fun z => [qd t z.2.1, evM C PR, obP 3 1 (z.2.2.map zr)])
  (fun z => z.1 ≤ C.length ∧ z.2.1 ≤ t.length ∧ z.2.2.length = z.1 ∧ ∀ n ∈ z.2.2, 1 ≤ n ∧ n ≤ 1000) (fun z => C.length - z.1) (0, k, []) ⟨Nat.zero_le _, hk, rfl, fun n h => absurd h List.not_mem_nil⟩ ?_ ?_
 · exact zJ [0, 1, 2] rfl rfl (by repeat' (first | exact trivial | exact rfl | refine And.intro ?_ ?_)) (by repeat' (first | exact trivial | exact rfl | refine And.intro ?_ ?_))
 rintro ⟨i, k, W⟩ ⟨hi, hk, hWl, hW⟩
 dsimp only at hi hk hWl hW ⊢
 dsimp only [evM]
 rcases Nat.lt_or_ge i C.length with hlt | hge
 · have hb1 : ((W.map zr).length + 1) * 8 ≤ 140737488355328 := by rw [List.length_map]; omega
   have hb2 : (W.map zr).length + 1 ≤ 9223372036854775807 := by rw [List.length_map]; omega
   repeat' (first | (refine xl ?_) | (refine z6 ?_) | ((refine zbB rfl rfl rfl rfl rfl rfl rfl rfl rfl rfl rfl hb1 hb2 ?_)) | refine o1 ?_ | refine o2 ?_ | refine k1 ?_ | refine k2 ?_ | refine k3 ?_ | refine k4 ?_ | refine k6 ?_ | refine And.intro ?_ ?_ | (intro h; first | exact Bool.noConfusion h | exact nz _ h | exact nl h | (simp at h; done) | (simp at h; first | (exfalso; omega) | skip) | skip) | refine za ?_ | refine zc (by omega) (by omega) ?_ | (change zp _ _ _ _ _; refine qi 0 rfl (by assumption) (by assumption) (by omega) (by omega) ?_; intro v kq hv1 hv2 hkq) | fail)
   all_goals first
    | (exfalso; omega)
    | (refine ⟨(i + 1, kq, W ++ [1 + v]), ⟨by dsimp only; omega, hkq, by dsimp only; rw [List.length_append]; simp; omega, fun n hn => ?_⟩, by dsimp only; omega, ?_⟩
       · rcases List.mem_append.1 hn with hn | hn
         · exact hW n hn
         · simp at hn; omega
       · dsimp only
         rw [zM, qn, qo]
         refine zJ [0, 1, 4] rfl rfl ?_ ?_
         · repeat' (first | exact trivial | exact rfl | refine And.intro ?_ ?_)
         · repeat' (first | exact trivial | exact rfl | refine And.intro ?_ ?_))
 obtain rfl : i = C.length := by omega
 have hWi : ∀ i, i < C.length → ∃ w, W[i]? = some w ∧ 1 ≤ w ∧ w ≤ 1000 := fun i hi => ⟨W[i]'(by omega), List.getElem?_eq_getElem _, hW _ (List.getElem_mem _)⟩
 refine zq ?_
 refine qh (Γ' := [(0, .ptr 0 2 0 0), (2, zg .i64 R), (4, .ptr 1 4 0 0), (7, .pv (.sl 1 (W.map zr))), (8, zg .i64 C.length)]) (H' := [qd t k, evM C PR]) (zD.sl (s := 7) (id := 2) rfl rfl fun H' hl hH => zJ [0, 1] rfl rfl ⟨hH 0 (by decide), hH 1 (by decide), trivial⟩ (by repeat' (first | exact trivial | exact rfl | refine And.intro ?_ ?_))) ?_
 dsimp only [evM]
 repeat' (first | refine o1 ?_ | refine o2 ?_ | refine k1 ?_ | refine k2 ?_ | refine k3 ?_ | refine k4 ?_ | refine k8 ?_ | refine And.intro ?_ ?_ | (intro h; first | exact Bool.noConfusion h | exact nz _ h | exact nl h | (simp at h; done) | (simp at h; first | (exfalso; omega) | skip) | skip) | refine za ?_ | fail)
 refine zB (fun z : Nat × Nat × List Count => [(0, .ptr 0 2 0 0), (2, zg .i64 R), (4, .ptr 1 4 0 0), (7, .pv (.sl 1 (W.map zr))), (9, slP 2 4 (z.2.2.map Count.row)), (10, zg .i64 z.1)])
  (fun z => [qd t z.2.1, evM C PR, obP 78 4 (z.2.2.map Count.row)])
  (fun z => z.1 ≤ 2 ∧ z.2.1 ≤ t.length ∧ z.2.2.length ≤ z.1 * 3 ∧ ∀ c ∈ z.2.2, CtQ C 2 c) (fun z => 2 - z.1) (0, k, []) ⟨Nat.zero_le _, hk, by simp, fun n h => absurd h List.not_mem_nil⟩ ?_ ?_
 · exact zJ [0, 1, 2] rfl rfl (by repeat' (first | exact trivial | exact rfl | refine And.intro ?_ ?_)) (by repeat' (first | exact trivial | exact rfl | refine And.intro ?_ ?_))
 rintro ⟨tt, k, L⟩ ⟨htt, hk, hLl, hL⟩
 dsimp only at htt hk hLl hL ⊢
 dsimp only [evM]
 rcases Nat.lt_or_ge tt 2 with hlt | hge2
 · repeat' (first | ((change zp _ _ _ _ _; refine zie 0 rfl (by assumption) (by assumption) ?_; intro cn kc hcn hkc)) | (refine z6 ?_) | refine o1 ?_ | refine o2 ?_ | refine k1 ?_ | refine k2 ?_ | refine k3 ?_ | refine k4 ?_ | refine k6 ?_ | refine And.intro ?_ ?_ | (intro h; first | exact Bool.noConfusion h | exact nz _ h | exact nl h | (simp at h; done) | (simp at h; first | (exfalso; omega) | skip) | skip) | (change zp _ _ _ _ _; refine qi 0 rfl (by assumption) (by assumption) (by omega) (by omega) ?_; intro v kq hv1 hv2 hkq) | fail)
   have hpe := pen_ok hcn
   generalize (bif true then if cn > 1 then cn else 1 else if cn < 1 then cn else 1) = pe at *
   rename_i k0 _
   have hmo := hv1
   have hmo2 := hv2
   generalize v = mo at *
   generalize hkk : kc = k at *
   have hk := hkc
   refine zB (fun z : Nat × List Count => [(0, .ptr 0 2 0 0), (2, zg .i64 R), (4, .ptr 1 4 0 0), (7, .pv (.sl 1 (W.map zr))), (9, slP 2 4 (z.2.map Count.row)), (10, zg .i64 tt), (11, zg .i64 mo), (12, zg .i64 pe), (13, zg .i64 z.1)])
    (fun z => [qd t k, evM C PR, obP 78 4 (z.2.map Count.row)])
    (fun z => z.1 ≤ R ∧ z.2.length ≤ tt * 3 + z.1 ∧ ∀ c ∈ z.2, CtQ C 2 c) (fun z => R - z.1) (0, L) ⟨Nat.zero_le _, hLl, hL⟩ ?_ ?_
   · exact zJ [0, 1, 2] rfl rfl (by repeat' (first | exact trivial | exact rfl | refine zu rfl ?_ | refine And.intro ?_ ?_)) (by repeat' (first | exact trivial | exact rfl | exact zG rfl | refine And.intro ?_ ?_))
   rintro ⟨r, L⟩ ⟨hr, hLl, hL⟩
   dsimp only at hr hLl hL ⊢
   dsimp only [evM]
   rcases Nat.lt_or_ge r R with hrl | hrg
   · repeat' (first | (refine z6 ?_) | refine o1 ?_ | refine o2 ?_ | refine k1 ?_ | refine k2 ?_ | refine k3 ?_ | refine k4 ?_ | refine k6 ?_ | refine And.intro ?_ ?_ | (intro h; first | exact Bool.noConfusion h | exact nz _ h | exact nl h | (simp at h; done) | (simp at h; first | (exfalso; omega) | skip) | skip) | exact (by kernel_rfl : zn _ _ = true) | fail)
     refine zB (fun z : Nat × List Load => [(0, .ptr 0 2 0 0), (2, zg .i64 R), (4, .ptr 1 4 0 0), (7, .pv (.sl 1 (W.map zr))), (9, slP 2 4 (L.map Count.row)), (10, zg .i64 tt), (11, zg .i64 mo), (12, zg .i64 pe), (13, zg .i64 r), (14, .ptr 3 4 0 0), (15, zg .i64 z.1)])
      (fun z => [qd t k, evM C PR, obP 78 4 (L.map Count.row), evC (slP 4 3 (z.2.map Load.row)) mo pe, obP 102 3 (z.2.map Load.row)])
      (fun z => z.1 ≤ C.length ∧ z.2.length ≤ z.1 * 7 ∧ LdQ C z.2 z.1 0) (fun z => C.length - z.1) (0, []) ⟨Nat.zero_le _, Nat.le_refl _, LdQ.nil⟩ ?_ ?_
     · exact zJ [0, 1, 2, 3, 4] rfl rfl (by repeat' (first | exact trivial | exact rfl | refine zu rfl ?_ | refine zl zV rfl ?_ | refine And.intro ?_ ?_)) (by repeat' (first | exact trivial | exact rfl | exact zG rfl | refine And.intro ?_ ?_))
     rintro ⟨i, D⟩ ⟨hi, hDl, hD⟩
     dsimp only at hi hDl hD ⊢
     dsimp only [evM, evC]
     rcases Nat.lt_or_ge i C.length with hil | hig
     · obtain ⟨la, hla⟩ := qj hil
       have hla7 := hl la (List.mem_of_getElem? hla)
       obtain ⟨w, hw, hw1, hw2⟩ := hWi i hil
       repeat' (first | (refine z6 ?_) | refine o1 ?_ | refine o2 ?_ | refine k1 ?_ | refine k2 ?_ | refine k3 ?_ | refine k4 ?_ | refine k6 ?_ | refine And.intro ?_ ?_ | (intro h; first | exact Bool.noConfusion h | exact nz _ h | exact nl h | (simp at h; done) | (simp at h; first | (exfalso; omega) | skip) | skip) | refine za ?_ | fail)
       refine zB (fun z : Nat × List Load => [(0, .ptr 0 2 0 0), (2, zg .i64 R), (4, .ptr 1 4 0 0), (7, .pv (.sl 1 (W.map zr))), (9, slP 2 4 (L.map Count.row)), (10, zg .i64 tt), (11, zg .i64 mo), (12, zg .i64 pe), (13, zg .i64 r), (14, .ptr 3 4 0 0), (15, zg .i64 i), (16, zg .i64 z.1)])
        (fun z => [qd t k, evM C PR, obP 78 4 (L.map Count.row), evC (slP 4 3 (z.2.map Load.row)) mo pe, obP 102 3 (z.2.map Load.row)])
        (fun z => z.1 ≤ la.length ∧ z.2.length ≤ i * 7 + z.1 ∧ LdQ C z.2 i z.1) (fun z => la.length - z.1) (0, D) ⟨Nat.zero_le _, hDl, hD⟩ ?_ ?_
       · exact zJ [0, 1, 2, 3, 4] rfl rfl (by repeat' (first | exact trivial | exact rfl | refine zu rfl ?_ | refine zl zV rfl ?_ | refine And.intro ?_ ?_)) (by repeat' (first | exact trivial | exact rfl | exact zG rfl | refine And.intro ?_ ?_))
       rintro ⟨j, D⟩ ⟨hj, hDl, hD⟩
       dsimp only at hj hDl hD ⊢
       dsimp only [evM, evC]
       have hb1 : ((D.map Load.row).length + 1) * 24 ≤ 140737488355328 := by rw [List.length_map]; omega
       have hb2 : (D.map Load.row).length + 1 ≤ 9223372036854775807 := by rw [List.length_map]; omega
       rcases Nat.lt_or_ge j la.length with hjl | hjg
       · obtain ⟨o, ho⟩ := qj hjl
         repeat' (first | (refine xl ?_) | (refine z6 ?_) | (refine zj (k := i) (zf hla) rfl ?_) | (refine zj (k := i) (zf hw) rfl ?_) | (refine zj (k := j) (zf ho) rfl ?_) | ((refine zcc rfl rfl rfl rfl rfl rfl rfl rfl rfl rfl rfl hb1 hb2 ?_)) | refine o1 ?_ | refine o2 ?_ | refine k1 ?_ | refine k2 ?_ | refine k3 ?_ | refine k4 ?_ | refine k6 ?_ | refine And.intro ?_ ?_ | refine o3 ?_ | refine o4 ?_ | (intro h; first | exact Bool.noConfusion h | exact nz _ h | exact nl h | (simp at h; done) | (simp at h; first | (exfalso; omega) | skip) | skip) | exact (by kernel_rfl : zn _ _ = true) | refine za ?_ | refine zc (by omega) (by omega) ?_ | fail)
         all_goals first
          | (exfalso; omega)
          | (refine ⟨(j + 1, D ++ [⟨i, j, w⟩]), ⟨by dsimp only; omega, by dsimp only; rw [List.length_append]; simp only [List.length_cons, List.length_nil]; omega, by dsimp only; exact hD.app hla hjl ⟨hw1, hw2⟩⟩, by dsimp only; omega, ?_⟩
             dsimp only
             rw [zM, qn, qo]
             refine zJ [0, 1, 2, 3, 7] rfl rfl ?_ ?_
             · repeat' (first | exact trivial | exact rfl | refine zu rfl ?_ | refine And.intro ?_ ?_)
             · repeat' (first | exact trivial | exact rfl | exact zG rfl | refine And.intro ?_ ?_))
          | (refine ⟨(j + 1, D), ⟨by dsimp only; omega, by dsimp only; omega, hD.skip⟩, by dsimp only; omega, ?_⟩
             dsimp only
             refine zJ [0, 1, 2, 3, 4] rfl rfl ?_ ?_
             · repeat' (first | exact trivial | exact rfl | refine zu rfl ?_ | refine zl zV rfl ?_ | refine And.intro ?_ ?_)
             · repeat' (first | exact trivial | exact rfl | exact zG rfl | refine And.intro ?_ ?_))
       · obtain rfl : j = la.length := by omega
         repeat' (first | (refine z6 ?_) | (refine zj (k := i) (zf hla) rfl ?_) | refine o1 ?_ | refine o2 ?_ | refine k1 ?_ | refine k2 ?_ | refine k3 ?_ | refine k8 ?_ | refine And.intro ?_ ?_ | (intro h; first | exact Bool.noConfusion h | exact nz _ h | exact nl h | (simp at h; done) | (simp at h; first | (exfalso; omega) | skip) | skip) | refine za ?_ | refine zc (by omega) (by omega) ?_ | fail)
         all_goals first
          | (exfalso; omega)
          | (refine ⟨(i + 1, D), ⟨by dsimp only; omega, by dsimp only; omega, hD.next⟩, by dsimp only; omega, ?_⟩
             dsimp only
             refine zJ [0, 1, 2, 3, 4] rfl rfl ?_ ?_
             · repeat' (first | exact trivial | exact rfl | refine zu rfl ?_ | refine zl zV rfl ?_ | refine And.intro ?_ ?_)
             · repeat' (first | exact trivial | exact rfl | exact zG rfl | refine And.intro ?_ ?_))
     · obtain rfl : i = C.length := by omega
       have hb1 : ((L.map Count.row).length + 1) * 48 ≤ 140737488355328 := by rw [List.length_map]; omega
       have hb2 : (L.map Count.row).length + 1 ≤ 9223372036854775807 := by rw [List.length_map]; omega
       refine zq ?_
       refine qh (Γ' := [(0, .ptr 0 2 0 0), (2, zg .i64 R), (4, .ptr 1 4 0 0), (7, .pv (.sl 1 (W.map zr))), (9, slP 2 4 (L.map Count.row)), (10, zg .i64 tt), (11, zg .i64 mo), (12, zg .i64 pe), (13, zg .i64 r), (14, .ptr 3 4 0 0), (15, zg .i64 C.length)]) (H' := [qd t k, evM C PR, obP 78 4 (L.map Count.row), evC (.pv (.sl 3 (D.map Load.row))) mo pe]) (zD.shut_sl (i := 3) (c := 1) (id := 4) rfl rfl rfl (by decide) fun H' hl h2 hH => zJ [0, 1, 2, 3] rfl rfl ?_ ?_) ?_
       · exact ⟨hH 0 (by decide) (by decide), hH 1 (by decide) (by decide), zu (hH 2 (by decide) (by decide)) ⟨h2, trivial⟩⟩
       · repeat' (first | exact trivial | exact rfl | exact zG rfl | refine And.intro ?_ ?_)
       dsimp only [evM, evC]
       repeat' (first | (refine xl ?_) | (refine z6 ?_) | ((refine zbB rfl rfl rfl rfl rfl rfl rfl rfl rfl rfl rfl hb1 hb2 ?_)) | refine o1 ?_ | refine o2 ?_ | refine k1 ?_ | refine k2 ?_ | refine k3 ?_ | refine k8 ?_ | refine And.intro ?_ ?_ | (intro h; first | exact Bool.noConfusion h | exact nz _ h | exact nl h | (simp at h; done) | (simp at h; first | (exfalso; omega) | skip) | skip) | refine za ?_ | refine zc (by omega) (by omega) ?_ | fail)
       all_goals first
        | (exfalso; omega)
        | (refine ⟨(r + 1, L ++ [⟨1, D, mo, pe⟩]), ⟨by dsimp only; omega, by dsimp only; rw [List.length_append]; simp only [List.length_cons, List.length_nil]; omega, by dsimp only; exact zb1 hL ⟨⟨⟨by dsimp only; omega, by dsimp only; omega⟩, hmo, by dsimp only; omega, hpe, hD.at_⟩, by dsimp only; omega⟩⟩, by dsimp only; omega, ?_⟩
           dsimp only
           rw [zM, qn, qo]
           refine zJ [0, 1, 5] rfl rfl ?_ ?_
           · repeat' (first | exact trivial | exact rfl | refine And.intro ?_ ?_)
           · repeat' (first | exact trivial | exact rfl | refine And.intro ?_ ?_))
   · obtain rfl : r = R := by omega
     repeat' (first | (refine z6 ?_) | refine o1 ?_ | refine o2 ?_ | refine k1 ?_ | refine k2 ?_ | refine k3 ?_ | refine k8 ?_ | refine And.intro ?_ ?_ | (intro h; first | exact Bool.noConfusion h | exact nz _ h | exact nl h | (simp at h; done) | (simp at h; first | (exfalso; omega) | skip) | skip) | refine zc (by omega) (by omega) ?_ | fail)
     all_goals first
      | (exfalso; omega)
      | (refine ⟨(tt + 1, k, L), ⟨by dsimp only; omega, hk, by dsimp only; omega, hL⟩, by dsimp only; omega, ?_⟩
         dsimp only
         refine zJ [0, 1, 2] rfl rfl ?_ ?_
         · repeat' (first | exact trivial | exact rfl | refine zu rfl ?_ | refine And.intro ?_ ?_)
         · repeat' (first | exact trivial | exact rfl | exact zG rfl | refine And.intro ?_ ?_))
 obtain rfl : tt = 2 := by omega
 refine zq ?_
 refine qh (Γ' := [(0, .ptr 0 2 0 0), (9, .pv (.sl 4 (L.map Count.row))), (10, zg .i64 2)]) (H' := [qd t k]) (zD.sl (s := 9) (id := 2) rfl rfl fun H' hl hH => zJ [0] rfl rfl ⟨hH 0 (by decide), trivial⟩ (by repeat' (first | exact trivial | exact rfl | refine And.intro ?_ ?_))) ?_
 repeat' (first | refine o1 ?_ | refine o2 ?_ | refine k1 ?_ | refine k2 ?_ | refine k3 ?_ | refine k7 ?_ | refine k8 ?_ | refine And.intro ?_ ?_ | (intro h; first | exact Bool.noConfusion h | exact nz _ h | exact nl h | (simp at h; done) | (simp at h; first | (exfalso; omega) | skip) | skip) | fail)
 exact qC [0] [qd t k] rfl rfl (by repeat' (first | exact trivial | exact rfl | refine And.intro ?_ ?_)) (r' := .pv (.sl 4 (L.map Count.row))) rfl ⟨L, k, hk, by omega, hL, rfl, rfl⟩
end Go.Proofs.YtihpjcmloecaaaaGreat.Cw
namespace Go.Proofs.YtihpjcmloecaaaaGreat.Cw
open Go.Cw Go.Proofs
set_option linter.unusedVariables false
set_option maxRecDepth 100000
set_option maxHeartbeats 30000000
theorem stageB {Q : Exit → zw → zt → Prop} {rest : Code} (t : List Int) (ht : t.length ≤ 400) (a b : Int) (r : Int) (r1 : 1 ≤ r) (r2 : r ≤ 4) (k : Nat) (r0 : k ≤ t.length) (ha : 0 ≤ a ∧ a ≤ 5) (hb : 1 ≤ b ∧ b ≤ 4)
  (later : Later (∀ x : Nat × List (List Opt), (x.1 ≤ t.length ∧ x.2.length ≤ 5 ∧ ∀ l ∈ x.2, ClsQ r l) → zP [qd t x.1, ql, mb (.pv (.sl 1 (x.2.map zA))) qr qr r] fun H1 => zU Tryz.prog T 199 1 rest Q ([] ++ [(7, .ptr 2 4 0 0), (6, .ptr (0 + 1) 4 0 0), (0, .ptr 0 2 0 0), (0 + 1, zg .i64 a), (0 + 1 + 1, zg .i64 b)]) H1)) :
  zU Tryz.prog T 199 1 (.seq codeB rest) Q ([] ++ [(7, .ptr 2 4 0 0), (6, .ptr (0 + 1) 4 0 0), (0, .ptr 0 2 0 0), (0 + 1, zg .i64 a), (0 + 1 + 1, zg .i64 b)]) [qd t k, ql, mb qr qr qr r] := by
 show zU _ _ _ _ (.seq (.seq (.region 2 _ _) _) rest) _ _ _
 dsimp only [ql, mb, qr]
 repeat' (first | (refine zcE (a := .seq (.region 2 _ _) _) (fun _ => []) (fun x : Nat × List (List Opt) => [qd t x.1, ql, mb (.pv (.sl 1 (x.2.map zA))) qr qr r]) (fun x => x.1 ≤ t.length ∧ x.2.length ≤ 5 ∧ ∀ l ∈ x.2, ClsQ r l) ?_) | refine o1 ?_ | refine o2 ?_ | refine k1 ?_ | refine k2 ?_ | refine k4 ?_ | refine And.intro ?_ ?_ | refine zc (by omega) (by omega) ?_ | (change zp _ _ _ _ _; refine qi 0 rfl (by assumption) (by assumption) (by omega) (by omega) ?_; intro v kq hv1 hv2 hkq) | fail)
 · refine zB (fun x : Nat × Nat × List (List Opt) => [(7, .ptr 2 4 0 0), (6, .ptr (0 + 1) 4 0 0), (0, .ptr 0 2 0 0), (0 + 1, zg .i64 a), (0 + 1 + 1, zg .i64 b), (8, zg .i64 x.1)]) (fun x => [qd t x.2.1, ql, mb (slP 3 1 (x.2.2.map zA)) qr qr r, obP 51 1 (x.2.2.map zA)]) (fun x => x.1 + x.2.2.length ≤ 5 ∧ x.2.1 ≤ t.length ∧ ∀ l ∈ x.2.2, ClsQ r l) (fun x => x.1) (v.toNat, kq, []) ⟨by simp; omega, hkq, fun l hl => absurd hl List.not_mem_nil⟩ ?_ ?_
   · refine zJ [0, 1, 2, 3] rfl rfl ?_ ?_
     · repeat' (first | exact trivial | exact rfl | refine zl z7 rfl ?_ | refine And.intro ?_ ?_)
     · have hvn : v = ((v.toNat : Nat) : Int) := by omega
       rw [← hvn]
       repeat' (first | exact trivial | exact rfl | refine And.intro ?_ ?_)
   rintro ⟨n, k, cls⟩ ⟨c1, c2, c3⟩
   dsimp only at c1 c2 c3 ⊢
   dsimp only [ql, mb]
   rcases Nat.eq_zero_or_pos n with rfl | hn
   · repeat' (first | (refine z6 ?_) | refine o1 ?_ | refine o2 ?_ | refine k1 ?_ | refine k2 ?_ | refine k3 ?_ | refine k8 ?_ | refine And.intro ?_ ?_ | (intro h; first | exact Bool.noConfusion h | exact nz _ h | exact nl h | (simp at h; done) | (simp at h; first | (exfalso; omega) | skip) | skip) | fail)
     all_goals try (exfalso; omega)
     refine ⟨(k, cls), ⟨c2, by dsimp only; omega, c3⟩, ?_⟩
     refine zD.shut_sl (i := 2) (c := 0) (id := 3) (rows := cls.map zA) rfl rfl rfl (by decide) fun H' hl h2 hH => ?_
     refine zJ [0, 1, 2] rfl rfl ⟨hH 0 (by decide) (by decide), hH 1 (by decide) (by decide), h2, trivial⟩ ?_
     repeat' (first | exact trivial | exact rfl | refine And.intro ?_ ?_)
   · have hb1 : ((cls.map zA).length + 1) * 24 ≤ 140737488355328 := by rw [List.length_map]; omega
     have hb2 : (cls.map zA).length + 1 ≤ 9223372036854775807 := by rw [List.length_map]; omega
     repeat' (first | (refine z6 ?_) | refine o1 ?_ | refine o2 ?_ | refine k1 ?_ | refine k2 ?_ | refine k3 ?_ | refine k4 ?_ | refine k6 ?_ | refine And.intro ?_ ?_ | (intro h; first | exact Bool.noConfusion h | exact nz _ h | exact nl h | (simp at h; done) | (simp at h; first | (exfalso; omega) | skip) | skip) | refine zc (by omega) (by omega) ?_ | (change zp _ _ _ _ _; refine qi 0 rfl (by assumption) (by assumption) (by omega) (by omega) ?_; intro v kq hv1 hv2 hkq) | fail)
     all_goals try (exfalso; omega)
     rename_i v kq hv1 hv2 hkq
     refine zB (fun x : Nat × Nat × List Opt => [(7, .ptr 2 4 0 0), (6, .ptr (0 + 1) 4 0 0), (0, .ptr 0 2 0 0), (0 + 1, zg .i64 a), (0 + 1 + 1, zg .i64 b), (8, zg .i64 n), (9, slP 4 6 (x.2.2.map Opt.row)), (10, zg .i64 x.1)]) (fun x => [qd t x.2.1, ql, mb (slP 3 1 (cls.map zA)) qr qr r, obP 51 1 (cls.map zA), obP 62 6 (x.2.2.map Opt.row)]) (fun x => (x.1 + x.2.2.length ≤ 4 ∧ 1 ≤ x.1 + x.2.2.length) ∧ x.2.1 ≤ t.length ∧ ∀ o ∈ x.2.2, OptQ r o) (fun x => x.1) ((1 + v).toNat, kq, []) ⟨by simp; omega, hkq, fun o ho => absurd ho List.not_mem_nil⟩ ?_ ?_
     · refine zJ [0, 1, 2, 3, 4] rfl rfl ?_ ?_
       · repeat' (first | exact trivial | exact rfl | refine zu rfl ?_ | refine zl z7 rfl ?_ | refine And.intro ?_ ?_)
       · have hvn : 1 + v = (((1 + v).toNat : Nat) : Int) := by omega
         rw [← hvn]
         repeat' (first | exact trivial | exact rfl | refine And.intro ?_ ?_)
     rintro ⟨n2, k, ops⟩ ⟨g1, g2, g3⟩
     dsimp only at g1 g2 g3 ⊢
     dsimp only [ql, mb]
     rcases Nat.eq_zero_or_pos n2 with rfl | hn2
     · refine zq ?_
       refine qh (Γ' := [(7, .ptr 2 4 0 0), (6, .ptr (0 + 1) 4 0 0), (0, .ptr 0 2 0 0), (0 + 1, zg .i64 a), (0 + 1 + 1, zg .i64 b), (8, zg .i64 n), (9, .pv (.sl 6 (ops.map Opt.row))), (10, zg .i64 (0 : Nat))]) (H' := [qd t k, ql, mb (slP 3 1 (cls.map zA)) qr qr r, obP 51 1 (cls.map zA)]) (zD.sl (s := 9) (id := 4) rfl rfl fun H' hl hH => ?_) ?_
       · refine zJ [0, 1, 2, 3] rfl rfl ⟨hH 0 (by decide), hH 1 (by decide), zl z7 (hH 2 (by decide)) (zu (hH 3 (by decide)) trivial)⟩ ?_
         repeat' (first | exact trivial | exact rfl | refine And.intro ?_ ?_)
       dsimp only [ql, mb]
       repeat' (first | (refine xl ?_) | (refine z6 ?_) | ((refine zbB (r := zA ops) rfl rfl rfl rfl rfl rfl rfl rfl rfl rfl rfl hb1 hb2 ?_)) | refine o1 ?_ | refine o2 ?_ | refine k1 ?_ | refine k2 ?_ | refine k3 ?_ | refine k8 ?_ | refine And.intro ?_ ?_ | (intro h; first | exact Bool.noConfusion h | exact nz _ h | exact nl h | (simp at h; done) | (simp at h; first | (exfalso; omega) | skip) | skip) | refine zc (by omega) (by omega) ?_ | fail)
       all_goals try (exfalso; omega)
       refine ⟨(n - 1, k, cls ++ [ops]), ⟨by simp; omega, g2, zb1 c3 ⟨by omega, by omega, g3⟩⟩, by dsimp only; omega, ?_⟩
       dsimp only
       rw [zM, qn, qo]
       refine zJ [0, 1, 2, 5] rfl rfl ?_ ?_
       · repeat' (first | exact trivial | exact rfl | refine And.intro ?_ ?_)
       · have hnn : ((n - 1 : Nat) : Int) = (n : Int) - 1 := by omega
         rw [hnn]
         repeat' (first | exact trivial | exact rfl | refine And.intro ?_ ?_)
     · have hb3 : ((ops.map Opt.row).length + 1) * 64 ≤ 140737488355328 := by rw [List.length_map]; omega
       have hb4 : (ops.map Opt.row).length + 1 ≤ 9223372036854775807 := by rw [List.length_map]; omega
       repeat' (first | (refine z6 ?_) | refine o1 ?_ | refine o2 ?_ | refine k1 ?_ | refine k2 ?_ | refine k3 ?_ | refine k4 ?_ | refine k6 ?_ | refine And.intro ?_ ?_ | (intro h; first | exact Bool.noConfusion h | exact nz _ h | exact nl h | (simp at h; done) | (simp at h; first | (exfalso; omega) | skip) | skip) | exact (by kernel_rfl : zn _ _ = true) | refine zc (by omega) (by omega) ?_ | (change zp _ _ _ _ _; refine qi 0 rfl (by assumption) (by assumption) (by omega) (by omega) ?_; intro v kq hv1 hv2 hkq) | fail)
       all_goals try (exfalso; omega)
       rename_i v1 q1 a1 a2 a3 v2 q2 e1 e2 e3 v3 q3 f1 f2 f3
       refine zB (fun x : Nat × Nat × List Charge => [(7, .ptr 2 4 0 0), (6, .ptr (0 + 1) 4 0 0), (0, .ptr 0 2 0 0), (0 + 1, zg .i64 a), (0 + 1 + 1, zg .i64 b), (8, zg .i64 n), (9, slP 4 6 (ops.map Opt.row)), (10, zg .i64 n2), (11, .ptr 5 6 0 0), (12, zg .i64 x.1)]) (fun x => [qd t x.2.1, ql, mb (slP 3 1 (cls.map zA)) qr qr r, obP 51 1 (cls.map zA), obP 62 6 (ops.map Opt.row), ob5 (1 + v1) v2 v3 1 (v - 1) (slP 6 2 (x.2.2.map Charge.row)), obP 98 2 (x.2.2.map Charge.row)]) (fun x => x.1 ≤ r.toNat ∧ x.2.1 ≤ t.length ∧ ChQ r x.1 x.2.2) (fun x => r.toNat - x.1) (0, kq, []) ⟨Nat.zero_le _, by assumption, ChQ.nil⟩ ?_ ?_
       · refine zJ [0, 1, 2, 3, 4, 5, 6] rfl rfl ?_ ?_
         · repeat' (first | exact trivial | exact rfl | refine zu rfl ?_ | refine zl z7 rfl ?_ | refine zl zk7 rfl ?_ | refine And.intro ?_ ?_)
         · repeat' (first | exact trivial | exact rfl | exact zG rfl | refine And.intro ?_ ?_)
       rintro ⟨u, k, chs⟩ ⟨u1, u2, u3⟩
       dsimp only at u1 u2 u3 ⊢
       have hu3 := u3.len
       dsimp only [ql, mb, ob5]
       rcases Nat.lt_or_ge u r.toNat with hu | hu
       · have hur : (u : Int) < r := by omega
         have hb5 : ((chs.map Charge.row).length + 1) * 16 ≤ 140737488355328 := by rw [List.length_map]; omega
         have hb6 : (chs.map Charge.row).length + 1 ≤ 9223372036854775807 := by rw [List.length_map]; omega
         repeat' (first | (refine xl ?_) | (refine z6 ?_) | ((change zp _ _ _ _ _; refine zku 0 rfl (by assumption) (by assumption) ?_; intro cn kc hcn hkc)) | ((refine zbB rfl rfl rfl rfl rfl rfl rfl rfl rfl rfl rfl hb5 hb6 ?_)) | refine o1 ?_ | refine o2 ?_ | refine k1 ?_ | refine k2 ?_ | refine k3 ?_ | refine k4 ?_ | refine k6 ?_ | refine And.intro ?_ ?_ | (intro h; first | exact Bool.noConfusion h | exact nz _ h | exact nl h | (simp at h; done) | (simp at h; first | (exfalso; omega) | skip) | skip) | refine zc (by omega) (by omega) ?_ | (change zp _ _ _ _ _; refine zaZ 0 rfl (by assumption) (by assumption) (by omega) (by omega) ?_; intro bq kq hkq) | fail)
         all_goals try (exfalso; omega)
         · refine ⟨(u + 1, kq, chs ++ [⟨u, cn⟩]), ⟨hu, by assumption, u3.app hur (hcn.resolve_left (by omega))⟩, by dsimp only; omega, ?_⟩
           dsimp only
           rw [zM, qn, qo]
           refine zJ [0, 1, 2, 3, 4, 5, 8] rfl rfl ?_ ?_
           · repeat' (first | exact trivial | exact rfl | refine zu rfl ?_ | refine zl z7 rfl ?_ | refine And.intro ?_ ?_)
           · repeat' (first | exact trivial | exact rfl | exact zG rfl | refine And.intro ?_ ?_)
         · refine ⟨(u + 1, kq, chs), ⟨hu, by assumption, u3.skip⟩, by dsimp only; omega, zJ [0, 1, 2, 3, 4, 5, 6] rfl rfl ?_ ?_⟩
           · repeat' (first | exact trivial | exact rfl | refine zu rfl ?_ | refine zl z7 rfl ?_ | refine zl zk7 rfl ?_ | refine And.intro ?_ ?_)
           · repeat' (first | exact trivial | exact rfl | exact zG rfl | refine And.intro ?_ ?_)
         · refine ⟨(u + 1, kc, chs), ⟨hu, by assumption, u3.skip⟩, by dsimp only; omega, zJ [0, 1, 2, 3, 4, 5, 6] rfl rfl ?_ ?_⟩
           · repeat' (first | exact trivial | exact rfl | refine zu rfl ?_ | refine zl z7 rfl ?_ | refine zl zk7 rfl ?_ | refine And.intro ?_ ?_)
           · repeat' (first | exact trivial | exact rfl | exact zG rfl | refine And.intro ?_ ?_)
       · refine zq ?_
         refine qh (Γ' := [(7, .ptr 2 4 0 0), (6, .ptr (0 + 1) 4 0 0), (0, .ptr 0 2 0 0), (0 + 1, zg .i64 a), (0 + 1 + 1, zg .i64 b), (8, zg .i64 n), (9, slP 4 6 (ops.map Opt.row)), (10, zg .i64 n2), (11, .ptr 5 6 0 0), (12, zg .i64 u)]) (H' := [qd t k, ql, mb (slP 3 1 (cls.map zA)) qr qr r, obP 51 1 (cls.map zA), obP 62 6 (ops.map Opt.row), ob5 (1 + v1) v2 v3 1 (v - 1) (.pv (.sl 2 (chs.map Charge.row)))]) (zD.shut_sl (i := 5) (c := 5) (id := 6) rfl rfl rfl (by decide) fun H' hl h2 hH => ?_) ?_
         · refine zJ [0, 1, 2, 3, 4, 5] rfl rfl ⟨hH 0 (by decide) (by decide), hH 1 (by decide) (by decide), zl z7 (hH 2 (by decide) (by decide)) (zu (hH 3 (by decide) (by decide)) (zu (hH 4 (by decide) (by decide)) ⟨h2, trivial⟩))⟩ ?_
           repeat' (first | exact trivial | exact rfl | exact zG rfl | refine And.intro ?_ ?_)
         dsimp only [ql, mb, ob5]
         repeat' (first | (refine xl ?_) | (refine z6 ?_) | ((refine zbB (r := Opt.row ⟨⟨⟨1 + v1, v2, v3, 1⟩, v - 1⟩, chs⟩) rfl rfl rfl rfl rfl rfl rfl rfl rfl rfl rfl hb3 hb4 ?_)) | refine o1 ?_ | refine o2 ?_ | refine k1 ?_ | refine k2 ?_ | refine k3 ?_ | refine k8 ?_ | refine And.intro ?_ ?_ | (intro h; first | exact Bool.noConfusion h | exact nz _ h | exact nl h | (simp at h; done) | (simp at h; first | (exfalso; omega) | skip) | skip) | refine zc (by omega) (by omega) ?_ | fail)
         all_goals try (exfalso; omega)
         refine ⟨(n2 - 1, k, ops ++ [⟨⟨⟨1 + v1, v2, v3, 1⟩, v - 1⟩, chs⟩]), ⟨by simp; omega, u2, zb1 g3 (show OptQ r ⟨⟨⟨1 + v1, v2, v3, 1⟩, v - 1⟩, chs⟩ from ⟨u3.at_, by dsimp only; omega⟩)⟩, by dsimp only; omega, ?_⟩
         dsimp only
         rw [zM, qn, qo]
         refine zJ [0, 1, 2, 3, 7] rfl rfl ?_ ?_
         · repeat' (first | exact trivial | exact rfl | refine zu rfl ?_ | refine zl z7 rfl ?_ | refine And.intro ?_ ?_)
         · have hnn : ((n2 - 1 : Nat) : Int) = (n2 : Int) - 1 := by omega
           rw [hnn]
           repeat' (first | exact trivial | exact rfl | refine And.intro ?_ ?_)
 · exact later
end Go.Proofs.YtihpjcmloecaaaaGreat.Cw
namespace Go.Proofs.YtihpjcmloecaaaaGreat.Cw
open Go.Cw Go.Proofs
set_option linter.unusedVariables false
set_option maxRecDepth 100000
set_option maxHeartbeats 30000000
theorem stageC {Q : Exit → zw → zt → Prop} {rest : Code} (t : List Int) (ht : t.length ≤ 400) (a b : Int) (r : Int) (r1 : 1 ≤ r) (r2 : r ≤ 4) (k : Nat) (cls : List (List Opt)) (s1 : k ≤ t.length) (s2 : cls.length ≤ 5) (hcls : ∀ l ∈ cls, ClsQ r l)
  (later : Later (∀ x : Nat × List Pair, (x.1 ≤ t.length ∧ (∀ j, j < x.2.length → zcb ⟨cls, x.2, [], r⟩ j) ∧ x.2.length ≤ 200) → zP [qd t x.1, ql, mb (.pv (.sl 1 (cls.map zA))) (.pv (.sl 4 (x.2.map Pair.row))) qr r] fun H1 => zU Tryz.prog T 199 1 rest Q ([] ++ [(7, .ptr 2 4 0 0), (6, .ptr (0 + 1) 4 0 0), (0, .ptr 0 2 0 0), (0 + 1, zg .i64 a), (0 + 1 + 1, zg .i64 b)]) H1)) :
  zU Tryz.prog T 199 1 (.seq codeC rest) Q ([] ++ [(7, .ptr 2 4 0 0), (6, .ptr (0 + 1) 4 0 0), (0, .ptr 0 2 0 0), (0 + 1, zg .i64 a), (0 + 1 + 1, zg .i64 b)]) [qd t k, ql, mb (.pv (.sl 1 (cls.map zA))) qr qr r] := by
 show zU _ _ _ _ (.seq (.seq (.region 18 _ _) _) rest) _ _ _
 dsimp only [ql, mb, qr]
 repeat' (first | (refine zcE (a := .seq (.region 18 _ _) _) (fun _ => []) (fun x : Nat × List Pair => [qd t x.1, ql, mb (.pv (.sl 1 (cls.map zA))) (.pv (.sl 4 (x.2.map Pair.row))) qr r]) (fun x => x.1 ≤ t.length ∧ (∀ j, j < x.2.length → zcb ⟨cls, x.2, [], r⟩ j) ∧ x.2.length ≤ 200) ?_) | refine o1 ?_ | refine o2 ?_ | refine k1 ?_ | refine k2 ?_ | refine k4 ?_ | refine And.intro ?_ ?_ | fail)
 · refine zB (fun x : Nat × Nat × List Pair => [(7, .ptr 2 4 0 0), (6, .ptr (0 + 1) 4 0 0), (0, .ptr 0 2 0 0), (0 + 1, zg .i64 a), (0 + 1 + 1, zg .i64 b), (14, zg .i64 x.1)]) (fun x => [qd t x.2.1, ql, mb (.pv (.sl 1 (cls.map zA))) (slP 3 4 (x.2.2.map Pair.row)) qr r, obP 72 4 (x.2.2.map Pair.row)]) (fun x => x.1 ≤ r.toNat ∧ x.2.1 ≤ t.length ∧ PrQ cls r x.2.2 x.1 0 0) (fun x => r.toNat - x.1) (0, k, []) ⟨Nat.zero_le _, s1, PrQ.nil⟩ ?_ ?_
   · refine zJ [0, 1, 2, 3] rfl rfl ?_ ?_
     · repeat' (first | exact trivial | exact rfl | refine zl zV rfl ?_ | refine And.intro ?_ ?_)
     · repeat' (first | exact trivial | exact rfl | refine And.intro ?_ ?_)
   rintro ⟨u, k, prs⟩ ⟨u1, u2, u3⟩
   dsimp only at u1 u2 u3 ⊢
   have ul := u3.len
   dsimp only [ql, mb]
   rcases Nat.lt_or_ge u r.toNat with hu | hu
   · have hu1 : (u : Int) < r := by omega
     repeat' (first | (refine z6 ?_) | refine o1 ?_ | refine o2 ?_ | refine k1 ?_ | refine k2 ?_ | refine k3 ?_ | refine k4 ?_ | refine k6 ?_ | refine And.intro ?_ ?_ | (intro h; first | exact Bool.noConfusion h | exact nz _ h | exact nl h | (simp at h; done) | (simp at h; first | (exfalso; omega) | skip) | skip) | fail)
     refine zB (fun x : Nat × Nat × List Pair => [(7, .ptr 2 4 0 0), (6, .ptr (0 + 1) 4 0 0), (0, .ptr 0 2 0 0), (0 + 1, zg .i64 a), (0 + 1 + 1, zg .i64 b), (14, zg .i64 u), (15, zg .i64 x.1)]) (fun x => [qd t x.2.1, ql, mb (.pv (.sl 1 (cls.map zA))) (slP 3 4 (x.2.2.map Pair.row)) qr r, obP 72 4 (x.2.2.map Pair.row)]) (fun x => x.1 ≤ cls.length ∧ x.2.1 ≤ t.length ∧ PrQ cls r x.2.2 u x.1 0) (fun x => cls.length - x.1) (0, k, prs) ⟨Nat.zero_le _, u2, u3⟩ ?_ ?_
     · refine zJ [0, 1, 2, 3] rfl rfl ?_ ?_
       · repeat' (first | exact trivial | exact rfl | refine zu rfl ?_ | refine zl zV rfl ?_ | refine And.intro ?_ ?_)
       · repeat' (first | exact trivial | exact rfl | refine And.intro ?_ ?_)
     rintro ⟨i, k, prs⟩ ⟨i1, i2, i3⟩
     dsimp only at i1 i2 i3 ⊢
     have il := i3.len
     dsimp only [ql, mb]
     rcases Nat.lt_or_ge i cls.length with hi1 | hi1
     · repeat' (first | (refine z6 ?_) | refine o1 ?_ | refine o2 ?_ | refine k1 ?_ | refine k2 ?_ | refine k3 ?_ | refine k4 ?_ | refine k6 ?_ | refine And.intro ?_ ?_ | (intro h; first | exact Bool.noConfusion h | exact nz _ h | exact nl h | (simp at h; done) | (simp at h; first | (exfalso; omega) | skip) | skip) | refine za ?_ | refine zc (by omega) (by omega) ?_ | fail)
       refine zB (fun x : Nat × Nat × List Pair => [(7, .ptr 2 4 0 0), (6, .ptr (0 + 1) 4 0 0), (0, .ptr 0 2 0 0), (0 + 1, zg .i64 a), (0 + 1 + 1, zg .i64 b), (14, zg .i64 u), (15, zg .i64 i), (16, zg .i64 x.1)]) (fun x => [qd t x.2.1, ql, mb (.pv (.sl 1 (cls.map zA))) (slP 3 4 (x.2.2.map Pair.row)) qr r, obP 72 4 (x.2.2.map Pair.row)]) (fun x => (i < x.1 ∧ x.1 ≤ cls.length) ∧ x.2.1 ≤ t.length ∧ PrQ cls r x.2.2 u i x.1) (fun x => cls.length - x.1) (i + 1, k, prs) ⟨⟨by dsimp only; omega, by dsimp only; omega⟩, i2, i3.toK⟩ ?_ ?_
       · refine zJ [0, 1, 2, 3] rfl rfl ?_ ?_
         · repeat' (first | exact trivial | exact rfl | refine zu rfl ?_ | refine zl zV rfl ?_ | refine And.intro ?_ ?_)
         · repeat' (first | exact trivial | exact rfl | refine And.intro ?_ ?_)
       rintro ⟨kk, k, prs⟩ ⟨⟨j0, j1⟩, j2, j3⟩
       dsimp only at j0 j1 j2 j3 ⊢
       have jl := j3.len
       dsimp only [ql, mb]
       rcases Nat.lt_or_ge kk cls.length with hkk | hkk
       · obtain ⟨la, hla⟩ := qj hi1
         obtain ⟨lb, hlb⟩ := qj hkk
         have hq1 := hcls la (List.mem_of_getElem? hla)
         have hq2 := hcls lb (List.mem_of_getElem? hlb)
         have hab : la.length * lb.length ≤ 16 := Nat.mul_le_mul hq1.2.1 hq2.2.1
         have hcast : ((la.length * lb.length : Nat) : Int) = (la.length : Int) * lb.length := by simp
         have hb1 : ((prs.map Pair.row).length + 1) * 48 ≤ 140737488355328 := by rw [List.length_map]; omega
         have hb2 : (prs.map Pair.row).length + 1 ≤ 9223372036854775807 := by rw [List.length_map]; omega
         repeat' (first | (refine z6 ?_) | (refine zj (k := i) (zf hla) (by omega) ?_) | (refine zj (k := kk) (zf hlb) (by omega) ?_) | (refine zi ((la.length * lb.length : Nat) : Int) (by rw [hcast]; exact wrap64 (by omega) (by omega)) ?_) | refine o1 ?_ | refine o2 ?_ | refine k1 ?_ | refine k2 ?_ | refine k3 ?_ | refine k4 ?_ | refine k6 ?_ | refine And.intro ?_ ?_ | refine o3 ?_ | refine o4 ?_ | (intro h; first | exact Bool.noConfusion h | exact nz _ h | exact nl h | (simp at h; done) | (simp at h; first | (exfalso; omega) | skip) | skip) | exact (by kernel_rfl : zn _ _ = true) | refine za ?_ | refine zc (by omega) (by omega) ?_ | (change zp _ _ _ _ _; refine zaZ 0 rfl (by assumption) (by assumption) (by omega) (by omega) ?_; intro bq kq hkq) | fail)
         · refine zB (fun x : Nat × Nat × List Int => [(7, .ptr 2 4 0 0), (6, .ptr (0 + 1) 4 0 0), (0, .ptr 0 2 0 0), (0 + 1, zg .i64 a), (0 + 1 + 1, zg .i64 b), (14, zg .i64 u), (15, zg .i64 i), (16, zg .i64 kk), (17, .ptr 4 4 0 0), (18, zg .i64 x.1)]) (fun x => [qd t x.2.1, ql, mb (.pv (.sl 1 (cls.map zA))) (slP 3 4 (prs.map Pair.row)) qr r, obP 72 4 (prs.map Pair.row), pb4 i kk u (slP 5 1 (x.2.2.map fun n => [ei n])), obP 3 1 (x.2.2.map fun n => [ei n])]) (fun x => x.1 + x.2.2.length = la.length * lb.length ∧ x.2.1 ≤ t.length ∧ ∀ y ∈ x.2.2, y = 0 ∨ qF y) (fun x => x.1) (la.length * lb.length, kq, []) ⟨by simp, hkq, fun y hy => absurd hy List.not_mem_nil⟩ ?_ ?_
           · refine zJ [0, 1, 2, 3, 4, 5] rfl rfl ?_ ?_
             · repeat' (first | exact trivial | exact rfl | refine zu rfl ?_ | refine zl qe rfl ?_ | refine zl zV rfl ?_ | refine And.intro ?_ ?_)
             · repeat' (first | exact trivial | exact rfl | refine And.intro ?_ ?_)
           rintro ⟨j, k, tb⟩ ⟨t1, t2, t3⟩
           dsimp only at t1 t2 t3 ⊢
           dsimp only [ql, mb, pb4]
           rcases Nat.eq_zero_or_pos j with rfl | hj
           · refine zq ?_
             refine qh (Γ' := [(7, .ptr 2 4 0 0), (6, .ptr (0 + 1) 4 0 0), (0, .ptr 0 2 0 0), (0 + 1, zg .i64 a), (0 + 1 + 1, zg .i64 b), (14, zg .i64 u), (15, zg .i64 i), (16, zg .i64 kk), (17, .ptr 4 4 0 0), (18, zg .i64 (0 : Nat))]) (H' := [qd t k, ql, mb (.pv (.sl 1 (cls.map zA))) (slP 3 4 (prs.map Pair.row)) qr r, obP 72 4 (prs.map Pair.row), pb4 i kk u (.pv (.sl 1 (tb.map fun n => [ei n])))]) (zD.shut_sl (i := 4) (c := 3) (id := 5) rfl rfl rfl (by decide) fun H' hl h2 hH => ?_) ?_
             · refine zJ [0, 1, 2, 3, 4] rfl rfl ⟨hH 0 (by decide) (by decide), hH 1 (by decide) (by decide), zl zV (hH 2 (by decide) (by decide)) (zu (hH 3 (by decide) (by decide)) ⟨h2, trivial⟩)⟩ ?_
               repeat' (first | exact trivial | exact rfl | refine And.intro ?_ ?_)
             dsimp only [ql, mb, pb4]
             repeat' (first | (refine xl ?_) | (refine z6 ?_) | ((refine zbB rfl rfl rfl rfl rfl rfl rfl rfl rfl rfl rfl hb1 hb2 ?_)) | refine o1 ?_ | refine o2 ?_ | refine k1 ?_ | refine k2 ?_ | refine k3 ?_ | refine k8 ?_ | refine And.intro ?_ ?_ | (intro h; first | exact Bool.noConfusion h | exact nz _ h | exact nl h | (simp at h; done) | (simp at h; first | (exfalso; omega) | skip) | skip) | refine zc (by omega) (by omega) ?_ | fail)
             refine ⟨(kk + 1, k, prs ++ [⟨i, kk, u, tb⟩]), ⟨⟨by dsimp only; omega, by dsimp only; omega⟩, t2, j3.app (zgC hla hlb j0 hu1 (by omega) t3)⟩, by dsimp only; omega, ?_⟩
             dsimp only
             rw [zM, qn, qo]
             refine zJ [0, 1, 2, 6] rfl rfl ?_ ?_
             · repeat' (first | exact trivial | exact rfl | refine And.intro ?_ ?_)
             · repeat' (first | exact trivial | exact rfl | refine And.intro ?_ ?_)
           have hb3 : ((tb.map fun n => [ei n]).length + 1) * 8 ≤ 140737488355328 := by rw [List.length_map]; omega
           have hb4 : (tb.map fun n => [ei n]).length + 1 ≤ 9223372036854775807 := by rw [List.length_map]; omega
           repeat' (first | (refine xl ?_) | (refine z6 ?_) | ((change zI _ _ _ _ _; refine znN 0 rfl (by assumption) (by assumption) ?_; intro cn kc hcn hkc)) | ((refine zcc rfl rfl rfl rfl rfl rfl rfl rfl rfl rfl rfl hb3 hb4 ?_)) | refine o1 ?_ | refine o2 ?_ | refine k1 ?_ | refine k2 ?_ | refine k3 ?_ | refine k4 ?_ | refine k6 ?_ | refine And.intro ?_ ?_ | refine o3 ?_ | refine o4 ?_ | (intro h; first | exact Bool.noConfusion h | exact nz _ h | exact nl h | (simp at h; done) | (simp at h; first | (exfalso; omega) | skip) | skip) | exact (by kernel_rfl : zn _ _ = true) | refine zc (by omega) (by omega) ?_ | fail)
           all_goals
            refine ⟨(j - 1, kc, tb ++ [cn]), ⟨by dsimp only; rw [List.length_append]; simp only [List.length_cons, List.length_nil]; omega, hkc, zb1 t3 hcn⟩, by dsimp only; omega, ?_⟩
            dsimp only
            rw [zM, qn, qo]
            refine zJ [0, 1, 2, 3, 4, 7] rfl rfl ?_ ⟨rfl, rfl, rfl, rfl, rfl, rfl, rfl, rfl, rfl, zk1 rfl (congrArg (zg .i64) (by show _ = ((j - 1 : Nat) : Int); omega)), trivial⟩
            repeat' (first | exact trivial | exact rfl | refine zu rfl ?_ | refine zl zV rfl ?_ | refine And.intro ?_ ?_)
         · refine ⟨(kk + 1, kq, prs), ⟨⟨by dsimp only; omega, by dsimp only; omega⟩, hkq, j3.skip⟩, by dsimp only; omega, ?_⟩
           dsimp only
           refine zJ [0, 1, 2, 3] rfl rfl ?_ ?_
           · repeat' (first | exact trivial | exact rfl | refine zu rfl ?_ | refine zl zV rfl ?_ | refine And.intro ?_ ?_)
           · repeat' (first | exact trivial | exact rfl | refine And.intro ?_ ?_)
       · obtain rfl : kk = cls.length := by omega
         repeat' (first | (refine z6 ?_) | refine o1 ?_ | refine o2 ?_ | refine k1 ?_ | refine k2 ?_ | refine k3 ?_ | refine k8 ?_ | refine And.intro ?_ ?_ | (intro h; first | exact Bool.noConfusion h | exact nz _ h | exact nl h | (simp at h; done) | (simp at h; first | (exfalso; omega) | skip) | skip) | refine za ?_ | refine zc (by omega) (by omega) ?_ | fail)
         refine ⟨(i + 1, k, prs), ⟨by dsimp only; omega, j2, j3.toI (by omega)⟩, by dsimp only; omega, ?_⟩
         dsimp only
         refine zJ [0, 1, 2, 3] rfl rfl ?_ ?_
         · repeat' (first | exact trivial | exact rfl | refine zu rfl ?_ | refine zl zV rfl ?_ | refine And.intro ?_ ?_)
         · repeat' (first | exact trivial | exact rfl | refine And.intro ?_ ?_)
     · obtain rfl : i = cls.length := by omega
       repeat' (first | (refine z6 ?_) | refine o1 ?_ | refine o2 ?_ | refine k1 ?_ | refine k2 ?_ | refine k3 ?_ | refine k8 ?_ | refine And.intro ?_ ?_ | (intro h; first | exact Bool.noConfusion h | exact nz _ h | exact nl h | (simp at h; done) | (simp at h; first | (exfalso; omega) | skip) | skip) | refine za ?_ | refine zc (by omega) (by omega) ?_ | fail)
       refine ⟨(u + 1, k, prs), ⟨by dsimp only; omega, i2, i3.toU (by omega)⟩, by dsimp only; omega, ?_⟩
       dsimp only
       refine zJ [0, 1, 2, 3] rfl rfl ?_ ?_
       · repeat' (first | exact trivial | exact rfl | refine zu rfl ?_ | refine zl zV rfl ?_ | refine And.intro ?_ ?_)
       · repeat' (first | exact trivial | exact rfl | refine And.intro ?_ ?_)
   · obtain rfl : u = r.toNat := by omega
     refine zq ?_
     refine qh (Γ' := [(7, .ptr 2 4 0 0), (6, .ptr (0 + 1) 4 0 0), (0, .ptr 0 2 0 0), (0 + 1, zg .i64 a), (0 + 1 + 1, zg .i64 b), (14, zg .i64 r.toNat)]) (H' := [qd t k, ql, mb (.pv (.sl 1 (cls.map zA))) (.pv (.sl 4 (prs.map Pair.row))) qr r]) (zD.shut_sl (i := 2) (c := 1) (id := 3) rfl rfl rfl (by decide) fun H' hl h2 hH => ?_) ?_
     · refine zJ [0, 1, 2] rfl rfl ⟨hH 0 (by decide) (by decide), hH 1 (by decide) (by decide), h2, trivial⟩ ?_
       repeat' (first | exact trivial | exact rfl | refine And.intro ?_ ?_)
     dsimp only [ql, mb]
     repeat' (first | refine o1 ?_ | refine o2 ?_ | refine k1 ?_ | refine k2 ?_ | refine k3 ?_ | refine k8 ?_ | refine And.intro ?_ ?_ | (intro h; first | exact Bool.noConfusion h | exact nz _ h | exact nl h | (simp at h; done) | (simp at h; first | (exfalso; omega) | skip) | skip) | fail)
     exact ⟨(k, prs), ⟨u2, u3.at_, by dsimp only; omega⟩, zJ [0, 1, 2] rfl rfl (by repeat' (first | exact trivial | exact rfl | refine And.intro ?_ ?_)) (by repeat' (first | exact trivial | exact rfl | refine And.intro ?_ ?_))⟩
 · exact later
end Go.Proofs.YtihpjcmloecaaaaGreat.Cw
namespace Go.Proofs.YtihpjcmloecaaaaGreat.Cw
open Go.Cw Go.Proofs
set_option linter.unusedVariables false
set_option maxRecDepth 100000
set_option maxHeartbeats 30000000
theorem stageD {Q : Exit → zw → zt → Prop} {rest : Code} (t : List Int) (ht : t.length ≤ 400) (a b : Int) (r : Int) (r1 : 1 ≤ r) (r2 : r ≤ 4) (k : Nat) (cls : List (List Opt)) (prs : List Pair) (s2 : cls.length ≤ 5) (hcls : ∀ l ∈ cls, ClsQ r l) (p1 : k ≤ t.length)
  (later : Later (∀ x : Nat × List Count, (x.1 ≤ t.length ∧ x.2.length ≤ 2 ∧ ∀ c ∈ x.2, CtQ cls r c) → zP [qd t x.1, ql, mb (.pv (.sl 1 (cls.map zA))) (.pv (.sl 4 (prs.map Pair.row))) (.pv (.sl 4 (x.2.map Count.row))) r] fun H1 => zU Tryz.prog T 199 1 rest Q ([] ++ [(7, .ptr 2 4 0 0), (6, .ptr (0 + 1) 4 0 0), (0, .ptr 0 2 0 0), (0 + 1, zg .i64 a), (0 + 1 + 1, zg .i64 b)]) H1)) :
  zU Tryz.prog T 199 1 (.seq codeD rest) Q ([] ++ [(7, .ptr 2 4 0 0), (6, .ptr (0 + 1) 4 0 0), (0, .ptr 0 2 0 0), (0 + 1, zg .i64 a), (0 + 1 + 1, zg .i64 b)]) [qd t k, ql, mb (.pv (.sl 1 (cls.map zA))) (.pv (.sl 4 (prs.map Pair.row))) qr r] := by
 show zU _ _ _ _ (.seq (.seq (.region 34 _ _) _) rest) _ _ _
 dsimp only [ql, mb, qr]
 repeat' (first | (refine zcE (a := .seq (.region 34 _ _) _) (fun _ => []) (fun x : Nat × List Count => [qd t x.1, ql, mb (.pv (.sl 1 (cls.map zA))) (.pv (.sl 4 (prs.map Pair.row))) (.pv (.sl 4 (x.2.map Count.row))) r]) (fun x => x.1 ≤ t.length ∧ x.2.length ≤ 2 ∧ ∀ c ∈ x.2, CtQ cls r c) ?_) | refine o1 ?_ | refine o2 ?_ | refine k1 ?_ | refine k2 ?_ | refine k4 ?_ | refine And.intro ?_ ?_ | (change zp _ _ _ _ _; refine qi 0 rfl (by assumption) (by assumption) (by omega) (by omega) ?_; intro v kq hv1 hv2 hkq) | fail)
 · refine zB (fun x : Nat × Nat × List Count => [(7, .ptr 2 4 0 0), (6, .ptr (0 + 1) 4 0 0), (0, .ptr 0 2 0 0), (0 + 1, zg .i64 a), (0 + 1 + 1, zg .i64 b), (19, zg .i64 x.1)]) (fun x => [qd t x.2.1, ql, mb (.pv (.sl 1 (cls.map zA))) (.pv (.sl 4 (prs.map Pair.row))) (slP 3 4 (x.2.2.map Count.row)) r, obP 78 4 (x.2.2.map Count.row)]) (fun x => x.1 + x.2.2.length ≤ 2 ∧ x.2.1 ≤ t.length ∧ ∀ c ∈ x.2.2, CtQ cls r c) (fun x => x.1) (v.toNat, kq, []) ⟨by simp; omega, hkq, fun c hc => absurd hc List.not_mem_nil⟩ ?_ ?_
   · refine zJ [0, 1, 2, 3] rfl rfl ?_ ?_
     · repeat' (first | exact trivial | exact rfl | refine zl zcw rfl ?_ | refine And.intro ?_ ?_)
     · have hvn : v = ((v.toNat : Nat) : Int) := by omega
       rw [← hvn]
       repeat' (first | exact trivial | exact rfl | refine And.intro ?_ ?_)
   rintro ⟨n, k, cts⟩ ⟨d1, d2, d3⟩
   dsimp only at d1 d2 d3 ⊢
   dsimp only [ql, mb]
   rcases Nat.eq_zero_or_pos n with rfl | hn
   · repeat' (first | (refine z6 ?_) | refine o1 ?_ | refine o2 ?_ | refine k1 ?_ | refine k2 ?_ | refine k3 ?_ | refine k8 ?_ | refine And.intro ?_ ?_ | (intro h; first | exact Bool.noConfusion h | exact nz _ h | exact nl h | (simp at h; done) | (simp at h; first | (exfalso; omega) | skip) | skip) | fail)
     all_goals try (exfalso; omega)
     refine ⟨(k, cts), ⟨d2, by dsimp only; omega, d3⟩, ?_⟩
     refine zD.shut_sl (i := 2) (c := 2) (id := 3) (rows := cts.map Count.row) rfl rfl rfl (by decide) fun H' hl h2 hH => ?_
     refine zJ [0, 1, 2] rfl rfl ⟨hH 0 (by decide) (by decide), hH 1 (by decide) (by decide), h2, trivial⟩ ?_
     repeat' (first | exact trivial | exact rfl | refine And.intro ?_ ?_)
   · have hb1 : ((cts.map Count.row).length + 1) * 48 ≤ 140737488355328 := by rw [List.length_map]; omega
     have hb2 : (cts.map Count.row).length + 1 ≤ 9223372036854775807 := by rw [List.length_map]; omega
     repeat' (first | (refine z6 ?_) | ((change zp _ _ _ _ _; refine zku 0 rfl (by assumption) (by assumption) ?_; intro cn kc hcn hkc)) | (refine zcE (a := .region 37 _ _) (fun _ => [(20, .ptr 4 4 0 0)]) (fun x : Nat × Int × Int × Int => [qd t x.1, ql, mb (.pv (.sl 1 (cls.map zA))) (.pv (.sl 4 (prs.map Pair.row))) (slP 3 4 (cts.map Count.row)) r, obP 78 4 (cts.map Count.row), cb4 x.2.1 qr x.2.2.1 x.2.2.2]) (fun x => x.1 ≤ t.length ∧ (0 ≤ x.2.1 ∧ x.2.1 < r) ∧ (0 ≤ x.2.2.1 ∧ x.2.2.1 < 4) ∧ qF x.2.2.2) ?_) | refine o1 ?_ | refine o2 ?_ | refine k1 ?_ | refine k2 ?_ | refine k3 ?_ | refine k4 ?_ | refine k6 ?_ | refine And.intro ?_ ?_ | (intro h; first | exact Bool.noConfusion h | exact nz _ h | exact nl h | (simp at h; done) | (simp at h; first | (exfalso; omega) | skip) | skip) | exact (by kernel_rfl : zn _ _ = true) | (change zp _ _ _ _ _; refine qi 0 rfl (by assumption) (by assumption) (by omega) (by omega) ?_; intro v kq hv1 hv2 hkq) | fail)
     all_goals try (exfalso; omega)
     · rename_i v1 q1 a1 a2 a3
       refine ⟨(kc, v1, v, (bif true then (if cn > 1 then cn else 1) else (if cn < 1 then cn else 1))), ⟨hkc, ⟨a1, a2⟩, ⟨hv1, hv2⟩, ?_⟩, zJ [0, 1, 2, 3, 4] rfl rfl ?_ ?_⟩
       · dsimp only
         exact pen_ok hcn
       · repeat' (first | exact trivial | exact rfl | refine zu rfl ?_ | refine zl zcw rfl ?_ | refine And.intro ?_ ?_)
       · repeat' (first | exact trivial | exact rfl | refine And.intro ?_ ?_)
     refine ⟨?_⟩
     rintro ⟨k, ru, mo, pe⟩ ⟨m1, m2, m3, m4⟩
     dsimp only at m1 m2 m3 m4 ⊢
     dsimp only [ql, mb, cb4]
     repeat' (first | (refine z6 ?_) | refine o1 ?_ | refine o2 ?_ | refine k1 ?_ | refine k2 ?_ | refine k4 ?_ | fail)
     refine zB (fun x : Nat × Nat × List Load => [(7, .ptr 2 4 0 0), (6, .ptr (0 + 1) 4 0 0), (0, .ptr 0 2 0 0), (0 + 1, zg .i64 a), (0 + 1 + 1, zg .i64 b), (19, zg .i64 n), (20, .ptr 4 4 0 0), (21, zg .i64 x.1)]) (fun x => [qd t x.2.1, ql, mb (.pv (.sl 1 (cls.map zA))) (.pv (.sl 4 (prs.map Pair.row))) (slP 3 4 (cts.map Count.row)) r, obP 78 4 (cts.map Count.row), cb4 ru (slP 5 3 (x.2.2.map Load.row)) mo pe, obP 102 3 (x.2.2.map Load.row)]) (fun x => x.1 ≤ cls.length ∧ x.2.1 ≤ t.length ∧ LoQ cls x.2.2 x.1 0) (fun x => cls.length - x.1) (0, k, []) ⟨Nat.zero_le _, m1, LoQ.nil⟩ ?_ ?_
     · refine zJ [0, 1, 2, 3, 4, 5] rfl rfl ?_ ?_
       · repeat' (first | exact trivial | exact rfl | refine zu rfl ?_ | refine zl zcw rfl ?_ | refine zl zV rfl ?_ | refine And.intro ?_ ?_)
       · repeat' (first | exact trivial | exact rfl | refine And.intro ?_ ?_)
     rintro ⟨i, k, lds⟩ ⟨i1, i2, i3⟩
     dsimp only at i1 i2 i3 ⊢
     have il := i3.len
     dsimp only [ql, mb, cb4]
     rcases Nat.lt_or_ge i cls.length with hi1 | hi1
     · obtain ⟨la, hla⟩ := qj hi1
       have hq1 := hcls la (List.mem_of_getElem? hla)
       have hq2 := hq1.2.1
       repeat' (first | (refine z6 ?_) | refine o1 ?_ | refine o2 ?_ | refine k1 ?_ | refine k2 ?_ | refine k3 ?_ | refine k4 ?_ | refine k6 ?_ | refine And.intro ?_ ?_ | (intro h; first | exact Bool.noConfusion h | exact nz _ h | exact nl h | (simp at h; done) | (simp at h; first | (exfalso; omega) | skip) | skip) | refine za ?_ | fail)
       all_goals try (exfalso; omega)
       refine zB (fun x : Nat × Nat × List Load => [(7, .ptr 2 4 0 0), (6, .ptr (0 + 1) 4 0 0), (0, .ptr 0 2 0 0), (0 + 1, zg .i64 a), (0 + 1 + 1, zg .i64 b), (19, zg .i64 n), (20, .ptr 4 4 0 0), (21, zg .i64 i), (22, zg .i64 x.1)]) (fun x => [qd t x.2.1, ql, mb (.pv (.sl 1 (cls.map zA))) (.pv (.sl 4 (prs.map Pair.row))) (slP 3 4 (cts.map Count.row)) r, obP 78 4 (cts.map Count.row), cb4 ru (slP 5 3 (x.2.2.map Load.row)) mo pe, obP 102 3 (x.2.2.map Load.row)]) (fun x => x.1 ≤ la.length ∧ x.2.1 ≤ t.length ∧ LoQ cls x.2.2 i x.1) (fun x => la.length - x.1) (0, k, lds) ⟨Nat.zero_le _, i2, i3⟩ ?_ ?_
       · refine zJ [0, 1, 2, 3, 4, 5] rfl rfl ?_ ?_
         · repeat' (first | exact trivial | exact rfl | refine zu rfl ?_ | refine zl zcw rfl ?_ | refine zl zV rfl ?_ | refine And.intro ?_ ?_)
         · repeat' (first | exact trivial | exact rfl | refine And.intro ?_ ?_)
       rintro ⟨j, k, lds⟩ ⟨j1, j2, j3⟩
       dsimp only at j1 j2 j3 ⊢
       have jl := j3.len
       dsimp only [ql, mb, cb4]
       rcases Nat.lt_or_ge j la.length with hj1 | hj1
       · have hb3 : ((lds.map Load.row).length + 1) * 24 ≤ 140737488355328 := by rw [List.length_map]; omega
         have hb4 : (lds.map Load.row).length + 1 ≤ 9223372036854775807 := by rw [List.length_map]; omega
         repeat' (first | (refine xl ?_) | (refine z6 ?_) | (refine zj (k := i) (zf hla) (by omega) ?_) | ((refine zcc rfl rfl rfl rfl rfl rfl rfl rfl rfl rfl rfl hb3 hb4 ?_)) | refine o1 ?_ | refine o2 ?_ | refine k1 ?_ | refine k2 ?_ | refine k3 ?_ | refine k4 ?_ | refine k6 ?_ | refine And.intro ?_ ?_ | refine o3 ?_ | refine o4 ?_ | (intro h; first | exact Bool.noConfusion h | exact nz _ h | exact nl h | (simp at h; done) | (simp at h; first | (exfalso; omega) | skip) | skip) | exact (by kernel_rfl : zn _ _ = true) | refine za ?_ | refine zc (by omega) (by omega) ?_ | (change zp _ _ _ _ _; refine zaZ 0 rfl (by assumption) (by assumption) (by omega) (by omega) ?_; intro bq kq hkq) | (change zI _ _ _ _ _; refine qN 0 rfl (by assumption) (by assumption) (by omega) (by omega) ?_; intro v kq hv1 hv2 hkq) | fail)
         all_goals try (exfalso; omega)
         · refine ⟨(j + 1, kq, lds ++ [⟨i, j, 1 + v⟩]), ⟨hj1, by assumption, j3.app hla hj1 (by omega) (by omega)⟩, by dsimp only; omega, ?_⟩
           dsimp only
           rw [zM, qn, qo]
           refine zJ [0, 1, 2, 3, 4, 7] rfl rfl ?_ ?_
           · repeat' (first | exact trivial | exact rfl | refine zu rfl ?_ | refine zl zcw rfl ?_ | refine And.intro ?_ ?_)
           · repeat' (first | exact trivial | exact rfl | refine And.intro ?_ ?_)
         · refine ⟨(j + 1, kq, lds ++ [⟨i, j, 1 + v⟩]), ⟨hj1, by assumption, j3.app hla hj1 (by omega) (by omega)⟩, by dsimp only; omega, ?_⟩
           dsimp only
           rw [zM, qn, qo]
           refine zJ [0, 1, 2, 3, 4, 7] rfl rfl ?_ ?_
           · repeat' (first | exact trivial | exact rfl | refine zu rfl ?_ | refine zl zcw rfl ?_ | refine And.intro ?_ ?_)
           · repeat' (first | exact trivial | exact rfl | refine And.intro ?_ ?_)
         · refine ⟨(j + 1, kq, lds), ⟨hj1, by assumption, j3.skip⟩, by dsimp only; omega, zJ [0, 1, 2, 3, 4, 5] rfl rfl ?_ ?_⟩
           · repeat' (first | exact trivial | exact rfl | refine zu rfl ?_ | refine zl zcw rfl ?_ | refine zl zV rfl ?_ | refine And.intro ?_ ?_)
           · repeat' (first | exact trivial | exact rfl | refine And.intro ?_ ?_)
       · repeat' (first | (refine z6 ?_) | (refine zj (k := i) (zf hla) (by omega) ?_) | refine o1 ?_ | refine o2 ?_ | refine k1 ?_ | refine k2 ?_ | refine k3 ?_ | refine k8 ?_ | refine And.intro ?_ ?_ | (intro h; first | exact Bool.noConfusion h | exact nz _ h | exact nl h | (simp at h; done) | (simp at h; first | (exfalso; omega) | skip) | skip) | refine za ?_ | refine zc (by omega) (by omega) ?_ | fail)
         all_goals try (exfalso; omega)
         refine ⟨(i + 1, k, lds), ⟨hi1, j2, (show LoQ cls lds i j from j3).toI (by omega)⟩, by dsimp only; omega, zJ [0, 1, 2, 3, 4, 5] rfl rfl ?_ ?_⟩
         · repeat' (first | exact trivial | exact rfl | refine zu rfl ?_ | refine zl zcw rfl ?_ | refine zl zV rfl ?_ | refine And.intro ?_ ?_)
         · repeat' (first | exact trivial | exact rfl | refine And.intro ?_ ?_)
     · obtain rfl : i = cls.length := by omega
       refine zq ?_
       refine qh (Γ' := [(7, .ptr 2 4 0 0), (6, .ptr (0 + 1) 4 0 0), (0, .ptr 0 2 0 0), (0 + 1, zg .i64 a), (0 + 1 + 1, zg .i64 b), (19, zg .i64 n), (20, .ptr 4 4 0 0), (21, zg .i64 cls.length)]) (H' := [qd t k, ql, mb (.pv (.sl 1 (cls.map zA))) (.pv (.sl 4 (prs.map Pair.row))) (slP 3 4 (cts.map Count.row)) r, obP 78 4 (cts.map Count.row), cb4 ru (.pv (.sl 3 (lds.map Load.row))) mo pe]) (zD.shut_sl (i := 4) (c := 1) (id := 5) rfl rfl rfl (by decide) fun H' hl h2 hH => ?_) ?_
       · refine zJ [0, 1, 2, 3, 4] rfl rfl ⟨hH 0 (by decide) (by decide), hH 1 (by decide) (by decide), zl zcw (hH 2 (by decide) (by decide)) (zu (hH 3 (by decide) (by decide)) ⟨h2, trivial⟩)⟩ ?_
         repeat' (first | exact trivial | exact rfl | refine And.intro ?_ ?_)
       dsimp only [ql, mb, cb4]
       repeat' (first | (refine xl ?_) | (refine z6 ?_) | ((refine zbB rfl rfl rfl rfl rfl rfl rfl rfl rfl rfl rfl hb1 hb2 ?_)) | refine o1 ?_ | refine o2 ?_ | refine k1 ?_ | refine k2 ?_ | refine k3 ?_ | refine k8 ?_ | refine And.intro ?_ ?_ | (intro h; first | exact Bool.noConfusion h | exact nz _ h | exact nl h | (simp at h; done) | (simp at h; first | (exfalso; omega) | skip) | skip) | refine za ?_ | refine zc (by omega) (by omega) ?_ | fail)
       all_goals try (exfalso; omega)
       refine ⟨(n - 1, k, cts ++ [⟨ru, lds, mo, pe⟩]), ⟨by simp; omega, i2, zb1 d3 (show CtQ cls r ⟨ru, lds, mo, pe⟩ from ⟨⟨m2, m3.1, by dsimp only; omega, m4, i3.at_⟩, by dsimp only; omega⟩)⟩, by dsimp only; omega, ?_⟩
       dsimp only
       rw [zM, qn, qo]
       refine zJ [0, 1, 2, 6] rfl rfl ?_ ?_
       · repeat' (first | exact trivial | exact rfl | refine And.intro ?_ ?_)
       · have hnn : ((n - 1 : Nat) : Int) = (n : Int) - 1 := by omega
         rw [hnn]
         repeat' (first | exact trivial | exact rfl | refine And.intro ?_ ?_)
 · exact later
end Go.Proofs.YtihpjcmloecaaaaGreat.Cw
namespace Go.Proofs.YtihpjcmloecaaaaGreat.Cw
open Go.Cw Go.Proofs
set_option linter.unusedVariables false
set_option maxRecDepth 100000
set_option maxHeartbeats 30000000
theorem zpK (t : List Int) (k : Nat) (ht : t.length ≤ 400) (hk : k ≤ t.length) (a b : Int) (ha : 0 ≤ a ∧ a ≤ 5) (hb : 1 ≤ b ∧ b ≤ 4) :
  qf Tryz.prog 32 [.ptr 0 2 0 0, zg .i64 a, zg .i64 b] [qd t k] (fun r H' => ∃ (m : Model) (k' : Nat), k' ≤ t.length ∧ Made m ∧ (m.pairs.length ≤ 200 ∧ m.counts.length ≤ 2) ∧ r = ag m.cells ∧ H' = [qd t k']) := by
 refine zh tok mixed 199 rfl (fn := Tryz.f32) (c := Tryz.f32.body.getD .skip) (by kernel_rfl) (by kernel_rfl) (by kernel_rfl) rfl 1 rfl ?_
 repeat' (first | (refine zcE (a := .region 1 _ _) (fun _ => [(7, .ptr 2 4 0 0)]) (fun x : Nat × Int => [qd t x.1, ql, mb qr qr qr x.2]) (fun x => x.1 ≤ t.length ∧ 1 ≤ x.2 ∧ x.2 ≤ 4) ?_) | refine o1 ?_ | refine o2 ?_ | refine k1 ?_ | refine k2 ?_ | refine And.intro ?_ ?_ | exact (by kernel_rfl : zn _ _ = true) | refine zc (by omega) (by omega) ?_ | (change zp _ _ _ _ _; refine qi 0 rfl (by assumption) (by assumption) (by omega) (by omega) ?_; intro v kq hv1 hv2 hkq) | fail)
 · exact ⟨(kq, 1 + v), ⟨hkq, by dsimp only; omega, by dsimp only; omega⟩, zJ [0, 1, 2] rfl rfl (by repeat' (first | exact trivial | exact rfl | refine And.intro ?_ ?_)) (by repeat' (first | exact trivial | exact rfl | refine And.intro ?_ ?_))⟩
 refine ⟨?_⟩
 rintro ⟨k, r⟩ ⟨r0, r1, r2⟩
 dsimp only at r0 r1 r2
 rw [zY]
 refine stageB t ht a b r r1 r2 k r0 ha hb ?_
 refine ⟨?_⟩
 rintro ⟨k, cls⟩ ⟨s1, s2, hcls⟩
 dsimp only at s1 s2 hcls
 rw [zY]
 refine stageC t ht a b r r1 r2 k cls s1 s2 hcls ?_
 refine ⟨?_⟩
 rintro ⟨k, prs⟩ ⟨p1, p2, p3⟩
 dsimp only at p1 p2 p3
 rw [zY]
 refine stageD t ht a b r r1 r2 k cls prs s2 hcls p1 ?_
 refine ⟨?_⟩
 rintro ⟨k, cts⟩ ⟨q1, q2, q3⟩
 dsimp only at q1 q2 q3
 dsimp only [ql, mb, qr]
 repeat' (first | refine o1 ?_ | refine o2 ?_ | refine k1 ?_ | refine k2 ?_ | refine k7 ?_ | fail)
 exact qC [0] [qd t k] rfl rfl ⟨rfl, trivial⟩ (r' := ag (Model.cells ⟨cls, prs, cts, r⟩)) rfl ⟨⟨cls, prs, cts, r⟩, k, q1, made_of s2 hcls p2 p3 q2 q3 r1 r2, ⟨p3, q2⟩, rfl, rfl⟩
theorem c_dmodel (t : List Int) (k : Nat) (ht : t.length ≤ 400) (hk : k ≤ t.length) (a b : Int) (ha : 0 ≤ a ∧ a ≤ 5) (hb : 1 ≤ b ∧ b ≤ 4) :
  qf Tryz.prog 32 [.ptr 0 2 0 0, zg .i64 a, zg .i64 b] [qd t k] (fun r H' => ∃ (m : Model) (k' : Nat), k' ≤ t.length ∧ Made m ∧ r = ag m.cells ∧ H' = [qd t k']) :=
 (zpK t k ht hk a b ha hb).mono fun r H' ⟨m, k', h1, h2, _, h3⟩ => ⟨m, k', h1, h2, h3⟩
end Go.Proofs.YtihpjcmloecaaaaGreat.Cw
