/-
  Part 9 of the proof (SBE): what later parts use. No conditions.
-/
import Derived.Test.YtihpjcmloecaaaaGreatMK8
namespace Go.Proofs.YtihpjcmloecaaaaGreat.Cw
open Go Go.Cw Go.Proofs
set_option linter.unusedVariables false
set_option maxRecDepth 100000
set_option maxHeartbeats 8000000
theorem sets_n {m : Model} (hz : qJ m) (hok : qx m = 0) : (xr m).length ≤ 576 := by
 have h1 : (xr m).length ≤ (zS m).length := by unfold xr; rw [if_pos hok]; exact zfR
 have h2 := zaQ hz
 omega
theorem zpx (m : Model) : zH Tryz.prog 24 [ag (xJ m).1.cells, ag (xJ m).1.cells] (fun a => a = zo true) := by
 unfold xJ
 by_cases hok : qx m = 0
 · rw [if_pos hok]
   have hz := qP hok
   have hg := zak hok
   by_cases h56 : 56 ≤ m.rules
   · rw [if_pos h56]
     exact zlC zeQ (by decide) (fun l h => by cases h) (fun l h => by cases h) (by decide) (fun l h => by cases h) (by decide) (fun l h => by cases h)
   · rw [if_neg h56]
     have hch : ∀ l ∈ m.classes, ∀ o ∈ l, o.charges.length ≤ 56 := fun l h o ho => zaE (hg.1 l h o ho) hz.2.2.2.2.2
     have hs := sets_n hz hok
     refine zlC (brkM m) ?_ (fun l h => ?_) (fun l h o ho => ?_) (by have := hz.2.2.1; show m.pairs.length ≤ _; omega) (fun p h => by have := zjB hz hg h; omega) (by have := hz.2.2.2.1; show m.counts.length ≤ _; omega) (fun c h => by have := zeB hz (hg.2.2 c h).2.2.2.2; omega)
     · show (zfK m.rules (xr m) m.classes).length ≤ _
       rw [zeS]; have := hz.1; omega
     · have := zla (zf6 (R := m.rules) (S := xr m) (L := m.classes)) hz.2.1 l h; omega
     · have := zjg (R := m.rules) (S := xr m) hch l h o ho; omega
 · rw [if_neg hok]
   exact zlC zeQ (by decide) (fun l h => by cases h) (fun l h => by cases h) (by decide) (fun l h => by cases h) (by decide) (fun l h => by cases h)
theorem c_breaks (t : List Int) : zH Tryz.prog 5 [.pv (qV t)] (fun r => r = zo true) := by
 have hA := awake_ok
 refine zh tok mixed 36 rfl (fn := Tryz.f5) (c := Tryz.f5.body.getD .skip) (by kernel_rfl) (by kernel_rfl) (by kernel_rfl) rfl 0 rfl ?_
 repeat' (first | ((change zp _ _ _ _ _; refine call_new [.pv (qV t)] rfl (c_roll t) (fun _ _ => rfl) ?_)) | ((change zp _ _ _ _ _; refine znL 1 rfl (by assumption) (Nat.zero_le _) ?_; intro m kc hkc hmx; have hm := hmx.laid; have hB := c_break m hm; have hR := c_rbreak m hm; have hS := zpx m; generalize hE : xJ m = b at *; obtain ⟨bm, be⟩ := b; dsimp only at hB hR hS)) | ((change zp _ _ _ _ _; refine qw rfl (by repeat' (first | trivial | refine And.intro ?_ ?_ | (show 0 + _ ≤ List.length _; simp))) zW.refl hB ?_; rintro _ rfl)) | ((change zp _ _ _ _ _; refine qw rfl (by repeat' (first | trivial | refine And.intro ?_ ?_ | (show 0 + _ ≤ List.length _; simp))) zW.refl hR ?_; rintro _ rfl)) | refine o1 ?_ | refine o2 ?_ | refine k1 ?_ | refine k2 ?_ | refine k3 ?_ | refine k6 ?_ | refine k7 ?_ | refine And.intro ?_ ?_ | (intro h; first | exact Bool.noConfusion h | exact nz _ h | exact nl h | (simp at h; done) | (simp at h; first | (exfalso; omega) | skip) | skip) | (change zx _ _ _ _; refine zd rfl trivial ?_) | exact (by kernel_rfl : zn _ _ = true) | (change zp _ _ _ _ _; refine zC rfl (by repeat' (first | trivial | refine And.intro ?_ ?_ | (show 0 + _ ≤ List.length _; simp))) zW.refl (c_light t) rfl ?_) | (change zp _ _ _ _ _; refine zC rfl (by repeat' (first | trivial | refine And.intro ?_ ?_ | (show 0 + _ ≤ List.length _; simp))) zW.refl (hA) rfl ?_) | (change zp _ _ _ _ _; refine zC rfl (by repeat' (first | trivial | refine And.intro ?_ ?_ | (show 0 + _ ≤ List.length _; simp))) zW.refl (hS) rfl ?_) | fail)
 all_goals rfl
end Go.Proofs.YtihpjcmloecaaaaGreat.Cw
