/- A part of the proof in QLa6. -/
import Derived.Test.YtidajgkepdkcbaaGreatDoorQLa4
set_option linter.unusedVariables false
set_option linter.unusedSimpArgs false
section
namespace Go.Proofs.YtidajgkepdkcbaaGreatDoor.PL
open Go.RowKit Go.Proofs.YtidajgkepdkcbaaGreatDoorW.PrintWords Go.Proofs.YtidajgkepdkcbaaGreatDoorW.PrintLast Go.Proofs.YtidajgkepdkcbaaGreatDoorW.PrintMore Go.Proofs.YtidajgkepdkcbaaGreatDoor.PF
attribute [local go_sem] max2_int min2_int max_two min_two max_three min_three max_four min_four
attribute [local go_sem high] eqA24
mutual
noncomputable def schismalaw04_ConvergentLaws.j0 : Nat → Bool → ByteArray → ByteArray → Option (Bool)
 | 0, _, _, _ => none
 | k + 1, x29, x177000, x177001 => if x29 = true then ((schismalaw04_known.f k).bind fun t178 => (some t178)) else ((schismaref04_Parts.f k x177000 x177001).bind fun bt179 => (if bt179.2.2 = true then ((convergent_Terms.f k x177000 x177001).bind fun bt182 => ((convergent_Value.f k bt182.1).bind fun bt186 => ((convergent_Convergents.f k x177000 x177001).bind fun bt190 => (if bt182.2 = 0 then (if bt186.2.2 = 0 then (if (!(bt186.1.toList == x177000.toList) || (!(bt186.2.1.toList == x177001.toList))) = true then (schismalaw04_ConvergentLaws.j1 k bt179.1 bt179.2.1 bt190.1 true) else (if bt190.2 = 0 then (if (bt190.1.length : Int) = (bt182.1.length : Int) then (if (bt190.1.length : Int) = 0 then (schismalaw04_ConvergentLaws.j1 k bt179.1 bt179.2.1 bt190.1 true) else (if 0 ≤ (wrap64 ((bt190.1.length : Int) - 1)) then (if (wrap64 ((bt190.1.length : Int) - 1)) < (bt190.1.length : Int) then (schismalaw04_ConvergentLaws.j1 k bt179.1 bt179.2.1 bt190.1 (!((((rd_T24 bt190.1 (wrap64 ((bt190.1.length : Int) - 1))).f0).toList) == x177000.toList) || (!((((rd_T24 bt190.1 (wrap64 ((bt190.1.length : Int) - 1))).f1).toList) == x177001.toList)))) else (none)) else (none))) else (schismalaw04_ConvergentLaws.j1 k bt179.1 bt179.2.1 bt190.1 true)) else (schismalaw04_ConvergentLaws.j1 k bt179.1 bt179.2.1 bt190.1 true))) else (schismalaw04_ConvergentLaws.j1 k bt179.1 bt179.2.1 bt190.1 true)) else (schismalaw04_ConvergentLaws.j1 k bt179.1 bt179.2.1 bt190.1 true))))) else (some true)))
noncomputable def schismalaw04_ConvergentLaws.j1 : Nat → Int → Int → List (S24) → Bool → Option (Bool)
 | 0, _, _, _, _ => none
 | k + 1, x3, x4, x10, x90 => if x90 = true then (some false) else (schismalaw04_ConvergentLaws.l0 k x3 x4 x10 0)
noncomputable def schismalaw04_ConvergentLaws.l0 : Nat → Int → Int → List (S24) → Int → Option (Bool)
 | 0, _, _, _, _ => none
 | k + 1, x3, x4, x10, x12 => if (wrap64 (x12 + 1)) < (x10.length : Int) then (if 0 ≤ x12 then (if x12 < (x10.length : Int) then ((schismaref04_Parts.f k ((rd_T24 x10 x12).f0) ((rd_T24 x10 x12).f1)).bind fun bt196 => (if bt196.2.2 = true then (if (Int.tmod x12 2) = 0 then (if (wrap64 (bt196.1 * x4)) ≥ (wrap64 (x3 * bt196.2.1)) then (some false) else (if (Int.tmod x12 2) = 1 then (if (wrap64 (bt196.1 * x4)) ≤ (wrap64 (x3 * bt196.2.1)) then (some false) else (schismalaw04_ConvergentLaws.l0 k x3 x4 x10 (wrap64 (x12 + 1)))) else (schismalaw04_ConvergentLaws.l0 k x3 x4 x10 (wrap64 (x12 + 1))))) else (if (Int.tmod x12 2) = 1 then (if (wrap64 (bt196.1 * x4)) ≤ (wrap64 (x3 * bt196.2.1)) then (some false) else (schismalaw04_ConvergentLaws.l0 k x3 x4 x10 (wrap64 (x12 + 1)))) else (schismalaw04_ConvergentLaws.l0 k x3 x4 x10 (wrap64 (x12 + 1))))) else (some false))) else (none)) else (none)) else (some true)
end
noncomputable def schismalaw04_ConvergentLaws.f (k : Nat) (a0_0 : ByteArray) (a0_1 : ByteArray) : Option (Bool) := (schismalaw04_known.f k).bind fun t177 => (if t177 = true then (if (a0_0.size : Int) > 9 then (schismalaw04_ConvergentLaws.j0 k true a0_0 a0_1) else (schismalaw04_ConvergentLaws.j0 k (decide ((a0_1.size : Int) > 9)) a0_0 a0_1)) else (schismalaw04_ConvergentLaws.j0 k true a0_0 a0_1))
set_option maxHeartbeats 8000000 in
set_option maxRecDepth 100000 in
theorem schismalaw04_ConvergentLaws.calls (k : Nat) (a0_0 : ByteArray) (a0_1 : ByteArray) (r : Bool) (w : World) (hG_ : GWorld w) (h : schismalaw04_ConvergentLaws.f k a0_0 a0_1 = some r) :
  Calls Tryz.prog 7 #[.agg #[.string a0_0, .string a0_1]] w fun e w' => e = .returned (.bool r) ∧ Below w.heap.size w w' := by
 have hu24 := Tryz.underlying24
 have HB := Aside0.mk (Below.refl w.heap.size w)
 have HG := Aside0.mk hG_
 clear hG_
 have H : ((schismalaw04_known.f k).bind fun t177 => (if t177 = true then (if (a0_0.size : Int) > 9 then (schismalaw04_ConvergentLaws.j0 k true a0_0 a0_1) else (schismalaw04_ConvergentLaws.j0 k (decide ((a0_1.size : Int) > 9)) a0_0 a0_1)) else (schismalaw04_ConvergentLaws.j0 k true a0_0 a0_1))) = some r := h
 clear h
 have HC2 := Aside0.mk H
 clear H
 go_enter Tryz.func7, Tryz.ntmps7
 go_upto_region 1 with (first | ((with_reducible refine gate_dst (N := 1) rfl ?_); (try (refine gate_guard (by rfl) ?_; dsimp only)); refine box_event ?hg (N := 1) ?hd (cs := #[.string a0_0, .string a0_1]) (t := 24) ?hr ?_; (case hd => rfl); (case hg => rfl); (case hr => first | (go_simp; done) | (go_simp; rfl)); intro gb176 hg w3 hbox hb; have n0_ := Aside0.mk (below_step (by repeat (first | (with_reducible first | exact HB.out | apply below_alloc | apply pw_below_drewN | apply below_drew1) | exact HB.out)) hb); have n1_ := Aside0.mk (hbox); have n2_ := Aside0.mk ((by rw [hg]; exact (below_size (by repeat (first | (with_reducible first | exact HB.out | apply below_alloc | apply pw_below_drewN | apply below_drew1) | exact HB.out))) : w.heap.size ≤ gb176)); have n3_ := Aside0.mk ((by rw [hg]; exact (below_size (by repeat (first | (with_reducible first | exact HB.out | apply below_alloc | apply pw_below_drewN | apply below_drew1) | exact HB.out))) : w.heap.size ≤ gb176)); clear HB; have HB := n0_; have BK176 := n1_; have GW176 := n2_; have GE176 := n3_; clear n0_ n1_ n2_ n3_; clear hb hbox hg))
 repeat (go_quiet (first | ((with_reducible refine gate_dst (N := 1) rfl ?_); (try (refine gate_guard (by rfl) ?_; dsimp only)); refine box_event ?hg (N := 1) ?hd (cs := #[.string a0_0, .string a0_1]) (t := 24) ?hr ?_; (case hd => rfl); (case hg => rfl); (case hr => first | (go_simp; done) | (go_simp; rfl)); intro gb176 hg w3 hbox hb; have n0_ := Aside0.mk (below_step (by repeat (first | (with_reducible first | exact HB.out | apply below_alloc | apply pw_below_drewN | apply below_drew1) | exact HB.out)) hb); have n1_ := Aside0.mk (hbox); have n2_ := Aside0.mk ((by rw [hg]; exact (below_size (by repeat (first | (with_reducible first | exact HB.out | apply below_alloc | apply pw_below_drewN | apply below_drew1) | exact HB.out))) : w.heap.size ≤ gb176)); have n3_ := Aside0.mk ((by rw [hg]; exact (below_size (by repeat (first | (with_reducible first | exact HB.out | apply below_alloc | apply pw_below_drewN | apply below_drew1) | exact HB.out))) : w.heap.size ≤ gb176)); clear HB; have HB := n0_; have BK176 := n1_; have GW176 := n2_; have GE176 := n3_; clear n0_ n1_ n2_ n3_; clear hb hbox hg)); go_upto_region 1 with (first | ((with_reducible refine gate_dst (N := 1) rfl ?_); (try (refine gate_guard (by rfl) ?_; dsimp only)); refine box_event ?hg (N := 1) ?hd (cs := #[.string a0_0, .string a0_1]) (t := 24) ?hr ?_; (case hd => rfl); (case hg => rfl); (case hr => first | (go_simp; done) | (go_simp; rfl)); intro gb176 hg w3 hbox hb; have n0_ := Aside0.mk (below_step (by repeat (first | (with_reducible first | exact HB.out | apply below_alloc | apply pw_below_drewN | apply below_drew1) | exact HB.out)) hb); have n1_ := Aside0.mk (hbox); have n2_ := Aside0.mk ((by rw [hg]; exact (below_size (by repeat (first | (with_reducible first | exact HB.out | apply below_alloc | apply pw_below_drewN | apply below_drew1) | exact HB.out))) : w.heap.size ≤ gb176)); have n3_ := Aside0.mk ((by rw [hg]; exact (below_size (by repeat (first | (with_reducible first | exact HB.out | apply below_alloc | apply pw_below_drewN | apply below_drew1) | exact HB.out))) : w.heap.size ≤ gb176)); clear HB; have HB := n0_; have BK176 := n1_; have GW176 := n2_; have GE176 := n3_; clear n0_ n1_ n2_ n3_; clear hb hbox hg)))
 (try simp only [Act.put, List.setIfInBounds_toArray, List.set_cons_zero, List.set_cons_succ])
 go_cut [29] (fun v29 wc => ∃ (kq : Nat) (x29_1 : Bool), v29 = .bool x29_1 ∧ Aside0 (schismalaw04_ConvergentLaws.j0 kq x29_1 a0_0 a0_1 = some r) ∧ Aside0 (kq ≤ k) ∧ Aside0 (wc.heap[gb176]? = some (.cells #[.string a0_0, .string a0_1] 24 (0, 0))) ∧ Aside0 (Below w.heap.size w wc))
 case first =>
  have H := HC2.out
  clear HC2
  replace H := Option.bind_eq_some_iff.mp H
  obtain ⟨t177, A40, H⟩ := H
  replace H : (if t177 = true then (if (a0_0.size : Int) > 9 then (schismalaw04_ConvergentLaws.j0 k true a0_0 a0_1) else (schismalaw04_ConvergentLaws.j0 k (decide ((a0_1.size : Int) > 9)) a0_0 a0_1)) else (schismalaw04_ConvergentLaws.j0 k true a0_0 a0_1)) = some r := H
  have A4 := Aside0.mk A40
  clear A40
  by_cases c5 : t177 = true
  ·subst c5
   have H1 : (if (a0_0.size : Int) > 9 then (schismalaw04_ConvergentLaws.j0 k true a0_0 a0_1) else (schismalaw04_ConvergentLaws.j0 k (decide ((a0_1.size : Int) > 9)) a0_0 a0_1)) = some r := by rw [if_pos rfl] at H; exact H
   clear H
   have H := H1
   clear H1
   by_cases c6 : (a0_0.size : Int) > 9
   ·rw [if_pos c6] at H
    have c6b0 : decide (9 < (a0_0.size : Int)) = true := decide_eq_true c6
    have c6b1 : decide (9 < a0_0.size) = true := decide_eq_true (by omega)
    clear c6
    (first | rw [c6b0] | (simp only [i64_w, i32_w]; rw [c6b0]) | skip)
    have H' := Aside0.mk H
    clear H
    go_wp2_with (first | (go_at_call 13; (with_reducible refine (schismalaw04_known.calls k  true _ ?side1 A4.out).mono ?_); (case side1 => exact GWorld.below HG.out (by repeat (first | (with_reducible first | exact HB.out | apply below_alloc | apply pw_below_drewN | apply below_drew1 | refine below_set ?_ GE176.out) | exact HB.out))); rintro e w7 ⟨rfl, hb⟩; have n0_ := Aside0.mk (blk_below (g := gb176) (o := .cells #[.string a0_0, .string a0_1] 24 (0, 0)) (by (with_reducible repeat (first | refine blk_drewN ?_ _ | refine blk_drew ?_ | refine blk_alloc ?_ _)); exact BK176.out) hb); have n1_ := Aside0.mk (below_step (by repeat (first | (with_reducible first | exact HB.out | apply below_alloc | apply pw_below_drewN | apply below_drew1 | refine below_set ?_ GE176.out) | exact HB.out)) hb); clear BK176; clear HB; have BK176 := n0_; have HB := n1_; clear n0_ n1_; (try clear hb); (try clear hb2); (try clear hk); (try clear hi); have hcz8_0 : w7.cell? ⟨gb176, 0, none⟩ = some (.string a0_0) := (blk_cell BK176.out 0).trans rfl; have hcz8_1 : w7.cell? ⟨gb176, 1, none⟩ = some (.string a0_1) := (blk_cell BK176.out 1).trans rfl; have hfz8_0 := blk_frozen BK176.out 0; have hfz8_1 := blk_frozen BK176.out 1))
    repeat (go_quiet (first | (go_at_call 13; (with_reducible refine (schismalaw04_known.calls k  true _ ?side1 A4.out).mono ?_); (case side1 => exact GWorld.below HG.out (by repeat (first | (with_reducible first | exact HB.out | apply below_alloc | apply pw_below_drewN | apply below_drew1 | refine below_set ?_ GE176.out) | exact HB.out))); rintro e w7 ⟨rfl, hb⟩; have n0_ := Aside0.mk (blk_below (g := gb176) (o := .cells #[.string a0_0, .string a0_1] 24 (0, 0)) (by (with_reducible repeat (first | refine blk_drewN ?_ _ | refine blk_drew ?_ | refine blk_alloc ?_ _)); exact BK176.out) hb); have n1_ := Aside0.mk (below_step (by repeat (first | (with_reducible first | exact HB.out | apply below_alloc | apply pw_below_drewN | apply below_drew1 | refine below_set ?_ GE176.out) | exact HB.out)) hb); clear BK176; clear HB; have BK176 := n0_; have HB := n1_; clear n0_ n1_; (try clear hb); (try clear hb2); (try clear hk); (try clear hi); have hcz8_0 : w7.cell? ⟨gb176, 0, none⟩ = some (.string a0_0) := (blk_cell BK176.out 0).trans rfl; have hcz8_1 : w7.cell? ⟨gb176, 1, none⟩ = some (.string a0_1) := (blk_cell BK176.out 1).trans rfl; have hfz8_0 := blk_frozen BK176.out 0; have hfz8_1 := blk_frozen BK176.out 1)); try go_wp2_with (first | (go_at_call 13; (with_reducible refine (schismalaw04_known.calls k  true _ ?side1 A4.out).mono ?_); (case side1 => exact GWorld.below HG.out (by repeat (first | (with_reducible first | exact HB.out | apply below_alloc | apply pw_below_drewN | apply below_drew1 | refine below_set ?_ GE176.out) | exact HB.out))); rintro e w7 ⟨rfl, hb⟩; have n0_ := Aside0.mk (blk_below (g := gb176) (o := .cells #[.string a0_0, .string a0_1] 24 (0, 0)) (by (with_reducible repeat (first | refine blk_drewN ?_ _ | refine blk_drew ?_ | refine blk_alloc ?_ _)); exact BK176.out) hb); have n1_ := Aside0.mk (below_step (by repeat (first | (with_reducible first | exact HB.out | apply below_alloc | apply pw_below_drewN | apply below_drew1 | refine below_set ?_ GE176.out) | exact HB.out)) hb); clear BK176; clear HB; have BK176 := n0_; have HB := n1_; clear n0_ n1_; (try clear hb); (try clear hb2); (try clear hk); (try clear hi); have hcz8_0 : w7.cell? ⟨gb176, 0, none⟩ = some (.string a0_0) := (blk_cell BK176.out 0).trans rfl; have hcz8_1 : w7.cell? ⟨gb176, 1, none⟩ = some (.string a0_1) := (blk_cell BK176.out 1).trans rfl; have hfz8_0 := blk_frozen BK176.out 0; have hfz8_1 := blk_frozen BK176.out 1)))
    go_meet
    case rel => exact ⟨_, (true), (by first | rfl | (simp; done) | (simp [*]; done)), H', ⟨by first | omega | exact Nat.le_refl _⟩, ⟨by (with_reducible repeat (first | refine blk_drewN ?_ _ | refine blk_drew ?_ | refine blk_alloc ?_ _)); exact BK176.out⟩, ⟨by repeat (first | (with_reducible first | exact HB.out | apply below_alloc | apply pw_below_drewN | apply below_drew1 | refine below_set ?_ GE176.out) | exact HB.out)⟩⟩
   ·rw [if_neg c6] at H
    have c6b0 : decide (9 < (a0_0.size : Int)) = false := decide_eq_false c6
    have c6b1 : decide (9 < a0_0.size) = false := decide_eq_false (by omega)
    clear c6
    (first | rw [c6b0] | (simp only [i64_w, i32_w]; rw [c6b0]) | skip)
    have H' := Aside0.mk H
    clear H
    go_wp2_with (first | (go_at_call 13; (with_reducible refine (schismalaw04_known.calls k  true _ ?side1 A4.out).mono ?_); (case side1 => exact GWorld.below HG.out (by repeat (first | (with_reducible first | exact HB.out | apply below_alloc | apply pw_below_drewN | apply below_drew1 | refine below_set ?_ GE176.out) | exact HB.out))); rintro e w9 ⟨rfl, hb⟩; have n0_ := Aside0.mk (blk_below (g := gb176) (o := .cells #[.string a0_0, .string a0_1] 24 (0, 0)) (by (with_reducible repeat (first | refine blk_drewN ?_ _ | refine blk_drew ?_ | refine blk_alloc ?_ _)); exact BK176.out) hb); have n1_ := Aside0.mk (below_step (by repeat (first | (with_reducible first | exact HB.out | apply below_alloc | apply pw_below_drewN | apply below_drew1 | refine below_set ?_ GE176.out) | exact HB.out)) hb); clear BK176; clear HB; have BK176 := n0_; have HB := n1_; clear n0_ n1_; (try clear hb); (try clear hb2); (try clear hk); (try clear hi); have hcz10_0 : w9.cell? ⟨gb176, 0, none⟩ = some (.string a0_0) := (blk_cell BK176.out 0).trans rfl; have hcz10_1 : w9.cell? ⟨gb176, 1, none⟩ = some (.string a0_1) := (blk_cell BK176.out 1).trans rfl; have hfz10_0 := blk_frozen BK176.out 0; have hfz10_1 := blk_frozen BK176.out 1))
    repeat (go_quiet (first | (go_at_call 13; (with_reducible refine (schismalaw04_known.calls k  true _ ?side1 A4.out).mono ?_); (case side1 => exact GWorld.below HG.out (by repeat (first | (with_reducible first | exact HB.out | apply below_alloc | apply pw_below_drewN | apply below_drew1 | refine below_set ?_ GE176.out) | exact HB.out))); rintro e w9 ⟨rfl, hb⟩; have n0_ := Aside0.mk (blk_below (g := gb176) (o := .cells #[.string a0_0, .string a0_1] 24 (0, 0)) (by (with_reducible repeat (first | refine blk_drewN ?_ _ | refine blk_drew ?_ | refine blk_alloc ?_ _)); exact BK176.out) hb); have n1_ := Aside0.mk (below_step (by repeat (first | (with_reducible first | exact HB.out | apply below_alloc | apply pw_below_drewN | apply below_drew1 | refine below_set ?_ GE176.out) | exact HB.out)) hb); clear BK176; clear HB; have BK176 := n0_; have HB := n1_; clear n0_ n1_; (try clear hb); (try clear hb2); (try clear hk); (try clear hi); have hcz10_0 : w9.cell? ⟨gb176, 0, none⟩ = some (.string a0_0) := (blk_cell BK176.out 0).trans rfl; have hcz10_1 : w9.cell? ⟨gb176, 1, none⟩ = some (.string a0_1) := (blk_cell BK176.out 1).trans rfl; have hfz10_0 := blk_frozen BK176.out 0; have hfz10_1 := blk_frozen BK176.out 1)); try go_wp2_with (first | (go_at_call 13; (with_reducible refine (schismalaw04_known.calls k  true _ ?side1 A4.out).mono ?_); (case side1 => exact GWorld.below HG.out (by repeat (first | (with_reducible first | exact HB.out | apply below_alloc | apply pw_below_drewN | apply below_drew1 | refine below_set ?_ GE176.out) | exact HB.out))); rintro e w9 ⟨rfl, hb⟩; have n0_ := Aside0.mk (blk_below (g := gb176) (o := .cells #[.string a0_0, .string a0_1] 24 (0, 0)) (by (with_reducible repeat (first | refine blk_drewN ?_ _ | refine blk_drew ?_ | refine blk_alloc ?_ _)); exact BK176.out) hb); have n1_ := Aside0.mk (below_step (by repeat (first | (with_reducible first | exact HB.out | apply below_alloc | apply pw_below_drewN | apply below_drew1 | refine below_set ?_ GE176.out) | exact HB.out)) hb); clear BK176; clear HB; have BK176 := n0_; have HB := n1_; clear n0_ n1_; (try clear hb); (try clear hb2); (try clear hk); (try clear hi); have hcz10_0 : w9.cell? ⟨gb176, 0, none⟩ = some (.string a0_0) := (blk_cell BK176.out 0).trans rfl; have hcz10_1 : w9.cell? ⟨gb176, 1, none⟩ = some (.string a0_1) := (blk_cell BK176.out 1).trans rfl; have hfz10_0 := blk_frozen BK176.out 0; have hfz10_1 := blk_frozen BK176.out 1)))
    go_meet
    case rel => exact ⟨_, (decide ((a0_1.size : Int) > 9)), (by first | rfl | (simp; done) | (simp [*]; done)), H', ⟨by first | omega | exact Nat.le_refl _⟩, ⟨by (with_reducible repeat (first | refine blk_drewN ?_ _ | refine blk_drew ?_ | refine blk_alloc ?_ _)); exact BK176.out⟩, ⟨by repeat (first | (with_reducible first | exact HB.out | apply below_alloc | apply pw_below_drewN | apply below_drew1 | refine below_set ?_ GE176.out) | exact HB.out)⟩⟩
  ·replace c5 := Bool.eq_false_iff.mpr c5
   subst c5
   have H1 : (schismalaw04_ConvergentLaws.j0 k true a0_0 a0_1) = some r := by rw [if_neg (show ¬ (false = true) by decide)] at H; exact H
   clear H
   have H := H1
   clear H1
   have H' := Aside0.mk H
   clear H
   go_wp2_with (first | (go_at_call 13; (with_reducible refine (schismalaw04_known.calls k  false _ ?side1 A4.out).mono ?_); (case side1 => exact GWorld.below HG.out (by repeat (first | (with_reducible first | exact HB.out | apply below_alloc | apply pw_below_drewN | apply below_drew1 | refine below_set ?_ GE176.out) | exact HB.out))); rintro e w11 ⟨rfl, hb⟩; have n0_ := Aside0.mk (blk_below (g := gb176) (o := .cells #[.string a0_0, .string a0_1] 24 (0, 0)) (by (with_reducible repeat (first | refine blk_drewN ?_ _ | refine blk_drew ?_ | refine blk_alloc ?_ _)); exact BK176.out) hb); have n1_ := Aside0.mk (below_step (by repeat (first | (with_reducible first | exact HB.out | apply below_alloc | apply pw_below_drewN | apply below_drew1 | refine below_set ?_ GE176.out) | exact HB.out)) hb); clear BK176; clear HB; have BK176 := n0_; have HB := n1_; clear n0_ n1_; (try clear hb); (try clear hb2); (try clear hk); (try clear hi)))
   repeat (go_quiet (first | (go_at_call 13; (with_reducible refine (schismalaw04_known.calls k  false _ ?side1 A4.out).mono ?_); (case side1 => exact GWorld.below HG.out (by repeat (first | (with_reducible first | exact HB.out | apply below_alloc | apply pw_below_drewN | apply below_drew1 | refine below_set ?_ GE176.out) | exact HB.out))); rintro e w11 ⟨rfl, hb⟩; have n0_ := Aside0.mk (blk_below (g := gb176) (o := .cells #[.string a0_0, .string a0_1] 24 (0, 0)) (by (with_reducible repeat (first | refine blk_drewN ?_ _ | refine blk_drew ?_ | refine blk_alloc ?_ _)); exact BK176.out) hb); have n1_ := Aside0.mk (below_step (by repeat (first | (with_reducible first | exact HB.out | apply below_alloc | apply pw_below_drewN | apply below_drew1 | refine below_set ?_ GE176.out) | exact HB.out)) hb); clear BK176; clear HB; have BK176 := n0_; have HB := n1_; clear n0_ n1_; (try clear hb); (try clear hb2); (try clear hk); (try clear hi))); try go_wp2_with (first | (go_at_call 13; (with_reducible refine (schismalaw04_known.calls k  false _ ?side1 A4.out).mono ?_); (case side1 => exact GWorld.below HG.out (by repeat (first | (with_reducible first | exact HB.out | apply below_alloc | apply pw_below_drewN | apply below_drew1 | refine below_set ?_ GE176.out) | exact HB.out))); rintro e w11 ⟨rfl, hb⟩; have n0_ := Aside0.mk (blk_below (g := gb176) (o := .cells #[.string a0_0, .string a0_1] 24 (0, 0)) (by (with_reducible repeat (first | refine blk_drewN ?_ _ | refine blk_drew ?_ | refine blk_alloc ?_ _)); exact BK176.out) hb); have n1_ := Aside0.mk (below_step (by repeat (first | (with_reducible first | exact HB.out | apply below_alloc | apply pw_below_drewN | apply below_drew1 | refine below_set ?_ GE176.out) | exact HB.out)) hb); clear BK176; clear HB; have BK176 := n0_; have HB := n1_; clear n0_ n1_; (try clear hb); (try clear hb2); (try clear hk); (try clear hi))))
   go_meet
   case rel => exact ⟨_, (true), (by first | rfl | (simp; done) | (simp [*]; done)), H', ⟨by first | omega | exact Nat.le_refl _⟩, ⟨by (with_reducible repeat (first | refine blk_drewN ?_ _ | refine blk_drew ?_ | refine blk_alloc ?_ _)); exact BK176.out⟩, ⟨by repeat (first | (with_reducible first | exact HB.out | apply below_alloc | apply pw_below_drewN | apply below_drew1 | refine below_set ?_ GE176.out) | exact HB.out)⟩⟩
 case rest =>
  clear HC2
  try clear p2
  try clear c5
  try clear c6
  try clear c6b0
  try clear c6b1
  try clear c7
  try clear hcz10_0
  try clear hcz10_1
  try clear hcz8_0
  try clear hcz8_1
  try clear hfz10_0
  try clear hfz10_1
  try clear hfz8_0
  try clear hfz8_1
  obtain ⟨kq, x29_1, rfl, HA, HJ1, BK176, HB⟩ := hcut
  cases kq with
  | zero => exact absurd HA.out (by simp [schismalaw04_ConvergentLaws.j0])
  | succ kj1 =>
   have H := HA.out
   clear HA
   simp only [schismalaw04_ConvergentLaws.j0] at H
   by_cases c12 : x29_1 = true
   ·subst c12
    have H1 : ((schismalaw04_known.f kj1).bind fun t178 => (some t178)) = some r := by rw [if_pos rfl] at H; exact H
    clear H
    have H := H1
    clear H1
    replace H := Option.bind_eq_some_iff.mp H
    obtain ⟨t178, A130, H⟩ := H
    replace H : (some t178) = some r := H
    have A13 := Aside0.mk A130
    clear A130
    obtain rfl := Option.some.inj H
    go_wp2_with (first | (go_at_call 13; (with_reducible refine (schismalaw04_known.calls kj1  t178 _ ?side1 A13.out).mono ?_); (case side1 => exact GWorld.below HG.out (by repeat (first | (with_reducible first | exact HB.out | apply below_alloc | apply pw_below_drewN | apply below_drew1 | refine below_set ?_ GE176.out) | exact HB.out))); rintro e w14 ⟨rfl, hb⟩; have n0_ := Aside0.mk (blk_below (g := gb176) (o := .cells #[.string a0_0, .string a0_1] 24 (0, 0)) (by (with_reducible repeat (first | refine blk_drewN ?_ _ | refine blk_drew ?_ | refine blk_alloc ?_ _)); exact BK176.out) hb); have n1_ := Aside0.mk (below_step (by repeat (first | (with_reducible first | exact HB.out | apply below_alloc | apply pw_below_drewN | apply below_drew1 | refine below_set ?_ GE176.out) | exact HB.out)) hb); clear BK176; clear HB; have BK176 := n0_; have HB := n1_; clear n0_ n1_; (try clear hb); (try clear hb2); (try clear hk); (try clear hi)))
    repeat (go_quiet (first | (go_at_call 13; (with_reducible refine (schismalaw04_known.calls kj1  t178 _ ?side1 A13.out).mono ?_); (case side1 => exact GWorld.below HG.out (by repeat (first | (with_reducible first | exact HB.out | apply below_alloc | apply pw_below_drewN | apply below_drew1 | refine below_set ?_ GE176.out) | exact HB.out))); rintro e w14 ⟨rfl, hb⟩; have n0_ := Aside0.mk (blk_below (g := gb176) (o := .cells #[.string a0_0, .string a0_1] 24 (0, 0)) (by (with_reducible repeat (first | refine blk_drewN ?_ _ | refine blk_drew ?_ | refine blk_alloc ?_ _)); exact BK176.out) hb); have n1_ := Aside0.mk (below_step (by repeat (first | (with_reducible first | exact HB.out | apply below_alloc | apply pw_below_drewN | apply below_drew1 | refine below_set ?_ GE176.out) | exact HB.out)) hb); clear BK176; clear HB; have BK176 := n0_; have HB := n1_; clear n0_ n1_; (try clear hb); (try clear hb2); (try clear hk); (try clear hi))); try go_wp2_with (first | (go_at_call 13; (with_reducible refine (schismalaw04_known.calls kj1  t178 _ ?side1 A13.out).mono ?_); (case side1 => exact GWorld.below HG.out (by repeat (first | (with_reducible first | exact HB.out | apply below_alloc | apply pw_below_drewN | apply below_drew1 | refine below_set ?_ GE176.out) | exact HB.out))); rintro e w14 ⟨rfl, hb⟩; have n0_ := Aside0.mk (blk_below (g := gb176) (o := .cells #[.string a0_0, .string a0_1] 24 (0, 0)) (by (with_reducible repeat (first | refine blk_drewN ?_ _ | refine blk_drew ?_ | refine blk_alloc ?_ _)); exact BK176.out) hb); have n1_ := Aside0.mk (below_step (by repeat (first | (with_reducible first | exact HB.out | apply below_alloc | apply pw_below_drewN | apply below_drew1 | refine below_set ?_ GE176.out) | exact HB.out)) hb); clear BK176; clear HB; have BK176 := n0_; have HB := n1_; clear n0_ n1_; (try clear hb); (try clear hb2); (try clear hk); (try clear hi))))
    go_ret
    exact ⟨by first | rfl | (simp [*, errW_none, errW_some] <;> rfl), by repeat (first | (with_reducible first | exact HB.out | apply below_alloc | apply pw_below_drewN | apply below_drew1 | refine below_set ?_ GE176.out) | exact HB.out)⟩
   ·replace c12 := Bool.eq_false_iff.mpr c12
    subst c12
    have H1 : ((schismaref04_Parts.f kj1 a0_0 a0_1).bind fun bt179 => (if bt179.2.2 = true then ((convergent_Terms.f kj1 a0_0 a0_1).bind fun bt182 => ((convergent_Value.f kj1 bt182.1).bind fun bt186 => ((convergent_Convergents.f kj1 a0_0 a0_1).bind fun bt190 => (if bt182.2 = 0 then (if bt186.2.2 = 0 then (if (!(bt186.1.toList == a0_0.toList) || (!(bt186.2.1.toList == a0_1.toList))) = true then (schismalaw04_ConvergentLaws.j1 kj1 bt179.1 bt179.2.1 bt190.1 true) else (if bt190.2 = 0 then (if (bt190.1.length : Int) = (bt182.1.length : Int) then (if (bt190.1.length : Int) = 0 then (schismalaw04_ConvergentLaws.j1 kj1 bt179.1 bt179.2.1 bt190.1 true) else (if 0 ≤ (wrap64 ((bt190.1.length : Int) - 1)) then (if (wrap64 ((bt190.1.length : Int) - 1)) < (bt190.1.length : Int) then (schismalaw04_ConvergentLaws.j1 kj1 bt179.1 bt179.2.1 bt190.1 (!((((rd_T24 bt190.1 (wrap64 ((bt190.1.length : Int) - 1))).f0).toList) == a0_0.toList) || (!((((rd_T24 bt190.1 (wrap64 ((bt190.1.length : Int) - 1))).f1).toList) == a0_1.toList)))) else (none)) else (none))) else (schismalaw04_ConvergentLaws.j1 kj1 bt179.1 bt179.2.1 bt190.1 true)) else (schismalaw04_ConvergentLaws.j1 kj1 bt179.1 bt179.2.1 bt190.1 true))) else (schismalaw04_ConvergentLaws.j1 kj1 bt179.1 bt179.2.1 bt190.1 true)) else (schismalaw04_ConvergentLaws.j1 kj1 bt179.1 bt179.2.1 bt190.1 true))))) else (some true))) = some r := by rw [if_neg (show ¬ (false = true) by decide)] at H; exact H
    clear H
    have H := H1
    clear H1
    replace H := Option.bind_eq_some_iff.mp H
    obtain ⟨⟨t179, t180, t181⟩, A150, H⟩ := H
    replace H : (if t181 = true then ((convergent_Terms.f kj1 a0_0 a0_1).bind fun bt182 => ((convergent_Value.f kj1 bt182.1).bind fun bt186 => ((convergent_Convergents.f kj1 a0_0 a0_1).bind fun bt190 => (if bt182.2 = 0 then (if bt186.2.2 = 0 then (if (!(bt186.1.toList == a0_0.toList) || (!(bt186.2.1.toList == a0_1.toList))) = true then (schismalaw04_ConvergentLaws.j1 kj1 t179 t180 bt190.1 true) else (if bt190.2 = 0 then (if (bt190.1.length : Int) = (bt182.1.length : Int) then (if (bt190.1.length : Int) = 0 then (schismalaw04_ConvergentLaws.j1 kj1 t179 t180 bt190.1 true) else (if 0 ≤ (wrap64 ((bt190.1.length : Int) - 1)) then (if (wrap64 ((bt190.1.length : Int) - 1)) < (bt190.1.length : Int) then (schismalaw04_ConvergentLaws.j1 kj1 t179 t180 bt190.1 (!((((rd_T24 bt190.1 (wrap64 ((bt190.1.length : Int) - 1))).f0).toList) == a0_0.toList) || (!((((rd_T24 bt190.1 (wrap64 ((bt190.1.length : Int) - 1))).f1).toList) == a0_1.toList)))) else (none)) else (none))) else (schismalaw04_ConvergentLaws.j1 kj1 t179 t180 bt190.1 true)) else (schismalaw04_ConvergentLaws.j1 kj1 t179 t180 bt190.1 true))) else (schismalaw04_ConvergentLaws.j1 kj1 t179 t180 bt190.1 true)) else (schismalaw04_ConvergentLaws.j1 kj1 t179 t180 bt190.1 true))))) else (some true)) = some r := H
    have A15 := Aside0.mk A150
    clear A150
    by_cases c16 : t181 = true
    ·subst c16
     have H1 : ((convergent_Terms.f kj1 a0_0 a0_1).bind fun bt182 => ((convergent_Value.f kj1 bt182.1).bind fun bt186 => ((convergent_Convergents.f kj1 a0_0 a0_1).bind fun bt190 => (if bt182.2 = 0 then (if bt186.2.2 = 0 then (if (!(bt186.1.toList == a0_0.toList) || (!(bt186.2.1.toList == a0_1.toList))) = true then (schismalaw04_ConvergentLaws.j1 kj1 t179 t180 bt190.1 true) else (if bt190.2 = 0 then (if (bt190.1.length : Int) = (bt182.1.length : Int) then (if (bt190.1.length : Int) = 0 then (schismalaw04_ConvergentLaws.j1 kj1 t179 t180 bt190.1 true) else (if 0 ≤ (wrap64 ((bt190.1.length : Int) - 1)) then (if (wrap64 ((bt190.1.length : Int) - 1)) < (bt190.1.length : Int) then (schismalaw04_ConvergentLaws.j1 kj1 t179 t180 bt190.1 (!((((rd_T24 bt190.1 (wrap64 ((bt190.1.length : Int) - 1))).f0).toList) == a0_0.toList) || (!((((rd_T24 bt190.1 (wrap64 ((bt190.1.length : Int) - 1))).f1).toList) == a0_1.toList)))) else (none)) else (none))) else (schismalaw04_ConvergentLaws.j1 kj1 t179 t180 bt190.1 true)) else (schismalaw04_ConvergentLaws.j1 kj1 t179 t180 bt190.1 true))) else (schismalaw04_ConvergentLaws.j1 kj1 t179 t180 bt190.1 true)) else (schismalaw04_ConvergentLaws.j1 kj1 t179 t180 bt190.1 true))))) = some r := by rw [if_pos rfl] at H; exact H
     clear H
     have H := H1
     clear H1
     replace H := Option.bind_eq_some_iff.mp H
     obtain ⟨⟨t182, t185⟩, A170, H⟩ := H
     replace H : ((convergent_Value.f kj1 t182).bind fun bt186 => ((convergent_Convergents.f kj1 a0_0 a0_1).bind fun bt190 => (if t185 = 0 then (if bt186.2.2 = 0 then (if (!(bt186.1.toList == a0_0.toList) || (!(bt186.2.1.toList == a0_1.toList))) = true then (schismalaw04_ConvergentLaws.j1 kj1 t179 t180 bt190.1 true) else (if bt190.2 = 0 then (if (bt190.1.length : Int) = (t182.length : Int) then (if (bt190.1.length : Int) = 0 then (schismalaw04_ConvergentLaws.j1 kj1 t179 t180 bt190.1 true) else (if 0 ≤ (wrap64 ((bt190.1.length : Int) - 1)) then (if (wrap64 ((bt190.1.length : Int) - 1)) < (bt190.1.length : Int) then (schismalaw04_ConvergentLaws.j1 kj1 t179 t180 bt190.1 (!((((rd_T24 bt190.1 (wrap64 ((bt190.1.length : Int) - 1))).f0).toList) == a0_0.toList) || (!((((rd_T24 bt190.1 (wrap64 ((bt190.1.length : Int) - 1))).f1).toList) == a0_1.toList)))) else (none)) else (none))) else (schismalaw04_ConvergentLaws.j1 kj1 t179 t180 bt190.1 true)) else (schismalaw04_ConvergentLaws.j1 kj1 t179 t180 bt190.1 true))) else (schismalaw04_ConvergentLaws.j1 kj1 t179 t180 bt190.1 true)) else (schismalaw04_ConvergentLaws.j1 kj1 t179 t180 bt190.1 true)))) = some r := H
     have A17 := Aside0.mk A170
     clear A170
     replace H := Option.bind_eq_some_iff.mp H
     obtain ⟨⟨t186, t187, t188⟩, A180, H⟩ := H
     replace H : ((convergent_Convergents.f kj1 a0_0 a0_1).bind fun bt190 => (if t185 = 0 then (if t188 = 0 then (if (!(t186.toList == a0_0.toList) || (!(t187.toList == a0_1.toList))) = true then (schismalaw04_ConvergentLaws.j1 kj1 t179 t180 bt190.1 true) else (if bt190.2 = 0 then (if (bt190.1.length : Int) = (t182.length : Int) then (if (bt190.1.length : Int) = 0 then (schismalaw04_ConvergentLaws.j1 kj1 t179 t180 bt190.1 true) else (if 0 ≤ (wrap64 ((bt190.1.length : Int) - 1)) then (if (wrap64 ((bt190.1.length : Int) - 1)) < (bt190.1.length : Int) then (schismalaw04_ConvergentLaws.j1 kj1 t179 t180 bt190.1 (!((((rd_T24 bt190.1 (wrap64 ((bt190.1.length : Int) - 1))).f0).toList) == a0_0.toList) || (!((((rd_T24 bt190.1 (wrap64 ((bt190.1.length : Int) - 1))).f1).toList) == a0_1.toList)))) else (none)) else (none))) else (schismalaw04_ConvergentLaws.j1 kj1 t179 t180 bt190.1 true)) else (schismalaw04_ConvergentLaws.j1 kj1 t179 t180 bt190.1 true))) else (schismalaw04_ConvergentLaws.j1 kj1 t179 t180 bt190.1 true)) else (schismalaw04_ConvergentLaws.j1 kj1 t179 t180 bt190.1 true))) = some r := H
     have A18 := Aside0.mk A180
     clear A180
     replace H := Option.bind_eq_some_iff.mp H
     obtain ⟨⟨t190, t193⟩, A190, H⟩ := H
     replace H : (if t185 = 0 then (if t188 = 0 then (if (!(t186.toList == a0_0.toList) || (!(t187.toList == a0_1.toList))) = true then (schismalaw04_ConvergentLaws.j1 kj1 t179 t180 t190 true) else (if t193 = 0 then (if (t190.length : Int) = (t182.length : Int) then (if (t190.length : Int) = 0 then (schismalaw04_ConvergentLaws.j1 kj1 t179 t180 t190 true) else (if 0 ≤ (wrap64 ((t190.length : Int) - 1)) then (if (wrap64 ((t190.length : Int) - 1)) < (t190.length : Int) then (schismalaw04_ConvergentLaws.j1 kj1 t179 t180 t190 (!((((rd_T24 t190 (wrap64 ((t190.length : Int) - 1))).f0).toList) == a0_0.toList) || (!((((rd_T24 t190 (wrap64 ((t190.length : Int) - 1))).f1).toList) == a0_1.toList)))) else (none)) else (none))) else (schismalaw04_ConvergentLaws.j1 kj1 t179 t180 t190 true)) else (schismalaw04_ConvergentLaws.j1 kj1 t179 t180 t190 true))) else (schismalaw04_ConvergentLaws.j1 kj1 t179 t180 t190 true)) else (schismalaw04_ConvergentLaws.j1 kj1 t179 t180 t190 true)) = some r := H
     have A19 := Aside0.mk A190
     clear A190
     have HC20 := Aside0.mk H
     clear H
     have hcz21_0 : wc.cell? ⟨gb176, 0, none⟩ = some (.string a0_0) := (blk_cell BK176.out 0).trans rfl
     have hcz21_1 : wc.cell? ⟨gb176, 1, none⟩ = some (.string a0_1) := (blk_cell BK176.out 1).trans rfl
     have hfz21_0 := blk_frozen BK176.out 0
     have hfz21_1 := blk_frozen BK176.out 1
     go_upto_region 9 with (first | (go_at_call 15; (with_reducible refine (schismaref04_Parts.calls kj1 a0_0 a0_1 t179 t180 true _ A15.out).mono ?_); rintro e w22 ⟨rfl, hb⟩; have n0_ := Aside0.mk (blk_below (g := gb176) (o := .cells #[.string a0_0, .string a0_1] 24 (0, 0)) (by (with_reducible repeat (first | refine blk_drewN ?_ _ | refine blk_drew ?_ | refine blk_alloc ?_ _)); exact BK176.out) hb); have n1_ := Aside0.mk (below_step (by repeat (first | (with_reducible first | exact HB.out | apply below_alloc | apply pw_below_drewN | apply below_drew1 | refine below_set ?_ GE176.out) | exact HB.out)) hb); clear BK176; clear HB; have BK176 := n0_; have HB := n1_; clear n0_ n1_; (try clear hb); (try clear hb2); (try clear hk); (try clear hi); have hcz23_0 : w22.cell? ⟨gb176, 0, none⟩ = some (.string a0_0) := (blk_cell BK176.out 0).trans rfl; have hcz23_1 : w22.cell? ⟨gb176, 1, none⟩ = some (.string a0_1) := (blk_cell BK176.out 1).trans rfl; have hfz23_0 := blk_frozen BK176.out 0; have hfz23_1 := blk_frozen BK176.out 1) | (go_at_call 19; (with_reducible refine (convergent_Terms.calls kj1 a0_0 a0_1 t182 t185 _ ?side1 A17.out).mono ?_); (case side1 => exact GWorld.below HG.out (by repeat (first | (with_reducible first | exact HB.out | apply below_alloc | apply pw_below_drewN | apply below_drew1 | refine below_set ?_ GE176.out) | exact HB.out))); rintro e w24 ⟨v183, rfl, ho0, hb⟩; have n0_ := Aside0.mk (Kd.R_lower ho0 (below_size (by repeat (first | (with_reducible first | exact HB.out | apply below_alloc | apply pw_below_drewN | apply below_drew1 | refine below_set ?_ GE176.out) | exact HB.out)))); have n1_ := Aside0.mk (blk_below (g := gb176) (o := .cells #[.string a0_0, .string a0_1] 24 (0, 0)) (by (with_reducible repeat (first | refine blk_drewN ?_ _ | refine blk_drew ?_ | refine blk_alloc ?_ _)); exact BK176.out) hb); have n2_ := Aside0.mk (below_step (by repeat (first | (with_reducible first | exact HB.out | apply below_alloc | apply pw_below_drewN | apply below_drew1 | refine below_set ?_ GE176.out) | exact HB.out)) hb); clear BK176; clear HB; have HO184 := n0_; have BK176 := n1_; have HB := n2_; clear n0_ n1_ n2_; (try clear hb); (try clear hb2); (try clear hk); (try clear hi); (try clear ho0); obtain ⟨Ao25, co25, eo25⟩ := Kd.R_slice HO184.out; subst eo25) | (go_at_call 31; (with_reducible refine (convergent_Value.calls kj1 _ _ t182 t186 t187 t188 _ ?side1 ?side2 ?side3 A18.out).mono ?_); (case side1 => repeat (first | exact (Kd.R_reads' HO184.out).2.2 | (with_reducible refine Kd.C_alloc ?_ _) | (with_reducible refine Kd.C_drewN ?_ _) | (with_reducible refine Kd.C_drew ?_))); (case side2 => exact (Kd.R_reads' HO184.out).2.1); (case side3 => exact GWorld.below HG.out (by repeat (first | (with_reducible first | exact HB.out | apply below_alloc | apply pw_below_drewN | apply below_drew1 | refine below_set ?_ GE176.out) | exact HB.out))); rintro e w26 ⟨rfl, hb⟩; have n0_ := Aside0.mk (Kd.R_below (by (with_reducible repeat (first | apply Kd.R_alloc | apply Kd.R_drewN | apply Kd.R_drew)); exact HO184.out) hb); have n1_ := Aside0.mk (blk_below (g := gb176) (o := .cells #[.string a0_0, .string a0_1] 24 (0, 0)) (by (with_reducible repeat (first | refine blk_drewN ?_ _ | refine blk_drew ?_ | refine blk_alloc ?_ _)); exact BK176.out) hb); have n2_ := Aside0.mk (below_step (by repeat (first | (with_reducible first | exact HB.out | apply below_alloc | apply pw_below_drewN | apply below_drew1 | refine below_set ?_ GE176.out) | exact HB.out)) hb); clear HO184; clear BK176; clear HB; have HO184 := n0_; have BK176 := n1_; have HB := n2_; clear n0_ n1_ n2_; (try clear hb); (try clear hb2); (try clear hk); (try clear hi)) | ((with_reducible refine gate_dst (N := 8) rfl ?_); (try (refine gate_guard (by rfl) ?_; dsimp only)); refine box_event ?hg (N := 8) ?hd (cs := #[.string (⟨#[]⟩ : ByteArray), .string (⟨#[]⟩ : ByteArray)]) (t := 24) ?hr ?_; (case hd => rfl); (case hg => rfl); (case hr => first | (go_simp; done) | (go_simp; rfl)); intro gb189 hg w27 hbox hb; have n0_ := Aside0.mk (Kd.R_below (by (with_reducible repeat (first | apply Kd.R_alloc | apply Kd.R_drewN | apply Kd.R_drew)); exact HO184.out) hb); have n1_ := Aside0.mk (blk_below (g := gb176) (o := .cells #[.string a0_0, .string a0_1] 24 (0, 0)) (by (with_reducible repeat (first | refine blk_drewN ?_ _ | refine blk_drew ?_ | refine blk_alloc ?_ _)); exact BK176.out) hb); have n2_ := Aside0.mk (below_step (by repeat (first | (with_reducible first | exact HB.out | apply below_alloc | apply pw_below_drewN | apply below_drew1 | refine below_set ?_ GE176.out) | exact HB.out)) hb); have n3_ := Aside0.mk (hbox); have n4_ := Aside0.mk ((by rw [hg]; exact (below_size (by repeat (first | (with_reducible first | exact HB.out | apply below_alloc | apply pw_below_drewN | apply below_drew1 | refine below_set ?_ GE176.out) | exact HB.out))) : w.heap.size ≤ gb189)); have n5_ := Aside0.mk ((by rw [hg]; exact (below_size (by repeat (first | (with_reducible first | exact HB.out | apply below_alloc | apply pw_below_drewN | apply below_drew1 | refine below_set ?_ GE176.out) | exact HB.out))) : w.heap.size ≤ gb189)); have n6_ := Aside0.mk ((by rw [hg]; exact Nat.ne_of_lt (blk_lt (g := gb176) (o := .cells #[.string a0_0, .string a0_1] 24 (0, 0)) (by (with_reducible repeat (first | refine blk_drewN ?_ _ | refine blk_drew ?_ | refine blk_alloc ?_ _)); exact BK176.out)) : gb176 ≠ gb189)); have n7_ := Aside0.mk ((by rw [hg]; exact Nat.ne_of_gt (blk_lt (g := gb176) (o := .cells #[.string a0_0, .string a0_1] 24 (0, 0)) (by (with_reducible repeat (first | refine blk_drewN ?_ _ | refine blk_drew ?_ | refine blk_alloc ?_ _)); exact BK176.out)) : gb189 ≠ gb176)); clear HO184; clear BK176; clear HB; have HO184 := n0_; have BK176 := n1_; have HB := n2_; have BK189 := n3_; have GW189 := n4_; have GE189 := n5_; have NB176_189 := n6_; have NB189_176 := n7_; clear n0_ n1_ n2_ n3_ n4_ n5_ n6_ n7_; clear hb hbox hg; have hnb28 := NB189_176.out; have hnc28 := NB176_189.out; have hcz29_0 : w27.cell? ⟨gb189, 0, none⟩ = some (.string (⟨#[]⟩ : ByteArray)) := (blk_cell BK189.out 0).trans rfl; have hcz29_1 : w27.cell? ⟨gb189, 1, none⟩ = some (.string (⟨#[]⟩ : ByteArray)) := (blk_cell BK189.out 1).trans rfl; have hfz29_0 := blk_frozen BK189.out 0; have hfz29_1 := blk_frozen BK189.out 1; have hcz30_0 : w27.cell? ⟨gb176, 0, none⟩ = some (.string a0_0) := (blk_cell BK176.out 0).trans rfl; have hcz30_1 : w27.cell? ⟨gb176, 1, none⟩ = some (.string a0_1) := (blk_cell BK176.out 1).trans rfl; have hfz30_0 := blk_frozen BK176.out 0; have hfz30_1 := blk_frozen BK176.out 1) | (go_at_call 20; (with_reducible refine (convergent_Convergents.calls kj1 a0_0 a0_1 t190 t193 _ ?side1 A19.out).mono ?_); (case side1 => exact GWorld.below HG.out (by repeat (first | (with_reducible first | exact HB.out | apply below_alloc | apply pw_below_drewN | apply below_drew1 | refine below_set ?_ GE176.out | refine below_set ?_ GE189.out) | exact HB.out))); rintro e w31 ⟨v191, rfl, ho0, hb⟩; have n0_ := Aside0.mk (Kd.R_below (by (with_reducible repeat (first | apply Kd.R_alloc | apply Kd.R_drewN | apply Kd.R_drew)); exact (Kd.R_mono (Kd.R_far (p := ⟨gb189, 1, none⟩) (Kd.R_far (p := ⟨gb189, 0, none⟩) (Kd.R_types HO184.out BK189.out (by decide)) (fun _ hk => hk.2) (.string t186)) (fun _ hk => hk.2) (.string t187)) (fun _ h_ => h_.1))) hb); have n1_ := Aside0.mk (Kd.R_lower (Kd.R_newB (Kd.R_newB ho0 (g := gb176) (o := .cells #[.string a0_0, .string a0_1] 24 (0, 0)) (by (with_reducible repeat (first | refine blk_drewN ?_ _ | refine blk_drew ?_ | refine blk_alloc ?_ _)); refine blk_far ?_ NB176_189.out _; (with_reducible repeat (first | refine blk_drewN ?_ _ | refine blk_drew ?_ | refine blk_alloc ?_ _)); refine blk_far ?_ NB176_189.out _; (with_reducible repeat (first | refine blk_drewN ?_ _ | refine blk_drew ?_ | refine blk_alloc ?_ _)); exact BK176.out)) (g := gb189) (o := .cells #[.string t186, .string t187] 24 (0, 0)) (by (with_reducible repeat (first | refine blk_drewN ?_ _ | refine blk_drew ?_ | refine blk_alloc ?_ _)); refine blk_put (cs := #[.string t186, .string (⟨#[]⟩ : ByteArray)]) ?_ 1 _ rfl; (with_reducible repeat (first | refine blk_drewN ?_ _ | refine blk_drew ?_ | refine blk_alloc ?_ _)); refine blk_put (cs := #[.string (⟨#[]⟩ : ByteArray), .string (⟨#[]⟩ : ByteArray)]) ?_ 0 _ rfl; (with_reducible repeat (first | refine blk_drewN ?_ _ | refine blk_drew ?_ | refine blk_alloc ?_ _)); exact BK189.out)) (below_size (by repeat (first | (with_reducible first | exact HB.out | apply below_alloc | apply pw_below_drewN | apply below_drew1 | refine below_set ?_ GE176.out | refine below_set ?_ GE189.out) | exact HB.out)))); have n2_ := Aside0.mk (blk_below (g := gb176) (o := .cells #[.string a0_0, .string a0_1] 24 (0, 0)) (by (with_reducible repeat (first | refine blk_drewN ?_ _ | refine blk_drew ?_ | refine blk_alloc ?_ _)); refine blk_far ?_ NB176_189.out _; (with_reducible repeat (first | refine blk_drewN ?_ _ | refine blk_drew ?_ | refine blk_alloc ?_ _)); refine blk_far ?_ NB176_189.out _; (with_reducible repeat (first | refine blk_drewN ?_ _ | refine blk_drew ?_ | refine blk_alloc ?_ _)); exact BK176.out) hb); have n3_ := Aside0.mk (blk_below (g := gb189) (o := .cells #[.string t186, .string t187] 24 (0, 0)) (by (with_reducible repeat (first | refine blk_drewN ?_ _ | refine blk_drew ?_ | refine blk_alloc ?_ _)); refine blk_put (cs := #[.string t186, .string (⟨#[]⟩ : ByteArray)]) ?_ 1 _ rfl; (with_reducible repeat (first | refine blk_drewN ?_ _ | refine blk_drew ?_ | refine blk_alloc ?_ _)); refine blk_put (cs := #[.string (⟨#[]⟩ : ByteArray), .string (⟨#[]⟩ : ByteArray)]) ?_ 0 _ rfl; (with_reducible repeat (first | refine blk_drewN ?_ _ | refine blk_drew ?_ | refine blk_alloc ?_ _)); exact BK189.out) hb); have n4_ := Aside0.mk (below_step (by repeat (first | (with_reducible first | exact HB.out | apply below_alloc | apply pw_below_drewN | apply below_drew1 | refine below_set ?_ GE176.out | refine below_set ?_ GE189.out) | exact HB.out)) hb); clear HO184; clear BK176; clear BK189; clear HB; have HO184 := n0_; have HO192 := n1_; have BK176 := n2_; have BK189 := n3_; have HB := n4_; clear n0_ n1_ n2_ n3_ n4_; (try clear hb); (try clear hb2); (try clear hk); (try clear hi); (try clear ho0)))
     repeat (go_quiet (first | (go_at_call 15; (with_reducible refine (schismaref04_Parts.calls kj1 a0_0 a0_1 t179 t180 true _ A15.out).mono ?_); rintro e w22 ⟨rfl, hb⟩; have n0_ := Aside0.mk (blk_below (g := gb176) (o := .cells #[.string a0_0, .string a0_1] 24 (0, 0)) (by (with_reducible repeat (first | refine blk_drewN ?_ _ | refine blk_drew ?_ | refine blk_alloc ?_ _)); exact BK176.out) hb); have n1_ := Aside0.mk (below_step (by repeat (first | (with_reducible first | exact HB.out | apply below_alloc | apply pw_below_drewN | apply below_drew1 | refine below_set ?_ GE176.out) | exact HB.out)) hb); clear BK176; clear HB; have BK176 := n0_; have HB := n1_; clear n0_ n1_; (try clear hb); (try clear hb2); (try clear hk); (try clear hi); have hcz23_0 : w22.cell? ⟨gb176, 0, none⟩ = some (.string a0_0) := (blk_cell BK176.out 0).trans rfl; have hcz23_1 : w22.cell? ⟨gb176, 1, none⟩ = some (.string a0_1) := (blk_cell BK176.out 1).trans rfl; have hfz23_0 := blk_frozen BK176.out 0; have hfz23_1 := blk_frozen BK176.out 1) | (go_at_call 19; (with_reducible refine (convergent_Terms.calls kj1 a0_0 a0_1 t182 t185 _ ?side1 A17.out).mono ?_); (case side1 => exact GWorld.below HG.out (by repeat (first | (with_reducible first | exact HB.out | apply below_alloc | apply pw_below_drewN | apply below_drew1 | refine below_set ?_ GE176.out) | exact HB.out))); rintro e w24 ⟨v183, rfl, ho0, hb⟩; have n0_ := Aside0.mk (Kd.R_lower ho0 (below_size (by repeat (first | (with_reducible first | exact HB.out | apply below_alloc | apply pw_below_drewN | apply below_drew1 | refine below_set ?_ GE176.out) | exact HB.out)))); have n1_ := Aside0.mk (blk_below (g := gb176) (o := .cells #[.string a0_0, .string a0_1] 24 (0, 0)) (by (with_reducible repeat (first | refine blk_drewN ?_ _ | refine blk_drew ?_ | refine blk_alloc ?_ _)); exact BK176.out) hb); have n2_ := Aside0.mk (below_step (by repeat (first | (with_reducible first | exact HB.out | apply below_alloc | apply pw_below_drewN | apply below_drew1 | refine below_set ?_ GE176.out) | exact HB.out)) hb); clear BK176; clear HB; have HO184 := n0_; have BK176 := n1_; have HB := n2_; clear n0_ n1_ n2_; (try clear hb); (try clear hb2); (try clear hk); (try clear hi); (try clear ho0); obtain ⟨Ao25, co25, eo25⟩ := Kd.R_slice HO184.out; subst eo25) | (go_at_call 31; (with_reducible refine (convergent_Value.calls kj1 _ _ t182 t186 t187 t188 _ ?side1 ?side2 ?side3 A18.out).mono ?_); (case side1 => repeat (first | exact (Kd.R_reads' HO184.out).2.2 | (with_reducible refine Kd.C_alloc ?_ _) | (with_reducible refine Kd.C_drewN ?_ _) | (with_reducible refine Kd.C_drew ?_))); (case side2 => exact (Kd.R_reads' HO184.out).2.1); (case side3 => exact GWorld.below HG.out (by repeat (first | (with_reducible first | exact HB.out | apply below_alloc | apply pw_below_drewN | apply below_drew1 | refine below_set ?_ GE176.out) | exact HB.out))); rintro e w26 ⟨rfl, hb⟩; have n0_ := Aside0.mk (Kd.R_below (by (with_reducible repeat (first | apply Kd.R_alloc | apply Kd.R_drewN | apply Kd.R_drew)); exact HO184.out) hb); have n1_ := Aside0.mk (blk_below (g := gb176) (o := .cells #[.string a0_0, .string a0_1] 24 (0, 0)) (by (with_reducible repeat (first | refine blk_drewN ?_ _ | refine blk_drew ?_ | refine blk_alloc ?_ _)); exact BK176.out) hb); have n2_ := Aside0.mk (below_step (by repeat (first | (with_reducible first | exact HB.out | apply below_alloc | apply pw_below_drewN | apply below_drew1 | refine below_set ?_ GE176.out) | exact HB.out)) hb); clear HO184; clear BK176; clear HB; have HO184 := n0_; have BK176 := n1_; have HB := n2_; clear n0_ n1_ n2_; (try clear hb); (try clear hb2); (try clear hk); (try clear hi)) | ((with_reducible refine gate_dst (N := 8) rfl ?_); (try (refine gate_guard (by rfl) ?_; dsimp only)); refine box_event ?hg (N := 8) ?hd (cs := #[.string (⟨#[]⟩ : ByteArray), .string (⟨#[]⟩ : ByteArray)]) (t := 24) ?hr ?_; (case hd => rfl); (case hg => rfl); (case hr => first | (go_simp; done) | (go_simp; rfl)); intro gb189 hg w27 hbox hb; have n0_ := Aside0.mk (Kd.R_below (by (with_reducible repeat (first | apply Kd.R_alloc | apply Kd.R_drewN | apply Kd.R_drew)); exact HO184.out) hb); have n1_ := Aside0.mk (blk_below (g := gb176) (o := .cells #[.string a0_0, .string a0_1] 24 (0, 0)) (by (with_reducible repeat (first | refine blk_drewN ?_ _ | refine blk_drew ?_ | refine blk_alloc ?_ _)); exact BK176.out) hb); have n2_ := Aside0.mk (below_step (by repeat (first | (with_reducible first | exact HB.out | apply below_alloc | apply pw_below_drewN | apply below_drew1 | refine below_set ?_ GE176.out) | exact HB.out)) hb); have n3_ := Aside0.mk (hbox); have n4_ := Aside0.mk ((by rw [hg]; exact (below_size (by repeat (first | (with_reducible first | exact HB.out | apply below_alloc | apply pw_below_drewN | apply below_drew1 | refine below_set ?_ GE176.out) | exact HB.out))) : w.heap.size ≤ gb189)); have n5_ := Aside0.mk ((by rw [hg]; exact (below_size (by repeat (first | (with_reducible first | exact HB.out | apply below_alloc | apply pw_below_drewN | apply below_drew1 | refine below_set ?_ GE176.out) | exact HB.out))) : w.heap.size ≤ gb189)); have n6_ := Aside0.mk ((by rw [hg]; exact Nat.ne_of_lt (blk_lt (g := gb176) (o := .cells #[.string a0_0, .string a0_1] 24 (0, 0)) (by (with_reducible repeat (first | refine blk_drewN ?_ _ | refine blk_drew ?_ | refine blk_alloc ?_ _)); exact BK176.out)) : gb176 ≠ gb189)); have n7_ := Aside0.mk ((by rw [hg]; exact Nat.ne_of_gt (blk_lt (g := gb176) (o := .cells #[.string a0_0, .string a0_1] 24 (0, 0)) (by (with_reducible repeat (first | refine blk_drewN ?_ _ | refine blk_drew ?_ | refine blk_alloc ?_ _)); exact BK176.out)) : gb189 ≠ gb176)); clear HO184; clear BK176; clear HB; have HO184 := n0_; have BK176 := n1_; have HB := n2_; have BK189 := n3_; have GW189 := n4_; have GE189 := n5_; have NB176_189 := n6_; have NB189_176 := n7_; clear n0_ n1_ n2_ n3_ n4_ n5_ n6_ n7_; clear hb hbox hg; have hnb28 := NB189_176.out; have hnc28 := NB176_189.out; have hcz29_0 : w27.cell? ⟨gb189, 0, none⟩ = some (.string (⟨#[]⟩ : ByteArray)) := (blk_cell BK189.out 0).trans rfl; have hcz29_1 : w27.cell? ⟨gb189, 1, none⟩ = some (.string (⟨#[]⟩ : ByteArray)) := (blk_cell BK189.out 1).trans rfl; have hfz29_0 := blk_frozen BK189.out 0; have hfz29_1 := blk_frozen BK189.out 1; have hcz30_0 : w27.cell? ⟨gb176, 0, none⟩ = some (.string a0_0) := (blk_cell BK176.out 0).trans rfl; have hcz30_1 : w27.cell? ⟨gb176, 1, none⟩ = some (.string a0_1) := (blk_cell BK176.out 1).trans rfl; have hfz30_0 := blk_frozen BK176.out 0; have hfz30_1 := blk_frozen BK176.out 1) | (go_at_call 20; (with_reducible refine (convergent_Convergents.calls kj1 a0_0 a0_1 t190 t193 _ ?side1 A19.out).mono ?_); (case side1 => exact GWorld.below HG.out (by repeat (first | (with_reducible first | exact HB.out | apply below_alloc | apply pw_below_drewN | apply below_drew1 | refine below_set ?_ GE176.out | refine below_set ?_ GE189.out) | exact HB.out))); rintro e w31 ⟨v191, rfl, ho0, hb⟩; have n0_ := Aside0.mk (Kd.R_below (by (with_reducible repeat (first | apply Kd.R_alloc | apply Kd.R_drewN | apply Kd.R_drew)); exact (Kd.R_mono (Kd.R_far (p := ⟨gb189, 1, none⟩) (Kd.R_far (p := ⟨gb189, 0, none⟩) (Kd.R_types HO184.out BK189.out (by decide)) (fun _ hk => hk.2) (.string t186)) (fun _ hk => hk.2) (.string t187)) (fun _ h_ => h_.1))) hb); have n1_ := Aside0.mk (Kd.R_lower (Kd.R_newB (Kd.R_newB ho0 (g := gb176) (o := .cells #[.string a0_0, .string a0_1] 24 (0, 0)) (by (with_reducible repeat (first | refine blk_drewN ?_ _ | refine blk_drew ?_ | refine blk_alloc ?_ _)); refine blk_far ?_ NB176_189.out _; (with_reducible repeat (first | refine blk_drewN ?_ _ | refine blk_drew ?_ | refine blk_alloc ?_ _)); refine blk_far ?_ NB176_189.out _; (with_reducible repeat (first | refine blk_drewN ?_ _ | refine blk_drew ?_ | refine blk_alloc ?_ _)); exact BK176.out)) (g := gb189) (o := .cells #[.string t186, .string t187] 24 (0, 0)) (by (with_reducible repeat (first | refine blk_drewN ?_ _ | refine blk_drew ?_ | refine blk_alloc ?_ _)); refine blk_put (cs := #[.string t186, .string (⟨#[]⟩ : ByteArray)]) ?_ 1 _ rfl; (with_reducible repeat (first | refine blk_drewN ?_ _ | refine blk_drew ?_ | refine blk_alloc ?_ _)); refine blk_put (cs := #[.string (⟨#[]⟩ : ByteArray), .string (⟨#[]⟩ : ByteArray)]) ?_ 0 _ rfl; (with_reducible repeat (first | refine blk_drewN ?_ _ | refine blk_drew ?_ | refine blk_alloc ?_ _)); exact BK189.out)) (below_size (by repeat (first | (with_reducible first | exact HB.out | apply below_alloc | apply pw_below_drewN | apply below_drew1 | refine below_set ?_ GE176.out | refine below_set ?_ GE189.out) | exact HB.out)))); have n2_ := Aside0.mk (blk_below (g := gb176) (o := .cells #[.string a0_0, .string a0_1] 24 (0, 0)) (by (with_reducible repeat (first | refine blk_drewN ?_ _ | refine blk_drew ?_ | refine blk_alloc ?_ _)); refine blk_far ?_ NB176_189.out _; (with_reducible repeat (first | refine blk_drewN ?_ _ | refine blk_drew ?_ | refine blk_alloc ?_ _)); refine blk_far ?_ NB176_189.out _; (with_reducible repeat (first | refine blk_drewN ?_ _ | refine blk_drew ?_ | refine blk_alloc ?_ _)); exact BK176.out) hb); have n3_ := Aside0.mk (blk_below (g := gb189) (o := .cells #[.string t186, .string t187] 24 (0, 0)) (by (with_reducible repeat (first | refine blk_drewN ?_ _ | refine blk_drew ?_ | refine blk_alloc ?_ _)); refine blk_put (cs := #[.string t186, .string (⟨#[]⟩ : ByteArray)]) ?_ 1 _ rfl; (with_reducible repeat (first | refine blk_drewN ?_ _ | refine blk_drew ?_ | refine blk_alloc ?_ _)); refine blk_put (cs := #[.string (⟨#[]⟩ : ByteArray), .string (⟨#[]⟩ : ByteArray)]) ?_ 0 _ rfl; (with_reducible repeat (first | refine blk_drewN ?_ _ | refine blk_drew ?_ | refine blk_alloc ?_ _)); exact BK189.out) hb); have n4_ := Aside0.mk (below_step (by repeat (first | (with_reducible first | exact HB.out | apply below_alloc | apply pw_below_drewN | apply below_drew1 | refine below_set ?_ GE176.out | refine below_set ?_ GE189.out) | exact HB.out)) hb); clear HO184; clear BK176; clear BK189; clear HB; have HO184 := n0_; have HO192 := n1_; have BK176 := n2_; have BK189 := n3_; have HB := n4_; clear n0_ n1_ n2_ n3_ n4_; (try clear hb); (try clear hb2); (try clear hk); (try clear hi); (try clear ho0))); go_upto_region 9 with (first | (go_at_call 15; (with_reducible refine (schismaref04_Parts.calls kj1 a0_0 a0_1 t179 t180 true _ A15.out).mono ?_); rintro e w22 ⟨rfl, hb⟩; have n0_ := Aside0.mk (blk_below (g := gb176) (o := .cells #[.string a0_0, .string a0_1] 24 (0, 0)) (by (with_reducible repeat (first | refine blk_drewN ?_ _ | refine blk_drew ?_ | refine blk_alloc ?_ _)); exact BK176.out) hb); have n1_ := Aside0.mk (below_step (by repeat (first | (with_reducible first | exact HB.out | apply below_alloc | apply pw_below_drewN | apply below_drew1 | refine below_set ?_ GE176.out) | exact HB.out)) hb); clear BK176; clear HB; have BK176 := n0_; have HB := n1_; clear n0_ n1_; (try clear hb); (try clear hb2); (try clear hk); (try clear hi); have hcz23_0 : w22.cell? ⟨gb176, 0, none⟩ = some (.string a0_0) := (blk_cell BK176.out 0).trans rfl; have hcz23_1 : w22.cell? ⟨gb176, 1, none⟩ = some (.string a0_1) := (blk_cell BK176.out 1).trans rfl; have hfz23_0 := blk_frozen BK176.out 0; have hfz23_1 := blk_frozen BK176.out 1) | (go_at_call 19; (with_reducible refine (convergent_Terms.calls kj1 a0_0 a0_1 t182 t185 _ ?side1 A17.out).mono ?_); (case side1 => exact GWorld.below HG.out (by repeat (first | (with_reducible first | exact HB.out | apply below_alloc | apply pw_below_drewN | apply below_drew1 | refine below_set ?_ GE176.out) | exact HB.out))); rintro e w24 ⟨v183, rfl, ho0, hb⟩; have n0_ := Aside0.mk (Kd.R_lower ho0 (below_size (by repeat (first | (with_reducible first | exact HB.out | apply below_alloc | apply pw_below_drewN | apply below_drew1 | refine below_set ?_ GE176.out) | exact HB.out)))); have n1_ := Aside0.mk (blk_below (g := gb176) (o := .cells #[.string a0_0, .string a0_1] 24 (0, 0)) (by (with_reducible repeat (first | refine blk_drewN ?_ _ | refine blk_drew ?_ | refine blk_alloc ?_ _)); exact BK176.out) hb); have n2_ := Aside0.mk (below_step (by repeat (first | (with_reducible first | exact HB.out | apply below_alloc | apply pw_below_drewN | apply below_drew1 | refine below_set ?_ GE176.out) | exact HB.out)) hb); clear BK176; clear HB; have HO184 := n0_; have BK176 := n1_; have HB := n2_; clear n0_ n1_ n2_; (try clear hb); (try clear hb2); (try clear hk); (try clear hi); (try clear ho0); obtain ⟨Ao25, co25, eo25⟩ := Kd.R_slice HO184.out; subst eo25) | (go_at_call 31; (with_reducible refine (convergent_Value.calls kj1 _ _ t182 t186 t187 t188 _ ?side1 ?side2 ?side3 A18.out).mono ?_); (case side1 => repeat (first | exact (Kd.R_reads' HO184.out).2.2 | (with_reducible refine Kd.C_alloc ?_ _) | (with_reducible refine Kd.C_drewN ?_ _) | (with_reducible refine Kd.C_drew ?_))); (case side2 => exact (Kd.R_reads' HO184.out).2.1); (case side3 => exact GWorld.below HG.out (by repeat (first | (with_reducible first | exact HB.out | apply below_alloc | apply pw_below_drewN | apply below_drew1 | refine below_set ?_ GE176.out) | exact HB.out))); rintro e w26 ⟨rfl, hb⟩; have n0_ := Aside0.mk (Kd.R_below (by (with_reducible repeat (first | apply Kd.R_alloc | apply Kd.R_drewN | apply Kd.R_drew)); exact HO184.out) hb); have n1_ := Aside0.mk (blk_below (g := gb176) (o := .cells #[.string a0_0, .string a0_1] 24 (0, 0)) (by (with_reducible repeat (first | refine blk_drewN ?_ _ | refine blk_drew ?_ | refine blk_alloc ?_ _)); exact BK176.out) hb); have n2_ := Aside0.mk (below_step (by repeat (first | (with_reducible first | exact HB.out | apply below_alloc | apply pw_below_drewN | apply below_drew1 | refine below_set ?_ GE176.out) | exact HB.out)) hb); clear HO184; clear BK176; clear HB; have HO184 := n0_; have BK176 := n1_; have HB := n2_; clear n0_ n1_ n2_; (try clear hb); (try clear hb2); (try clear hk); (try clear hi)) | ((with_reducible refine gate_dst (N := 8) rfl ?_); (try (refine gate_guard (by rfl) ?_; dsimp only)); refine box_event ?hg (N := 8) ?hd (cs := #[.string (⟨#[]⟩ : ByteArray), .string (⟨#[]⟩ : ByteArray)]) (t := 24) ?hr ?_; (case hd => rfl); (case hg => rfl); (case hr => first | (go_simp; done) | (go_simp; rfl)); intro gb189 hg w27 hbox hb; have n0_ := Aside0.mk (Kd.R_below (by (with_reducible repeat (first | apply Kd.R_alloc | apply Kd.R_drewN | apply Kd.R_drew)); exact HO184.out) hb); have n1_ := Aside0.mk (blk_below (g := gb176) (o := .cells #[.string a0_0, .string a0_1] 24 (0, 0)) (by (with_reducible repeat (first | refine blk_drewN ?_ _ | refine blk_drew ?_ | refine blk_alloc ?_ _)); exact BK176.out) hb); have n2_ := Aside0.mk (below_step (by repeat (first | (with_reducible first | exact HB.out | apply below_alloc | apply pw_below_drewN | apply below_drew1 | refine below_set ?_ GE176.out) | exact HB.out)) hb); have n3_ := Aside0.mk (hbox); have n4_ := Aside0.mk ((by rw [hg]; exact (below_size (by repeat (first | (with_reducible first | exact HB.out | apply below_alloc | apply pw_below_drewN | apply below_drew1 | refine below_set ?_ GE176.out) | exact HB.out))) : w.heap.size ≤ gb189)); have n5_ := Aside0.mk ((by rw [hg]; exact (below_size (by repeat (first | (with_reducible first | exact HB.out | apply below_alloc | apply pw_below_drewN | apply below_drew1 | refine below_set ?_ GE176.out) | exact HB.out))) : w.heap.size ≤ gb189)); have n6_ := Aside0.mk ((by rw [hg]; exact Nat.ne_of_lt (blk_lt (g := gb176) (o := .cells #[.string a0_0, .string a0_1] 24 (0, 0)) (by (with_reducible repeat (first | refine blk_drewN ?_ _ | refine blk_drew ?_ | refine blk_alloc ?_ _)); exact BK176.out)) : gb176 ≠ gb189)); have n7_ := Aside0.mk ((by rw [hg]; exact Nat.ne_of_gt (blk_lt (g := gb176) (o := .cells #[.string a0_0, .string a0_1] 24 (0, 0)) (by (with_reducible repeat (first | refine blk_drewN ?_ _ | refine blk_drew ?_ | refine blk_alloc ?_ _)); exact BK176.out)) : gb189 ≠ gb176)); clear HO184; clear BK176; clear HB; have HO184 := n0_; have BK176 := n1_; have HB := n2_; have BK189 := n3_; have GW189 := n4_; have GE189 := n5_; have NB176_189 := n6_; have NB189_176 := n7_; clear n0_ n1_ n2_ n3_ n4_ n5_ n6_ n7_; clear hb hbox hg; have hnb28 := NB189_176.out; have hnc28 := NB176_189.out; have hcz29_0 : w27.cell? ⟨gb189, 0, none⟩ = some (.string (⟨#[]⟩ : ByteArray)) := (blk_cell BK189.out 0).trans rfl; have hcz29_1 : w27.cell? ⟨gb189, 1, none⟩ = some (.string (⟨#[]⟩ : ByteArray)) := (blk_cell BK189.out 1).trans rfl; have hfz29_0 := blk_frozen BK189.out 0; have hfz29_1 := blk_frozen BK189.out 1; have hcz30_0 : w27.cell? ⟨gb176, 0, none⟩ = some (.string a0_0) := (blk_cell BK176.out 0).trans rfl; have hcz30_1 : w27.cell? ⟨gb176, 1, none⟩ = some (.string a0_1) := (blk_cell BK176.out 1).trans rfl; have hfz30_0 := blk_frozen BK176.out 0; have hfz30_1 := blk_frozen BK176.out 1) | (go_at_call 20; (with_reducible refine (convergent_Convergents.calls kj1 a0_0 a0_1 t190 t193 _ ?side1 A19.out).mono ?_); (case side1 => exact GWorld.below HG.out (by repeat (first | (with_reducible first | exact HB.out | apply below_alloc | apply pw_below_drewN | apply below_drew1 | refine below_set ?_ GE176.out | refine below_set ?_ GE189.out) | exact HB.out))); rintro e w31 ⟨v191, rfl, ho0, hb⟩; have n0_ := Aside0.mk (Kd.R_below (by (with_reducible repeat (first | apply Kd.R_alloc | apply Kd.R_drewN | apply Kd.R_drew)); exact (Kd.R_mono (Kd.R_far (p := ⟨gb189, 1, none⟩) (Kd.R_far (p := ⟨gb189, 0, none⟩) (Kd.R_types HO184.out BK189.out (by decide)) (fun _ hk => hk.2) (.string t186)) (fun _ hk => hk.2) (.string t187)) (fun _ h_ => h_.1))) hb); have n1_ := Aside0.mk (Kd.R_lower (Kd.R_newB (Kd.R_newB ho0 (g := gb176) (o := .cells #[.string a0_0, .string a0_1] 24 (0, 0)) (by (with_reducible repeat (first | refine blk_drewN ?_ _ | refine blk_drew ?_ | refine blk_alloc ?_ _)); refine blk_far ?_ NB176_189.out _; (with_reducible repeat (first | refine blk_drewN ?_ _ | refine blk_drew ?_ | refine blk_alloc ?_ _)); refine blk_far ?_ NB176_189.out _; (with_reducible repeat (first | refine blk_drewN ?_ _ | refine blk_drew ?_ | refine blk_alloc ?_ _)); exact BK176.out)) (g := gb189) (o := .cells #[.string t186, .string t187] 24 (0, 0)) (by (with_reducible repeat (first | refine blk_drewN ?_ _ | refine blk_drew ?_ | refine blk_alloc ?_ _)); refine blk_put (cs := #[.string t186, .string (⟨#[]⟩ : ByteArray)]) ?_ 1 _ rfl; (with_reducible repeat (first | refine blk_drewN ?_ _ | refine blk_drew ?_ | refine blk_alloc ?_ _)); refine blk_put (cs := #[.string (⟨#[]⟩ : ByteArray), .string (⟨#[]⟩ : ByteArray)]) ?_ 0 _ rfl; (with_reducible repeat (first | refine blk_drewN ?_ _ | refine blk_drew ?_ | refine blk_alloc ?_ _)); exact BK189.out)) (below_size (by repeat (first | (with_reducible first | exact HB.out | apply below_alloc | apply pw_below_drewN | apply below_drew1 | refine below_set ?_ GE176.out | refine below_set ?_ GE189.out) | exact HB.out)))); have n2_ := Aside0.mk (blk_below (g := gb176) (o := .cells #[.string a0_0, .string a0_1] 24 (0, 0)) (by (with_reducible repeat (first | refine blk_drewN ?_ _ | refine blk_drew ?_ | refine blk_alloc ?_ _)); refine blk_far ?_ NB176_189.out _; (with_reducible repeat (first | refine blk_drewN ?_ _ | refine blk_drew ?_ | refine blk_alloc ?_ _)); refine blk_far ?_ NB176_189.out _; (with_reducible repeat (first | refine blk_drewN ?_ _ | refine blk_drew ?_ | refine blk_alloc ?_ _)); exact BK176.out) hb); have n3_ := Aside0.mk (blk_below (g := gb189) (o := .cells #[.string t186, .string t187] 24 (0, 0)) (by (with_reducible repeat (first | refine blk_drewN ?_ _ | refine blk_drew ?_ | refine blk_alloc ?_ _)); refine blk_put (cs := #[.string t186, .string (⟨#[]⟩ : ByteArray)]) ?_ 1 _ rfl; (with_reducible repeat (first | refine blk_drewN ?_ _ | refine blk_drew ?_ | refine blk_alloc ?_ _)); refine blk_put (cs := #[.string (⟨#[]⟩ : ByteArray), .string (⟨#[]⟩ : ByteArray)]) ?_ 0 _ rfl; (with_reducible repeat (first | refine blk_drewN ?_ _ | refine blk_drew ?_ | refine blk_alloc ?_ _)); exact BK189.out) hb); have n4_ := Aside0.mk (below_step (by repeat (first | (with_reducible first | exact HB.out | apply below_alloc | apply pw_below_drewN | apply below_drew1 | refine below_set ?_ GE176.out | refine below_set ?_ GE189.out) | exact HB.out)) hb); clear HO184; clear BK176; clear BK189; clear HB; have HO184 := n0_; have HO192 := n1_; have BK176 := n2_; have BK189 := n3_; have HB := n4_; clear n0_ n1_ n2_ n3_ n4_; (try clear hb); (try clear hb2); (try clear hk); (try clear hi); (try clear ho0))))
     (try simp only [Act.put, List.setIfInBounds_toArray, List.set_cons_zero, List.set_cons_succ])
     go_cut [90] (fun v90 wc => ∃ (kq : Nat) (x90_19 : Bool), v90 = .bool x90_19 ∧ Aside0 (schismalaw04_ConvergentLaws.j1 kq t179 t180 t190 x90_19 = some r) ∧ Aside0 (kq ≤ kj1) ∧ Aside0 (Kd.R k24 24 wc w.heap.size (fun k_ => k_ ≠ gb176 ∧ k_ ≠ gb189) v191 t190) ∧ Aside0 (wc.heap[gb176]? = some (.cells #[.string a0_0, .string a0_1] 24 (0, 0))) ∧ Aside0 (wc.heap[gb189]? = some (.cells #[.string t186, .string t187] 24 (0, 0))) ∧ Aside0 (Below w.heap.size w wc))
     case first =>
      have H := HC20.out
      clear HC20
      by_cases c32 : t185 = 0
      ·rw [if_pos c32] at H
       have c32b0 : (t185 == 0) = true := beq_iff_eq.mpr c32
       have c32b1 : (t185 != 0) = false := bne_eq_false_iff_eq.mpr c32
       clear c32
       (first | rw [c32b0] | (simp only [i64_w, i32_w]; rw [c32b0]) | skip)
       by_cases c33 : t188 = 0
       ·rw [if_pos c33] at H
        have c33b0 : (t188 == 0) = true := beq_iff_eq.mpr c33
        have c33b1 : (t188 != 0) = false := bne_eq_false_iff_eq.mpr c33
        clear c33
        by_cases c34 : (!(t186.toList == a0_0.toList) || (!(t187.toList == a0_1.toList))) = true
        ·rw [if_pos c34] at H
         have c34b0 : (!(t186.toList == a0_0.toList) || (!(t187.toList == a0_1.toList))) = true := c34
         clear c34
         have H' := Aside0.mk H
         clear H
         have hnb35 := NB189_176.out
         have hnc35 := NB176_189.out
         have hcz36_0 : w31.cell? ⟨gb189, 0, none⟩ = some (.string t186) := (blk_cell BK189.out 0).trans rfl
         have hcz36_1 : w31.cell? ⟨gb189, 1, none⟩ = some (.string t187) := (blk_cell BK189.out 1).trans rfl
         have hfz36_0 := blk_frozen BK189.out 0
         have hfz36_1 := blk_frozen BK189.out 1
         have hcz37_0 : w31.cell? ⟨gb176, 0, none⟩ = some (.string a0_0) := (blk_cell BK176.out 0).trans rfl
         have hcz37_1 : w31.cell? ⟨gb176, 1, none⟩ = some (.string a0_1) := (blk_cell BK176.out 1).trans rfl
         have hfz37_0 := blk_frozen BK176.out 0
         have hfz37_1 := blk_frozen BK176.out 1
         go_wp2
         repeat (go_quiet (fail); try go_wp2)
         go_meet
         case rel => exact ⟨_, (true), (by first | rfl | (simp; done) | (simp [*]; done)), H', ⟨by have := HJ1.out; first | omega | exact Nat.le_refl _⟩, ⟨by (with_reducible repeat (first | apply Kd.R_alloc | apply Kd.R_drewN | apply Kd.R_drew)); exact Kd.R_mono HO192.out (fun _ hk => ⟨hk.1.2, hk.2⟩)⟩, ⟨by (with_reducible repeat (first | refine blk_drewN ?_ _ | refine blk_drew ?_ | refine blk_alloc ?_ _)); exact BK176.out⟩, ⟨by (with_reducible repeat (first | refine blk_drewN ?_ _ | refine blk_drew ?_ | refine blk_alloc ?_ _)); exact BK189.out⟩, ⟨by repeat (first | (with_reducible first | exact HB.out | apply below_alloc | apply pw_below_drewN | apply below_drew1 | refine below_set ?_ GE176.out | refine below_set ?_ GE189.out) | exact HB.out)⟩⟩
        ·rw [if_neg c34] at H
         have c34b0 : (!(t186.toList == a0_0.toList) || (!(t187.toList == a0_1.toList))) = false := by simpa using c34
         clear c34
         by_cases c38 : t193 = 0
         ·rw [if_pos c38] at H
          have c38b0 : (t193 == 0) = true := beq_iff_eq.mpr c38
          have c38b1 : (t193 != 0) = false := bne_eq_false_iff_eq.mpr c38
          clear c38
          by_cases c39 : (t190.length : Int) = (t182.length : Int)
          ·rw [if_pos c39] at H
           have c39b0 : ((t190.length : Int) == (t182.length : Int)) = true := beq_iff_eq.mpr c39
           have c39b1 : ((t190.length : Int) != (t182.length : Int)) = false := bne_eq_false_iff_eq.mpr c39
           have c39b2 : (t190.length == t182.length) = true := by first | simpa using c39 | (simp at c39 ⊢; omega)
           clear c39
           by_cases c40 : (t190.length : Int) = 0
           ·rw [if_pos c40] at H
            have c40b0 : ((t190.length : Int) == 0) = true := beq_iff_eq.mpr c40
            have c40b1 : ((t190.length : Int) != 0) = false := bne_eq_false_iff_eq.mpr c40
            clear c40
            have H' := Aside0.mk H
            clear H
            have hnb41 := NB189_176.out
            have hnc41 := NB176_189.out
            have hcz42_0 : w31.cell? ⟨gb189, 0, none⟩ = some (.string t186) := (blk_cell BK189.out 0).trans rfl
            have hcz42_1 : w31.cell? ⟨gb189, 1, none⟩ = some (.string t187) := (blk_cell BK189.out 1).trans rfl
            have hfz42_0 := blk_frozen BK189.out 0
            have hfz42_1 := blk_frozen BK189.out 1
            have hcz43_0 : w31.cell? ⟨gb176, 0, none⟩ = some (.string a0_0) := (blk_cell BK176.out 0).trans rfl
            have hcz43_1 : w31.cell? ⟨gb176, 1, none⟩ = some (.string a0_1) := (blk_cell BK176.out 1).trans rfl
            have hfz43_0 := blk_frozen BK176.out 0
            have hfz43_1 := blk_frozen BK176.out 1
            obtain ⟨Ao44, co44, eo44⟩ := Kd.R_slice HO192.out
            subst eo44
            go_wp2
            repeat (go_quiet (fail); try go_wp2)
            go_meet
            case rel => exact ⟨_, (true), (by first | rfl | (simp; done) | (simp [*]; done)), H', ⟨by have := HJ1.out; first | omega | exact Nat.le_refl _⟩, ⟨by (with_reducible repeat (first | apply Kd.R_alloc | apply Kd.R_drewN | apply Kd.R_drew)); exact Kd.R_mono HO192.out (fun _ hk => ⟨hk.1.2, hk.2⟩)⟩, ⟨by (with_reducible repeat (first | refine blk_drewN ?_ _ | refine blk_drew ?_ | refine blk_alloc ?_ _)); exact BK176.out⟩, ⟨by (with_reducible repeat (first | refine blk_drewN ?_ _ | refine blk_drew ?_ | refine blk_alloc ?_ _)); exact BK189.out⟩, ⟨by repeat (first | (with_reducible first | exact HB.out | apply below_alloc | apply pw_below_drewN | apply below_drew1 | refine below_set ?_ GE176.out | refine below_set ?_ GE189.out) | exact HB.out)⟩⟩
           ·rw [if_neg c40] at H
            have c40b0 : ((t190.length : Int) == 0) = false := beq_eq_false_iff_ne.mpr c40
            have c40b1 : ((t190.length : Int) != 0) = true := bne_iff_ne.mpr c40
            have c40b2 : ¬ (t190 = []) := fun h_ => c40 (by rw [h_]; rfl)
            obtain ⟨ji45, hji45⟩ : ∃ j_ : Int, (wrap64 ((t190.length : Int) - 1)) = j_ := ⟨_, rfl⟩
            replace H : (if 0 ≤ (ji45) then (if (ji45) < (t190.length : Int) then (schismalaw04_ConvergentLaws.j1 kj1 t179 t180 t190 (!((((rd_T24 t190 (ji45)).f0).toList) == a0_0.toList) || (!((((rd_T24 t190 (ji45)).f1).toList) == a0_1.toList)))) else (none)) else (none)) = some r := by first | (rw [hji45] at H; exact H) | (simp only [hji45] at H ⊢; exact H)
            have hji45w : (IntKind.i64.wrap ((t190.length : Int) - 1)) = ji45 := (i64_w _).trans hji45
            by_cases c46 : 0 ≤ (ji45)
            ·rw [if_pos c46] at H
             have c46b0 : decide (0 ≤ (ji45)) = true := decide_eq_true c46
             clear c46
             by_cases c47 : (ji45) < (t190.length : Int)
             ·rw [if_pos c47] at H
              have c47b0 : decide ((ji45) < (t190.length : Int)) = true := decide_eq_true c47
              clear c47
              have H' := Aside0.mk H
              clear H
              have hnb48 := NB189_176.out
              have hnc48 := NB176_189.out
              have hcz49_0 : w31.cell? ⟨gb189, 0, none⟩ = some (.string t186) := (blk_cell BK189.out 0).trans rfl
              have hcz49_1 : w31.cell? ⟨gb189, 1, none⟩ = some (.string t187) := (blk_cell BK189.out 1).trans rfl
              have hfz49_0 := blk_frozen BK189.out 0
              have hfz49_1 := blk_frozen BK189.out 1
              have hcz50_0 : w31.cell? ⟨gb176, 0, none⟩ = some (.string a0_0) := (blk_cell BK176.out 0).trans rfl
              have hcz50_1 : w31.cell? ⟨gb176, 1, none⟩ = some (.string a0_1) := (blk_cell BK176.out 1).trans rfl
              have hfz50_0 := blk_frozen BK176.out 0
              have hfz50_1 := blk_frozen BK176.out 1
              obtain ⟨Ao51, co51, eo51⟩ := Kd.R_slice HO192.out
              subst eo51
              have p194 : 0 ≤ ((ji45) : Int) := of_decide_eq_true (by first | (with_reducible assumption) | assumption)
              have q194 : (ji45) < (t190.length : Int) := of_decide_eq_true (by first | (with_reducible assumption) | assumption)
              obtain ⟨ad194, e194, hx194_0, hx194_1⟩ := at_T24 (Kd.R_reads' HO192.out).2.2 (ji45) p194 q194
              cases e194
              replace p194 := eq_true p194
              replace q194 := eq_true q194
              go_wp2
              repeat (go_quiet (fail); try go_wp2)
              go_meet
              case rel => exact ⟨_, ((!((((rd_T24 t190 (ji45)).f0).toList) == a0_0.toList) || (!((((rd_T24 t190 (ji45)).f1).toList) == a0_1.toList)))), (by first | rfl | (simp; done) | (simp only [← hji45] <;> (first | rfl | simp)) | (simp [*]; done)), H', ⟨by have := HJ1.out; first | omega | exact Nat.le_refl _⟩, ⟨by (with_reducible repeat (first | apply Kd.R_alloc | apply Kd.R_drewN | apply Kd.R_drew)); exact Kd.R_mono HO192.out (fun _ hk => ⟨hk.1.2, hk.2⟩)⟩, ⟨by (with_reducible repeat (first | refine blk_drewN ?_ _ | refine blk_drew ?_ | refine blk_alloc ?_ _)); exact BK176.out⟩, ⟨by (with_reducible repeat (first | refine blk_drewN ?_ _ | refine blk_drew ?_ | refine blk_alloc ?_ _)); exact BK189.out⟩, ⟨by repeat (first | (with_reducible first | exact HB.out | apply below_alloc | apply pw_below_drewN | apply below_drew1 | refine below_set ?_ GE176.out | refine below_set ?_ GE189.out) | exact HB.out)⟩⟩
             ·rw [if_neg c47] at H
              exact absurd H (by simp)
            ·rw [if_neg c46] at H
             exact absurd H (by simp)
          ·rw [if_neg c39] at H
           have c39b0 : ((t190.length : Int) == (t182.length : Int)) = false := beq_eq_false_iff_ne.mpr c39
           have c39b1 : ((t190.length : Int) != (t182.length : Int)) = true := bne_iff_ne.mpr c39
           have c39b2 : (t190.length == t182.length) = false := by first | simpa using c39 | (simp at c39 ⊢; omega)
           have H' := Aside0.mk H
           clear H
           have hnb52 := NB189_176.out
           have hnc52 := NB176_189.out
           have hcz53_0 : w31.cell? ⟨gb189, 0, none⟩ = some (.string t186) := (blk_cell BK189.out 0).trans rfl
           have hcz53_1 : w31.cell? ⟨gb189, 1, none⟩ = some (.string t187) := (blk_cell BK189.out 1).trans rfl
           have hfz53_0 := blk_frozen BK189.out 0
           have hfz53_1 := blk_frozen BK189.out 1
           have hcz54_0 : w31.cell? ⟨gb176, 0, none⟩ = some (.string a0_0) := (blk_cell BK176.out 0).trans rfl
           have hcz54_1 : w31.cell? ⟨gb176, 1, none⟩ = some (.string a0_1) := (blk_cell BK176.out 1).trans rfl
           have hfz54_0 := blk_frozen BK176.out 0
           have hfz54_1 := blk_frozen BK176.out 1
           obtain ⟨Ao55, co55, eo55⟩ := Kd.R_slice HO192.out
           subst eo55
           go_wp2
           repeat (go_quiet (fail); try go_wp2)
           go_meet
           case rel => exact ⟨_, (true), (by first | rfl | (simp; done) | (simp [*]; done)), H', ⟨by have := HJ1.out; first | omega | exact Nat.le_refl _⟩, ⟨by (with_reducible repeat (first | apply Kd.R_alloc | apply Kd.R_drewN | apply Kd.R_drew)); exact Kd.R_mono HO192.out (fun _ hk => ⟨hk.1.2, hk.2⟩)⟩, ⟨by (with_reducible repeat (first | refine blk_drewN ?_ _ | refine blk_drew ?_ | refine blk_alloc ?_ _)); exact BK176.out⟩, ⟨by (with_reducible repeat (first | refine blk_drewN ?_ _ | refine blk_drew ?_ | refine blk_alloc ?_ _)); exact BK189.out⟩, ⟨by repeat (first | (with_reducible first | exact HB.out | apply below_alloc | apply pw_below_drewN | apply below_drew1 | refine below_set ?_ GE176.out | refine below_set ?_ GE189.out) | exact HB.out)⟩⟩
         ·rw [if_neg c38] at H
          have c38b0 : (t193 == 0) = false := beq_eq_false_iff_ne.mpr c38
          have c38b1 : (t193 != 0) = true := bne_iff_ne.mpr c38
          have H' := Aside0.mk H
          clear H
          have hnb56 := NB189_176.out
          have hnc56 := NB176_189.out
          have hcz57_0 : w31.cell? ⟨gb189, 0, none⟩ = some (.string t186) := (blk_cell BK189.out 0).trans rfl
          have hcz57_1 : w31.cell? ⟨gb189, 1, none⟩ = some (.string t187) := (blk_cell BK189.out 1).trans rfl
          have hfz57_0 := blk_frozen BK189.out 0
          have hfz57_1 := blk_frozen BK189.out 1
          have hcz58_0 : w31.cell? ⟨gb176, 0, none⟩ = some (.string a0_0) := (blk_cell BK176.out 0).trans rfl
          have hcz58_1 : w31.cell? ⟨gb176, 1, none⟩ = some (.string a0_1) := (blk_cell BK176.out 1).trans rfl
          have hfz58_0 := blk_frozen BK176.out 0
          have hfz58_1 := blk_frozen BK176.out 1
          go_wp2
          repeat (go_quiet (fail); try go_wp2)
          go_meet
          case rel => exact ⟨_, (true), (by first | rfl | (simp; done) | (simp [*]; done)), H', ⟨by have := HJ1.out; first | omega | exact Nat.le_refl _⟩, ⟨by (with_reducible repeat (first | apply Kd.R_alloc | apply Kd.R_drewN | apply Kd.R_drew)); exact Kd.R_mono HO192.out (fun _ hk => ⟨hk.1.2, hk.2⟩)⟩, ⟨by (with_reducible repeat (first | refine blk_drewN ?_ _ | refine blk_drew ?_ | refine blk_alloc ?_ _)); exact BK176.out⟩, ⟨by (with_reducible repeat (first | refine blk_drewN ?_ _ | refine blk_drew ?_ | refine blk_alloc ?_ _)); exact BK189.out⟩, ⟨by repeat (first | (with_reducible first | exact HB.out | apply below_alloc | apply pw_below_drewN | apply below_drew1 | refine below_set ?_ GE176.out | refine below_set ?_ GE189.out) | exact HB.out)⟩⟩
       ·rw [if_neg c33] at H
        have c33b0 : (t188 == 0) = false := beq_eq_false_iff_ne.mpr c33
        have c33b1 : (t188 != 0) = true := bne_iff_ne.mpr c33
        have H' := Aside0.mk H
        clear H
        go_wp2
        repeat (go_quiet (fail); try go_wp2)
        go_meet
        case rel => exact ⟨_, (true), (by first | rfl | (simp; done) | (simp [*]; done)), H', ⟨by have := HJ1.out; first | omega | exact Nat.le_refl _⟩, ⟨by (with_reducible repeat (first | apply Kd.R_alloc | apply Kd.R_drewN | apply Kd.R_drew)); exact Kd.R_mono HO192.out (fun _ hk => ⟨hk.1.2, hk.2⟩)⟩, ⟨by (with_reducible repeat (first | refine blk_drewN ?_ _ | refine blk_drew ?_ | refine blk_alloc ?_ _)); exact BK176.out⟩, ⟨by (with_reducible repeat (first | refine blk_drewN ?_ _ | refine blk_drew ?_ | refine blk_alloc ?_ _)); exact BK189.out⟩, ⟨by repeat (first | (with_reducible first | exact HB.out | apply below_alloc | apply pw_below_drewN | apply below_drew1 | refine below_set ?_ GE176.out | refine below_set ?_ GE189.out) | exact HB.out)⟩⟩
      ·rw [if_neg c32] at H
       have c32b0 : (t185 == 0) = false := beq_eq_false_iff_ne.mpr c32
       have c32b1 : (t185 != 0) = true := bne_iff_ne.mpr c32
       (first | rw [c32b0] | (simp only [i64_w, i32_w]; rw [c32b0]) | skip)
       have H' := Aside0.mk H
       clear H
       go_wp2
       repeat (go_quiet (fail); try go_wp2)
       go_meet
       case rel => exact ⟨_, (true), (by first | rfl | (simp; done) | (simp [*]; done)), H', ⟨by have := HJ1.out; first | omega | exact Nat.le_refl _⟩, ⟨by (with_reducible repeat (first | apply Kd.R_alloc | apply Kd.R_drewN | apply Kd.R_drew)); exact Kd.R_mono HO192.out (fun _ hk => ⟨hk.1.2, hk.2⟩)⟩, ⟨by (with_reducible repeat (first | refine blk_drewN ?_ _ | refine blk_drew ?_ | refine blk_alloc ?_ _)); exact BK176.out⟩, ⟨by (with_reducible repeat (first | refine blk_drewN ?_ _ | refine blk_drew ?_ | refine blk_alloc ?_ _)); exact BK189.out⟩, ⟨by repeat (first | (with_reducible first | exact HB.out | apply below_alloc | apply pw_below_drewN | apply below_drew1 | refine below_set ?_ GE176.out | refine below_set ?_ GE189.out) | exact HB.out)⟩⟩
     case rest =>
      clear HC20
      try clear c1
      try clear p1
      try clear q1
      try clear hx1
      try clear c2
      try clear p2
      try clear c3
      try clear c4
      try clear c5
      try clear c6
      try clear c6b0
      try clear c6b1
      try clear p6
      try clear c7
      try clear c12
      try clear c16
      try clear p19
      try clear q19
      try clear hx19
      try clear c28
      try clear c32
      try clear c32b0
      try clear c32b1
      try clear c33
      try clear c33b0
      try clear c33b1
      try clear c34
      try clear c34b0
      try clear c35
      try clear c38
      try clear c38b0
      try clear c38b1
      try clear c39
      try clear c39b0
      try clear c39b1
      try clear c39b2
      try clear c40
      try clear c40b0
      try clear c40b1
      try clear c40b2
      try clear c41
      try clear c46
      try clear c46b0
      try clear c47
      try clear c47b0
      try clear c48
      try clear c52
      try clear c56
      try clear hcz10_0
      try clear hcz10_1
      try clear hcz21_0
      try clear hcz21_1
      try clear hcz23_0
      try clear hcz23_1
      try clear hcz29_0
      try clear hcz29_1
      try clear hcz30_0
      try clear hcz30_1
      try clear hcz36_0
      try clear hcz36_1
      try clear hcz37_0
      try clear hcz37_1
      try clear hcz42_0
      try clear hcz42_1
      try clear hcz43_0
      try clear hcz43_1
      try clear hcz49_0
      try clear hcz49_1
      try clear hcz50_0
      try clear hcz50_1
      try clear hcz53_0
      try clear hcz53_1
      try clear hcz54_0
      try clear hcz54_1
      try clear hcz57_0
      try clear hcz57_1
      try clear hcz58_0
      try clear hcz58_1
      try clear hcz8_0
      try clear hcz8_1
      try clear hfz10_0
      try clear hfz10_1
      try clear hfz21_0
      try clear hfz21_1
      try clear hfz23_0
      try clear hfz23_1
      try clear hfz29_0
      try clear hfz29_1
      try clear hfz30_0
      try clear hfz30_1
      try clear hfz36_0
      try clear hfz36_1
      try clear hfz37_0
      try clear hfz37_1
      try clear hfz42_0
      try clear hfz42_1
      try clear hfz43_0
      try clear hfz43_1
      try clear hfz49_0
      try clear hfz49_1
      try clear hfz50_0
      try clear hfz50_1
      try clear hfz53_0
      try clear hfz53_1
      try clear hfz54_0
      try clear hfz54_1
      try clear hfz57_0
      try clear hfz57_1
      try clear hfz58_0
      try clear hfz58_1
      try clear hfz8_0
      try clear hfz8_1
      try clear hx194_0
      try clear hx194_1
      try clear p194
      try clear p2
      try clear q194
      obtain ⟨kq, x90_19, rfl, HA, HJ19, HO_10, BK176, BK189, HB⟩ := hcut
      cases kq with
      | zero => exact absurd HA.out (by simp [schismalaw04_ConvergentLaws.j1])
      | succ kj19 =>
       have H := HA.out
       clear HA
       simp only [schismalaw04_ConvergentLaws.j1] at H
       by_cases c59 : x90_19 = true
       ·subst c59
        have H1 : (some false) = some r := by rw [if_pos rfl] at H; exact H
        clear H
        have H := H1
        clear H1
        obtain rfl := Option.some.inj H
        go_wp2
        repeat (go_quiet (fail); try go_wp2)
        go_ret
        exact ⟨by first | rfl | (simp [*, errW_none, errW_some] <;> rfl), by repeat (first | (with_reducible first | exact HB.out | apply below_alloc | apply pw_below_drewN | apply below_drew1 | refine below_set ?_ GE176.out | refine below_set ?_ GE189.out) | exact HB.out)⟩
       ·replace c59 := Bool.eq_false_iff.mpr c59
        subst c59
        have H1 : (schismalaw04_ConvergentLaws.l0 kj19 t179 t180 t190 0) = some r := by rw [if_neg (show ¬ (false = true) by decide)] at H; exact H
        clear H
        have H := H1
        clear H1
        have H' := Aside0.mk H
        clear H
        go_wp2
        repeat (go_quiet (fail); try go_wp2)
        go_loopg [12] kj19 (fun kq v12 w' => ∃ (x12_3 : Int), v12 = .int .i64 x12_3 ∧ Aside0 (schismalaw04_ConvergentLaws.l0 kq t179 t180 t190 x12_3 = some r) ∧ Aside0 (kq ≤ kj19) ∧ Aside0 (Kd.R k24 24 w' w.heap.size (fun k_ => k_ ≠ gb176 ∧ k_ ≠ gb189) v191 t190) ∧ Aside0 (w'.heap[gb176]? = some (.cells #[.string a0_0, .string a0_1] 24 (0, 0))) ∧ Aside0 (w'.heap[gb189]? = some (.cells #[.string t186, .string t187] 24 (0, 0))) ∧ Aside0 (Below w.heap.size w w'))
        case atStart => exact ⟨(0), (by first | rfl | (simp; done) | (simp [*]; done)), H', ⟨Nat.le_refl _⟩, ⟨by (with_reducible repeat (first | apply Kd.R_alloc | apply Kd.R_drewN | apply Kd.R_drew)); exact HO_10.out⟩, ⟨by (with_reducible repeat (first | refine blk_drewN ?_ _ | refine blk_drew ?_ | refine blk_alloc ?_ _)); exact BK176.out⟩, ⟨by (with_reducible repeat (first | refine blk_drewN ?_ _ | refine blk_drew ?_ | refine blk_alloc ?_ _)); exact BK189.out⟩, ⟨by repeat (first | (with_reducible first | exact HB.out | apply below_alloc | apply pw_below_drewN | apply below_drew1 | refine below_set ?_ GE176.out | refine below_set ?_ GE189.out) | exact HB.out)⟩⟩
        case round =>
         clear H'
         try clear c1
         try clear p1
         try clear q1
         try clear hx1
         try clear c2
         try clear p2
         try clear c3
         try clear c4
         try clear c5
         try clear c6
         try clear c6b0
         try clear c6b1
         try clear p6
         try clear c7
         try clear c12
         try clear c16
         try clear p19
         try clear q19
         try clear hx19
         try clear c28
         try clear c32
         try clear c32b0
         try clear c32b1
         try clear c33
         try clear c33b0
         try clear c33b1
         try clear c34
         try clear c34b0
         try clear c35
         try clear c38
         try clear c38b0
         try clear c38b1
         try clear c39
         try clear c39b0
         try clear c39b1
         try clear c39b2
         try clear c40
         try clear c40b0
         try clear c40b1
         try clear c40b2
         try clear c41
         try clear c46
         try clear c46b0
         try clear c47
         try clear c47b0
         try clear c48
         try clear c52
         try clear c56
         try clear c59
         try clear hcz10_0
         try clear hcz10_1
         try clear hcz21_0
         try clear hcz21_1
         try clear hcz23_0
         try clear hcz23_1
         try clear hcz29_0
         try clear hcz29_1
         try clear hcz30_0
         try clear hcz30_1
         try clear hcz36_0
         try clear hcz36_1
         try clear hcz37_0
         try clear hcz37_1
         try clear hcz42_0
         try clear hcz42_1
         try clear hcz43_0
         try clear hcz43_1
         try clear hcz49_0
         try clear hcz49_1
         try clear hcz50_0
         try clear hcz50_1
         try clear hcz53_0
         try clear hcz53_1
         try clear hcz54_0
         try clear hcz54_1
         try clear hcz57_0
         try clear hcz57_1
         try clear hcz58_0
         try clear hcz58_1
         try clear hcz8_0
         try clear hcz8_1
         try clear hfz10_0
         try clear hfz10_1
         try clear hfz21_0
         try clear hfz21_1
         try clear hfz23_0
         try clear hfz23_1
         try clear hfz29_0
         try clear hfz29_1
         try clear hfz30_0
         try clear hfz30_1
         try clear hfz36_0
         try clear hfz36_1
         try clear hfz37_0
         try clear hfz37_1
         try clear hfz42_0
         try clear hfz42_1
         try clear hfz43_0
         try clear hfz43_1
         try clear hfz49_0
         try clear hfz49_1
         try clear hfz50_0
         try clear hfz50_1
         try clear hfz53_0
         try clear hfz53_1
         try clear hfz54_0
         try clear hfz54_1
         try clear hfz57_0
         try clear hfz57_1
         try clear hfz58_0
         try clear hfz58_1
         try clear hfz8_0
         try clear hfz8_1
         try clear hx194_0
         try clear hx194_1
         try clear p1
         try clear p19
         try clear p194
         try clear p2
         try clear p6
         try clear q1
         try clear q19
         try clear q194
         obtain ⟨x12_3, rfl, HA, HK3, HO_10, BK176, BK189, HB⟩ := hrel
         cases gk with
         | zero => exact absurd HA.out (by simp [schismalaw04_ConvergentLaws.l0])
         | succ k3 =>
          have H := HA.out
          clear HA
          simp only [schismalaw04_ConvergentLaws.l0] at H
          by_cases c60 : (wrap64 (x12_3 + 1)) < (t190.length : Int)
          ·rw [if_pos c60] at H
           have c60b0 : decide ((wrap64 (x12_3 + 1)) < (t190.length : Int)) = true := decide_eq_true c60
           clear c60
           by_cases c61 : 0 ≤ x12_3
           ·rw [if_pos c61] at H
            have c61b0 : decide (0 ≤ x12_3) = true := decide_eq_true c61
            clear c61
            by_cases c62 : x12_3 < (t190.length : Int)
            ·rw [if_pos c62] at H
             have c62b0 : decide (x12_3 < (t190.length : Int)) = true := decide_eq_true c62
             clear c62
             replace H := Option.bind_eq_some_iff.mp H
             obtain ⟨⟨t196, t197, t198⟩, A630, H⟩ := H
             replace H : (if t198 = true then (if (Int.tmod x12_3 2) = 0 then (if (wrap64 (t196 * t180)) ≥ (wrap64 (t179 * t197)) then (some false) else (if (Int.tmod x12_3 2) = 1 then (if (wrap64 (t196 * t180)) ≤ (wrap64 (t179 * t197)) then (some false) else (schismalaw04_ConvergentLaws.l0 k3 t179 t180 t190 (wrap64 (x12_3 + 1)))) else (schismalaw04_ConvergentLaws.l0 k3 t179 t180 t190 (wrap64 (x12_3 + 1))))) else (if (Int.tmod x12_3 2) = 1 then (if (wrap64 (t196 * t180)) ≤ (wrap64 (t179 * t197)) then (some false) else (schismalaw04_ConvergentLaws.l0 k3 t179 t180 t190 (wrap64 (x12_3 + 1)))) else (schismalaw04_ConvergentLaws.l0 k3 t179 t180 t190 (wrap64 (x12_3 + 1))))) else (some false)) = some r := H
             have A63 := Aside0.mk A630
             clear A630
             by_cases c64 : t198 = true
             ·subst c64
              have H1 : (if (Int.tmod x12_3 2) = 0 then (if (wrap64 (t196 * t180)) ≥ (wrap64 (t179 * t197)) then (some false) else (if (Int.tmod x12_3 2) = 1 then (if (wrap64 (t196 * t180)) ≤ (wrap64 (t179 * t197)) then (some false) else (schismalaw04_ConvergentLaws.l0 k3 t179 t180 t190 (wrap64 (x12_3 + 1)))) else (schismalaw04_ConvergentLaws.l0 k3 t179 t180 t190 (wrap64 (x12_3 + 1))))) else (if (Int.tmod x12_3 2) = 1 then (if (wrap64 (t196 * t180)) ≤ (wrap64 (t179 * t197)) then (some false) else (schismalaw04_ConvergentLaws.l0 k3 t179 t180 t190 (wrap64 (x12_3 + 1)))) else (schismalaw04_ConvergentLaws.l0 k3 t179 t180 t190 (wrap64 (x12_3 + 1))))) = some r := by rw [if_pos rfl] at H; exact H
              clear H
              have H := H1
              clear H1
              by_cases c65 : (Int.tmod x12_3 2) = 0
              ·rw [if_pos c65] at H
               have c65b0 : ((Int.tmod x12_3 2) == 0) = true := beq_iff_eq.mpr c65
               have c65b1 : ((Int.tmod x12_3 2) != 0) = false := bne_eq_false_iff_eq.mpr c65
               clear c65
               by_cases c66 : (wrap64 (t196 * t180)) ≥ (wrap64 (t179 * t197))
               ·rw [if_pos c66] at H
                have c66b0 : decide ((wrap64 (t179 * t197)) ≤ (wrap64 (t196 * t180))) = true := decide_eq_true c66
                clear c66
                obtain rfl := Option.some.inj H
                obtain ⟨Ao67, co67, eo67⟩ := Kd.R_slice HO_10.out
                subst eo67
                have p195 : 0 ≤ (x12_3 : Int) := of_decide_eq_true (by first | (with_reducible assumption) | assumption)
                have q195 : x12_3 < (t190.length : Int) := of_decide_eq_true (by first | (with_reducible assumption) | assumption)
                obtain ⟨ad195, e195, hx195_0, hx195_1⟩ := at_T24 (Kd.R_reads' HO_10.out).2.2 x12_3 p195 q195
                cases e195
                replace p195 := eq_true p195
                replace q195 := eq_true q195
                go_wp2_with (first | (go_at_call 15; (with_reducible refine (schismaref04_Parts.calls k3 ((rd_T24 t190 x12_3).f0) ((rd_T24 t190 x12_3).f1) t196 t197 true _ A63.out).mono ?_); rintro e w68 ⟨rfl, hb⟩; have n0_ := Aside0.mk (Kd.R_below (by (with_reducible repeat (first | apply Kd.R_alloc | apply Kd.R_drewN | apply Kd.R_drew)); exact HO_10.out) hb); have n1_ := Aside0.mk (blk_below (g := gb176) (o := .cells #[.string a0_0, .string a0_1] 24 (0, 0)) (by (with_reducible repeat (first | refine blk_drewN ?_ _ | refine blk_drew ?_ | refine blk_alloc ?_ _)); exact BK176.out) hb); have n2_ := Aside0.mk (blk_below (g := gb189) (o := .cells #[.string t186, .string t187] 24 (0, 0)) (by (with_reducible repeat (first | refine blk_drewN ?_ _ | refine blk_drew ?_ | refine blk_alloc ?_ _)); exact BK189.out) hb); have n3_ := Aside0.mk (below_step (by repeat (first | (with_reducible first | exact HB.out | apply below_alloc | apply pw_below_drewN | apply below_drew1 | refine below_set ?_ GE176.out | refine below_set ?_ GE189.out) | exact HB.out)) hb); clear HO_10; clear BK176; clear BK189; clear HB; have HO_10 := n0_; have BK176 := n1_; have BK189 := n2_; have HB := n3_; clear n0_ n1_ n2_ n3_; (try clear hb); (try clear hb2); (try clear hk); (try clear hi)))
                repeat (go_quiet (first | (go_at_call 15; (with_reducible refine (schismaref04_Parts.calls k3 ((rd_T24 t190 x12_3).f0) ((rd_T24 t190 x12_3).f1) t196 t197 true _ A63.out).mono ?_); rintro e w68 ⟨rfl, hb⟩; have n0_ := Aside0.mk (Kd.R_below (by (with_reducible repeat (first | apply Kd.R_alloc | apply Kd.R_drewN | apply Kd.R_drew)); exact HO_10.out) hb); have n1_ := Aside0.mk (blk_below (g := gb176) (o := .cells #[.string a0_0, .string a0_1] 24 (0, 0)) (by (with_reducible repeat (first | refine blk_drewN ?_ _ | refine blk_drew ?_ | refine blk_alloc ?_ _)); exact BK176.out) hb); have n2_ := Aside0.mk (blk_below (g := gb189) (o := .cells #[.string t186, .string t187] 24 (0, 0)) (by (with_reducible repeat (first | refine blk_drewN ?_ _ | refine blk_drew ?_ | refine blk_alloc ?_ _)); exact BK189.out) hb); have n3_ := Aside0.mk (below_step (by repeat (first | (with_reducible first | exact HB.out | apply below_alloc | apply pw_below_drewN | apply below_drew1 | refine below_set ?_ GE176.out | refine below_set ?_ GE189.out) | exact HB.out)) hb); clear HO_10; clear BK176; clear BK189; clear HB; have HO_10 := n0_; have BK176 := n1_; have BK189 := n2_; have HB := n3_; clear n0_ n1_ n2_ n3_; (try clear hb); (try clear hb2); (try clear hk); (try clear hi))); try go_wp2_with (first | (go_at_call 15; (with_reducible refine (schismaref04_Parts.calls k3 ((rd_T24 t190 x12_3).f0) ((rd_T24 t190 x12_3).f1) t196 t197 true _ A63.out).mono ?_); rintro e w68 ⟨rfl, hb⟩; have n0_ := Aside0.mk (Kd.R_below (by (with_reducible repeat (first | apply Kd.R_alloc | apply Kd.R_drewN | apply Kd.R_drew)); exact HO_10.out) hb); have n1_ := Aside0.mk (blk_below (g := gb176) (o := .cells #[.string a0_0, .string a0_1] 24 (0, 0)) (by (with_reducible repeat (first | refine blk_drewN ?_ _ | refine blk_drew ?_ | refine blk_alloc ?_ _)); exact BK176.out) hb); have n2_ := Aside0.mk (blk_below (g := gb189) (o := .cells #[.string t186, .string t187] 24 (0, 0)) (by (with_reducible repeat (first | refine blk_drewN ?_ _ | refine blk_drew ?_ | refine blk_alloc ?_ _)); exact BK189.out) hb); have n3_ := Aside0.mk (below_step (by repeat (first | (with_reducible first | exact HB.out | apply below_alloc | apply pw_below_drewN | apply below_drew1 | refine below_set ?_ GE176.out | refine below_set ?_ GE189.out) | exact HB.out)) hb); clear HO_10; clear BK176; clear BK189; clear HB; have HO_10 := n0_; have BK176 := n1_; have BK189 := n2_; have HB := n3_; clear n0_ n1_ n2_ n3_; (try clear hb); (try clear hb2); (try clear hk); (try clear hi))))
                go_ret
                exact ⟨by first | rfl | (simp [*, errW_none, errW_some] <;> rfl), by repeat (first | (with_reducible first | exact HB.out | apply below_alloc | apply pw_below_drewN | apply below_drew1 | refine below_set ?_ GE176.out | refine below_set ?_ GE189.out) | exact HB.out)⟩
               ·rw [if_neg c66] at H
                have c66b0 : decide ((wrap64 (t179 * t197)) ≤ (wrap64 (t196 * t180))) = false := decide_eq_false c66
                clear c66
                by_cases c69 : (Int.tmod x12_3 2) = 1
                ·rw [if_pos c69] at H
                 have c69b0 : ((Int.tmod x12_3 2) == 1) = true := beq_iff_eq.mpr c69
                 have c69b1 : ((Int.tmod x12_3 2) != 1) = false := bne_eq_false_iff_eq.mpr c69
                 clear c69
                 by_cases c70 : (wrap64 (t196 * t180)) ≤ (wrap64 (t179 * t197))
                 ·rw [if_pos c70] at H
                  have c70b0 : decide ((wrap64 (t196 * t180)) ≤ (wrap64 (t179 * t197))) = true := decide_eq_true c70
                  clear c70
                  obtain rfl := Option.some.inj H
                  obtain ⟨Ao71, co71, eo71⟩ := Kd.R_slice HO_10.out
                  subst eo71
                  have p195 : 0 ≤ (x12_3 : Int) := of_decide_eq_true (by first | (with_reducible assumption) | assumption)
                  have q195 : x12_3 < (t190.length : Int) := of_decide_eq_true (by first | (with_reducible assumption) | assumption)
                  obtain ⟨ad195, e195, hx195_0, hx195_1⟩ := at_T24 (Kd.R_reads' HO_10.out).2.2 x12_3 p195 q195
                  cases e195
                  replace p195 := eq_true p195
                  replace q195 := eq_true q195
                  go_wp2_with (first | (go_at_call 15; (with_reducible refine (schismaref04_Parts.calls k3 ((rd_T24 t190 x12_3).f0) ((rd_T24 t190 x12_3).f1) t196 t197 true _ A63.out).mono ?_); rintro e w72 ⟨rfl, hb⟩; have n0_ := Aside0.mk (Kd.R_below (by (with_reducible repeat (first | apply Kd.R_alloc | apply Kd.R_drewN | apply Kd.R_drew)); exact HO_10.out) hb); have n1_ := Aside0.mk (blk_below (g := gb176) (o := .cells #[.string a0_0, .string a0_1] 24 (0, 0)) (by (with_reducible repeat (first | refine blk_drewN ?_ _ | refine blk_drew ?_ | refine blk_alloc ?_ _)); exact BK176.out) hb); have n2_ := Aside0.mk (blk_below (g := gb189) (o := .cells #[.string t186, .string t187] 24 (0, 0)) (by (with_reducible repeat (first | refine blk_drewN ?_ _ | refine blk_drew ?_ | refine blk_alloc ?_ _)); exact BK189.out) hb); have n3_ := Aside0.mk (below_step (by repeat (first | (with_reducible first | exact HB.out | apply below_alloc | apply pw_below_drewN | apply below_drew1 | refine below_set ?_ GE176.out | refine below_set ?_ GE189.out) | exact HB.out)) hb); clear HO_10; clear BK176; clear BK189; clear HB; have HO_10 := n0_; have BK176 := n1_; have BK189 := n2_; have HB := n3_; clear n0_ n1_ n2_ n3_; (try clear hb); (try clear hb2); (try clear hk); (try clear hi)))
                  repeat (go_quiet (first | (go_at_call 15; (with_reducible refine (schismaref04_Parts.calls k3 ((rd_T24 t190 x12_3).f0) ((rd_T24 t190 x12_3).f1) t196 t197 true _ A63.out).mono ?_); rintro e w72 ⟨rfl, hb⟩; have n0_ := Aside0.mk (Kd.R_below (by (with_reducible repeat (first | apply Kd.R_alloc | apply Kd.R_drewN | apply Kd.R_drew)); exact HO_10.out) hb); have n1_ := Aside0.mk (blk_below (g := gb176) (o := .cells #[.string a0_0, .string a0_1] 24 (0, 0)) (by (with_reducible repeat (first | refine blk_drewN ?_ _ | refine blk_drew ?_ | refine blk_alloc ?_ _)); exact BK176.out) hb); have n2_ := Aside0.mk (blk_below (g := gb189) (o := .cells #[.string t186, .string t187] 24 (0, 0)) (by (with_reducible repeat (first | refine blk_drewN ?_ _ | refine blk_drew ?_ | refine blk_alloc ?_ _)); exact BK189.out) hb); have n3_ := Aside0.mk (below_step (by repeat (first | (with_reducible first | exact HB.out | apply below_alloc | apply pw_below_drewN | apply below_drew1 | refine below_set ?_ GE176.out | refine below_set ?_ GE189.out) | exact HB.out)) hb); clear HO_10; clear BK176; clear BK189; clear HB; have HO_10 := n0_; have BK176 := n1_; have BK189 := n2_; have HB := n3_; clear n0_ n1_ n2_ n3_; (try clear hb); (try clear hb2); (try clear hk); (try clear hi))); try go_wp2_with (first | (go_at_call 15; (with_reducible refine (schismaref04_Parts.calls k3 ((rd_T24 t190 x12_3).f0) ((rd_T24 t190 x12_3).f1) t196 t197 true _ A63.out).mono ?_); rintro e w72 ⟨rfl, hb⟩; have n0_ := Aside0.mk (Kd.R_below (by (with_reducible repeat (first | apply Kd.R_alloc | apply Kd.R_drewN | apply Kd.R_drew)); exact HO_10.out) hb); have n1_ := Aside0.mk (blk_below (g := gb176) (o := .cells #[.string a0_0, .string a0_1] 24 (0, 0)) (by (with_reducible repeat (first | refine blk_drewN ?_ _ | refine blk_drew ?_ | refine blk_alloc ?_ _)); exact BK176.out) hb); have n2_ := Aside0.mk (blk_below (g := gb189) (o := .cells #[.string t186, .string t187] 24 (0, 0)) (by (with_reducible repeat (first | refine blk_drewN ?_ _ | refine blk_drew ?_ | refine blk_alloc ?_ _)); exact BK189.out) hb); have n3_ := Aside0.mk (below_step (by repeat (first | (with_reducible first | exact HB.out | apply below_alloc | apply pw_below_drewN | apply below_drew1 | refine below_set ?_ GE176.out | refine below_set ?_ GE189.out) | exact HB.out)) hb); clear HO_10; clear BK176; clear BK189; clear HB; have HO_10 := n0_; have BK176 := n1_; have BK189 := n2_; have HB := n3_; clear n0_ n1_ n2_ n3_; (try clear hb); (try clear hb2); (try clear hk); (try clear hi))))
                  go_ret
                  exact ⟨by first | rfl | (simp [*, errW_none, errW_some] <;> rfl), by repeat (first | (with_reducible first | exact HB.out | apply below_alloc | apply pw_below_drewN | apply below_drew1 | refine below_set ?_ GE176.out | refine below_set ?_ GE189.out) | exact HB.out)⟩
                 ·rw [if_neg c70] at H
                  have c70b0 : decide ((wrap64 (t196 * t180)) ≤ (wrap64 (t179 * t197))) = false := decide_eq_false c70
                  clear c70
                  have H' := Aside0.mk H
                  clear H
                  obtain ⟨Ao73, co73, eo73⟩ := Kd.R_slice HO_10.out
                  subst eo73
                  have p195 : 0 ≤ (x12_3 : Int) := of_decide_eq_true (by first | (with_reducible assumption) | assumption)
                  have q195 : x12_3 < (t190.length : Int) := of_decide_eq_true (by first | (with_reducible assumption) | assumption)
                  obtain ⟨ad195, e195, hx195_0, hx195_1⟩ := at_T24 (Kd.R_reads' HO_10.out).2.2 x12_3 p195 q195
                  cases e195
                  replace p195 := eq_true p195
                  replace q195 := eq_true q195
                  go_wp2_with (first | (go_at_call 15; (with_reducible refine (schismaref04_Parts.calls k3 ((rd_T24 t190 x12_3).f0) ((rd_T24 t190 x12_3).f1) t196 t197 true _ A63.out).mono ?_); rintro e w74 ⟨rfl, hb⟩; have n0_ := Aside0.mk (Kd.R_below (by (with_reducible repeat (first | apply Kd.R_alloc | apply Kd.R_drewN | apply Kd.R_drew)); exact HO_10.out) hb); have n1_ := Aside0.mk (blk_below (g := gb176) (o := .cells #[.string a0_0, .string a0_1] 24 (0, 0)) (by (with_reducible repeat (first | refine blk_drewN ?_ _ | refine blk_drew ?_ | refine blk_alloc ?_ _)); exact BK176.out) hb); have n2_ := Aside0.mk (blk_below (g := gb189) (o := .cells #[.string t186, .string t187] 24 (0, 0)) (by (with_reducible repeat (first | refine blk_drewN ?_ _ | refine blk_drew ?_ | refine blk_alloc ?_ _)); exact BK189.out) hb); have n3_ := Aside0.mk (below_step (by repeat (first | (with_reducible first | exact HB.out | apply below_alloc | apply pw_below_drewN | apply below_drew1 | refine below_set ?_ GE176.out | refine below_set ?_ GE189.out) | exact HB.out)) hb); clear HO_10; clear BK176; clear BK189; clear HB; have HO_10 := n0_; have BK176 := n1_; have BK189 := n2_; have HB := n3_; clear n0_ n1_ n2_ n3_; (try clear hb); (try clear hb2); (try clear hk); (try clear hi)))
                  repeat (go_quiet (first | (go_at_call 15; (with_reducible refine (schismaref04_Parts.calls k3 ((rd_T24 t190 x12_3).f0) ((rd_T24 t190 x12_3).f1) t196 t197 true _ A63.out).mono ?_); rintro e w74 ⟨rfl, hb⟩; have n0_ := Aside0.mk (Kd.R_below (by (with_reducible repeat (first | apply Kd.R_alloc | apply Kd.R_drewN | apply Kd.R_drew)); exact HO_10.out) hb); have n1_ := Aside0.mk (blk_below (g := gb176) (o := .cells #[.string a0_0, .string a0_1] 24 (0, 0)) (by (with_reducible repeat (first | refine blk_drewN ?_ _ | refine blk_drew ?_ | refine blk_alloc ?_ _)); exact BK176.out) hb); have n2_ := Aside0.mk (blk_below (g := gb189) (o := .cells #[.string t186, .string t187] 24 (0, 0)) (by (with_reducible repeat (first | refine blk_drewN ?_ _ | refine blk_drew ?_ | refine blk_alloc ?_ _)); exact BK189.out) hb); have n3_ := Aside0.mk (below_step (by repeat (first | (with_reducible first | exact HB.out | apply below_alloc | apply pw_below_drewN | apply below_drew1 | refine below_set ?_ GE176.out | refine below_set ?_ GE189.out) | exact HB.out)) hb); clear HO_10; clear BK176; clear BK189; clear HB; have HO_10 := n0_; have BK176 := n1_; have BK189 := n2_; have HB := n3_; clear n0_ n1_ n2_ n3_; (try clear hb); (try clear hb2); (try clear hk); (try clear hi))); try go_wp2_with (first | (go_at_call 15; (with_reducible refine (schismaref04_Parts.calls k3 ((rd_T24 t190 x12_3).f0) ((rd_T24 t190 x12_3).f1) t196 t197 true _ A63.out).mono ?_); rintro e w74 ⟨rfl, hb⟩; have n0_ := Aside0.mk (Kd.R_below (by (with_reducible repeat (first | apply Kd.R_alloc | apply Kd.R_drewN | apply Kd.R_drew)); exact HO_10.out) hb); have n1_ := Aside0.mk (blk_below (g := gb176) (o := .cells #[.string a0_0, .string a0_1] 24 (0, 0)) (by (with_reducible repeat (first | refine blk_drewN ?_ _ | refine blk_drew ?_ | refine blk_alloc ?_ _)); exact BK176.out) hb); have n2_ := Aside0.mk (blk_below (g := gb189) (o := .cells #[.string t186, .string t187] 24 (0, 0)) (by (with_reducible repeat (first | refine blk_drewN ?_ _ | refine blk_drew ?_ | refine blk_alloc ?_ _)); exact BK189.out) hb); have n3_ := Aside0.mk (below_step (by repeat (first | (with_reducible first | exact HB.out | apply below_alloc | apply pw_below_drewN | apply below_drew1 | refine below_set ?_ GE176.out | refine below_set ?_ GE189.out) | exact HB.out)) hb); clear HO_10; clear BK176; clear BK189; clear HB; have HO_10 := n0_; have BK176 := n1_; have BK189 := n2_; have HB := n3_; clear n0_ n1_ n2_ n3_; (try clear hb); (try clear hb2); (try clear hk); (try clear hi))))
                  go_roundg k3
                  case measure => have := HJ1.out; have := HJ19.out; have := HK3.out; omega
                  case rel => exact ⟨(wrap64 (x12_3 + 1)), (by first | rfl | (simp; done) | (simp [*]; done)), H', ⟨by have := HJ1.out; have := HJ19.out; have := HK3.out; omega⟩, ⟨by (with_reducible repeat (first | apply Kd.R_alloc | apply Kd.R_drewN | apply Kd.R_drew)); exact HO_10.out⟩, ⟨by (with_reducible repeat (first | refine blk_drewN ?_ _ | refine blk_drew ?_ | refine blk_alloc ?_ _)); exact BK176.out⟩, ⟨by (with_reducible repeat (first | refine blk_drewN ?_ _ | refine blk_drew ?_ | refine blk_alloc ?_ _)); exact BK189.out⟩, ⟨by repeat (first | (with_reducible first | exact HB.out | apply below_alloc | apply pw_below_drewN | apply below_drew1 | refine below_set ?_ GE176.out | refine below_set ?_ GE189.out) | exact HB.out)⟩⟩
                ·rw [if_neg c69] at H
                 have c69b0 : ((Int.tmod x12_3 2) == 1) = false := beq_eq_false_iff_ne.mpr c69
                 have c69b1 : ((Int.tmod x12_3 2) != 1) = true := bne_iff_ne.mpr c69
                 have H' := Aside0.mk H
                 clear H
                 obtain ⟨Ao75, co75, eo75⟩ := Kd.R_slice HO_10.out
                 subst eo75
                 have p195 : 0 ≤ (x12_3 : Int) := of_decide_eq_true (by first | (with_reducible assumption) | assumption)
                 have q195 : x12_3 < (t190.length : Int) := of_decide_eq_true (by first | (with_reducible assumption) | assumption)
                 obtain ⟨ad195, e195, hx195_0, hx195_1⟩ := at_T24 (Kd.R_reads' HO_10.out).2.2 x12_3 p195 q195
                 cases e195
                 replace p195 := eq_true p195
                 replace q195 := eq_true q195
                 go_wp2_with (first | (go_at_call 15; (with_reducible refine (schismaref04_Parts.calls k3 ((rd_T24 t190 x12_3).f0) ((rd_T24 t190 x12_3).f1) t196 t197 true _ A63.out).mono ?_); rintro e w76 ⟨rfl, hb⟩; have n0_ := Aside0.mk (Kd.R_below (by (with_reducible repeat (first | apply Kd.R_alloc | apply Kd.R_drewN | apply Kd.R_drew)); exact HO_10.out) hb); have n1_ := Aside0.mk (blk_below (g := gb176) (o := .cells #[.string a0_0, .string a0_1] 24 (0, 0)) (by (with_reducible repeat (first | refine blk_drewN ?_ _ | refine blk_drew ?_ | refine blk_alloc ?_ _)); exact BK176.out) hb); have n2_ := Aside0.mk (blk_below (g := gb189) (o := .cells #[.string t186, .string t187] 24 (0, 0)) (by (with_reducible repeat (first | refine blk_drewN ?_ _ | refine blk_drew ?_ | refine blk_alloc ?_ _)); exact BK189.out) hb); have n3_ := Aside0.mk (below_step (by repeat (first | (with_reducible first | exact HB.out | apply below_alloc | apply pw_below_drewN | apply below_drew1 | refine below_set ?_ GE176.out | refine below_set ?_ GE189.out) | exact HB.out)) hb); clear HO_10; clear BK176; clear BK189; clear HB; have HO_10 := n0_; have BK176 := n1_; have BK189 := n2_; have HB := n3_; clear n0_ n1_ n2_ n3_; (try clear hb); (try clear hb2); (try clear hk); (try clear hi)))
                 repeat (go_quiet (first | (go_at_call 15; (with_reducible refine (schismaref04_Parts.calls k3 ((rd_T24 t190 x12_3).f0) ((rd_T24 t190 x12_3).f1) t196 t197 true _ A63.out).mono ?_); rintro e w76 ⟨rfl, hb⟩; have n0_ := Aside0.mk (Kd.R_below (by (with_reducible repeat (first | apply Kd.R_alloc | apply Kd.R_drewN | apply Kd.R_drew)); exact HO_10.out) hb); have n1_ := Aside0.mk (blk_below (g := gb176) (o := .cells #[.string a0_0, .string a0_1] 24 (0, 0)) (by (with_reducible repeat (first | refine blk_drewN ?_ _ | refine blk_drew ?_ | refine blk_alloc ?_ _)); exact BK176.out) hb); have n2_ := Aside0.mk (blk_below (g := gb189) (o := .cells #[.string t186, .string t187] 24 (0, 0)) (by (with_reducible repeat (first | refine blk_drewN ?_ _ | refine blk_drew ?_ | refine blk_alloc ?_ _)); exact BK189.out) hb); have n3_ := Aside0.mk (below_step (by repeat (first | (with_reducible first | exact HB.out | apply below_alloc | apply pw_below_drewN | apply below_drew1 | refine below_set ?_ GE176.out | refine below_set ?_ GE189.out) | exact HB.out)) hb); clear HO_10; clear BK176; clear BK189; clear HB; have HO_10 := n0_; have BK176 := n1_; have BK189 := n2_; have HB := n3_; clear n0_ n1_ n2_ n3_; (try clear hb); (try clear hb2); (try clear hk); (try clear hi))); try go_wp2_with (first | (go_at_call 15; (with_reducible refine (schismaref04_Parts.calls k3 ((rd_T24 t190 x12_3).f0) ((rd_T24 t190 x12_3).f1) t196 t197 true _ A63.out).mono ?_); rintro e w76 ⟨rfl, hb⟩; have n0_ := Aside0.mk (Kd.R_below (by (with_reducible repeat (first | apply Kd.R_alloc | apply Kd.R_drewN | apply Kd.R_drew)); exact HO_10.out) hb); have n1_ := Aside0.mk (blk_below (g := gb176) (o := .cells #[.string a0_0, .string a0_1] 24 (0, 0)) (by (with_reducible repeat (first | refine blk_drewN ?_ _ | refine blk_drew ?_ | refine blk_alloc ?_ _)); exact BK176.out) hb); have n2_ := Aside0.mk (blk_below (g := gb189) (o := .cells #[.string t186, .string t187] 24 (0, 0)) (by (with_reducible repeat (first | refine blk_drewN ?_ _ | refine blk_drew ?_ | refine blk_alloc ?_ _)); exact BK189.out) hb); have n3_ := Aside0.mk (below_step (by repeat (first | (with_reducible first | exact HB.out | apply below_alloc | apply pw_below_drewN | apply below_drew1 | refine below_set ?_ GE176.out | refine below_set ?_ GE189.out) | exact HB.out)) hb); clear HO_10; clear BK176; clear BK189; clear HB; have HO_10 := n0_; have BK176 := n1_; have BK189 := n2_; have HB := n3_; clear n0_ n1_ n2_ n3_; (try clear hb); (try clear hb2); (try clear hk); (try clear hi))))
                 go_roundg k3
                 case measure => have := HJ1.out; have := HJ19.out; have := HK3.out; omega
                 case rel => exact ⟨(wrap64 (x12_3 + 1)), (by first | rfl | (simp; done) | (simp [*]; done)), H', ⟨by have := HJ1.out; have := HJ19.out; have := HK3.out; omega⟩, ⟨by (with_reducible repeat (first | apply Kd.R_alloc | apply Kd.R_drewN | apply Kd.R_drew)); exact HO_10.out⟩, ⟨by (with_reducible repeat (first | refine blk_drewN ?_ _ | refine blk_drew ?_ | refine blk_alloc ?_ _)); exact BK176.out⟩, ⟨by (with_reducible repeat (first | refine blk_drewN ?_ _ | refine blk_drew ?_ | refine blk_alloc ?_ _)); exact BK189.out⟩, ⟨by repeat (first | (with_reducible first | exact HB.out | apply below_alloc | apply pw_below_drewN | apply below_drew1 | refine below_set ?_ GE176.out | refine below_set ?_ GE189.out) | exact HB.out)⟩⟩
              ·rw [if_neg c65] at H
               have c65b0 : ((Int.tmod x12_3 2) == 0) = false := beq_eq_false_iff_ne.mpr c65
               have c65b1 : ((Int.tmod x12_3 2) != 0) = true := bne_iff_ne.mpr c65
               by_cases c77 : (Int.tmod x12_3 2) = 1
               ·rw [if_pos c77] at H
                have c77b0 : ((Int.tmod x12_3 2) == 1) = true := beq_iff_eq.mpr c77
                have c77b1 : ((Int.tmod x12_3 2) != 1) = false := bne_eq_false_iff_eq.mpr c77
                clear c77
                by_cases c78 : (wrap64 (t196 * t180)) ≤ (wrap64 (t179 * t197))
                ·rw [if_pos c78] at H
                 have c78b0 : decide ((wrap64 (t196 * t180)) ≤ (wrap64 (t179 * t197))) = true := decide_eq_true c78
                 clear c78
                 obtain rfl := Option.some.inj H
                 obtain ⟨Ao79, co79, eo79⟩ := Kd.R_slice HO_10.out
                 subst eo79
                 have p195 : 0 ≤ (x12_3 : Int) := of_decide_eq_true (by first | (with_reducible assumption) | assumption)
                 have q195 : x12_3 < (t190.length : Int) := of_decide_eq_true (by first | (with_reducible assumption) | assumption)
                 obtain ⟨ad195, e195, hx195_0, hx195_1⟩ := at_T24 (Kd.R_reads' HO_10.out).2.2 x12_3 p195 q195
                 cases e195
                 replace p195 := eq_true p195
                 replace q195 := eq_true q195
                 go_wp2_with (first | (go_at_call 15; (with_reducible refine (schismaref04_Parts.calls k3 ((rd_T24 t190 x12_3).f0) ((rd_T24 t190 x12_3).f1) t196 t197 true _ A63.out).mono ?_); rintro e w80 ⟨rfl, hb⟩; have n0_ := Aside0.mk (Kd.R_below (by (with_reducible repeat (first | apply Kd.R_alloc | apply Kd.R_drewN | apply Kd.R_drew)); exact HO_10.out) hb); have n1_ := Aside0.mk (blk_below (g := gb176) (o := .cells #[.string a0_0, .string a0_1] 24 (0, 0)) (by (with_reducible repeat (first | refine blk_drewN ?_ _ | refine blk_drew ?_ | refine blk_alloc ?_ _)); exact BK176.out) hb); have n2_ := Aside0.mk (blk_below (g := gb189) (o := .cells #[.string t186, .string t187] 24 (0, 0)) (by (with_reducible repeat (first | refine blk_drewN ?_ _ | refine blk_drew ?_ | refine blk_alloc ?_ _)); exact BK189.out) hb); have n3_ := Aside0.mk (below_step (by repeat (first | (with_reducible first | exact HB.out | apply below_alloc | apply pw_below_drewN | apply below_drew1 | refine below_set ?_ GE176.out | refine below_set ?_ GE189.out) | exact HB.out)) hb); clear HO_10; clear BK176; clear BK189; clear HB; have HO_10 := n0_; have BK176 := n1_; have BK189 := n2_; have HB := n3_; clear n0_ n1_ n2_ n3_; (try clear hb); (try clear hb2); (try clear hk); (try clear hi)))
                 repeat (go_quiet (first | (go_at_call 15; (with_reducible refine (schismaref04_Parts.calls k3 ((rd_T24 t190 x12_3).f0) ((rd_T24 t190 x12_3).f1) t196 t197 true _ A63.out).mono ?_); rintro e w80 ⟨rfl, hb⟩; have n0_ := Aside0.mk (Kd.R_below (by (with_reducible repeat (first | apply Kd.R_alloc | apply Kd.R_drewN | apply Kd.R_drew)); exact HO_10.out) hb); have n1_ := Aside0.mk (blk_below (g := gb176) (o := .cells #[.string a0_0, .string a0_1] 24 (0, 0)) (by (with_reducible repeat (first | refine blk_drewN ?_ _ | refine blk_drew ?_ | refine blk_alloc ?_ _)); exact BK176.out) hb); have n2_ := Aside0.mk (blk_below (g := gb189) (o := .cells #[.string t186, .string t187] 24 (0, 0)) (by (with_reducible repeat (first | refine blk_drewN ?_ _ | refine blk_drew ?_ | refine blk_alloc ?_ _)); exact BK189.out) hb); have n3_ := Aside0.mk (below_step (by repeat (first | (with_reducible first | exact HB.out | apply below_alloc | apply pw_below_drewN | apply below_drew1 | refine below_set ?_ GE176.out | refine below_set ?_ GE189.out) | exact HB.out)) hb); clear HO_10; clear BK176; clear BK189; clear HB; have HO_10 := n0_; have BK176 := n1_; have BK189 := n2_; have HB := n3_; clear n0_ n1_ n2_ n3_; (try clear hb); (try clear hb2); (try clear hk); (try clear hi))); try go_wp2_with (first | (go_at_call 15; (with_reducible refine (schismaref04_Parts.calls k3 ((rd_T24 t190 x12_3).f0) ((rd_T24 t190 x12_3).f1) t196 t197 true _ A63.out).mono ?_); rintro e w80 ⟨rfl, hb⟩; have n0_ := Aside0.mk (Kd.R_below (by (with_reducible repeat (first | apply Kd.R_alloc | apply Kd.R_drewN | apply Kd.R_drew)); exact HO_10.out) hb); have n1_ := Aside0.mk (blk_below (g := gb176) (o := .cells #[.string a0_0, .string a0_1] 24 (0, 0)) (by (with_reducible repeat (first | refine blk_drewN ?_ _ | refine blk_drew ?_ | refine blk_alloc ?_ _)); exact BK176.out) hb); have n2_ := Aside0.mk (blk_below (g := gb189) (o := .cells #[.string t186, .string t187] 24 (0, 0)) (by (with_reducible repeat (first | refine blk_drewN ?_ _ | refine blk_drew ?_ | refine blk_alloc ?_ _)); exact BK189.out) hb); have n3_ := Aside0.mk (below_step (by repeat (first | (with_reducible first | exact HB.out | apply below_alloc | apply pw_below_drewN | apply below_drew1 | refine below_set ?_ GE176.out | refine below_set ?_ GE189.out) | exact HB.out)) hb); clear HO_10; clear BK176; clear BK189; clear HB; have HO_10 := n0_; have BK176 := n1_; have BK189 := n2_; have HB := n3_; clear n0_ n1_ n2_ n3_; (try clear hb); (try clear hb2); (try clear hk); (try clear hi))))
                 go_ret
                 exact ⟨by first | rfl | (simp [*, errW_none, errW_some] <;> rfl), by repeat (first | (with_reducible first | exact HB.out | apply below_alloc | apply pw_below_drewN | apply below_drew1 | refine below_set ?_ GE176.out | refine below_set ?_ GE189.out) | exact HB.out)⟩
                ·rw [if_neg c78] at H
                 have c78b0 : decide ((wrap64 (t196 * t180)) ≤ (wrap64 (t179 * t197))) = false := decide_eq_false c78
                 clear c78
                 have H' := Aside0.mk H
                 clear H
                 obtain ⟨Ao81, co81, eo81⟩ := Kd.R_slice HO_10.out
                 subst eo81
                 have p195 : 0 ≤ (x12_3 : Int) := of_decide_eq_true (by first | (with_reducible assumption) | assumption)
                 have q195 : x12_3 < (t190.length : Int) := of_decide_eq_true (by first | (with_reducible assumption) | assumption)
                 obtain ⟨ad195, e195, hx195_0, hx195_1⟩ := at_T24 (Kd.R_reads' HO_10.out).2.2 x12_3 p195 q195
                 cases e195
                 replace p195 := eq_true p195
                 replace q195 := eq_true q195
                 go_wp2_with (first | (go_at_call 15; (with_reducible refine (schismaref04_Parts.calls k3 ((rd_T24 t190 x12_3).f0) ((rd_T24 t190 x12_3).f1) t196 t197 true _ A63.out).mono ?_); rintro e w82 ⟨rfl, hb⟩; have n0_ := Aside0.mk (Kd.R_below (by (with_reducible repeat (first | apply Kd.R_alloc | apply Kd.R_drewN | apply Kd.R_drew)); exact HO_10.out) hb); have n1_ := Aside0.mk (blk_below (g := gb176) (o := .cells #[.string a0_0, .string a0_1] 24 (0, 0)) (by (with_reducible repeat (first | refine blk_drewN ?_ _ | refine blk_drew ?_ | refine blk_alloc ?_ _)); exact BK176.out) hb); have n2_ := Aside0.mk (blk_below (g := gb189) (o := .cells #[.string t186, .string t187] 24 (0, 0)) (by (with_reducible repeat (first | refine blk_drewN ?_ _ | refine blk_drew ?_ | refine blk_alloc ?_ _)); exact BK189.out) hb); have n3_ := Aside0.mk (below_step (by repeat (first | (with_reducible first | exact HB.out | apply below_alloc | apply pw_below_drewN | apply below_drew1 | refine below_set ?_ GE176.out | refine below_set ?_ GE189.out) | exact HB.out)) hb); clear HO_10; clear BK176; clear BK189; clear HB; have HO_10 := n0_; have BK176 := n1_; have BK189 := n2_; have HB := n3_; clear n0_ n1_ n2_ n3_; (try clear hb); (try clear hb2); (try clear hk); (try clear hi)))
                 repeat (go_quiet (first | (go_at_call 15; (with_reducible refine (schismaref04_Parts.calls k3 ((rd_T24 t190 x12_3).f0) ((rd_T24 t190 x12_3).f1) t196 t197 true _ A63.out).mono ?_); rintro e w82 ⟨rfl, hb⟩; have n0_ := Aside0.mk (Kd.R_below (by (with_reducible repeat (first | apply Kd.R_alloc | apply Kd.R_drewN | apply Kd.R_drew)); exact HO_10.out) hb); have n1_ := Aside0.mk (blk_below (g := gb176) (o := .cells #[.string a0_0, .string a0_1] 24 (0, 0)) (by (with_reducible repeat (first | refine blk_drewN ?_ _ | refine blk_drew ?_ | refine blk_alloc ?_ _)); exact BK176.out) hb); have n2_ := Aside0.mk (blk_below (g := gb189) (o := .cells #[.string t186, .string t187] 24 (0, 0)) (by (with_reducible repeat (first | refine blk_drewN ?_ _ | refine blk_drew ?_ | refine blk_alloc ?_ _)); exact BK189.out) hb); have n3_ := Aside0.mk (below_step (by repeat (first | (with_reducible first | exact HB.out | apply below_alloc | apply pw_below_drewN | apply below_drew1 | refine below_set ?_ GE176.out | refine below_set ?_ GE189.out) | exact HB.out)) hb); clear HO_10; clear BK176; clear BK189; clear HB; have HO_10 := n0_; have BK176 := n1_; have BK189 := n2_; have HB := n3_; clear n0_ n1_ n2_ n3_; (try clear hb); (try clear hb2); (try clear hk); (try clear hi))); try go_wp2_with (first | (go_at_call 15; (with_reducible refine (schismaref04_Parts.calls k3 ((rd_T24 t190 x12_3).f0) ((rd_T24 t190 x12_3).f1) t196 t197 true _ A63.out).mono ?_); rintro e w82 ⟨rfl, hb⟩; have n0_ := Aside0.mk (Kd.R_below (by (with_reducible repeat (first | apply Kd.R_alloc | apply Kd.R_drewN | apply Kd.R_drew)); exact HO_10.out) hb); have n1_ := Aside0.mk (blk_below (g := gb176) (o := .cells #[.string a0_0, .string a0_1] 24 (0, 0)) (by (with_reducible repeat (first | refine blk_drewN ?_ _ | refine blk_drew ?_ | refine blk_alloc ?_ _)); exact BK176.out) hb); have n2_ := Aside0.mk (blk_below (g := gb189) (o := .cells #[.string t186, .string t187] 24 (0, 0)) (by (with_reducible repeat (first | refine blk_drewN ?_ _ | refine blk_drew ?_ | refine blk_alloc ?_ _)); exact BK189.out) hb); have n3_ := Aside0.mk (below_step (by repeat (first | (with_reducible first | exact HB.out | apply below_alloc | apply pw_below_drewN | apply below_drew1 | refine below_set ?_ GE176.out | refine below_set ?_ GE189.out) | exact HB.out)) hb); clear HO_10; clear BK176; clear BK189; clear HB; have HO_10 := n0_; have BK176 := n1_; have BK189 := n2_; have HB := n3_; clear n0_ n1_ n2_ n3_; (try clear hb); (try clear hb2); (try clear hk); (try clear hi))))
                 go_roundg k3
                 case measure => have := HJ1.out; have := HJ19.out; have := HK3.out; omega
                 case rel => exact ⟨(wrap64 (x12_3 + 1)), (by first | rfl | (simp; done) | (simp [*]; done)), H', ⟨by have := HJ1.out; have := HJ19.out; have := HK3.out; omega⟩, ⟨by (with_reducible repeat (first | apply Kd.R_alloc | apply Kd.R_drewN | apply Kd.R_drew)); exact HO_10.out⟩, ⟨by (with_reducible repeat (first | refine blk_drewN ?_ _ | refine blk_drew ?_ | refine blk_alloc ?_ _)); exact BK176.out⟩, ⟨by (with_reducible repeat (first | refine blk_drewN ?_ _ | refine blk_drew ?_ | refine blk_alloc ?_ _)); exact BK189.out⟩, ⟨by repeat (first | (with_reducible first | exact HB.out | apply below_alloc | apply pw_below_drewN | apply below_drew1 | refine below_set ?_ GE176.out | refine below_set ?_ GE189.out) | exact HB.out)⟩⟩
               ·rw [if_neg c77] at H
                have c77b0 : ((Int.tmod x12_3 2) == 1) = false := beq_eq_false_iff_ne.mpr c77
                have c77b1 : ((Int.tmod x12_3 2) != 1) = true := bne_iff_ne.mpr c77
                have H' := Aside0.mk H
                clear H
                obtain ⟨Ao83, co83, eo83⟩ := Kd.R_slice HO_10.out
                subst eo83
                have p195 : 0 ≤ (x12_3 : Int) := of_decide_eq_true (by first | (with_reducible assumption) | assumption)
                have q195 : x12_3 < (t190.length : Int) := of_decide_eq_true (by first | (with_reducible assumption) | assumption)
                obtain ⟨ad195, e195, hx195_0, hx195_1⟩ := at_T24 (Kd.R_reads' HO_10.out).2.2 x12_3 p195 q195
                cases e195
                replace p195 := eq_true p195
                replace q195 := eq_true q195
                go_wp2_with (first | (go_at_call 15; (with_reducible refine (schismaref04_Parts.calls k3 ((rd_T24 t190 x12_3).f0) ((rd_T24 t190 x12_3).f1) t196 t197 true _ A63.out).mono ?_); rintro e w84 ⟨rfl, hb⟩; have n0_ := Aside0.mk (Kd.R_below (by (with_reducible repeat (first | apply Kd.R_alloc | apply Kd.R_drewN | apply Kd.R_drew)); exact HO_10.out) hb); have n1_ := Aside0.mk (blk_below (g := gb176) (o := .cells #[.string a0_0, .string a0_1] 24 (0, 0)) (by (with_reducible repeat (first | refine blk_drewN ?_ _ | refine blk_drew ?_ | refine blk_alloc ?_ _)); exact BK176.out) hb); have n2_ := Aside0.mk (blk_below (g := gb189) (o := .cells #[.string t186, .string t187] 24 (0, 0)) (by (with_reducible repeat (first | refine blk_drewN ?_ _ | refine blk_drew ?_ | refine blk_alloc ?_ _)); exact BK189.out) hb); have n3_ := Aside0.mk (below_step (by repeat (first | (with_reducible first | exact HB.out | apply below_alloc | apply pw_below_drewN | apply below_drew1 | refine below_set ?_ GE176.out | refine below_set ?_ GE189.out) | exact HB.out)) hb); clear HO_10; clear BK176; clear BK189; clear HB; have HO_10 := n0_; have BK176 := n1_; have BK189 := n2_; have HB := n3_; clear n0_ n1_ n2_ n3_; (try clear hb); (try clear hb2); (try clear hk); (try clear hi)))
                repeat (go_quiet (first | (go_at_call 15; (with_reducible refine (schismaref04_Parts.calls k3 ((rd_T24 t190 x12_3).f0) ((rd_T24 t190 x12_3).f1) t196 t197 true _ A63.out).mono ?_); rintro e w84 ⟨rfl, hb⟩; have n0_ := Aside0.mk (Kd.R_below (by (with_reducible repeat (first | apply Kd.R_alloc | apply Kd.R_drewN | apply Kd.R_drew)); exact HO_10.out) hb); have n1_ := Aside0.mk (blk_below (g := gb176) (o := .cells #[.string a0_0, .string a0_1] 24 (0, 0)) (by (with_reducible repeat (first | refine blk_drewN ?_ _ | refine blk_drew ?_ | refine blk_alloc ?_ _)); exact BK176.out) hb); have n2_ := Aside0.mk (blk_below (g := gb189) (o := .cells #[.string t186, .string t187] 24 (0, 0)) (by (with_reducible repeat (first | refine blk_drewN ?_ _ | refine blk_drew ?_ | refine blk_alloc ?_ _)); exact BK189.out) hb); have n3_ := Aside0.mk (below_step (by repeat (first | (with_reducible first | exact HB.out | apply below_alloc | apply pw_below_drewN | apply below_drew1 | refine below_set ?_ GE176.out | refine below_set ?_ GE189.out) | exact HB.out)) hb); clear HO_10; clear BK176; clear BK189; clear HB; have HO_10 := n0_; have BK176 := n1_; have BK189 := n2_; have HB := n3_; clear n0_ n1_ n2_ n3_; (try clear hb); (try clear hb2); (try clear hk); (try clear hi))); try go_wp2_with (first | (go_at_call 15; (with_reducible refine (schismaref04_Parts.calls k3 ((rd_T24 t190 x12_3).f0) ((rd_T24 t190 x12_3).f1) t196 t197 true _ A63.out).mono ?_); rintro e w84 ⟨rfl, hb⟩; have n0_ := Aside0.mk (Kd.R_below (by (with_reducible repeat (first | apply Kd.R_alloc | apply Kd.R_drewN | apply Kd.R_drew)); exact HO_10.out) hb); have n1_ := Aside0.mk (blk_below (g := gb176) (o := .cells #[.string a0_0, .string a0_1] 24 (0, 0)) (by (with_reducible repeat (first | refine blk_drewN ?_ _ | refine blk_drew ?_ | refine blk_alloc ?_ _)); exact BK176.out) hb); have n2_ := Aside0.mk (blk_below (g := gb189) (o := .cells #[.string t186, .string t187] 24 (0, 0)) (by (with_reducible repeat (first | refine blk_drewN ?_ _ | refine blk_drew ?_ | refine blk_alloc ?_ _)); exact BK189.out) hb); have n3_ := Aside0.mk (below_step (by repeat (first | (with_reducible first | exact HB.out | apply below_alloc | apply pw_below_drewN | apply below_drew1 | refine below_set ?_ GE176.out | refine below_set ?_ GE189.out) | exact HB.out)) hb); clear HO_10; clear BK176; clear BK189; clear HB; have HO_10 := n0_; have BK176 := n1_; have BK189 := n2_; have HB := n3_; clear n0_ n1_ n2_ n3_; (try clear hb); (try clear hb2); (try clear hk); (try clear hi))))
                go_roundg k3
                case measure => have := HJ1.out; have := HJ19.out; have := HK3.out; omega
                case rel => exact ⟨(wrap64 (x12_3 + 1)), (by first | rfl | (simp; done) | (simp [*]; done)), H', ⟨by have := HJ1.out; have := HJ19.out; have := HK3.out; omega⟩, ⟨by (with_reducible repeat (first | apply Kd.R_alloc | apply Kd.R_drewN | apply Kd.R_drew)); exact HO_10.out⟩, ⟨by (with_reducible repeat (first | refine blk_drewN ?_ _ | refine blk_drew ?_ | refine blk_alloc ?_ _)); exact BK176.out⟩, ⟨by (with_reducible repeat (first | refine blk_drewN ?_ _ | refine blk_drew ?_ | refine blk_alloc ?_ _)); exact BK189.out⟩, ⟨by repeat (first | (with_reducible first | exact HB.out | apply below_alloc | apply pw_below_drewN | apply below_drew1 | refine below_set ?_ GE176.out | refine below_set ?_ GE189.out) | exact HB.out)⟩⟩
             ·replace c64 := Bool.eq_false_iff.mpr c64
              subst c64
              have H1 : (some false) = some r := by rw [if_neg (show ¬ (false = true) by decide)] at H; exact H
              clear H
              have H := H1
              clear H1
              obtain rfl := Option.some.inj H
              obtain ⟨Ao85, co85, eo85⟩ := Kd.R_slice HO_10.out
              subst eo85
              have p195 : 0 ≤ (x12_3 : Int) := of_decide_eq_true (by first | (with_reducible assumption) | assumption)
              have q195 : x12_3 < (t190.length : Int) := of_decide_eq_true (by first | (with_reducible assumption) | assumption)
              obtain ⟨ad195, e195, hx195_0, hx195_1⟩ := at_T24 (Kd.R_reads' HO_10.out).2.2 x12_3 p195 q195
              cases e195
              replace p195 := eq_true p195
              replace q195 := eq_true q195
              go_wp2_with (first | (go_at_call 15; (with_reducible refine (schismaref04_Parts.calls k3 ((rd_T24 t190 x12_3).f0) ((rd_T24 t190 x12_3).f1) t196 t197 false _ A63.out).mono ?_); rintro e w86 ⟨rfl, hb⟩; have n0_ := Aside0.mk (Kd.R_below (by (with_reducible repeat (first | apply Kd.R_alloc | apply Kd.R_drewN | apply Kd.R_drew)); exact HO_10.out) hb); have n1_ := Aside0.mk (blk_below (g := gb176) (o := .cells #[.string a0_0, .string a0_1] 24 (0, 0)) (by (with_reducible repeat (first | refine blk_drewN ?_ _ | refine blk_drew ?_ | refine blk_alloc ?_ _)); exact BK176.out) hb); have n2_ := Aside0.mk (blk_below (g := gb189) (o := .cells #[.string t186, .string t187] 24 (0, 0)) (by (with_reducible repeat (first | refine blk_drewN ?_ _ | refine blk_drew ?_ | refine blk_alloc ?_ _)); exact BK189.out) hb); have n3_ := Aside0.mk (below_step (by repeat (first | (with_reducible first | exact HB.out | apply below_alloc | apply pw_below_drewN | apply below_drew1 | refine below_set ?_ GE176.out | refine below_set ?_ GE189.out) | exact HB.out)) hb); clear HO_10; clear BK176; clear BK189; clear HB; have HO_10 := n0_; have BK176 := n1_; have BK189 := n2_; have HB := n3_; clear n0_ n1_ n2_ n3_; (try clear hb); (try clear hb2); (try clear hk); (try clear hi)))
              repeat (go_quiet (first | (go_at_call 15; (with_reducible refine (schismaref04_Parts.calls k3 ((rd_T24 t190 x12_3).f0) ((rd_T24 t190 x12_3).f1) t196 t197 false _ A63.out).mono ?_); rintro e w86 ⟨rfl, hb⟩; have n0_ := Aside0.mk (Kd.R_below (by (with_reducible repeat (first | apply Kd.R_alloc | apply Kd.R_drewN | apply Kd.R_drew)); exact HO_10.out) hb); have n1_ := Aside0.mk (blk_below (g := gb176) (o := .cells #[.string a0_0, .string a0_1] 24 (0, 0)) (by (with_reducible repeat (first | refine blk_drewN ?_ _ | refine blk_drew ?_ | refine blk_alloc ?_ _)); exact BK176.out) hb); have n2_ := Aside0.mk (blk_below (g := gb189) (o := .cells #[.string t186, .string t187] 24 (0, 0)) (by (with_reducible repeat (first | refine blk_drewN ?_ _ | refine blk_drew ?_ | refine blk_alloc ?_ _)); exact BK189.out) hb); have n3_ := Aside0.mk (below_step (by repeat (first | (with_reducible first | exact HB.out | apply below_alloc | apply pw_below_drewN | apply below_drew1 | refine below_set ?_ GE176.out | refine below_set ?_ GE189.out) | exact HB.out)) hb); clear HO_10; clear BK176; clear BK189; clear HB; have HO_10 := n0_; have BK176 := n1_; have BK189 := n2_; have HB := n3_; clear n0_ n1_ n2_ n3_; (try clear hb); (try clear hb2); (try clear hk); (try clear hi))); try go_wp2_with (first | (go_at_call 15; (with_reducible refine (schismaref04_Parts.calls k3 ((rd_T24 t190 x12_3).f0) ((rd_T24 t190 x12_3).f1) t196 t197 false _ A63.out).mono ?_); rintro e w86 ⟨rfl, hb⟩; have n0_ := Aside0.mk (Kd.R_below (by (with_reducible repeat (first | apply Kd.R_alloc | apply Kd.R_drewN | apply Kd.R_drew)); exact HO_10.out) hb); have n1_ := Aside0.mk (blk_below (g := gb176) (o := .cells #[.string a0_0, .string a0_1] 24 (0, 0)) (by (with_reducible repeat (first | refine blk_drewN ?_ _ | refine blk_drew ?_ | refine blk_alloc ?_ _)); exact BK176.out) hb); have n2_ := Aside0.mk (blk_below (g := gb189) (o := .cells #[.string t186, .string t187] 24 (0, 0)) (by (with_reducible repeat (first | refine blk_drewN ?_ _ | refine blk_drew ?_ | refine blk_alloc ?_ _)); exact BK189.out) hb); have n3_ := Aside0.mk (below_step (by repeat (first | (with_reducible first | exact HB.out | apply below_alloc | apply pw_below_drewN | apply below_drew1 | refine below_set ?_ GE176.out | refine below_set ?_ GE189.out) | exact HB.out)) hb); clear HO_10; clear BK176; clear BK189; clear HB; have HO_10 := n0_; have BK176 := n1_; have BK189 := n2_; have HB := n3_; clear n0_ n1_ n2_ n3_; (try clear hb); (try clear hb2); (try clear hk); (try clear hi))))
              go_ret
              exact ⟨by first | rfl | (simp [*, errW_none, errW_some] <;> rfl), by repeat (first | (with_reducible first | exact HB.out | apply below_alloc | apply pw_below_drewN | apply below_drew1 | refine below_set ?_ GE176.out | refine below_set ?_ GE189.out) | exact HB.out)⟩
            ·rw [if_neg c62] at H
             exact absurd H (by simp)
           ·rw [if_neg c61] at H
            exact absurd H (by simp)
          ·rw [if_neg c60] at H
           have c60b0 : decide ((wrap64 (x12_3 + 1)) < (t190.length : Int)) = false := decide_eq_false c60
           clear c60
           obtain rfl := Option.some.inj H
           obtain ⟨Ao87, co87, eo87⟩ := Kd.R_slice HO_10.out
           subst eo87
           go_wp2
           repeat (go_quiet (fail); try go_wp2)
           go_ret
           exact ⟨by first | rfl | (simp [*, errW_none, errW_some] <;> rfl), by repeat (first | (with_reducible first | exact HB.out | apply below_alloc | apply pw_below_drewN | apply below_drew1 | refine below_set ?_ GE176.out | refine below_set ?_ GE189.out) | exact HB.out)⟩
    ·replace c16 := Bool.eq_false_iff.mpr c16
     subst c16
     have H1 : (some true) = some r := by rw [if_neg (show ¬ (false = true) by decide)] at H; exact H
     clear H
     have H := H1
     clear H1
     obtain rfl := Option.some.inj H
     have hcz88_0 : wc.cell? ⟨gb176, 0, none⟩ = some (.string a0_0) := (blk_cell BK176.out 0).trans rfl
     have hcz88_1 : wc.cell? ⟨gb176, 1, none⟩ = some (.string a0_1) := (blk_cell BK176.out 1).trans rfl
     have hfz88_0 := blk_frozen BK176.out 0
     have hfz88_1 := blk_frozen BK176.out 1
     go_wp2_with (first | (go_at_call 15; (with_reducible refine (schismaref04_Parts.calls kj1 a0_0 a0_1 t179 t180 false _ A15.out).mono ?_); rintro e w89 ⟨rfl, hb⟩; have n0_ := Aside0.mk (blk_below (g := gb176) (o := .cells #[.string a0_0, .string a0_1] 24 (0, 0)) (by (with_reducible repeat (first | refine blk_drewN ?_ _ | refine blk_drew ?_ | refine blk_alloc ?_ _)); exact BK176.out) hb); have n1_ := Aside0.mk (below_step (by repeat (first | (with_reducible first | exact HB.out | apply below_alloc | apply pw_below_drewN | apply below_drew1 | refine below_set ?_ GE176.out) | exact HB.out)) hb); clear BK176; clear HB; have BK176 := n0_; have HB := n1_; clear n0_ n1_; (try clear hb); (try clear hb2); (try clear hk); (try clear hi)))
     repeat (go_quiet (first | (go_at_call 15; (with_reducible refine (schismaref04_Parts.calls kj1 a0_0 a0_1 t179 t180 false _ A15.out).mono ?_); rintro e w89 ⟨rfl, hb⟩; have n0_ := Aside0.mk (blk_below (g := gb176) (o := .cells #[.string a0_0, .string a0_1] 24 (0, 0)) (by (with_reducible repeat (first | refine blk_drewN ?_ _ | refine blk_drew ?_ | refine blk_alloc ?_ _)); exact BK176.out) hb); have n1_ := Aside0.mk (below_step (by repeat (first | (with_reducible first | exact HB.out | apply below_alloc | apply pw_below_drewN | apply below_drew1 | refine below_set ?_ GE176.out) | exact HB.out)) hb); clear BK176; clear HB; have BK176 := n0_; have HB := n1_; clear n0_ n1_; (try clear hb); (try clear hb2); (try clear hk); (try clear hi))); try go_wp2_with (first | (go_at_call 15; (with_reducible refine (schismaref04_Parts.calls kj1 a0_0 a0_1 t179 t180 false _ A15.out).mono ?_); rintro e w89 ⟨rfl, hb⟩; have n0_ := Aside0.mk (blk_below (g := gb176) (o := .cells #[.string a0_0, .string a0_1] 24 (0, 0)) (by (with_reducible repeat (first | refine blk_drewN ?_ _ | refine blk_drew ?_ | refine blk_alloc ?_ _)); exact BK176.out) hb); have n1_ := Aside0.mk (below_step (by repeat (first | (with_reducible first | exact HB.out | apply below_alloc | apply pw_below_drewN | apply below_drew1 | refine below_set ?_ GE176.out) | exact HB.out)) hb); clear BK176; clear HB; have BK176 := n0_; have HB := n1_; clear n0_ n1_; (try clear hb); (try clear hb2); (try clear hk); (try clear hi))))
     go_ret
     exact ⟨by first | rfl | (simp [*, errW_none, errW_some] <;> rfl), by repeat (first | (with_reducible first | exact HB.out | apply below_alloc | apply pw_below_drewN | apply below_drew1 | refine below_set ?_ GE176.out) | exact HB.out)⟩
end Go.Proofs.YtidajgkepdkcbaaGreatDoor.PL
end
section
namespace Go.Proofs.YtidajgkepdkcbaaGreatDoor
open Go.RowKit Go.Lib Go.Proofs.YtidajgkepdkcbaaGreatDoorW.PrintWords Go.Proofs.YtidajgkepdkcbaaGreatDoorW.PrintLast Go.Proofs.YtidajgkepdkcbaaGreatDoorW.PrintMore PF PL
theorem la_true (a b : ByteArray) : Ev (fun k => schismalaw04_ConvergentLaws.j0 k true a b) true := by
 refine Ev.step (fun k => by rw [schismalaw04_ConvergentLaws.j0, if_pos rfl]) ?_
 exact Ev.bind Known (ev_const fun _ => rfl)
theorem value_l1 {n d : Int} {ts : List Int} (hF : Fr n d) (hn1 : -10000000000000 < n) (hn2 : n < 10000000000000) (hd2 : d < 10000000000000) (hl : ts.length ≤ 1000) (G : Nat → CS → Prop) (gs : ∀ k c a, G k c → ts[k]? = some a → ConvOk n d ts k c a ∧ G (k + 1) (c.next a)) :
  ∀ (m k : Nat) (c : CS), ts.length = k + m → G k c → (m = 0 → c.p = n ∧ c.q = d) → Ev (fun j => convergent_Value.l1 j (ts.map T) (ts.length : Int) (k : Int) (T c.p) (T c.q) (T c.b) (T c.u)) (T n, T d, 0)
 | 0, k, c, hk, hG, h0 => by
  obtain ⟨e1, e2⟩ := h0 rfl
  refine Ev.step (fun j => by rw [convergent_Value.l1, if_neg (by omega), e1, e2]) ?_
  refine Ev.bind (Over_T (by unfold S17; omega) (by have := hF.1; unfold S17; omega) hF.1) ?_
  rw [fr_self hF]
  exact Ev.bind (Wrong_no (by unfold S17; omega) (by have := hF.1; unfold S17; omega) hF) (Ev.congr (fun k => if_neg (by simp)) (ev_const fun _ => rfl))
 | m + 1, k, c, hk, hG, _ => by
  have hlt : k < ts.length := by omega
  obtain ⟨ok, hG'⟩ := gs k c _ hG (List.getElem?_eq_getElem hlt)
  have e2 : rdOf ByteArray.empty (ts.map T) (k : Int) = T ts[k] := by unfold rdOf; simp [hlt]
  refine Ev.step (f := fun j => (convergent_pair_next.f j (T c.p) (T c.q) (T c.b) (T c.u) (T ts[k])).bind fun b => convergent_Value.l1 j (ts.map T) (ts.length : Int) ((k + 1 : Nat) : Int) b.1 b.2.1 b.2.2.1 b.2.2.2) (fun j => ?_) ?_
  ·rw [convergent_Value.l1, if_pos (by omega), if_pos (by omega), if_pos (by simp; omega), e2, w64 (by omega) (by omega)]
   rfl
  ·refine Ev.bind (Next_T ok.step) ?_
   exact value_l1 hF hn1 hn2 hd2 hl G gs m (k + 1) (c.next ts[k]) (by omega) hG' (fun h => ok.last (by omega) hF)
theorem value_l0 {n d : Int} {ts : List Int} (hts : isCf ts n d) (hF : Fr n d) (hn1 : -10000000000000 < n) (hn2 : n < 10000000000000) (hd2 : d < 10000000000000) (hl : ts.length ≤ 1000) (hS : ∀ a ∈ ts, S17 a) (hp : ∀ a ∈ ts.drop 1, 1 ≤ a) :
  ∀ (m k : Nat), ts.length = k + m → Ev (fun j => convergent_Value.l0 j (ts.map T) (ts.map T) (ts.length : Int) (k : Int)) (T n, T d, 0)
 | 0, k, hk => by
  obtain ⟨G, g0, gs⟩ := conv_G hn1 hn2 hF.1 hd2 hts
  refine Ev.step (fun j => by rw [convergent_Value.l0, if_neg (by omega)]) ?_
  refine Ev.bind (ev_const (r := (T 1, T 0, T 0, T 1)) fun k => by rw [convergent_begin.f, lit0, lit1]) ?_
  have := value_l1 hF hn1 hn2 hd2 hl G gs ts.length 0 CS.begin (by omega) g0 (fun h => absurd (List.eq_nil_of_length_eq_zero h) hts.ne_nil)
  simp only [List.length_map]
  simpa [CS.begin] using this
 | m + 1, k, hk => by
  have hlt : k < ts.length := by omega
  have e2 : rdOf ByteArray.empty (ts.map T) (k : Int) = T ts[k] := by unfold rdOf; simp [hlt]
  have ih := value_l0 hts hF hn1 hn2 hd2 hl hS hp m (k + 1) (by omega)
  have hs := hS _ (List.getElem_mem hlt)
  refine Ev.step (f := fun j => (whole_Check.f j (T ts[k])).bind fun t => if t = 0 then (if (k : Int) > 0 then ((whole_Sign.f (T ts[k])).bind fun s => if s ≤ 0 then some ((⟨#[]⟩ : ByteArray), (⟨#[]⟩ : ByteArray), 3) else convergent_Value.l0 j (ts.map T) (ts.map T) (ts.length : Int) ((k + 1 : Nat) : Int)) else convergent_Value.l0 j (ts.map T) (ts.map T) (ts.length : Int) ((k + 1 : Nat) : Int)) else some ((⟨#[]⟩ : ByteArray), (⟨#[]⟩ : ByteArray), 2)) (fun j => ?_) ?_
  ·rw [convergent_Value.l0, if_pos (by omega), if_pos (by omega), if_pos (by simp; omega), e2, w64 (by omega) (by omega)]
   rfl
  ·refine Ev.bind (Check_yes (by have := hs.size; omega)) (Ev.congr (fun k => if_pos rfl) ?_)
   by_cases h0 : k = 0
   ·exact Ev.congr (fun j => if_neg (by omega)) ih
   ·refine Ev.congr (fun j => if_pos (by omega)) ?_
    have hpk : 1 ≤ ts[k] := hp _ (List.mem_iff_getElem.2 ⟨k - 1, by simp; omega, by simp [Nat.sub_add_cancel (show 1 ≤ k by omega)]⟩)
    refine Ev.bind (ev_const fun _ => whole_Sign_T _) ?_
    rw [sg_pos (by omega)]
    exact Ev.congr (fun j => if_neg (by omega)) ih
theorem cf_pos1 {n d : Int} {ts : List Int} (hts : isCf ts n d) (h0 : 0 < d) : ∀ a ∈ ts.drop 1, 1 ≤ a := by
 cases ts with
 | nil => simp
 | cons a l =>
  intro x hx
  rcases hts.2 with ⟨_, hnil⟩ | ⟨h1, h2⟩
  ·subst hnil; simp at hx
  ·have r0 := Int.emod_nonneg n (b := d) (by omega)
   have r1 := Int.emod_lt_of_pos n h0
   exact h2.pos (by omega) (by omega) x (by simpa using hx)
theorem Value_T {n d : Int} {ts : List Int} (hts : isCf ts n d) (hF : Fr n d) (hn1 : -10000000000000 < n) (hn2 : n < 10000000000000) (hd2 : d < 10000000000000) (hl : ts.length ≤ 1000) :
  Ev (fun k => convergent_Value.f k (ts.map T)) (T n, T d, 0) := by
 have hpos := List.length_pos_iff.2 hts.ne_nil
 unfold convergent_Value.f
 simp only [List.length_map]
 refine Ev.congr (fun k => by rw [if_neg (by omega), if_neg (by omega)]) ?_
 exact value_l0 hts hF hn1 hn2 hd2 hl (cf_S17 hts hn1 hn2 hF.1 hd2) (cf_pos1 hts hF.1) ts.length 0 (by omega)
theorem la_l0 {n d : Int} {ts : List Int} (hF : Fr n d) (hn1 : -100000000 < n) (hn2 : n < 1000000000) (hd2 : d < 1000000000) (hl : ts.length ≤ 1000) (hts : isCf ts n d) :
  ∀ (m k : Nat), ts.length = k + m → Ev (fun j => schismalaw04_ConvergentLaws.l0 j n d ((convs CS.begin ts).map sf) (k : Int)) true := by
 obtain ⟨G, g0, gs⟩ := conv_G (by omega) (by omega) hF.1 (by omega) hts
 have hcn : ∀ i, i < ts.length → ∃ c a, (convs CS.begin ts)[i]? = some ((c.next a).p, (c.next a).q) ∧ ConvOk n d ts i c a := by
  have : ∀ (m k : Nat) (c : CS), ts.length = k + m → G k c → ∀ i, i < m → ∃ c' a, (convs c (ts.drop k))[i]? = some ((c'.next a).p, (c'.next a).q) ∧ ConvOk n d ts (k + i) c' a := by
   intro m
   induction m with
   | zero => intro k c _ _ i hi; omega
   | succ m ih =>
    intro k c hk hG i hi
    have hlt : k < ts.length := by omega
    obtain ⟨ok, hG'⟩ := gs k c _ hG (List.getElem?_eq_getElem hlt)
    rw [List.drop_eq_getElem_cons hlt, convs]
    cases i with
    | zero => exact ⟨c, ts[k], by simp, ok⟩
    | succ i =>
     obtain ⟨c', a, hy, r⟩ := ih (k + 1) (c.next ts[k]) (by omega) hG' i (by omega)
     have e : k + 1 + i = k + (i + 1) := by omega
     rw [e] at r
     exact ⟨c', a, by simpa using hy, r⟩
  intro i hi
  obtain ⟨c, a, hy, r⟩ := this ts.length 0 CS.begin (by omega) g0 i hi
  rw [List.drop_zero] at hy
  rw [Nat.zero_add] at r
  exact ⟨c, a, hy, r⟩
 have hlc : ((convs CS.begin ts).map sf).length = ts.length := by rw [List.length_map, convs_len]
 intro m
 induction m with
 | zero =>
  intro k hk
  refine ev_here 1 fun j => ?_
  rw [schismalaw04_ConvergentLaws.l0, hlc, w64 (by omega) (by omega), if_neg (by omega)]
 | succ m ih =>
  intro k hk
  by_cases hl1 : k + 1 < ts.length
  ·obtain ⟨c, a, hy, ok⟩ := hcn k (by omega)
   have e : rd_T24 ((convs CS.begin ts).map sf) (k : Int) = sf ((c.next a).p, (c.next a).q) := by
    unfold rd_T24
    rw [Int.toNat_natCast, List.getD_eq_getElem?_getD, List.getElem?_map, hy]
    rfl
   have q1 := ok.q1
   have qd := ok.qd
   have p1 := ok.p1
   have p2 := ok.p2
   have er1 := ok.er1
   have er2 := ok.er2
   have hev := ok.even hl1
   have hod := ok.odd hl1
   have hg := ok.g
   generalize (c.next a).p = p at *
   generalize (c.next a).q = q at *
   have hnq : (n * q).natAbs ≤ 1000000000 * 1000000000 := by rw [Int.natAbs_mul]; exact Nat.mul_le_mul (by omega) (by omega)
   have hih := ih (k + 1) (by omega)
   refine Ev.step (f := fun j => (schismaref04_Parts.f j (T p) (T q)).bind fun b => if b.2.2 = true then (if (k : Int).tmod 2 = 0 then (if (wrap64 (b.1 * d)) ≥ (wrap64 (n * b.2.1)) then (some false) else (if (k : Int).tmod 2 = 1 then (if (wrap64 (b.1 * d)) ≤ (wrap64 (n * b.2.1)) then (some false) else (schismalaw04_ConvergentLaws.l0 j n d ((convs CS.begin ts).map sf) ((k + 1 : Nat) : Int))) else (schismalaw04_ConvergentLaws.l0 j n d ((convs CS.begin ts).map sf) ((k + 1 : Nat) : Int)))) else (if (k : Int).tmod 2 = 1 then (if (wrap64 (b.1 * d)) ≤ (wrap64 (n * b.2.1)) then (some false) else (schismalaw04_ConvergentLaws.l0 j n d ((convs CS.begin ts).map sf) ((k + 1 : Nat) : Int))) else (schismalaw04_ConvergentLaws.l0 j n d ((convs CS.begin ts).map sf) ((k + 1 : Nat) : Int)))) else some false) (fun j => ?_) ?_
   ·rw [schismalaw04_ConvergentLaws.l0, hlc, w64 (x := (k : Int) + 1) (by omega) (by omega), if_pos (by omega), if_pos (by omega), if_pos (by omega), e]
    rfl
   ·refine Ev.bind (Parts_yes (T_size_le (k := 16) (by omega) (by omega)) (T_size_le (k := 16) (by omega) (by omega)) ⟨by omega, hg⟩) (Ev.congr (fun k => if_pos rfl) ?_)
    simp only
    rw [w64 (x := p * d) (by omega) (by omega), w64 (x := n * q) (by omega) (by omega)]
    have htm : (k : Int).tmod 2 = ((k % 2 : Nat) : Int) := rfl
    rw [htm]
    rcases Nat.mod_two_eq_zero_or_one k with h2 | h2
    ·have := hev h2
     exact Ev.congr (fun j => by rw [if_pos (by omega), if_neg (by omega), if_neg (by omega)]) hih
    ·have := hod h2
     exact Ev.congr (fun j => by rw [if_neg (by omega), if_pos (by omega), if_neg (by omega)]) hih
  ·refine ev_here 1 fun j => ?_
   rw [schismalaw04_ConvergentLaws.l0, hlc, w64 (by omega) (by omega), if_neg (by omega)]
theorem la_false (a b : ByteArray) (ha : a.size ≤ 9) (hb : b.size ≤ 9) : Ev (fun k => schismalaw04_ConvergentLaws.j0 k false a b) true := by
 refine Ev.step (fun k => by rw [schismalaw04_ConvergentLaws.j0, if_neg (by simp)]) ?_
 rcases said a b with ⟨n, d, rfl, rfl, hF⟩ | h
 ·have hn := lt_of_T_size (i := n) (k := 8) (by omega)
  have hd := lt_of_T_size (i := d) (k := 8) (by omega)
  have h0 := hF.1
  obtain ⟨ts, hts, hl⟩ := cf_small (n := n) h0 (by omega)
  have hpos := List.length_pos_iff.2 hts.ne_nil
  refine Ev.bind (Parts_yes (by omega) (by omega) hF) (Ev.congr (fun k => if_pos rfl) ?_)
  refine Ev.bind (CTerms_T hts (by unfold S17; omega) (by unfold S17; omega) hF hl) ?_
  refine Ev.bind (Value_T hts hF (by omega) (by omega) (by omega) hl) ?_
  refine Ev.bind (Convergents_T hts hF (by omega) (by omega) (by omega) hl) ?_
  have hlc : ((convs CS.begin ts).map sf).length = ts.length := by rw [List.length_map, convs_len]
  have hlast := convs_last hts hF (by omega) (by omega) (by omega)
  have et : ((ts.length : Int) - 1).toNat = ts.length - 1 := by omega
  have e : rd_T24 ((convs CS.begin ts).map sf) ((ts.length : Int) - 1) = sf (n, d) := by
   unfold rd_T24
   rw [et, List.getD_eq_getElem?_getD, List.getElem?_map, hlast]
   rfl
  have hlT : ((ts.map T).length : Int) = (ts.length : Int) := by simp
  rw [hlc]
  refine Ev.congr (fun k => by rw [if_pos rfl, if_pos rfl, if_neg (by simp), if_pos rfl, if_pos hlT.symm, if_neg (by omega), w64 (x := (ts.length : Int) - 1) (by omega) (by omega), if_pos (by omega), if_pos (by omega), e]) ?_
  simp only [sf, beq_self_eq_true, Bool.not_true, Bool.or_self]
  refine Ev.step (fun k => by rw [schismalaw04_ConvergentLaws.j1, if_neg (by simp)]) ?_
  exact la_l0 hF (by omega) (by omega) (by omega) hl hts ts.length 0 (by omega)
 ·exact Ev.bind (Parts_no (by omega) (by omega) h) (Ev.congr (fun k => if_neg (by simp)) (ev_const fun _ => rfl))
theorem ConvergentLaws_true (a b : ByteArray) : ∃ k, schismalaw04_ConvergentLaws.f k a b = some true := by
 refine Ev.rounds (g := fun k => schismalaw04_ConvergentLaws.f k a b) ?_
 unfold schismalaw04_ConvergentLaws.f
 refine Ev.bind Known (Ev.congr (fun k => if_pos rfl) ?_)
 by_cases h1 : (a.size : Int) > 9
 ·exact Ev.congr (fun k => if_pos h1) (la_true _ _)
 refine Ev.congr (fun k => if_neg h1) ?_
 by_cases h2 : (b.size : Int) > 9
 ·rw [decide_eq_true h2]; exact la_true _ _
 ·rw [decide_eq_false h2]; exact la_false _ _ (by omega) (by omega)
end Go.Proofs.YtidajgkepdkcbaaGreatDoor
end
