/- A part of the proof in QMe6. -/
import Derived.Test.YtidajgkepdkcbaaGreatDoorQMe2
import Derived.Lib.IndexBytes
set_option linter.unusedVariables false
set_option linter.unusedSimpArgs false
section
namespace Go.Proofs.YtidajgkepdkcbaaGreatDoor.PF
open Go.RowKit Go.Proofs.YtidajgkepdkcbaaGreatDoorW.PrintWords Go.Proofs.YtidajgkepdkcbaaGreatDoorW.PrintLast Go.Proofs.YtidajgkepdkcbaaGreatDoorW.PrintMore
attribute [local go_sem] max2_int min2_int max_two min_two max_three min_three max_four min_four
def convergent_Mediant.j0 : Nat → Bool → ByteArray → ByteArray → ByteArray → ByteArray → Option (ByteArray × ByteArray × Int)
 | 0, _, _, _, _, _ => none
 | k + 1, x12, x325000, x325001, x326000, x326001 => if x12 = true then (some ((⟨#[]⟩ : ByteArray), (⟨#[]⟩ : ByteArray), 2)) else ((whole_Add.f k x325000 x326000).bind fun t329 => ((whole_Add.f k x325001 x326001).bind fun t330 => ((convergent_over.f k t329 t330).bind fun bt331 => ((convergent_wrong.f k bt331.1 bt331.2).bind fun t334 => (if t334 = true then (some ((⟨#[]⟩ : ByteArray), (⟨#[]⟩ : ByteArray), 2)) else (some (bt331.1, bt331.2, 0)))))))
def convergent_Mediant.f (k : Nat) (a0_0 : ByteArray) (a0_1 : ByteArray) (a1_0 : ByteArray) (a1_1 : ByteArray) : Option (ByteArray × ByteArray × Int) := (convergent_wrong.f k a0_0 a0_1).bind fun t327 => (if t327 = true then (convergent_Mediant.j0 k true a0_0 a0_1 a1_0 a1_1) else ((convergent_wrong.f k a1_0 a1_1).bind fun t328 => (convergent_Mediant.j0 k t328 a0_0 a0_1 a1_0 a1_1)))
def convergent_Mediant.T3 : Bool × List (List Nat × List Nat) := (true, [([], []), ([0], [0]), ([], []), ([2], [2]), ([1, 3], [1, 3]), ([], []), ([5], [5]), ([], []), ([7], [7]), ([6, 8, 4], [6, 8]), ([4, 9, 9], [4, 9]), ([], []), ([11, 10, 10, 0, 1, 2, 3, 4, 5, 6, 7, 8, 9, 10, 11], [10, 11])])
def convergent_Mediant.B3 : List Nat := [0, 1, 0, 4, 15, 0, 32, 0, 128, 511, 1023, 0, 4095]
theorem convergent_Mediant.tab3 : rtab .any (opsOf Tryz.f14 3) = convergent_Mediant.T3 := by kernel_rfl
theorem convergent_Mediant.bits3 : waitsOk convergent_Mediant.T3.2 convergent_Mediant.B3 = true := by kernel_rfl
set_option maxHeartbeats 8000000 in
set_option maxRecDepth 100000 in
theorem convergent_Mediant.calls (k : Nat) (a0_0 : ByteArray) (a0_1 : ByteArray) (a1_0 : ByteArray) (a1_1 : ByteArray) (r1 : ByteArray) (r2 : ByteArray) (r3 : Int) (w : World) (hG_ : GWorld w) (h : convergent_Mediant.f k a0_0 a0_1 a1_0 a1_1 = some (r1, r2, r3)) :
  Calls Tryz.prog 14 #[.agg #[.string a0_0, .string a0_1], .agg #[.string a1_0, .string a1_1]] w fun e w' => e = .returned (.tuple #[.agg #[.string r1, .string r2], .int .i64 r3]) ∧ Below w.heap.size w w' := by
 have hu24 := Tryz.underlying24
 have HB := Aside0.mk (Below.refl w.heap.size w)
 have HG := Aside0.mk hG_
 clear hG_
 have H : ((convergent_wrong.f k a0_0 a0_1).bind fun t327 => (if t327 = true then (convergent_Mediant.j0 k true a0_0 a0_1 a1_0 a1_1) else ((convergent_wrong.f k a1_0 a1_1).bind fun t328 => (convergent_Mediant.j0 k t328 a0_0 a0_1 a1_0 a1_1)))) = some (r1, r2, r3) := h
 clear h
 have HC3 := Aside0.mk H
 clear H
 go_enter Tryz.func14, Tryz.ntmps14
 go_upto_region 1 with (first | ((with_reducible refine gate_dst (N := 2) rfl ?_); refine box_event ?hg (N := 2) ?hd (cs := #[.string a0_0, .string a0_1]) (t := 24) ?hr ?_; (case hd => rfl); (case hg => rfl); (case hr => first | (go_simp; done) | (go_simp; rfl)); intro gb324 hg w4 hbox hb; have n0_ := Aside0.mk (below_step (by repeat (first | (with_reducible first | exact HB.out | apply below_alloc | apply pw_below_drewN | apply below_drew1) | exact HB.out)) hb); have n1_ := Aside0.mk (hbox); have n2_ := Aside0.mk ((by rw [hg]; exact (below_size (by repeat (first | (with_reducible first | exact HB.out | apply below_alloc | apply pw_below_drewN | apply below_drew1) | exact HB.out))) : w.heap.size ≤ gb324)); have n3_ := Aside0.mk ((by rw [hg]; exact (below_size (by repeat (first | (with_reducible first | exact HB.out | apply below_alloc | apply pw_below_drewN | apply below_drew1) | exact HB.out))) : w.heap.size ≤ gb324)); clear HB; have HB := n0_; have BK324 := n1_; have GW324 := n2_; have GE324 := n3_; clear n0_ n1_ n2_ n3_; clear hb hbox hg) | ((with_reducible refine gate_dst (N := 3) rfl ?_); refine box_event ?hg (N := 3) ?hd (cs := #[.string a1_0, .string a1_1]) (t := 24) ?hr ?_; (case hd => rfl); (case hg => rfl); (case hr => first | (go_simp; done) | (go_simp; rfl)); intro gb325 hg w5 hbox hb; have n0_ := Aside0.mk (blk_below (g := gb324) (o := .cells #[.string a0_0, .string a0_1] 24 (0, 0)) (by (with_reducible repeat (first | refine blk_drewN ?_ _ | refine blk_drew ?_ | refine blk_alloc ?_ _)); exact BK324.out) hb); have n1_ := Aside0.mk (below_step (by repeat (first | (with_reducible first | exact HB.out | apply below_alloc | apply pw_below_drewN | apply below_drew1 | refine below_set ?_ GE324.out) | exact HB.out)) hb); have n2_ := Aside0.mk (hbox); have n3_ := Aside0.mk ((by rw [hg]; exact (below_size (by repeat (first | (with_reducible first | exact HB.out | apply below_alloc | apply pw_below_drewN | apply below_drew1 | refine below_set ?_ GE324.out) | exact HB.out))) : w.heap.size ≤ gb325)); have n4_ := Aside0.mk ((by rw [hg]; exact (below_size (by repeat (first | (with_reducible first | exact HB.out | apply below_alloc | apply pw_below_drewN | apply below_drew1 | refine below_set ?_ GE324.out) | exact HB.out))) : w.heap.size ≤ gb325)); have n5_ := Aside0.mk ((by rw [hg]; exact Nat.ne_of_lt (blk_lt (g := gb324) (o := .cells #[.string a0_0, .string a0_1] 24 (0, 0)) (by (with_reducible repeat (first | refine blk_drewN ?_ _ | refine blk_drew ?_ | refine blk_alloc ?_ _)); exact BK324.out)) : gb324 ≠ gb325)); have n6_ := Aside0.mk ((by rw [hg]; exact Nat.ne_of_gt (blk_lt (g := gb324) (o := .cells #[.string a0_0, .string a0_1] 24 (0, 0)) (by (with_reducible repeat (first | refine blk_drewN ?_ _ | refine blk_drew ?_ | refine blk_alloc ?_ _)); exact BK324.out)) : gb325 ≠ gb324)); clear BK324; clear HB; have BK324 := n0_; have HB := n1_; have BK325 := n2_; have GW325 := n3_; have GE325 := n4_; have NB324_325 := n5_; have NB325_324 := n6_; clear n0_ n1_ n2_ n3_ n4_ n5_ n6_; clear hb hbox hg) | ((with_reducible refine gate_dst (N := 4) rfl ?_); refine box_event ?hg (N := 4) ?hd (cs := #[.string (⟨#[]⟩ : ByteArray), .string (⟨#[]⟩ : ByteArray)]) (t := 24) ?hr ?_; (case hd => rfl); (case hg => rfl); (case hr => first | (go_simp; done) | (go_simp; rfl)); intro gb326 hg w6 hbox hb; have n0_ := Aside0.mk (blk_below (g := gb324) (o := .cells #[.string a0_0, .string a0_1] 24 (0, 0)) (by (with_reducible repeat (first | refine blk_drewN ?_ _ | refine blk_drew ?_ | refine blk_alloc ?_ _)); exact BK324.out) hb); have n1_ := Aside0.mk (blk_below (g := gb325) (o := .cells #[.string a1_0, .string a1_1] 24 (0, 0)) (by (with_reducible repeat (first | refine blk_drewN ?_ _ | refine blk_drew ?_ | refine blk_alloc ?_ _)); exact BK325.out) hb); have n2_ := Aside0.mk (below_step (by repeat (first | (with_reducible first | exact HB.out | apply below_alloc | apply pw_below_drewN | apply below_drew1 | refine below_set ?_ GE324.out | refine below_set ?_ GE325.out) | exact HB.out)) hb); have n3_ := Aside0.mk (hbox); have n4_ := Aside0.mk ((by rw [hg]; exact (below_size (by repeat (first | (with_reducible first | exact HB.out | apply below_alloc | apply pw_below_drewN | apply below_drew1 | refine below_set ?_ GE324.out | refine below_set ?_ GE325.out) | exact HB.out))) : w.heap.size ≤ gb326)); have n5_ := Aside0.mk ((by rw [hg]; exact (below_size (by repeat (first | (with_reducible first | exact HB.out | apply below_alloc | apply pw_below_drewN | apply below_drew1 | refine below_set ?_ GE324.out | refine below_set ?_ GE325.out) | exact HB.out))) : w.heap.size ≤ gb326)); have n6_ := Aside0.mk ((by rw [hg]; exact Nat.ne_of_lt (blk_lt (g := gb324) (o := .cells #[.string a0_0, .string a0_1] 24 (0, 0)) (by (with_reducible repeat (first | refine blk_drewN ?_ _ | refine blk_drew ?_ | refine blk_alloc ?_ _)); exact BK324.out)) : gb324 ≠ gb326)); have n7_ := Aside0.mk ((by rw [hg]; exact Nat.ne_of_gt (blk_lt (g := gb324) (o := .cells #[.string a0_0, .string a0_1] 24 (0, 0)) (by (with_reducible repeat (first | refine blk_drewN ?_ _ | refine blk_drew ?_ | refine blk_alloc ?_ _)); exact BK324.out)) : gb326 ≠ gb324)); have n8_ := Aside0.mk ((by rw [hg]; exact Nat.ne_of_lt (blk_lt (g := gb325) (o := .cells #[.string a1_0, .string a1_1] 24 (0, 0)) (by (with_reducible repeat (first | refine blk_drewN ?_ _ | refine blk_drew ?_ | refine blk_alloc ?_ _)); exact BK325.out)) : gb325 ≠ gb326)); have n9_ := Aside0.mk ((by rw [hg]; exact Nat.ne_of_gt (blk_lt (g := gb325) (o := .cells #[.string a1_0, .string a1_1] 24 (0, 0)) (by (with_reducible repeat (first | refine blk_drewN ?_ _ | refine blk_drew ?_ | refine blk_alloc ?_ _)); exact BK325.out)) : gb326 ≠ gb325)); clear BK324; clear BK325; clear HB; have BK324 := n0_; have BK325 := n1_; have HB := n2_; have BK326 := n3_; have GW326 := n4_; have GE326 := n5_; have NB324_326 := n6_; have NB326_324 := n7_; have NB325_326 := n8_; have NB326_325 := n9_; clear n0_ n1_ n2_ n3_ n4_ n5_ n6_ n7_ n8_ n9_; clear hb hbox hg))
 (try simp only [Act.put, List.setIfInBounds_toArray, List.set_cons_zero, List.set_cons_succ])
 go_cut [12] (fun v12 wc => ∃ (kq : Nat) (x12_2 : Bool), v12 = .bool x12_2 ∧ Aside0 (convergent_Mediant.j0 kq x12_2 a0_0 a0_1 a1_0 a1_1 = some (r1, r2, r3)) ∧ Aside0 (kq ≤ k) ∧ Aside0 (wc.heap[gb324]? = some (.cells #[.string a0_0, .string a0_1] 24 (0, 0))) ∧ Aside0 (wc.heap[gb325]? = some (.cells #[.string a1_0, .string a1_1] 24 (0, 0))) ∧ Aside0 (wc.heap[gb326]? = some (.cells #[.string (⟨#[]⟩ : ByteArray), .string (⟨#[]⟩ : ByteArray)] 24 (0, 0))) ∧ Aside0 (Below w.heap.size w wc))
 case first =>
  have H := HC3.out
  clear HC3
  replace H := Option.bind_eq_some_iff.mp H
  obtain ⟨t327, A70, H⟩ := H
  replace H : (if t327 = true then (convergent_Mediant.j0 k true a0_0 a0_1 a1_0 a1_1) else ((convergent_wrong.f k a1_0 a1_1).bind fun t328 => (convergent_Mediant.j0 k t328 a0_0 a0_1 a1_0 a1_1))) = some (r1, r2, r3) := H
  have A7 := Aside0.mk A70
  clear A70
  by_cases c8 : t327 = true
  ·subst c8
   have H1 : (convergent_Mediant.j0 k true a0_0 a0_1 a1_0 a1_1) = some (r1, r2, r3) := by rw [if_pos rfl] at H; exact H
   clear H
   have H := H1
   clear H1
   have H' := Aside0.mk H
   clear H
   have hnb9 := NB324_325.out
   have hnc9 := NB325_324.out
   have hnb10 := NB324_326.out
   have hnc10 := NB326_324.out
   have hcz11_0 : w6.cell? ⟨gb324, 0, none⟩ = some (.string a0_0) := (blk_cell BK324.out 0).trans rfl
   have hcz11_1 : w6.cell? ⟨gb324, 1, none⟩ = some (.string a0_1) := (blk_cell BK324.out 1).trans rfl
   have hfz11_0 := blk_frozen BK324.out 0
   have hfz11_1 := blk_frozen BK324.out 1
   go_wp2_with (first | ((with_reducible refine gate_callee (f := 40) rfl ?_); refine goesL_ (some 8) rfl rfl Tryz.func40 (by kernel_rfl) rfl #[.agg #[.string a0_0, .string a0_1]] rfl (by (try simp only [List.map_toArray, List.map_cons, List.map_nil]); try rfl) ?_; (with_reducible refine (convergent_wrong.calls k a0_0 a0_1 true _ ?side1 A7.out).mono ?_); (case side1 => exact GWorld.below HG.out (by repeat (first | (with_reducible first | exact HB.out | apply below_alloc | apply pw_below_drewN | apply below_drew1 | refine below_set ?_ GE324.out | refine below_set ?_ GE325.out | refine below_set ?_ GE326.out) | exact HB.out))); rintro e w12 ⟨rfl, hb⟩; refine ⟨_, rfl, ?_⟩; have n0_ := Aside0.mk (blk_below (g := gb324) (o := .cells #[.string a0_0, .string a0_1] 24 (0, 0)) (by (with_reducible repeat (first | refine blk_drewN ?_ _ | refine blk_drew ?_ | refine blk_alloc ?_ _)); exact BK324.out) hb); have n1_ := Aside0.mk (blk_below (g := gb325) (o := .cells #[.string a1_0, .string a1_1] 24 (0, 0)) (by (with_reducible repeat (first | refine blk_drewN ?_ _ | refine blk_drew ?_ | refine blk_alloc ?_ _)); exact BK325.out) hb); have n2_ := Aside0.mk (blk_below (g := gb326) (o := .cells #[.string (⟨#[]⟩ : ByteArray), .string (⟨#[]⟩ : ByteArray)] 24 (0, 0)) (by (with_reducible repeat (first | refine blk_drewN ?_ _ | refine blk_drew ?_ | refine blk_alloc ?_ _)); exact BK326.out) hb); have n3_ := Aside0.mk (below_step (by repeat (first | (with_reducible first | exact HB.out | apply below_alloc | apply pw_below_drewN | apply below_drew1 | refine below_set ?_ GE324.out | refine below_set ?_ GE325.out | refine below_set ?_ GE326.out) | exact HB.out)) hb); clear BK324; clear BK325; clear BK326; clear HB; have BK324 := n0_; have BK325 := n1_; have BK326 := n2_; have HB := n3_; clear n0_ n1_ n2_ n3_; (try clear hb); (try clear hb2); (try clear hk); (try clear hi)))
   go_meet
   case rel => exact ⟨_, (true), (by first | rfl | (simp; done) | (simp [*]; done)), H', ⟨by first | omega | exact Nat.le_refl _⟩, ⟨by (with_reducible repeat (first | refine blk_drewN ?_ _ | refine blk_drew ?_ | refine blk_alloc ?_ _)); exact BK324.out⟩, ⟨by (with_reducible repeat (first | refine blk_drewN ?_ _ | refine blk_drew ?_ | refine blk_alloc ?_ _)); exact BK325.out⟩, ⟨by (with_reducible repeat (first | refine blk_drewN ?_ _ | refine blk_drew ?_ | refine blk_alloc ?_ _)); exact BK326.out⟩, ⟨by repeat (first | (with_reducible first | exact HB.out | apply below_alloc | apply pw_below_drewN | apply below_drew1 | refine below_set ?_ GE324.out | refine below_set ?_ GE325.out | refine below_set ?_ GE326.out) | exact HB.out)⟩⟩
  ·replace c8 := Bool.eq_false_iff.mpr c8
   subst c8
   have H1 : ((convergent_wrong.f k a1_0 a1_1).bind fun t328 => (convergent_Mediant.j0 k t328 a0_0 a0_1 a1_0 a1_1)) = some (r1, r2, r3) := by rw [if_neg (show ¬ (false = true) by decide)] at H; exact H
   clear H
   have H := H1
   clear H1
   replace H := Option.bind_eq_some_iff.mp H
   obtain ⟨t328, A130, H⟩ := H
   replace H : (convergent_Mediant.j0 k t328 a0_0 a0_1 a1_0 a1_1) = some (r1, r2, r3) := H
   have A13 := Aside0.mk A130
   clear A130
   have H' := Aside0.mk H
   clear H
   have hnb14 := NB324_325.out
   have hnc14 := NB325_324.out
   have hnb15 := NB324_326.out
   have hnc15 := NB326_324.out
   have hcz16_0 : w6.cell? ⟨gb324, 0, none⟩ = some (.string a0_0) := (blk_cell BK324.out 0).trans rfl
   have hcz16_1 : w6.cell? ⟨gb324, 1, none⟩ = some (.string a0_1) := (blk_cell BK324.out 1).trans rfl
   have hfz16_0 := blk_frozen BK324.out 0
   have hfz16_1 := blk_frozen BK324.out 1
   go_wp2_with (first | ((with_reducible refine gate_callee (f := 40) rfl ?_); refine goesL_ (some 8) rfl rfl Tryz.func40 (by kernel_rfl) rfl #[.agg #[.string a0_0, .string a0_1]] rfl (by (try simp only [List.map_toArray, List.map_cons, List.map_nil]); try rfl) ?_; (with_reducible refine (convergent_wrong.calls k a0_0 a0_1 false _ ?side1 A7.out).mono ?_); (case side1 => exact GWorld.below HG.out (by repeat (first | (with_reducible first | exact HB.out | apply below_alloc | apply pw_below_drewN | apply below_drew1 | refine below_set ?_ GE324.out | refine below_set ?_ GE325.out | refine below_set ?_ GE326.out) | exact HB.out))); rintro e w17 ⟨rfl, hb⟩; refine ⟨_, rfl, ?_⟩; have n0_ := Aside0.mk (blk_below (g := gb324) (o := .cells #[.string a0_0, .string a0_1] 24 (0, 0)) (by (with_reducible repeat (first | refine blk_drewN ?_ _ | refine blk_drew ?_ | refine blk_alloc ?_ _)); exact BK324.out) hb); have n1_ := Aside0.mk (blk_below (g := gb325) (o := .cells #[.string a1_0, .string a1_1] 24 (0, 0)) (by (with_reducible repeat (first | refine blk_drewN ?_ _ | refine blk_drew ?_ | refine blk_alloc ?_ _)); exact BK325.out) hb); have n2_ := Aside0.mk (blk_below (g := gb326) (o := .cells #[.string (⟨#[]⟩ : ByteArray), .string (⟨#[]⟩ : ByteArray)] 24 (0, 0)) (by (with_reducible repeat (first | refine blk_drewN ?_ _ | refine blk_drew ?_ | refine blk_alloc ?_ _)); exact BK326.out) hb); have n3_ := Aside0.mk (below_step (by repeat (first | (with_reducible first | exact HB.out | apply below_alloc | apply pw_below_drewN | apply below_drew1 | refine below_set ?_ GE324.out | refine below_set ?_ GE325.out | refine below_set ?_ GE326.out) | exact HB.out)) hb); clear BK324; clear BK325; clear BK326; clear HB; have BK324 := n0_; have BK325 := n1_; have BK326 := n2_; have HB := n3_; clear n0_ n1_ n2_ n3_; (try clear hb); (try clear hb2); (try clear hk); (try clear hi); have hnb18 := NB325_326.out; have hnc18 := NB326_325.out; have hcz19_0 : w17.cell? ⟨gb325, 0, none⟩ = some (.string a1_0) := (blk_cell BK325.out 0).trans rfl; have hcz19_1 : w17.cell? ⟨gb325, 1, none⟩ = some (.string a1_1) := (blk_cell BK325.out 1).trans rfl; have hfz19_0 := blk_frozen BK325.out 0; have hfz19_1 := blk_frozen BK325.out 1) | (go_at_call 40; (with_reducible refine (convergent_wrong.calls k a1_0 a1_1 t328 _ ?side1 A13.out).mono ?_); (case side1 => exact GWorld.below HG.out (by repeat (first | (with_reducible first | exact HB.out | apply below_alloc | apply pw_below_drewN | apply below_drew1 | refine below_set ?_ GE324.out | refine below_set ?_ GE325.out | refine below_set ?_ GE326.out) | exact HB.out))); rintro e w20 ⟨rfl, hb⟩; have n0_ := Aside0.mk (blk_below (g := gb324) (o := .cells #[.string a0_0, .string a0_1] 24 (0, 0)) (by (with_reducible repeat (first | refine blk_drewN ?_ _ | refine blk_drew ?_ | refine blk_alloc ?_ _)); exact BK324.out) hb); have n1_ := Aside0.mk (blk_below (g := gb325) (o := .cells #[.string a1_0, .string a1_1] 24 (0, 0)) (by (with_reducible repeat (first | refine blk_drewN ?_ _ | refine blk_drew ?_ | refine blk_alloc ?_ _)); exact BK325.out) hb); have n2_ := Aside0.mk (blk_below (g := gb326) (o := .cells #[.string (⟨#[]⟩ : ByteArray), .string (⟨#[]⟩ : ByteArray)] 24 (0, 0)) (by (with_reducible repeat (first | refine blk_drewN ?_ _ | refine blk_drew ?_ | refine blk_alloc ?_ _)); exact BK326.out) hb); have n3_ := Aside0.mk (below_step (by repeat (first | (with_reducible first | exact HB.out | apply below_alloc | apply pw_below_drewN | apply below_drew1 | refine below_set ?_ GE324.out | refine below_set ?_ GE325.out | refine below_set ?_ GE326.out) | exact HB.out)) hb); clear BK324; clear BK325; clear BK326; clear HB; have BK324 := n0_; have BK325 := n1_; have BK326 := n2_; have HB := n3_; clear n0_ n1_ n2_ n3_; (try clear hb); (try clear hb2); (try clear hk); (try clear hi)))
   go_meet
   case rel => exact ⟨_, (t328), (by first | rfl | (simp; done) | (simp [*]; done)), H', ⟨by first | omega | exact Nat.le_refl _⟩, ⟨by (with_reducible repeat (first | refine blk_drewN ?_ _ | refine blk_drew ?_ | refine blk_alloc ?_ _)); exact BK324.out⟩, ⟨by (with_reducible repeat (first | refine blk_drewN ?_ _ | refine blk_drew ?_ | refine blk_alloc ?_ _)); exact BK325.out⟩, ⟨by (with_reducible repeat (first | refine blk_drewN ?_ _ | refine blk_drew ?_ | refine blk_alloc ?_ _)); exact BK326.out⟩, ⟨by repeat (first | (with_reducible first | exact HB.out | apply below_alloc | apply pw_below_drewN | apply below_drew1 | refine below_set ?_ GE324.out | refine below_set ?_ GE325.out | refine below_set ?_ GE326.out) | exact HB.out)⟩⟩
 case rest =>
  clear HC3
  try clear c1
  try clear p2
  try clear c4
  try clear c8
  try clear c9
  try clear c10
  try clear c14
  try clear c15
  try clear c18
  try clear hcz11_0
  try clear hcz11_1
  try clear hcz16_0
  try clear hcz16_1
  try clear hcz19_0
  try clear hcz19_1
  try clear hfz11_0
  try clear hfz11_1
  try clear hfz16_0
  try clear hfz16_1
  try clear hfz19_0
  try clear hfz19_1
  obtain ⟨kq, x12_2, rfl, HA, HJ2, BK324, BK325, BK326, HB⟩ := hcut
  cases kq with
  | zero => exact absurd HA.out (by simp [convergent_Mediant.j0])
  | succ kj2 =>
   have H := HA.out
   clear HA
   simp only [convergent_Mediant.j0] at H
   by_cases c21 : x12_2 = true
   ·subst c21
    have H1 : (some ((⟨#[]⟩ : ByteArray), (⟨#[]⟩ : ByteArray), 2)) = some (r1, r2, r3) := by rw [if_pos rfl] at H; exact H
    clear H
    have H := H1
    clear H1
    simp only [Option.some.injEq, Prod.mk.injEq] at H
    obtain ⟨rfl, rfl, rfl⟩ := H
    have hnb22 := NB326_324.out
    have hnc22 := NB324_326.out
    have hnb23 := NB326_325.out
    have hnc23 := NB325_326.out
    have hcz24_0 : wc.cell? ⟨gb326, 0, none⟩ = some (.string (⟨#[]⟩ : ByteArray)) := (blk_cell BK326.out 0).trans rfl
    have hcz24_1 : wc.cell? ⟨gb326, 1, none⟩ = some (.string (⟨#[]⟩ : ByteArray)) := (blk_cell BK326.out 1).trans rfl
    have hfz24_0 := blk_frozen BK326.out 0
    have hfz24_1 := blk_frozen BK326.out 1
    go_wp2
    refine bodyPost_ret (results_ct rfl _ _ gb326 24 #[.string (⟨#[]⟩ : ByteArray), .string (⟨#[]⟩ : ByteArray)] (0, 0) _ rfl (by (with_reducible repeat (first | refine blk_drewN ?_ _ | refine blk_drew ?_ | refine blk_alloc ?_ _)); refine blk_put (cs := #[.string (⟨#[]⟩ : ByteArray), .string (⟨#[]⟩ : ByteArray)]) ?_ 1 _ rfl; (with_reducible repeat (first | refine blk_drewN ?_ _ | refine blk_drew ?_ | refine blk_alloc ?_ _)); refine blk_put (cs := #[.string (⟨#[]⟩ : ByteArray), .string (⟨#[]⟩ : ByteArray)]) ?_ 0 _ rfl; (with_reducible repeat (first | refine blk_drewN ?_ _ | refine blk_drew ?_ | refine blk_alloc ?_ _)); exact BK326.out) Tryz.underlying24 rfl (by kernel_rfl)) rfl ?_
    exact ⟨by first | rfl | (simp [*, errW_none, errW_some] <;> rfl), by repeat (first | (with_reducible first | exact HB.out | apply below_alloc | apply pw_below_drewN | apply below_drew1 | refine below_set ?_ GE324.out | refine below_set ?_ GE325.out | refine below_set ?_ GE326.out) | exact HB.out)⟩
   ·replace c21 := Bool.eq_false_iff.mpr c21
    subst c21
    have H1 : ((whole_Add.f kj2 a0_0 a1_0).bind fun t329 => ((whole_Add.f kj2 a0_1 a1_1).bind fun t330 => ((convergent_over.f kj2 t329 t330).bind fun bt331 => ((convergent_wrong.f kj2 bt331.1 bt331.2).bind fun t334 => (if t334 = true then (some ((⟨#[]⟩ : ByteArray), (⟨#[]⟩ : ByteArray), 2)) else (some (bt331.1, bt331.2, 0))))))) = some (r1, r2, r3) := by rw [if_neg (show ¬ (false = true) by decide)] at H; exact H
    clear H
    have H := H1
    clear H1
    replace H := Option.bind_eq_some_iff.mp H
    obtain ⟨t329, A250, H⟩ := H
    replace H : ((whole_Add.f kj2 a0_1 a1_1).bind fun t330 => ((convergent_over.f kj2 t329 t330).bind fun bt331 => ((convergent_wrong.f kj2 bt331.1 bt331.2).bind fun t334 => (if t334 = true then (some ((⟨#[]⟩ : ByteArray), (⟨#[]⟩ : ByteArray), 2)) else (some (bt331.1, bt331.2, 0)))))) = some (r1, r2, r3) := H
    have A25 := Aside0.mk A250
    clear A250
    replace H := Option.bind_eq_some_iff.mp H
    obtain ⟨t330, A260, H⟩ := H
    replace H : ((convergent_over.f kj2 t329 t330).bind fun bt331 => ((convergent_wrong.f kj2 bt331.1 bt331.2).bind fun t334 => (if t334 = true then (some ((⟨#[]⟩ : ByteArray), (⟨#[]⟩ : ByteArray), 2)) else (some (bt331.1, bt331.2, 0))))) = some (r1, r2, r3) := H
    have A26 := Aside0.mk A260
    clear A260
    replace H := Option.bind_eq_some_iff.mp H
    obtain ⟨⟨t331, t332⟩, A270, H⟩ := H
    replace H : ((convergent_wrong.f kj2 t331 t332).bind fun t334 => (if t334 = true then (some ((⟨#[]⟩ : ByteArray), (⟨#[]⟩ : ByteArray), 2)) else (some (t331, t332, 0)))) = some (r1, r2, r3) := H
    have A27 := Aside0.mk A270
    clear A270
    replace H := Option.bind_eq_some_iff.mp H
    obtain ⟨t334, A280, H⟩ := H
    replace H : (if t334 = true then (some ((⟨#[]⟩ : ByteArray), (⟨#[]⟩ : ByteArray), 2)) else (some (t331, t332, 0))) = some (r1, r2, r3) := H
    have A28 := Aside0.mk A280
    clear A280
    by_cases c29 : t334 = true
    ·subst c29
     have H1 : (some ((⟨#[]⟩ : ByteArray), (⟨#[]⟩ : ByteArray), 2)) = some (r1, r2, r3) := by rw [if_pos rfl] at H; exact H
     clear H
     have H := H1
     clear H1
     simp only [Option.some.injEq, Prod.mk.injEq] at H
     obtain ⟨rfl, rfl, rfl⟩ := H
     try go_wp2
     have n0_ := Aside0.mk (blk_drew BK324.out)
     have n1_ := Aside0.mk (blk_drew BK325.out)
     have n2_ := Aside0.mk (blk_drew BK326.out)
     have n3_ := Aside0.mk (below_drew1 HB.out)
     clear BK324
     clear BK325
     clear BK326
     clear HB
     have BK324 := n0_
     have BK325 := n1_
     have BK326 := n2_
     have HB := n3_
     clear n0_ n1_ n2_ n3_
     refine start_ (n := 13) (S := fun w' => w'.cell? ⟨gb324, 0, none⟩ = some (.string a0_0) ∧ w'.cell? ⟨gb324, 1, none⟩ = some (.string a0_1) ∧ w'.cell? ⟨gb325, 0, none⟩ = some (.string a1_0) ∧ w'.cell? ⟨gb325, 1, none⟩ = some (.string a1_1)) (ds := []) #[false, false, false, false, false, false, false, false, false, false, false, false, false] (by kernel_rfl) rfl rfl ⟨(blk_cell BK324.out 0).trans rfl, (blk_cell BK324.out 1).trans rfl, (blk_cell BK325.out 0).trans rfl, (blk_cell BK325.out 1).trans rfl⟩ (fun hHeld => ?_); refine with_tabW convergent_Mediant.tab3 convergent_Mediant.bits3 (fun HT_ HW_ => ?_)
     generalize wc.drew = w30 at BK324 BK325 BK326 HB hHeld ⊢
     refine pure_ (i := 0) (N := some 14) (v := ?_) (a' := ?_) #[true, false, false, false, false, false, false, false, false, false, false, false, false] rfl rfl (any_of HT_.out (by kernel_rfl)) (fun _ _ _ h => h) (Or.inl ⟨by rfl, ?_⟩) ?_ ?_
     rotate_left
     ·intro w'
      go_simp
      with_reducible rfl
     rotate_left
     ·simp only [Act.put, List.setIfInBounds_toArray, List.set_cons_zero, List.set_cons_succ, i64_w, i32_w]
      rfl
     refine pure_ (i := 2) (N := some 16) (v := ?_) (a' := ?_) #[true, false, true, false, false, false, false, false, false, false, false, false, false] rfl rfl (any_of HT_.out (by kernel_rfl)) (fun _ _ _ h => h) (Or.inl ⟨by rfl, ?_⟩) ?_ ?_
     rotate_left
     ·intro w'
      go_simp
      with_reducible rfl
     rotate_left
     ·simp only [Act.put, List.setIfInBounds_toArray, List.set_cons_zero, List.set_cons_succ, i64_w, i32_w]
      rfl
     refine pure_ (i := 5) (N := some 19) (v := ?_) (a' := ?_) #[true, false, true, false, false, true, false, false, false, false, false, false, false] rfl rfl (any_of HT_.out (by kernel_rfl)) (fun _ _ _ h => h) (Or.inl ⟨by rfl, ?_⟩) ?_ ?_
     rotate_left
     ·intro w'
      go_simp
      with_reducible rfl
     rotate_left
     ·simp only [Act.put, List.setIfInBounds_toArray, List.set_cons_zero, List.set_cons_succ, i64_w, i32_w]
      rfl
     refine pure_ (i := 7) (N := some 21) (v := ?_) (a' := ?_) #[true, false, true, false, false, true, false, true, false, false, false, false, false] rfl rfl (any_of HT_.out (by kernel_rfl)) (fun _ _ _ h => h) (Or.inl ⟨by rfl, ?_⟩) ?_ ?_
     rotate_left
     ·intro w'
      go_simp
      with_reducible rfl
     rotate_left
     ·simp only [Act.put, List.setIfInBounds_toArray, List.set_cons_zero, List.set_cons_succ, i64_w, i32_w]
      rfl
     refine take_ (i := 1) (N := some 15) (v := ?_) (a' := ?_) #[true, true, true, false, false, true, false, true, false, false, false, false, false] rfl rfl (take_ofW HT_.out HW_.out (by kernel_rfl)) (fun _ _ _ h => h) (Or.inl ⟨by rfl, ?_⟩) hHeld ?_ ?_
     rotate_left
     ·rintro w' ⟨s0, s1, s2, s3⟩
      go_simp
      with_reducible rfl
     rotate_left
     ·simp only [Act.put, List.setIfInBounds_toArray, List.set_cons_zero, List.set_cons_succ, i64_w, i32_w]
      rfl
     refine take_ (i := 3) (N := some 17) (v := ?_) (a' := ?_) #[true, true, true, true, false, true, false, true, false, false, false, false, false] rfl rfl (take_ofW HT_.out HW_.out (by kernel_rfl)) (fun _ _ _ h => h) (Or.inl ⟨by rfl, ?_⟩) hHeld ?_ ?_
     rotate_left
     ·rintro w' ⟨s0, s1, s2, s3⟩
      go_simp
      with_reducible rfl
     rotate_left
     ·simp only [Act.put, List.setIfInBounds_toArray, List.set_cons_zero, List.set_cons_succ, i64_w, i32_w]
      rfl
     refine take_ (i := 6) (N := some 20) (v := ?_) (a' := ?_) #[true, true, true, true, false, true, true, true, false, false, false, false, false] rfl rfl (take_ofW HT_.out HW_.out (by kernel_rfl)) (fun _ _ _ h => h) (Or.inl ⟨by rfl, ?_⟩) hHeld ?_ ?_
     rotate_left
     ·rintro w' ⟨s0, s1, s2, s3⟩
      go_simp
      with_reducible rfl
     rotate_left
     ·simp only [Act.put, List.setIfInBounds_toArray, List.set_cons_zero, List.set_cons_succ, i64_w, i32_w]
      rfl
     refine take_ (i := 8) (N := some 22) (v := ?_) (a' := ?_) #[true, true, true, true, false, true, true, true, true, false, false, false, false] rfl rfl (take_ofW HT_.out HW_.out (by kernel_rfl)) (fun _ _ _ h => h) (Or.inl ⟨by rfl, ?_⟩) hHeld ?_ ?_
     rotate_left
     ·rintro w' ⟨s0, s1, s2, s3⟩
      go_simp
      with_reducible rfl
     rotate_left
     ·simp only [Act.put, List.setIfInBounds_toArray, List.set_cons_zero, List.set_cons_succ, i64_w, i32_w]
      rfl
     refine join_ (σ := Nat) 1 #[true, true, true, true, true, true, true, true, true, true, true, true, false] (fun s_ => [(18, .string t329), (23, .string t330), (24, .agg #[.string t331, .string t332]), (6, .pointer (some ⟨s_, 0, none⟩))]) (fun s_ w' => (w'.cell? ⟨gb324, 0, none⟩ = some (.string a0_0) ∧ w'.cell? ⟨gb324, 1, none⟩ = some (.string a0_1) ∧ w'.cell? ⟨gb325, 0, none⟩ = some (.string a1_0) ∧ w'.cell? ⟨gb325, 1, none⟩ = some (.string a1_1)) ∧ (w'.heap[gb324]? = some (.cells #[.string a0_0, .string a0_1] 24 (0, 0))) ∧ (w'.heap[gb325]? = some (.cells #[.string a1_0, .string a1_1] 24 (0, 0))) ∧ (w'.heap[gb326]? = some (.cells #[.string (⟨#[]⟩ : ByteArray), .string (⟨#[]⟩ : ByteArray)] 24 (0, 0))) ∧ (w'.heap[s_]? = some (.cells #[.string (⟨#[]⟩ : ByteArray), .string (⟨#[]⟩ : ByteArray)] 24 (0, 0))) ∧ (w.heap.size ≤ s_) ∧ (w.heap.size ≤ s_) ∧ (gb324 ≠ s_) ∧ (s_ ≠ gb324) ∧ (gb325 ≠ s_) ∧ (s_ ≠ gb325) ∧ (gb326 ≠ s_) ∧ (s_ ≠ gb326) ∧ (Below w.heap.size w w')) ?_ ?_
     rotate_left
     ·intro hCont
      refine two_ (i := 4) (j := 11) (Ni := some 18) (Nj := some 6) #[true, true, true, true, true, true, true, true, true, false, false, false, false] #[true, true, true, true, false, true, true, true, true, false, false, true, false] rfl rfl rfl rfl (two_of HT_.out (by kernel_rfl)) (by decide) (by decide) (fun K hK => ?_) (fun K hK => ?_)
      ·skip
       refine goes_ Tryz.func42 (by kernel_rfl) rfl #[.string a0_0, .string a1_0] (by rfl) rfl rfl (by (try simp only [List.map_toArray, List.map_cons, List.map_nil]); try rfl) ?_
       with_reducible refine (whole_Add.calls kj2 a0_0 a1_0 t329 _ ?side1 A25.out).mono ?_
       (case side1 => exact GWorld.below HG.out (by repeat (first | (with_reducible first | exact HB.out | apply below_alloc | apply pw_below_drewN | apply below_drew1 | refine below_set ?_ GE324.out | refine below_set ?_ GE325.out | refine below_set ?_ GE326.out) | exact HB.out)))
       rintro e w31 ⟨rfl, hb⟩
       refine ⟨_, rfl, ?_⟩
       have n0_ := Aside0.mk (blk_below (g := gb324) (o := .cells #[.string a0_0, .string a0_1] 24 (0, 0)) (by (with_reducible repeat (first | refine blk_drewN ?_ _ | refine blk_drew ?_ | refine blk_alloc ?_ _)); exact BK324.out) hb)
       have n1_ := Aside0.mk (blk_below (g := gb325) (o := .cells #[.string a1_0, .string a1_1] 24 (0, 0)) (by (with_reducible repeat (first | refine blk_drewN ?_ _ | refine blk_drew ?_ | refine blk_alloc ?_ _)); exact BK325.out) hb)
       have n2_ := Aside0.mk (blk_below (g := gb326) (o := .cells #[.string (⟨#[]⟩ : ByteArray), .string (⟨#[]⟩ : ByteArray)] 24 (0, 0)) (by (with_reducible repeat (first | refine blk_drewN ?_ _ | refine blk_drew ?_ | refine blk_alloc ?_ _)); exact BK326.out) hb)
       have n3_ := Aside0.mk (below_step (by repeat (first | (with_reducible first | exact HB.out | apply below_alloc | apply pw_below_drewN | apply below_drew1 | refine below_set ?_ GE324.out | refine below_set ?_ GE325.out | refine below_set ?_ GE326.out) | exact HB.out)) hb)
       clear BK324
       clear BK325
       clear BK326
       clear HB
       have BK324 := n0_
       have BK325 := n1_
       have BK326 := n2_
       have HB := n3_
       clear n0_ n1_ n2_ n3_
       (try clear hb); (try clear hb2); (try clear hk); (try clear hi)
       refine hK.out _ _ ⟨(blk_cell BK324.out 0).trans rfl, (blk_cell BK324.out 1).trans rfl, (blk_cell BK325.out 0).trans rfl, (blk_cell BK325.out 1).trans rfl⟩ (fun hHeld => ?_)
       clear hK K
       refine norm_ (a' := ?_) ?_ ?_
       rotate_left
       ·show Act.put _ (some 18) _ = _
        simp only [Act.put, List.setIfInBounds_toArray, List.set_cons_zero, List.set_cons_succ, i64_w, i32_w]
        rfl
       refine two_ (i := 9) (j := 11) (Ni := some 23) (Nj := some 6) #[true, true, true, true, true, true, true, true, true, true, false, false, false] #[true, true, true, true, true, true, true, true, true, false, false, true, false] rfl rfl rfl rfl (two_of HT_.out (by kernel_rfl)) (by decide) (by decide) (fun K hK => ?_) (fun K hK => ?_)
       ·skip
        refine goes_ Tryz.func42 (by kernel_rfl) rfl #[.string a0_1, .string a1_1] (by rfl) rfl rfl (by (try simp only [List.map_toArray, List.map_cons, List.map_nil]); try rfl) ?_
        with_reducible refine (whole_Add.calls kj2 a0_1 a1_1 t330 _ ?side1 A26.out).mono ?_
        (case side1 => exact GWorld.below HG.out (by repeat (first | (with_reducible first | exact HB.out | apply below_alloc | apply pw_below_drewN | apply below_drew1 | refine below_set ?_ GE324.out | refine below_set ?_ GE325.out | refine below_set ?_ GE326.out) | exact HB.out)))
        rintro e w32 ⟨rfl, hb⟩
        refine ⟨_, rfl, ?_⟩
        have n0_ := Aside0.mk (blk_below (g := gb324) (o := .cells #[.string a0_0, .string a0_1] 24 (0, 0)) (by (with_reducible repeat (first | refine blk_drewN ?_ _ | refine blk_drew ?_ | refine blk_alloc ?_ _)); exact BK324.out) hb)
        have n1_ := Aside0.mk (blk_below (g := gb325) (o := .cells #[.string a1_0, .string a1_1] 24 (0, 0)) (by (with_reducible repeat (first | refine blk_drewN ?_ _ | refine blk_drew ?_ | refine blk_alloc ?_ _)); exact BK325.out) hb)
        have n2_ := Aside0.mk (blk_below (g := gb326) (o := .cells #[.string (⟨#[]⟩ : ByteArray), .string (⟨#[]⟩ : ByteArray)] 24 (0, 0)) (by (with_reducible repeat (first | refine blk_drewN ?_ _ | refine blk_drew ?_ | refine blk_alloc ?_ _)); exact BK326.out) hb)
        have n3_ := Aside0.mk (below_step (by repeat (first | (with_reducible first | exact HB.out | apply below_alloc | apply pw_below_drewN | apply below_drew1 | refine below_set ?_ GE324.out | refine below_set ?_ GE325.out | refine below_set ?_ GE326.out) | exact HB.out)) hb)
        clear BK324
        clear BK325
        clear BK326
        clear HB
        have BK324 := n0_
        have BK325 := n1_
        have BK326 := n2_
        have HB := n3_
        clear n0_ n1_ n2_ n3_
        (try clear hb); (try clear hb2); (try clear hk); (try clear hi)
        refine hK.out _ _ ⟨(blk_cell BK324.out 0).trans rfl, (blk_cell BK324.out 1).trans rfl, (blk_cell BK325.out 0).trans rfl, (blk_cell BK325.out 1).trans rfl⟩ (fun hHeld => ?_)
        clear hK K
        refine norm_ (a' := ?_) ?_ ?_
        rotate_left
        ·show Act.put _ (some 23) _ = _
         simp only [Act.put, List.setIfInBounds_toArray, List.set_cons_zero, List.set_cons_succ, i64_w, i32_w]
         rfl
        refine two_ (i := 10) (j := 11) (Ni := some 24) (Nj := some 6) #[true, true, true, true, true, true, true, true, true, true, true, false, false] #[true, true, true, true, true, true, true, true, true, true, false, true, false] rfl rfl rfl rfl (two_of HT_.out (by kernel_rfl)) (by decide) (by decide) (fun K hK => ?_) (fun K hK => ?_)
        ·skip
         refine goes_ Tryz.func41 (by kernel_rfl) rfl #[.string t329, .string t330] (by rfl) rfl rfl (by (try simp only [List.map_toArray, List.map_cons, List.map_nil]); try rfl) ?_
         with_reducible refine (convergent_over.calls kj2 t329 t330 t331 t332 _ ?side1 A27.out).mono ?_
         (case side1 => exact GWorld.below HG.out (by repeat (first | (with_reducible first | exact HB.out | apply below_alloc | apply pw_below_drewN | apply below_drew1 | refine below_set ?_ GE324.out | refine below_set ?_ GE325.out | refine below_set ?_ GE326.out) | exact HB.out)))
         rintro e w33 ⟨rfl, hb⟩
         refine ⟨_, rfl, ?_⟩
         have n0_ := Aside0.mk (blk_below (g := gb324) (o := .cells #[.string a0_0, .string a0_1] 24 (0, 0)) (by (with_reducible repeat (first | refine blk_drewN ?_ _ | refine blk_drew ?_ | refine blk_alloc ?_ _)); exact BK324.out) hb)
         have n1_ := Aside0.mk (blk_below (g := gb325) (o := .cells #[.string a1_0, .string a1_1] 24 (0, 0)) (by (with_reducible repeat (first | refine blk_drewN ?_ _ | refine blk_drew ?_ | refine blk_alloc ?_ _)); exact BK325.out) hb)
         have n2_ := Aside0.mk (blk_below (g := gb326) (o := .cells #[.string (⟨#[]⟩ : ByteArray), .string (⟨#[]⟩ : ByteArray)] 24 (0, 0)) (by (with_reducible repeat (first | refine blk_drewN ?_ _ | refine blk_drew ?_ | refine blk_alloc ?_ _)); exact BK326.out) hb)
         have n3_ := Aside0.mk (below_step (by repeat (first | (with_reducible first | exact HB.out | apply below_alloc | apply pw_below_drewN | apply below_drew1 | refine below_set ?_ GE324.out | refine below_set ?_ GE325.out | refine below_set ?_ GE326.out) | exact HB.out)) hb)
         clear BK324
         clear BK325
         clear BK326
         clear HB
         have BK324 := n0_
         have BK325 := n1_
         have BK326 := n2_
         have HB := n3_
         clear n0_ n1_ n2_ n3_
         (try clear hb); (try clear hb2); (try clear hk); (try clear hi)
         refine hK.out _ _ ⟨(blk_cell BK324.out 0).trans rfl, (blk_cell BK324.out 1).trans rfl, (blk_cell BK325.out 0).trans rfl, (blk_cell BK325.out 1).trans rfl⟩ (fun hHeld => ?_)
         clear hK K
         refine norm_ (a' := ?_) ?_ ?_
         rotate_left
         ·show Act.put _ (some 24) _ = _
          simp only [Act.put, List.setIfInBounds_toArray, List.set_cons_zero, List.set_cons_succ, i64_w, i32_w]
          rfl
         refine one_ (i := 11) (N := some 6) #[true, true, true, true, true, true, true, true, true, true, true, true, false] rfl rfl (one_of HT_.out (by kernel_rfl)) (by decide) (fun K hK => ?_)
         refine box_step ?hg (N := 6) ?hd (cs := #[.string (⟨#[]⟩ : ByteArray), .string (⟨#[]⟩ : ByteArray)]) (t := 24) ?hr ?_; (case hd => rfl); (case hg => rfl); (case hr => first | (go_simp; done) | (go_simp; rfl))
         intro gb333 hg w34 hbox hb
         have n0_ := Aside0.mk (blk_below (g := gb324) (o := .cells #[.string a0_0, .string a0_1] 24 (0, 0)) (by (with_reducible repeat (first | refine blk_drewN ?_ _ | refine blk_drew ?_ | refine blk_alloc ?_ _)); exact BK324.out) hb)
         have n1_ := Aside0.mk (blk_below (g := gb325) (o := .cells #[.string a1_0, .string a1_1] 24 (0, 0)) (by (with_reducible repeat (first | refine blk_drewN ?_ _ | refine blk_drew ?_ | refine blk_alloc ?_ _)); exact BK325.out) hb)
         have n2_ := Aside0.mk (blk_below (g := gb326) (o := .cells #[.string (⟨#[]⟩ : ByteArray), .string (⟨#[]⟩ : ByteArray)] 24 (0, 0)) (by (with_reducible repeat (first | refine blk_drewN ?_ _ | refine blk_drew ?_ | refine blk_alloc ?_ _)); exact BK326.out) hb)
         have n3_ := Aside0.mk (below_step (by repeat (first | (with_reducible first | exact HB.out | apply below_alloc | apply pw_below_drewN | apply below_drew1 | refine below_set ?_ GE324.out | refine below_set ?_ GE325.out | refine below_set ?_ GE326.out) | exact HB.out)) hb)
         have n4_ := Aside0.mk (hbox)
         have n5_ := Aside0.mk ((by rw [hg]; exact (below_size (by repeat (first | (with_reducible first | exact HB.out | apply below_alloc | apply pw_below_drewN | apply below_drew1 | refine below_set ?_ GE324.out | refine below_set ?_ GE325.out | refine below_set ?_ GE326.out) | exact HB.out))) : w.heap.size ≤ gb333))
         have n6_ := Aside0.mk ((by rw [hg]; exact (below_size (by repeat (first | (with_reducible first | exact HB.out | apply below_alloc | apply pw_below_drewN | apply below_drew1 | refine below_set ?_ GE324.out | refine below_set ?_ GE325.out | refine below_set ?_ GE326.out) | exact HB.out))) : w.heap.size ≤ gb333))
         have n7_ := Aside0.mk ((by rw [hg]; exact Nat.ne_of_lt (blk_lt (g := gb324) (o := .cells #[.string a0_0, .string a0_1] 24 (0, 0)) (by (with_reducible repeat (first | refine blk_drewN ?_ _ | refine blk_drew ?_ | refine blk_alloc ?_ _)); exact BK324.out)) : gb324 ≠ gb333))
         have n8_ := Aside0.mk ((by rw [hg]; exact Nat.ne_of_gt (blk_lt (g := gb324) (o := .cells #[.string a0_0, .string a0_1] 24 (0, 0)) (by (with_reducible repeat (first | refine blk_drewN ?_ _ | refine blk_drew ?_ | refine blk_alloc ?_ _)); exact BK324.out)) : gb333 ≠ gb324))
         have n9_ := Aside0.mk ((by rw [hg]; exact Nat.ne_of_lt (blk_lt (g := gb325) (o := .cells #[.string a1_0, .string a1_1] 24 (0, 0)) (by (with_reducible repeat (first | refine blk_drewN ?_ _ | refine blk_drew ?_ | refine blk_alloc ?_ _)); exact BK325.out)) : gb325 ≠ gb333))
         have n10_ := Aside0.mk ((by rw [hg]; exact Nat.ne_of_gt (blk_lt (g := gb325) (o := .cells #[.string a1_0, .string a1_1] 24 (0, 0)) (by (with_reducible repeat (first | refine blk_drewN ?_ _ | refine blk_drew ?_ | refine blk_alloc ?_ _)); exact BK325.out)) : gb333 ≠ gb325))
         have n11_ := Aside0.mk ((by rw [hg]; exact Nat.ne_of_lt (blk_lt (g := gb326) (o := .cells #[.string (⟨#[]⟩ : ByteArray), .string (⟨#[]⟩ : ByteArray)] 24 (0, 0)) (by (with_reducible repeat (first | refine blk_drewN ?_ _ | refine blk_drew ?_ | refine blk_alloc ?_ _)); exact BK326.out)) : gb326 ≠ gb333))
         have n12_ := Aside0.mk ((by rw [hg]; exact Nat.ne_of_gt (blk_lt (g := gb326) (o := .cells #[.string (⟨#[]⟩ : ByteArray), .string (⟨#[]⟩ : ByteArray)] 24 (0, 0)) (by (with_reducible repeat (first | refine blk_drewN ?_ _ | refine blk_drew ?_ | refine blk_alloc ?_ _)); exact BK326.out)) : gb333 ≠ gb326))
         clear BK324
         clear BK325
         clear BK326
         clear HB
         have BK324 := n0_
         have BK325 := n1_
         have BK326 := n2_
         have HB := n3_
         have BK333 := n4_
         have GW333 := n5_
         have GE333 := n6_
         have NB324_333 := n7_
         have NB333_324 := n8_
         have NB325_333 := n9_
         have NB333_325 := n10_
         have NB326_333 := n11_
         have NB333_326 := n12_
         clear n0_ n1_ n2_ n3_ n4_ n5_ n6_ n7_ n8_ n9_ n10_ n11_ n12_
         clear hb hbox hg
         refine hK.out _ _ ⟨(blk_cell BK324.out 0).trans rfl, (blk_cell BK324.out 1).trans rfl, (blk_cell BK325.out 0).trans rfl, (blk_cell BK325.out 1).trans rfl⟩ (fun hHeld => ?_)
         clear hK K
         refine norm_ (a' := ?_) ?_ ?_
         rotate_left
         ·show Act.put _ (some 6) _ = _
          simp only [Act.put, List.setIfInBounds_toArray, List.set_cons_zero, List.set_cons_succ, i64_w, i32_w]
          rfl
         exact norm_ (by simp only [putAll, Act.put, List.setIfInBounds_toArray, List.set_cons_zero, List.set_cons_succ]) (hCont (gb333) _ ⟨hHeld, (by (with_reducible repeat (first | refine blk_drewN ?_ _ | refine blk_drew ?_ | refine blk_alloc ?_ _)); exact BK324.out), (by (with_reducible repeat (first | refine blk_drewN ?_ _ | refine blk_drew ?_ | refine blk_alloc ?_ _)); exact BK325.out), (by (with_reducible repeat (first | refine blk_drewN ?_ _ | refine blk_drew ?_ | refine blk_alloc ?_ _)); exact BK326.out), (by (with_reducible repeat (first | refine blk_drewN ?_ _ | refine blk_drew ?_ | refine blk_alloc ?_ _)); exact BK333.out), GW333.out, GE333.out, NB324_333.out, NB333_324.out, NB325_333.out, NB333_325.out, NB326_333.out, NB333_326.out, (by repeat (first | (with_reducible first | exact HB.out | apply below_alloc | apply pw_below_drewN | apply below_drew1 | refine below_set ?_ GE324.out | refine below_set ?_ GE325.out | refine below_set ?_ GE326.out | refine below_set ?_ GE333.out) | exact HB.out))⟩)
        ·skip
         refine box_step ?hg (N := 6) ?hd (cs := #[.string (⟨#[]⟩ : ByteArray), .string (⟨#[]⟩ : ByteArray)]) (t := 24) ?hr ?_; (case hd => rfl); (case hg => rfl); (case hr => first | (go_simp; done) | (go_simp; rfl))
         intro gb333 hg w33 hbox hb
         have n0_ := Aside0.mk (blk_below (g := gb324) (o := .cells #[.string a0_0, .string a0_1] 24 (0, 0)) (by (with_reducible repeat (first | refine blk_drewN ?_ _ | refine blk_drew ?_ | refine blk_alloc ?_ _)); exact BK324.out) hb)
         have n1_ := Aside0.mk (blk_below (g := gb325) (o := .cells #[.string a1_0, .string a1_1] 24 (0, 0)) (by (with_reducible repeat (first | refine blk_drewN ?_ _ | refine blk_drew ?_ | refine blk_alloc ?_ _)); exact BK325.out) hb)
         have n2_ := Aside0.mk (blk_below (g := gb326) (o := .cells #[.string (⟨#[]⟩ : ByteArray), .string (⟨#[]⟩ : ByteArray)] 24 (0, 0)) (by (with_reducible repeat (first | refine blk_drewN ?_ _ | refine blk_drew ?_ | refine blk_alloc ?_ _)); exact BK326.out) hb)
         have n3_ := Aside0.mk (below_step (by repeat (first | (with_reducible first | exact HB.out | apply below_alloc | apply pw_below_drewN | apply below_drew1 | refine below_set ?_ GE324.out | refine below_set ?_ GE325.out | refine below_set ?_ GE326.out) | exact HB.out)) hb)
         have n4_ := Aside0.mk (hbox)
         have n5_ := Aside0.mk ((by rw [hg]; exact (below_size (by repeat (first | (with_reducible first | exact HB.out | apply below_alloc | apply pw_below_drewN | apply below_drew1 | refine below_set ?_ GE324.out | refine below_set ?_ GE325.out | refine below_set ?_ GE326.out) | exact HB.out))) : w.heap.size ≤ gb333))
         have n6_ := Aside0.mk ((by rw [hg]; exact (below_size (by repeat (first | (with_reducible first | exact HB.out | apply below_alloc | apply pw_below_drewN | apply below_drew1 | refine below_set ?_ GE324.out | refine below_set ?_ GE325.out | refine below_set ?_ GE326.out) | exact HB.out))) : w.heap.size ≤ gb333))
         have n7_ := Aside0.mk ((by rw [hg]; exact Nat.ne_of_lt (blk_lt (g := gb324) (o := .cells #[.string a0_0, .string a0_1] 24 (0, 0)) (by (with_reducible repeat (first | refine blk_drewN ?_ _ | refine blk_drew ?_ | refine blk_alloc ?_ _)); exact BK324.out)) : gb324 ≠ gb333))
         have n8_ := Aside0.mk ((by rw [hg]; exact Nat.ne_of_gt (blk_lt (g := gb324) (o := .cells #[.string a0_0, .string a0_1] 24 (0, 0)) (by (with_reducible repeat (first | refine blk_drewN ?_ _ | refine blk_drew ?_ | refine blk_alloc ?_ _)); exact BK324.out)) : gb333 ≠ gb324))
         have n9_ := Aside0.mk ((by rw [hg]; exact Nat.ne_of_lt (blk_lt (g := gb325) (o := .cells #[.string a1_0, .string a1_1] 24 (0, 0)) (by (with_reducible repeat (first | refine blk_drewN ?_ _ | refine blk_drew ?_ | refine blk_alloc ?_ _)); exact BK325.out)) : gb325 ≠ gb333))
         have n10_ := Aside0.mk ((by rw [hg]; exact Nat.ne_of_gt (blk_lt (g := gb325) (o := .cells #[.string a1_0, .string a1_1] 24 (0, 0)) (by (with_reducible repeat (first | refine blk_drewN ?_ _ | refine blk_drew ?_ | refine blk_alloc ?_ _)); exact BK325.out)) : gb333 ≠ gb325))
         have n11_ := Aside0.mk ((by rw [hg]; exact Nat.ne_of_lt (blk_lt (g := gb326) (o := .cells #[.string (⟨#[]⟩ : ByteArray), .string (⟨#[]⟩ : ByteArray)] 24 (0, 0)) (by (with_reducible repeat (first | refine blk_drewN ?_ _ | refine blk_drew ?_ | refine blk_alloc ?_ _)); exact BK326.out)) : gb326 ≠ gb333))
         have n12_ := Aside0.mk ((by rw [hg]; exact Nat.ne_of_gt (blk_lt (g := gb326) (o := .cells #[.string (⟨#[]⟩ : ByteArray), .string (⟨#[]⟩ : ByteArray)] 24 (0, 0)) (by (with_reducible repeat (first | refine blk_drewN ?_ _ | refine blk_drew ?_ | refine blk_alloc ?_ _)); exact BK326.out)) : gb333 ≠ gb326))
         clear BK324
         clear BK325
         clear BK326
         clear HB
         have BK324 := n0_
         have BK325 := n1_
         have BK326 := n2_
         have HB := n3_
         have BK333 := n4_
         have GW333 := n5_
         have GE333 := n6_
         have NB324_333 := n7_
         have NB333_324 := n8_
         have NB325_333 := n9_
         have NB333_325 := n10_
         have NB326_333 := n11_
         have NB333_326 := n12_
         clear n0_ n1_ n2_ n3_ n4_ n5_ n6_ n7_ n8_ n9_ n10_ n11_ n12_
         clear hb hbox hg
         refine hK.out _ _ ⟨(blk_cell BK324.out 0).trans rfl, (blk_cell BK324.out 1).trans rfl, (blk_cell BK325.out 0).trans rfl, (blk_cell BK325.out 1).trans rfl⟩ (fun hHeld => ?_)
         clear hK K
         refine norm_ (a' := ?_) ?_ ?_
         rotate_left
         ·show Act.put _ (some 6) _ = _
          simp only [Act.put, List.setIfInBounds_toArray, List.set_cons_zero, List.set_cons_succ, i64_w, i32_w]
          rfl
         refine one_ (i := 10) (N := some 24) #[true, true, true, true, true, true, true, true, true, true, true, true, false] rfl rfl (one_of HT_.out (by kernel_rfl)) (by decide) (fun K hK => ?_)
         refine goes_ Tryz.func41 (by kernel_rfl) rfl #[.string t329, .string t330] (by rfl) rfl rfl (by (try simp only [List.map_toArray, List.map_cons, List.map_nil]); try rfl) ?_
         with_reducible refine (convergent_over.calls kj2 t329 t330 t331 t332 _ ?side1 A27.out).mono ?_
         (case side1 => exact GWorld.below HG.out (by repeat (first | (with_reducible first | exact HB.out | apply below_alloc | apply pw_below_drewN | apply below_drew1 | refine below_set ?_ GE324.out | refine below_set ?_ GE325.out | refine below_set ?_ GE326.out | refine below_set ?_ GE333.out) | exact HB.out)))
         rintro e w34 ⟨rfl, hb⟩
         refine ⟨_, rfl, ?_⟩
         have n0_ := Aside0.mk (blk_below (g := gb324) (o := .cells #[.string a0_0, .string a0_1] 24 (0, 0)) (by (with_reducible repeat (first | refine blk_drewN ?_ _ | refine blk_drew ?_ | refine blk_alloc ?_ _)); exact BK324.out) hb)
         have n1_ := Aside0.mk (blk_below (g := gb325) (o := .cells #[.string a1_0, .string a1_1] 24 (0, 0)) (by (with_reducible repeat (first | refine blk_drewN ?_ _ | refine blk_drew ?_ | refine blk_alloc ?_ _)); exact BK325.out) hb)
         have n2_ := Aside0.mk (blk_below (g := gb326) (o := .cells #[.string (⟨#[]⟩ : ByteArray), .string (⟨#[]⟩ : ByteArray)] 24 (0, 0)) (by (with_reducible repeat (first | refine blk_drewN ?_ _ | refine blk_drew ?_ | refine blk_alloc ?_ _)); exact BK326.out) hb)
         have n3_ := Aside0.mk (blk_below (g := gb333) (o := .cells #[.string (⟨#[]⟩ : ByteArray), .string (⟨#[]⟩ : ByteArray)] 24 (0, 0)) (by (with_reducible repeat (first | refine blk_drewN ?_ _ | refine blk_drew ?_ | refine blk_alloc ?_ _)); exact BK333.out) hb)
         have n4_ := Aside0.mk (below_step (by repeat (first | (with_reducible first | exact HB.out | apply below_alloc | apply pw_below_drewN | apply below_drew1 | refine below_set ?_ GE324.out | refine below_set ?_ GE325.out | refine below_set ?_ GE326.out | refine below_set ?_ GE333.out) | exact HB.out)) hb)
         clear BK324
         clear BK325
         clear BK326
         clear BK333
         clear HB
         have BK324 := n0_
         have BK325 := n1_
         have BK326 := n2_
         have BK333 := n3_
         have HB := n4_
         clear n0_ n1_ n2_ n3_ n4_
         (try clear hb); (try clear hb2); (try clear hk); (try clear hi)
         refine hK.out _ _ ⟨(blk_cell BK324.out 0).trans rfl, (blk_cell BK324.out 1).trans rfl, (blk_cell BK325.out 0).trans rfl, (blk_cell BK325.out 1).trans rfl⟩ (fun hHeld => ?_)
         clear hK K
         refine norm_ (a' := ?_) ?_ ?_
         rotate_left
         ·show Act.put _ (some 24) _ = _
          simp only [Act.put, List.setIfInBounds_toArray, List.set_cons_zero, List.set_cons_succ, i64_w, i32_w]
          rfl
         exact norm_ (by simp only [putAll, Act.put, List.setIfInBounds_toArray, List.set_cons_zero, List.set_cons_succ]) (hCont (gb333) _ ⟨hHeld, (by (with_reducible repeat (first | refine blk_drewN ?_ _ | refine blk_drew ?_ | refine blk_alloc ?_ _)); exact BK324.out), (by (with_reducible repeat (first | refine blk_drewN ?_ _ | refine blk_drew ?_ | refine blk_alloc ?_ _)); exact BK325.out), (by (with_reducible repeat (first | refine blk_drewN ?_ _ | refine blk_drew ?_ | refine blk_alloc ?_ _)); exact BK326.out), (by (with_reducible repeat (first | refine blk_drewN ?_ _ | refine blk_drew ?_ | refine blk_alloc ?_ _)); exact BK333.out), GW333.out, GE333.out, NB324_333.out, NB333_324.out, NB325_333.out, NB333_325.out, NB326_333.out, NB333_326.out, (by repeat (first | (with_reducible first | exact HB.out | apply below_alloc | apply pw_below_drewN | apply below_drew1 | refine below_set ?_ GE324.out | refine below_set ?_ GE325.out | refine below_set ?_ GE326.out | refine below_set ?_ GE333.out) | exact HB.out))⟩)
       ·skip
        refine box_step ?hg (N := 6) ?hd (cs := #[.string (⟨#[]⟩ : ByteArray), .string (⟨#[]⟩ : ByteArray)]) (t := 24) ?hr ?_; (case hd => rfl); (case hg => rfl); (case hr => first | (go_simp; done) | (go_simp; rfl))
        intro gb333 hg w32 hbox hb
        have n0_ := Aside0.mk (blk_below (g := gb324) (o := .cells #[.string a0_0, .string a0_1] 24 (0, 0)) (by (with_reducible repeat (first | refine blk_drewN ?_ _ | refine blk_drew ?_ | refine blk_alloc ?_ _)); exact BK324.out) hb)
        have n1_ := Aside0.mk (blk_below (g := gb325) (o := .cells #[.string a1_0, .string a1_1] 24 (0, 0)) (by (with_reducible repeat (first | refine blk_drewN ?_ _ | refine blk_drew ?_ | refine blk_alloc ?_ _)); exact BK325.out) hb)
        have n2_ := Aside0.mk (blk_below (g := gb326) (o := .cells #[.string (⟨#[]⟩ : ByteArray), .string (⟨#[]⟩ : ByteArray)] 24 (0, 0)) (by (with_reducible repeat (first | refine blk_drewN ?_ _ | refine blk_drew ?_ | refine blk_alloc ?_ _)); exact BK326.out) hb)
        have n3_ := Aside0.mk (below_step (by repeat (first | (with_reducible first | exact HB.out | apply below_alloc | apply pw_below_drewN | apply below_drew1 | refine below_set ?_ GE324.out | refine below_set ?_ GE325.out | refine below_set ?_ GE326.out) | exact HB.out)) hb)
        have n4_ := Aside0.mk (hbox)
        have n5_ := Aside0.mk ((by rw [hg]; exact (below_size (by repeat (first | (with_reducible first | exact HB.out | apply below_alloc | apply pw_below_drewN | apply below_drew1 | refine below_set ?_ GE324.out | refine below_set ?_ GE325.out | refine below_set ?_ GE326.out) | exact HB.out))) : w.heap.size ≤ gb333))
        have n6_ := Aside0.mk ((by rw [hg]; exact (below_size (by repeat (first | (with_reducible first | exact HB.out | apply below_alloc | apply pw_below_drewN | apply below_drew1 | refine below_set ?_ GE324.out | refine below_set ?_ GE325.out | refine below_set ?_ GE326.out) | exact HB.out))) : w.heap.size ≤ gb333))
        have n7_ := Aside0.mk ((by rw [hg]; exact Nat.ne_of_lt (blk_lt (g := gb324) (o := .cells #[.string a0_0, .string a0_1] 24 (0, 0)) (by (with_reducible repeat (first | refine blk_drewN ?_ _ | refine blk_drew ?_ | refine blk_alloc ?_ _)); exact BK324.out)) : gb324 ≠ gb333))
        have n8_ := Aside0.mk ((by rw [hg]; exact Nat.ne_of_gt (blk_lt (g := gb324) (o := .cells #[.string a0_0, .string a0_1] 24 (0, 0)) (by (with_reducible repeat (first | refine blk_drewN ?_ _ | refine blk_drew ?_ | refine blk_alloc ?_ _)); exact BK324.out)) : gb333 ≠ gb324))
        have n9_ := Aside0.mk ((by rw [hg]; exact Nat.ne_of_lt (blk_lt (g := gb325) (o := .cells #[.string a1_0, .string a1_1] 24 (0, 0)) (by (with_reducible repeat (first | refine blk_drewN ?_ _ | refine blk_drew ?_ | refine blk_alloc ?_ _)); exact BK325.out)) : gb325 ≠ gb333))
        have n10_ := Aside0.mk ((by rw [hg]; exact Nat.ne_of_gt (blk_lt (g := gb325) (o := .cells #[.string a1_0, .string a1_1] 24 (0, 0)) (by (with_reducible repeat (first | refine blk_drewN ?_ _ | refine blk_drew ?_ | refine blk_alloc ?_ _)); exact BK325.out)) : gb333 ≠ gb325))
        have n11_ := Aside0.mk ((by rw [hg]; exact Nat.ne_of_lt (blk_lt (g := gb326) (o := .cells #[.string (⟨#[]⟩ : ByteArray), .string (⟨#[]⟩ : ByteArray)] 24 (0, 0)) (by (with_reducible repeat (first | refine blk_drewN ?_ _ | refine blk_drew ?_ | refine blk_alloc ?_ _)); exact BK326.out)) : gb326 ≠ gb333))
        have n12_ := Aside0.mk ((by rw [hg]; exact Nat.ne_of_gt (blk_lt (g := gb326) (o := .cells #[.string (⟨#[]⟩ : ByteArray), .string (⟨#[]⟩ : ByteArray)] 24 (0, 0)) (by (with_reducible repeat (first | refine blk_drewN ?_ _ | refine blk_drew ?_ | refine blk_alloc ?_ _)); exact BK326.out)) : gb333 ≠ gb326))
        clear BK324
        clear BK325
        clear BK326
        clear HB
        have BK324 := n0_
        have BK325 := n1_
        have BK326 := n2_
        have HB := n3_
        have BK333 := n4_
        have GW333 := n5_
        have GE333 := n6_
        have NB324_333 := n7_
        have NB333_324 := n8_
        have NB325_333 := n9_
        have NB333_325 := n10_
        have NB326_333 := n11_
        have NB333_326 := n12_
        clear n0_ n1_ n2_ n3_ n4_ n5_ n6_ n7_ n8_ n9_ n10_ n11_ n12_
        clear hb hbox hg
        refine hK.out _ _ ⟨(blk_cell BK324.out 0).trans rfl, (blk_cell BK324.out 1).trans rfl, (blk_cell BK325.out 0).trans rfl, (blk_cell BK325.out 1).trans rfl⟩ (fun hHeld => ?_)
        clear hK K
        refine norm_ (a' := ?_) ?_ ?_
        rotate_left
        ·show Act.put _ (some 6) _ = _
         simp only [Act.put, List.setIfInBounds_toArray, List.set_cons_zero, List.set_cons_succ, i64_w, i32_w]
         rfl
        refine one_ (i := 9) (N := some 23) #[true, true, true, true, true, true, true, true, true, true, false, true, false] rfl rfl (one_of HT_.out (by kernel_rfl)) (by decide) (fun K hK => ?_)
        refine goes_ Tryz.func42 (by kernel_rfl) rfl #[.string a0_1, .string a1_1] (by rfl) rfl rfl (by (try simp only [List.map_toArray, List.map_cons, List.map_nil]); try rfl) ?_
        with_reducible refine (whole_Add.calls kj2 a0_1 a1_1 t330 _ ?side1 A26.out).mono ?_
        (case side1 => exact GWorld.below HG.out (by repeat (first | (with_reducible first | exact HB.out | apply below_alloc | apply pw_below_drewN | apply below_drew1 | refine below_set ?_ GE324.out | refine below_set ?_ GE325.out | refine below_set ?_ GE326.out | refine below_set ?_ GE333.out) | exact HB.out)))
        rintro e w33 ⟨rfl, hb⟩
        refine ⟨_, rfl, ?_⟩
        have n0_ := Aside0.mk (blk_below (g := gb324) (o := .cells #[.string a0_0, .string a0_1] 24 (0, 0)) (by (with_reducible repeat (first | refine blk_drewN ?_ _ | refine blk_drew ?_ | refine blk_alloc ?_ _)); exact BK324.out) hb)
        have n1_ := Aside0.mk (blk_below (g := gb325) (o := .cells #[.string a1_0, .string a1_1] 24 (0, 0)) (by (with_reducible repeat (first | refine blk_drewN ?_ _ | refine blk_drew ?_ | refine blk_alloc ?_ _)); exact BK325.out) hb)
        have n2_ := Aside0.mk (blk_below (g := gb326) (o := .cells #[.string (⟨#[]⟩ : ByteArray), .string (⟨#[]⟩ : ByteArray)] 24 (0, 0)) (by (with_reducible repeat (first | refine blk_drewN ?_ _ | refine blk_drew ?_ | refine blk_alloc ?_ _)); exact BK326.out) hb)
        have n3_ := Aside0.mk (blk_below (g := gb333) (o := .cells #[.string (⟨#[]⟩ : ByteArray), .string (⟨#[]⟩ : ByteArray)] 24 (0, 0)) (by (with_reducible repeat (first | refine blk_drewN ?_ _ | refine blk_drew ?_ | refine blk_alloc ?_ _)); exact BK333.out) hb)
        have n4_ := Aside0.mk (below_step (by repeat (first | (with_reducible first | exact HB.out | apply below_alloc | apply pw_below_drewN | apply below_drew1 | refine below_set ?_ GE324.out | refine below_set ?_ GE325.out | refine below_set ?_ GE326.out | refine below_set ?_ GE333.out) | exact HB.out)) hb)
        clear BK324
        clear BK325
        clear BK326
        clear BK333
        clear HB
        have BK324 := n0_
        have BK325 := n1_
        have BK326 := n2_
        have BK333 := n3_
        have HB := n4_
        clear n0_ n1_ n2_ n3_ n4_
        (try clear hb); (try clear hb2); (try clear hk); (try clear hi)
        refine hK.out _ _ ⟨(blk_cell BK324.out 0).trans rfl, (blk_cell BK324.out 1).trans rfl, (blk_cell BK325.out 0).trans rfl, (blk_cell BK325.out 1).trans rfl⟩ (fun hHeld => ?_)
        clear hK K
        refine norm_ (a' := ?_) ?_ ?_
        rotate_left
        ·show Act.put _ (some 23) _ = _
         simp only [Act.put, List.setIfInBounds_toArray, List.set_cons_zero, List.set_cons_succ, i64_w, i32_w]
         rfl
        refine one_ (i := 10) (N := some 24) #[true, true, true, true, true, true, true, true, true, true, true, true, false] rfl rfl (one_of HT_.out (by kernel_rfl)) (by decide) (fun K hK => ?_)
        refine goes_ Tryz.func41 (by kernel_rfl) rfl #[.string t329, .string t330] (by rfl) rfl rfl (by (try simp only [List.map_toArray, List.map_cons, List.map_nil]); try rfl) ?_
        with_reducible refine (convergent_over.calls kj2 t329 t330 t331 t332 _ ?side1 A27.out).mono ?_
        (case side1 => exact GWorld.below HG.out (by repeat (first | (with_reducible first | exact HB.out | apply below_alloc | apply pw_below_drewN | apply below_drew1 | refine below_set ?_ GE324.out | refine below_set ?_ GE325.out | refine below_set ?_ GE326.out | refine below_set ?_ GE333.out) | exact HB.out)))
        rintro e w34 ⟨rfl, hb⟩
        refine ⟨_, rfl, ?_⟩
        have n0_ := Aside0.mk (blk_below (g := gb324) (o := .cells #[.string a0_0, .string a0_1] 24 (0, 0)) (by (with_reducible repeat (first | refine blk_drewN ?_ _ | refine blk_drew ?_ | refine blk_alloc ?_ _)); exact BK324.out) hb)
        have n1_ := Aside0.mk (blk_below (g := gb325) (o := .cells #[.string a1_0, .string a1_1] 24 (0, 0)) (by (with_reducible repeat (first | refine blk_drewN ?_ _ | refine blk_drew ?_ | refine blk_alloc ?_ _)); exact BK325.out) hb)
        have n2_ := Aside0.mk (blk_below (g := gb326) (o := .cells #[.string (⟨#[]⟩ : ByteArray), .string (⟨#[]⟩ : ByteArray)] 24 (0, 0)) (by (with_reducible repeat (first | refine blk_drewN ?_ _ | refine blk_drew ?_ | refine blk_alloc ?_ _)); exact BK326.out) hb)
        have n3_ := Aside0.mk (blk_below (g := gb333) (o := .cells #[.string (⟨#[]⟩ : ByteArray), .string (⟨#[]⟩ : ByteArray)] 24 (0, 0)) (by (with_reducible repeat (first | refine blk_drewN ?_ _ | refine blk_drew ?_ | refine blk_alloc ?_ _)); exact BK333.out) hb)
        have n4_ := Aside0.mk (below_step (by repeat (first | (with_reducible first | exact HB.out | apply below_alloc | apply pw_below_drewN | apply below_drew1 | refine below_set ?_ GE324.out | refine below_set ?_ GE325.out | refine below_set ?_ GE326.out | refine below_set ?_ GE333.out) | exact HB.out)) hb)
        clear BK324
        clear BK325
        clear BK326
        clear BK333
        clear HB
        have BK324 := n0_
        have BK325 := n1_
        have BK326 := n2_
        have BK333 := n3_
        have HB := n4_
        clear n0_ n1_ n2_ n3_ n4_
        (try clear hb); (try clear hb2); (try clear hk); (try clear hi)
        refine hK.out _ _ ⟨(blk_cell BK324.out 0).trans rfl, (blk_cell BK324.out 1).trans rfl, (blk_cell BK325.out 0).trans rfl, (blk_cell BK325.out 1).trans rfl⟩ (fun hHeld => ?_)
        clear hK K
        refine norm_ (a' := ?_) ?_ ?_
        rotate_left
        ·show Act.put _ (some 24) _ = _
         simp only [Act.put, List.setIfInBounds_toArray, List.set_cons_zero, List.set_cons_succ, i64_w, i32_w]
         rfl
        exact norm_ (by simp only [putAll, Act.put, List.setIfInBounds_toArray, List.set_cons_zero, List.set_cons_succ]) (hCont (gb333) _ ⟨hHeld, (by (with_reducible repeat (first | refine blk_drewN ?_ _ | refine blk_drew ?_ | refine blk_alloc ?_ _)); exact BK324.out), (by (with_reducible repeat (first | refine blk_drewN ?_ _ | refine blk_drew ?_ | refine blk_alloc ?_ _)); exact BK325.out), (by (with_reducible repeat (first | refine blk_drewN ?_ _ | refine blk_drew ?_ | refine blk_alloc ?_ _)); exact BK326.out), (by (with_reducible repeat (first | refine blk_drewN ?_ _ | refine blk_drew ?_ | refine blk_alloc ?_ _)); exact BK333.out), GW333.out, GE333.out, NB324_333.out, NB333_324.out, NB325_333.out, NB333_325.out, NB326_333.out, NB333_326.out, (by repeat (first | (with_reducible first | exact HB.out | apply below_alloc | apply pw_below_drewN | apply below_drew1 | refine below_set ?_ GE324.out | refine below_set ?_ GE325.out | refine below_set ?_ GE326.out | refine below_set ?_ GE333.out) | exact HB.out))⟩)
      ·skip
       refine box_step ?hg (N := 6) ?hd (cs := #[.string (⟨#[]⟩ : ByteArray), .string (⟨#[]⟩ : ByteArray)]) (t := 24) ?hr ?_; (case hd => rfl); (case hg => rfl); (case hr => first | (go_simp; done) | (go_simp; rfl))
       intro gb333 hg w31 hbox hb
       have n0_ := Aside0.mk (blk_below (g := gb324) (o := .cells #[.string a0_0, .string a0_1] 24 (0, 0)) (by (with_reducible repeat (first | refine blk_drewN ?_ _ | refine blk_drew ?_ | refine blk_alloc ?_ _)); exact BK324.out) hb)
       have n1_ := Aside0.mk (blk_below (g := gb325) (o := .cells #[.string a1_0, .string a1_1] 24 (0, 0)) (by (with_reducible repeat (first | refine blk_drewN ?_ _ | refine blk_drew ?_ | refine blk_alloc ?_ _)); exact BK325.out) hb)
       have n2_ := Aside0.mk (blk_below (g := gb326) (o := .cells #[.string (⟨#[]⟩ : ByteArray), .string (⟨#[]⟩ : ByteArray)] 24 (0, 0)) (by (with_reducible repeat (first | refine blk_drewN ?_ _ | refine blk_drew ?_ | refine blk_alloc ?_ _)); exact BK326.out) hb)
       have n3_ := Aside0.mk (below_step (by repeat (first | (with_reducible first | exact HB.out | apply below_alloc | apply pw_below_drewN | apply below_drew1 | refine below_set ?_ GE324.out | refine below_set ?_ GE325.out | refine below_set ?_ GE326.out) | exact HB.out)) hb)
       have n4_ := Aside0.mk (hbox)
       have n5_ := Aside0.mk ((by rw [hg]; exact (below_size (by repeat (first | (with_reducible first | exact HB.out | apply below_alloc | apply pw_below_drewN | apply below_drew1 | refine below_set ?_ GE324.out | refine below_set ?_ GE325.out | refine below_set ?_ GE326.out) | exact HB.out))) : w.heap.size ≤ gb333))
       have n6_ := Aside0.mk ((by rw [hg]; exact (below_size (by repeat (first | (with_reducible first | exact HB.out | apply below_alloc | apply pw_below_drewN | apply below_drew1 | refine below_set ?_ GE324.out | refine below_set ?_ GE325.out | refine below_set ?_ GE326.out) | exact HB.out))) : w.heap.size ≤ gb333))
       have n7_ := Aside0.mk ((by rw [hg]; exact Nat.ne_of_lt (blk_lt (g := gb324) (o := .cells #[.string a0_0, .string a0_1] 24 (0, 0)) (by (with_reducible repeat (first | refine blk_drewN ?_ _ | refine blk_drew ?_ | refine blk_alloc ?_ _)); exact BK324.out)) : gb324 ≠ gb333))
       have n8_ := Aside0.mk ((by rw [hg]; exact Nat.ne_of_gt (blk_lt (g := gb324) (o := .cells #[.string a0_0, .string a0_1] 24 (0, 0)) (by (with_reducible repeat (first | refine blk_drewN ?_ _ | refine blk_drew ?_ | refine blk_alloc ?_ _)); exact BK324.out)) : gb333 ≠ gb324))
       have n9_ := Aside0.mk ((by rw [hg]; exact Nat.ne_of_lt (blk_lt (g := gb325) (o := .cells #[.string a1_0, .string a1_1] 24 (0, 0)) (by (with_reducible repeat (first | refine blk_drewN ?_ _ | refine blk_drew ?_ | refine blk_alloc ?_ _)); exact BK325.out)) : gb325 ≠ gb333))
       have n10_ := Aside0.mk ((by rw [hg]; exact Nat.ne_of_gt (blk_lt (g := gb325) (o := .cells #[.string a1_0, .string a1_1] 24 (0, 0)) (by (with_reducible repeat (first | refine blk_drewN ?_ _ | refine blk_drew ?_ | refine blk_alloc ?_ _)); exact BK325.out)) : gb333 ≠ gb325))
       have n11_ := Aside0.mk ((by rw [hg]; exact Nat.ne_of_lt (blk_lt (g := gb326) (o := .cells #[.string (⟨#[]⟩ : ByteArray), .string (⟨#[]⟩ : ByteArray)] 24 (0, 0)) (by (with_reducible repeat (first | refine blk_drewN ?_ _ | refine blk_drew ?_ | refine blk_alloc ?_ _)); exact BK326.out)) : gb326 ≠ gb333))
       have n12_ := Aside0.mk ((by rw [hg]; exact Nat.ne_of_gt (blk_lt (g := gb326) (o := .cells #[.string (⟨#[]⟩ : ByteArray), .string (⟨#[]⟩ : ByteArray)] 24 (0, 0)) (by (with_reducible repeat (first | refine blk_drewN ?_ _ | refine blk_drew ?_ | refine blk_alloc ?_ _)); exact BK326.out)) : gb333 ≠ gb326))
       clear BK324
       clear BK325
       clear BK326
       clear HB
       have BK324 := n0_
       have BK325 := n1_
       have BK326 := n2_
       have HB := n3_
       have BK333 := n4_
       have GW333 := n5_
       have GE333 := n6_
       have NB324_333 := n7_
       have NB333_324 := n8_
       have NB325_333 := n9_
       have NB333_325 := n10_
       have NB326_333 := n11_
       have NB333_326 := n12_
       clear n0_ n1_ n2_ n3_ n4_ n5_ n6_ n7_ n8_ n9_ n10_ n11_ n12_
       clear hb hbox hg
       refine hK.out _ _ ⟨(blk_cell BK324.out 0).trans rfl, (blk_cell BK324.out 1).trans rfl, (blk_cell BK325.out 0).trans rfl, (blk_cell BK325.out 1).trans rfl⟩ (fun hHeld => ?_)
       clear hK K
       refine norm_ (a' := ?_) ?_ ?_
       rotate_left
       ·show Act.put _ (some 6) _ = _
        simp only [Act.put, List.setIfInBounds_toArray, List.set_cons_zero, List.set_cons_succ, i64_w, i32_w]
        rfl
       refine one_ (i := 4) (N := some 18) #[true, true, true, true, true, true, true, true, true, false, false, true, false] rfl rfl (one_of HT_.out (by kernel_rfl)) (by decide) (fun K hK => ?_)
       refine goes_ Tryz.func42 (by kernel_rfl) rfl #[.string a0_0, .string a1_0] (by rfl) rfl rfl (by (try simp only [List.map_toArray, List.map_cons, List.map_nil]); try rfl) ?_
       with_reducible refine (whole_Add.calls kj2 a0_0 a1_0 t329 _ ?side1 A25.out).mono ?_
       (case side1 => exact GWorld.below HG.out (by repeat (first | (with_reducible first | exact HB.out | apply below_alloc | apply pw_below_drewN | apply below_drew1 | refine below_set ?_ GE324.out | refine below_set ?_ GE325.out | refine below_set ?_ GE326.out | refine below_set ?_ GE333.out) | exact HB.out)))
       rintro e w32 ⟨rfl, hb⟩
       refine ⟨_, rfl, ?_⟩
       have n0_ := Aside0.mk (blk_below (g := gb324) (o := .cells #[.string a0_0, .string a0_1] 24 (0, 0)) (by (with_reducible repeat (first | refine blk_drewN ?_ _ | refine blk_drew ?_ | refine blk_alloc ?_ _)); exact BK324.out) hb)
       have n1_ := Aside0.mk (blk_below (g := gb325) (o := .cells #[.string a1_0, .string a1_1] 24 (0, 0)) (by (with_reducible repeat (first | refine blk_drewN ?_ _ | refine blk_drew ?_ | refine blk_alloc ?_ _)); exact BK325.out) hb)
       have n2_ := Aside0.mk (blk_below (g := gb326) (o := .cells #[.string (⟨#[]⟩ : ByteArray), .string (⟨#[]⟩ : ByteArray)] 24 (0, 0)) (by (with_reducible repeat (first | refine blk_drewN ?_ _ | refine blk_drew ?_ | refine blk_alloc ?_ _)); exact BK326.out) hb)
       have n3_ := Aside0.mk (blk_below (g := gb333) (o := .cells #[.string (⟨#[]⟩ : ByteArray), .string (⟨#[]⟩ : ByteArray)] 24 (0, 0)) (by (with_reducible repeat (first | refine blk_drewN ?_ _ | refine blk_drew ?_ | refine blk_alloc ?_ _)); exact BK333.out) hb)
       have n4_ := Aside0.mk (below_step (by repeat (first | (with_reducible first | exact HB.out | apply below_alloc | apply pw_below_drewN | apply below_drew1 | refine below_set ?_ GE324.out | refine below_set ?_ GE325.out | refine below_set ?_ GE326.out | refine below_set ?_ GE333.out) | exact HB.out)) hb)
       clear BK324
       clear BK325
       clear BK326
       clear BK333
       clear HB
       have BK324 := n0_
       have BK325 := n1_
       have BK326 := n2_
       have BK333 := n3_
       have HB := n4_
       clear n0_ n1_ n2_ n3_ n4_
       (try clear hb); (try clear hb2); (try clear hk); (try clear hi)
       refine hK.out _ _ ⟨(blk_cell BK324.out 0).trans rfl, (blk_cell BK324.out 1).trans rfl, (blk_cell BK325.out 0).trans rfl, (blk_cell BK325.out 1).trans rfl⟩ (fun hHeld => ?_)
       clear hK K
       refine norm_ (a' := ?_) ?_ ?_
       rotate_left
       ·show Act.put _ (some 18) _ = _
        simp only [Act.put, List.setIfInBounds_toArray, List.set_cons_zero, List.set_cons_succ, i64_w, i32_w]
        rfl
       refine one_ (i := 9) (N := some 23) #[true, true, true, true, true, true, true, true, true, true, false, true, false] rfl rfl (one_of HT_.out (by kernel_rfl)) (by decide) (fun K hK => ?_)
       refine goes_ Tryz.func42 (by kernel_rfl) rfl #[.string a0_1, .string a1_1] (by rfl) rfl rfl (by (try simp only [List.map_toArray, List.map_cons, List.map_nil]); try rfl) ?_
       with_reducible refine (whole_Add.calls kj2 a0_1 a1_1 t330 _ ?side1 A26.out).mono ?_
       (case side1 => exact GWorld.below HG.out (by repeat (first | (with_reducible first | exact HB.out | apply below_alloc | apply pw_below_drewN | apply below_drew1 | refine below_set ?_ GE324.out | refine below_set ?_ GE325.out | refine below_set ?_ GE326.out | refine below_set ?_ GE333.out) | exact HB.out)))
       rintro e w33 ⟨rfl, hb⟩
       refine ⟨_, rfl, ?_⟩
       have n0_ := Aside0.mk (blk_below (g := gb324) (o := .cells #[.string a0_0, .string a0_1] 24 (0, 0)) (by (with_reducible repeat (first | refine blk_drewN ?_ _ | refine blk_drew ?_ | refine blk_alloc ?_ _)); exact BK324.out) hb)
       have n1_ := Aside0.mk (blk_below (g := gb325) (o := .cells #[.string a1_0, .string a1_1] 24 (0, 0)) (by (with_reducible repeat (first | refine blk_drewN ?_ _ | refine blk_drew ?_ | refine blk_alloc ?_ _)); exact BK325.out) hb)
       have n2_ := Aside0.mk (blk_below (g := gb326) (o := .cells #[.string (⟨#[]⟩ : ByteArray), .string (⟨#[]⟩ : ByteArray)] 24 (0, 0)) (by (with_reducible repeat (first | refine blk_drewN ?_ _ | refine blk_drew ?_ | refine blk_alloc ?_ _)); exact BK326.out) hb)
       have n3_ := Aside0.mk (blk_below (g := gb333) (o := .cells #[.string (⟨#[]⟩ : ByteArray), .string (⟨#[]⟩ : ByteArray)] 24 (0, 0)) (by (with_reducible repeat (first | refine blk_drewN ?_ _ | refine blk_drew ?_ | refine blk_alloc ?_ _)); exact BK333.out) hb)
       have n4_ := Aside0.mk (below_step (by repeat (first | (with_reducible first | exact HB.out | apply below_alloc | apply pw_below_drewN | apply below_drew1 | refine below_set ?_ GE324.out | refine below_set ?_ GE325.out | refine below_set ?_ GE326.out | refine below_set ?_ GE333.out) | exact HB.out)) hb)
       clear BK324
       clear BK325
       clear BK326
       clear BK333
       clear HB
       have BK324 := n0_
       have BK325 := n1_
       have BK326 := n2_
       have BK333 := n3_
       have HB := n4_
       clear n0_ n1_ n2_ n3_ n4_
       (try clear hb); (try clear hb2); (try clear hk); (try clear hi)
       refine hK.out _ _ ⟨(blk_cell BK324.out 0).trans rfl, (blk_cell BK324.out 1).trans rfl, (blk_cell BK325.out 0).trans rfl, (blk_cell BK325.out 1).trans rfl⟩ (fun hHeld => ?_)
       clear hK K
       refine norm_ (a' := ?_) ?_ ?_
       rotate_left
       ·show Act.put _ (some 23) _ = _
        simp only [Act.put, List.setIfInBounds_toArray, List.set_cons_zero, List.set_cons_succ, i64_w, i32_w]
        rfl
       refine one_ (i := 10) (N := some 24) #[true, true, true, true, true, true, true, true, true, true, true, true, false] rfl rfl (one_of HT_.out (by kernel_rfl)) (by decide) (fun K hK => ?_)
       refine goes_ Tryz.func41 (by kernel_rfl) rfl #[.string t329, .string t330] (by rfl) rfl rfl (by (try simp only [List.map_toArray, List.map_cons, List.map_nil]); try rfl) ?_
       with_reducible refine (convergent_over.calls kj2 t329 t330 t331 t332 _ ?side1 A27.out).mono ?_
       (case side1 => exact GWorld.below HG.out (by repeat (first | (with_reducible first | exact HB.out | apply below_alloc | apply pw_below_drewN | apply below_drew1 | refine below_set ?_ GE324.out | refine below_set ?_ GE325.out | refine below_set ?_ GE326.out | refine below_set ?_ GE333.out) | exact HB.out)))
       rintro e w34 ⟨rfl, hb⟩
       refine ⟨_, rfl, ?_⟩
       have n0_ := Aside0.mk (blk_below (g := gb324) (o := .cells #[.string a0_0, .string a0_1] 24 (0, 0)) (by (with_reducible repeat (first | refine blk_drewN ?_ _ | refine blk_drew ?_ | refine blk_alloc ?_ _)); exact BK324.out) hb)
       have n1_ := Aside0.mk (blk_below (g := gb325) (o := .cells #[.string a1_0, .string a1_1] 24 (0, 0)) (by (with_reducible repeat (first | refine blk_drewN ?_ _ | refine blk_drew ?_ | refine blk_alloc ?_ _)); exact BK325.out) hb)
       have n2_ := Aside0.mk (blk_below (g := gb326) (o := .cells #[.string (⟨#[]⟩ : ByteArray), .string (⟨#[]⟩ : ByteArray)] 24 (0, 0)) (by (with_reducible repeat (first | refine blk_drewN ?_ _ | refine blk_drew ?_ | refine blk_alloc ?_ _)); exact BK326.out) hb)
       have n3_ := Aside0.mk (blk_below (g := gb333) (o := .cells #[.string (⟨#[]⟩ : ByteArray), .string (⟨#[]⟩ : ByteArray)] 24 (0, 0)) (by (with_reducible repeat (first | refine blk_drewN ?_ _ | refine blk_drew ?_ | refine blk_alloc ?_ _)); exact BK333.out) hb)
       have n4_ := Aside0.mk (below_step (by repeat (first | (with_reducible first | exact HB.out | apply below_alloc | apply pw_below_drewN | apply below_drew1 | refine below_set ?_ GE324.out | refine below_set ?_ GE325.out | refine below_set ?_ GE326.out | refine below_set ?_ GE333.out) | exact HB.out)) hb)
       clear BK324
       clear BK325
       clear BK326
       clear BK333
       clear HB
       have BK324 := n0_
       have BK325 := n1_
       have BK326 := n2_
       have BK333 := n3_
       have HB := n4_
       clear n0_ n1_ n2_ n3_ n4_
       (try clear hb); (try clear hb2); (try clear hk); (try clear hi)
       refine hK.out _ _ ⟨(blk_cell BK324.out 0).trans rfl, (blk_cell BK324.out 1).trans rfl, (blk_cell BK325.out 0).trans rfl, (blk_cell BK325.out 1).trans rfl⟩ (fun hHeld => ?_)
       clear hK K
       refine norm_ (a' := ?_) ?_ ?_
       rotate_left
       ·show Act.put _ (some 24) _ = _
        simp only [Act.put, List.setIfInBounds_toArray, List.set_cons_zero, List.set_cons_succ, i64_w, i32_w]
        rfl
       exact norm_ (by simp only [putAll, Act.put, List.setIfInBounds_toArray, List.set_cons_zero, List.set_cons_succ]) (hCont (gb333) _ ⟨hHeld, (by (with_reducible repeat (first | refine blk_drewN ?_ _ | refine blk_drew ?_ | refine blk_alloc ?_ _)); exact BK324.out), (by (with_reducible repeat (first | refine blk_drewN ?_ _ | refine blk_drew ?_ | refine blk_alloc ?_ _)); exact BK325.out), (by (with_reducible repeat (first | refine blk_drewN ?_ _ | refine blk_drew ?_ | refine blk_alloc ?_ _)); exact BK326.out), (by (with_reducible repeat (first | refine blk_drewN ?_ _ | refine blk_drew ?_ | refine blk_alloc ?_ _)); exact BK333.out), GW333.out, GE333.out, NB324_333.out, NB333_324.out, NB325_333.out, NB333_325.out, NB326_333.out, NB333_326.out, (by repeat (first | (with_reducible first | exact HB.out | apply below_alloc | apply pw_below_drewN | apply below_drew1 | refine below_set ?_ GE324.out | refine below_set ?_ GE325.out | refine below_set ?_ GE326.out | refine below_set ?_ GE333.out) | exact HB.out))⟩)
     rintro gb333 w35 ⟨hS_, h0_, h1_, h2_, h3_, h4_, h5_, h6_, h7_, h8_, h9_, h10_, h11_, h12_⟩
     have n0_ : Aside0 (w35.heap[gb324]? = some (.cells #[.string a0_0, .string a0_1] 24 (0, 0))) := ⟨h0_⟩
     have n1_ : Aside0 (w35.heap[gb325]? = some (.cells #[.string a1_0, .string a1_1] 24 (0, 0))) := ⟨h1_⟩
     have n2_ : Aside0 (w35.heap[gb326]? = some (.cells #[.string (⟨#[]⟩ : ByteArray), .string (⟨#[]⟩ : ByteArray)] 24 (0, 0))) := ⟨h2_⟩
     have n3_ : Aside0 (w35.heap[gb333]? = some (.cells #[.string (⟨#[]⟩ : ByteArray), .string (⟨#[]⟩ : ByteArray)] 24 (0, 0))) := ⟨h3_⟩
     have n4_ : Aside0 (w.heap.size ≤ gb333) := ⟨h4_⟩
     have n5_ : Aside0 (w.heap.size ≤ gb333) := ⟨h5_⟩
     have n6_ : Aside0 (gb324 ≠ gb333) := ⟨h6_⟩
     have n7_ : Aside0 (gb333 ≠ gb324) := ⟨h7_⟩
     have n8_ : Aside0 (gb325 ≠ gb333) := ⟨h8_⟩
     have n9_ : Aside0 (gb333 ≠ gb325) := ⟨h9_⟩
     have n10_ : Aside0 (gb326 ≠ gb333) := ⟨h10_⟩
     have n11_ : Aside0 (gb333 ≠ gb326) := ⟨h11_⟩
     have n12_ : Aside0 (Below w.heap.size w w35) := ⟨h12_⟩
     clear BK324
     clear BK325
     clear BK326
     clear HB
     clear h0_ h1_ h2_ h3_ h4_ h5_ h6_ h7_ h8_ h9_ h10_ h11_ h12_
     have BK324 := n0_
     have BK325 := n1_
     have BK326 := n2_
     have BK333 := n3_
     have GW333 := n4_
     have GE333 := n5_
     have NB324_333 := n6_
     have NB333_324 := n7_
     have NB325_333 := n8_
     have NB333_325 := n9_
     have NB326_333 := n10_
     have NB333_326 := n11_
     have HB := n12_
     clear n0_ n1_ n2_ n3_ n4_ n5_ n6_ n7_ n8_ n9_ n10_ n11_ n12_
     have hHeld : w35.cell? ⟨gb324, 0, none⟩ = some (.string a0_0) ∧ w35.cell? ⟨gb324, 1, none⟩ = some (.string a0_1) ∧ w35.cell? ⟨gb325, 0, none⟩ = some (.string a1_0) ∧ w35.cell? ⟨gb325, 1, none⟩ = some (.string a1_1) := hS_
     refine norm_ (a' := ?_) ?_ ?_
     rotate_left
     ·simp only [putAll, Act.put, List.setIfInBounds_toArray, List.set_cons_zero, List.set_cons_succ]
      rfl
     refine one_ (i := 12) (N := none) #[true, true, true, true, true, true, true, true, true, true, true, true, true] rfl rfl (one_of HT_.out (by kernel_rfl)) (by decide) (fun K hK => ?_)
     have hs36 : w35.cell? ⟨gb333, 0, none⟩ = some (.string (⟨#[]⟩ : ByteArray)) := (blk_cell BK333.out 0).trans rfl
     have hfs36 := blk_frozen BK333.out 0
     have hns36_0 := NB324_333.out
     have hns36_1 := NB325_333.out
     have hns36_2 := NB326_333.out
     have hms36_0 := NB333_324.out
     have hms36_1 := NB333_325.out
     have hms36_2 := NB333_326.out
     have hs37 : w35.cell? ⟨gb333, 1, none⟩ = some (.string (⟨#[]⟩ : ByteArray)) := (blk_cell BK333.out 1).trans rfl
     have hfs37 := blk_frozen BK333.out 1
     have hns37_0 := NB324_333.out
     have hns37_1 := NB325_333.out
     have hns37_2 := NB326_333.out
     have hms37_0 := NB333_324.out
     have hms37_1 := NB333_325.out
     have hms37_2 := NB333_326.out
     refine skip_ (w1 := ?_) (by rfl) rfl ?_ ?_
     rotate_left
     ·go_simp
      rfl
     refine hK.out _ _ ⟨((cell_far (p := ⟨gb333, _, none⟩) NB324_333.out _).trans (((cell_far (p := ⟨gb333, _, none⟩) NB324_333.out _).trans (hHeld.1)))), ((cell_far (p := ⟨gb333, _, none⟩) NB324_333.out _).trans (((cell_far (p := ⟨gb333, _, none⟩) NB324_333.out _).trans (hHeld.2.1)))), ((cell_far (p := ⟨gb333, _, none⟩) NB325_333.out _).trans (((cell_far (p := ⟨gb333, _, none⟩) NB325_333.out _).trans (hHeld.2.2.1)))), ((cell_far (p := ⟨gb333, _, none⟩) NB325_333.out _).trans (((cell_far (p := ⟨gb333, _, none⟩) NB325_333.out _).trans (hHeld.2.2.2))))⟩ (fun hHeld => ?_)
     clear hK K
     refine done_ (done_of HT_.out (by kernel_rfl)) ?_
     have hnb38 := NB333_324.out
     have hnc38 := NB324_333.out
     have hnb39 := NB333_325.out
     have hnc39 := NB325_333.out
     have hnb40 := NB333_326.out
     have hnc40 := NB326_333.out
     have hcz41_0 : w35.cell? ⟨gb333, 0, none⟩ = some (.string (⟨#[]⟩ : ByteArray)) := (blk_cell BK333.out 0).trans rfl
     have hcz41_1 : w35.cell? ⟨gb333, 1, none⟩ = some (.string (⟨#[]⟩ : ByteArray)) := (blk_cell BK333.out 1).trans rfl
     have hfz41_0 := blk_frozen BK333.out 0
     have hfz41_1 := blk_frozen BK333.out 1
     try go_wp2_with (first | ((with_reducible refine gate_callee (f := 40) rfl ?_); refine goesL_ (some 26) rfl rfl Tryz.func40 (by kernel_rfl) rfl #[.agg #[.string t331, .string t332]] rfl (by (try simp only [List.map_toArray, List.map_cons, List.map_nil]); try rfl) ?_; (with_reducible refine (convergent_wrong.calls kj2 t331 t332 true _ ?side1 A28.out).mono ?_); (case side1 => exact GWorld.below HG.out (by repeat (first | (with_reducible first | exact HB.out | apply below_alloc | apply pw_below_drewN | apply below_drew1 | refine below_set ?_ GE324.out | refine below_set ?_ GE325.out | refine below_set ?_ GE326.out | refine below_set ?_ GE333.out) | exact HB.out))); rintro e w42 ⟨rfl, hb⟩; refine ⟨_, rfl, ?_⟩; have n0_ := Aside0.mk (blk_below (g := gb324) (o := .cells #[.string a0_0, .string a0_1] 24 (0, 0)) (by (with_reducible repeat (first | refine blk_drewN ?_ _ | refine blk_drew ?_ | refine blk_alloc ?_ _)); refine blk_far ?_ NB324_333.out _; (with_reducible repeat (first | refine blk_drewN ?_ _ | refine blk_drew ?_ | refine blk_alloc ?_ _)); refine blk_far ?_ NB324_333.out _; (with_reducible repeat (first | refine blk_drewN ?_ _ | refine blk_drew ?_ | refine blk_alloc ?_ _)); exact BK324.out) hb); have n1_ := Aside0.mk (blk_below (g := gb325) (o := .cells #[.string a1_0, .string a1_1] 24 (0, 0)) (by (with_reducible repeat (first | refine blk_drewN ?_ _ | refine blk_drew ?_ | refine blk_alloc ?_ _)); refine blk_far ?_ NB325_333.out _; (with_reducible repeat (first | refine blk_drewN ?_ _ | refine blk_drew ?_ | refine blk_alloc ?_ _)); refine blk_far ?_ NB325_333.out _; (with_reducible repeat (first | refine blk_drewN ?_ _ | refine blk_drew ?_ | refine blk_alloc ?_ _)); exact BK325.out) hb); have n2_ := Aside0.mk (blk_below (g := gb326) (o := .cells #[.string (⟨#[]⟩ : ByteArray), .string (⟨#[]⟩ : ByteArray)] 24 (0, 0)) (by (with_reducible repeat (first | refine blk_drewN ?_ _ | refine blk_drew ?_ | refine blk_alloc ?_ _)); refine blk_far ?_ NB326_333.out _; (with_reducible repeat (first | refine blk_drewN ?_ _ | refine blk_drew ?_ | refine blk_alloc ?_ _)); refine blk_far ?_ NB326_333.out _; (with_reducible repeat (first | refine blk_drewN ?_ _ | refine blk_drew ?_ | refine blk_alloc ?_ _)); exact BK326.out) hb); have n3_ := Aside0.mk (blk_below (g := gb333) (o := .cells #[.string t331, .string t332] 24 (0, 0)) (by (with_reducible repeat (first | refine blk_drewN ?_ _ | refine blk_drew ?_ | refine blk_alloc ?_ _)); refine blk_put (cs := #[.string t331, .string (⟨#[]⟩ : ByteArray)]) ?_ 1 _ rfl; (with_reducible repeat (first | refine blk_drewN ?_ _ | refine blk_drew ?_ | refine blk_alloc ?_ _)); refine blk_put (cs := #[.string (⟨#[]⟩ : ByteArray), .string (⟨#[]⟩ : ByteArray)]) ?_ 0 _ rfl; (with_reducible repeat (first | refine blk_drewN ?_ _ | refine blk_drew ?_ | refine blk_alloc ?_ _)); exact BK333.out) hb); have n4_ := Aside0.mk (below_step (by repeat (first | (with_reducible first | exact HB.out | apply below_alloc | apply pw_below_drewN | apply below_drew1 | refine below_set ?_ GE324.out | refine below_set ?_ GE325.out | refine below_set ?_ GE326.out | refine below_set ?_ GE333.out) | exact HB.out)) hb); clear BK324; clear BK325; clear BK326; clear BK333; clear HB; have BK324 := n0_; have BK325 := n1_; have BK326 := n2_; have BK333 := n3_; have HB := n4_; clear n0_ n1_ n2_ n3_ n4_; (try clear hb); (try clear hb2); (try clear hk); (try clear hi); have hnb43 := NB326_324.out; have hnc43 := NB324_326.out; have hnb44 := NB326_325.out; have hnc44 := NB325_326.out; have hcz45_0 : w42.cell? ⟨gb326, 0, none⟩ = some (.string (⟨#[]⟩ : ByteArray)) := (blk_cell BK326.out 0).trans rfl; have hcz45_1 : w42.cell? ⟨gb326, 1, none⟩ = some (.string (⟨#[]⟩ : ByteArray)) := (blk_cell BK326.out 1).trans rfl; have hfz45_0 := blk_frozen BK326.out 0; have hfz45_1 := blk_frozen BK326.out 1))
     refine bodyPost_ret (results_ct rfl _ _ gb326 24 #[.string (⟨#[]⟩ : ByteArray), .string (⟨#[]⟩ : ByteArray)] (0, 0) _ rfl (by (with_reducible repeat (first | refine blk_drewN ?_ _ | refine blk_drew ?_ | refine blk_alloc ?_ _)); refine blk_put (cs := #[.string (⟨#[]⟩ : ByteArray), .string (⟨#[]⟩ : ByteArray)]) ?_ 1 _ rfl; (with_reducible repeat (first | refine blk_drewN ?_ _ | refine blk_drew ?_ | refine blk_alloc ?_ _)); refine blk_put (cs := #[.string (⟨#[]⟩ : ByteArray), .string (⟨#[]⟩ : ByteArray)]) ?_ 0 _ rfl; (with_reducible repeat (first | refine blk_drewN ?_ _ | refine blk_drew ?_ | refine blk_alloc ?_ _)); exact BK326.out) Tryz.underlying24 rfl (by kernel_rfl)) rfl ?_
     exact ⟨by first | rfl | (simp [*, errW_none, errW_some] <;> rfl), by repeat (first | (with_reducible first | exact HB.out | apply below_alloc | apply pw_below_drewN | apply below_drew1 | refine below_set ?_ GE324.out | refine below_set ?_ GE325.out | refine below_set ?_ GE326.out | refine below_set ?_ GE333.out) | exact HB.out)⟩
    ·replace c29 := Bool.eq_false_iff.mpr c29
     subst c29
     have H1 : (some (t331, t332, 0)) = some (r1, r2, r3) := by rw [if_neg (show ¬ (false = true) by decide)] at H; exact H
     clear H
     have H := H1
     clear H1
     simp only [Option.some.injEq, Prod.mk.injEq] at H
     obtain ⟨rfl, rfl, rfl⟩ := H
     try go_wp2
     have n0_ := Aside0.mk (blk_drew BK324.out)
     have n1_ := Aside0.mk (blk_drew BK325.out)
     have n2_ := Aside0.mk (blk_drew BK326.out)
     have n3_ := Aside0.mk (below_drew1 HB.out)
     clear BK324
     clear BK325
     clear BK326
     clear HB
     have BK324 := n0_
     have BK325 := n1_
     have BK326 := n2_
     have HB := n3_
     clear n0_ n1_ n2_ n3_
     refine start_ (n := 13) (S := fun w' => w'.cell? ⟨gb324, 0, none⟩ = some (.string a0_0) ∧ w'.cell? ⟨gb324, 1, none⟩ = some (.string a0_1) ∧ w'.cell? ⟨gb325, 0, none⟩ = some (.string a1_0) ∧ w'.cell? ⟨gb325, 1, none⟩ = some (.string a1_1)) (ds := []) #[false, false, false, false, false, false, false, false, false, false, false, false, false] (by kernel_rfl) rfl rfl ⟨(blk_cell BK324.out 0).trans rfl, (blk_cell BK324.out 1).trans rfl, (blk_cell BK325.out 0).trans rfl, (blk_cell BK325.out 1).trans rfl⟩ (fun hHeld => ?_); refine with_tabW convergent_Mediant.tab3 convergent_Mediant.bits3 (fun HT_ HW_ => ?_)
     generalize wc.drew = w46 at BK324 BK325 BK326 HB hHeld ⊢
     refine pure_ (i := 0) (N := some 14) (v := ?_) (a' := ?_) #[true, false, false, false, false, false, false, false, false, false, false, false, false] rfl rfl (any_of HT_.out (by kernel_rfl)) (fun _ _ _ h => h) (Or.inl ⟨by rfl, ?_⟩) ?_ ?_
     rotate_left
     ·intro w'
      go_simp
      with_reducible rfl
     rotate_left
     ·simp only [Act.put, List.setIfInBounds_toArray, List.set_cons_zero, List.set_cons_succ, i64_w, i32_w]
      rfl
     refine pure_ (i := 2) (N := some 16) (v := ?_) (a' := ?_) #[true, false, true, false, false, false, false, false, false, false, false, false, false] rfl rfl (any_of HT_.out (by kernel_rfl)) (fun _ _ _ h => h) (Or.inl ⟨by rfl, ?_⟩) ?_ ?_
     rotate_left
     ·intro w'
      go_simp
      with_reducible rfl
     rotate_left
     ·simp only [Act.put, List.setIfInBounds_toArray, List.set_cons_zero, List.set_cons_succ, i64_w, i32_w]
      rfl
     refine pure_ (i := 5) (N := some 19) (v := ?_) (a' := ?_) #[true, false, true, false, false, true, false, false, false, false, false, false, false] rfl rfl (any_of HT_.out (by kernel_rfl)) (fun _ _ _ h => h) (Or.inl ⟨by rfl, ?_⟩) ?_ ?_
     rotate_left
     ·intro w'
      go_simp
      with_reducible rfl
     rotate_left
     ·simp only [Act.put, List.setIfInBounds_toArray, List.set_cons_zero, List.set_cons_succ, i64_w, i32_w]
      rfl
     refine pure_ (i := 7) (N := some 21) (v := ?_) (a' := ?_) #[true, false, true, false, false, true, false, true, false, false, false, false, false] rfl rfl (any_of HT_.out (by kernel_rfl)) (fun _ _ _ h => h) (Or.inl ⟨by rfl, ?_⟩) ?_ ?_
     rotate_left
     ·intro w'
      go_simp
      with_reducible rfl
     rotate_left
     ·simp only [Act.put, List.setIfInBounds_toArray, List.set_cons_zero, List.set_cons_succ, i64_w, i32_w]
      rfl
     refine take_ (i := 1) (N := some 15) (v := ?_) (a' := ?_) #[true, true, true, false, false, true, false, true, false, false, false, false, false] rfl rfl (take_ofW HT_.out HW_.out (by kernel_rfl)) (fun _ _ _ h => h) (Or.inl ⟨by rfl, ?_⟩) hHeld ?_ ?_
     rotate_left
     ·rintro w' ⟨s0, s1, s2, s3⟩
      go_simp
      with_reducible rfl
     rotate_left
     ·simp only [Act.put, List.setIfInBounds_toArray, List.set_cons_zero, List.set_cons_succ, i64_w, i32_w]
      rfl
     refine take_ (i := 3) (N := some 17) (v := ?_) (a' := ?_) #[true, true, true, true, false, true, false, true, false, false, false, false, false] rfl rfl (take_ofW HT_.out HW_.out (by kernel_rfl)) (fun _ _ _ h => h) (Or.inl ⟨by rfl, ?_⟩) hHeld ?_ ?_
     rotate_left
     ·rintro w' ⟨s0, s1, s2, s3⟩
      go_simp
      with_reducible rfl
     rotate_left
     ·simp only [Act.put, List.setIfInBounds_toArray, List.set_cons_zero, List.set_cons_succ, i64_w, i32_w]
      rfl
     refine take_ (i := 6) (N := some 20) (v := ?_) (a' := ?_) #[true, true, true, true, false, true, true, true, false, false, false, false, false] rfl rfl (take_ofW HT_.out HW_.out (by kernel_rfl)) (fun _ _ _ h => h) (Or.inl ⟨by rfl, ?_⟩) hHeld ?_ ?_
     rotate_left
     ·rintro w' ⟨s0, s1, s2, s3⟩
      go_simp
      with_reducible rfl
     rotate_left
     ·simp only [Act.put, List.setIfInBounds_toArray, List.set_cons_zero, List.set_cons_succ, i64_w, i32_w]
      rfl
     refine take_ (i := 8) (N := some 22) (v := ?_) (a' := ?_) #[true, true, true, true, false, true, true, true, true, false, false, false, false] rfl rfl (take_ofW HT_.out HW_.out (by kernel_rfl)) (fun _ _ _ h => h) (Or.inl ⟨by rfl, ?_⟩) hHeld ?_ ?_
     rotate_left
     ·rintro w' ⟨s0, s1, s2, s3⟩
      go_simp
      with_reducible rfl
     rotate_left
     ·simp only [Act.put, List.setIfInBounds_toArray, List.set_cons_zero, List.set_cons_succ, i64_w, i32_w]
      rfl
     refine join_ (σ := Nat) 1 #[true, true, true, true, true, true, true, true, true, true, true, true, false] (fun s_ => [(18, .string t329), (23, .string t330), (24, .agg #[.string t331, .string t332]), (6, .pointer (some ⟨s_, 0, none⟩))]) (fun s_ w' => (w'.cell? ⟨gb324, 0, none⟩ = some (.string a0_0) ∧ w'.cell? ⟨gb324, 1, none⟩ = some (.string a0_1) ∧ w'.cell? ⟨gb325, 0, none⟩ = some (.string a1_0) ∧ w'.cell? ⟨gb325, 1, none⟩ = some (.string a1_1)) ∧ (w'.heap[gb324]? = some (.cells #[.string a0_0, .string a0_1] 24 (0, 0))) ∧ (w'.heap[gb325]? = some (.cells #[.string a1_0, .string a1_1] 24 (0, 0))) ∧ (w'.heap[gb326]? = some (.cells #[.string (⟨#[]⟩ : ByteArray), .string (⟨#[]⟩ : ByteArray)] 24 (0, 0))) ∧ (w'.heap[s_]? = some (.cells #[.string (⟨#[]⟩ : ByteArray), .string (⟨#[]⟩ : ByteArray)] 24 (0, 0))) ∧ (w.heap.size ≤ s_) ∧ (w.heap.size ≤ s_) ∧ (gb324 ≠ s_) ∧ (s_ ≠ gb324) ∧ (gb325 ≠ s_) ∧ (s_ ≠ gb325) ∧ (gb326 ≠ s_) ∧ (s_ ≠ gb326) ∧ (Below w.heap.size w w')) ?_ ?_
     rotate_left
     ·intro hCont
      refine two_ (i := 4) (j := 11) (Ni := some 18) (Nj := some 6) #[true, true, true, true, true, true, true, true, true, false, false, false, false] #[true, true, true, true, false, true, true, true, true, false, false, true, false] rfl rfl rfl rfl (two_of HT_.out (by kernel_rfl)) (by decide) (by decide) (fun K hK => ?_) (fun K hK => ?_)
      ·skip
       refine goes_ Tryz.func42 (by kernel_rfl) rfl #[.string a0_0, .string a1_0] (by rfl) rfl rfl (by (try simp only [List.map_toArray, List.map_cons, List.map_nil]); try rfl) ?_
       with_reducible refine (whole_Add.calls kj2 a0_0 a1_0 t329 _ ?side1 A25.out).mono ?_
       (case side1 => exact GWorld.below HG.out (by repeat (first | (with_reducible first | exact HB.out | apply below_alloc | apply pw_below_drewN | apply below_drew1 | refine below_set ?_ GE324.out | refine below_set ?_ GE325.out | refine below_set ?_ GE326.out) | exact HB.out)))
       rintro e w47 ⟨rfl, hb⟩
       refine ⟨_, rfl, ?_⟩
       have n0_ := Aside0.mk (blk_below (g := gb324) (o := .cells #[.string a0_0, .string a0_1] 24 (0, 0)) (by (with_reducible repeat (first | refine blk_drewN ?_ _ | refine blk_drew ?_ | refine blk_alloc ?_ _)); exact BK324.out) hb)
       have n1_ := Aside0.mk (blk_below (g := gb325) (o := .cells #[.string a1_0, .string a1_1] 24 (0, 0)) (by (with_reducible repeat (first | refine blk_drewN ?_ _ | refine blk_drew ?_ | refine blk_alloc ?_ _)); exact BK325.out) hb)
       have n2_ := Aside0.mk (blk_below (g := gb326) (o := .cells #[.string (⟨#[]⟩ : ByteArray), .string (⟨#[]⟩ : ByteArray)] 24 (0, 0)) (by (with_reducible repeat (first | refine blk_drewN ?_ _ | refine blk_drew ?_ | refine blk_alloc ?_ _)); exact BK326.out) hb)
       have n3_ := Aside0.mk (below_step (by repeat (first | (with_reducible first | exact HB.out | apply below_alloc | apply pw_below_drewN | apply below_drew1 | refine below_set ?_ GE324.out | refine below_set ?_ GE325.out | refine below_set ?_ GE326.out) | exact HB.out)) hb)
       clear BK324
       clear BK325
       clear BK326
       clear HB
       have BK324 := n0_
       have BK325 := n1_
       have BK326 := n2_
       have HB := n3_
       clear n0_ n1_ n2_ n3_
       (try clear hb); (try clear hb2); (try clear hk); (try clear hi)
       refine hK.out _ _ ⟨(blk_cell BK324.out 0).trans rfl, (blk_cell BK324.out 1).trans rfl, (blk_cell BK325.out 0).trans rfl, (blk_cell BK325.out 1).trans rfl⟩ (fun hHeld => ?_)
       clear hK K
       refine norm_ (a' := ?_) ?_ ?_
       rotate_left
       ·show Act.put _ (some 18) _ = _
        simp only [Act.put, List.setIfInBounds_toArray, List.set_cons_zero, List.set_cons_succ, i64_w, i32_w]
        rfl
       refine two_ (i := 9) (j := 11) (Ni := some 23) (Nj := some 6) #[true, true, true, true, true, true, true, true, true, true, false, false, false] #[true, true, true, true, true, true, true, true, true, false, false, true, false] rfl rfl rfl rfl (two_of HT_.out (by kernel_rfl)) (by decide) (by decide) (fun K hK => ?_) (fun K hK => ?_)
       ·skip
        refine goes_ Tryz.func42 (by kernel_rfl) rfl #[.string a0_1, .string a1_1] (by rfl) rfl rfl (by (try simp only [List.map_toArray, List.map_cons, List.map_nil]); try rfl) ?_
        with_reducible refine (whole_Add.calls kj2 a0_1 a1_1 t330 _ ?side1 A26.out).mono ?_
        (case side1 => exact GWorld.below HG.out (by repeat (first | (with_reducible first | exact HB.out | apply below_alloc | apply pw_below_drewN | apply below_drew1 | refine below_set ?_ GE324.out | refine below_set ?_ GE325.out | refine below_set ?_ GE326.out) | exact HB.out)))
        rintro e w48 ⟨rfl, hb⟩
        refine ⟨_, rfl, ?_⟩
        have n0_ := Aside0.mk (blk_below (g := gb324) (o := .cells #[.string a0_0, .string a0_1] 24 (0, 0)) (by (with_reducible repeat (first | refine blk_drewN ?_ _ | refine blk_drew ?_ | refine blk_alloc ?_ _)); exact BK324.out) hb)
        have n1_ := Aside0.mk (blk_below (g := gb325) (o := .cells #[.string a1_0, .string a1_1] 24 (0, 0)) (by (with_reducible repeat (first | refine blk_drewN ?_ _ | refine blk_drew ?_ | refine blk_alloc ?_ _)); exact BK325.out) hb)
        have n2_ := Aside0.mk (blk_below (g := gb326) (o := .cells #[.string (⟨#[]⟩ : ByteArray), .string (⟨#[]⟩ : ByteArray)] 24 (0, 0)) (by (with_reducible repeat (first | refine blk_drewN ?_ _ | refine blk_drew ?_ | refine blk_alloc ?_ _)); exact BK326.out) hb)
        have n3_ := Aside0.mk (below_step (by repeat (first | (with_reducible first | exact HB.out | apply below_alloc | apply pw_below_drewN | apply below_drew1 | refine below_set ?_ GE324.out | refine below_set ?_ GE325.out | refine below_set ?_ GE326.out) | exact HB.out)) hb)
        clear BK324
        clear BK325
        clear BK326
        clear HB
        have BK324 := n0_
        have BK325 := n1_
        have BK326 := n2_
        have HB := n3_
        clear n0_ n1_ n2_ n3_
        (try clear hb); (try clear hb2); (try clear hk); (try clear hi)
        refine hK.out _ _ ⟨(blk_cell BK324.out 0).trans rfl, (blk_cell BK324.out 1).trans rfl, (blk_cell BK325.out 0).trans rfl, (blk_cell BK325.out 1).trans rfl⟩ (fun hHeld => ?_)
        clear hK K
        refine norm_ (a' := ?_) ?_ ?_
        rotate_left
        ·show Act.put _ (some 23) _ = _
         simp only [Act.put, List.setIfInBounds_toArray, List.set_cons_zero, List.set_cons_succ, i64_w, i32_w]
         rfl
        refine two_ (i := 10) (j := 11) (Ni := some 24) (Nj := some 6) #[true, true, true, true, true, true, true, true, true, true, true, false, false] #[true, true, true, true, true, true, true, true, true, true, false, true, false] rfl rfl rfl rfl (two_of HT_.out (by kernel_rfl)) (by decide) (by decide) (fun K hK => ?_) (fun K hK => ?_)
        ·skip
         refine goes_ Tryz.func41 (by kernel_rfl) rfl #[.string t329, .string t330] (by rfl) rfl rfl (by (try simp only [List.map_toArray, List.map_cons, List.map_nil]); try rfl) ?_
         with_reducible refine (convergent_over.calls kj2 t329 t330 t331 t332 _ ?side1 A27.out).mono ?_
         (case side1 => exact GWorld.below HG.out (by repeat (first | (with_reducible first | exact HB.out | apply below_alloc | apply pw_below_drewN | apply below_drew1 | refine below_set ?_ GE324.out | refine below_set ?_ GE325.out | refine below_set ?_ GE326.out) | exact HB.out)))
         rintro e w49 ⟨rfl, hb⟩
         refine ⟨_, rfl, ?_⟩
         have n0_ := Aside0.mk (blk_below (g := gb324) (o := .cells #[.string a0_0, .string a0_1] 24 (0, 0)) (by (with_reducible repeat (first | refine blk_drewN ?_ _ | refine blk_drew ?_ | refine blk_alloc ?_ _)); exact BK324.out) hb)
         have n1_ := Aside0.mk (blk_below (g := gb325) (o := .cells #[.string a1_0, .string a1_1] 24 (0, 0)) (by (with_reducible repeat (first | refine blk_drewN ?_ _ | refine blk_drew ?_ | refine blk_alloc ?_ _)); exact BK325.out) hb)
         have n2_ := Aside0.mk (blk_below (g := gb326) (o := .cells #[.string (⟨#[]⟩ : ByteArray), .string (⟨#[]⟩ : ByteArray)] 24 (0, 0)) (by (with_reducible repeat (first | refine blk_drewN ?_ _ | refine blk_drew ?_ | refine blk_alloc ?_ _)); exact BK326.out) hb)
         have n3_ := Aside0.mk (below_step (by repeat (first | (with_reducible first | exact HB.out | apply below_alloc | apply pw_below_drewN | apply below_drew1 | refine below_set ?_ GE324.out | refine below_set ?_ GE325.out | refine below_set ?_ GE326.out) | exact HB.out)) hb)
         clear BK324
         clear BK325
         clear BK326
         clear HB
         have BK324 := n0_
         have BK325 := n1_
         have BK326 := n2_
         have HB := n3_
         clear n0_ n1_ n2_ n3_
         (try clear hb); (try clear hb2); (try clear hk); (try clear hi)
         refine hK.out _ _ ⟨(blk_cell BK324.out 0).trans rfl, (blk_cell BK324.out 1).trans rfl, (blk_cell BK325.out 0).trans rfl, (blk_cell BK325.out 1).trans rfl⟩ (fun hHeld => ?_)
         clear hK K
         refine norm_ (a' := ?_) ?_ ?_
         rotate_left
         ·show Act.put _ (some 24) _ = _
          simp only [Act.put, List.setIfInBounds_toArray, List.set_cons_zero, List.set_cons_succ, i64_w, i32_w]
          rfl
         refine one_ (i := 11) (N := some 6) #[true, true, true, true, true, true, true, true, true, true, true, true, false] rfl rfl (one_of HT_.out (by kernel_rfl)) (by decide) (fun K hK => ?_)
         refine box_step ?hg (N := 6) ?hd (cs := #[.string (⟨#[]⟩ : ByteArray), .string (⟨#[]⟩ : ByteArray)]) (t := 24) ?hr ?_; (case hd => rfl); (case hg => rfl); (case hr => first | (go_simp; done) | (go_simp; rfl))
         intro gb333 hg w50 hbox hb
         have n0_ := Aside0.mk (blk_below (g := gb324) (o := .cells #[.string a0_0, .string a0_1] 24 (0, 0)) (by (with_reducible repeat (first | refine blk_drewN ?_ _ | refine blk_drew ?_ | refine blk_alloc ?_ _)); exact BK324.out) hb)
         have n1_ := Aside0.mk (blk_below (g := gb325) (o := .cells #[.string a1_0, .string a1_1] 24 (0, 0)) (by (with_reducible repeat (first | refine blk_drewN ?_ _ | refine blk_drew ?_ | refine blk_alloc ?_ _)); exact BK325.out) hb)
         have n2_ := Aside0.mk (blk_below (g := gb326) (o := .cells #[.string (⟨#[]⟩ : ByteArray), .string (⟨#[]⟩ : ByteArray)] 24 (0, 0)) (by (with_reducible repeat (first | refine blk_drewN ?_ _ | refine blk_drew ?_ | refine blk_alloc ?_ _)); exact BK326.out) hb)
         have n3_ := Aside0.mk (below_step (by repeat (first | (with_reducible first | exact HB.out | apply below_alloc | apply pw_below_drewN | apply below_drew1 | refine below_set ?_ GE324.out | refine below_set ?_ GE325.out | refine below_set ?_ GE326.out) | exact HB.out)) hb)
         have n4_ := Aside0.mk (hbox)
         have n5_ := Aside0.mk ((by rw [hg]; exact (below_size (by repeat (first | (with_reducible first | exact HB.out | apply below_alloc | apply pw_below_drewN | apply below_drew1 | refine below_set ?_ GE324.out | refine below_set ?_ GE325.out | refine below_set ?_ GE326.out) | exact HB.out))) : w.heap.size ≤ gb333))
         have n6_ := Aside0.mk ((by rw [hg]; exact (below_size (by repeat (first | (with_reducible first | exact HB.out | apply below_alloc | apply pw_below_drewN | apply below_drew1 | refine below_set ?_ GE324.out | refine below_set ?_ GE325.out | refine below_set ?_ GE326.out) | exact HB.out))) : w.heap.size ≤ gb333))
         have n7_ := Aside0.mk ((by rw [hg]; exact Nat.ne_of_lt (blk_lt (g := gb324) (o := .cells #[.string a0_0, .string a0_1] 24 (0, 0)) (by (with_reducible repeat (first | refine blk_drewN ?_ _ | refine blk_drew ?_ | refine blk_alloc ?_ _)); exact BK324.out)) : gb324 ≠ gb333))
         have n8_ := Aside0.mk ((by rw [hg]; exact Nat.ne_of_gt (blk_lt (g := gb324) (o := .cells #[.string a0_0, .string a0_1] 24 (0, 0)) (by (with_reducible repeat (first | refine blk_drewN ?_ _ | refine blk_drew ?_ | refine blk_alloc ?_ _)); exact BK324.out)) : gb333 ≠ gb324))
         have n9_ := Aside0.mk ((by rw [hg]; exact Nat.ne_of_lt (blk_lt (g := gb325) (o := .cells #[.string a1_0, .string a1_1] 24 (0, 0)) (by (with_reducible repeat (first | refine blk_drewN ?_ _ | refine blk_drew ?_ | refine blk_alloc ?_ _)); exact BK325.out)) : gb325 ≠ gb333))
         have n10_ := Aside0.mk ((by rw [hg]; exact Nat.ne_of_gt (blk_lt (g := gb325) (o := .cells #[.string a1_0, .string a1_1] 24 (0, 0)) (by (with_reducible repeat (first | refine blk_drewN ?_ _ | refine blk_drew ?_ | refine blk_alloc ?_ _)); exact BK325.out)) : gb333 ≠ gb325))
         have n11_ := Aside0.mk ((by rw [hg]; exact Nat.ne_of_lt (blk_lt (g := gb326) (o := .cells #[.string (⟨#[]⟩ : ByteArray), .string (⟨#[]⟩ : ByteArray)] 24 (0, 0)) (by (with_reducible repeat (first | refine blk_drewN ?_ _ | refine blk_drew ?_ | refine blk_alloc ?_ _)); exact BK326.out)) : gb326 ≠ gb333))
         have n12_ := Aside0.mk ((by rw [hg]; exact Nat.ne_of_gt (blk_lt (g := gb326) (o := .cells #[.string (⟨#[]⟩ : ByteArray), .string (⟨#[]⟩ : ByteArray)] 24 (0, 0)) (by (with_reducible repeat (first | refine blk_drewN ?_ _ | refine blk_drew ?_ | refine blk_alloc ?_ _)); exact BK326.out)) : gb333 ≠ gb326))
         clear BK324
         clear BK325
         clear BK326
         clear HB
         have BK324 := n0_
         have BK325 := n1_
         have BK326 := n2_
         have HB := n3_
         have BK333 := n4_
         have GW333 := n5_
         have GE333 := n6_
         have NB324_333 := n7_
         have NB333_324 := n8_
         have NB325_333 := n9_
         have NB333_325 := n10_
         have NB326_333 := n11_
         have NB333_326 := n12_
         clear n0_ n1_ n2_ n3_ n4_ n5_ n6_ n7_ n8_ n9_ n10_ n11_ n12_
         clear hb hbox hg
         refine hK.out _ _ ⟨(blk_cell BK324.out 0).trans rfl, (blk_cell BK324.out 1).trans rfl, (blk_cell BK325.out 0).trans rfl, (blk_cell BK325.out 1).trans rfl⟩ (fun hHeld => ?_)
         clear hK K
         refine norm_ (a' := ?_) ?_ ?_
         rotate_left
         ·show Act.put _ (some 6) _ = _
          simp only [Act.put, List.setIfInBounds_toArray, List.set_cons_zero, List.set_cons_succ, i64_w, i32_w]
          rfl
         exact norm_ (by simp only [putAll, Act.put, List.setIfInBounds_toArray, List.set_cons_zero, List.set_cons_succ]) (hCont (gb333) _ ⟨hHeld, (by (with_reducible repeat (first | refine blk_drewN ?_ _ | refine blk_drew ?_ | refine blk_alloc ?_ _)); exact BK324.out), (by (with_reducible repeat (first | refine blk_drewN ?_ _ | refine blk_drew ?_ | refine blk_alloc ?_ _)); exact BK325.out), (by (with_reducible repeat (first | refine blk_drewN ?_ _ | refine blk_drew ?_ | refine blk_alloc ?_ _)); exact BK326.out), (by (with_reducible repeat (first | refine blk_drewN ?_ _ | refine blk_drew ?_ | refine blk_alloc ?_ _)); exact BK333.out), GW333.out, GE333.out, NB324_333.out, NB333_324.out, NB325_333.out, NB333_325.out, NB326_333.out, NB333_326.out, (by repeat (first | (with_reducible first | exact HB.out | apply below_alloc | apply pw_below_drewN | apply below_drew1 | refine below_set ?_ GE324.out | refine below_set ?_ GE325.out | refine below_set ?_ GE326.out | refine below_set ?_ GE333.out) | exact HB.out))⟩)
        ·skip
         refine box_step ?hg (N := 6) ?hd (cs := #[.string (⟨#[]⟩ : ByteArray), .string (⟨#[]⟩ : ByteArray)]) (t := 24) ?hr ?_; (case hd => rfl); (case hg => rfl); (case hr => first | (go_simp; done) | (go_simp; rfl))
         intro gb333 hg w49 hbox hb
         have n0_ := Aside0.mk (blk_below (g := gb324) (o := .cells #[.string a0_0, .string a0_1] 24 (0, 0)) (by (with_reducible repeat (first | refine blk_drewN ?_ _ | refine blk_drew ?_ | refine blk_alloc ?_ _)); exact BK324.out) hb)
         have n1_ := Aside0.mk (blk_below (g := gb325) (o := .cells #[.string a1_0, .string a1_1] 24 (0, 0)) (by (with_reducible repeat (first | refine blk_drewN ?_ _ | refine blk_drew ?_ | refine blk_alloc ?_ _)); exact BK325.out) hb)
         have n2_ := Aside0.mk (blk_below (g := gb326) (o := .cells #[.string (⟨#[]⟩ : ByteArray), .string (⟨#[]⟩ : ByteArray)] 24 (0, 0)) (by (with_reducible repeat (first | refine blk_drewN ?_ _ | refine blk_drew ?_ | refine blk_alloc ?_ _)); exact BK326.out) hb)
         have n3_ := Aside0.mk (below_step (by repeat (first | (with_reducible first | exact HB.out | apply below_alloc | apply pw_below_drewN | apply below_drew1 | refine below_set ?_ GE324.out | refine below_set ?_ GE325.out | refine below_set ?_ GE326.out) | exact HB.out)) hb)
         have n4_ := Aside0.mk (hbox)
         have n5_ := Aside0.mk ((by rw [hg]; exact (below_size (by repeat (first | (with_reducible first | exact HB.out | apply below_alloc | apply pw_below_drewN | apply below_drew1 | refine below_set ?_ GE324.out | refine below_set ?_ GE325.out | refine below_set ?_ GE326.out) | exact HB.out))) : w.heap.size ≤ gb333))
         have n6_ := Aside0.mk ((by rw [hg]; exact (below_size (by repeat (first | (with_reducible first | exact HB.out | apply below_alloc | apply pw_below_drewN | apply below_drew1 | refine below_set ?_ GE324.out | refine below_set ?_ GE325.out | refine below_set ?_ GE326.out) | exact HB.out))) : w.heap.size ≤ gb333))
         have n7_ := Aside0.mk ((by rw [hg]; exact Nat.ne_of_lt (blk_lt (g := gb324) (o := .cells #[.string a0_0, .string a0_1] 24 (0, 0)) (by (with_reducible repeat (first | refine blk_drewN ?_ _ | refine blk_drew ?_ | refine blk_alloc ?_ _)); exact BK324.out)) : gb324 ≠ gb333))
         have n8_ := Aside0.mk ((by rw [hg]; exact Nat.ne_of_gt (blk_lt (g := gb324) (o := .cells #[.string a0_0, .string a0_1] 24 (0, 0)) (by (with_reducible repeat (first | refine blk_drewN ?_ _ | refine blk_drew ?_ | refine blk_alloc ?_ _)); exact BK324.out)) : gb333 ≠ gb324))
         have n9_ := Aside0.mk ((by rw [hg]; exact Nat.ne_of_lt (blk_lt (g := gb325) (o := .cells #[.string a1_0, .string a1_1] 24 (0, 0)) (by (with_reducible repeat (first | refine blk_drewN ?_ _ | refine blk_drew ?_ | refine blk_alloc ?_ _)); exact BK325.out)) : gb325 ≠ gb333))
         have n10_ := Aside0.mk ((by rw [hg]; exact Nat.ne_of_gt (blk_lt (g := gb325) (o := .cells #[.string a1_0, .string a1_1] 24 (0, 0)) (by (with_reducible repeat (first | refine blk_drewN ?_ _ | refine blk_drew ?_ | refine blk_alloc ?_ _)); exact BK325.out)) : gb333 ≠ gb325))
         have n11_ := Aside0.mk ((by rw [hg]; exact Nat.ne_of_lt (blk_lt (g := gb326) (o := .cells #[.string (⟨#[]⟩ : ByteArray), .string (⟨#[]⟩ : ByteArray)] 24 (0, 0)) (by (with_reducible repeat (first | refine blk_drewN ?_ _ | refine blk_drew ?_ | refine blk_alloc ?_ _)); exact BK326.out)) : gb326 ≠ gb333))
         have n12_ := Aside0.mk ((by rw [hg]; exact Nat.ne_of_gt (blk_lt (g := gb326) (o := .cells #[.string (⟨#[]⟩ : ByteArray), .string (⟨#[]⟩ : ByteArray)] 24 (0, 0)) (by (with_reducible repeat (first | refine blk_drewN ?_ _ | refine blk_drew ?_ | refine blk_alloc ?_ _)); exact BK326.out)) : gb333 ≠ gb326))
         clear BK324
         clear BK325
         clear BK326
         clear HB
         have BK324 := n0_
         have BK325 := n1_
         have BK326 := n2_
         have HB := n3_
         have BK333 := n4_
         have GW333 := n5_
         have GE333 := n6_
         have NB324_333 := n7_
         have NB333_324 := n8_
         have NB325_333 := n9_
         have NB333_325 := n10_
         have NB326_333 := n11_
         have NB333_326 := n12_
         clear n0_ n1_ n2_ n3_ n4_ n5_ n6_ n7_ n8_ n9_ n10_ n11_ n12_
         clear hb hbox hg
         refine hK.out _ _ ⟨(blk_cell BK324.out 0).trans rfl, (blk_cell BK324.out 1).trans rfl, (blk_cell BK325.out 0).trans rfl, (blk_cell BK325.out 1).trans rfl⟩ (fun hHeld => ?_)
         clear hK K
         refine norm_ (a' := ?_) ?_ ?_
         rotate_left
         ·show Act.put _ (some 6) _ = _
          simp only [Act.put, List.setIfInBounds_toArray, List.set_cons_zero, List.set_cons_succ, i64_w, i32_w]
          rfl
         refine one_ (i := 10) (N := some 24) #[true, true, true, true, true, true, true, true, true, true, true, true, false] rfl rfl (one_of HT_.out (by kernel_rfl)) (by decide) (fun K hK => ?_)
         refine goes_ Tryz.func41 (by kernel_rfl) rfl #[.string t329, .string t330] (by rfl) rfl rfl (by (try simp only [List.map_toArray, List.map_cons, List.map_nil]); try rfl) ?_
         with_reducible refine (convergent_over.calls kj2 t329 t330 t331 t332 _ ?side1 A27.out).mono ?_
         (case side1 => exact GWorld.below HG.out (by repeat (first | (with_reducible first | exact HB.out | apply below_alloc | apply pw_below_drewN | apply below_drew1 | refine below_set ?_ GE324.out | refine below_set ?_ GE325.out | refine below_set ?_ GE326.out | refine below_set ?_ GE333.out) | exact HB.out)))
         rintro e w50 ⟨rfl, hb⟩
         refine ⟨_, rfl, ?_⟩
         have n0_ := Aside0.mk (blk_below (g := gb324) (o := .cells #[.string a0_0, .string a0_1] 24 (0, 0)) (by (with_reducible repeat (first | refine blk_drewN ?_ _ | refine blk_drew ?_ | refine blk_alloc ?_ _)); exact BK324.out) hb)
         have n1_ := Aside0.mk (blk_below (g := gb325) (o := .cells #[.string a1_0, .string a1_1] 24 (0, 0)) (by (with_reducible repeat (first | refine blk_drewN ?_ _ | refine blk_drew ?_ | refine blk_alloc ?_ _)); exact BK325.out) hb)
         have n2_ := Aside0.mk (blk_below (g := gb326) (o := .cells #[.string (⟨#[]⟩ : ByteArray), .string (⟨#[]⟩ : ByteArray)] 24 (0, 0)) (by (with_reducible repeat (first | refine blk_drewN ?_ _ | refine blk_drew ?_ | refine blk_alloc ?_ _)); exact BK326.out) hb)
         have n3_ := Aside0.mk (blk_below (g := gb333) (o := .cells #[.string (⟨#[]⟩ : ByteArray), .string (⟨#[]⟩ : ByteArray)] 24 (0, 0)) (by (with_reducible repeat (first | refine blk_drewN ?_ _ | refine blk_drew ?_ | refine blk_alloc ?_ _)); exact BK333.out) hb)
         have n4_ := Aside0.mk (below_step (by repeat (first | (with_reducible first | exact HB.out | apply below_alloc | apply pw_below_drewN | apply below_drew1 | refine below_set ?_ GE324.out | refine below_set ?_ GE325.out | refine below_set ?_ GE326.out | refine below_set ?_ GE333.out) | exact HB.out)) hb)
         clear BK324
         clear BK325
         clear BK326
         clear BK333
         clear HB
         have BK324 := n0_
         have BK325 := n1_
         have BK326 := n2_
         have BK333 := n3_
         have HB := n4_
         clear n0_ n1_ n2_ n3_ n4_
         (try clear hb); (try clear hb2); (try clear hk); (try clear hi)
         refine hK.out _ _ ⟨(blk_cell BK324.out 0).trans rfl, (blk_cell BK324.out 1).trans rfl, (blk_cell BK325.out 0).trans rfl, (blk_cell BK325.out 1).trans rfl⟩ (fun hHeld => ?_)
         clear hK K
         refine norm_ (a' := ?_) ?_ ?_
         rotate_left
         ·show Act.put _ (some 24) _ = _
          simp only [Act.put, List.setIfInBounds_toArray, List.set_cons_zero, List.set_cons_succ, i64_w, i32_w]
          rfl
         exact norm_ (by simp only [putAll, Act.put, List.setIfInBounds_toArray, List.set_cons_zero, List.set_cons_succ]) (hCont (gb333) _ ⟨hHeld, (by (with_reducible repeat (first | refine blk_drewN ?_ _ | refine blk_drew ?_ | refine blk_alloc ?_ _)); exact BK324.out), (by (with_reducible repeat (first | refine blk_drewN ?_ _ | refine blk_drew ?_ | refine blk_alloc ?_ _)); exact BK325.out), (by (with_reducible repeat (first | refine blk_drewN ?_ _ | refine blk_drew ?_ | refine blk_alloc ?_ _)); exact BK326.out), (by (with_reducible repeat (first | refine blk_drewN ?_ _ | refine blk_drew ?_ | refine blk_alloc ?_ _)); exact BK333.out), GW333.out, GE333.out, NB324_333.out, NB333_324.out, NB325_333.out, NB333_325.out, NB326_333.out, NB333_326.out, (by repeat (first | (with_reducible first | exact HB.out | apply below_alloc | apply pw_below_drewN | apply below_drew1 | refine below_set ?_ GE324.out | refine below_set ?_ GE325.out | refine below_set ?_ GE326.out | refine below_set ?_ GE333.out) | exact HB.out))⟩)
       ·skip
        refine box_step ?hg (N := 6) ?hd (cs := #[.string (⟨#[]⟩ : ByteArray), .string (⟨#[]⟩ : ByteArray)]) (t := 24) ?hr ?_; (case hd => rfl); (case hg => rfl); (case hr => first | (go_simp; done) | (go_simp; rfl))
        intro gb333 hg w48 hbox hb
        have n0_ := Aside0.mk (blk_below (g := gb324) (o := .cells #[.string a0_0, .string a0_1] 24 (0, 0)) (by (with_reducible repeat (first | refine blk_drewN ?_ _ | refine blk_drew ?_ | refine blk_alloc ?_ _)); exact BK324.out) hb)
        have n1_ := Aside0.mk (blk_below (g := gb325) (o := .cells #[.string a1_0, .string a1_1] 24 (0, 0)) (by (with_reducible repeat (first | refine blk_drewN ?_ _ | refine blk_drew ?_ | refine blk_alloc ?_ _)); exact BK325.out) hb)
        have n2_ := Aside0.mk (blk_below (g := gb326) (o := .cells #[.string (⟨#[]⟩ : ByteArray), .string (⟨#[]⟩ : ByteArray)] 24 (0, 0)) (by (with_reducible repeat (first | refine blk_drewN ?_ _ | refine blk_drew ?_ | refine blk_alloc ?_ _)); exact BK326.out) hb)
        have n3_ := Aside0.mk (below_step (by repeat (first | (with_reducible first | exact HB.out | apply below_alloc | apply pw_below_drewN | apply below_drew1 | refine below_set ?_ GE324.out | refine below_set ?_ GE325.out | refine below_set ?_ GE326.out) | exact HB.out)) hb)
        have n4_ := Aside0.mk (hbox)
        have n5_ := Aside0.mk ((by rw [hg]; exact (below_size (by repeat (first | (with_reducible first | exact HB.out | apply below_alloc | apply pw_below_drewN | apply below_drew1 | refine below_set ?_ GE324.out | refine below_set ?_ GE325.out | refine below_set ?_ GE326.out) | exact HB.out))) : w.heap.size ≤ gb333))
        have n6_ := Aside0.mk ((by rw [hg]; exact (below_size (by repeat (first | (with_reducible first | exact HB.out | apply below_alloc | apply pw_below_drewN | apply below_drew1 | refine below_set ?_ GE324.out | refine below_set ?_ GE325.out | refine below_set ?_ GE326.out) | exact HB.out))) : w.heap.size ≤ gb333))
        have n7_ := Aside0.mk ((by rw [hg]; exact Nat.ne_of_lt (blk_lt (g := gb324) (o := .cells #[.string a0_0, .string a0_1] 24 (0, 0)) (by (with_reducible repeat (first | refine blk_drewN ?_ _ | refine blk_drew ?_ | refine blk_alloc ?_ _)); exact BK324.out)) : gb324 ≠ gb333))
        have n8_ := Aside0.mk ((by rw [hg]; exact Nat.ne_of_gt (blk_lt (g := gb324) (o := .cells #[.string a0_0, .string a0_1] 24 (0, 0)) (by (with_reducible repeat (first | refine blk_drewN ?_ _ | refine blk_drew ?_ | refine blk_alloc ?_ _)); exact BK324.out)) : gb333 ≠ gb324))
        have n9_ := Aside0.mk ((by rw [hg]; exact Nat.ne_of_lt (blk_lt (g := gb325) (o := .cells #[.string a1_0, .string a1_1] 24 (0, 0)) (by (with_reducible repeat (first | refine blk_drewN ?_ _ | refine blk_drew ?_ | refine blk_alloc ?_ _)); exact BK325.out)) : gb325 ≠ gb333))
        have n10_ := Aside0.mk ((by rw [hg]; exact Nat.ne_of_gt (blk_lt (g := gb325) (o := .cells #[.string a1_0, .string a1_1] 24 (0, 0)) (by (with_reducible repeat (first | refine blk_drewN ?_ _ | refine blk_drew ?_ | refine blk_alloc ?_ _)); exact BK325.out)) : gb333 ≠ gb325))
        have n11_ := Aside0.mk ((by rw [hg]; exact Nat.ne_of_lt (blk_lt (g := gb326) (o := .cells #[.string (⟨#[]⟩ : ByteArray), .string (⟨#[]⟩ : ByteArray)] 24 (0, 0)) (by (with_reducible repeat (first | refine blk_drewN ?_ _ | refine blk_drew ?_ | refine blk_alloc ?_ _)); exact BK326.out)) : gb326 ≠ gb333))
        have n12_ := Aside0.mk ((by rw [hg]; exact Nat.ne_of_gt (blk_lt (g := gb326) (o := .cells #[.string (⟨#[]⟩ : ByteArray), .string (⟨#[]⟩ : ByteArray)] 24 (0, 0)) (by (with_reducible repeat (first | refine blk_drewN ?_ _ | refine blk_drew ?_ | refine blk_alloc ?_ _)); exact BK326.out)) : gb333 ≠ gb326))
        clear BK324
        clear BK325
        clear BK326
        clear HB
        have BK324 := n0_
        have BK325 := n1_
        have BK326 := n2_
        have HB := n3_
        have BK333 := n4_
        have GW333 := n5_
        have GE333 := n6_
        have NB324_333 := n7_
        have NB333_324 := n8_
        have NB325_333 := n9_
        have NB333_325 := n10_
        have NB326_333 := n11_
        have NB333_326 := n12_
        clear n0_ n1_ n2_ n3_ n4_ n5_ n6_ n7_ n8_ n9_ n10_ n11_ n12_
        clear hb hbox hg
        refine hK.out _ _ ⟨(blk_cell BK324.out 0).trans rfl, (blk_cell BK324.out 1).trans rfl, (blk_cell BK325.out 0).trans rfl, (blk_cell BK325.out 1).trans rfl⟩ (fun hHeld => ?_)
        clear hK K
        refine norm_ (a' := ?_) ?_ ?_
        rotate_left
        ·show Act.put _ (some 6) _ = _
         simp only [Act.put, List.setIfInBounds_toArray, List.set_cons_zero, List.set_cons_succ, i64_w, i32_w]
         rfl
        refine one_ (i := 9) (N := some 23) #[true, true, true, true, true, true, true, true, true, true, false, true, false] rfl rfl (one_of HT_.out (by kernel_rfl)) (by decide) (fun K hK => ?_)
        refine goes_ Tryz.func42 (by kernel_rfl) rfl #[.string a0_1, .string a1_1] (by rfl) rfl rfl (by (try simp only [List.map_toArray, List.map_cons, List.map_nil]); try rfl) ?_
        with_reducible refine (whole_Add.calls kj2 a0_1 a1_1 t330 _ ?side1 A26.out).mono ?_
        (case side1 => exact GWorld.below HG.out (by repeat (first | (with_reducible first | exact HB.out | apply below_alloc | apply pw_below_drewN | apply below_drew1 | refine below_set ?_ GE324.out | refine below_set ?_ GE325.out | refine below_set ?_ GE326.out | refine below_set ?_ GE333.out) | exact HB.out)))
        rintro e w49 ⟨rfl, hb⟩
        refine ⟨_, rfl, ?_⟩
        have n0_ := Aside0.mk (blk_below (g := gb324) (o := .cells #[.string a0_0, .string a0_1] 24 (0, 0)) (by (with_reducible repeat (first | refine blk_drewN ?_ _ | refine blk_drew ?_ | refine blk_alloc ?_ _)); exact BK324.out) hb)
        have n1_ := Aside0.mk (blk_below (g := gb325) (o := .cells #[.string a1_0, .string a1_1] 24 (0, 0)) (by (with_reducible repeat (first | refine blk_drewN ?_ _ | refine blk_drew ?_ | refine blk_alloc ?_ _)); exact BK325.out) hb)
        have n2_ := Aside0.mk (blk_below (g := gb326) (o := .cells #[.string (⟨#[]⟩ : ByteArray), .string (⟨#[]⟩ : ByteArray)] 24 (0, 0)) (by (with_reducible repeat (first | refine blk_drewN ?_ _ | refine blk_drew ?_ | refine blk_alloc ?_ _)); exact BK326.out) hb)
        have n3_ := Aside0.mk (blk_below (g := gb333) (o := .cells #[.string (⟨#[]⟩ : ByteArray), .string (⟨#[]⟩ : ByteArray)] 24 (0, 0)) (by (with_reducible repeat (first | refine blk_drewN ?_ _ | refine blk_drew ?_ | refine blk_alloc ?_ _)); exact BK333.out) hb)
        have n4_ := Aside0.mk (below_step (by repeat (first | (with_reducible first | exact HB.out | apply below_alloc | apply pw_below_drewN | apply below_drew1 | refine below_set ?_ GE324.out | refine below_set ?_ GE325.out | refine below_set ?_ GE326.out | refine below_set ?_ GE333.out) | exact HB.out)) hb)
        clear BK324
        clear BK325
        clear BK326
        clear BK333
        clear HB
        have BK324 := n0_
        have BK325 := n1_
        have BK326 := n2_
        have BK333 := n3_
        have HB := n4_
        clear n0_ n1_ n2_ n3_ n4_
        (try clear hb); (try clear hb2); (try clear hk); (try clear hi)
        refine hK.out _ _ ⟨(blk_cell BK324.out 0).trans rfl, (blk_cell BK324.out 1).trans rfl, (blk_cell BK325.out 0).trans rfl, (blk_cell BK325.out 1).trans rfl⟩ (fun hHeld => ?_)
        clear hK K
        refine norm_ (a' := ?_) ?_ ?_
        rotate_left
        ·show Act.put _ (some 23) _ = _
         simp only [Act.put, List.setIfInBounds_toArray, List.set_cons_zero, List.set_cons_succ, i64_w, i32_w]
         rfl
        refine one_ (i := 10) (N := some 24) #[true, true, true, true, true, true, true, true, true, true, true, true, false] rfl rfl (one_of HT_.out (by kernel_rfl)) (by decide) (fun K hK => ?_)
        refine goes_ Tryz.func41 (by kernel_rfl) rfl #[.string t329, .string t330] (by rfl) rfl rfl (by (try simp only [List.map_toArray, List.map_cons, List.map_nil]); try rfl) ?_
        with_reducible refine (convergent_over.calls kj2 t329 t330 t331 t332 _ ?side1 A27.out).mono ?_
        (case side1 => exact GWorld.below HG.out (by repeat (first | (with_reducible first | exact HB.out | apply below_alloc | apply pw_below_drewN | apply below_drew1 | refine below_set ?_ GE324.out | refine below_set ?_ GE325.out | refine below_set ?_ GE326.out | refine below_set ?_ GE333.out) | exact HB.out)))
        rintro e w50 ⟨rfl, hb⟩
        refine ⟨_, rfl, ?_⟩
        have n0_ := Aside0.mk (blk_below (g := gb324) (o := .cells #[.string a0_0, .string a0_1] 24 (0, 0)) (by (with_reducible repeat (first | refine blk_drewN ?_ _ | refine blk_drew ?_ | refine blk_alloc ?_ _)); exact BK324.out) hb)
        have n1_ := Aside0.mk (blk_below (g := gb325) (o := .cells #[.string a1_0, .string a1_1] 24 (0, 0)) (by (with_reducible repeat (first | refine blk_drewN ?_ _ | refine blk_drew ?_ | refine blk_alloc ?_ _)); exact BK325.out) hb)
        have n2_ := Aside0.mk (blk_below (g := gb326) (o := .cells #[.string (⟨#[]⟩ : ByteArray), .string (⟨#[]⟩ : ByteArray)] 24 (0, 0)) (by (with_reducible repeat (first | refine blk_drewN ?_ _ | refine blk_drew ?_ | refine blk_alloc ?_ _)); exact BK326.out) hb)
        have n3_ := Aside0.mk (blk_below (g := gb333) (o := .cells #[.string (⟨#[]⟩ : ByteArray), .string (⟨#[]⟩ : ByteArray)] 24 (0, 0)) (by (with_reducible repeat (first | refine blk_drewN ?_ _ | refine blk_drew ?_ | refine blk_alloc ?_ _)); exact BK333.out) hb)
        have n4_ := Aside0.mk (below_step (by repeat (first | (with_reducible first | exact HB.out | apply below_alloc | apply pw_below_drewN | apply below_drew1 | refine below_set ?_ GE324.out | refine below_set ?_ GE325.out | refine below_set ?_ GE326.out | refine below_set ?_ GE333.out) | exact HB.out)) hb)
        clear BK324
        clear BK325
        clear BK326
        clear BK333
        clear HB
        have BK324 := n0_
        have BK325 := n1_
        have BK326 := n2_
        have BK333 := n3_
        have HB := n4_
        clear n0_ n1_ n2_ n3_ n4_
        (try clear hb); (try clear hb2); (try clear hk); (try clear hi)
        refine hK.out _ _ ⟨(blk_cell BK324.out 0).trans rfl, (blk_cell BK324.out 1).trans rfl, (blk_cell BK325.out 0).trans rfl, (blk_cell BK325.out 1).trans rfl⟩ (fun hHeld => ?_)
        clear hK K
        refine norm_ (a' := ?_) ?_ ?_
        rotate_left
        ·show Act.put _ (some 24) _ = _
         simp only [Act.put, List.setIfInBounds_toArray, List.set_cons_zero, List.set_cons_succ, i64_w, i32_w]
         rfl
        exact norm_ (by simp only [putAll, Act.put, List.setIfInBounds_toArray, List.set_cons_zero, List.set_cons_succ]) (hCont (gb333) _ ⟨hHeld, (by (with_reducible repeat (first | refine blk_drewN ?_ _ | refine blk_drew ?_ | refine blk_alloc ?_ _)); exact BK324.out), (by (with_reducible repeat (first | refine blk_drewN ?_ _ | refine blk_drew ?_ | refine blk_alloc ?_ _)); exact BK325.out), (by (with_reducible repeat (first | refine blk_drewN ?_ _ | refine blk_drew ?_ | refine blk_alloc ?_ _)); exact BK326.out), (by (with_reducible repeat (first | refine blk_drewN ?_ _ | refine blk_drew ?_ | refine blk_alloc ?_ _)); exact BK333.out), GW333.out, GE333.out, NB324_333.out, NB333_324.out, NB325_333.out, NB333_325.out, NB326_333.out, NB333_326.out, (by repeat (first | (with_reducible first | exact HB.out | apply below_alloc | apply pw_below_drewN | apply below_drew1 | refine below_set ?_ GE324.out | refine below_set ?_ GE325.out | refine below_set ?_ GE326.out | refine below_set ?_ GE333.out) | exact HB.out))⟩)
      ·skip
       refine box_step ?hg (N := 6) ?hd (cs := #[.string (⟨#[]⟩ : ByteArray), .string (⟨#[]⟩ : ByteArray)]) (t := 24) ?hr ?_; (case hd => rfl); (case hg => rfl); (case hr => first | (go_simp; done) | (go_simp; rfl))
       intro gb333 hg w47 hbox hb
       have n0_ := Aside0.mk (blk_below (g := gb324) (o := .cells #[.string a0_0, .string a0_1] 24 (0, 0)) (by (with_reducible repeat (first | refine blk_drewN ?_ _ | refine blk_drew ?_ | refine blk_alloc ?_ _)); exact BK324.out) hb)
       have n1_ := Aside0.mk (blk_below (g := gb325) (o := .cells #[.string a1_0, .string a1_1] 24 (0, 0)) (by (with_reducible repeat (first | refine blk_drewN ?_ _ | refine blk_drew ?_ | refine blk_alloc ?_ _)); exact BK325.out) hb)
       have n2_ := Aside0.mk (blk_below (g := gb326) (o := .cells #[.string (⟨#[]⟩ : ByteArray), .string (⟨#[]⟩ : ByteArray)] 24 (0, 0)) (by (with_reducible repeat (first | refine blk_drewN ?_ _ | refine blk_drew ?_ | refine blk_alloc ?_ _)); exact BK326.out) hb)
       have n3_ := Aside0.mk (below_step (by repeat (first | (with_reducible first | exact HB.out | apply below_alloc | apply pw_below_drewN | apply below_drew1 | refine below_set ?_ GE324.out | refine below_set ?_ GE325.out | refine below_set ?_ GE326.out) | exact HB.out)) hb)
       have n4_ := Aside0.mk (hbox)
       have n5_ := Aside0.mk ((by rw [hg]; exact (below_size (by repeat (first | (with_reducible first | exact HB.out | apply below_alloc | apply pw_below_drewN | apply below_drew1 | refine below_set ?_ GE324.out | refine below_set ?_ GE325.out | refine below_set ?_ GE326.out) | exact HB.out))) : w.heap.size ≤ gb333))
       have n6_ := Aside0.mk ((by rw [hg]; exact (below_size (by repeat (first | (with_reducible first | exact HB.out | apply below_alloc | apply pw_below_drewN | apply below_drew1 | refine below_set ?_ GE324.out | refine below_set ?_ GE325.out | refine below_set ?_ GE326.out) | exact HB.out))) : w.heap.size ≤ gb333))
       have n7_ := Aside0.mk ((by rw [hg]; exact Nat.ne_of_lt (blk_lt (g := gb324) (o := .cells #[.string a0_0, .string a0_1] 24 (0, 0)) (by (with_reducible repeat (first | refine blk_drewN ?_ _ | refine blk_drew ?_ | refine blk_alloc ?_ _)); exact BK324.out)) : gb324 ≠ gb333))
       have n8_ := Aside0.mk ((by rw [hg]; exact Nat.ne_of_gt (blk_lt (g := gb324) (o := .cells #[.string a0_0, .string a0_1] 24 (0, 0)) (by (with_reducible repeat (first | refine blk_drewN ?_ _ | refine blk_drew ?_ | refine blk_alloc ?_ _)); exact BK324.out)) : gb333 ≠ gb324))
       have n9_ := Aside0.mk ((by rw [hg]; exact Nat.ne_of_lt (blk_lt (g := gb325) (o := .cells #[.string a1_0, .string a1_1] 24 (0, 0)) (by (with_reducible repeat (first | refine blk_drewN ?_ _ | refine blk_drew ?_ | refine blk_alloc ?_ _)); exact BK325.out)) : gb325 ≠ gb333))
       have n10_ := Aside0.mk ((by rw [hg]; exact Nat.ne_of_gt (blk_lt (g := gb325) (o := .cells #[.string a1_0, .string a1_1] 24 (0, 0)) (by (with_reducible repeat (first | refine blk_drewN ?_ _ | refine blk_drew ?_ | refine blk_alloc ?_ _)); exact BK325.out)) : gb333 ≠ gb325))
       have n11_ := Aside0.mk ((by rw [hg]; exact Nat.ne_of_lt (blk_lt (g := gb326) (o := .cells #[.string (⟨#[]⟩ : ByteArray), .string (⟨#[]⟩ : ByteArray)] 24 (0, 0)) (by (with_reducible repeat (first | refine blk_drewN ?_ _ | refine blk_drew ?_ | refine blk_alloc ?_ _)); exact BK326.out)) : gb326 ≠ gb333))
       have n12_ := Aside0.mk ((by rw [hg]; exact Nat.ne_of_gt (blk_lt (g := gb326) (o := .cells #[.string (⟨#[]⟩ : ByteArray), .string (⟨#[]⟩ : ByteArray)] 24 (0, 0)) (by (with_reducible repeat (first | refine blk_drewN ?_ _ | refine blk_drew ?_ | refine blk_alloc ?_ _)); exact BK326.out)) : gb333 ≠ gb326))
       clear BK324
       clear BK325
       clear BK326
       clear HB
       have BK324 := n0_
       have BK325 := n1_
       have BK326 := n2_
       have HB := n3_
       have BK333 := n4_
       have GW333 := n5_
       have GE333 := n6_
       have NB324_333 := n7_
       have NB333_324 := n8_
       have NB325_333 := n9_
       have NB333_325 := n10_
       have NB326_333 := n11_
       have NB333_326 := n12_
       clear n0_ n1_ n2_ n3_ n4_ n5_ n6_ n7_ n8_ n9_ n10_ n11_ n12_
       clear hb hbox hg
       refine hK.out _ _ ⟨(blk_cell BK324.out 0).trans rfl, (blk_cell BK324.out 1).trans rfl, (blk_cell BK325.out 0).trans rfl, (blk_cell BK325.out 1).trans rfl⟩ (fun hHeld => ?_)
       clear hK K
       refine norm_ (a' := ?_) ?_ ?_
       rotate_left
       ·show Act.put _ (some 6) _ = _
        simp only [Act.put, List.setIfInBounds_toArray, List.set_cons_zero, List.set_cons_succ, i64_w, i32_w]
        rfl
       refine one_ (i := 4) (N := some 18) #[true, true, true, true, true, true, true, true, true, false, false, true, false] rfl rfl (one_of HT_.out (by kernel_rfl)) (by decide) (fun K hK => ?_)
       refine goes_ Tryz.func42 (by kernel_rfl) rfl #[.string a0_0, .string a1_0] (by rfl) rfl rfl (by (try simp only [List.map_toArray, List.map_cons, List.map_nil]); try rfl) ?_
       with_reducible refine (whole_Add.calls kj2 a0_0 a1_0 t329 _ ?side1 A25.out).mono ?_
       (case side1 => exact GWorld.below HG.out (by repeat (first | (with_reducible first | exact HB.out | apply below_alloc | apply pw_below_drewN | apply below_drew1 | refine below_set ?_ GE324.out | refine below_set ?_ GE325.out | refine below_set ?_ GE326.out | refine below_set ?_ GE333.out) | exact HB.out)))
       rintro e w48 ⟨rfl, hb⟩
       refine ⟨_, rfl, ?_⟩
       have n0_ := Aside0.mk (blk_below (g := gb324) (o := .cells #[.string a0_0, .string a0_1] 24 (0, 0)) (by (with_reducible repeat (first | refine blk_drewN ?_ _ | refine blk_drew ?_ | refine blk_alloc ?_ _)); exact BK324.out) hb)
       have n1_ := Aside0.mk (blk_below (g := gb325) (o := .cells #[.string a1_0, .string a1_1] 24 (0, 0)) (by (with_reducible repeat (first | refine blk_drewN ?_ _ | refine blk_drew ?_ | refine blk_alloc ?_ _)); exact BK325.out) hb)
       have n2_ := Aside0.mk (blk_below (g := gb326) (o := .cells #[.string (⟨#[]⟩ : ByteArray), .string (⟨#[]⟩ : ByteArray)] 24 (0, 0)) (by (with_reducible repeat (first | refine blk_drewN ?_ _ | refine blk_drew ?_ | refine blk_alloc ?_ _)); exact BK326.out) hb)
       have n3_ := Aside0.mk (blk_below (g := gb333) (o := .cells #[.string (⟨#[]⟩ : ByteArray), .string (⟨#[]⟩ : ByteArray)] 24 (0, 0)) (by (with_reducible repeat (first | refine blk_drewN ?_ _ | refine blk_drew ?_ | refine blk_alloc ?_ _)); exact BK333.out) hb)
       have n4_ := Aside0.mk (below_step (by repeat (first | (with_reducible first | exact HB.out | apply below_alloc | apply pw_below_drewN | apply below_drew1 | refine below_set ?_ GE324.out | refine below_set ?_ GE325.out | refine below_set ?_ GE326.out | refine below_set ?_ GE333.out) | exact HB.out)) hb)
       clear BK324
       clear BK325
       clear BK326
       clear BK333
       clear HB
       have BK324 := n0_
       have BK325 := n1_
       have BK326 := n2_
       have BK333 := n3_
       have HB := n4_
       clear n0_ n1_ n2_ n3_ n4_
       (try clear hb); (try clear hb2); (try clear hk); (try clear hi)
       refine hK.out _ _ ⟨(blk_cell BK324.out 0).trans rfl, (blk_cell BK324.out 1).trans rfl, (blk_cell BK325.out 0).trans rfl, (blk_cell BK325.out 1).trans rfl⟩ (fun hHeld => ?_)
       clear hK K
       refine norm_ (a' := ?_) ?_ ?_
       rotate_left
       ·show Act.put _ (some 18) _ = _
        simp only [Act.put, List.setIfInBounds_toArray, List.set_cons_zero, List.set_cons_succ, i64_w, i32_w]
        rfl
       refine one_ (i := 9) (N := some 23) #[true, true, true, true, true, true, true, true, true, true, false, true, false] rfl rfl (one_of HT_.out (by kernel_rfl)) (by decide) (fun K hK => ?_)
       refine goes_ Tryz.func42 (by kernel_rfl) rfl #[.string a0_1, .string a1_1] (by rfl) rfl rfl (by (try simp only [List.map_toArray, List.map_cons, List.map_nil]); try rfl) ?_
       with_reducible refine (whole_Add.calls kj2 a0_1 a1_1 t330 _ ?side1 A26.out).mono ?_
       (case side1 => exact GWorld.below HG.out (by repeat (first | (with_reducible first | exact HB.out | apply below_alloc | apply pw_below_drewN | apply below_drew1 | refine below_set ?_ GE324.out | refine below_set ?_ GE325.out | refine below_set ?_ GE326.out | refine below_set ?_ GE333.out) | exact HB.out)))
       rintro e w49 ⟨rfl, hb⟩
       refine ⟨_, rfl, ?_⟩
       have n0_ := Aside0.mk (blk_below (g := gb324) (o := .cells #[.string a0_0, .string a0_1] 24 (0, 0)) (by (with_reducible repeat (first | refine blk_drewN ?_ _ | refine blk_drew ?_ | refine blk_alloc ?_ _)); exact BK324.out) hb)
       have n1_ := Aside0.mk (blk_below (g := gb325) (o := .cells #[.string a1_0, .string a1_1] 24 (0, 0)) (by (with_reducible repeat (first | refine blk_drewN ?_ _ | refine blk_drew ?_ | refine blk_alloc ?_ _)); exact BK325.out) hb)
       have n2_ := Aside0.mk (blk_below (g := gb326) (o := .cells #[.string (⟨#[]⟩ : ByteArray), .string (⟨#[]⟩ : ByteArray)] 24 (0, 0)) (by (with_reducible repeat (first | refine blk_drewN ?_ _ | refine blk_drew ?_ | refine blk_alloc ?_ _)); exact BK326.out) hb)
       have n3_ := Aside0.mk (blk_below (g := gb333) (o := .cells #[.string (⟨#[]⟩ : ByteArray), .string (⟨#[]⟩ : ByteArray)] 24 (0, 0)) (by (with_reducible repeat (first | refine blk_drewN ?_ _ | refine blk_drew ?_ | refine blk_alloc ?_ _)); exact BK333.out) hb)
       have n4_ := Aside0.mk (below_step (by repeat (first | (with_reducible first | exact HB.out | apply below_alloc | apply pw_below_drewN | apply below_drew1 | refine below_set ?_ GE324.out | refine below_set ?_ GE325.out | refine below_set ?_ GE326.out | refine below_set ?_ GE333.out) | exact HB.out)) hb)
       clear BK324
       clear BK325
       clear BK326
       clear BK333
       clear HB
       have BK324 := n0_
       have BK325 := n1_
       have BK326 := n2_
       have BK333 := n3_
       have HB := n4_
       clear n0_ n1_ n2_ n3_ n4_
       (try clear hb); (try clear hb2); (try clear hk); (try clear hi)
       refine hK.out _ _ ⟨(blk_cell BK324.out 0).trans rfl, (blk_cell BK324.out 1).trans rfl, (blk_cell BK325.out 0).trans rfl, (blk_cell BK325.out 1).trans rfl⟩ (fun hHeld => ?_)
       clear hK K
       refine norm_ (a' := ?_) ?_ ?_
       rotate_left
       ·show Act.put _ (some 23) _ = _
        simp only [Act.put, List.setIfInBounds_toArray, List.set_cons_zero, List.set_cons_succ, i64_w, i32_w]
        rfl
       refine one_ (i := 10) (N := some 24) #[true, true, true, true, true, true, true, true, true, true, true, true, false] rfl rfl (one_of HT_.out (by kernel_rfl)) (by decide) (fun K hK => ?_)
       refine goes_ Tryz.func41 (by kernel_rfl) rfl #[.string t329, .string t330] (by rfl) rfl rfl (by (try simp only [List.map_toArray, List.map_cons, List.map_nil]); try rfl) ?_
       with_reducible refine (convergent_over.calls kj2 t329 t330 t331 t332 _ ?side1 A27.out).mono ?_
       (case side1 => exact GWorld.below HG.out (by repeat (first | (with_reducible first | exact HB.out | apply below_alloc | apply pw_below_drewN | apply below_drew1 | refine below_set ?_ GE324.out | refine below_set ?_ GE325.out | refine below_set ?_ GE326.out | refine below_set ?_ GE333.out) | exact HB.out)))
       rintro e w50 ⟨rfl, hb⟩
       refine ⟨_, rfl, ?_⟩
       have n0_ := Aside0.mk (blk_below (g := gb324) (o := .cells #[.string a0_0, .string a0_1] 24 (0, 0)) (by (with_reducible repeat (first | refine blk_drewN ?_ _ | refine blk_drew ?_ | refine blk_alloc ?_ _)); exact BK324.out) hb)
       have n1_ := Aside0.mk (blk_below (g := gb325) (o := .cells #[.string a1_0, .string a1_1] 24 (0, 0)) (by (with_reducible repeat (first | refine blk_drewN ?_ _ | refine blk_drew ?_ | refine blk_alloc ?_ _)); exact BK325.out) hb)
       have n2_ := Aside0.mk (blk_below (g := gb326) (o := .cells #[.string (⟨#[]⟩ : ByteArray), .string (⟨#[]⟩ : ByteArray)] 24 (0, 0)) (by (with_reducible repeat (first | refine blk_drewN ?_ _ | refine blk_drew ?_ | refine blk_alloc ?_ _)); exact BK326.out) hb)
       have n3_ := Aside0.mk (blk_below (g := gb333) (o := .cells #[.string (⟨#[]⟩ : ByteArray), .string (⟨#[]⟩ : ByteArray)] 24 (0, 0)) (by (with_reducible repeat (first | refine blk_drewN ?_ _ | refine blk_drew ?_ | refine blk_alloc ?_ _)); exact BK333.out) hb)
       have n4_ := Aside0.mk (below_step (by repeat (first | (with_reducible first | exact HB.out | apply below_alloc | apply pw_below_drewN | apply below_drew1 | refine below_set ?_ GE324.out | refine below_set ?_ GE325.out | refine below_set ?_ GE326.out | refine below_set ?_ GE333.out) | exact HB.out)) hb)
       clear BK324
       clear BK325
       clear BK326
       clear BK333
       clear HB
       have BK324 := n0_
       have BK325 := n1_
       have BK326 := n2_
       have BK333 := n3_
       have HB := n4_
       clear n0_ n1_ n2_ n3_ n4_
       (try clear hb); (try clear hb2); (try clear hk); (try clear hi)
       refine hK.out _ _ ⟨(blk_cell BK324.out 0).trans rfl, (blk_cell BK324.out 1).trans rfl, (blk_cell BK325.out 0).trans rfl, (blk_cell BK325.out 1).trans rfl⟩ (fun hHeld => ?_)
       clear hK K
       refine norm_ (a' := ?_) ?_ ?_
       rotate_left
       ·show Act.put _ (some 24) _ = _
        simp only [Act.put, List.setIfInBounds_toArray, List.set_cons_zero, List.set_cons_succ, i64_w, i32_w]
        rfl
       exact norm_ (by simp only [putAll, Act.put, List.setIfInBounds_toArray, List.set_cons_zero, List.set_cons_succ]) (hCont (gb333) _ ⟨hHeld, (by (with_reducible repeat (first | refine blk_drewN ?_ _ | refine blk_drew ?_ | refine blk_alloc ?_ _)); exact BK324.out), (by (with_reducible repeat (first | refine blk_drewN ?_ _ | refine blk_drew ?_ | refine blk_alloc ?_ _)); exact BK325.out), (by (with_reducible repeat (first | refine blk_drewN ?_ _ | refine blk_drew ?_ | refine blk_alloc ?_ _)); exact BK326.out), (by (with_reducible repeat (first | refine blk_drewN ?_ _ | refine blk_drew ?_ | refine blk_alloc ?_ _)); exact BK333.out), GW333.out, GE333.out, NB324_333.out, NB333_324.out, NB325_333.out, NB333_325.out, NB326_333.out, NB333_326.out, (by repeat (first | (with_reducible first | exact HB.out | apply below_alloc | apply pw_below_drewN | apply below_drew1 | refine below_set ?_ GE324.out | refine below_set ?_ GE325.out | refine below_set ?_ GE326.out | refine below_set ?_ GE333.out) | exact HB.out))⟩)
     rintro gb333 w51 ⟨hS_, h0_, h1_, h2_, h3_, h4_, h5_, h6_, h7_, h8_, h9_, h10_, h11_, h12_⟩
     have n0_ : Aside0 (w51.heap[gb324]? = some (.cells #[.string a0_0, .string a0_1] 24 (0, 0))) := ⟨h0_⟩
     have n1_ : Aside0 (w51.heap[gb325]? = some (.cells #[.string a1_0, .string a1_1] 24 (0, 0))) := ⟨h1_⟩
     have n2_ : Aside0 (w51.heap[gb326]? = some (.cells #[.string (⟨#[]⟩ : ByteArray), .string (⟨#[]⟩ : ByteArray)] 24 (0, 0))) := ⟨h2_⟩
     have n3_ : Aside0 (w51.heap[gb333]? = some (.cells #[.string (⟨#[]⟩ : ByteArray), .string (⟨#[]⟩ : ByteArray)] 24 (0, 0))) := ⟨h3_⟩
     have n4_ : Aside0 (w.heap.size ≤ gb333) := ⟨h4_⟩
     have n5_ : Aside0 (w.heap.size ≤ gb333) := ⟨h5_⟩
     have n6_ : Aside0 (gb324 ≠ gb333) := ⟨h6_⟩
     have n7_ : Aside0 (gb333 ≠ gb324) := ⟨h7_⟩
     have n8_ : Aside0 (gb325 ≠ gb333) := ⟨h8_⟩
     have n9_ : Aside0 (gb333 ≠ gb325) := ⟨h9_⟩
     have n10_ : Aside0 (gb326 ≠ gb333) := ⟨h10_⟩
     have n11_ : Aside0 (gb333 ≠ gb326) := ⟨h11_⟩
     have n12_ : Aside0 (Below w.heap.size w w51) := ⟨h12_⟩
     clear BK324
     clear BK325
     clear BK326
     clear HB
     clear h0_ h1_ h2_ h3_ h4_ h5_ h6_ h7_ h8_ h9_ h10_ h11_ h12_
     have BK324 := n0_
     have BK325 := n1_
     have BK326 := n2_
     have BK333 := n3_
     have GW333 := n4_
     have GE333 := n5_
     have NB324_333 := n6_
     have NB333_324 := n7_
     have NB325_333 := n8_
     have NB333_325 := n9_
     have NB326_333 := n10_
     have NB333_326 := n11_
     have HB := n12_
     clear n0_ n1_ n2_ n3_ n4_ n5_ n6_ n7_ n8_ n9_ n10_ n11_ n12_
     have hHeld : w51.cell? ⟨gb324, 0, none⟩ = some (.string a0_0) ∧ w51.cell? ⟨gb324, 1, none⟩ = some (.string a0_1) ∧ w51.cell? ⟨gb325, 0, none⟩ = some (.string a1_0) ∧ w51.cell? ⟨gb325, 1, none⟩ = some (.string a1_1) := hS_
     refine norm_ (a' := ?_) ?_ ?_
     rotate_left
     ·simp only [putAll, Act.put, List.setIfInBounds_toArray, List.set_cons_zero, List.set_cons_succ]
      rfl
     refine one_ (i := 12) (N := none) #[true, true, true, true, true, true, true, true, true, true, true, true, true] rfl rfl (one_of HT_.out (by kernel_rfl)) (by decide) (fun K hK => ?_)
     have hs52 : w51.cell? ⟨gb333, 0, none⟩ = some (.string (⟨#[]⟩ : ByteArray)) := (blk_cell BK333.out 0).trans rfl
     have hfs52 := blk_frozen BK333.out 0
     have hns52_0 := NB324_333.out
     have hns52_1 := NB325_333.out
     have hns52_2 := NB326_333.out
     have hms52_0 := NB333_324.out
     have hms52_1 := NB333_325.out
     have hms52_2 := NB333_326.out
     have hs53 : w51.cell? ⟨gb333, 1, none⟩ = some (.string (⟨#[]⟩ : ByteArray)) := (blk_cell BK333.out 1).trans rfl
     have hfs53 := blk_frozen BK333.out 1
     have hns53_0 := NB324_333.out
     have hns53_1 := NB325_333.out
     have hns53_2 := NB326_333.out
     have hms53_0 := NB333_324.out
     have hms53_1 := NB333_325.out
     have hms53_2 := NB333_326.out
     refine skip_ (w1 := ?_) (by rfl) rfl ?_ ?_
     rotate_left
     ·go_simp
      rfl
     refine hK.out _ _ ⟨((cell_far (p := ⟨gb333, _, none⟩) NB324_333.out _).trans (((cell_far (p := ⟨gb333, _, none⟩) NB324_333.out _).trans (hHeld.1)))), ((cell_far (p := ⟨gb333, _, none⟩) NB324_333.out _).trans (((cell_far (p := ⟨gb333, _, none⟩) NB324_333.out _).trans (hHeld.2.1)))), ((cell_far (p := ⟨gb333, _, none⟩) NB325_333.out _).trans (((cell_far (p := ⟨gb333, _, none⟩) NB325_333.out _).trans (hHeld.2.2.1)))), ((cell_far (p := ⟨gb333, _, none⟩) NB325_333.out _).trans (((cell_far (p := ⟨gb333, _, none⟩) NB325_333.out _).trans (hHeld.2.2.2))))⟩ (fun hHeld => ?_)
     clear hK K
     refine done_ (done_of HT_.out (by kernel_rfl)) ?_
     have hnb54 := NB333_324.out
     have hnc54 := NB324_333.out
     have hnb55 := NB333_325.out
     have hnc55 := NB325_333.out
     have hnb56 := NB333_326.out
     have hnc56 := NB326_333.out
     have hcz57_0 : w51.cell? ⟨gb333, 0, none⟩ = some (.string (⟨#[]⟩ : ByteArray)) := (blk_cell BK333.out 0).trans rfl
     have hcz57_1 : w51.cell? ⟨gb333, 1, none⟩ = some (.string (⟨#[]⟩ : ByteArray)) := (blk_cell BK333.out 1).trans rfl
     have hfz57_0 := blk_frozen BK333.out 0
     have hfz57_1 := blk_frozen BK333.out 1
     try go_wp2_with (first | ((with_reducible refine gate_callee (f := 40) rfl ?_); refine goesL_ (some 26) rfl rfl Tryz.func40 (by kernel_rfl) rfl #[.agg #[.string t331, .string t332]] rfl (by (try simp only [List.map_toArray, List.map_cons, List.map_nil]); try rfl) ?_; (with_reducible refine (convergent_wrong.calls kj2 t331 t332 false _ ?side1 A28.out).mono ?_); (case side1 => exact GWorld.below HG.out (by repeat (first | (with_reducible first | exact HB.out | apply below_alloc | apply pw_below_drewN | apply below_drew1 | refine below_set ?_ GE324.out | refine below_set ?_ GE325.out | refine below_set ?_ GE326.out | refine below_set ?_ GE333.out) | exact HB.out))); rintro e w58 ⟨rfl, hb⟩; refine ⟨_, rfl, ?_⟩; have n0_ := Aside0.mk (blk_below (g := gb324) (o := .cells #[.string a0_0, .string a0_1] 24 (0, 0)) (by (with_reducible repeat (first | refine blk_drewN ?_ _ | refine blk_drew ?_ | refine blk_alloc ?_ _)); refine blk_far ?_ NB324_333.out _; (with_reducible repeat (first | refine blk_drewN ?_ _ | refine blk_drew ?_ | refine blk_alloc ?_ _)); refine blk_far ?_ NB324_333.out _; (with_reducible repeat (first | refine blk_drewN ?_ _ | refine blk_drew ?_ | refine blk_alloc ?_ _)); exact BK324.out) hb); have n1_ := Aside0.mk (blk_below (g := gb325) (o := .cells #[.string a1_0, .string a1_1] 24 (0, 0)) (by (with_reducible repeat (first | refine blk_drewN ?_ _ | refine blk_drew ?_ | refine blk_alloc ?_ _)); refine blk_far ?_ NB325_333.out _; (with_reducible repeat (first | refine blk_drewN ?_ _ | refine blk_drew ?_ | refine blk_alloc ?_ _)); refine blk_far ?_ NB325_333.out _; (with_reducible repeat (first | refine blk_drewN ?_ _ | refine blk_drew ?_ | refine blk_alloc ?_ _)); exact BK325.out) hb); have n2_ := Aside0.mk (blk_below (g := gb326) (o := .cells #[.string (⟨#[]⟩ : ByteArray), .string (⟨#[]⟩ : ByteArray)] 24 (0, 0)) (by (with_reducible repeat (first | refine blk_drewN ?_ _ | refine blk_drew ?_ | refine blk_alloc ?_ _)); refine blk_far ?_ NB326_333.out _; (with_reducible repeat (first | refine blk_drewN ?_ _ | refine blk_drew ?_ | refine blk_alloc ?_ _)); refine blk_far ?_ NB326_333.out _; (with_reducible repeat (first | refine blk_drewN ?_ _ | refine blk_drew ?_ | refine blk_alloc ?_ _)); exact BK326.out) hb); have n3_ := Aside0.mk (blk_below (g := gb333) (o := .cells #[.string t331, .string t332] 24 (0, 0)) (by (with_reducible repeat (first | refine blk_drewN ?_ _ | refine blk_drew ?_ | refine blk_alloc ?_ _)); refine blk_put (cs := #[.string t331, .string (⟨#[]⟩ : ByteArray)]) ?_ 1 _ rfl; (with_reducible repeat (first | refine blk_drewN ?_ _ | refine blk_drew ?_ | refine blk_alloc ?_ _)); refine blk_put (cs := #[.string (⟨#[]⟩ : ByteArray), .string (⟨#[]⟩ : ByteArray)]) ?_ 0 _ rfl; (with_reducible repeat (first | refine blk_drewN ?_ _ | refine blk_drew ?_ | refine blk_alloc ?_ _)); exact BK333.out) hb); have n4_ := Aside0.mk (below_step (by repeat (first | (with_reducible first | exact HB.out | apply below_alloc | apply pw_below_drewN | apply below_drew1 | refine below_set ?_ GE324.out | refine below_set ?_ GE325.out | refine below_set ?_ GE326.out | refine below_set ?_ GE333.out) | exact HB.out)) hb); clear BK324; clear BK325; clear BK326; clear BK333; clear HB; have BK324 := n0_; have BK325 := n1_; have BK326 := n2_; have BK333 := n3_; have HB := n4_; clear n0_ n1_ n2_ n3_ n4_; (try clear hb); (try clear hb2); (try clear hk); (try clear hi); have hcz59_0 : w58.cell? ⟨gb333, 0, none⟩ = some (.string t331) := (blk_cell BK333.out 0).trans rfl; have hcz59_1 : w58.cell? ⟨gb333, 1, none⟩ = some (.string t332) := (blk_cell BK333.out 1).trans rfl; have hfz59_0 := blk_frozen BK333.out 0; have hfz59_1 := blk_frozen BK333.out 1; have hnb60 := NB326_324.out; have hnc60 := NB324_326.out; have hnb61 := NB326_325.out; have hnc61 := NB325_326.out; have hcz62_0 : w58.cell? ⟨gb326, 0, none⟩ = some (.string (⟨#[]⟩ : ByteArray)) := (blk_cell BK326.out 0).trans rfl; have hcz62_1 : w58.cell? ⟨gb326, 1, none⟩ = some (.string (⟨#[]⟩ : ByteArray)) := (blk_cell BK326.out 1).trans rfl; have hfz62_0 := blk_frozen BK326.out 0; have hfz62_1 := blk_frozen BK326.out 1))
     refine bodyPost_ret (results_ct rfl _ _ gb326 24 #[.string t331, .string t332] (0, 0) _ rfl (by (with_reducible repeat (first | refine blk_drewN ?_ _ | refine blk_drew ?_ | refine blk_alloc ?_ _)); refine blk_put (cs := #[.string t331, .string (⟨#[]⟩ : ByteArray)]) ?_ 1 _ rfl; (with_reducible repeat (first | refine blk_drewN ?_ _ | refine blk_drew ?_ | refine blk_alloc ?_ _)); refine blk_put (cs := #[.string (⟨#[]⟩ : ByteArray), .string (⟨#[]⟩ : ByteArray)]) ?_ 0 _ rfl; (with_reducible repeat (first | refine blk_drewN ?_ _ | refine blk_drew ?_ | refine blk_alloc ?_ _)); exact BK326.out) Tryz.underlying24 rfl (by kernel_rfl)) rfl ?_
     exact ⟨by first | rfl | (simp [*, errW_none, errW_some] <;> rfl), by repeat (first | (with_reducible first | exact HB.out | apply below_alloc | apply pw_below_drewN | apply below_drew1 | refine below_set ?_ GE324.out | refine below_set ?_ GE325.out | refine below_set ?_ GE326.out | refine below_set ?_ GE333.out) | exact HB.out)⟩
end Go.Proofs.YtidajgkepdkcbaaGreatDoor.PF
end
section
namespace Go.Proofs.YtidajgkepdkcbaaGreatDoor.PF
open Go.RowKit Go.Proofs.YtidajgkepdkcbaaGreatDoorW.PrintWords Go.Proofs.YtidajgkepdkcbaaGreatDoorW.PrintLast Go.Proofs.YtidajgkepdkcbaaGreatDoorW.PrintMore
attribute [local go_sem] max2_int min2_int max_two min_two max_three min_three max_four min_four
attribute [local go_sem high] eqA24
mutual
def schismaref04_Int.j0 : Nat → ByteArray → Int → Bool → Option (Int × Bool)
 | 0, _, _, _ => none
 | k + 1, x4, x5, x16 => if x16 = true then (if 1 ≤ (x4.size : Int) then (schismaref04_Int.j1 k (x4.extract 1 x4.size) (-1)) else (none)) else (schismaref04_Int.j1 k x4 x5)
def schismaref04_Int.j1 : Nat → ByteArray → Int → Option (Int × Bool)
 | 0, _, _ => none
 | k + 1, x4, x5 => if (x4.size : Int) = 0 then (schismaref04_Int.j2 k x4 x5 true) else (if (x4.size : Int) > 17 then (schismaref04_Int.j2 k x4 x5 true) else (if 0 < (x4.size : Int) then (if (bt x4 0) = 48 then (if (x4.size : Int) > 1 then (schismaref04_Int.j2 k x4 x5 true) else (schismaref04_Int.j2 k x4 x5 (decide (x5 < 0)))) else (schismaref04_Int.j2 k x4 x5 false)) else (none)))
def schismaref04_Int.j2 : Nat → ByteArray → Int → Bool → Option (Int × Bool)
 | 0, _, _, _ => none
 | k + 1, x4, x5, x40 => if x40 = true then (some (0, false)) else (schismaref04_Int.l0 k x4 x5 0 0)
def schismaref04_Int.l0 : Nat → ByteArray → Int → Int → Int → Option (Int × Bool)
 | 0, _, _, _, _ => none
 | k + 1, x4, x5, x6, x7 => if x7 < (x4.size : Int) then (if 0 ≤ x7 then (if (bt x4 x7) < 48 then (some (0, false)) else (if (bt x4 x7) > 57 then (some (0, false)) else (schismaref04_Int.l0 k x4 x5 (wrap64 ((wrap64 (10 * x6)) + (((bt x4 x7) - 48) % 256))) (wrap64 (x7 + 1))))) else (none)) else (some (wrap64 (x5 * x6), true))
end
def schismaref04_Int.f (k : Nat) (a0 : ByteArray) : Option (Int × Bool) := if (a0.size : Int) > 0 then (if 0 < (a0.size : Int) then (schismaref04_Int.j0 k a0 1 ((bt a0 0) == 45)) else (none)) else (schismaref04_Int.j0 k a0 1 false)
set_option maxHeartbeats 8000000 in
set_option maxRecDepth 100000 in
theorem schismaref04_Int.calls (k : Nat) (a0 : ByteArray) (r1 : Int) (r2 : Bool) (w : World) (h : schismaref04_Int.f k a0 = some (r1, r2)) :
  Calls Tryz.prog 43 #[.string a0] w fun e w' => e = .returned (.tuple #[.int .i64 r1, .bool r2]) ∧ Drawn0 w w' := by
 have H : (if (a0.size : Int) > 0 then (if 0 < (a0.size : Int) then (schismaref04_Int.j0 k a0 1 ((bt a0 0) == 45)) else (none)) else (schismaref04_Int.j0 k a0 1 false)) = some (r1, r2) := h
 clear h
 have HC2 := Aside0.mk H
 clear H
 go_enter Tryz.func43, Tryz.ntmps43
 go_upto_region 3 with (fail)
 repeat (go_quiet (fail); go_upto_region 3 with (fail))
 go_cut [16] (fun v16 wc => ∃ (kq : Nat) (x16_1 : Bool), v16 = .bool x16_1 ∧ Aside0 (schismaref04_Int.j0 kq a0 1 x16_1 = some (r1, r2)) ∧ Aside0 (kq ≤ k) ∧ Drawn0 w wc)
 case first =>
  have H := HC2.out
  clear HC2
  by_cases c3 : (a0.size : Int) > 0
  ·rw [if_pos c3] at H
   have c3b0 : decide (0 < (a0.size : Int)) = true := decide_eq_true c3
   have c3b1 : decide (0 < a0.size) = true := decide_eq_true (by omega)
   clear c3
   (first | rw [c3b0] | (simp only [i64_w, i32_w]; rw [c3b0]) | skip)
   by_cases c4 : 0 < (a0.size : Int)
   ·rw [if_pos c4] at H
    have c4b0 : decide (0 < (a0.size : Int)) = true := decide_eq_true c4
    have c4b1 : decide (0 < a0.size) = true := decide_eq_true (by omega)
    clear c4
    have H' := Aside0.mk H
    clear H
    have p5 : 0 ≤ (0 : Int) := (by omega)
    have q5 : 0 < a0.size := (by have : (0 : Int) < (a0.size : Int) := of_decide_eq_true (by first | (with_reducible assumption) | assumption); omega)
    have hx5 : ∀ h : 0 < a0.size, ((a0[0]'h).toNat : Int) = bt a0 0 := bt_at a0 0
    clear p5
    have qi5 : (0 < (a0.size : Int)) = True := eq_true (of_decide_eq_true (by first | (with_reducible assumption) | assumption))
    replace q5 := eq_true q5
    go_wp2
    repeat (go_quiet (fail); try go_wp2)
    go_meet
    case rel => exact ⟨_, (((bt a0 0) == 45)), (by first | rfl | (simp; done) | (simp [*]; done)), H', ⟨by first | omega | exact Nat.le_refl _⟩, by repeat (first | exact Drawn0.refl _ | apply Drawn0.step)⟩
   ·rw [if_neg c4] at H
    exact absurd H (by simp)
  ·rw [if_neg c3] at H
   have c3b0 : decide (0 < (a0.size : Int)) = false := decide_eq_false c3
   have c3b1 : decide (0 < a0.size) = false := decide_eq_false (by omega)
   clear c3
   (first | rw [c3b0] | (simp only [i64_w, i32_w]; rw [c3b0]) | skip)
   have H' := Aside0.mk H
   clear H
   go_wp2
   repeat (go_quiet (fail); try go_wp2)
   go_meet
   case rel => exact ⟨_, (false), (by first | rfl | (simp; done) | (simp [*]; done)), H', ⟨by first | omega | exact Nat.le_refl _⟩, by repeat (first | exact Drawn0.refl _ | apply Drawn0.step)⟩
 case rest =>
  clear HC2
  try clear p2
  try clear c3
  try clear c3b0
  try clear c3b1
  try clear c4
  try clear c4b0
  try clear c4b1
  try clear p5
  try clear q5
  try clear hx5
  try clear qi5
  try clear p5
  try clear q5
  obtain ⟨kq, x16_1, rfl, HA, HJ1, ⟨mc1, rfl⟩⟩ := hcut
  cases kq with
  | zero => exact absurd HA.out (by simp [schismaref04_Int.j0])
  | succ kj1 =>
   have H := HA.out
   clear HA
   simp only [schismaref04_Int.j0] at H
   have HC6 := Aside0.mk H
   clear H
   go_upto_if 16 with (fail)
   repeat (go_quiet (fail); go_upto_if 16 with (fail))
   go_cut [4, 5] (fun v4 v5 wc => ∃ (kq : Nat) (x4_5 : ByteArray) (x5_5 : Int), v4 = .string x4_5 ∧ v5 = .int .i64 x5_5 ∧ Aside0 (schismaref04_Int.j1 kq x4_5 x5_5 = some (r1, r2)) ∧ Aside0 (kq ≤ kj1) ∧ Drawn0 w wc)
   case first =>
    have H := HC6.out
    clear HC6
    by_cases c7 : x16_1 = true
    ·subst c7
     have H1 : (if 1 ≤ (a0.size : Int) then (schismaref04_Int.j1 kj1 (a0.extract 1 a0.size) (-1)) else (none)) = some (r1, r2) := by rw [if_pos rfl] at H; exact H
     clear H
     have H := H1
     clear H1
     by_cases c8 : 1 ≤ (a0.size : Int)
     ·rw [if_pos c8] at H
      have c8b0 := eq_true c8
      have c8b1 : decide (1 ≤ (a0.size : Int)) = true := decide_eq_true c8
      clear c8
      have H' := Aside0.mk H
      clear H
      go_wp2
      repeat (go_quiet (fail); try go_wp2)
      go_meet
      case rel => exact ⟨_, (a0.extract 1 a0.size), ((-1)), (by first | rfl | (simp; done) | (simp [*]; done)), (by first | rfl | (simp; done) | (simp [*]; done)), H', ⟨by have := HJ1.out; first | omega | exact Nat.le_refl _⟩, by repeat (first | exact Drawn0.refl _ | apply Drawn0.step)⟩
     ·rw [if_neg c8] at H
      exact absurd H (by simp)
    ·replace c7 := Bool.eq_false_iff.mpr c7
     subst c7
     have H1 : (schismaref04_Int.j1 kj1 a0 1) = some (r1, r2) := by rw [if_neg (show ¬ (false = true) by decide)] at H; exact H
     clear H
     have H := H1
     clear H1
     have H' := Aside0.mk H
     clear H
     go_wp2
     repeat (go_quiet (fail); try go_wp2)
     go_meet
     case rel => exact ⟨_, (a0), (1), (by first | rfl | (simp; done) | (simp [*]; done)), (by first | rfl | (simp; done) | (simp [*]; done)), H', ⟨by have := HJ1.out; first | omega | exact Nat.le_refl _⟩, by repeat (first | exact Drawn0.refl _ | apply Drawn0.step)⟩
   case rest =>
    clear HC6
    try clear c1
    try clear p2
    try clear c3
    try clear c3b0
    try clear c3b1
    try clear c4
    try clear c4b0
    try clear c4b1
    try clear p5
    try clear q5
    try clear hx5
    try clear qi5
    try clear c7
    try clear c8
    try clear c8b0
    try clear c8b1
    try clear p2
    try clear p5
    try clear q5
    obtain ⟨kq, x4_5, x5_5, rfl, rfl, HA, HJ5, ⟨mc5, rfl⟩⟩ := hcut
    cases kq with
    | zero => exact absurd HA.out (by simp [schismaref04_Int.j1])
    | succ kj5 =>
     have H := HA.out
     clear HA
     simp only [schismaref04_Int.j1] at H
     have HC9 := Aside0.mk H
     clear H
     go_upto_region 5 with (fail)
     repeat (go_quiet (fail); go_upto_region 5 with (fail))
     go_cut [40] (fun v40 wc => ∃ (kq : Nat) (x40_8 : Bool), v40 = .bool x40_8 ∧ Aside0 (schismaref04_Int.j2 kq x4_5 x5_5 x40_8 = some (r1, r2)) ∧ Aside0 (kq ≤ kj5) ∧ Drawn0 w wc)
     case first =>
      have H := HC9.out
      clear HC9
      by_cases c10 : (x4_5.size : Int) = 0
      ·rw [if_pos c10] at H
       have c10b0 : ((x4_5.size : Int) == 0) = true := beq_iff_eq.mpr c10
       have c10b1 : ((x4_5.size : Int) != 0) = false := bne_eq_false_iff_eq.mpr c10
       clear c10
       (first | rw [c10b0] | (simp only [i64_w, i32_w]; rw [c10b0]) | skip)
       have H' := Aside0.mk H
       clear H
       go_wp2
       repeat (go_quiet (fail); try go_wp2)
       go_meet
       case rel => exact ⟨_, (true), (by first | rfl | (simp; done) | (simp [*]; done)), H', ⟨by have := HJ1.out; have := HJ5.out; first | omega | exact Nat.le_refl _⟩, by repeat (first | exact Drawn0.refl _ | apply Drawn0.step)⟩
      ·rw [if_neg c10] at H
       have c10b0 : ((x4_5.size : Int) == 0) = false := beq_eq_false_iff_ne.mpr c10
       have c10b1 : ((x4_5.size : Int) != 0) = true := bne_iff_ne.mpr c10
       (first | rw [c10b0] | (simp only [i64_w, i32_w]; rw [c10b0]) | skip)
       by_cases c11 : (x4_5.size : Int) > 17
       ·rw [if_pos c11] at H
        have c11b0 : decide (17 < (x4_5.size : Int)) = true := decide_eq_true c11
        have c11b1 : decide (17 < x4_5.size) = true := decide_eq_true (by omega)
        clear c11
        have H' := Aside0.mk H
        clear H
        go_wp2
        repeat (go_quiet (fail); try go_wp2)
        go_meet
        case rel => exact ⟨_, (true), (by first | rfl | (simp; done) | (simp [*]; done)), H', ⟨by have := HJ1.out; have := HJ5.out; first | omega | exact Nat.le_refl _⟩, by repeat (first | exact Drawn0.refl _ | apply Drawn0.step)⟩
       ·rw [if_neg c11] at H
        have c11b0 : decide (17 < (x4_5.size : Int)) = false := decide_eq_false c11
        have c11b1 : decide (17 < x4_5.size) = false := decide_eq_false (by omega)
        clear c11
        by_cases c12 : 0 < (x4_5.size : Int)
        ·rw [if_pos c12] at H
         have c12b0 : decide (0 < (x4_5.size : Int)) = true := decide_eq_true c12
         have c12b1 : decide (0 < x4_5.size) = true := decide_eq_true (by omega)
         clear c12
         by_cases c14 : (bt x4_5 0) = 48
         ·rw [if_pos c14] at H
          have c14b0 : ((bt x4_5 0) == 48) = true := beq_iff_eq.mpr c14
          have c14b1 : ((bt x4_5 0) != 48) = false := bne_eq_false_iff_eq.mpr c14
          clear c14
          by_cases c15 : (x4_5.size : Int) > 1
          ·rw [if_pos c15] at H
           have c15b0 : decide (1 < (x4_5.size : Int)) = true := decide_eq_true c15
           have c15b1 : decide (1 < x4_5.size) = true := decide_eq_true (by omega)
           clear c15
           have H' := Aside0.mk H
           clear H
           have p13 : 0 ≤ (0 : Int) := (by omega)
           have q13 : 0 < x4_5.size := (by have : (0 : Int) < (x4_5.size : Int) := of_decide_eq_true (by first | (with_reducible assumption) | assumption); omega)
           have hx13 : ∀ h : 0 < x4_5.size, ((x4_5[0]'h).toNat : Int) = bt x4_5 0 := bt_at x4_5 0
           clear p13
           have qi13 : (0 < (x4_5.size : Int)) = True := eq_true (of_decide_eq_true (by first | (with_reducible assumption) | assumption))
           replace q13 := eq_true q13
           go_wp2
           repeat (go_quiet (fail); try go_wp2)
           go_meet
           case rel => exact ⟨_, (true), (by first | rfl | (simp; done) | (simp [*]; done)), H', ⟨by have := HJ1.out; have := HJ5.out; first | omega | exact Nat.le_refl _⟩, by repeat (first | exact Drawn0.refl _ | apply Drawn0.step)⟩
          ·rw [if_neg c15] at H
           have c15b0 : decide (1 < (x4_5.size : Int)) = false := decide_eq_false c15
           have c15b1 : decide (1 < x4_5.size) = false := decide_eq_false (by omega)
           clear c15
           have H' := Aside0.mk H
           clear H
           have p13 : 0 ≤ (0 : Int) := (by omega)
           have q13 : 0 < x4_5.size := (by have : (0 : Int) < (x4_5.size : Int) := of_decide_eq_true (by first | (with_reducible assumption) | assumption); omega)
           have hx13 : ∀ h : 0 < x4_5.size, ((x4_5[0]'h).toNat : Int) = bt x4_5 0 := bt_at x4_5 0
           clear p13
           have qi13 : (0 < (x4_5.size : Int)) = True := eq_true (of_decide_eq_true (by first | (with_reducible assumption) | assumption))
           replace q13 := eq_true q13
           go_wp2
           repeat (go_quiet (fail); try go_wp2)
           go_meet
           case rel => exact ⟨_, (decide (x5_5 < 0)), (by first | rfl | (simp; done) | (simp [*]; done)), H', ⟨by have := HJ1.out; have := HJ5.out; first | omega | exact Nat.le_refl _⟩, by repeat (first | exact Drawn0.refl _ | apply Drawn0.step)⟩
         ·rw [if_neg c14] at H
          have c14b0 : ((bt x4_5 0) == 48) = false := beq_eq_false_iff_ne.mpr c14
          have c14b1 : ((bt x4_5 0) != 48) = true := bne_iff_ne.mpr c14
          have H' := Aside0.mk H
          clear H
          have p13 : 0 ≤ (0 : Int) := (by omega)
          have q13 : 0 < x4_5.size := (by have : (0 : Int) < (x4_5.size : Int) := of_decide_eq_true (by first | (with_reducible assumption) | assumption); omega)
          have hx13 : ∀ h : 0 < x4_5.size, ((x4_5[0]'h).toNat : Int) = bt x4_5 0 := bt_at x4_5 0
          clear p13
          have qi13 : (0 < (x4_5.size : Int)) = True := eq_true (of_decide_eq_true (by first | (with_reducible assumption) | assumption))
          replace q13 := eq_true q13
          go_wp2
          repeat (go_quiet (fail); try go_wp2)
          go_meet
          case rel => exact ⟨_, (false), (by first | rfl | (simp; done) | (simp [*]; done)), H', ⟨by have := HJ1.out; have := HJ5.out; first | omega | exact Nat.le_refl _⟩, by repeat (first | exact Drawn0.refl _ | apply Drawn0.step)⟩
        ·rw [if_neg c12] at H
         exact absurd H (by simp)
     case rest =>
      clear HC9
      try clear c1
      try clear p1
      try clear q1
      try clear hx1
      try clear qi1
      try clear p2
      try clear c3
      try clear c3b0
      try clear c3b1
      try clear c4
      try clear c4b0
      try clear c4b1
      try clear c5
      try clear p5
      try clear q5
      try clear hx5
      try clear qi5
      try clear c7
      try clear c8
      try clear c8b0
      try clear c8b1
      try clear c10
      try clear c10b0
      try clear c10b1
      try clear c11
      try clear c11b0
      try clear c11b1
      try clear c12
      try clear c12b0
      try clear c12b1
      try clear p13
      try clear q13
      try clear hx13
      try clear qi13
      try clear c14
      try clear c14b0
      try clear c14b1
      try clear c15
      try clear c15b0
      try clear c15b1
      try clear p13
      try clear p2
      try clear p5
      try clear q13
      try clear q5
      obtain ⟨kq, x40_8, rfl, HA, HJ8, ⟨mc8, rfl⟩⟩ := hcut
      cases kq with
      | zero => exact absurd HA.out (by simp [schismaref04_Int.j2])
      | succ kj8 =>
       have H := HA.out
       clear HA
       simp only [schismaref04_Int.j2] at H
       by_cases c16 : x40_8 = true
       ·subst c16
        have H1 : (some (0, false)) = some (r1, r2) := by rw [if_pos rfl] at H; exact H
        clear H
        have H := H1
        clear H1
        simp only [Option.some.injEq, Prod.mk.injEq] at H
        obtain ⟨rfl, rfl⟩ := H
        go_wp2
        repeat (go_quiet (fail); try go_wp2)
        go_ret2
        exact ⟨by first | rfl | (simp; done) | (simp [*]; done), by repeat (first | exact Drawn0.refl _ | apply Drawn0.step)⟩
       ·replace c16 := Bool.eq_false_iff.mpr c16
        subst c16
        have H1 : (schismaref04_Int.l0 kj8 x4_5 x5_5 0 0) = some (r1, r2) := by rw [if_neg (show ¬ (false = true) by decide)] at H; exact H
        clear H
        have H := H1
        clear H1
        have H' := Aside0.mk H
        clear H
        go_wp2
        repeat (go_quiet (fail); try go_wp2)
        go_loopg [6, 7] kj8 (fun kq v6 v7 w' => ∃ (x6_4 : Int) (x7_4 : Int), v6 = .int .i64 x6_4 ∧ v7 = .int .i64 x7_4 ∧ Aside0 (schismaref04_Int.l0 kq x4_5 x5_5 x6_4 x7_4 = some (r1, r2)) ∧ Aside0 (kq ≤ kj8) ∧ Drawn0 w w')
        case atStart => exact ⟨(0), (0), (by first | rfl | (simp; done) | (simp [*]; done)), (by first | rfl | (simp; done) | (simp [*]; done)), H', ⟨Nat.le_refl _⟩, by repeat (first | exact Drawn0.refl _ | apply Drawn0.step)⟩
        case round =>
         clear H'
         try clear c1
         try clear p1
         try clear q1
         try clear hx1
         try clear qi1
         try clear p2
         try clear c3
         try clear c3b0
         try clear c3b1
         try clear c4
         try clear c4b0
         try clear c4b1
         try clear c5
         try clear p5
         try clear q5
         try clear hx5
         try clear qi5
         try clear c7
         try clear c8
         try clear c8b0
         try clear c8b1
         try clear c10
         try clear c10b0
         try clear c10b1
         try clear c11
         try clear c11b0
         try clear c11b1
         try clear c12
         try clear c12b0
         try clear c12b1
         try clear p13
         try clear q13
         try clear hx13
         try clear qi13
         try clear c14
         try clear c14b0
         try clear c14b1
         try clear c15
         try clear c15b0
         try clear c15b1
         try clear c16
         try clear p1
         try clear p13
         try clear p2
         try clear p5
         try clear q1
         try clear q13
         try clear q5
         obtain ⟨x6_4, x7_4, rfl, rfl, HA, HK4, ⟨m4, rfl⟩⟩ := hrel
         cases gk with
         | zero => exact absurd HA.out (by simp [schismaref04_Int.l0])
         | succ k4 =>
          have H := HA.out
          clear HA
          simp only [schismaref04_Int.l0] at H
          by_cases c17 : x7_4 < (x4_5.size : Int)
          ·rw [if_pos c17] at H
           have c17b0 : decide (x7_4 < (x4_5.size : Int)) = true := decide_eq_true c17
           clear c17
           by_cases c18 : 0 ≤ x7_4
           ·rw [if_pos c18] at H
            have c18b0 : decide (0 ≤ x7_4) = true := decide_eq_true c18
            clear c18
            by_cases c20 : (bt x4_5 x7_4) < 48
            ·rw [if_pos c20] at H
             have c20b0 : decide ((bt x4_5 x7_4) < 48) = true := decide_eq_true c20
             clear c20
             simp only [Option.some.injEq, Prod.mk.injEq] at H
             obtain ⟨rfl, rfl⟩ := H
             have p19 : 0 ≤ (x7_4 : Int) := of_decide_eq_true (by first | (with_reducible assumption) | assumption)
             have q19 : x7_4 < (x4_5.size : Int) := of_decide_eq_true (by first | (with_reducible assumption) | assumption)
             have hx19 := bt_at x4_5 x7_4
             replace p19 := eq_true p19
             replace q19 := eq_true q19
             go_wp2
             repeat (go_quiet (fail); try go_wp2)
             go_ret2
             exact ⟨by first | rfl | (simp; done) | (simp [*]; done), by repeat (first | exact Drawn0.refl _ | apply Drawn0.step)⟩
            ·rw [if_neg c20] at H
             have c20b0 : decide ((bt x4_5 x7_4) < 48) = false := decide_eq_false c20
             clear c20
             by_cases c22 : (bt x4_5 x7_4) > 57
             ·rw [if_pos c22] at H
              have c22b0 : decide (57 < (bt x4_5 x7_4)) = true := decide_eq_true c22
              clear c22
              simp only [Option.some.injEq, Prod.mk.injEq] at H
              obtain ⟨rfl, rfl⟩ := H
              have p19 : 0 ≤ (x7_4 : Int) := of_decide_eq_true (by first | (with_reducible assumption) | assumption)
              have q19 : x7_4 < (x4_5.size : Int) := of_decide_eq_true (by first | (with_reducible assumption) | assumption)
              have hx19 := bt_at x4_5 x7_4
              replace p19 := eq_true p19
              replace q19 := eq_true q19
              have p21 : 0 ≤ (x7_4 : Int) := of_decide_eq_true (by first | (with_reducible assumption) | assumption)
              have q21 : x7_4 < (x4_5.size : Int) := of_decide_eq_true (by first | (with_reducible assumption) | assumption)
              have hx21 := bt_at x4_5 x7_4
              replace p21 := eq_true p21
              replace q21 := eq_true q21
              go_wp2
              repeat (go_quiet (fail); try go_wp2)
              go_ret2
              exact ⟨by first | rfl | (simp; done) | (simp [*]; done), by repeat (first | exact Drawn0.refl _ | apply Drawn0.step)⟩
             ·rw [if_neg c22] at H
              have c22b0 : decide (57 < (bt x4_5 x7_4)) = false := decide_eq_false c22
              clear c22
              have H' := Aside0.mk H
              clear H
              have p19 : 0 ≤ (x7_4 : Int) := of_decide_eq_true (by first | (with_reducible assumption) | assumption)
              have q19 : x7_4 < (x4_5.size : Int) := of_decide_eq_true (by first | (with_reducible assumption) | assumption)
              have hx19 := bt_at x4_5 x7_4
              replace p19 := eq_true p19
              replace q19 := eq_true q19
              have p21 : 0 ≤ (x7_4 : Int) := of_decide_eq_true (by first | (with_reducible assumption) | assumption)
              have q21 : x7_4 < (x4_5.size : Int) := of_decide_eq_true (by first | (with_reducible assumption) | assumption)
              have hx21 := bt_at x4_5 x7_4
              replace p21 := eq_true p21
              replace q21 := eq_true q21
              have p23 : 0 ≤ (x7_4 : Int) := of_decide_eq_true (by first | (with_reducible assumption) | assumption)
              have q23 : x7_4 < (x4_5.size : Int) := of_decide_eq_true (by first | (with_reducible assumption) | assumption)
              have hx23 := bt_at x4_5 x7_4
              replace p23 := eq_true p23
              replace q23 := eq_true q23
              go_wp2
              repeat (go_quiet (fail); try go_wp2)
              go_roundg k4
              case measure => have := HJ1.out; have := HJ5.out; have := HJ8.out; have := HK4.out; omega
              case rel => exact ⟨(wrap64 ((wrap64 (10 * x6_4)) + (((bt x4_5 x7_4) - 48) % 256))), (wrap64 (x7_4 + 1)), (by first | rfl | (simp; done) | (simp [*]; done)), (by first | rfl | (simp; done) | (simp [*]; done)), H', ⟨by have := HJ1.out; have := HJ5.out; have := HJ8.out; have := HK4.out; omega⟩, by repeat (first | exact Drawn0.refl _ | apply Drawn0.step)⟩
           ·rw [if_neg c18] at H
            exact absurd H (by simp)
          ·rw [if_neg c17] at H
           have c17b0 : decide (x7_4 < (x4_5.size : Int)) = false := decide_eq_false c17
           clear c17
           simp only [Option.some.injEq, Prod.mk.injEq] at H
           obtain ⟨rfl, rfl⟩ := H
           go_wp2
           repeat (go_quiet (fail); try go_wp2)
           go_ret2
           exact ⟨by first | rfl | (simp; done) | (simp [*]; done), by repeat (first | exact Drawn0.refl _ | apply Drawn0.step)⟩
def schismaref04_Parts.f (k : Nat) (a0_0 : ByteArray) (a0_1 : ByteArray) : Option (Int × Int × Bool) := (schismaref04_Int.f k a0_0).bind fun bt336 => ((schismaref04_Int.f k a0_1).bind fun bt338 => (if bt336.2 = true then (if bt338.2 = true then (if bt338.1 ≤ 0 then (some (0, 0, false)) else ((schismaref04_Gcd.f k bt336.1 bt338.1).bind fun t340 => (if t340 = 1 then (some (bt336.1, bt338.1, true)) else (some (0, 0, false))))) else (some (0, 0, false))) else (some (0, 0, false))))
set_option maxHeartbeats 8000000 in
set_option maxRecDepth 100000 in
theorem schismaref04_Parts.calls (k : Nat) (a0_0 : ByteArray) (a0_1 : ByteArray) (r1 : Int) (r2 : Int) (r3 : Bool) (w : World) (h : schismaref04_Parts.f k a0_0 a0_1 = some (r1, r2, r3)) :
  Calls Tryz.prog 15 #[.agg #[.string a0_0, .string a0_1]] w fun e w' => e = .returned (.tuple #[.int .i64 r1, .int .i64 r2, .bool r3]) ∧ Below w.heap.size w w' := by
 have hu24 := Tryz.underlying24
 have HB := Aside0.mk (Below.refl w.heap.size w)
 have H : ((schismaref04_Int.f k a0_0).bind fun bt336 => ((schismaref04_Int.f k a0_1).bind fun bt338 => (if bt336.2 = true then (if bt338.2 = true then (if bt338.1 ≤ 0 then (some (0, 0, false)) else ((schismaref04_Gcd.f k bt336.1 bt338.1).bind fun t340 => (if t340 = 1 then (some (bt336.1, bt338.1, true)) else (some (0, 0, false))))) else (some (0, 0, false))) else (some (0, 0, false))))) = some (r1, r2, r3) := h
 clear h
 replace H := Option.bind_eq_some_iff.mp H
 obtain ⟨⟨t336, t337⟩, A20, H⟩ := H
 replace H : ((schismaref04_Int.f k a0_1).bind fun bt338 => (if t337 = true then (if bt338.2 = true then (if bt338.1 ≤ 0 then (some (0, 0, false)) else ((schismaref04_Gcd.f k t336 bt338.1).bind fun t340 => (if t340 = 1 then (some (t336, bt338.1, true)) else (some (0, 0, false))))) else (some (0, 0, false))) else (some (0, 0, false)))) = some (r1, r2, r3) := H
 have A2 := Aside0.mk A20
 clear A20
 replace H := Option.bind_eq_some_iff.mp H
 obtain ⟨⟨t338, t339⟩, A30, H⟩ := H
 replace H : (if t337 = true then (if t339 = true then (if t338 ≤ 0 then (some (0, 0, false)) else ((schismaref04_Gcd.f k t336 t338).bind fun t340 => (if t340 = 1 then (some (t336, t338, true)) else (some (0, 0, false))))) else (some (0, 0, false))) else (some (0, 0, false))) = some (r1, r2, r3) := H
 have A3 := Aside0.mk A30
 clear A30
 by_cases c4 : t337 = true
 ·subst c4
  have H1 : (if t339 = true then (if t338 ≤ 0 then (some (0, 0, false)) else ((schismaref04_Gcd.f k t336 t338).bind fun t340 => (if t340 = 1 then (some (t336, t338, true)) else (some (0, 0, false))))) else (some (0, 0, false))) = some (r1, r2, r3) := by rw [if_pos rfl] at H; exact H
  clear H
  have H := H1
  clear H1
  by_cases c5 : t339 = true
  ·subst c5
   have H1 : (if t338 ≤ 0 then (some (0, 0, false)) else ((schismaref04_Gcd.f k t336 t338).bind fun t340 => (if t340 = 1 then (some (t336, t338, true)) else (some (0, 0, false))))) = some (r1, r2, r3) := by rw [if_pos rfl] at H; exact H
   clear H
   have H := H1
   clear H1
   by_cases c6 : t338 ≤ 0
   ·rw [if_pos c6] at H
    have c6b0 : decide (t338 ≤ 0) = true := decide_eq_true c6
    clear c6
    simp only [Option.some.injEq, Prod.mk.injEq] at H
    obtain ⟨rfl, rfl, rfl⟩ := H
    go_enter Tryz.func15, Tryz.ntmps15
    go_wp2_with (first | ((with_reducible refine gate_dst (N := 1) rfl ?_); refine box_event ?hg (N := 1) ?hd (cs := #[.string a0_0, .string a0_1]) (t := 24) ?hr ?_; (case hd => rfl); (case hg => rfl); (case hr => first | (go_simp; done) | (go_simp; rfl)); intro gb335 hg w7 hbox hb; have n0_ := Aside0.mk (below_step (by repeat (first | (with_reducible first | exact HB.out | apply below_alloc | apply pw_below_drewN | apply below_drew1) | exact HB.out)) hb); have n1_ := Aside0.mk (hbox); have n2_ := Aside0.mk ((by rw [hg]; exact (below_size (by repeat (first | (with_reducible first | exact HB.out | apply below_alloc | apply pw_below_drewN | apply below_drew1) | exact HB.out))) : w.heap.size ≤ gb335)); have n3_ := Aside0.mk ((by rw [hg]; exact (below_size (by repeat (first | (with_reducible first | exact HB.out | apply below_alloc | apply pw_below_drewN | apply below_drew1) | exact HB.out))) : w.heap.size ≤ gb335)); clear HB; have HB := n0_; have BK335 := n1_; have GW335 := n2_; have GE335 := n3_; clear n0_ n1_ n2_ n3_; clear hb hbox hg; have hcz8_0 : w7.cell? ⟨gb335, 0, none⟩ = some (.string a0_0) := (blk_cell BK335.out 0).trans rfl; have hcz8_1 : w7.cell? ⟨gb335, 1, none⟩ = some (.string a0_1) := (blk_cell BK335.out 1).trans rfl; have hfz8_0 := blk_frozen BK335.out 0; have hfz8_1 := blk_frozen BK335.out 1) | ((with_reducible refine gate_callee (f := 43) rfl ?_); refine goesL_ (some 12) rfl rfl Tryz.func43 (by kernel_rfl) rfl #[.string a0_0] rfl (by (try simp only [List.map_toArray, List.map_cons, List.map_nil]); try rfl) ?_; (with_reducible refine (schismaref04_Int.calls k a0_0 t336 true _ A2.out).mono ?_); rintro e w' ⟨rfl, ⟨nd, rfl⟩⟩; refine ⟨_, rfl, ?_⟩) | ((with_reducible refine gate_callee (f := 43) rfl ?_); refine goesL_ (some 18) rfl rfl Tryz.func43 (by kernel_rfl) rfl #[.string a0_1] rfl (by (try simp only [List.map_toArray, List.map_cons, List.map_nil]); try rfl) ?_; (with_reducible refine (schismaref04_Int.calls k a0_1 t338 true _ A3.out).mono ?_); rintro e w' ⟨rfl, ⟨nd, rfl⟩⟩; refine ⟨_, rfl, ?_⟩))
    go_ret3
    exact ⟨by first | rfl | (simp [*, errW_none, errW_some] <;> rfl), by repeat (first | (with_reducible first | exact HB.out | apply below_alloc | apply pw_below_drewN | apply below_drew1 | refine below_set ?_ GE335.out) | exact HB.out)⟩
   ·rw [if_neg c6] at H
    have c6b0 : decide (t338 ≤ 0) = false := decide_eq_false c6
    clear c6
    replace H := Option.bind_eq_some_iff.mp H
    obtain ⟨t340, A90, H⟩ := H
    replace H : (if t340 = 1 then (some (t336, t338, true)) else (some (0, 0, false))) = some (r1, r2, r3) := H
    have A9 := Aside0.mk A90
    clear A90
    by_cases c10 : t340 = 1
    ·rw [if_pos c10] at H
     have c10b0 : (t340 == 1) = true := beq_iff_eq.mpr c10
     have c10b1 : (t340 != 1) = false := bne_eq_false_iff_eq.mpr c10
     clear c10
     simp only [Option.some.injEq, Prod.mk.injEq] at H
     obtain ⟨rfl, rfl, rfl⟩ := H
     go_enter Tryz.func15, Tryz.ntmps15
     go_wp2_with (first | ((with_reducible refine gate_dst (N := 1) rfl ?_); refine box_event ?hg (N := 1) ?hd (cs := #[.string a0_0, .string a0_1]) (t := 24) ?hr ?_; (case hd => rfl); (case hg => rfl); (case hr => first | (go_simp; done) | (go_simp; rfl)); intro gb335 hg w11 hbox hb; have n0_ := Aside0.mk (below_step (by repeat (first | (with_reducible first | exact HB.out | apply below_alloc | apply pw_below_drewN | apply below_drew1) | exact HB.out)) hb); have n1_ := Aside0.mk (hbox); have n2_ := Aside0.mk ((by rw [hg]; exact (below_size (by repeat (first | (with_reducible first | exact HB.out | apply below_alloc | apply pw_below_drewN | apply below_drew1) | exact HB.out))) : w.heap.size ≤ gb335)); have n3_ := Aside0.mk ((by rw [hg]; exact (below_size (by repeat (first | (with_reducible first | exact HB.out | apply below_alloc | apply pw_below_drewN | apply below_drew1) | exact HB.out))) : w.heap.size ≤ gb335)); clear HB; have HB := n0_; have BK335 := n1_; have GW335 := n2_; have GE335 := n3_; clear n0_ n1_ n2_ n3_; clear hb hbox hg; have hcz12_0 : w11.cell? ⟨gb335, 0, none⟩ = some (.string a0_0) := (blk_cell BK335.out 0).trans rfl; have hcz12_1 : w11.cell? ⟨gb335, 1, none⟩ = some (.string a0_1) := (blk_cell BK335.out 1).trans rfl; have hfz12_0 := blk_frozen BK335.out 0; have hfz12_1 := blk_frozen BK335.out 1) | ((with_reducible refine gate_callee (f := 43) rfl ?_); refine goesL_ (some 12) rfl rfl Tryz.func43 (by kernel_rfl) rfl #[.string a0_0] rfl (by (try simp only [List.map_toArray, List.map_cons, List.map_nil]); try rfl) ?_; (with_reducible refine (schismaref04_Int.calls k a0_0 t336 true _ A2.out).mono ?_); rintro e w' ⟨rfl, ⟨nd, rfl⟩⟩; refine ⟨_, rfl, ?_⟩) | ((with_reducible refine gate_callee (f := 43) rfl ?_); refine goesL_ (some 18) rfl rfl Tryz.func43 (by kernel_rfl) rfl #[.string a0_1] rfl (by (try simp only [List.map_toArray, List.map_cons, List.map_nil]); try rfl) ?_; (with_reducible refine (schismaref04_Int.calls k a0_1 t338 true _ A3.out).mono ?_); rintro e w' ⟨rfl, ⟨nd, rfl⟩⟩; refine ⟨_, rfl, ?_⟩) | (go_at_call 44; (with_reducible refine (schismaref04_Gcd.calls k t336 t338 t340 _ A9.out).mono ?_); rintro e w' ⟨rfl, ⟨nd, rfl⟩⟩))
     go_ret3
     exact ⟨by first | rfl | (simp [*, errW_none, errW_some] <;> rfl), by repeat (first | (with_reducible first | exact HB.out | apply below_alloc | apply pw_below_drewN | apply below_drew1 | refine below_set ?_ GE335.out) | exact HB.out)⟩
    ·rw [if_neg c10] at H
     have c10b0 : (t340 == 1) = false := beq_eq_false_iff_ne.mpr c10
     have c10b1 : (t340 != 1) = true := bne_iff_ne.mpr c10
     simp only [Option.some.injEq, Prod.mk.injEq] at H
     obtain ⟨rfl, rfl, rfl⟩ := H
     go_enter Tryz.func15, Tryz.ntmps15
     go_wp2_with (first | ((with_reducible refine gate_dst (N := 1) rfl ?_); refine box_event ?hg (N := 1) ?hd (cs := #[.string a0_0, .string a0_1]) (t := 24) ?hr ?_; (case hd => rfl); (case hg => rfl); (case hr => first | (go_simp; done) | (go_simp; rfl)); intro gb335 hg w13 hbox hb; have n0_ := Aside0.mk (below_step (by repeat (first | (with_reducible first | exact HB.out | apply below_alloc | apply pw_below_drewN | apply below_drew1) | exact HB.out)) hb); have n1_ := Aside0.mk (hbox); have n2_ := Aside0.mk ((by rw [hg]; exact (below_size (by repeat (first | (with_reducible first | exact HB.out | apply below_alloc | apply pw_below_drewN | apply below_drew1) | exact HB.out))) : w.heap.size ≤ gb335)); have n3_ := Aside0.mk ((by rw [hg]; exact (below_size (by repeat (first | (with_reducible first | exact HB.out | apply below_alloc | apply pw_below_drewN | apply below_drew1) | exact HB.out))) : w.heap.size ≤ gb335)); clear HB; have HB := n0_; have BK335 := n1_; have GW335 := n2_; have GE335 := n3_; clear n0_ n1_ n2_ n3_; clear hb hbox hg; have hcz14_0 : w13.cell? ⟨gb335, 0, none⟩ = some (.string a0_0) := (blk_cell BK335.out 0).trans rfl; have hcz14_1 : w13.cell? ⟨gb335, 1, none⟩ = some (.string a0_1) := (blk_cell BK335.out 1).trans rfl; have hfz14_0 := blk_frozen BK335.out 0; have hfz14_1 := blk_frozen BK335.out 1) | ((with_reducible refine gate_callee (f := 43) rfl ?_); refine goesL_ (some 12) rfl rfl Tryz.func43 (by kernel_rfl) rfl #[.string a0_0] rfl (by (try simp only [List.map_toArray, List.map_cons, List.map_nil]); try rfl) ?_; (with_reducible refine (schismaref04_Int.calls k a0_0 t336 true _ A2.out).mono ?_); rintro e w' ⟨rfl, ⟨nd, rfl⟩⟩; refine ⟨_, rfl, ?_⟩) | ((with_reducible refine gate_callee (f := 43) rfl ?_); refine goesL_ (some 18) rfl rfl Tryz.func43 (by kernel_rfl) rfl #[.string a0_1] rfl (by (try simp only [List.map_toArray, List.map_cons, List.map_nil]); try rfl) ?_; (with_reducible refine (schismaref04_Int.calls k a0_1 t338 true _ A3.out).mono ?_); rintro e w' ⟨rfl, ⟨nd, rfl⟩⟩; refine ⟨_, rfl, ?_⟩) | (go_at_call 44; (with_reducible refine (schismaref04_Gcd.calls k t336 t338 t340 _ A9.out).mono ?_); rintro e w' ⟨rfl, ⟨nd, rfl⟩⟩))
     go_ret3
     exact ⟨by first | rfl | (simp [*, errW_none, errW_some] <;> rfl), by repeat (first | (with_reducible first | exact HB.out | apply below_alloc | apply pw_below_drewN | apply below_drew1 | refine below_set ?_ GE335.out) | exact HB.out)⟩
  ·replace c5 := Bool.eq_false_iff.mpr c5
   subst c5
   have H1 : (some (0, 0, false)) = some (r1, r2, r3) := by rw [if_neg (show ¬ (false = true) by decide)] at H; exact H
   clear H
   have H := H1
   clear H1
   simp only [Option.some.injEq, Prod.mk.injEq] at H
   obtain ⟨rfl, rfl, rfl⟩ := H
   go_enter Tryz.func15, Tryz.ntmps15
   go_wp2_with (first | ((with_reducible refine gate_dst (N := 1) rfl ?_); refine box_event ?hg (N := 1) ?hd (cs := #[.string a0_0, .string a0_1]) (t := 24) ?hr ?_; (case hd => rfl); (case hg => rfl); (case hr => first | (go_simp; done) | (go_simp; rfl)); intro gb335 hg w15 hbox hb; have n0_ := Aside0.mk (below_step (by repeat (first | (with_reducible first | exact HB.out | apply below_alloc | apply pw_below_drewN | apply below_drew1) | exact HB.out)) hb); have n1_ := Aside0.mk (hbox); have n2_ := Aside0.mk ((by rw [hg]; exact (below_size (by repeat (first | (with_reducible first | exact HB.out | apply below_alloc | apply pw_below_drewN | apply below_drew1) | exact HB.out))) : w.heap.size ≤ gb335)); have n3_ := Aside0.mk ((by rw [hg]; exact (below_size (by repeat (first | (with_reducible first | exact HB.out | apply below_alloc | apply pw_below_drewN | apply below_drew1) | exact HB.out))) : w.heap.size ≤ gb335)); clear HB; have HB := n0_; have BK335 := n1_; have GW335 := n2_; have GE335 := n3_; clear n0_ n1_ n2_ n3_; clear hb hbox hg; have hcz16_0 : w15.cell? ⟨gb335, 0, none⟩ = some (.string a0_0) := (blk_cell BK335.out 0).trans rfl; have hcz16_1 : w15.cell? ⟨gb335, 1, none⟩ = some (.string a0_1) := (blk_cell BK335.out 1).trans rfl; have hfz16_0 := blk_frozen BK335.out 0; have hfz16_1 := blk_frozen BK335.out 1) | ((with_reducible refine gate_callee (f := 43) rfl ?_); refine goesL_ (some 12) rfl rfl Tryz.func43 (by kernel_rfl) rfl #[.string a0_0] rfl (by (try simp only [List.map_toArray, List.map_cons, List.map_nil]); try rfl) ?_; (with_reducible refine (schismaref04_Int.calls k a0_0 t336 true _ A2.out).mono ?_); rintro e w' ⟨rfl, ⟨nd, rfl⟩⟩; refine ⟨_, rfl, ?_⟩) | ((with_reducible refine gate_callee (f := 43) rfl ?_); refine goesL_ (some 18) rfl rfl Tryz.func43 (by kernel_rfl) rfl #[.string a0_1] rfl (by (try simp only [List.map_toArray, List.map_cons, List.map_nil]); try rfl) ?_; (with_reducible refine (schismaref04_Int.calls k a0_1 t338 false _ A3.out).mono ?_); rintro e w' ⟨rfl, ⟨nd, rfl⟩⟩; refine ⟨_, rfl, ?_⟩))
   go_ret3
   exact ⟨by first | rfl | (simp [*, errW_none, errW_some] <;> rfl), by repeat (first | (with_reducible first | exact HB.out | apply below_alloc | apply pw_below_drewN | apply below_drew1 | refine below_set ?_ GE335.out) | exact HB.out)⟩
 ·replace c4 := Bool.eq_false_iff.mpr c4
  subst c4
  have H1 : (some (0, 0, false)) = some (r1, r2, r3) := by rw [if_neg (show ¬ (false = true) by decide)] at H; exact H
  clear H
  have H := H1
  clear H1
  simp only [Option.some.injEq, Prod.mk.injEq] at H
  obtain ⟨rfl, rfl, rfl⟩ := H
  go_enter Tryz.func15, Tryz.ntmps15
  go_wp2_with (first | ((with_reducible refine gate_dst (N := 1) rfl ?_); refine box_event ?hg (N := 1) ?hd (cs := #[.string a0_0, .string a0_1]) (t := 24) ?hr ?_; (case hd => rfl); (case hg => rfl); (case hr => first | (go_simp; done) | (go_simp; rfl)); intro gb335 hg w17 hbox hb; have n0_ := Aside0.mk (below_step (by repeat (first | (with_reducible first | exact HB.out | apply below_alloc | apply pw_below_drewN | apply below_drew1) | exact HB.out)) hb); have n1_ := Aside0.mk (hbox); have n2_ := Aside0.mk ((by rw [hg]; exact (below_size (by repeat (first | (with_reducible first | exact HB.out | apply below_alloc | apply pw_below_drewN | apply below_drew1) | exact HB.out))) : w.heap.size ≤ gb335)); have n3_ := Aside0.mk ((by rw [hg]; exact (below_size (by repeat (first | (with_reducible first | exact HB.out | apply below_alloc | apply pw_below_drewN | apply below_drew1) | exact HB.out))) : w.heap.size ≤ gb335)); clear HB; have HB := n0_; have BK335 := n1_; have GW335 := n2_; have GE335 := n3_; clear n0_ n1_ n2_ n3_; clear hb hbox hg; have hcz18_0 : w17.cell? ⟨gb335, 0, none⟩ = some (.string a0_0) := (blk_cell BK335.out 0).trans rfl; have hcz18_1 : w17.cell? ⟨gb335, 1, none⟩ = some (.string a0_1) := (blk_cell BK335.out 1).trans rfl; have hfz18_0 := blk_frozen BK335.out 0; have hfz18_1 := blk_frozen BK335.out 1) | ((with_reducible refine gate_callee (f := 43) rfl ?_); refine goesL_ (some 12) rfl rfl Tryz.func43 (by kernel_rfl) rfl #[.string a0_0] rfl (by (try simp only [List.map_toArray, List.map_cons, List.map_nil]); try rfl) ?_; (with_reducible refine (schismaref04_Int.calls k a0_0 t336 false _ A2.out).mono ?_); rintro e w' ⟨rfl, ⟨nd, rfl⟩⟩; refine ⟨_, rfl, ?_⟩) | ((with_reducible refine gate_callee (f := 43) rfl ?_); refine goesL_ (some 18) rfl rfl Tryz.func43 (by kernel_rfl) rfl #[.string a0_1] rfl (by (try simp only [List.map_toArray, List.map_cons, List.map_nil]); try rfl) ?_; (with_reducible refine (schismaref04_Int.calls k a0_1 t338 t339 _ A3.out).mono ?_); rintro e w' ⟨rfl, ⟨nd, rfl⟩⟩; refine ⟨_, rfl, ?_⟩))
  go_ret3
  exact ⟨by first | rfl | (simp [*, errW_none, errW_some] <;> rfl), by repeat (first | (with_reducible first | exact HB.out | apply below_alloc | apply pw_below_drewN | apply below_drew1 | refine below_set ?_ GE335.out) | exact HB.out)⟩
def schismalaw04_none.f (a0_0 : ByteArray) (a0_1 : ByteArray) : Option (Bool) := some (a0_0.toList == ([] : List UInt8) && (a0_1.toList == ([] : List UInt8)))
set_option maxHeartbeats 8000000 in
set_option maxRecDepth 100000 in
theorem schismalaw04_none.calls (a0_0 : ByteArray) (a0_1 : ByteArray) (r : Bool) (w : World) (h : schismalaw04_none.f a0_0 a0_1 = some r) :
  Calls Tryz.prog 16 #[.agg #[.string a0_0, .string a0_1]] w fun e w' => e = .returned (.bool r) ∧ Below w.heap.size w w' := by
 have hu24 := Tryz.underlying24
 have HB := Aside0.mk (Below.refl w.heap.size w)
 have H : (some (a0_0.toList == ([] : List UInt8) && (a0_1.toList == ([] : List UInt8)))) = some r := h
 clear h
 obtain rfl := Option.some.inj H
 go_enter Tryz.func16, Tryz.ntmps16
 go_wp2_with (first | ((with_reducible refine gate_dst (N := 1) rfl ?_); refine box_event ?hg (N := 1) ?hd (cs := #[.string a0_0, .string a0_1]) (t := 24) ?hr ?_; (case hd => rfl); (case hg => rfl); (case hr => first | (go_simp; done) | (go_simp; rfl)); intro gb341 hg w2 hbox hb; have n0_ := Aside0.mk (below_step (by repeat (first | (with_reducible first | exact HB.out | apply below_alloc | apply pw_below_drewN | apply below_drew1) | exact HB.out)) hb); have n1_ := Aside0.mk (hbox); have n2_ := Aside0.mk ((by rw [hg]; exact (below_size (by repeat (first | (with_reducible first | exact HB.out | apply below_alloc | apply pw_below_drewN | apply below_drew1) | exact HB.out))) : w.heap.size ≤ gb341)); have n3_ := Aside0.mk ((by rw [hg]; exact (below_size (by repeat (first | (with_reducible first | exact HB.out | apply below_alloc | apply pw_below_drewN | apply below_drew1) | exact HB.out))) : w.heap.size ≤ gb341)); clear HB; have HB := n0_; have BK341 := n1_; have GW341 := n2_; have GE341 := n3_; clear n0_ n1_ n2_ n3_; clear hb hbox hg; have hcz3_0 : w2.cell? ⟨gb341, 0, none⟩ = some (.string a0_0) := (blk_cell BK341.out 0).trans rfl; have hcz3_1 : w2.cell? ⟨gb341, 1, none⟩ = some (.string a0_1) := (blk_cell BK341.out 1).trans rfl; have hfz3_0 := blk_frozen BK341.out 0; have hfz3_1 := blk_frozen BK341.out 1))
 go_ret
 exact ⟨by first | rfl | (simp [*, errW_none, errW_some] <;> rfl), by repeat (first | (with_reducible first | exact HB.out | apply below_alloc | apply pw_below_drewN | apply below_drew1 | refine below_set ?_ GE341.out) | exact HB.out)⟩
def convergent_begin.f  : Option (ByteArray × ByteArray × ByteArray × ByteArray) := some ((⟨#[49]⟩ : ByteArray), (⟨#[48]⟩ : ByteArray), (⟨#[48]⟩ : ByteArray), (⟨#[49]⟩ : ByteArray))
set_option maxHeartbeats 8000000 in
set_option maxRecDepth 100000 in
theorem convergent_begin.calls  (r1 : ByteArray) (r2 : ByteArray) (r3 : ByteArray) (r4 : ByteArray) (w : World) (h : convergent_begin.f  = some (r1, r2, r3, r4)) :
  Calls Tryz.prog 47 #[] w fun e w' => e = .returned (.agg #[.string r1, .string r2, .string r3, .string r4]) ∧ Below w.heap.size w w' := by
 have hu71 := Tryz.underlying71
 have HB := Aside0.mk (Below.refl w.heap.size w)
 have H : (some ((⟨#[49]⟩ : ByteArray), (⟨#[48]⟩ : ByteArray), (⟨#[48]⟩ : ByteArray), (⟨#[49]⟩ : ByteArray))) = some (r1, r2, r3, r4) := h
 clear h
 simp only [Option.some.injEq, Prod.mk.injEq] at H
 obtain ⟨rfl, rfl, rfl, rfl⟩ := H
 go_enter Tryz.func47, Tryz.ntmps47
 go_wp2_with (first | ((with_reducible refine gate_dst (N := 0) rfl ?_); refine box_event ?hg (N := 0) ?hd (cs := #[.string (⟨#[]⟩ : ByteArray), .string (⟨#[]⟩ : ByteArray), .string (⟨#[]⟩ : ByteArray), .string (⟨#[]⟩ : ByteArray)]) (t := 71) ?hr ?_; (case hd => rfl); (case hg => rfl); (case hr => first | (go_simp; done) | (go_simp; rfl)); intro gb345 hg w1 hbox hb; have n0_ := Aside0.mk (below_step (by repeat (first | (with_reducible first | exact HB.out | apply below_alloc | apply pw_below_drewN | apply below_drew1) | exact HB.out)) hb); have n1_ := Aside0.mk (hbox); have n2_ := Aside0.mk ((by rw [hg]; exact (below_size (by repeat (first | (with_reducible first | exact HB.out | apply below_alloc | apply pw_below_drewN | apply below_drew1) | exact HB.out))) : w.heap.size ≤ gb345)); have n3_ := Aside0.mk ((by rw [hg]; exact (below_size (by repeat (first | (with_reducible first | exact HB.out | apply below_alloc | apply pw_below_drewN | apply below_drew1) | exact HB.out))) : w.heap.size ≤ gb345)); clear HB; have HB := n0_; have BK345 := n1_; have GW345 := n2_; have GE345 := n3_; clear n0_ n1_ n2_ n3_; clear hb hbox hg; have hcz2_0 : w1.cell? ⟨gb345, 0, none⟩ = some (.string (⟨#[]⟩ : ByteArray)) := (blk_cell BK345.out 0).trans rfl; have hcz2_1 : w1.cell? ⟨gb345, 1, none⟩ = some (.string (⟨#[]⟩ : ByteArray)) := (blk_cell BK345.out 1).trans rfl; have hcz2_2 : w1.cell? ⟨gb345, 2, none⟩ = some (.string (⟨#[]⟩ : ByteArray)) := (blk_cell BK345.out 2).trans rfl; have hcz2_3 : w1.cell? ⟨gb345, 3, none⟩ = some (.string (⟨#[]⟩ : ByteArray)) := (blk_cell BK345.out 3).trans rfl; have hfz2_0 := blk_frozen BK345.out 0; have hfz2_1 := blk_frozen BK345.out 1; have hfz2_2 := blk_frozen BK345.out 2; have hfz2_3 := blk_frozen BK345.out 3))
 refine bodyPost_ret (results_cell_row rfl _ _ gb345 71 #[.string (⟨#[49]⟩ : ByteArray), .string (⟨#[48]⟩ : ByteArray), .string (⟨#[48]⟩ : ByteArray), .string (⟨#[49]⟩ : ByteArray)] (0, 0) _ rfl (by (with_reducible repeat (first | refine blk_drewN ?_ _ | refine blk_drew ?_ | refine blk_alloc ?_ _)); refine blk_put (cs := #[.string (⟨#[49]⟩ : ByteArray), .string (⟨#[48]⟩ : ByteArray), .string (⟨#[48]⟩ : ByteArray), .string (⟨#[]⟩ : ByteArray)]) ?_ 3 _ rfl; (with_reducible repeat (first | refine blk_drewN ?_ _ | refine blk_drew ?_ | refine blk_alloc ?_ _)); refine blk_put (cs := #[.string (⟨#[49]⟩ : ByteArray), .string (⟨#[48]⟩ : ByteArray), .string (⟨#[]⟩ : ByteArray), .string (⟨#[]⟩ : ByteArray)]) ?_ 2 _ rfl; (with_reducible repeat (first | refine blk_drewN ?_ _ | refine blk_drew ?_ | refine blk_alloc ?_ _)); refine blk_put (cs := #[.string (⟨#[49]⟩ : ByteArray), .string (⟨#[]⟩ : ByteArray), .string (⟨#[]⟩ : ByteArray), .string (⟨#[]⟩ : ByteArray)]) ?_ 1 _ rfl; (with_reducible repeat (first | refine blk_drewN ?_ _ | refine blk_drew ?_ | refine blk_alloc ?_ _)); refine blk_put (cs := #[.string (⟨#[]⟩ : ByteArray), .string (⟨#[]⟩ : ByteArray), .string (⟨#[]⟩ : ByteArray), .string (⟨#[]⟩ : ByteArray)]) ?_ 0 _ rfl; (with_reducible repeat (first | refine blk_drewN ?_ _ | refine blk_drew ?_ | refine blk_alloc ?_ _)); exact BK345.out) Tryz.underlying71 rfl (by kernel_rfl)) rfl ?_
 exact ⟨by first | rfl | (simp [*, errW_none, errW_some] <;> rfl), by repeat (first | (with_reducible first | exact HB.out | apply below_alloc | apply pw_below_drewN | apply below_drew1 | refine below_set ?_ GE345.out) | exact HB.out)⟩
end Go.Proofs.YtidajgkepdkcbaaGreatDoor.PF
end
section
namespace Go.Proofs.YtidajgkepdkcbaaGreatDoor.PF
open Go.RowKit Go.Proofs.YtidajgkepdkcbaaGreatDoorW.PrintWords Go.Proofs.YtidajgkepdkcbaaGreatDoorW.PrintLast Go.Proofs.YtidajgkepdkcbaaGreatDoorW.PrintMore
attribute [local go_sem] max2_int min2_int max_two min_two max_three min_three max_four min_four
def convergent_pair_step.f (k : Nat) (a0_0 : ByteArray) (a0_1 : ByteArray) (a0_2 : ByteArray) (a0_3 : ByteArray) (a1 : ByteArray) : Option (ByteArray × ByteArray) := (whole_Mul.f k a1 a0_0).bind fun t347 => ((whole_Add.f k a0_2 t347).bind fun t348 => ((whole_Mul.f k a1 a0_1).bind fun t349 => ((whole_Add.f k a0_3 t349).bind fun t350 => (some (t348, t350)))))
def convergent_pair_step.T1 : Bool × List (List Nat × List Nat) := (true, [([], []), ([0], [0]), ([], []), ([], []), ([3], [3]), ([2, 4], [2, 4]), ([1, 5, 5], [1, 5]), ([], []), ([7], [7]), ([], []), ([], []), ([10], [10]), ([9, 11, 6], [9, 11]), ([8, 12, 12], [8, 12]), ([6, 13, 0, 1, 2, 3, 4, 5, 6], [6]), ([13, 14, 0, 1, 2, 3, 4, 5, 6, 7, 8, 9, 10, 11, 12, 13, 14], [13])])
def convergent_pair_step.B1 : List Nat := [0, 1, 0, 0, 8, 28, 63, 0, 128, 0, 0, 1024, 3711, 8191, 16383, 32767]
theorem convergent_pair_step.tab1 : rtab .any (opsOf Tryz.f83 1) = convergent_pair_step.T1 := by kernel_rfl
theorem convergent_pair_step.bits1 : waitsOk convergent_pair_step.T1.2 convergent_pair_step.B1 = true := by kernel_rfl
set_option maxHeartbeats 8000000 in
set_option maxRecDepth 100000 in
theorem convergent_pair_step.calls (k : Nat) (a0_0 : ByteArray) (a0_1 : ByteArray) (a0_2 : ByteArray) (a0_3 : ByteArray) (a1 : ByteArray) (r1 : ByteArray) (r2 : ByteArray) (w : World) (hG_ : GWorld w) (h : convergent_pair_step.f k a0_0 a0_1 a0_2 a0_3 a1 = some (r1, r2)) :
  Calls Tryz.prog 83 #[.agg #[.string a0_0, .string a0_1, .string a0_2, .string a0_3], .string a1] w fun e w' => e = .returned (.tuple #[.string r1, .string r2]) ∧ Below w.heap.size w w' := by
 have hu71 := Tryz.underlying71
 have HB := Aside0.mk (Below.refl w.heap.size w)
 have HG := Aside0.mk hG_
 clear hG_
 have H : ((whole_Mul.f k a1 a0_0).bind fun t347 => ((whole_Add.f k a0_2 t347).bind fun t348 => ((whole_Mul.f k a1 a0_1).bind fun t349 => ((whole_Add.f k a0_3 t349).bind fun t350 => (some (t348, t350)))))) = some (r1, r2) := h
 clear h
 replace H := Option.bind_eq_some_iff.mp H
 obtain ⟨t347, A30, H⟩ := H
 replace H : ((whole_Add.f k a0_2 t347).bind fun t348 => ((whole_Mul.f k a1 a0_1).bind fun t349 => ((whole_Add.f k a0_3 t349).bind fun t350 => (some (t348, t350))))) = some (r1, r2) := H
 have A3 := Aside0.mk A30
 clear A30
 replace H := Option.bind_eq_some_iff.mp H
 obtain ⟨t348, A40, H⟩ := H
 replace H : ((whole_Mul.f k a1 a0_1).bind fun t349 => ((whole_Add.f k a0_3 t349).bind fun t350 => (some (t348, t350)))) = some (r1, r2) := H
 have A4 := Aside0.mk A40
 clear A40
 replace H := Option.bind_eq_some_iff.mp H
 obtain ⟨t349, A50, H⟩ := H
 replace H : ((whole_Add.f k a0_3 t349).bind fun t350 => (some (t348, t350))) = some (r1, r2) := H
 have A5 := Aside0.mk A50
 clear A50
 replace H := Option.bind_eq_some_iff.mp H
 obtain ⟨t350, A60, H⟩ := H
 replace H : (some (t348, t350)) = some (r1, r2) := H
 have A6 := Aside0.mk A60
 clear A60
 simp only [Option.some.injEq, Prod.mk.injEq] at H
 obtain ⟨rfl, rfl⟩ := H
 go_enter Tryz.func83, Tryz.ntmps83
 try go_wp2_with (first | ((with_reducible refine gate_dst (N := 2) rfl ?_); refine box_event ?hg (N := 2) ?hd (cs := #[.string a0_0, .string a0_1, .string a0_2, .string a0_3]) (t := 71) ?hr ?_; (case hd => rfl); (case hg => rfl); (case hr => first | (go_simp; done) | (go_simp; rfl)); intro gb346 hg w7 hbox hb; have n0_ := Aside0.mk (below_step (by repeat (first | (with_reducible first | exact HB.out | apply below_alloc | apply pw_below_drewN | apply below_drew1) | exact HB.out)) hb); have n1_ := Aside0.mk (hbox); have n2_ := Aside0.mk ((by rw [hg]; exact (below_size (by repeat (first | (with_reducible first | exact HB.out | apply below_alloc | apply pw_below_drewN | apply below_drew1) | exact HB.out))) : w.heap.size ≤ gb346)); have n3_ := Aside0.mk ((by rw [hg]; exact (below_size (by repeat (first | (with_reducible first | exact HB.out | apply below_alloc | apply pw_below_drewN | apply below_drew1) | exact HB.out))) : w.heap.size ≤ gb346)); clear HB; have HB := n0_; have BK346 := n1_; have GW346 := n2_; have GE346 := n3_; clear n0_ n1_ n2_ n3_; clear hb hbox hg))
 have n0_ := Aside0.mk (blk_drew BK346.out)
 have n1_ := Aside0.mk (below_drew1 HB.out)
 clear BK346
 clear HB
 have BK346 := n0_
 have HB := n1_
 clear n0_ n1_
 refine start_ (n := 16) (S := fun w' => w'.cell? ⟨gb346, 0, none⟩ = some (.string a0_0) ∧ w'.cell? ⟨gb346, 1, none⟩ = some (.string a0_1) ∧ w'.cell? ⟨gb346, 2, none⟩ = some (.string a0_2) ∧ w'.cell? ⟨gb346, 3, none⟩ = some (.string a0_3)) (ds := []) #[false, false, false, false, false, false, false, false, false, false, false, false, false, false, false, false] (by kernel_rfl) rfl rfl ⟨(blk_cell BK346.out 0).trans rfl, (blk_cell BK346.out 1).trans rfl, (blk_cell BK346.out 2).trans rfl, (blk_cell BK346.out 3).trans rfl⟩ (fun hHeld => ?_); refine with_tabW convergent_pair_step.tab1 convergent_pair_step.bits1 (fun HT_ HW_ => ?_)
 generalize w7.drew = w8 at BK346 HB hHeld ⊢
 refine pure_ (i := 0) (N := some 6) (v := ?_) (a' := ?_) #[true, false, false, false, false, false, false, false, false, false, false, false, false, false, false, false] rfl rfl (any_of HT_.out (by kernel_rfl)) (fun _ _ _ h => h) (Or.inl ⟨by rfl, ?_⟩) ?_ ?_
 rotate_left
 ·intro w'
  go_simp
  with_reducible rfl
 rotate_left
 ·simp only [Act.put, List.setIfInBounds_toArray, List.set_cons_zero, List.set_cons_succ, i64_w, i32_w]
  rfl
 refine pure_ (i := 2) (N := some 8) (v := ?_) (a' := ?_) #[true, false, true, false, false, false, false, false, false, false, false, false, false, false, false, false] rfl rfl (any_of HT_.out (by kernel_rfl)) (fun _ _ _ h => h) (Or.inl ⟨by rfl, ?_⟩) ?_ ?_
 rotate_left
 ·intro w'
  go_simp
  with_reducible rfl
 rotate_left
 ·simp only [Act.put, List.setIfInBounds_toArray, List.set_cons_zero, List.set_cons_succ, i64_w, i32_w]
  rfl
 refine pure_ (i := 3) (N := some 9) (v := ?_) (a' := ?_) #[true, false, true, true, false, false, false, false, false, false, false, false, false, false, false, false] rfl rfl (any_of HT_.out (by kernel_rfl)) (fun _ _ _ h => h) (Or.inl ⟨by rfl, ?_⟩) ?_ ?_
 rotate_left
 ·intro w'
  go_simp
  with_reducible rfl
 rotate_left
 ·simp only [Act.put, List.setIfInBounds_toArray, List.set_cons_zero, List.set_cons_succ, i64_w, i32_w]
  rfl
 refine pure_ (i := 7) (N := some 13) (v := ?_) (a' := ?_) #[true, false, true, true, false, false, false, true, false, false, false, false, false, false, false, false] rfl rfl (any_of HT_.out (by kernel_rfl)) (fun _ _ _ h => h) (Or.inl ⟨by rfl, ?_⟩) ?_ ?_
 rotate_left
 ·intro w'
  go_simp
  with_reducible rfl
 rotate_left
 ·simp only [Act.put, List.setIfInBounds_toArray, List.set_cons_zero, List.set_cons_succ, i64_w, i32_w]
  rfl
 refine pure_ (i := 9) (N := some 15) (v := ?_) (a' := ?_) #[true, false, true, true, false, false, false, true, false, true, false, false, false, false, false, false] rfl rfl (any_of HT_.out (by kernel_rfl)) (fun _ _ _ h => h) (Or.inl ⟨by rfl, ?_⟩) ?_ ?_
 rotate_left
 ·intro w'
  go_simp
  with_reducible rfl
 rotate_left
 ·simp only [Act.put, List.setIfInBounds_toArray, List.set_cons_zero, List.set_cons_succ, i64_w, i32_w]
  rfl
 refine pure_ (i := 10) (N := some 16) (v := ?_) (a' := ?_) #[true, false, true, true, false, false, false, true, false, true, true, false, false, false, false, false] rfl rfl (any_of HT_.out (by kernel_rfl)) (fun _ _ _ h => h) (Or.inl ⟨by rfl, ?_⟩) ?_ ?_
 rotate_left
 ·intro w'
  go_simp
  with_reducible rfl
 rotate_left
 ·simp only [Act.put, List.setIfInBounds_toArray, List.set_cons_zero, List.set_cons_succ, i64_w, i32_w]
  rfl
 refine take_ (i := 1) (N := some 7) (v := ?_) (a' := ?_) #[true, true, true, true, false, false, false, true, false, true, true, false, false, false, false, false] rfl rfl (take_ofW HT_.out HW_.out (by kernel_rfl)) (fun _ _ _ h => h) (Or.inl ⟨by rfl, ?_⟩) hHeld ?_ ?_
 rotate_left
 ·rintro w' ⟨s0, s1, s2, s3⟩
  go_simp
  with_reducible rfl
 rotate_left
 ·simp only [Act.put, List.setIfInBounds_toArray, List.set_cons_zero, List.set_cons_succ, i64_w, i32_w]
  rfl
 refine take_ (i := 4) (N := some 10) (v := ?_) (a' := ?_) #[true, true, true, true, true, false, false, true, false, true, true, false, false, false, false, false] rfl rfl (take_ofW HT_.out HW_.out (by kernel_rfl)) (fun _ _ _ h => h) (Or.inl ⟨by rfl, ?_⟩) hHeld ?_ ?_
 rotate_left
 ·rintro w' ⟨s0, s1, s2, s3⟩
  go_simp
  with_reducible rfl
 rotate_left
 ·simp only [Act.put, List.setIfInBounds_toArray, List.set_cons_zero, List.set_cons_succ, i64_w, i32_w]
  rfl
 refine take_ (i := 8) (N := some 14) (v := ?_) (a' := ?_) #[true, true, true, true, true, false, false, true, true, true, true, false, false, false, false, false] rfl rfl (take_ofW HT_.out HW_.out (by kernel_rfl)) (fun _ _ _ h => h) (Or.inl ⟨by rfl, ?_⟩) hHeld ?_ ?_
 rotate_left
 ·rintro w' ⟨s0, s1, s2, s3⟩
  go_simp
  with_reducible rfl
 rotate_left
 ·simp only [Act.put, List.setIfInBounds_toArray, List.set_cons_zero, List.set_cons_succ, i64_w, i32_w]
  rfl
 refine take_ (i := 11) (N := some 17) (v := ?_) (a' := ?_) #[true, true, true, true, true, false, false, true, true, true, true, true, false, false, false, false] rfl rfl (take_ofW HT_.out HW_.out (by kernel_rfl)) (fun _ _ _ h => h) (Or.inl ⟨by rfl, ?_⟩) hHeld ?_ ?_
 rotate_left
 ·rintro w' ⟨s0, s1, s2, s3⟩
  go_simp
  with_reducible rfl
 rotate_left
 ·simp only [Act.put, List.setIfInBounds_toArray, List.set_cons_zero, List.set_cons_succ, i64_w, i32_w]
  rfl
 refine one_ (i := 5) (N := some 11) #[true, true, true, true, true, true, false, true, true, true, true, true, false, false, false, false] rfl rfl (one_of HT_.out (by kernel_rfl)) (by decide) (fun K hK => ?_)
 refine goes_ Tryz.func88 (by kernel_rfl) rfl #[.string a1, .string a0_0] (by rfl) rfl rfl (by (try simp only [List.map_toArray, List.map_cons, List.map_nil]); try rfl) ?_
 with_reducible refine (whole_Mul.calls k a1 a0_0 t347 _ ?side1 A3.out).mono ?_
 (case side1 => exact GWorld.below HG.out (by repeat (first | (with_reducible first | exact HB.out | apply below_alloc | apply pw_below_drewN | apply below_drew1 | refine below_set ?_ GE346.out) | exact HB.out)))
 rintro e w9 ⟨rfl, hb⟩
 refine ⟨_, rfl, ?_⟩
 have n0_ := Aside0.mk (blk_below (g := gb346) (o := .cells #[.string a0_0, .string a0_1, .string a0_2, .string a0_3] 71 (0, 0)) (by (with_reducible repeat (first | refine blk_drewN ?_ _ | refine blk_drew ?_ | refine blk_alloc ?_ _)); exact BK346.out) hb)
 have n1_ := Aside0.mk (below_step (by repeat (first | (with_reducible first | exact HB.out | apply below_alloc | apply pw_below_drewN | apply below_drew1 | refine below_set ?_ GE346.out) | exact HB.out)) hb)
 clear BK346
 clear HB
 have BK346 := n0_
 have HB := n1_
 clear n0_ n1_
 (try clear hb); (try clear hb2); (try clear hk); (try clear hi)
 refine hK.out _ _ ⟨(blk_cell BK346.out 0).trans rfl, (blk_cell BK346.out 1).trans rfl, (blk_cell BK346.out 2).trans rfl, (blk_cell BK346.out 3).trans rfl⟩ (fun hHeld => ?_)
 clear hK K
 refine norm_ (a' := ?_) ?_ ?_
 rotate_left
 ·show Act.put _ (some 11) _ = _
  simp only [Act.put, List.setIfInBounds_toArray, List.set_cons_zero, List.set_cons_succ, i64_w, i32_w]
  rfl
 refine one_ (i := 6) (N := some 12) #[true, true, true, true, true, true, true, true, true, true, true, true, false, false, false, false] rfl rfl (one_of HT_.out (by kernel_rfl)) (by decide) (fun K hK => ?_)
 refine goes_ Tryz.func42 (by kernel_rfl) rfl #[.string a0_2, .string t347] (by rfl) rfl rfl (by (try simp only [List.map_toArray, List.map_cons, List.map_nil]); try rfl) ?_
 with_reducible refine (whole_Add.calls k a0_2 t347 t348 _ ?side1 A4.out).mono ?_
 (case side1 => exact GWorld.below HG.out (by repeat (first | (with_reducible first | exact HB.out | apply below_alloc | apply pw_below_drewN | apply below_drew1 | refine below_set ?_ GE346.out) | exact HB.out)))
 rintro e w10 ⟨rfl, hb⟩
 refine ⟨_, rfl, ?_⟩
 have n0_ := Aside0.mk (blk_below (g := gb346) (o := .cells #[.string a0_0, .string a0_1, .string a0_2, .string a0_3] 71 (0, 0)) (by (with_reducible repeat (first | refine blk_drewN ?_ _ | refine blk_drew ?_ | refine blk_alloc ?_ _)); exact BK346.out) hb)
 have n1_ := Aside0.mk (below_step (by repeat (first | (with_reducible first | exact HB.out | apply below_alloc | apply pw_below_drewN | apply below_drew1 | refine below_set ?_ GE346.out) | exact HB.out)) hb)
 clear BK346
 clear HB
 have BK346 := n0_
 have HB := n1_
 clear n0_ n1_
 (try clear hb); (try clear hb2); (try clear hk); (try clear hi)
 refine hK.out _ _ ⟨(blk_cell BK346.out 0).trans rfl, (blk_cell BK346.out 1).trans rfl, (blk_cell BK346.out 2).trans rfl, (blk_cell BK346.out 3).trans rfl⟩ (fun hHeld => ?_)
 clear hK K
 refine norm_ (a' := ?_) ?_ ?_
 rotate_left
 ·show Act.put _ (some 12) _ = _
  simp only [Act.put, List.setIfInBounds_toArray, List.set_cons_zero, List.set_cons_succ, i64_w, i32_w]
  rfl
 refine one_ (i := 12) (N := some 18) #[true, true, true, true, true, true, true, true, true, true, true, true, true, false, false, false] rfl rfl (one_of HT_.out (by kernel_rfl)) (by decide) (fun K hK => ?_)
 refine goes_ Tryz.func88 (by kernel_rfl) rfl #[.string a1, .string a0_1] (by rfl) rfl rfl (by (try simp only [List.map_toArray, List.map_cons, List.map_nil]); try rfl) ?_
 with_reducible refine (whole_Mul.calls k a1 a0_1 t349 _ ?side1 A5.out).mono ?_
 (case side1 => exact GWorld.below HG.out (by repeat (first | (with_reducible first | exact HB.out | apply below_alloc | apply pw_below_drewN | apply below_drew1 | refine below_set ?_ GE346.out) | exact HB.out)))
 rintro e w11 ⟨rfl, hb⟩
 refine ⟨_, rfl, ?_⟩
 have n0_ := Aside0.mk (blk_below (g := gb346) (o := .cells #[.string a0_0, .string a0_1, .string a0_2, .string a0_3] 71 (0, 0)) (by (with_reducible repeat (first | refine blk_drewN ?_ _ | refine blk_drew ?_ | refine blk_alloc ?_ _)); exact BK346.out) hb)
 have n1_ := Aside0.mk (below_step (by repeat (first | (with_reducible first | exact HB.out | apply below_alloc | apply pw_below_drewN | apply below_drew1 | refine below_set ?_ GE346.out) | exact HB.out)) hb)
 clear BK346
 clear HB
 have BK346 := n0_
 have HB := n1_
 clear n0_ n1_
 (try clear hb); (try clear hb2); (try clear hk); (try clear hi)
 refine hK.out _ _ ⟨(blk_cell BK346.out 0).trans rfl, (blk_cell BK346.out 1).trans rfl, (blk_cell BK346.out 2).trans rfl, (blk_cell BK346.out 3).trans rfl⟩ (fun hHeld => ?_)
 clear hK K
 refine norm_ (a' := ?_) ?_ ?_
 rotate_left
 ·show Act.put _ (some 18) _ = _
  simp only [Act.put, List.setIfInBounds_toArray, List.set_cons_zero, List.set_cons_succ, i64_w, i32_w]
  rfl
 refine one_ (i := 13) (N := some 19) #[true, true, true, true, true, true, true, true, true, true, true, true, true, true, false, false] rfl rfl (one_of HT_.out (by kernel_rfl)) (by decide) (fun K hK => ?_)
 refine goes_ Tryz.func42 (by kernel_rfl) rfl #[.string a0_3, .string t349] (by rfl) rfl rfl (by (try simp only [List.map_toArray, List.map_cons, List.map_nil]); try rfl) ?_
 with_reducible refine (whole_Add.calls k a0_3 t349 t350 _ ?side1 A6.out).mono ?_
 (case side1 => exact GWorld.below HG.out (by repeat (first | (with_reducible first | exact HB.out | apply below_alloc | apply pw_below_drewN | apply below_drew1 | refine below_set ?_ GE346.out) | exact HB.out)))
 rintro e w12 ⟨rfl, hb⟩
 refine ⟨_, rfl, ?_⟩
 have n0_ := Aside0.mk (blk_below (g := gb346) (o := .cells #[.string a0_0, .string a0_1, .string a0_2, .string a0_3] 71 (0, 0)) (by (with_reducible repeat (first | refine blk_drewN ?_ _ | refine blk_drew ?_ | refine blk_alloc ?_ _)); exact BK346.out) hb)
 have n1_ := Aside0.mk (below_step (by repeat (first | (with_reducible first | exact HB.out | apply below_alloc | apply pw_below_drewN | apply below_drew1 | refine below_set ?_ GE346.out) | exact HB.out)) hb)
 clear BK346
 clear HB
 have BK346 := n0_
 have HB := n1_
 clear n0_ n1_
 (try clear hb); (try clear hb2); (try clear hk); (try clear hi)
 refine hK.out _ _ ⟨(blk_cell BK346.out 0).trans rfl, (blk_cell BK346.out 1).trans rfl, (blk_cell BK346.out 2).trans rfl, (blk_cell BK346.out 3).trans rfl⟩ (fun hHeld => ?_)
 clear hK K
 refine norm_ (a' := ?_) ?_ ?_
 rotate_left
 ·show Act.put _ (some 19) _ = _
  simp only [Act.put, List.setIfInBounds_toArray, List.set_cons_zero, List.set_cons_succ, i64_w, i32_w]
  rfl
 refine pure_ (i := 14) (N := some 4) (v := ?_) (a' := ?_) #[true, true, true, true, true, true, true, true, true, true, true, true, true, true, true, false] rfl rfl (any_of HT_.out (by kernel_rfl)) (fun _ _ _ h => h) (Or.inl ⟨by rfl, ?_⟩) ?_ ?_
 rotate_left
 ·intro w'
  go_simp
  with_reducible rfl
 rotate_left
 ·simp only [Act.put, List.setIfInBounds_toArray, List.set_cons_zero, List.set_cons_succ, i64_w, i32_w]
  rfl
 refine pure_ (i := 15) (N := some 5) (v := ?_) (a' := ?_) #[true, true, true, true, true, true, true, true, true, true, true, true, true, true, true, true] rfl rfl (any_of HT_.out (by kernel_rfl)) (fun _ _ _ h => h) (Or.inl ⟨by rfl, ?_⟩) ?_ ?_
 rotate_left
 ·intro w'
  go_simp
  with_reducible rfl
 rotate_left
 ·simp only [Act.put, List.setIfInBounds_toArray, List.set_cons_zero, List.set_cons_succ, i64_w, i32_w]
  rfl
 refine done_ (done_of HT_.out (by kernel_rfl)) ?_
 try go_wp2
 go_ret2
 exact ⟨by first | rfl | (simp [*, errW_none, errW_some] <;> rfl), by repeat (first | (with_reducible first | exact HB.out | apply below_alloc | apply pw_below_drewN | apply below_drew1 | refine below_set ?_ GE346.out) | exact HB.out)⟩
def convergent_pair_next.f (k : Nat) (a0_0 : ByteArray) (a0_1 : ByteArray) (a0_2 : ByteArray) (a0_3 : ByteArray) (a1 : ByteArray) : Option (ByteArray × ByteArray × ByteArray × ByteArray) := (convergent_pair_step.f k a0_0 a0_1 a0_2 a0_3 a1).bind fun bt353 => (some (bt353.1, bt353.2, a0_0, a0_1))
set_option maxHeartbeats 8000000 in
set_option maxRecDepth 100000 in
theorem convergent_pair_next.calls (k : Nat) (a0_0 : ByteArray) (a0_1 : ByteArray) (a0_2 : ByteArray) (a0_3 : ByteArray) (a1 : ByteArray) (r1 : ByteArray) (r2 : ByteArray) (r3 : ByteArray) (r4 : ByteArray) (w : World) (hG_ : GWorld w) (h : convergent_pair_next.f k a0_0 a0_1 a0_2 a0_3 a1 = some (r1, r2, r3, r4)) :
  Calls Tryz.prog 48 #[.agg #[.string a0_0, .string a0_1, .string a0_2, .string a0_3], .string a1] w fun e w' => e = .returned (.agg #[.string r1, .string r2, .string r3, .string r4]) ∧ Below w.heap.size w w' := by
 have hu71 := Tryz.underlying71
 have HB := Aside0.mk (Below.refl w.heap.size w)
 have HG := Aside0.mk hG_
 clear hG_
 have H : ((convergent_pair_step.f k a0_0 a0_1 a0_2 a0_3 a1).bind fun bt353 => (some (bt353.1, bt353.2, a0_0, a0_1))) = some (r1, r2, r3, r4) := h
 clear h
 replace H := Option.bind_eq_some_iff.mp H
 obtain ⟨⟨t353, t354⟩, A30, H⟩ := H
 replace H : (some (t353, t354, a0_0, a0_1)) = some (r1, r2, r3, r4) := H
 have A3 := Aside0.mk A30
 clear A30
 simp only [Option.some.injEq, Prod.mk.injEq] at H
 obtain ⟨rfl, rfl, rfl, rfl⟩ := H
 go_enter Tryz.func48, Tryz.ntmps48
 go_wp2_with (first | ((with_reducible refine gate_dst (N := 2) rfl ?_); refine box_event ?hg (N := 2) ?hd (cs := #[.string a0_0, .string a0_1, .string a0_2, .string a0_3]) (t := 71) ?hr ?_; (case hd => rfl); (case hg => rfl); (case hr => first | (go_simp; done) | (go_simp; rfl)); intro gb351 hg w4 hbox hb; have n0_ := Aside0.mk (below_step (by repeat (first | (with_reducible first | exact HB.out | apply below_alloc | apply pw_below_drewN | apply below_drew1) | exact HB.out)) hb); have n1_ := Aside0.mk (hbox); have n2_ := Aside0.mk ((by rw [hg]; exact (below_size (by repeat (first | (with_reducible first | exact HB.out | apply below_alloc | apply pw_below_drewN | apply below_drew1) | exact HB.out))) : w.heap.size ≤ gb351)); have n3_ := Aside0.mk ((by rw [hg]; exact (below_size (by repeat (first | (with_reducible first | exact HB.out | apply below_alloc | apply pw_below_drewN | apply below_drew1) | exact HB.out))) : w.heap.size ≤ gb351)); clear HB; have HB := n0_; have BK351 := n1_; have GW351 := n2_; have GE351 := n3_; clear n0_ n1_ n2_ n3_; clear hb hbox hg) | ((with_reducible refine gate_dst (N := 4) rfl ?_); refine box_event ?hg (N := 4) ?hd (cs := #[.string (⟨#[]⟩ : ByteArray), .string (⟨#[]⟩ : ByteArray), .string (⟨#[]⟩ : ByteArray), .string (⟨#[]⟩ : ByteArray)]) (t := 71) ?hr ?_; (case hd => rfl); (case hg => rfl); (case hr => first | (go_simp; done) | (go_simp; rfl)); intro gb352 hg w5 hbox hb; have n0_ := Aside0.mk (blk_below (g := gb351) (o := .cells #[.string a0_0, .string a0_1, .string a0_2, .string a0_3] 71 (0, 0)) (by (with_reducible repeat (first | refine blk_drewN ?_ _ | refine blk_drew ?_ | refine blk_alloc ?_ _)); exact BK351.out) hb); have n1_ := Aside0.mk (below_step (by repeat (first | (with_reducible first | exact HB.out | apply below_alloc | apply pw_below_drewN | apply below_drew1 | refine below_set ?_ GE351.out) | exact HB.out)) hb); have n2_ := Aside0.mk (hbox); have n3_ := Aside0.mk ((by rw [hg]; exact (below_size (by repeat (first | (with_reducible first | exact HB.out | apply below_alloc | apply pw_below_drewN | apply below_drew1 | refine below_set ?_ GE351.out) | exact HB.out))) : w.heap.size ≤ gb352)); have n4_ := Aside0.mk ((by rw [hg]; exact (below_size (by repeat (first | (with_reducible first | exact HB.out | apply below_alloc | apply pw_below_drewN | apply below_drew1 | refine below_set ?_ GE351.out) | exact HB.out))) : w.heap.size ≤ gb352)); have n5_ := Aside0.mk ((by rw [hg]; exact Nat.ne_of_lt (blk_lt (g := gb351) (o := .cells #[.string a0_0, .string a0_1, .string a0_2, .string a0_3] 71 (0, 0)) (by (with_reducible repeat (first | refine blk_drewN ?_ _ | refine blk_drew ?_ | refine blk_alloc ?_ _)); exact BK351.out)) : gb351 ≠ gb352)); have n6_ := Aside0.mk ((by rw [hg]; exact Nat.ne_of_gt (blk_lt (g := gb351) (o := .cells #[.string a0_0, .string a0_1, .string a0_2, .string a0_3] 71 (0, 0)) (by (with_reducible repeat (first | refine blk_drewN ?_ _ | refine blk_drew ?_ | refine blk_alloc ?_ _)); exact BK351.out)) : gb352 ≠ gb351)); clear BK351; clear HB; have BK351 := n0_; have HB := n1_; have BK352 := n2_; have GW352 := n3_; have GE352 := n4_; have NB351_352 := n5_; have NB352_351 := n6_; clear n0_ n1_ n2_ n3_ n4_ n5_ n6_; clear hb hbox hg; have hnb6 := NB351_352.out; have hnc6 := NB352_351.out; have hcz7_0 : w5.cell? ⟨gb351, 0, none⟩ = some (.string a0_0) := (blk_cell BK351.out 0).trans rfl; have hcz7_1 : w5.cell? ⟨gb351, 1, none⟩ = some (.string a0_1) := (blk_cell BK351.out 1).trans rfl; have hcz7_2 : w5.cell? ⟨gb351, 2, none⟩ = some (.string a0_2) := (blk_cell BK351.out 2).trans rfl; have hcz7_3 : w5.cell? ⟨gb351, 3, none⟩ = some (.string a0_3) := (blk_cell BK351.out 3).trans rfl; have hfz7_0 := blk_frozen BK351.out 0; have hfz7_1 := blk_frozen BK351.out 1; have hfz7_2 := blk_frozen BK351.out 2; have hfz7_3 := blk_frozen BK351.out 3) | ((with_reducible refine gate_callee (f := 83) rfl ?_); refine goesL_ (some 10) rfl rfl Tryz.func83 (by kernel_rfl) rfl #[.agg #[.string a0_0, .string a0_1, .string a0_2, .string a0_3], .string a1] rfl (by (try simp only [List.map_toArray, List.map_cons, List.map_nil]); try rfl) ?_; (with_reducible refine (convergent_pair_step.calls k a0_0 a0_1 a0_2 a0_3 a1 t353 t354 _ ?side1 A3.out).mono ?_); (case side1 => exact GWorld.below HG.out (by repeat (first | (with_reducible first | exact HB.out | apply below_alloc | apply pw_below_drewN | apply below_drew1 | refine below_set ?_ GE351.out | refine below_set ?_ GE352.out) | exact HB.out))); rintro e w8 ⟨rfl, hb⟩; refine ⟨_, rfl, ?_⟩; have n0_ := Aside0.mk (blk_below (g := gb351) (o := .cells #[.string a0_0, .string a0_1, .string a0_2, .string a0_3] 71 (0, 0)) (by (with_reducible repeat (first | refine blk_drewN ?_ _ | refine blk_drew ?_ | refine blk_alloc ?_ _)); exact BK351.out) hb); have n1_ := Aside0.mk (blk_below (g := gb352) (o := .cells #[.string (⟨#[]⟩ : ByteArray), .string (⟨#[]⟩ : ByteArray), .string (⟨#[]⟩ : ByteArray), .string (⟨#[]⟩ : ByteArray)] 71 (0, 0)) (by (with_reducible repeat (first | refine blk_drewN ?_ _ | refine blk_drew ?_ | refine blk_alloc ?_ _)); exact BK352.out) hb); have n2_ := Aside0.mk (below_step (by repeat (first | (with_reducible first | exact HB.out | apply below_alloc | apply pw_below_drewN | apply below_drew1 | refine below_set ?_ GE351.out | refine below_set ?_ GE352.out) | exact HB.out)) hb); clear BK351; clear BK352; clear HB; have BK351 := n0_; have BK352 := n1_; have HB := n2_; clear n0_ n1_ n2_; (try clear hb); (try clear hb2); (try clear hk); (try clear hi); have hcz9_0 : w8.cell? ⟨gb351, 0, none⟩ = some (.string a0_0) := (blk_cell BK351.out 0).trans rfl; have hcz9_1 : w8.cell? ⟨gb351, 1, none⟩ = some (.string a0_1) := (blk_cell BK351.out 1).trans rfl; have hcz9_2 : w8.cell? ⟨gb351, 2, none⟩ = some (.string a0_2) := (blk_cell BK351.out 2).trans rfl; have hcz9_3 : w8.cell? ⟨gb351, 3, none⟩ = some (.string a0_3) := (blk_cell BK351.out 3).trans rfl; have hfz9_0 := blk_frozen BK351.out 0; have hfz9_1 := blk_frozen BK351.out 1; have hfz9_2 := blk_frozen BK351.out 2; have hfz9_3 := blk_frozen BK351.out 3; have hcz10_0 : w8.cell? ⟨gb352, 0, none⟩ = some (.string (⟨#[]⟩ : ByteArray)) := (blk_cell BK352.out 0).trans rfl; have hcz10_1 : w8.cell? ⟨gb352, 1, none⟩ = some (.string (⟨#[]⟩ : ByteArray)) := (blk_cell BK352.out 1).trans rfl; have hcz10_2 : w8.cell? ⟨gb352, 2, none⟩ = some (.string (⟨#[]⟩ : ByteArray)) := (blk_cell BK352.out 2).trans rfl; have hcz10_3 : w8.cell? ⟨gb352, 3, none⟩ = some (.string (⟨#[]⟩ : ByteArray)) := (blk_cell BK352.out 3).trans rfl; have hfz10_0 := blk_frozen BK352.out 0; have hfz10_1 := blk_frozen BK352.out 1; have hfz10_2 := blk_frozen BK352.out 2; have hfz10_3 := blk_frozen BK352.out 3))
 refine bodyPost_ret (results_cell_row rfl _ _ gb352 71 #[.string t353, .string t354, .string a0_0, .string a0_1] (0, 0) _ rfl (by (with_reducible repeat (first | refine blk_drewN ?_ _ | refine blk_drew ?_ | refine blk_alloc ?_ _)); refine blk_put (cs := #[.string t353, .string t354, .string a0_0, .string (⟨#[]⟩ : ByteArray)]) ?_ 3 _ rfl; (with_reducible repeat (first | refine blk_drewN ?_ _ | refine blk_drew ?_ | refine blk_alloc ?_ _)); refine blk_put (cs := #[.string t353, .string t354, .string (⟨#[]⟩ : ByteArray), .string (⟨#[]⟩ : ByteArray)]) ?_ 2 _ rfl; (with_reducible repeat (first | refine blk_drewN ?_ _ | refine blk_drew ?_ | refine blk_alloc ?_ _)); refine blk_put (cs := #[.string t353, .string (⟨#[]⟩ : ByteArray), .string (⟨#[]⟩ : ByteArray), .string (⟨#[]⟩ : ByteArray)]) ?_ 1 _ rfl; (with_reducible repeat (first | refine blk_drewN ?_ _ | refine blk_drew ?_ | refine blk_alloc ?_ _)); refine blk_put (cs := #[.string (⟨#[]⟩ : ByteArray), .string (⟨#[]⟩ : ByteArray), .string (⟨#[]⟩ : ByteArray), .string (⟨#[]⟩ : ByteArray)]) ?_ 0 _ rfl; (with_reducible repeat (first | refine blk_drewN ?_ _ | refine blk_drew ?_ | refine blk_alloc ?_ _)); exact BK352.out) Tryz.underlying71 rfl (by kernel_rfl)) rfl ?_
 exact ⟨by first | rfl | (simp [*, errW_none, errW_some] <;> rfl), by repeat (first | (with_reducible first | exact HB.out | apply below_alloc | apply pw_below_drewN | apply below_drew1 | refine below_set ?_ GE351.out | refine below_set ?_ GE352.out) | exact HB.out)⟩
end Go.Proofs.YtidajgkepdkcbaaGreatDoor.PF
end
section
namespace Go.Proofs.YtidajgkepdkcbaaGreatDoor.PF
open Go.RowKit Go.Proofs.YtidajgkepdkcbaaGreatDoorW.PrintWords Go.Proofs.YtidajgkepdkcbaaGreatDoorW.PrintLast Go.Proofs.YtidajgkepdkcbaaGreatDoorW.PrintMore
attribute [local go_sem] max2_int min2_int max_two min_two max_three min_three max_four min_four
def fraction_Div.T3 : Bool × List (List Nat × List Nat) := (true, [([], []), ([0], [0]), ([], []), ([2], [2]), ([1, 3], [1, 3]), ([], []), ([5], [5]), ([], []), ([7], [7]), ([6, 8, 4], [6, 8]), ([4, 9, 9], [4, 9]), ([10, 10, 0, 1, 2, 3, 4, 5, 6, 7, 8, 9, 10], [10]), ([11, 0, 1, 2, 3, 4, 5, 6, 7, 8, 9, 10, 11], [])])
def fraction_Div.B3 : List Nat := [0, 1, 0, 4, 15, 0, 32, 0, 128, 511, 1023, 2047, 4095]
theorem fraction_Div.tab3 : rtab .any (opsOf Tryz.f109 3) = fraction_Div.T3 := by kernel_rfl
theorem fraction_Div.bits3 : waitsOk fraction_Div.T3.2 fraction_Div.B3 = true := by kernel_rfl
end Go.Proofs.YtidajgkepdkcbaaGreatDoor.PF
end
section
namespace Go.Proofs.YtidajgkepdkcbaaGreatDoor.PF
open Go.RowKit Go.Proofs.YtidajgkepdkcbaaGreatDoorW.PrintWords Go.Proofs.YtidajgkepdkcbaaGreatDoorW.PrintLast Go.Proofs.YtidajgkepdkcbaaGreatDoorW.PrintMore
attribute [local go_sem] max2_int min2_int max_two min_two max_three min_three max_four min_four
def convergent_simplest.T8 : Bool × List (List Nat × List Nat) := (true, [([], []), ([], []), ([], []), ([1, 2, 0], [1, 2]), ([0, 3, 3], [0, 3]), ([4], [4]), ([5], [5]), ([5], [5]), ([], []), ([8, 6, 4, 0, 1, 2, 3, 4, 5, 6, 8], [6, 8]), ([7, 9, 0, 1, 2, 3, 4, 5, 6, 7, 8, 9], [7])])
def convergent_simplest.B8 : List Nat := [0, 0, 0, 7, 15, 31, 63, 63, 0, 383, 1023]
theorem convergent_simplest.tab8 : rtab .any (opsOf Tryz.f74 8) = convergent_simplest.T8 := by kernel_rfl
theorem convergent_simplest.bits8 : waitsOk convergent_simplest.T8.2 convergent_simplest.B8 = true := by kernel_rfl
def convergent_simplest.T9 : Bool × List (List Nat × List Nat) := (true, [([], []), ([], []), ([], []), ([1, 2, 0], [1, 2]), ([0, 3, 3], [0, 3]), ([4], [4]), ([5], [5]), ([5], [5]), ([], []), ([8, 6, 4, 0, 1, 2, 3, 4, 5, 6, 8], [6, 8]), ([7, 9, 0, 1, 2, 3, 4, 5, 6, 7, 8, 9], [7])])
def convergent_simplest.B9 : List Nat := [0, 0, 0, 7, 15, 31, 63, 63, 0, 383, 1023]
theorem convergent_simplest.tab9 : rtab .any (opsOf Tryz.f74 9) = convergent_simplest.T9 := by kernel_rfl
theorem convergent_simplest.bits9 : waitsOk convergent_simplest.T9.2 convergent_simplest.B9 = true := by kernel_rfl
end Go.Proofs.YtidajgkepdkcbaaGreatDoor.PF
end
section
namespace Go.Proofs.YtidajgkepdkcbaaGreatDoor.PF
open Go.RowKit Go.Proofs.YtidajgkepdkcbaaGreatDoorW.PrintWords Go.Proofs.YtidajgkepdkcbaaGreatDoorW.PrintLast Go.Proofs.YtidajgkepdkcbaaGreatDoorW.PrintMore
attribute [local go_sem] max2_int min2_int max_two min_two max_three min_three max_four min_four
def convergent_Simplest.T8 : Bool × List (List Nat × List Nat) := (true, [([], []), ([0], [0]), ([], []), ([2, 1], [2]), ([1, 3, 3], [1, 3]), ([4, 4], [4]), ([5, 5, 0, 1, 2, 3, 4, 5], [5]), ([6, 0, 1, 2, 3, 4, 5, 6], [])])
def convergent_Simplest.B8 : List Nat := [0, 1, 0, 7, 15, 31, 63, 127]
theorem convergent_Simplest.tab8 : rtab .any (opsOf Tryz.f38 8) = convergent_Simplest.T8 := by kernel_rfl
theorem convergent_Simplest.bits8 : waitsOk convergent_Simplest.T8.2 convergent_Simplest.B8 = true := by kernel_rfl
end Go.Proofs.YtidajgkepdkcbaaGreatDoor.PF
end
section
namespace Go.Proofs.YtidajgkepdkcbaaGreatDoor.PF
open Go.RowKit Go.Proofs.YtidajgkepdkcbaaGreatDoorW.PrintWords Go.Proofs.YtidajgkepdkcbaaGreatDoorW.PrintLast Go.Proofs.YtidajgkepdkcbaaGreatDoorW.PrintMore
attribute [local go_sem] max2_int min2_int max_two min_two max_three min_three max_four min_four
def convergent_pair_most.f (k : Nat) (a0_0 : ByteArray) (a0_1 : ByteArray) (a0_2 : ByteArray) (a0_3 : ByteArray) (a1 : ByteArray) (a2 : Int) : Option (ByteArray) := if a0_1.toList = ([48] : List UInt8) then (some a1) else ((whole_Of.f a2).bind fun t594 => ((whole_Sub.f k t594 a0_3).bind fun t595 => ((whole_DivMod.f k t595 a0_1).bind fun bt596 => ((whole_Compare.f bt596.1 a1).bind fun t599 => (if t599 < 0 then (some bt596.1) else (some a1))))))
def convergent_pair_most.T3 : Bool × List (List Nat × List Nat) := (true, [([], []), ([0], [0]), ([], []), ([2], [2]), ([1, 3, 1], [1, 3]), ([], []), ([5], [5]), ([4, 6, 4], [4, 6]), ([7], [7]), ([8], [8]), ([8], [8]), ([8], [8]), ([9, 7, 0, 1, 2, 3, 4, 5, 6, 7, 8, 9], [9]), ([10, 12, 0, 1, 2, 3, 4, 5, 6, 7, 8, 9, 10, 12], [10]), ([11, 13, 0, 1, 2, 3, 4, 5, 6, 7, 8, 9, 10, 11, 12, 13], [11])])
def convergent_pair_most.B3 : List Nat := [0, 1, 0, 4, 15, 0, 32, 127, 255, 511, 511, 511, 1023, 6143, 16383]
theorem convergent_pair_most.tab3 : rtab .any (opsOf Tryz.f85 3) = convergent_pair_most.T3 := by kernel_rfl
theorem convergent_pair_most.bits3 : waitsOk convergent_pair_most.T3.2 convergent_pair_most.B3 = true := by kernel_rfl
set_option maxHeartbeats 8000000 in
set_option maxRecDepth 100000 in
theorem convergent_pair_most.calls (k : Nat) (a0_0 : ByteArray) (a0_1 : ByteArray) (a0_2 : ByteArray) (a0_3 : ByteArray) (a1 : ByteArray) (a2 : Int) (r : ByteArray) (w : World) (hG_ : GWorld w) (h : convergent_pair_most.f k a0_0 a0_1 a0_2 a0_3 a1 a2 = some r) :
  Calls Tryz.prog 85 #[.agg #[.string a0_0, .string a0_1, .string a0_2, .string a0_3], .string a1, .int .i64 a2] w fun e w' => e = .returned (.string r) ∧ Below w.heap.size w w' := by
 have hu71 := Tryz.underlying71
 have HB := Aside0.mk (Below.refl w.heap.size w)
 have HG := Aside0.mk hG_
 clear hG_
 have H : (if a0_1.toList = ([48] : List UInt8) then (some a1) else ((whole_Of.f a2).bind fun t594 => ((whole_Sub.f k t594 a0_3).bind fun t595 => ((whole_DivMod.f k t595 a0_1).bind fun bt596 => ((whole_Compare.f bt596.1 a1).bind fun t599 => (if t599 < 0 then (some bt596.1) else (some a1))))))) = some r := h
 clear h
 by_cases c4 : a0_1.toList = ([48] : List UInt8)
 ·rw [if_pos c4] at H
  have c4b0 : (a0_1.toList == ([48] : List UInt8)) = true := beq_iff_eq.mpr c4
  have c4b1 : (a0_1.toList != ([48] : List UInt8)) = false := bne_eq_false_iff_eq.mpr c4
  clear c4
  obtain rfl := Option.some.inj H
  go_enter Tryz.func85, Tryz.ntmps85
  go_wp2_with (first | ((with_reducible refine gate_dst (N := 3) rfl ?_); refine box_event ?hg (N := 3) ?hd (cs := #[.string a0_0, .string a0_1, .string a0_2, .string a0_3]) (t := 71) ?hr ?_; (case hd => rfl); (case hg => rfl); (case hr => first | (go_simp; done) | (go_simp; rfl)); intro gb593 hg w5 hbox hb; have n0_ := Aside0.mk (below_step (by repeat (first | (with_reducible first | exact HB.out | apply below_alloc | apply pw_below_drewN | apply below_drew1) | exact HB.out)) hb); have n1_ := Aside0.mk (hbox); have n2_ := Aside0.mk ((by rw [hg]; exact (below_size (by repeat (first | (with_reducible first | exact HB.out | apply below_alloc | apply pw_below_drewN | apply below_drew1) | exact HB.out))) : w.heap.size ≤ gb593)); have n3_ := Aside0.mk ((by rw [hg]; exact (below_size (by repeat (first | (with_reducible first | exact HB.out | apply below_alloc | apply pw_below_drewN | apply below_drew1) | exact HB.out))) : w.heap.size ≤ gb593)); clear HB; have HB := n0_; have BK593 := n1_; have GW593 := n2_; have GE593 := n3_; clear n0_ n1_ n2_ n3_; clear hb hbox hg; have hcz6_0 : w5.cell? ⟨gb593, 0, none⟩ = some (.string a0_0) := (blk_cell BK593.out 0).trans rfl; have hcz6_1 : w5.cell? ⟨gb593, 1, none⟩ = some (.string a0_1) := (blk_cell BK593.out 1).trans rfl; have hcz6_2 : w5.cell? ⟨gb593, 2, none⟩ = some (.string a0_2) := (blk_cell BK593.out 2).trans rfl; have hcz6_3 : w5.cell? ⟨gb593, 3, none⟩ = some (.string a0_3) := (blk_cell BK593.out 3).trans rfl; have hfz6_0 := blk_frozen BK593.out 0; have hfz6_1 := blk_frozen BK593.out 1; have hfz6_2 := blk_frozen BK593.out 2; have hfz6_3 := blk_frozen BK593.out 3))
  go_ret
  exact ⟨by first | rfl | (simp [*, errW_none, errW_some] <;> rfl), by repeat (first | (with_reducible first | exact HB.out | apply below_alloc | apply pw_below_drewN | apply below_drew1 | refine below_set ?_ GE593.out) | exact HB.out)⟩
 ·rw [if_neg c4] at H
  have c4b0 : (a0_1.toList == ([48] : List UInt8)) = false := beq_eq_false_iff_ne.mpr c4
  have c4b1 : (a0_1.toList != ([48] : List UInt8)) = true := bne_iff_ne.mpr c4
  replace H := Option.bind_eq_some_iff.mp H
  obtain ⟨t594, A70, H⟩ := H
  replace H : ((whole_Sub.f k t594 a0_3).bind fun t595 => ((whole_DivMod.f k t595 a0_1).bind fun bt596 => ((whole_Compare.f bt596.1 a1).bind fun t599 => (if t599 < 0 then (some bt596.1) else (some a1))))) = some r := H
  have A7 := Aside0.mk A70
  clear A70
  replace H := Option.bind_eq_some_iff.mp H
  obtain ⟨t595, A80, H⟩ := H
  replace H : ((whole_DivMod.f k t595 a0_1).bind fun bt596 => ((whole_Compare.f bt596.1 a1).bind fun t599 => (if t599 < 0 then (some bt596.1) else (some a1)))) = some r := H
  have A8 := Aside0.mk A80
  clear A80
  replace H := Option.bind_eq_some_iff.mp H
  obtain ⟨⟨t596, t597, t598⟩, A90, H⟩ := H
  replace H : ((whole_Compare.f t596 a1).bind fun t599 => (if t599 < 0 then (some t596) else (some a1))) = some r := H
  have A9 := Aside0.mk A90
  clear A90
  replace H := Option.bind_eq_some_iff.mp H
  obtain ⟨t599, A100, H⟩ := H
  replace H : (if t599 < 0 then (some t596) else (some a1)) = some r := H
  have A10 := Aside0.mk A100
  clear A100
  by_cases c11 : t599 < 0
  ·rw [if_pos c11] at H
   have c11b0 : decide (t599 < 0) = true := decide_eq_true c11
   clear c11
   obtain rfl := Option.some.inj H
   go_enter Tryz.func85, Tryz.ntmps85
   try go_wp2_with (first | ((with_reducible refine gate_dst (N := 3) rfl ?_); refine box_event ?hg (N := 3) ?hd (cs := #[.string a0_0, .string a0_1, .string a0_2, .string a0_3]) (t := 71) ?hr ?_; (case hd => rfl); (case hg => rfl); (case hr => first | (go_simp; done) | (go_simp; rfl)); intro gb593 hg w12 hbox hb; have n0_ := Aside0.mk (below_step (by repeat (first | (with_reducible first | exact HB.out | apply below_alloc | apply pw_below_drewN | apply below_drew1) | exact HB.out)) hb); have n1_ := Aside0.mk (hbox); have n2_ := Aside0.mk ((by rw [hg]; exact (below_size (by repeat (first | (with_reducible first | exact HB.out | apply below_alloc | apply pw_below_drewN | apply below_drew1) | exact HB.out))) : w.heap.size ≤ gb593)); have n3_ := Aside0.mk ((by rw [hg]; exact (below_size (by repeat (first | (with_reducible first | exact HB.out | apply below_alloc | apply pw_below_drewN | apply below_drew1) | exact HB.out))) : w.heap.size ≤ gb593)); clear HB; have HB := n0_; have BK593 := n1_; have GW593 := n2_; have GE593 := n3_; clear n0_ n1_ n2_ n3_; clear hb hbox hg; have hcz13_0 : w12.cell? ⟨gb593, 0, none⟩ = some (.string a0_0) := (blk_cell BK593.out 0).trans rfl; have hcz13_1 : w12.cell? ⟨gb593, 1, none⟩ = some (.string a0_1) := (blk_cell BK593.out 1).trans rfl; have hcz13_2 : w12.cell? ⟨gb593, 2, none⟩ = some (.string a0_2) := (blk_cell BK593.out 2).trans rfl; have hcz13_3 : w12.cell? ⟨gb593, 3, none⟩ = some (.string a0_3) := (blk_cell BK593.out 3).trans rfl; have hfz13_0 := blk_frozen BK593.out 0; have hfz13_1 := blk_frozen BK593.out 1; have hfz13_2 := blk_frozen BK593.out 2; have hfz13_3 := blk_frozen BK593.out 3))
   have n0_ := Aside0.mk (blk_drew BK593.out)
   have n1_ := Aside0.mk (below_drew1 HB.out)
   clear BK593
   clear HB
   have BK593 := n0_
   have HB := n1_
   clear n0_ n1_
   refine start_ (n := 15) (S := fun w' => w'.cell? ⟨gb593, 0, none⟩ = some (.string a0_0) ∧ w'.cell? ⟨gb593, 1, none⟩ = some (.string a0_1) ∧ w'.cell? ⟨gb593, 2, none⟩ = some (.string a0_2) ∧ w'.cell? ⟨gb593, 3, none⟩ = some (.string a0_3)) (ds := []) #[false, false, false, false, false, false, false, false, false, false, false, false, false, false, false] (by kernel_rfl) rfl rfl ⟨(blk_cell BK593.out 0).trans rfl, (blk_cell BK593.out 1).trans rfl, (blk_cell BK593.out 2).trans rfl, (blk_cell BK593.out 3).trans rfl⟩ (fun hHeld => ?_); refine with_tabW convergent_pair_most.tab3 convergent_pair_most.bits3 (fun HT_ HW_ => ?_)
   generalize w12.drew = w14 at BK593 HB hHeld ⊢
   refine pure_ (i := 0) (N := some 15) (v := ?_) (a' := ?_) #[true, false, false, false, false, false, false, false, false, false, false, false, false, false, false] rfl rfl (any_of HT_.out (by kernel_rfl)) (fun _ _ _ h => h) (Or.inl ⟨by rfl, ?_⟩) ?_ ?_
   rotate_left
   ·intro w'
    go_simp
    with_reducible rfl
   rotate_left
   ·simp only [Act.put, List.setIfInBounds_toArray, List.set_cons_zero, List.set_cons_succ, i64_w, i32_w]
    rfl
   refine pure_ (i := 2) (N := some 17) (v := ?_) (a' := ?_) #[true, false, true, false, false, false, false, false, false, false, false, false, false, false, false] rfl rfl (any_of HT_.out (by kernel_rfl)) (fun _ _ _ h => h) (Or.inl ⟨by rfl, ?_⟩) ?_ ?_
   rotate_left
   ·intro w'
    go_simp
    with_reducible rfl
   rotate_left
   ·simp only [Act.put, List.setIfInBounds_toArray, List.set_cons_zero, List.set_cons_succ, i64_w, i32_w]
    rfl
   refine pure_ (i := 5) (N := some 20) (v := ?_) (a' := ?_) #[true, false, true, false, false, true, false, false, false, false, false, false, false, false, false] rfl rfl (any_of HT_.out (by kernel_rfl)) (fun _ _ _ h => h) (Or.inl ⟨by rfl, ?_⟩) ?_ ?_
   rotate_left
   ·intro w'
    go_simp
    with_reducible rfl
   rotate_left
   ·simp only [Act.put, List.setIfInBounds_toArray, List.set_cons_zero, List.set_cons_succ, i64_w, i32_w]
    rfl
   refine take_ (i := 3) (N := some 18) (v := ?_) (a' := ?_) #[true, false, true, true, false, true, false, false, false, false, false, false, false, false, false] rfl rfl (take_ofW HT_.out HW_.out (by kernel_rfl)) (fun _ _ _ h => h) (Or.inl ⟨by rfl, ?_⟩) hHeld ?_ ?_
   rotate_left
   ·rintro w' ⟨s0, s1, s2, s3⟩
    go_simp
    with_reducible rfl
   rotate_left
   ·simp only [Act.put, List.setIfInBounds_toArray, List.set_cons_zero, List.set_cons_succ, i64_w, i32_w]
    rfl
   refine take_ (i := 6) (N := some 21) (v := ?_) (a' := ?_) #[true, false, true, true, false, true, true, false, false, false, false, false, false, false, false] rfl rfl (take_ofW HT_.out HW_.out (by kernel_rfl)) (fun _ _ _ h => h) (Or.inl ⟨by rfl, ?_⟩) hHeld ?_ ?_
   rotate_left
   ·rintro w' ⟨s0, s1, s2, s3⟩
    go_simp
    with_reducible rfl
   rotate_left
   ·simp only [Act.put, List.setIfInBounds_toArray, List.set_cons_zero, List.set_cons_succ, i64_w, i32_w]
    rfl
   refine one_ (i := 1) (N := some 16) #[true, true, true, true, false, true, true, false, false, false, false, false, false, false, false] rfl rfl (one_of HT_.out (by kernel_rfl)) (by decide) (fun K hK => ?_)
   refine goes_ Tryz.func59 (by kernel_rfl) rfl #[.int .i64 a2] (by rfl) rfl rfl (by (try simp only [List.map_toArray, List.map_cons, List.map_nil]); try rfl) ?_
   with_reducible refine (whole_Of.calls a2 t594 _ ?side1 A7.out).mono ?_
   (case side1 => exact GWorld.below HG.out (by repeat (first | (with_reducible first | exact HB.out | apply below_alloc | apply pw_below_drewN | apply below_drew1 | refine below_set ?_ GE593.out) | exact HB.out)))
   rintro e w15 ⟨rfl, hb⟩
   refine ⟨_, rfl, ?_⟩
   have n0_ := Aside0.mk (blk_below (g := gb593) (o := .cells #[.string a0_0, .string a0_1, .string a0_2, .string a0_3] 71 (0, 0)) (by (with_reducible repeat (first | refine blk_drewN ?_ _ | refine blk_drew ?_ | refine blk_alloc ?_ _)); exact BK593.out) hb)
   have n1_ := Aside0.mk (below_step (by repeat (first | (with_reducible first | exact HB.out | apply below_alloc | apply pw_below_drewN | apply below_drew1 | refine below_set ?_ GE593.out) | exact HB.out)) hb)
   clear BK593
   clear HB
   have BK593 := n0_
   have HB := n1_
   clear n0_ n1_
   (try clear hb); (try clear hb2); (try clear hk); (try clear hi)
   refine hK.out _ _ ⟨(blk_cell BK593.out 0).trans rfl, (blk_cell BK593.out 1).trans rfl, (blk_cell BK593.out 2).trans rfl, (blk_cell BK593.out 3).trans rfl⟩ (fun hHeld => ?_)
   clear hK K
   refine norm_ (a' := ?_) ?_ ?_
   rotate_left
   ·show Act.put _ (some 16) _ = _
    simp only [Act.put, List.setIfInBounds_toArray, List.set_cons_zero, List.set_cons_succ, i64_w, i32_w]
    rfl
   refine one_ (i := 4) (N := some 19) #[true, true, true, true, true, true, true, false, false, false, false, false, false, false, false] rfl rfl (one_of HT_.out (by kernel_rfl)) (by decide) (fun K hK => ?_)
   refine goes_ Tryz.func65 (by kernel_rfl) rfl #[.string t594, .string a0_3] (by rfl) rfl rfl (by (try simp only [List.map_toArray, List.map_cons, List.map_nil]); try rfl) ?_
   with_reducible refine (whole_Sub.calls k t594 a0_3 t595 _ ?side1 A8.out).mono ?_
   (case side1 => exact GWorld.below HG.out (by repeat (first | (with_reducible first | exact HB.out | apply below_alloc | apply pw_below_drewN | apply below_drew1 | refine below_set ?_ GE593.out) | exact HB.out)))
   rintro e w16 ⟨rfl, hb⟩
   refine ⟨_, rfl, ?_⟩
   have n0_ := Aside0.mk (blk_below (g := gb593) (o := .cells #[.string a0_0, .string a0_1, .string a0_2, .string a0_3] 71 (0, 0)) (by (with_reducible repeat (first | refine blk_drewN ?_ _ | refine blk_drew ?_ | refine blk_alloc ?_ _)); exact BK593.out) hb)
   have n1_ := Aside0.mk (below_step (by repeat (first | (with_reducible first | exact HB.out | apply below_alloc | apply pw_below_drewN | apply below_drew1 | refine below_set ?_ GE593.out) | exact HB.out)) hb)
   clear BK593
   clear HB
   have BK593 := n0_
   have HB := n1_
   clear n0_ n1_
   (try clear hb); (try clear hb2); (try clear hk); (try clear hi)
   refine hK.out _ _ ⟨(blk_cell BK593.out 0).trans rfl, (blk_cell BK593.out 1).trans rfl, (blk_cell BK593.out 2).trans rfl, (blk_cell BK593.out 3).trans rfl⟩ (fun hHeld => ?_)
   clear hK K
   refine norm_ (a' := ?_) ?_ ?_
   rotate_left
   ·show Act.put _ (some 19) _ = _
    simp only [Act.put, List.setIfInBounds_toArray, List.set_cons_zero, List.set_cons_succ, i64_w, i32_w]
    rfl
   refine one_ (i := 7) (N := some 22) #[true, true, true, true, true, true, true, true, false, false, false, false, false, false, false] rfl rfl (one_of HT_.out (by kernel_rfl)) (by decide) (fun K hK => ?_)
   refine goes_ Tryz.func55 (by kernel_rfl) rfl #[.string t595, .string a0_1] (by rfl) rfl rfl (by (try simp only [List.map_toArray, List.map_cons, List.map_nil]); try rfl) ?_
   with_reducible refine (whole_DivMod.calls k t595 a0_1 t596 t597 t598 _ ?side1 A9.out).mono ?_
   (case side1 => exact GWorld.below HG.out (by repeat (first | (with_reducible first | exact HB.out | apply below_alloc | apply pw_below_drewN | apply below_drew1 | refine below_set ?_ GE593.out) | exact HB.out)))
   rintro e w17 ⟨rfl, hb⟩
   refine ⟨_, rfl, ?_⟩
   have n0_ := Aside0.mk (blk_below (g := gb593) (o := .cells #[.string a0_0, .string a0_1, .string a0_2, .string a0_3] 71 (0, 0)) (by (with_reducible repeat (first | refine blk_drewN ?_ _ | refine blk_drew ?_ | refine blk_alloc ?_ _)); exact BK593.out) hb)
   have n1_ := Aside0.mk (below_step (by repeat (first | (with_reducible first | exact HB.out | apply below_alloc | apply pw_below_drewN | apply below_drew1 | refine below_set ?_ GE593.out) | exact HB.out)) hb)
   clear BK593
   clear HB
   have BK593 := n0_
   have HB := n1_
   clear n0_ n1_
   (try clear hb); (try clear hb2); (try clear hk); (try clear hi)
   refine hK.out _ _ ⟨(blk_cell BK593.out 0).trans rfl, (blk_cell BK593.out 1).trans rfl, (blk_cell BK593.out 2).trans rfl, (blk_cell BK593.out 3).trans rfl⟩ (fun hHeld => ?_)
   clear hK K
   refine norm_ (a' := ?_) ?_ ?_
   rotate_left
   ·show Act.put _ (some 22) _ = _
    simp only [Act.put, List.setIfInBounds_toArray, List.set_cons_zero, List.set_cons_succ, i64_w, i32_w]
    rfl
   refine pure_ (i := 8) (N := some 14) (v := ?_) (a' := ?_) #[true, true, true, true, true, true, true, true, true, false, false, false, false, false, false] rfl rfl (any_of HT_.out (by kernel_rfl)) (fun _ _ _ h => h) (Or.inl ⟨by rfl, ?_⟩) ?_ ?_
   rotate_left
   ·intro w'
    go_simp
    with_reducible rfl
   rotate_left
   ·simp only [Act.put, List.setIfInBounds_toArray, List.set_cons_zero, List.set_cons_succ, i64_w, i32_w]
    rfl
   refine pure_ (i := 9) (N := some 23) (v := ?_) (a' := ?_) #[true, true, true, true, true, true, true, true, true, true, false, false, false, false, false] rfl rfl (any_of HT_.out (by kernel_rfl)) (fun _ _ _ h => h) (Or.inl ⟨by rfl, ?_⟩) ?_ ?_
   rotate_left
   ·intro w'
    go_simp
    with_reducible rfl
   rotate_left
   ·simp only [Act.put, List.setIfInBounds_toArray, List.set_cons_zero, List.set_cons_succ, i64_w, i32_w]
    rfl
   refine pure_ (i := 10) (N := some 24) (v := ?_) (a' := ?_) #[true, true, true, true, true, true, true, true, true, true, true, false, false, false, false] rfl rfl (any_of HT_.out (by kernel_rfl)) (fun _ _ _ h => h) (Or.inl ⟨by rfl, ?_⟩) ?_ ?_
   rotate_left
   ·intro w'
    go_simp
    with_reducible rfl
   rotate_left
   ·simp only [Act.put, List.setIfInBounds_toArray, List.set_cons_zero, List.set_cons_succ, i64_w, i32_w]
    rfl
   refine pure_ (i := 11) (N := some 25) (v := ?_) (a' := ?_) #[true, true, true, true, true, true, true, true, true, true, true, true, false, false, false] rfl rfl (any_of HT_.out (by kernel_rfl)) (fun _ _ _ h => h) (Or.inl ⟨by rfl, ?_⟩) ?_ ?_
   rotate_left
   ·intro w'
    go_simp
    with_reducible rfl
   rotate_left
   ·simp only [Act.put, List.setIfInBounds_toArray, List.set_cons_zero, List.set_cons_succ, i64_w, i32_w]
    rfl
   refine pure_ (i := 12) (N := some 7) (v := ?_) (a' := ?_) #[true, true, true, true, true, true, true, true, true, true, true, true, true, false, false] rfl rfl (any_of HT_.out (by kernel_rfl)) (fun _ _ _ h => h) (Or.inl ⟨by rfl, ?_⟩) ?_ ?_
   rotate_left
   ·intro w'
    go_simp
    with_reducible rfl
   rotate_left
   ·simp only [Act.put, List.setIfInBounds_toArray, List.set_cons_zero, List.set_cons_succ, i64_w, i32_w]
    rfl
   refine pure_ (i := 13) (N := some 8) (v := ?_) (a' := ?_) #[true, true, true, true, true, true, true, true, true, true, true, true, true, true, false] rfl rfl (any_of HT_.out (by kernel_rfl)) (fun _ _ _ h => h) (Or.inl ⟨by rfl, ?_⟩) ?_ ?_
   rotate_left
   ·intro w'
    go_simp
    with_reducible rfl
   rotate_left
   ·simp only [Act.put, List.setIfInBounds_toArray, List.set_cons_zero, List.set_cons_succ, i64_w, i32_w]
    rfl
   refine pure_ (i := 14) (N := some 9) (v := ?_) (a' := ?_) #[true, true, true, true, true, true, true, true, true, true, true, true, true, true, true] rfl rfl (any_of HT_.out (by kernel_rfl)) (fun _ _ _ h => h) (Or.inl ⟨by rfl, ?_⟩) ?_ ?_
   rotate_left
   ·intro w'
    go_simp
    with_reducible rfl
   rotate_left
   ·simp only [Act.put, List.setIfInBounds_toArray, List.set_cons_zero, List.set_cons_succ, i64_w, i32_w]
    rfl
   refine done_ (done_of HT_.out (by kernel_rfl)) ?_
   try go_wp2_with (first | ((with_reducible refine gate_callee (f := 58) rfl ?_); refine goesL_ (some 28) rfl rfl Tryz.func58 (by kernel_rfl) rfl #[.string t596, .string a1] rfl (by (try simp only [List.map_toArray, List.map_cons, List.map_nil]); try rfl) ?_; (with_reducible refine (whole_Compare.calls t596 a1 t599 _ A10.out).mono ?_); rintro e w18 ⟨rfl, hb⟩; refine ⟨_, rfl, ?_⟩; have n0_ := Aside0.mk (blk_below (g := gb593) (o := .cells #[.string a0_0, .string a0_1, .string a0_2, .string a0_3] 71 (0, 0)) (by (with_reducible repeat (first | refine blk_drewN ?_ _ | refine blk_drew ?_ | refine blk_alloc ?_ _)); exact BK593.out) hb); have n1_ := Aside0.mk (below_step (by repeat (first | (with_reducible first | exact HB.out | apply below_alloc | apply pw_below_drewN | apply below_drew1 | refine below_set ?_ GE593.out) | exact HB.out)) hb); clear BK593; clear HB; have BK593 := n0_; have HB := n1_; clear n0_ n1_; (try clear hb); (try clear hb2); (try clear hk); (try clear hi)))
   go_ret
   exact ⟨by first | rfl | (simp [*, errW_none, errW_some] <;> rfl), by repeat (first | (with_reducible first | exact HB.out | apply below_alloc | apply pw_below_drewN | apply below_drew1 | refine below_set ?_ GE593.out) | exact HB.out)⟩
  ·rw [if_neg c11] at H
   have c11b0 : decide (t599 < 0) = false := decide_eq_false c11
   clear c11
   obtain rfl := Option.some.inj H
   go_enter Tryz.func85, Tryz.ntmps85
   try go_wp2_with (first | ((with_reducible refine gate_dst (N := 3) rfl ?_); refine box_event ?hg (N := 3) ?hd (cs := #[.string a0_0, .string a0_1, .string a0_2, .string a0_3]) (t := 71) ?hr ?_; (case hd => rfl); (case hg => rfl); (case hr => first | (go_simp; done) | (go_simp; rfl)); intro gb593 hg w19 hbox hb; have n0_ := Aside0.mk (below_step (by repeat (first | (with_reducible first | exact HB.out | apply below_alloc | apply pw_below_drewN | apply below_drew1) | exact HB.out)) hb); have n1_ := Aside0.mk (hbox); have n2_ := Aside0.mk ((by rw [hg]; exact (below_size (by repeat (first | (with_reducible first | exact HB.out | apply below_alloc | apply pw_below_drewN | apply below_drew1) | exact HB.out))) : w.heap.size ≤ gb593)); have n3_ := Aside0.mk ((by rw [hg]; exact (below_size (by repeat (first | (with_reducible first | exact HB.out | apply below_alloc | apply pw_below_drewN | apply below_drew1) | exact HB.out))) : w.heap.size ≤ gb593)); clear HB; have HB := n0_; have BK593 := n1_; have GW593 := n2_; have GE593 := n3_; clear n0_ n1_ n2_ n3_; clear hb hbox hg; have hcz20_0 : w19.cell? ⟨gb593, 0, none⟩ = some (.string a0_0) := (blk_cell BK593.out 0).trans rfl; have hcz20_1 : w19.cell? ⟨gb593, 1, none⟩ = some (.string a0_1) := (blk_cell BK593.out 1).trans rfl; have hcz20_2 : w19.cell? ⟨gb593, 2, none⟩ = some (.string a0_2) := (blk_cell BK593.out 2).trans rfl; have hcz20_3 : w19.cell? ⟨gb593, 3, none⟩ = some (.string a0_3) := (blk_cell BK593.out 3).trans rfl; have hfz20_0 := blk_frozen BK593.out 0; have hfz20_1 := blk_frozen BK593.out 1; have hfz20_2 := blk_frozen BK593.out 2; have hfz20_3 := blk_frozen BK593.out 3))
   have n0_ := Aside0.mk (blk_drew BK593.out)
   have n1_ := Aside0.mk (below_drew1 HB.out)
   clear BK593
   clear HB
   have BK593 := n0_
   have HB := n1_
   clear n0_ n1_
   refine start_ (n := 15) (S := fun w' => w'.cell? ⟨gb593, 0, none⟩ = some (.string a0_0) ∧ w'.cell? ⟨gb593, 1, none⟩ = some (.string a0_1) ∧ w'.cell? ⟨gb593, 2, none⟩ = some (.string a0_2) ∧ w'.cell? ⟨gb593, 3, none⟩ = some (.string a0_3)) (ds := []) #[false, false, false, false, false, false, false, false, false, false, false, false, false, false, false] (by kernel_rfl) rfl rfl ⟨(blk_cell BK593.out 0).trans rfl, (blk_cell BK593.out 1).trans rfl, (blk_cell BK593.out 2).trans rfl, (blk_cell BK593.out 3).trans rfl⟩ (fun hHeld => ?_); refine with_tabW convergent_pair_most.tab3 convergent_pair_most.bits3 (fun HT_ HW_ => ?_)
   generalize w19.drew = w21 at BK593 HB hHeld ⊢
   refine pure_ (i := 0) (N := some 15) (v := ?_) (a' := ?_) #[true, false, false, false, false, false, false, false, false, false, false, false, false, false, false] rfl rfl (any_of HT_.out (by kernel_rfl)) (fun _ _ _ h => h) (Or.inl ⟨by rfl, ?_⟩) ?_ ?_
   rotate_left
   ·intro w'
    go_simp
    with_reducible rfl
   rotate_left
   ·simp only [Act.put, List.setIfInBounds_toArray, List.set_cons_zero, List.set_cons_succ, i64_w, i32_w]
    rfl
   refine pure_ (i := 2) (N := some 17) (v := ?_) (a' := ?_) #[true, false, true, false, false, false, false, false, false, false, false, false, false, false, false] rfl rfl (any_of HT_.out (by kernel_rfl)) (fun _ _ _ h => h) (Or.inl ⟨by rfl, ?_⟩) ?_ ?_
   rotate_left
   ·intro w'
    go_simp
    with_reducible rfl
   rotate_left
   ·simp only [Act.put, List.setIfInBounds_toArray, List.set_cons_zero, List.set_cons_succ, i64_w, i32_w]
    rfl
   refine pure_ (i := 5) (N := some 20) (v := ?_) (a' := ?_) #[true, false, true, false, false, true, false, false, false, false, false, false, false, false, false] rfl rfl (any_of HT_.out (by kernel_rfl)) (fun _ _ _ h => h) (Or.inl ⟨by rfl, ?_⟩) ?_ ?_
   rotate_left
   ·intro w'
    go_simp
    with_reducible rfl
   rotate_left
   ·simp only [Act.put, List.setIfInBounds_toArray, List.set_cons_zero, List.set_cons_succ, i64_w, i32_w]
    rfl
   refine take_ (i := 3) (N := some 18) (v := ?_) (a' := ?_) #[true, false, true, true, false, true, false, false, false, false, false, false, false, false, false] rfl rfl (take_ofW HT_.out HW_.out (by kernel_rfl)) (fun _ _ _ h => h) (Or.inl ⟨by rfl, ?_⟩) hHeld ?_ ?_
   rotate_left
   ·rintro w' ⟨s0, s1, s2, s3⟩
    go_simp
    with_reducible rfl
   rotate_left
   ·simp only [Act.put, List.setIfInBounds_toArray, List.set_cons_zero, List.set_cons_succ, i64_w, i32_w]
    rfl
   refine take_ (i := 6) (N := some 21) (v := ?_) (a' := ?_) #[true, false, true, true, false, true, true, false, false, false, false, false, false, false, false] rfl rfl (take_ofW HT_.out HW_.out (by kernel_rfl)) (fun _ _ _ h => h) (Or.inl ⟨by rfl, ?_⟩) hHeld ?_ ?_
   rotate_left
   ·rintro w' ⟨s0, s1, s2, s3⟩
    go_simp
    with_reducible rfl
   rotate_left
   ·simp only [Act.put, List.setIfInBounds_toArray, List.set_cons_zero, List.set_cons_succ, i64_w, i32_w]
    rfl
   refine one_ (i := 1) (N := some 16) #[true, true, true, true, false, true, true, false, false, false, false, false, false, false, false] rfl rfl (one_of HT_.out (by kernel_rfl)) (by decide) (fun K hK => ?_)
   refine goes_ Tryz.func59 (by kernel_rfl) rfl #[.int .i64 a2] (by rfl) rfl rfl (by (try simp only [List.map_toArray, List.map_cons, List.map_nil]); try rfl) ?_
   with_reducible refine (whole_Of.calls a2 t594 _ ?side1 A7.out).mono ?_
   (case side1 => exact GWorld.below HG.out (by repeat (first | (with_reducible first | exact HB.out | apply below_alloc | apply pw_below_drewN | apply below_drew1 | refine below_set ?_ GE593.out) | exact HB.out)))
   rintro e w22 ⟨rfl, hb⟩
   refine ⟨_, rfl, ?_⟩
   have n0_ := Aside0.mk (blk_below (g := gb593) (o := .cells #[.string a0_0, .string a0_1, .string a0_2, .string a0_3] 71 (0, 0)) (by (with_reducible repeat (first | refine blk_drewN ?_ _ | refine blk_drew ?_ | refine blk_alloc ?_ _)); exact BK593.out) hb)
   have n1_ := Aside0.mk (below_step (by repeat (first | (with_reducible first | exact HB.out | apply below_alloc | apply pw_below_drewN | apply below_drew1 | refine below_set ?_ GE593.out) | exact HB.out)) hb)
   clear BK593
   clear HB
   have BK593 := n0_
   have HB := n1_
   clear n0_ n1_
   (try clear hb); (try clear hb2); (try clear hk); (try clear hi)
   refine hK.out _ _ ⟨(blk_cell BK593.out 0).trans rfl, (blk_cell BK593.out 1).trans rfl, (blk_cell BK593.out 2).trans rfl, (blk_cell BK593.out 3).trans rfl⟩ (fun hHeld => ?_)
   clear hK K
   refine norm_ (a' := ?_) ?_ ?_
   rotate_left
   ·show Act.put _ (some 16) _ = _
    simp only [Act.put, List.setIfInBounds_toArray, List.set_cons_zero, List.set_cons_succ, i64_w, i32_w]
    rfl
   refine one_ (i := 4) (N := some 19) #[true, true, true, true, true, true, true, false, false, false, false, false, false, false, false] rfl rfl (one_of HT_.out (by kernel_rfl)) (by decide) (fun K hK => ?_)
   refine goes_ Tryz.func65 (by kernel_rfl) rfl #[.string t594, .string a0_3] (by rfl) rfl rfl (by (try simp only [List.map_toArray, List.map_cons, List.map_nil]); try rfl) ?_
   with_reducible refine (whole_Sub.calls k t594 a0_3 t595 _ ?side1 A8.out).mono ?_
   (case side1 => exact GWorld.below HG.out (by repeat (first | (with_reducible first | exact HB.out | apply below_alloc | apply pw_below_drewN | apply below_drew1 | refine below_set ?_ GE593.out) | exact HB.out)))
   rintro e w23 ⟨rfl, hb⟩
   refine ⟨_, rfl, ?_⟩
   have n0_ := Aside0.mk (blk_below (g := gb593) (o := .cells #[.string a0_0, .string a0_1, .string a0_2, .string a0_3] 71 (0, 0)) (by (with_reducible repeat (first | refine blk_drewN ?_ _ | refine blk_drew ?_ | refine blk_alloc ?_ _)); exact BK593.out) hb)
   have n1_ := Aside0.mk (below_step (by repeat (first | (with_reducible first | exact HB.out | apply below_alloc | apply pw_below_drewN | apply below_drew1 | refine below_set ?_ GE593.out) | exact HB.out)) hb)
   clear BK593
   clear HB
   have BK593 := n0_
   have HB := n1_
   clear n0_ n1_
   (try clear hb); (try clear hb2); (try clear hk); (try clear hi)
   refine hK.out _ _ ⟨(blk_cell BK593.out 0).trans rfl, (blk_cell BK593.out 1).trans rfl, (blk_cell BK593.out 2).trans rfl, (blk_cell BK593.out 3).trans rfl⟩ (fun hHeld => ?_)
   clear hK K
   refine norm_ (a' := ?_) ?_ ?_
   rotate_left
   ·show Act.put _ (some 19) _ = _
    simp only [Act.put, List.setIfInBounds_toArray, List.set_cons_zero, List.set_cons_succ, i64_w, i32_w]
    rfl
   refine one_ (i := 7) (N := some 22) #[true, true, true, true, true, true, true, true, false, false, false, false, false, false, false] rfl rfl (one_of HT_.out (by kernel_rfl)) (by decide) (fun K hK => ?_)
   refine goes_ Tryz.func55 (by kernel_rfl) rfl #[.string t595, .string a0_1] (by rfl) rfl rfl (by (try simp only [List.map_toArray, List.map_cons, List.map_nil]); try rfl) ?_
   with_reducible refine (whole_DivMod.calls k t595 a0_1 t596 t597 t598 _ ?side1 A9.out).mono ?_
   (case side1 => exact GWorld.below HG.out (by repeat (first | (with_reducible first | exact HB.out | apply below_alloc | apply pw_below_drewN | apply below_drew1 | refine below_set ?_ GE593.out) | exact HB.out)))
   rintro e w24 ⟨rfl, hb⟩
   refine ⟨_, rfl, ?_⟩
   have n0_ := Aside0.mk (blk_below (g := gb593) (o := .cells #[.string a0_0, .string a0_1, .string a0_2, .string a0_3] 71 (0, 0)) (by (with_reducible repeat (first | refine blk_drewN ?_ _ | refine blk_drew ?_ | refine blk_alloc ?_ _)); exact BK593.out) hb)
   have n1_ := Aside0.mk (below_step (by repeat (first | (with_reducible first | exact HB.out | apply below_alloc | apply pw_below_drewN | apply below_drew1 | refine below_set ?_ GE593.out) | exact HB.out)) hb)
   clear BK593
   clear HB
   have BK593 := n0_
   have HB := n1_
   clear n0_ n1_
   (try clear hb); (try clear hb2); (try clear hk); (try clear hi)
   refine hK.out _ _ ⟨(blk_cell BK593.out 0).trans rfl, (blk_cell BK593.out 1).trans rfl, (blk_cell BK593.out 2).trans rfl, (blk_cell BK593.out 3).trans rfl⟩ (fun hHeld => ?_)
   clear hK K
   refine norm_ (a' := ?_) ?_ ?_
   rotate_left
   ·show Act.put _ (some 22) _ = _
    simp only [Act.put, List.setIfInBounds_toArray, List.set_cons_zero, List.set_cons_succ, i64_w, i32_w]
    rfl
   refine pure_ (i := 8) (N := some 14) (v := ?_) (a' := ?_) #[true, true, true, true, true, true, true, true, true, false, false, false, false, false, false] rfl rfl (any_of HT_.out (by kernel_rfl)) (fun _ _ _ h => h) (Or.inl ⟨by rfl, ?_⟩) ?_ ?_
   rotate_left
   ·intro w'
    go_simp
    with_reducible rfl
   rotate_left
   ·simp only [Act.put, List.setIfInBounds_toArray, List.set_cons_zero, List.set_cons_succ, i64_w, i32_w]
    rfl
   refine pure_ (i := 9) (N := some 23) (v := ?_) (a' := ?_) #[true, true, true, true, true, true, true, true, true, true, false, false, false, false, false] rfl rfl (any_of HT_.out (by kernel_rfl)) (fun _ _ _ h => h) (Or.inl ⟨by rfl, ?_⟩) ?_ ?_
   rotate_left
   ·intro w'
    go_simp
    with_reducible rfl
   rotate_left
   ·simp only [Act.put, List.setIfInBounds_toArray, List.set_cons_zero, List.set_cons_succ, i64_w, i32_w]
    rfl
   refine pure_ (i := 10) (N := some 24) (v := ?_) (a' := ?_) #[true, true, true, true, true, true, true, true, true, true, true, false, false, false, false] rfl rfl (any_of HT_.out (by kernel_rfl)) (fun _ _ _ h => h) (Or.inl ⟨by rfl, ?_⟩) ?_ ?_
   rotate_left
   ·intro w'
    go_simp
    with_reducible rfl
   rotate_left
   ·simp only [Act.put, List.setIfInBounds_toArray, List.set_cons_zero, List.set_cons_succ, i64_w, i32_w]
    rfl
   refine pure_ (i := 11) (N := some 25) (v := ?_) (a' := ?_) #[true, true, true, true, true, true, true, true, true, true, true, true, false, false, false] rfl rfl (any_of HT_.out (by kernel_rfl)) (fun _ _ _ h => h) (Or.inl ⟨by rfl, ?_⟩) ?_ ?_
   rotate_left
   ·intro w'
    go_simp
    with_reducible rfl
   rotate_left
   ·simp only [Act.put, List.setIfInBounds_toArray, List.set_cons_zero, List.set_cons_succ, i64_w, i32_w]
    rfl
   refine pure_ (i := 12) (N := some 7) (v := ?_) (a' := ?_) #[true, true, true, true, true, true, true, true, true, true, true, true, true, false, false] rfl rfl (any_of HT_.out (by kernel_rfl)) (fun _ _ _ h => h) (Or.inl ⟨by rfl, ?_⟩) ?_ ?_
   rotate_left
   ·intro w'
    go_simp
    with_reducible rfl
   rotate_left
   ·simp only [Act.put, List.setIfInBounds_toArray, List.set_cons_zero, List.set_cons_succ, i64_w, i32_w]
    rfl
   refine pure_ (i := 13) (N := some 8) (v := ?_) (a' := ?_) #[true, true, true, true, true, true, true, true, true, true, true, true, true, true, false] rfl rfl (any_of HT_.out (by kernel_rfl)) (fun _ _ _ h => h) (Or.inl ⟨by rfl, ?_⟩) ?_ ?_
   rotate_left
   ·intro w'
    go_simp
    with_reducible rfl
   rotate_left
   ·simp only [Act.put, List.setIfInBounds_toArray, List.set_cons_zero, List.set_cons_succ, i64_w, i32_w]
    rfl
   refine pure_ (i := 14) (N := some 9) (v := ?_) (a' := ?_) #[true, true, true, true, true, true, true, true, true, true, true, true, true, true, true] rfl rfl (any_of HT_.out (by kernel_rfl)) (fun _ _ _ h => h) (Or.inl ⟨by rfl, ?_⟩) ?_ ?_
   rotate_left
   ·intro w'
    go_simp
    with_reducible rfl
   rotate_left
   ·simp only [Act.put, List.setIfInBounds_toArray, List.set_cons_zero, List.set_cons_succ, i64_w, i32_w]
    rfl
   refine done_ (done_of HT_.out (by kernel_rfl)) ?_
   try go_wp2_with (first | ((with_reducible refine gate_callee (f := 58) rfl ?_); refine goesL_ (some 28) rfl rfl Tryz.func58 (by kernel_rfl) rfl #[.string t596, .string a1] rfl (by (try simp only [List.map_toArray, List.map_cons, List.map_nil]); try rfl) ?_; (with_reducible refine (whole_Compare.calls t596 a1 t599 _ A10.out).mono ?_); rintro e w25 ⟨rfl, hb⟩; refine ⟨_, rfl, ?_⟩; have n0_ := Aside0.mk (blk_below (g := gb593) (o := .cells #[.string a0_0, .string a0_1, .string a0_2, .string a0_3] 71 (0, 0)) (by (with_reducible repeat (first | refine blk_drewN ?_ _ | refine blk_drew ?_ | refine blk_alloc ?_ _)); exact BK593.out) hb); have n1_ := Aside0.mk (below_step (by repeat (first | (with_reducible first | exact HB.out | apply below_alloc | apply pw_below_drewN | apply below_drew1 | refine below_set ?_ GE593.out) | exact HB.out)) hb); clear BK593; clear HB; have BK593 := n0_; have HB := n1_; clear n0_ n1_; (try clear hb); (try clear hb2); (try clear hk); (try clear hi)))
   go_ret
   exact ⟨by first | rfl | (simp [*, errW_none, errW_some] <;> rfl), by repeat (first | (with_reducible first | exact HB.out | apply below_alloc | apply pw_below_drewN | apply below_drew1 | refine below_set ?_ GE593.out) | exact HB.out)⟩
end Go.Proofs.YtidajgkepdkcbaaGreatDoor.PF
end
section
namespace Go.Proofs.YtidajgkepdkcbaaGreatDoor
open Go.RowKit Go.Lib Go.Proofs.YtidajgkepdkcbaaGreatDoorW.PrintWords Go.Proofs.YtidajgkepdkcbaaGreatDoorW.PrintLast Go.Proofs.YtidajgkepdkcbaaGreatDoorW.PrintMore PF
theorem bt0_of {s : ByteArray} {c : UInt8} {r : List UInt8} (h : s.data.toList = c :: r) : bt s 0 = c.toNat := by
 rw [← rd_bytesOf]
 unfold rd bytesOf
 rw [h]
 rfl
theorem bt0_T (i : Int) : bt (T i) 0 = 45 ↔ i < 0 := by
 rcases int_form i with ⟨n, rfl⟩ | ⟨n, hn, rfl⟩
 ·obtain ⟨c, r, e, h1, h2⟩ := dig_head n
  rw [bt0_of (c := c) (r := r) (by rw [T_dataList, itoa_nat, e])]
  omega
 ·rw [bt0_of (c := 45) (r := decDigits n) (by rw [T_dataList, itoa_negS n hn])]
  constructor
  ·intro _; omega
  ·intro _; rfl
def sg (i : Int) : Int := if i = 0 then 0 else if i < 0 then -1 else 1
theorem whole_Sign_T (i : Int) : whole_Sign.f (T i) = some (sg i) := by
 unfold whole_Sign.f sg
 rw [T_toList]
 by_cases h : i = 0
 ·rw [if_pos ((itoa_zero_iff i).2 h), if_pos h]
 ·rw [if_neg (fun hh => h ((itoa_zero_iff i).1 hh)), if_neg h, if_pos (by have := T_size_pos i; omega)]
  by_cases h2 : i < 0
  ·rw [if_pos ((bt0_T i).2 h2), if_pos h2]
  ·rw [if_neg (fun hh => h2 ((bt0_T i).1 hh)), if_neg h2]
theorem extract_T {n : Nat} (h : 1 ≤ n) : (T (-(n : Int))).extract 1 (T (-(n : Int))).size = U n := by
 apply ba_ext
 rw [ByteArray.toList_eq, Lib.extract_to_end, T_dataList, itoa_negS n h, U_toList]
 rfl
theorem whole_split_T (i : Int) : whole_split.f (T i) = some (decide (i < 0), U i.natAbs) := by
 unfold whole_split.f
 have hp := T_size_pos i
 rw [if_pos (by omega), if_pos (by omega)]
 rcases int_form i with ⟨n, rfl⟩ | ⟨n, hn, rfl⟩
 ·rw [if_neg (fun hh => by have := (bt0_T _).1 hh; omega), T_nat]
  simp
 ·rw [if_pos ((bt0_T _).2 (by omega)), if_pos (by omega), extract_T hn]
  simp; omega
theorem whole_join_U (b : Bool) (n : Nat) (h : (U n).size ≤ 9223372036854775806) : whole_join.f b (U n) = some (T (if b then -(n : Int) else n)) := by
 unfold whole_join.f
 rw [U_toList]
 cases b with
 | false => simp [T_nat]
 | true =>
  rw [if_pos rfl]
  by_cases h0 : n = 0
  ·subst h0
   rw [if_pos ((digs_zero_iff 0).2 rfl)]
   simp [← T_nat]
  ·rw [if_neg (fun hh => h0 ((digs_zero_iff n).1 hh)), if_pos (by omega)]
   simp only [if_true]
   congr 1
   apply ba_ext
   rw [T_toList, itoa_negS n (by omega), ByteArray.toList_eq]
   simp [U]
theorem U_size_T (i : Int) : (U i.natAbs).size ≤ (T i).size := by
 rw [U_size, T_size]
 rcases int_form i with ⟨n, rfl⟩ | ⟨n, hn, rfl⟩
 ·rw [itoa_nat]; simp
 ·rw [itoa_negS n hn]; simp
theorem whole_Neg_T (i : Int) (h : (T i).size ≤ 9223372036854775806) : whole_Neg.f (T i) = some (T (-i)) := by
 unfold whole_Neg.f
 rw [whole_split_T]
 simp only [Option.bind_some]
 rw [whole_join_U _ _ (by have := U_size_T i; omega)]
 simp only [Option.bind_some]
 congr 2
 by_cases h : i < 0
 ·simp [h]; omega
 ·simp [h]; omega
theorem whole_Abs_T (i : Int) : whole_Abs.f (T i) = some (U i.natAbs) := by
 unfold whole_Abs.f
 rw [whole_split_T]
 rfl
theorem Itoa_T {i : Int} (h0 : -9223372036854775808 ≤ i) (h1 : i ≤ 9223372036854775807) : strconv_Itoa.f i = some (T i) := by
 unfold strconv_Itoa.f; rw [if_pos ⟨h0, h1⟩]; rfl
theorem whole_Of_T {i : Int} (h0 : -9223372036854775808 ≤ i) (h1 : i ≤ 9223372036854775807) : whole_Of.f i = some (T i) := by
 unfold whole_Of.f; rw [Itoa_T h0 h1]; rfl
theorem Atoi_T {i : Int} (h0 : -9223372036854775808 ≤ i) (h1 : i ≤ 9223372036854775807) : strconv_Atoi.f (T i) = some (i, none) := by
 unfold strconv_Atoi.f
 have hs : (T i).size ≤ 19 + 1 := T_size_le (by omega) (by omega)
 rw [if_pos (by omega), T_dataList, atoiAll_itoa h0 h1]
theorem whole_little_yes {i m : Int} (h : ((T i).size : Int) ≤ m) (hm : m ≤ 18) : whole_little.f (T i) m = some (i, true) := by
 unfold whole_little.f
 have hs := lt_of_T_size (i := i) (k := 17) (by omega)
 rw [if_neg (by omega), Atoi_T (by omega) (by omega)]
 rfl
theorem whole_little_no {i m : Int} (h : m < ((T i).size : Int)) : whole_little.f (T i) m = some (0, false) := by
 unfold whole_little.f
 rw [if_pos (by omega)]
theorem U_eq_T (n : Nat) : U n = T (n : Int) := (T_nat n).symm
theorem w64 {x : Int} (h0 : -9223372036854775808 ≤ x) (h1 : x ≤ 9223372036854775807) : wrap64 x = x := by unfold wrap64; omega
theorem whole_Add_short {a b : Int} (ha : (T a).size ≤ 18) (hb : (T b).size ≤ 18) (k : Nat) : whole_Add.f k (T a) (T b) = some (T (a + b)) := by
 have h1 := lt_of_T_size (i := a) (k := 17) (by omega)
 have h2 := lt_of_T_size (i := b) (k := 17) (by omega)
 unfold whole_Add.f
 rw [whole_little_yes (by omega) (by omega)]
 simp only [Option.bind_some, if_true]
 rw [whole_little_yes (by omega) (by omega)]
 simp only [Option.bind_some, if_true]
 rw [w64 (by omega) (by omega), whole_Of_T (by omega) (by omega)]
 rfl
end Go.Proofs.YtidajgkepdkcbaaGreatDoor
end
section
namespace Go.Proofs.YtidajgkepdkcbaaGreatDoor
open Go.RowKit Go.Lib Go.Proofs.YtidajgkepdkcbaaGreatDoorW.PrintWords Go.Proofs.YtidajgkepdkcbaaGreatDoorW.PrintLast Go.Proofs.YtidajgkepdkcbaaGreatDoorW.PrintMore PF
theorem ev_here {α : Type} {g : Nat → Option α} {r : α} (n : Nat) (h : ∀ k, g (k + n) = some r) : Ev g r := ⟨n, fun k hk => by have := h (k - n); rwa [Nat.sub_add_cancel hk] at this⟩
theorem ev_const {α : Type} {g : Nat → Option α} {r : α} (h : ∀ k, g k = some r) : Ev g r := ⟨0, fun k _ => h k⟩
def S17 (i : Int) : Prop := -100000000000000000 < i ∧ i < 100000000000000000
theorem S17.size {i : Int} (h : S17 i) : (T i).size ≤ 18 := T_size_le (k := 17) (by have := h.2; omega) (by have := h.1; omega)
theorem S17.neg {i : Int} (h : S17 i) : S17 (-i) := by unfold S17 at *; omega
theorem S17.abs {i : Int} (h : S17 i) : S17 (i.natAbs : Int) := by unfold S17 at *; omega
theorem Add_T {a b : Int} (ha : S17 a) (hb : S17 b) (k : Nat) : whole_Add.f k (T a) (T b) = some (T (a + b)) := whole_Add_short ha.size hb.size k
theorem Neg_T {a : Int} (ha : S17 a) : whole_Neg.f (T a) = some (T (-a)) := whole_Neg_T a (by have := ha.size; omega)
theorem Sub_T {a b : Int} (ha : S17 a) (hb : S17 b) (k : Nat) : whole_Sub.f k (T a) (T b) = some (T (a - b)) := by
 unfold whole_Sub.f
 rw [Neg_T hb]
 simp only [Option.bind_some]
 rw [Add_T ha hb.neg, Int.sub_eq_add_neg]
 rfl
theorem U_size_le {n k : Nat} (h : n < 10 ^ (k + 1)) : (U n).size ≤ k + 1 := by rw [U_size]; exact (len_le_iff n k).2 h
theorem pow_le_of_size {n : Nat} (h : 1 ≤ n) : 10 ^ ((U n).size - 1) ≤ n := by
 rw [U_size]
 have hp := len_pos n
 rcases Nat.lt_or_ge n (10 ^ ((decDigits n).length - 1)) with h1 | h1
 ·exfalso
  rcases Nat.lt_or_ge (decDigits n).length 2 with h2 | h2
  ·have : (decDigits n).length - 1 = 0 := by omega
   rw [this] at h1; simp at h1; omega
  ·have e : (decDigits n).length - 1 = ((decDigits n).length - 2) + 1 := by omega
   rw [e] at h1
   have := (len_le_iff n ((decDigits n).length - 2)).2 h1
   omega
 ·exact h1
theorem mul_sizes {m n : Nat} (hm : m < 100000000000000000) (hn : n < 100000000000000000) (h : m * n < 10000000000000000) : (U m).size + (U n).size ≤ 18 := by
 have um : (U m).size ≤ 17 := U_size_le (k := 16) (by omega)
 have un : (U n).size ≤ 17 := U_size_le (k := 16) (by omega)
 rcases Nat.eq_zero_or_pos m with rfl | h1
 ·have : (U 0).size ≤ 1 := U_size_le (k := 0) (by omega)
  omega
 rcases Nat.eq_zero_or_pos n with rfl | h2
 ·have : (U 0).size ≤ 1 := U_size_le (k := 0) (by omega)
  omega
 have h3 := Nat.mul_le_mul (pow_le_of_size h1) (pow_le_of_size h2)
 rw [← Nat.pow_add] at h3
 have h4 : 10 ^ ((U m).size - 1 + ((U n).size - 1)) < 10 ^ 16 := by omega
 have h5 := (Nat.pow_lt_pow_iff_right (by omega : 1 < 10)).1 h4
 omega
theorem join_T {b : Bool} {n : Nat} (h : (U n).size ≤ 100) : whole_join.f b (T (n : Int)) = some (T (if b then -(n : Int) else n)) := by
 rw [T_nat]; exact whole_join_U b n (by omega)
theorem natAbs_mul_sign (a b : Int) : (if (decide (a < 0) != decide (b < 0)) = true then -((a.natAbs * b.natAbs : Nat) : Int) else ((a.natAbs * b.natAbs : Nat) : Int)) = a * b := by
 rcases Int.natAbs_eq a with ha | ha <;> rcases Int.natAbs_eq b with hb | hb
 all_goals
  generalize hm : a.natAbs = m at *
  generalize hn : b.natAbs = n at *
  subst ha hb
 ·rw [if_neg (by simp; omega)]; simp
 ·by_cases h0 : n = 0
  ·subst h0; simp
  ·rw [if_pos (by simp; omega)]; simp [Int.mul_neg]
 ·by_cases h0 : m = 0
  ·subst h0; simp
  ·rw [if_pos (by simp; omega)]; simp [Int.neg_mul]
 ·by_cases h0 : m = 0
  ·subst h0; simp
  by_cases h1 : n = 0
  ·subst h1; simp
  rw [if_neg (by simp; omega)]; simp [Int.neg_mul_neg]
theorem Mul_T {a b : Int} (ha : S17 a) (hb : S17 b) (h : a.natAbs * b.natAbs < 10000000000000000) : Ev (fun k => whole_Mul.f k (T a) (T b)) (T (a * b)) := by
 have hs := mul_sizes (m := a.natAbs) (n := b.natAbs) (by unfold S17 at ha; omega) (by unfold S17 at hb; omega) h
 have hab : (a * b).natAbs < 10000000000000000 := by rw [Int.natAbs_mul]; exact h
 have long : ∀ k, whole_Mul.j0 (k + 1) (T a) (T b) = some (T (a * b)) := by
  intro k
  rw [whole_Mul.j0, whole_split_T, whole_split_T]
  simp only [Option.bind_some]
  have hm : decimal_Mul.f (U a.natAbs) (U b.natAbs) = some (T ((a.natAbs * b.natAbs : Nat) : Int)) := by
   unfold decimal_Mul.f
   rw [if_pos hs]
   have e1 : parseUintB 64 (U a.natAbs).data.toList = .ok a.natAbs := by
    have : (U a.natAbs).data.toList = decDigits a.natAbs := by simp [U]
    rw [this]; exact parseUintB_U (by unfold S17 at ha; omega)
   have e2 : parseUintB 64 (U b.natAbs).data.toList = .ok b.natAbs := by
    have : (U b.natAbs).data.toList = decDigits b.natAbs := by simp [U]
    rw [this]; exact parseUintB_U (by unfold S17 at hb; omega)
   rw [e1, e2]
   simp only
   rw [if_pos (by omega)]
   rfl
  rw [hm]
  simp only [Option.bind_some]
  rw [join_T (by have := U_size_le (n := a.natAbs * b.natAbs) (k := 15) (by omega); omega), natAbs_mul_sign]
  rfl
 refine ev_here 1 fun k => ?_
 unfold whole_Mul.f
 by_cases h1 : ((T a).size : Int) ≤ 9
 ·rw [whole_little_yes h1 (by omega)]
  simp only [Option.bind_some, if_true]
  by_cases h2 : ((T b).size : Int) ≤ 9
  ·rw [whole_little_yes h2 (by omega)]
   simp only [Option.bind_some, if_true]
   rw [w64 (by omega) (by omega), whole_Of_T (by omega) (by omega)]
   rfl
  ·rw [whole_little_no (by omega)]
   simp only [Option.bind_some, Bool.false_eq_true, if_false]
   exact long k
 ·rw [whole_little_no (by omega)]
  simp only [Option.bind_some, Bool.false_eq_true, if_false]
  exact long k
theorem DivMod_T {a b : Int} (ha : S17 a) (hb : S17 b) (h0 : 0 < b) : Ev (fun k => whole_DivMod.f k (T a) (T b)) (T (a / b), T (a % b), 0) := by
 refine ev_here 1 fun k => ?_
 unfold whole_DivMod.f
 rw [if_neg (by rw [T_toList]; intro h; have := (itoa_zero_iff b).1 h; omega), whole_little_yes (by have := ha.size; omega) (by omega)]
 simp only [Option.bind_some, if_true]
 rw [whole_little_yes (by have := hb.size; omega) (by omega)]
 simp only [Option.bind_some, if_true]
 rw [if_neg (by omega)]
 have q1 : (Int.tdiv a b).natAbs ≤ a.natAbs := Int.natAbs_tdiv_le_natAbs a b
 have r1 : (Int.tmod a b).natAbs < b.natAbs := by rw [Int.natAbs_tmod]; exact Nat.mod_lt _ (by omega)
 have hS : ∀ {i : Int}, -9223372036854775808 ≤ i ∧ i ≤ 9223372036854775807 → whole_Of.f i = some (T i) := fun h => whole_Of_T h.1 h.2
 unfold S17 at ha hb
 have e1 := Int.mul_tdiv_add_tmod a b
 have hq := Int.emod_add_mul_ediv a b
 have hr0 := Int.emod_nonneg a (b := b) (by omega)
 have hr1 := Int.emod_lt_of_pos a h0
 have key : (Int.tmod a b < 0 ∧ a / b = Int.tdiv a b - 1 ∧ a % b = Int.tmod a b + b) ∨ (0 ≤ Int.tmod a b ∧ a / b = Int.tdiv a b ∧ a % b = Int.tmod a b) := by
  rcases Int.lt_or_le (Int.tmod a b) 0 with hl | hl
  ·left
   exact ⟨hl, (Int.ediv_emod_unique h0).2 ⟨by rw [Int.mul_sub]; omega, by omega, by omega⟩⟩
  ·right
   exact ⟨hl, (Int.ediv_emod_unique h0).2 ⟨by omega, by omega, by omega⟩⟩
 rw [w64 (x := Int.tdiv a b) (by omega) (by omega)]
 rcases key with ⟨hl, e2, e3⟩ | ⟨hl, e2, e3⟩
 ·rw [if_neg (by omega)]
  have : (decide (Int.tmod a b < 0) != decide (b < 0)) = true := by simp [hl]; omega
  rw [this, whole_DivMod.j0, if_pos rfl, w64 (by omega) (by omega), w64 (by omega) (by omega), ← e2, ← e3, hS (by omega)]
  simp only [Option.bind_some]
  rw [hS (by omega)]
  rfl
 ·have fin : whole_DivMod.j0 (k + 1) b (Int.tdiv a b) (Int.tmod a b) false = some (T (a / b), T (a % b), 0) := by
   rw [whole_DivMod.j0, if_neg (by simp), ← e2, ← e3, hS (by omega)]
   simp only [Option.bind_some]
   rw [hS (by omega)]
   rfl
  split
  ·exact fin
  ·have : (decide (Int.tmod a b < 0) != decide (b < 0)) = false := by simp; omega
   rw [this]; exact fin
theorem gcdN : ∀ (n m : Nat), Ev (fun k => whole_gcd.l0 k (m : Int) (n : Int)) ((Nat.gcd m n : Nat) : Int) := by
 intro n
 induction n using Nat.strongRecOn with
 | _ n ih =>
  intro m
  rcases Nat.eq_zero_or_pos n with rfl | hn
  ·refine ev_here 1 fun k => ?_
   rw [whole_gcd.l0, if_pos (by simp), Nat.gcd_zero_right]
  ·refine Ev.step (f := fun k => whole_gcd.l0 k (n : Int) ((m % n : Nat) : Int)) (fun k => ?_) ?_
   ·rw [whole_gcd.l0, if_neg (by omega)]; rfl
   ·have := ih (m % n) (Nat.mod_lt _ hn) n
    rwa [Nat.gcd_comm n, ← Nat.gcd_rec, Nat.gcd_comm n] at this
theorem Gcd_T {a b : Int} (ha : S17 a) (hb : S17 b) : Ev (fun k => whole_Gcd.f k (T a) (T b)) (T (Int.gcd a b : Int)) := by
 have h1 := ha.abs.size
 have h2 := hb.abs.size
 refine Ev.congr (f := fun k => (whole_gcd.f k (a.natAbs : Int) (b.natAbs : Int)).bind fun t => (whole_Of.f t).bind fun t => some t) (fun k => ?_) ?_
 ·unfold whole_Gcd.f
  rw [whole_Abs_T, whole_Abs_T]
  simp only [Option.bind_some]
  rw [U_eq_T, U_eq_T, whole_little_yes (by omega) (by omega)]
  simp only [Option.bind_some, if_true]
  rw [whole_little_yes (by omega) (by omega)]
  simp only [Option.bind_some, if_true]
 ·refine Ev.bind (gcdN _ _) (ev_const fun k => ?_)
  have e : ((Nat.gcd a.natAbs b.natAbs : Nat) : Int) = (Int.gcd a b : Int) := rfl
  have hg : Int.gcd a b ≤ 9223372036854775807 := by
   by_cases h0 : b = 0
   ·subst h0; rw [Int.gcd_zero_right]; unfold S17 at ha; omega
   ·have := Nat.le_of_dvd (by omega) (Int.gcd_dvd_natAbs_right a b)
    unfold S17 at hb; omega
  rw [e, whole_Of_T (by omega) (by omega)]
  rfl
end Go.Proofs.YtidajgkepdkcbaaGreatDoor
end
