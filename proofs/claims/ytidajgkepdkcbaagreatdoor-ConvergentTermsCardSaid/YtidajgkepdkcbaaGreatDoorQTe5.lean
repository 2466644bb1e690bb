/- A part of the proof in QTe6. -/
import Derived.Test.YtidajgkepdkcbaaGreatDoorQTe4
set_option linter.unusedVariables false
set_option linter.unusedSimpArgs false
namespace Go
abbrev I_ : Bool := true
abbrev O_ : Bool := false
end Go
section
namespace Go.Proofs.YtidajgkepdkcbaaGreatDoor.PL
open Go.RowKit Go.Proofs.YtidajgkepdkcbaaGreatDoorW.PrintWords Go.Proofs.YtidajgkepdkcbaaGreatDoorW.PrintLast Go.Proofs.YtidajgkepdkcbaaGreatDoorW.PrintMore Go.Proofs.YtidajgkepdkcbaaGreatDoor.PF
attribute [local go_sem] max2_int min2_int max_two min_two max_three min_three max_four min_four
attribute [local go_sem high] eqA24
noncomputable def schismalaw04_ConvergentTerms.j0 : Nat → Bool → ByteArray → ByteArray → Option (Bool)
 | 0, _, _, _ => none
 | k + 1, x17, x153000, x153001 => if x17 = true then ((schismalaw04_known.f k).bind fun t155 => (some t155)) else ((convergent_Terms.f k x153000 x153001).bind fun bt156 => ((convergent_Convergents.f k x153000 x153001).bind fun bt160 => ((schismaref04_Parts.f k x153000 x153001).bind fun bt164 => (if bt164.2.2 = true then ((schismaref04_Terms.f k bt164.1 bt164.2.1).bind fun t167 => ((schismalaw04_ints.f k bt156.1 t167).bind fun t170 => (if t170 = true then (if bt156.2 = 0 then ((schismaref04_Convergents.f k t167).bind fun t171 => ((schismalaw04_same.f k bt160.1 t171).bind fun t174 => (if t174 = true then (if bt160.2 = 0 then (if 0 ≤ (wrap64 ((bt160.1.length : Int) - 1)) then (if (wrap64 ((bt160.1.length : Int) - 1)) < (bt160.1.length : Int) then (some ((((rd_T24 bt160.1 (wrap64 ((bt160.1.length : Int) - 1))).f0).toList) == x153000.toList && ((((rd_T24 bt160.1 (wrap64 ((bt160.1.length : Int) - 1))).f1).toList) == x153001.toList))) else (none)) else (none)) else (some false)) else (some false)))) else (some false)) else (some false)))) else (if (wrap64 ((bt156.1.length : Int) + (bt160.1.length : Int))) = 0 then (if bt156.2 = 2 then (some (bt160.2 == 2)) else (some false)) else (some false))))))
noncomputable def schismalaw04_ConvergentTerms.f (k : Nat) (a0_0 : ByteArray) (a0_1 : ByteArray) : Option (Bool) := (schismalaw04_known.f k).bind fun t153 => (if t153 = true then ((schismalaw04_short.f a0_0 a0_1).bind fun t154 => (schismalaw04_ConvergentTerms.j0 k (!t154) a0_0 a0_1)) else (schismalaw04_ConvergentTerms.j0 k true a0_0 a0_1))
noncomputable def schismalaw04_ConvergentTerms.T9 : Bool × List (List Nat × List Nat) := (true, [([], []), ([], []), ([0, 1], [0, 1]), ([2, 2], [2]), ([3], [3]), ([4, 3], [3, 4]), ([3, 5], [3, 5]), ([6, 3], [6]), ([7], [7]), ([7], [7]), ([9, 7, 7], [7, 9]), ([8, 10, 10, 7], [7, 8, 10]), ([7, 11], [7, 11]), ([12, 11], [12]), ([13], [13]), ([14, 13], [13, 14]), ([13, 15], [13, 15]), ([16, 13], [16]), ([17], [17]), ([17], [17]), ([19, 17], [17, 19]), ([20, 17], [17, 20]), ([18, 21, 17], [17, 18, 21]), ([22, 17], [17, 22]), ([17], [17]), ([23, 24, 17], [17, 23, 24]), ([17, 25], [17, 25]), ([26, 17, 0, 1, 2, 3, 4, 5, 6, 7, 8, 9, 10, 11, 12, 13, 14, 15, 16, 17, 18, 19, 20, 21, 22, 23, 24, 25, 26], [26])])
noncomputable def schismalaw04_ConvergentTerms.B9 : List Nat := [0, 0, 3, 7, 15, 31, 63, 127, 255, 255, 767, 2047, 4095, 8191, 16383, 32767, 65535, 131071, 262143, 262143, 786431, 1835007, 4194303, 8388607, 262143, 33554431, 67108863, 134217727]
theorem schismalaw04_ConvergentTerms.tab9 : rtab .any (opsOf Tryz.f4 9) = schismalaw04_ConvergentTerms.T9 := by kernel_rfl
theorem schismalaw04_ConvergentTerms.bits9 : waitsOk schismalaw04_ConvergentTerms.T9.2 schismalaw04_ConvergentTerms.B9 = true := by kernel_rfl
set_option maxHeartbeats 8000000 in
set_option maxRecDepth 100000 in
theorem schismalaw04_ConvergentTerms.calls (k : Nat) (a0_0 : ByteArray) (a0_1 : ByteArray) (r : Bool) (w : World) (hG_ : GWorld w) (h : schismalaw04_ConvergentTerms.f k a0_0 a0_1 = some r) :
  Calls Tryz.prog 4 #[.agg #[.string a0_0, .string a0_1]] w fun e w' => e = .returned (.bool r) ∧ Below w.heap.size w w' := by
 have hu24 := Tryz.underlying24
 have HB := Aside0.mk (Below.refl w.heap.size w)
 have HG := Aside0.mk hG_
 clear hG_
 have H : ((schismalaw04_known.f k).bind fun t153 => (if t153 = true then ((schismalaw04_short.f a0_0 a0_1).bind fun t154 => (schismalaw04_ConvergentTerms.j0 k (!t154) a0_0 a0_1)) else (schismalaw04_ConvergentTerms.j0 k true a0_0 a0_1))) = some r := h
 clear h
 have HC2 := Aside0.mk H
 clear H
 go_enter Tryz.func4, Tryz.ntmps4
 go_upto_region 1 with (first | ((with_reducible refine gate_dst (N := 1) rfl ?_); (try (refine gate_guard (by rfl) ?_; dsimp only)); refine box_event ?hg (N := 1) ?hd (cs := #[.string a0_0, .string a0_1]) (t := 24) ?hr ?_; (case hd => rfl); (case hg => rfl); (case hr => first | (go_simp; done) | (go_simp; rfl)); intro gb152 hg w3 hbox hb; have n0_ := Aside0.mk (below_step (by repeat (first | (with_reducible first | exact HB.out | apply below_alloc | apply pw_below_drewN | apply below_drew1) | exact HB.out)) hb); have n1_ := Aside0.mk (hbox); have n2_ := Aside0.mk ((by rw [hg]; exact (below_size (by repeat (first | (with_reducible first | exact HB.out | apply below_alloc | apply pw_below_drewN | apply below_drew1) | exact HB.out))) : w.heap.size ≤ gb152)); have n3_ := Aside0.mk ((by rw [hg]; exact (below_size (by repeat (first | (with_reducible first | exact HB.out | apply below_alloc | apply pw_below_drewN | apply below_drew1) | exact HB.out))) : w.heap.size ≤ gb152)); clear HB; have HB := n0_; have BK152 := n1_; have GW152 := n2_; have GE152 := n3_; clear n0_ n1_ n2_ n3_; clear hb hbox hg))
 (try simp only [Act.put, List.setIfInBounds_toArray, List.set_cons_zero, List.set_cons_succ])
 go_cut [17] (fun v17 wc => ∃ (kq : Nat) (x17_1 : Bool), v17 = .bool x17_1 ∧ Aside0 (schismalaw04_ConvergentTerms.j0 kq x17_1 a0_0 a0_1 = some r) ∧ Aside0 (kq ≤ k) ∧ Aside0 (wc.heap[gb152]? = some (.cells #[.string a0_0, .string a0_1] 24 (0, 0))) ∧ Aside0 (Below w.heap.size w wc))
 case first =>
  have H := HC2.out
  clear HC2
  replace H := Option.bind_eq_some_iff.mp H
  obtain ⟨t153, A40, H⟩ := H
  replace H : (if t153 = true then ((schismalaw04_short.f a0_0 a0_1).bind fun t154 => (schismalaw04_ConvergentTerms.j0 k (!t154) a0_0 a0_1)) else (schismalaw04_ConvergentTerms.j0 k true a0_0 a0_1)) = some r := H
  have A4 := Aside0.mk A40
  clear A40
  by_cases c5 : t153 = true
  ·subst c5
   have H1 : ((schismalaw04_short.f a0_0 a0_1).bind fun t154 => (schismalaw04_ConvergentTerms.j0 k (!t154) a0_0 a0_1)) = some r := by rw [if_pos rfl] at H; exact H
   clear H
   have H := H1
   clear H1
   replace H := Option.bind_eq_some_iff.mp H
   obtain ⟨t154, A60, H⟩ := H
   replace H : (schismalaw04_ConvergentTerms.j0 k (!t154) a0_0 a0_1) = some r := H
   have A6 := Aside0.mk A60
   clear A60
   have H' := Aside0.mk H
   clear H
   go_wp2_with (first | ((with_reducible refine gate_callee (f := 13) rfl ?_); refine goesL_ (some 11) rfl rfl Tryz.func13 (by kernel_rfl) rfl #[] rfl (by (try simp only [List.map_toArray, List.map_cons, List.map_nil]); try rfl) ?_; (with_reducible refine (schismalaw04_known.calls k  true _ ?side1 A4.out).mono ?_); (case side1 => exact GWorld.below HG.out (by repeat (first | (with_reducible first | exact HB.out | apply below_alloc | apply pw_below_drewN | apply below_drew1 | refine below_set ?_ GE152.out) | exact HB.out))); rintro e w7 ⟨rfl, hb⟩; refine ⟨_, rfl, ?_⟩; have n0_ := Aside0.mk (blk_below (g := gb152) (o := .cells #[.string a0_0, .string a0_1] 24 (0, 0)) (by (with_reducible repeat (first | refine blk_drewN ?_ _ | refine blk_drew ?_ | refine blk_alloc ?_ _)); exact BK152.out) hb); have n1_ := Aside0.mk (below_step (by repeat (first | (with_reducible first | exact HB.out | apply below_alloc | apply pw_below_drewN | apply below_drew1 | refine below_set ?_ GE152.out) | exact HB.out)) hb); clear BK152; clear HB; have BK152 := n0_; have HB := n1_; clear n0_ n1_; (try clear hb); (try clear hb2); (try clear hk); (try clear hi); have hcz8_0 : w7.cell? ⟨gb152, 0, none⟩ = some (.string a0_0) := (blk_cell BK152.out 0).trans rfl; have hcz8_1 : w7.cell? ⟨gb152, 1, none⟩ = some (.string a0_1) := (blk_cell BK152.out 1).trans rfl; have hfz8_0 := blk_frozen BK152.out 0; have hfz8_1 := blk_frozen BK152.out 1) | (go_at_call 18; (with_reducible refine (schismalaw04_short.calls a0_0 a0_1 t154 _ A6.out).mono ?_); rintro e w9 ⟨rfl, hb⟩; have n0_ := Aside0.mk (blk_below (g := gb152) (o := .cells #[.string a0_0, .string a0_1] 24 (0, 0)) (by (with_reducible repeat (first | refine blk_drewN ?_ _ | refine blk_drew ?_ | refine blk_alloc ?_ _)); exact BK152.out) hb); have n1_ := Aside0.mk (below_step (by repeat (first | (with_reducible first | exact HB.out | apply below_alloc | apply pw_below_drewN | apply below_drew1 | refine below_set ?_ GE152.out) | exact HB.out)) hb); clear BK152; clear HB; have BK152 := n0_; have HB := n1_; clear n0_ n1_; (try clear hb); (try clear hb2); (try clear hk); (try clear hi)))
   go_meet
   case rel => exact ⟨_, (!t154), (by first | rfl | (simp; done) | (simp [*]; done)), H', ⟨by first | omega | exact Nat.le_refl _⟩, ⟨by (with_reducible repeat (first | refine blk_drewN ?_ _ | refine blk_drew ?_ | refine blk_alloc ?_ _)); exact BK152.out⟩, ⟨by repeat (first | (with_reducible first | exact HB.out | apply below_alloc | apply pw_below_drewN | apply below_drew1 | refine below_set ?_ GE152.out) | exact HB.out)⟩⟩
  ·replace c5 := Bool.eq_false_iff.mpr c5
   subst c5
   have H1 : (schismalaw04_ConvergentTerms.j0 k true a0_0 a0_1) = some r := by rw [if_neg (show ¬ (false = true) by decide)] at H; exact H
   clear H
   have H := H1
   clear H1
   have H' := Aside0.mk H
   clear H
   go_wp2_with (first | ((with_reducible refine gate_callee (f := 13) rfl ?_); refine goesL_ (some 11) rfl rfl Tryz.func13 (by kernel_rfl) rfl #[] rfl (by (try simp only [List.map_toArray, List.map_cons, List.map_nil]); try rfl) ?_; (with_reducible refine (schismalaw04_known.calls k  false _ ?side1 A4.out).mono ?_); (case side1 => exact GWorld.below HG.out (by repeat (first | (with_reducible first | exact HB.out | apply below_alloc | apply pw_below_drewN | apply below_drew1 | refine below_set ?_ GE152.out) | exact HB.out))); rintro e w10 ⟨rfl, hb⟩; refine ⟨_, rfl, ?_⟩; have n0_ := Aside0.mk (blk_below (g := gb152) (o := .cells #[.string a0_0, .string a0_1] 24 (0, 0)) (by (with_reducible repeat (first | refine blk_drewN ?_ _ | refine blk_drew ?_ | refine blk_alloc ?_ _)); exact BK152.out) hb); have n1_ := Aside0.mk (below_step (by repeat (first | (with_reducible first | exact HB.out | apply below_alloc | apply pw_below_drewN | apply below_drew1 | refine below_set ?_ GE152.out) | exact HB.out)) hb); clear BK152; clear HB; have BK152 := n0_; have HB := n1_; clear n0_ n1_; (try clear hb); (try clear hb2); (try clear hk); (try clear hi)))
   go_meet
   case rel => exact ⟨_, (true), (by first | rfl | (simp; done) | (simp [*]; done)), H', ⟨by first | omega | exact Nat.le_refl _⟩, ⟨by (with_reducible repeat (first | refine blk_drewN ?_ _ | refine blk_drew ?_ | refine blk_alloc ?_ _)); exact BK152.out⟩, ⟨by repeat (first | (with_reducible first | exact HB.out | apply below_alloc | apply pw_below_drewN | apply below_drew1 | refine below_set ?_ GE152.out) | exact HB.out)⟩⟩
 case rest =>
  clear HC2
  try clear c1
  try clear p2
  try clear c4
  try clear c5
  try clear hcz8_0
  try clear hcz8_1
  try clear hfz8_0
  try clear hfz8_1
  obtain ⟨kq, x17_1, rfl, HA, HJ1, BK152, HB⟩ := hcut
  cases kq with
  | zero => exact absurd HA.out (by simp [schismalaw04_ConvergentTerms.j0])
  | succ kj1 =>
   have H := HA.out
   clear HA
   simp only [schismalaw04_ConvergentTerms.j0] at H
   by_cases c11 : x17_1 = true
   ·subst c11
    have H1 : ((schismalaw04_known.f kj1).bind fun t155 => (some t155)) = some r := by rw [if_pos rfl] at H; exact H
    clear H
    have H := H1
    clear H1
    replace H := Option.bind_eq_some_iff.mp H
    obtain ⟨t155, A120, H⟩ := H
    replace H : (some t155) = some r := H
    have A12 := Aside0.mk A120
    clear A120
    obtain rfl := Option.some.inj H
    go_wp2_with (first | ((with_reducible refine gate_callee (f := 13) rfl ?_); refine goesL_ (some 18) rfl rfl Tryz.func13 (by kernel_rfl) rfl #[] rfl (by (try simp only [List.map_toArray, List.map_cons, List.map_nil]); try rfl) ?_; (with_reducible refine (schismalaw04_known.calls kj1  t155 _ ?side1 A12.out).mono ?_); (case side1 => exact GWorld.below HG.out (by repeat (first | (with_reducible first | exact HB.out | apply below_alloc | apply pw_below_drewN | apply below_drew1 | refine below_set ?_ GE152.out) | exact HB.out))); rintro e w13 ⟨rfl, hb⟩; refine ⟨_, rfl, ?_⟩; have n0_ := Aside0.mk (blk_below (g := gb152) (o := .cells #[.string a0_0, .string a0_1] 24 (0, 0)) (by (with_reducible repeat (first | refine blk_drewN ?_ _ | refine blk_drew ?_ | refine blk_alloc ?_ _)); exact BK152.out) hb); have n1_ := Aside0.mk (below_step (by repeat (first | (with_reducible first | exact HB.out | apply below_alloc | apply pw_below_drewN | apply below_drew1 | refine below_set ?_ GE152.out) | exact HB.out)) hb); clear BK152; clear HB; have BK152 := n0_; have HB := n1_; clear n0_ n1_; (try clear hb); (try clear hb2); (try clear hk); (try clear hi)))
    go_ret
    exact ⟨by first | rfl | (simp [*, errW_none, errW_some] <;> rfl), by repeat (first | (with_reducible first | exact HB.out | apply below_alloc | apply pw_below_drewN | apply below_drew1 | refine below_set ?_ GE152.out) | exact HB.out)⟩
   ·replace c11 := Bool.eq_false_iff.mpr c11
    subst c11
    have H1 : ((convergent_Terms.f kj1 a0_0 a0_1).bind fun bt156 => ((convergent_Convergents.f kj1 a0_0 a0_1).bind fun bt160 => ((schismaref04_Parts.f kj1 a0_0 a0_1).bind fun bt164 => (if bt164.2.2 = true then ((schismaref04_Terms.f kj1 bt164.1 bt164.2.1).bind fun t167 => ((schismalaw04_ints.f kj1 bt156.1 t167).bind fun t170 => (if t170 = true then (if bt156.2 = 0 then ((schismaref04_Convergents.f kj1 t167).bind fun t171 => ((schismalaw04_same.f kj1 bt160.1 t171).bind fun t174 => (if t174 = true then (if bt160.2 = 0 then (if 0 ≤ (wrap64 ((bt160.1.length : Int) - 1)) then (if (wrap64 ((bt160.1.length : Int) - 1)) < (bt160.1.length : Int) then (some ((((rd_T24 bt160.1 (wrap64 ((bt160.1.length : Int) - 1))).f0).toList) == a0_0.toList && ((((rd_T24 bt160.1 (wrap64 ((bt160.1.length : Int) - 1))).f1).toList) == a0_1.toList))) else (none)) else (none)) else (some false)) else (some false)))) else (some false)) else (some false)))) else (if (wrap64 ((bt156.1.length : Int) + (bt160.1.length : Int))) = 0 then (if bt156.2 = 2 then (some (bt160.2 == 2)) else (some false)) else (some false)))))) = some r := by rw [if_neg (show ¬ (false = true) by decide)] at H; exact H
    clear H
    have H := H1
    clear H1
    replace H := Option.bind_eq_some_iff.mp H
    obtain ⟨⟨t156, t159⟩, A140, H⟩ := H
    replace H : ((convergent_Convergents.f kj1 a0_0 a0_1).bind fun bt160 => ((schismaref04_Parts.f kj1 a0_0 a0_1).bind fun bt164 => (if bt164.2.2 = true then ((schismaref04_Terms.f kj1 bt164.1 bt164.2.1).bind fun t167 => ((schismalaw04_ints.f kj1 t156 t167).bind fun t170 => (if t170 = true then (if t159 = 0 then ((schismaref04_Convergents.f kj1 t167).bind fun t171 => ((schismalaw04_same.f kj1 bt160.1 t171).bind fun t174 => (if t174 = true then (if bt160.2 = 0 then (if 0 ≤ (wrap64 ((bt160.1.length : Int) - 1)) then (if (wrap64 ((bt160.1.length : Int) - 1)) < (bt160.1.length : Int) then (some ((((rd_T24 bt160.1 (wrap64 ((bt160.1.length : Int) - 1))).f0).toList) == a0_0.toList && ((((rd_T24 bt160.1 (wrap64 ((bt160.1.length : Int) - 1))).f1).toList) == a0_1.toList))) else (none)) else (none)) else (some false)) else (some false)))) else (some false)) else (some false)))) else (if (wrap64 ((t156.length : Int) + (bt160.1.length : Int))) = 0 then (if t159 = 2 then (some (bt160.2 == 2)) else (some false)) else (some false))))) = some r := H
    have A14 := Aside0.mk A140
    clear A140
    replace H := Option.bind_eq_some_iff.mp H
    obtain ⟨⟨t160, t163⟩, A150, H⟩ := H
    replace H : ((schismaref04_Parts.f kj1 a0_0 a0_1).bind fun bt164 => (if bt164.2.2 = true then ((schismaref04_Terms.f kj1 bt164.1 bt164.2.1).bind fun t167 => ((schismalaw04_ints.f kj1 t156 t167).bind fun t170 => (if t170 = true then (if t159 = 0 then ((schismaref04_Convergents.f kj1 t167).bind fun t171 => ((schismalaw04_same.f kj1 t160 t171).bind fun t174 => (if t174 = true then (if t163 = 0 then (if 0 ≤ (wrap64 ((t160.length : Int) - 1)) then (if (wrap64 ((t160.length : Int) - 1)) < (t160.length : Int) then (some ((((rd_T24 t160 (wrap64 ((t160.length : Int) - 1))).f0).toList) == a0_0.toList && ((((rd_T24 t160 (wrap64 ((t160.length : Int) - 1))).f1).toList) == a0_1.toList))) else (none)) else (none)) else (some false)) else (some false)))) else (some false)) else (some false)))) else (if (wrap64 ((t156.length : Int) + (t160.length : Int))) = 0 then (if t159 = 2 then (some (t163 == 2)) else (some false)) else (some false)))) = some r := H
    have A15 := Aside0.mk A150
    clear A150
    replace H := Option.bind_eq_some_iff.mp H
    obtain ⟨⟨t164, t165, t166⟩, A160, H⟩ := H
    replace H : (if t166 = true then ((schismaref04_Terms.f kj1 t164 t165).bind fun t167 => ((schismalaw04_ints.f kj1 t156 t167).bind fun t170 => (if t170 = true then (if t159 = 0 then ((schismaref04_Convergents.f kj1 t167).bind fun t171 => ((schismalaw04_same.f kj1 t160 t171).bind fun t174 => (if t174 = true then (if t163 = 0 then (if 0 ≤ (wrap64 ((t160.length : Int) - 1)) then (if (wrap64 ((t160.length : Int) - 1)) < (t160.length : Int) then (some ((((rd_T24 t160 (wrap64 ((t160.length : Int) - 1))).f0).toList) == a0_0.toList && ((((rd_T24 t160 (wrap64 ((t160.length : Int) - 1))).f1).toList) == a0_1.toList))) else (none)) else (none)) else (some false)) else (some false)))) else (some false)) else (some false)))) else (if (wrap64 ((t156.length : Int) + (t160.length : Int))) = 0 then (if t159 = 2 then (some (t163 == 2)) else (some false)) else (some false))) = some r := H
    have A16 := Aside0.mk A160
    clear A160
    by_cases c17 : t166 = true
    ·subst c17
     have H1 : ((schismaref04_Terms.f kj1 t164 t165).bind fun t167 => ((schismalaw04_ints.f kj1 t156 t167).bind fun t170 => (if t170 = true then (if t159 = 0 then ((schismaref04_Convergents.f kj1 t167).bind fun t171 => ((schismalaw04_same.f kj1 t160 t171).bind fun t174 => (if t174 = true then (if t163 = 0 then (if 0 ≤ (wrap64 ((t160.length : Int) - 1)) then (if (wrap64 ((t160.length : Int) - 1)) < (t160.length : Int) then (some ((((rd_T24 t160 (wrap64 ((t160.length : Int) - 1))).f0).toList) == a0_0.toList && ((((rd_T24 t160 (wrap64 ((t160.length : Int) - 1))).f1).toList) == a0_1.toList))) else (none)) else (none)) else (some false)) else (some false)))) else (some false)) else (some false)))) = some r := by rw [if_pos rfl] at H; exact H
     clear H
     have H := H1
     clear H1
     replace H := Option.bind_eq_some_iff.mp H
     obtain ⟨t167, A180, H⟩ := H
     replace H : ((schismalaw04_ints.f kj1 t156 t167).bind fun t170 => (if t170 = true then (if t159 = 0 then ((schismaref04_Convergents.f kj1 t167).bind fun t171 => ((schismalaw04_same.f kj1 t160 t171).bind fun t174 => (if t174 = true then (if t163 = 0 then (if 0 ≤ (wrap64 ((t160.length : Int) - 1)) then (if (wrap64 ((t160.length : Int) - 1)) < (t160.length : Int) then (some ((((rd_T24 t160 (wrap64 ((t160.length : Int) - 1))).f0).toList) == a0_0.toList && ((((rd_T24 t160 (wrap64 ((t160.length : Int) - 1))).f1).toList) == a0_1.toList))) else (none)) else (none)) else (some false)) else (some false)))) else (some false)) else (some false))) = some r := H
     have A18 := Aside0.mk A180
     clear A180
     replace H := Option.bind_eq_some_iff.mp H
     obtain ⟨t170, A190, H⟩ := H
     replace H : (if t170 = true then (if t159 = 0 then ((schismaref04_Convergents.f kj1 t167).bind fun t171 => ((schismalaw04_same.f kj1 t160 t171).bind fun t174 => (if t174 = true then (if t163 = 0 then (if 0 ≤ (wrap64 ((t160.length : Int) - 1)) then (if (wrap64 ((t160.length : Int) - 1)) < (t160.length : Int) then (some ((((rd_T24 t160 (wrap64 ((t160.length : Int) - 1))).f0).toList) == a0_0.toList && ((((rd_T24 t160 (wrap64 ((t160.length : Int) - 1))).f1).toList) == a0_1.toList))) else (none)) else (none)) else (some false)) else (some false)))) else (some false)) else (some false)) = some r := H
     have A19 := Aside0.mk A190
     clear A190
     by_cases c20 : t170 = true
     ·subst c20
      have H1 : (if t159 = 0 then ((schismaref04_Convergents.f kj1 t167).bind fun t171 => ((schismalaw04_same.f kj1 t160 t171).bind fun t174 => (if t174 = true then (if t163 = 0 then (if 0 ≤ (wrap64 ((t160.length : Int) - 1)) then (if (wrap64 ((t160.length : Int) - 1)) < (t160.length : Int) then (some ((((rd_T24 t160 (wrap64 ((t160.length : Int) - 1))).f0).toList) == a0_0.toList && ((((rd_T24 t160 (wrap64 ((t160.length : Int) - 1))).f1).toList) == a0_1.toList))) else (none)) else (none)) else (some false)) else (some false)))) else (some false)) = some r := by rw [if_pos rfl] at H; exact H
      clear H
      have H := H1
      clear H1
      by_cases c21 : t159 = 0
      ·rw [if_pos c21] at H
       have c21b0 : (t159 == 0) = true := beq_iff_eq.mpr c21
       have c21b1 : (t159 != 0) = false := bne_eq_false_iff_eq.mpr c21
       clear c21
       replace H := Option.bind_eq_some_iff.mp H
       obtain ⟨t171, A220, H⟩ := H
       replace H : ((schismalaw04_same.f kj1 t160 t171).bind fun t174 => (if t174 = true then (if t163 = 0 then (if 0 ≤ (wrap64 ((t160.length : Int) - 1)) then (if (wrap64 ((t160.length : Int) - 1)) < (t160.length : Int) then (some ((((rd_T24 t160 (wrap64 ((t160.length : Int) - 1))).f0).toList) == a0_0.toList && ((((rd_T24 t160 (wrap64 ((t160.length : Int) - 1))).f1).toList) == a0_1.toList))) else (none)) else (none)) else (some false)) else (some false))) = some r := H
       have A22 := Aside0.mk A220
       clear A220
       replace H := Option.bind_eq_some_iff.mp H
       obtain ⟨t174, A230, H⟩ := H
       replace H : (if t174 = true then (if t163 = 0 then (if 0 ≤ (wrap64 ((t160.length : Int) - 1)) then (if (wrap64 ((t160.length : Int) - 1)) < (t160.length : Int) then (some ((((rd_T24 t160 (wrap64 ((t160.length : Int) - 1))).f0).toList) == a0_0.toList && ((((rd_T24 t160 (wrap64 ((t160.length : Int) - 1))).f1).toList) == a0_1.toList))) else (none)) else (none)) else (some false)) else (some false)) = some r := H
       have A23 := Aside0.mk A230
       clear A230
       by_cases c24 : t174 = true
       ·subst c24
        have H1 : (if t163 = 0 then (if 0 ≤ (wrap64 ((t160.length : Int) - 1)) then (if (wrap64 ((t160.length : Int) - 1)) < (t160.length : Int) then (some ((((rd_T24 t160 (wrap64 ((t160.length : Int) - 1))).f0).toList) == a0_0.toList && ((((rd_T24 t160 (wrap64 ((t160.length : Int) - 1))).f1).toList) == a0_1.toList))) else (none)) else (none)) else (some false)) = some r := by rw [if_pos rfl] at H; exact H
        clear H
        have H := H1
        clear H1
        by_cases c25 : t163 = 0
        ·rw [if_pos c25] at H
         have c25b0 : (t163 == 0) = true := beq_iff_eq.mpr c25
         have c25b1 : (t163 != 0) = false := bne_eq_false_iff_eq.mpr c25
         clear c25
         obtain ⟨ji26, hji26⟩ : ∃ j_ : Int, (wrap64 ((t160.length : Int) - 1)) = j_ := ⟨_, rfl⟩
         replace H : (if 0 ≤ (ji26) then (if (ji26) < (t160.length : Int) then (some ((((rd_T24 t160 (ji26)).f0).toList) == a0_0.toList && ((((rd_T24 t160 (ji26)).f1).toList) == a0_1.toList))) else (none)) else (none)) = some r := by first | (rw [hji26] at H; exact H) | (simp only [hji26] at H ⊢; exact H)
         (try rw [hji26] at A14)
         (try rw [hji26] at A15)
         (try rw [hji26] at A16)
         (try rw [hji26] at A18)
         (try rw [hji26] at A19)
         (try rw [hji26] at A22)
         (try rw [hji26] at A23)
         have hji26w : (IntKind.i64.wrap ((t160.length : Int) - 1)) = ji26 := (i64_w _).trans hji26
         by_cases c27 : 0 ≤ (ji26)
         ·rw [if_pos c27] at H
          have c27b0 : decide (0 ≤ (ji26)) = true := decide_eq_true c27
          clear c27
          by_cases c28 : (ji26) < (t160.length : Int)
          ·rw [if_pos c28] at H
           have c28b0 : decide ((ji26) < (t160.length : Int)) = true := decide_eq_true c28
           clear c28
           obtain rfl := Option.some.inj H
           have hcz29_0 : wc.cell? ⟨gb152, 0, none⟩ = some (.string a0_0) := (blk_cell BK152.out 0).trans rfl
           have hcz29_1 : wc.cell? ⟨gb152, 1, none⟩ = some (.string a0_1) := (blk_cell BK152.out 1).trans rfl
           have hfz29_0 := blk_frozen BK152.out 0
           have hfz29_1 := blk_frozen BK152.out 1
           try go_wp2_with (first | ((with_reducible refine gate_callee (f := 19) rfl ?_); refine goesL_ (some 21) rfl rfl Tryz.func19 (by kernel_rfl) rfl #[.agg #[.string a0_0, .string a0_1]] rfl (by (try simp only [List.map_toArray, List.map_cons, List.map_nil]); try rfl) ?_; (with_reducible refine (convergent_Terms.calls kj1 a0_0 a0_1 t156 t159 _ ?side1 A14.out).mono ?_); (case side1 => exact GWorld.below HG.out (by repeat (first | (with_reducible first | exact HB.out | apply below_alloc | apply pw_below_drewN | apply below_drew1 | refine below_set ?_ GE152.out) | exact HB.out))); rintro e w30 ⟨v157, rfl, ho0, hb⟩; refine ⟨_, rfl, ?_⟩; have n0_ := Aside0.mk (Kd.R_lower ho0 (below_size (by repeat (first | (with_reducible first | exact HB.out | apply below_alloc | apply pw_below_drewN | apply below_drew1 | refine below_set ?_ GE152.out) | exact HB.out)))); have n1_ := Aside0.mk (blk_below (g := gb152) (o := .cells #[.string a0_0, .string a0_1] 24 (0, 0)) (by (with_reducible repeat (first | refine blk_drewN ?_ _ | refine blk_drew ?_ | refine blk_alloc ?_ _)); exact BK152.out) hb); have n2_ := Aside0.mk (below_step (by repeat (first | (with_reducible first | exact HB.out | apply below_alloc | apply pw_below_drewN | apply below_drew1 | refine below_set ?_ GE152.out) | exact HB.out)) hb); clear BK152; clear HB; have HO158 := n0_; have BK152 := n1_; have HB := n2_; clear n0_ n1_ n2_; (try clear hb); (try clear hb2); (try clear hk); (try clear hi); (try clear ho0); have hcz31_0 : w30.cell? ⟨gb152, 0, none⟩ = some (.string a0_0) := (blk_cell BK152.out 0).trans rfl; have hcz31_1 : w30.cell? ⟨gb152, 1, none⟩ = some (.string a0_1) := (blk_cell BK152.out 1).trans rfl; have hfz31_0 := blk_frozen BK152.out 0; have hfz31_1 := blk_frozen BK152.out 1) | ((with_reducible refine gate_callee (f := 20) rfl ?_); refine goesL_ (some 26) rfl rfl Tryz.func20 (by kernel_rfl) rfl #[.agg #[.string a0_0, .string a0_1]] rfl (by (try simp only [List.map_toArray, List.map_cons, List.map_nil]); try rfl) ?_; (with_reducible refine (convergent_Convergents.calls kj1 a0_0 a0_1 t160 t163 _ ?side1 A15.out).mono ?_); (case side1 => exact GWorld.below HG.out (by repeat (first | (with_reducible first | exact HB.out | apply below_alloc | apply pw_below_drewN | apply below_drew1 | refine below_set ?_ GE152.out) | exact HB.out))); rintro e w32 ⟨v161, rfl, ho0, hb⟩; refine ⟨_, rfl, ?_⟩; have n0_ := Aside0.mk (Kd.R_below (by (with_reducible repeat (first | apply Kd.R_alloc | apply Kd.R_drewN | apply Kd.R_drew)); exact HO158.out) hb); have n1_ := Aside0.mk (Kd.R_lower (Kd.R_newB ho0 (g := gb152) (o := .cells #[.string a0_0, .string a0_1] 24 (0, 0)) (by (with_reducible repeat (first | refine blk_drewN ?_ _ | refine blk_drew ?_ | refine blk_alloc ?_ _)); exact BK152.out)) (below_size (by repeat (first | (with_reducible first | exact HB.out | apply below_alloc | apply pw_below_drewN | apply below_drew1 | refine below_set ?_ GE152.out) | exact HB.out)))); have n2_ := Aside0.mk (blk_below (g := gb152) (o := .cells #[.string a0_0, .string a0_1] 24 (0, 0)) (by (with_reducible repeat (first | refine blk_drewN ?_ _ | refine blk_drew ?_ | refine blk_alloc ?_ _)); exact BK152.out) hb); have n3_ := Aside0.mk (below_step (by repeat (first | (with_reducible first | exact HB.out | apply below_alloc | apply pw_below_drewN | apply below_drew1 | refine below_set ?_ GE152.out) | exact HB.out)) hb); clear HO158; clear BK152; clear HB; have HO158 := n0_; have HO162 := n1_; have BK152 := n2_; have HB := n3_; clear n0_ n1_ n2_ n3_; (try clear hb); (try clear hb2); (try clear hk); (try clear hi); (try clear ho0); have hcz33_0 : w32.cell? ⟨gb152, 0, none⟩ = some (.string a0_0) := (blk_cell BK152.out 0).trans rfl; have hcz33_1 : w32.cell? ⟨gb152, 1, none⟩ = some (.string a0_1) := (blk_cell BK152.out 1).trans rfl; have hfz33_0 := blk_frozen BK152.out 0; have hfz33_1 := blk_frozen BK152.out 1) | ((with_reducible refine gate_callee (f := 15) rfl ?_); refine goesL_ (some 31) rfl rfl Tryz.func15 (by kernel_rfl) rfl #[.agg #[.string a0_0, .string a0_1]] rfl (by (try simp only [List.map_toArray, List.map_cons, List.map_nil]); try rfl) ?_; (with_reducible refine (schismaref04_Parts.calls kj1 a0_0 a0_1 t164 t165 true _ A16.out).mono ?_); rintro e w34 ⟨rfl, hb⟩; refine ⟨_, rfl, ?_⟩; have n0_ := Aside0.mk (Kd.R_below (by (with_reducible repeat (first | apply Kd.R_alloc | apply Kd.R_drewN | apply Kd.R_drew)); exact HO158.out) hb); have n1_ := Aside0.mk (Kd.R_below (by (with_reducible repeat (first | apply Kd.R_alloc | apply Kd.R_drewN | apply Kd.R_drew)); exact HO162.out) hb); have n2_ := Aside0.mk (blk_below (g := gb152) (o := .cells #[.string a0_0, .string a0_1] 24 (0, 0)) (by (with_reducible repeat (first | refine blk_drewN ?_ _ | refine blk_drew ?_ | refine blk_alloc ?_ _)); exact BK152.out) hb); have n3_ := Aside0.mk (below_step (by repeat (first | (with_reducible first | exact HB.out | apply below_alloc | apply pw_below_drewN | apply below_drew1 | refine below_set ?_ GE152.out) | exact HB.out)) hb); clear HO158; clear HO162; clear BK152; clear HB; have HO158 := n0_; have HO162 := n1_; have BK152 := n2_; have HB := n3_; clear n0_ n1_ n2_ n3_; (try clear hb); (try clear hb2); (try clear hk); (try clear hi)) | ((with_reducible refine gate_callee (f := 21) rfl ?_); refine goesL_ (some 53) rfl rfl Tryz.func21 (by kernel_rfl) rfl #[.int .i64 t164, .int .i64 t165] rfl (by (try simp only [List.map_toArray, List.map_cons, List.map_nil]); try rfl) ?_; (with_reducible refine (schismaref04_Terms.calls kj1 t164 t165 t167 _ A18.out).mono ?_); rintro e w35 ⟨v168, rfl, ho0, hb⟩; refine ⟨_, rfl, ?_⟩; have n0_ := Aside0.mk (Kd.R_below (by (with_reducible repeat (first | apply Kd.R_alloc | apply Kd.R_drewN | apply Kd.R_drew)); exact HO158.out) hb); have n1_ := Aside0.mk (Kd.R_below (by (with_reducible repeat (first | apply Kd.R_alloc | apply Kd.R_drewN | apply Kd.R_drew)); exact HO162.out) hb); have n2_ := Aside0.mk (Kd.R_lower ho0 (below_size (by repeat (first | (with_reducible first | exact HB.out | apply below_alloc | apply pw_below_drewN | apply below_drew1 | refine below_set ?_ GE152.out) | exact HB.out)))); have n3_ := Aside0.mk (blk_below (g := gb152) (o := .cells #[.string a0_0, .string a0_1] 24 (0, 0)) (by (with_reducible repeat (first | refine blk_drewN ?_ _ | refine blk_drew ?_ | refine blk_alloc ?_ _)); exact BK152.out) hb); have n4_ := Aside0.mk (below_step (by repeat (first | (with_reducible first | exact HB.out | apply below_alloc | apply pw_below_drewN | apply below_drew1 | refine below_set ?_ GE152.out) | exact HB.out)) hb); clear HO158; clear HO162; clear BK152; clear HB; have HO158 := n0_; have HO162 := n1_; have HO169 := n2_; have BK152 := n3_; have HB := n4_; clear n0_ n1_ n2_ n3_ n4_; (try clear hb); (try clear hb2); (try clear hk); (try clear hi); (try clear ho0)))
           have n0_ := Aside0.mk (Kd.R_drew HO158.out)
           have n1_ := Aside0.mk (Kd.R_drew HO162.out)
           have n2_ := Aside0.mk (Kd.R_drew HO169.out)
           have n3_ := Aside0.mk (blk_drew BK152.out)
           have n4_ := Aside0.mk (below_drew1 HB.out)
           clear HO158
           clear HO162
           clear HO169
           clear BK152
           clear HB
           have HO158 := n0_
           have HO162 := n1_
           have HO169 := n2_
           have BK152 := n3_
           have HB := n4_
           clear n0_ n1_ n2_ n3_ n4_
           obtain ⟨Ao37, co37, eo37⟩ := Kd.R_slice HO158.out
           (first | subst eo37 | (injection eo37 with f1_ f2_ f3_; have f4_ := f1_.symm; have f5_ := f3_.symm; clear f1_ f2_ f3_; subst f4_; subst f5_))
           obtain ⟨Ao38, co38, eo38⟩ := Kd.R_slice HO169.out
           (first | subst eo38 | (injection eo38 with f1_ f2_ f3_; have f4_ := f1_.symm; have f5_ := f3_.symm; clear f1_ f2_ f3_; subst f4_; subst f5_))
           have p175 : 0 ≤ ((ji26) : Int) := of_decide_eq_true (by first | (with_reducible assumption) | assumption)
           have q175 : (ji26) < (t160.length : Int) := of_decide_eq_true (by first | (with_reducible assumption) | assumption)
           obtain ⟨Az1_, cz1_, ez1_⟩ := Kd.R_slice HO162.out
           subst ez1_
           obtain ⟨ad175, e175, hx175_0, hx175_1⟩ := at_T24 (Kd.R_reads' HO162.out).2.2 (ji26) p175 q175
           cases e175
           replace p175 := eq_true p175
           replace q175 := eq_true q175
           refine start_ (n := 28) (S := fun w' => w'.cell? ⟨gb152, 0, none⟩ = some (.string a0_0) ∧ w'.cell? ⟨gb152, 1, none⟩ = some (.string a0_1) ∧ w'.cell? (ad175.add (((ji26)).toNat * 2)) = some (.string ((rd_T24 t160 (ji26)).f0)) ∧ w'.cell? ⟨(ad175.add (((ji26)).toNat * 2)).block, (ad175.add (((ji26)).toNat * 2)).off + 1, none⟩ = some (.string ((rd_T24 t160 (ji26)).f1))) (ds := []) #[O_,O_,O_,O_,O_,O_,O_,O_,O_,O_,O_,O_,O_,O_,O_,O_,O_,O_,O_,O_,O_,O_,O_,O_,O_,O_,O_,O_] (by kernel_rfl) rfl rfl ⟨(blk_cell BK152.out 0).trans rfl, (blk_cell BK152.out 1).trans rfl, hx175_0, hx175_1⟩ (fun hHeld => ?_); refine with_tabW schismalaw04_ConvergentTerms.tab9 schismalaw04_ConvergentTerms.bits9 (fun HT_ HW_ => ?_)
           generalize w35.drew = w36 at HO158 HO162 HO169 BK152 HB hx175_0 hx175_1 hHeld ⊢
           refine pure_ (i := 0) (N := some 54) (v := ?_) (a' := ?_) #[I_,O_,O_,O_,O_,O_,O_,O_,O_,O_,O_,O_,O_,O_,O_,O_,O_,O_,O_,O_,O_,O_,O_,O_,O_,O_,O_,O_] rfl rfl (any_of HT_.out (by kernel_rfl)) (fun _ _ _ h => h) (Or.inl ⟨by rfl, ?_⟩) ?_ ?_
           rotate_left
           ·intro w'
            go_simp
            with_reducible rfl
           rotate_left
           ·simp only [Act.put, List.setIfInBounds_toArray, List.set_cons_zero, List.set_cons_succ, i64_w, i32_w]
            rfl
           refine pure_ (i := 1) (N := some 55) (v := ?_) (a' := ?_) #[I_,I_,O_,O_,O_,O_,O_,O_,O_,O_,O_,O_,O_,O_,O_,O_,O_,O_,O_,O_,O_,O_,O_,O_,O_,O_,O_,O_] rfl rfl (any_of HT_.out (by kernel_rfl)) (fun _ _ _ h => h) (Or.inl ⟨by rfl, ?_⟩) ?_ ?_
           rotate_left
           ·intro w'
            go_simp
            with_reducible rfl
           rotate_left
           ·simp only [Act.put, List.setIfInBounds_toArray, List.set_cons_zero, List.set_cons_succ, i64_w, i32_w]
            rfl
           refine one_ (i := 2) (N := some 56) #[I_,I_,I_,O_,O_,O_,O_,O_,O_,O_,O_,O_,O_,O_,O_,O_,O_,O_,O_,O_,O_,O_,O_,O_,O_,O_,O_,O_] rfl rfl (one_of HT_.out (by kernel_rfl)) (by decide) (fun K hK => ?_)
           refine goes_ Tryz.func22 (by kernel_rfl) rfl #[.slice Ao37 t156.length co37, .slice Ao38 t167.length co38] (by rfl) rfl rfl (by (try simp only [List.map_toArray, List.map_cons, List.map_nil]); try rfl) ?_
           with_reducible refine (schismalaw04_ints.calls kj1 _ _ t156 _ _ t167 true _ ?side1 ?side2 ?side3 ?side4 A19.out).mono ?_
           (case side1 => repeat (first | exact (Kd.R_reads' HO158.out).2.2 | (with_reducible refine Kd.C_alloc ?_ _) | (with_reducible refine Kd.C_drewN ?_ _) | (with_reducible refine Kd.C_drew ?_)))
           (case side2 => exact (Kd.R_reads' HO158.out).2.1)
           (case side3 => repeat (first | exact (Kd.R_reads' HO169.out).2.2 | (with_reducible refine Kd.C_alloc ?_ _) | (with_reducible refine Kd.C_drewN ?_ _) | (with_reducible refine Kd.C_drew ?_)))
           (case side4 => exact (Kd.R_reads' HO169.out).2.1)
           rintro e w39 ⟨rfl, hb⟩
           have HS2_ := (hb.cell (World.block_lt_of_cell? _ _ (hHeld.2.2.1))).trans (hHeld.2.2.1)
           have HS3_ := (hb.cell (World.block_lt_of_cell? _ _ (hHeld.2.2.2))).trans (hHeld.2.2.2)
           refine ⟨_, rfl, ?_⟩
           have n0_ := Aside0.mk (Kd.R_below (by (with_reducible repeat (first | apply Kd.R_alloc | apply Kd.R_drewN | apply Kd.R_drew)); exact HO158.out) hb)
           have n1_ := Aside0.mk (Kd.R_below (by (with_reducible repeat (first | apply Kd.R_alloc | apply Kd.R_drewN | apply Kd.R_drew)); exact HO162.out) hb)
           have n2_ := Aside0.mk (Kd.R_below (by (with_reducible repeat (first | apply Kd.R_alloc | apply Kd.R_drewN | apply Kd.R_drew)); exact HO169.out) hb)
           have n3_ := Aside0.mk (blk_below (g := gb152) (o := .cells #[.string a0_0, .string a0_1] 24 (0, 0)) (by (with_reducible repeat (first | refine blk_drewN ?_ _ | refine blk_drew ?_ | refine blk_alloc ?_ _)); exact BK152.out) hb)
           have n4_ := Aside0.mk (below_step (by repeat (first | (with_reducible first | exact HB.out | apply below_alloc | apply pw_below_drewN | apply below_drew1 | refine below_set ?_ GE152.out) | exact HB.out)) hb)
           clear HO158
           clear HO162
           clear HO169
           clear BK152
           clear HB
           have HO158 := n0_
           have HO162 := n1_
           have HO169 := n2_
           have BK152 := n3_
           have HB := n4_
           clear n0_ n1_ n2_ n3_ n4_
           (try clear hb); (try clear hb2); (try clear hk); (try clear hi)
           refine hK.out _ _ ⟨(blk_cell BK152.out 0).trans rfl, (blk_cell BK152.out 1).trans rfl, HS2_, HS3_⟩ (fun hHeld => ?_)
           clear hK K
           refine norm_ (a' := ?_) ?_ ?_
           rotate_left
           ·show Act.put _ (some 56) _ = _
            simp only [Act.put, List.setIfInBounds_toArray, List.set_cons_zero, List.set_cons_succ, i64_w, i32_w]
            rfl
           refine pure_ (i := 3) (N := some 57) (v := ?_) (a' := ?_) #[I_,I_,I_,I_,O_,O_,O_,O_,O_,O_,O_,O_,O_,O_,O_,O_,O_,O_,O_,O_,O_,O_,O_,O_,O_,O_,O_,O_] rfl rfl (any_of HT_.out (by kernel_rfl)) (fun _ _ _ h => h) (Or.inl ⟨by rfl, ?_⟩) ?_ ?_
           rotate_left
           ·intro w'
            go_simp
            with_reducible rfl
           rotate_left
           ·simp only [Act.put, List.setIfInBounds_toArray, List.set_cons_zero, List.set_cons_succ, i64_w, i32_w]
            rfl
           refine pure_ (i := 4) (N := some 58) (v := ?_) (a' := ?_) #[I_,I_,I_,I_,I_,O_,O_,O_,O_,O_,O_,O_,O_,O_,O_,O_,O_,O_,O_,O_,O_,O_,O_,O_,O_,O_,O_,O_] rfl rfl (any_of HT_.out (by kernel_rfl)) (fun _ _ _ h => h) (Or.inl ⟨by rfl, ?_⟩) ?_ ?_
           rotate_left
           ·intro w'
            go_simp
            with_reducible rfl
           rotate_left
           ·simp only [Act.put, List.setIfInBounds_toArray, List.set_cons_zero, List.set_cons_succ, i64_w, i32_w]
            rfl
           refine pure_ (i := 5) (N := some 59) (v := ?_) (a' := ?_) #[I_,I_,I_,I_,I_,I_,O_,O_,O_,O_,O_,O_,O_,O_,O_,O_,O_,O_,O_,O_,O_,O_,O_,O_,O_,O_,O_,O_] rfl rfl (any_of HT_.out (by kernel_rfl)) (fun _ _ _ h => h) (Or.inl ⟨by rfl, ?_⟩) ?_ ?_
           rotate_left
           ·intro w'
            go_simp
            with_reducible rfl
           rotate_left
           ·simp only [Act.put, List.setIfInBounds_toArray, List.set_cons_zero, List.set_cons_succ, i64_w, i32_w]
            rfl
           refine pure_ (i := 6) (N := some 60) (v := ?_) (a' := ?_) #[I_,I_,I_,I_,I_,I_,I_,O_,O_,O_,O_,O_,O_,O_,O_,O_,O_,O_,O_,O_,O_,O_,O_,O_,O_,O_,O_,O_] rfl rfl (any_of HT_.out (by kernel_rfl)) (fun _ _ _ h => h) (Or.inl ⟨by rfl, ?_⟩) ?_ ?_
           rotate_left
           ·intro w'
            go_simp
            with_reducible rfl
           rotate_left
           ·simp only [Act.put, List.setIfInBounds_toArray, List.set_cons_zero, List.set_cons_succ, i64_w, i32_w]
            rfl
           refine pure_ (i := 7) (N := some 61) (v := ?_) (a' := ?_) #[I_,I_,I_,I_,I_,I_,I_,I_,O_,O_,O_,O_,O_,O_,O_,O_,O_,O_,O_,O_,O_,O_,O_,O_,O_,O_,O_,O_] rfl rfl (any_of HT_.out (by kernel_rfl)) (fun _ _ _ h => h) (Or.inl ⟨by rfl, ?_⟩) ?_ ?_
           rotate_left
           ·intro w'
            go_simp
            with_reducible rfl
           rotate_left
           ·simp only [Act.put, List.setIfInBounds_toArray, List.set_cons_zero, List.set_cons_succ, i64_w, i32_w]
            rfl
           refine pure_ (i := 8) (N := some 62) (v := ?_) (a' := ?_) #[I_,I_,I_,I_,I_,I_,I_,I_,I_,O_,O_,O_,O_,O_,O_,O_,O_,O_,O_,O_,O_,O_,O_,O_,O_,O_,O_,O_] rfl rfl (any_of HT_.out (by kernel_rfl)) (fun _ _ _ h => h) (Or.inl ⟨by rfl, ?_⟩) ?_ ?_
           rotate_left
           ·intro w'
            go_simp
            with_reducible rfl
           rotate_left
           ·simp only [Act.put, List.setIfInBounds_toArray, List.set_cons_zero, List.set_cons_succ, i64_w, i32_w]
            rfl
           refine pure_ (i := 9) (N := some 63) (v := ?_) (a' := ?_) #[I_,I_,I_,I_,I_,I_,I_,I_,I_,I_,O_,O_,O_,O_,O_,O_,O_,O_,O_,O_,O_,O_,O_,O_,O_,O_,O_,O_] rfl rfl (any_of HT_.out (by kernel_rfl)) (fun _ _ _ h => h) (Or.inl ⟨by rfl, ?_⟩) ?_ ?_
           rotate_left
           ·intro w'
            go_simp
            with_reducible rfl
           rotate_left
           ·simp only [Act.put, List.setIfInBounds_toArray, List.set_cons_zero, List.set_cons_succ, i64_w, i32_w]
            rfl
           refine one_ (i := 10) (N := some 64) #[I_,I_,I_,I_,I_,I_,I_,I_,I_,I_,I_,O_,O_,O_,O_,O_,O_,O_,O_,O_,O_,O_,O_,O_,O_,O_,O_,O_] rfl rfl (one_of HT_.out (by kernel_rfl)) (by decide) (fun K hK => ?_)
           refine goes_ Tryz.func24 (by kernel_rfl) rfl #[.slice Ao38 t167.length co38] (by rfl) rfl rfl (by (try simp only [List.map_toArray, List.map_cons, List.map_nil]); try rfl) ?_
           with_reducible refine (schismaref04_Convergents.calls kj1 _ _ t167 t171 _ ?side1 ?side2 A22.out).mono ?_
           (case side1 => repeat (first | exact (Kd.R_reads' HO169.out).2.2 | (with_reducible refine Kd.C_alloc ?_ _) | (with_reducible refine Kd.C_drewN ?_ _) | (with_reducible refine Kd.C_drew ?_)))
           (case side2 => exact (Kd.R_reads' HO169.out).2.1)
           rintro e w40 ⟨v172, rfl, ho0, hb⟩
           have HS2_ := (hb.cell (World.block_lt_of_cell? _ _ (hHeld.2.2.1))).trans (hHeld.2.2.1)
           have HS3_ := (hb.cell (World.block_lt_of_cell? _ _ (hHeld.2.2.2))).trans (hHeld.2.2.2)
           refine ⟨_, rfl, ?_⟩
           have n0_ := Aside0.mk (Kd.R_below (by (with_reducible repeat (first | apply Kd.R_alloc | apply Kd.R_drewN | apply Kd.R_drew)); exact HO158.out) hb)
           have n1_ := Aside0.mk (Kd.R_elder' (by (with_reducible repeat (first | apply Kd.R_alloc | apply Kd.R_drewN | apply Kd.R_drew)); exact HO162.out) (Kd.R_base ho0) hb)
           have n2_ := Aside0.mk (Kd.R_below (by (with_reducible repeat (first | apply Kd.R_alloc | apply Kd.R_drewN | apply Kd.R_drew)); exact HO169.out) hb)
           have n3_ := Aside0.mk (Kd.R_lower (Kd.R_newB (Kd.R_new' ho0 (Kd.R_lt (by (with_reducible repeat (first | apply Kd.R_alloc | apply Kd.R_drewN | apply Kd.R_drew)); exact HO162.out))) (g := gb152) (o := .cells #[.string a0_0, .string a0_1] 24 (0, 0)) (by (with_reducible repeat (first | refine blk_drewN ?_ _ | refine blk_drew ?_ | refine blk_alloc ?_ _)); exact BK152.out)) (below_size (by repeat (first | (with_reducible first | exact HB.out | apply below_alloc | apply pw_below_drewN | apply below_drew1 | refine below_set ?_ GE152.out) | exact HB.out))))
           have n4_ := Aside0.mk (blk_below (g := gb152) (o := .cells #[.string a0_0, .string a0_1] 24 (0, 0)) (by (with_reducible repeat (first | refine blk_drewN ?_ _ | refine blk_drew ?_ | refine blk_alloc ?_ _)); exact BK152.out) hb)
           have n5_ := Aside0.mk (below_step (by repeat (first | (with_reducible first | exact HB.out | apply below_alloc | apply pw_below_drewN | apply below_drew1 | refine below_set ?_ GE152.out) | exact HB.out)) hb)
           clear HO158
           clear HO162
           clear HO169
           clear BK152
           clear HB
           have HO158 := n0_
           have HO162 := n1_
           have HO169 := n2_
           have HO173 := n3_
           have BK152 := n4_
           have HB := n5_
           clear n0_ n1_ n2_ n3_ n4_ n5_
           (try clear hb); (try clear hb2); (try clear hk); (try clear hi); (try clear ho0)
           obtain ⟨Ao41, co41, eo41⟩ := Kd.R_slice HO162.out
           (first | subst eo41 | (injection eo41 with f1_ f2_ f3_; have f4_ := f1_.symm; have f5_ := f3_.symm; clear f1_ f2_ f3_; subst f4_; subst f5_))
           obtain ⟨Ao42, co42, eo42⟩ := Kd.R_slice HO173.out
           (first | subst eo42 | (injection eo42 with f1_ f2_ f3_; have f4_ := f1_.symm; have f5_ := f3_.symm; clear f1_ f2_ f3_; subst f4_; subst f5_))
           refine hK.out _ _ ⟨(blk_cell BK152.out 0).trans rfl, (blk_cell BK152.out 1).trans rfl, HS2_, HS3_⟩ (fun hHeld => ?_)
           clear hK K
           refine norm_ (a' := ?_) ?_ ?_
           rotate_left
           ·show Act.put _ (some 64) _ = _
            simp only [Act.put, List.setIfInBounds_toArray, List.set_cons_zero, List.set_cons_succ, i64_w, i32_w]
            rfl
           refine one_ (i := 11) (N := some 65) #[I_,I_,I_,I_,I_,I_,I_,I_,I_,I_,I_,I_,O_,O_,O_,O_,O_,O_,O_,O_,O_,O_,O_,O_,O_,O_,O_,O_] rfl rfl (one_of HT_.out (by kernel_rfl)) (by decide) (fun K hK => ?_)
           refine goes_ Tryz.func23 (by kernel_rfl) rfl #[.slice (some ad175) t160.length co41, .slice Ao42 t171.length co42] (by rfl) rfl rfl (by (try simp only [List.map_toArray, List.map_cons, List.map_nil]); try rfl) ?_
           with_reducible refine (schismalaw04_same.calls kj1 _ _ t160 _ _ t171 true _ ?side1 ?side2 ?side3 ?side4 A23.out).mono ?_
           (case side1 => repeat (first | exact (Kd.R_reads' HO162.out).2.2 | (with_reducible refine Kd.C_alloc ?_ _) | (with_reducible refine Kd.C_drewN ?_ _) | (with_reducible refine Kd.C_drew ?_)))
           (case side2 => exact (Kd.R_reads' HO162.out).2.1)
           (case side3 => repeat (first | exact (Kd.R_reads' HO173.out).2.2 | (with_reducible refine Kd.C_alloc ?_ _) | (with_reducible refine Kd.C_drewN ?_ _) | (with_reducible refine Kd.C_drew ?_)))
           (case side4 => exact (Kd.R_reads' HO173.out).2.1)
           rintro e w' ⟨rfl, ⟨nd, rfl⟩⟩
           refine ⟨_, rfl, ?_⟩
           refine hK.out _ _ ⟨(blk_cell BK152.out 0).trans rfl, (blk_cell BK152.out 1).trans rfl, hHeld.2.2.1, hHeld.2.2.2⟩ (fun hHeld => ?_)
           clear hK K
           refine norm_ (a' := ?_) ?_ ?_
           rotate_left
           ·show Act.put _ (some 65) _ = _
            simp only [Act.put, List.setIfInBounds_toArray, List.set_cons_zero, List.set_cons_succ, i64_w, i32_w]
            rfl
           refine pure_ (i := 12) (N := some 66) (v := ?_) (a' := ?_) #[I_,I_,I_,I_,I_,I_,I_,I_,I_,I_,I_,I_,I_,O_,O_,O_,O_,O_,O_,O_,O_,O_,O_,O_,O_,O_,O_,O_] rfl rfl (any_of HT_.out (by kernel_rfl)) (fun _ _ _ h => h) (Or.inl ⟨by rfl, ?_⟩) ?_ ?_
           rotate_left
           ·intro w'
            go_simp
            with_reducible rfl
           rotate_left
           ·simp only [Act.put, List.setIfInBounds_toArray, List.set_cons_zero, List.set_cons_succ, i64_w, i32_w]
            rfl
           refine pure_ (i := 13) (N := some 67) (v := ?_) (a' := ?_) #[I_,I_,I_,I_,I_,I_,I_,I_,I_,I_,I_,I_,I_,I_,O_,O_,O_,O_,O_,O_,O_,O_,O_,O_,O_,O_,O_,O_] rfl rfl (any_of HT_.out (by kernel_rfl)) (fun _ _ _ h => h) (Or.inl ⟨by rfl, ?_⟩) ?_ ?_
           rotate_left
           ·intro w'
            go_simp
            with_reducible rfl
           rotate_left
           ·simp only [Act.put, List.setIfInBounds_toArray, List.set_cons_zero, List.set_cons_succ, i64_w, i32_w]
            rfl
           refine pure_ (i := 14) (N := some 68) (v := ?_) (a' := ?_) #[I_,I_,I_,I_,I_,I_,I_,I_,I_,I_,I_,I_,I_,I_,I_,O_,O_,O_,O_,O_,O_,O_,O_,O_,O_,O_,O_,O_] rfl rfl (any_of HT_.out (by kernel_rfl)) (fun _ _ _ h => h) (Or.inl ⟨by rfl, ?_⟩) ?_ ?_
           rotate_left
           ·intro w'
            go_simp
            with_reducible rfl
           rotate_left
           ·simp only [Act.put, List.setIfInBounds_toArray, List.set_cons_zero, List.set_cons_succ, i64_w, i32_w]
            rfl
           refine pure_ (i := 15) (N := some 69) (v := ?_) (a' := ?_) #[I_,I_,I_,I_,I_,I_,I_,I_,I_,I_,I_,I_,I_,I_,I_,I_,O_,O_,O_,O_,O_,O_,O_,O_,O_,O_,O_,O_] rfl rfl (any_of HT_.out (by kernel_rfl)) (fun _ _ _ h => h) (Or.inl ⟨by rfl, ?_⟩) ?_ ?_
           rotate_left
           ·intro w'
            go_simp
            with_reducible rfl
           rotate_left
           ·simp only [Act.put, List.setIfInBounds_toArray, List.set_cons_zero, List.set_cons_succ, i64_w, i32_w]
            rfl
           refine pure_ (i := 16) (N := some 70) (v := ?_) (a' := ?_) #[I_,I_,I_,I_,I_,I_,I_,I_,I_,I_,I_,I_,I_,I_,I_,I_,I_,O_,O_,O_,O_,O_,O_,O_,O_,O_,O_,O_] rfl rfl (any_of HT_.out (by kernel_rfl)) (fun _ _ _ h => h) (Or.inl ⟨by rfl, ?_⟩) ?_ ?_
           rotate_left
           ·intro w'
            go_simp
            with_reducible rfl
           rotate_left
           ·simp only [Act.put, List.setIfInBounds_toArray, List.set_cons_zero, List.set_cons_succ, i64_w, i32_w]
            rfl
           refine pure_ (i := 17) (N := some 71) (v := ?_) (a' := ?_) #[I_,I_,I_,I_,I_,I_,I_,I_,I_,I_,I_,I_,I_,I_,I_,I_,I_,I_,O_,O_,O_,O_,O_,O_,O_,O_,O_,O_] rfl rfl (any_of HT_.out (by kernel_rfl)) (fun _ _ _ h => h) (Or.inl ⟨by rfl, ?_⟩) ?_ ?_
           rotate_left
           ·intro w'
            go_simp
            with_reducible rfl
           rotate_left
           ·simp only [Act.put, List.setIfInBounds_toArray, List.set_cons_zero, List.set_cons_succ, i64_w, i32_w]
            rfl
           refine pure_ (i := 18) (N := some 72) (v := ?_) (a' := ?_) #[I_,I_,I_,I_,I_,I_,I_,I_,I_,I_,I_,I_,I_,I_,I_,I_,I_,I_,I_,O_,O_,O_,O_,O_,O_,O_,O_,O_] rfl rfl (any_of HT_.out (by kernel_rfl)) (fun _ _ _ h => h) (Or.inl ⟨by rfl, ?_⟩) ?_ ?_
           rotate_left
           ·intro w'
            go_simp
            with_reducible rfl
           rotate_left
           ·simp only [Act.put, List.setIfInBounds_toArray, List.set_cons_zero, List.set_cons_succ, i64_w, i32_w]
            rfl
           refine pure_ (i := 19) (N := some 73) (v := ?_) (a' := ?_) #[I_,I_,I_,I_,I_,I_,I_,I_,I_,I_,I_,I_,I_,I_,I_,I_,I_,I_,I_,I_,O_,O_,O_,O_,O_,O_,O_,O_] rfl rfl (any_of HT_.out (by kernel_rfl)) (fun _ _ _ h => h) (Or.inl ⟨by rfl, ?_⟩) ?_ ?_
           rotate_left
           ·intro w'
            go_simp
            with_reducible rfl
           rotate_left
           ·simp only [Act.put, List.setIfInBounds_toArray, List.set_cons_zero, List.set_cons_succ, i64_w, i32_w]
            rfl
           refine pure_ (i := 20) (N := some 74) (v := ?_) (a' := ?_) #[I_,I_,I_,I_,I_,I_,I_,I_,I_,I_,I_,I_,I_,I_,I_,I_,I_,I_,I_,I_,I_,O_,O_,O_,O_,O_,O_,O_] rfl rfl (any_of HT_.out (by kernel_rfl)) (fun _ _ _ h => h) (Or.inl ⟨by rfl, ?_⟩) ?_ ?_
           rotate_left
           ·intro w'
            go_simp
            with_reducible rfl
           rotate_left
           ·simp only [Act.put, List.setIfInBounds_toArray, List.set_cons_zero, List.set_cons_succ, i64_w, i32_w]
            rfl
           refine pure_ (i := 21) (N := some 75) (v := ?_) (a' := ?_) #[I_,I_,I_,I_,I_,I_,I_,I_,I_,I_,I_,I_,I_,I_,I_,I_,I_,I_,I_,I_,I_,I_,O_,O_,O_,O_,O_,O_] rfl rfl (any_of HT_.out (by kernel_rfl)) (fun _ _ _ h => h) (Or.inl ⟨by rfl, ?_⟩) ?_ ?_
           rotate_left
           ·intro w'
            go_simp
            with_reducible rfl
           rotate_left
           ·simp only [Act.put, List.setIfInBounds_toArray, List.set_cons_zero, List.set_cons_succ, i64_w, i32_w]
            rfl
           refine pure_ (i := 22) (N := some 76) (v := ?_) (a' := ?_) #[I_,I_,I_,I_,I_,I_,I_,I_,I_,I_,I_,I_,I_,I_,I_,I_,I_,I_,I_,I_,I_,I_,I_,O_,O_,O_,O_,O_] rfl rfl (any_of HT_.out (by kernel_rfl)) (fun _ _ _ h => h) (Or.inl ⟨by rfl, ?_⟩) ?_ ?_
           rotate_left
           ·intro w'
            go_simp
            with_reducible rfl
           rotate_left
           ·simp only [Act.put, List.setIfInBounds_toArray, List.set_cons_zero, List.set_cons_succ, i64_w, i32_w]
            rfl
           refine take_ (i := 23) (N := some 77) (v := ?_) (a' := ?_) #[I_,I_,I_,I_,I_,I_,I_,I_,I_,I_,I_,I_,I_,I_,I_,I_,I_,I_,I_,I_,I_,I_,I_,I_,O_,O_,O_,O_] rfl rfl (take_ofW HT_.out HW_.out (by kernel_rfl)) (fun _ _ _ h => h) (Or.inl ⟨by rfl, ?_⟩) hHeld ?_ ?_
           rotate_left
           ·rintro w' ⟨s0, s1, s2, s3⟩
            go_simp
            with_reducible rfl
           rotate_left
           ·simp only [Act.put, List.setIfInBounds_toArray, List.set_cons_zero, List.set_cons_succ, i64_w, i32_w]
            rfl
           refine take_ (i := 24) (N := some 78) (v := ?_) (a' := ?_) #[I_,I_,I_,I_,I_,I_,I_,I_,I_,I_,I_,I_,I_,I_,I_,I_,I_,I_,I_,I_,I_,I_,I_,I_,I_,O_,O_,O_] rfl rfl (take_ofW HT_.out HW_.out (by kernel_rfl)) (fun _ _ _ h => h) (Or.inl ⟨by rfl, ?_⟩) hHeld ?_ ?_
           rotate_left
           ·rintro w' ⟨s0, s1, s2, s3⟩
            go_simp
            with_reducible rfl
           rotate_left
           ·simp only [Act.put, List.setIfInBounds_toArray, List.set_cons_zero, List.set_cons_succ, i64_w, i32_w]
            rfl
           refine pure_ (i := 25) (N := some 79) (v := ?_) (a' := ?_) #[I_,I_,I_,I_,I_,I_,I_,I_,I_,I_,I_,I_,I_,I_,I_,I_,I_,I_,I_,I_,I_,I_,I_,I_,I_,I_,O_,O_] rfl rfl (any_of HT_.out (by kernel_rfl)) (fun _ _ _ h => h) (Or.inl ⟨by rfl, ?_⟩) ?_ ?_
           rotate_left
           ·intro w'
            go_simp
            with_reducible rfl
           rotate_left
           ·simp only [Act.put, List.setIfInBounds_toArray, List.set_cons_zero, List.set_cons_succ, i64_w, i32_w]
            rfl
           refine pure_ (i := 26) (N := some 80) (v := ?_) (a' := ?_) #[I_,I_,I_,I_,I_,I_,I_,I_,I_,I_,I_,I_,I_,I_,I_,I_,I_,I_,I_,I_,I_,I_,I_,I_,I_,I_,I_,O_] rfl rfl (any_of HT_.out (by kernel_rfl)) (fun _ _ _ h => h) (Or.inl ⟨by rfl, ?_⟩) ?_ ?_
           rotate_left
           ·intro w'
            go_simp
            with_reducible rfl
           rotate_left
           ·simp only [Act.put, List.setIfInBounds_toArray, List.set_cons_zero, List.set_cons_succ, i64_w, i32_w]
            rfl
           refine pure_ (i := 27) (N := some 2) (v := ?_) (a' := ?_) #[I_,I_,I_,I_,I_,I_,I_,I_,I_,I_,I_,I_,I_,I_,I_,I_,I_,I_,I_,I_,I_,I_,I_,I_,I_,I_,I_,I_] rfl rfl (any_of HT_.out (by kernel_rfl)) (fun _ _ _ h => h) (Or.inl ⟨by rfl, ?_⟩) ?_ ?_
           rotate_left
           ·intro w'
            go_simp
            with_reducible rfl
           rotate_left
           ·simp only [Act.put, List.setIfInBounds_toArray, List.set_cons_zero, List.set_cons_succ, i64_w, i32_w]
            rfl
           refine done_ (done_of HT_.out (by kernel_rfl)) ?_
           try go_wp2
           go_ret
           exact ⟨by first | rfl | (simp [errW_none, errW_some] <;> rfl) | (simp only [← hji26]; first | rfl | (simp [errW_none, errW_some] <;> rfl)) | (simp [*, errW_none, errW_some] <;> rfl), by repeat (first | (with_reducible first | exact HB.out | apply below_alloc | apply pw_below_drewN | apply below_drew1 | refine below_set ?_ GE152.out) | exact HB.out)⟩
          ·rw [if_neg c28] at H
           exact absurd H (by simp)
         ·rw [if_neg c27] at H
          exact absurd H (by simp)
        ·rw [if_neg c25] at H
         have c25b0 : (t163 == 0) = false := beq_eq_false_iff_ne.mpr c25
         have c25b1 : (t163 != 0) = true := bne_iff_ne.mpr c25
         obtain rfl := Option.some.inj H
         have hcz43_0 : wc.cell? ⟨gb152, 0, none⟩ = some (.string a0_0) := (blk_cell BK152.out 0).trans rfl
         have hcz43_1 : wc.cell? ⟨gb152, 1, none⟩ = some (.string a0_1) := (blk_cell BK152.out 1).trans rfl
         have hfz43_0 := blk_frozen BK152.out 0
         have hfz43_1 := blk_frozen BK152.out 1
         try go_wp2_with (first | ((with_reducible refine gate_callee (f := 19) rfl ?_); refine goesL_ (some 21) rfl rfl Tryz.func19 (by kernel_rfl) rfl #[.agg #[.string a0_0, .string a0_1]] rfl (by (try simp only [List.map_toArray, List.map_cons, List.map_nil]); try rfl) ?_; (with_reducible refine (convergent_Terms.calls kj1 a0_0 a0_1 t156 t159 _ ?side1 A14.out).mono ?_); (case side1 => exact GWorld.below HG.out (by repeat (first | (with_reducible first | exact HB.out | apply below_alloc | apply pw_below_drewN | apply below_drew1 | refine below_set ?_ GE152.out) | exact HB.out))); rintro e w44 ⟨v157, rfl, ho0, hb⟩; refine ⟨_, rfl, ?_⟩; have n0_ := Aside0.mk (Kd.R_lower ho0 (below_size (by repeat (first | (with_reducible first | exact HB.out | apply below_alloc | apply pw_below_drewN | apply below_drew1 | refine below_set ?_ GE152.out) | exact HB.out)))); have n1_ := Aside0.mk (blk_below (g := gb152) (o := .cells #[.string a0_0, .string a0_1] 24 (0, 0)) (by (with_reducible repeat (first | refine blk_drewN ?_ _ | refine blk_drew ?_ | refine blk_alloc ?_ _)); exact BK152.out) hb); have n2_ := Aside0.mk (below_step (by repeat (first | (with_reducible first | exact HB.out | apply below_alloc | apply pw_below_drewN | apply below_drew1 | refine below_set ?_ GE152.out) | exact HB.out)) hb); clear BK152; clear HB; have HO158 := n0_; have BK152 := n1_; have HB := n2_; clear n0_ n1_ n2_; (try clear hb); (try clear hb2); (try clear hk); (try clear hi); (try clear ho0); have hcz45_0 : w44.cell? ⟨gb152, 0, none⟩ = some (.string a0_0) := (blk_cell BK152.out 0).trans rfl; have hcz45_1 : w44.cell? ⟨gb152, 1, none⟩ = some (.string a0_1) := (blk_cell BK152.out 1).trans rfl; have hfz45_0 := blk_frozen BK152.out 0; have hfz45_1 := blk_frozen BK152.out 1) | ((with_reducible refine gate_callee (f := 20) rfl ?_); refine goesL_ (some 26) rfl rfl Tryz.func20 (by kernel_rfl) rfl #[.agg #[.string a0_0, .string a0_1]] rfl (by (try simp only [List.map_toArray, List.map_cons, List.map_nil]); try rfl) ?_; (with_reducible refine (convergent_Convergents.calls kj1 a0_0 a0_1 t160 t163 _ ?side1 A15.out).mono ?_); (case side1 => exact GWorld.below HG.out (by repeat (first | (with_reducible first | exact HB.out | apply below_alloc | apply pw_below_drewN | apply below_drew1 | refine below_set ?_ GE152.out) | exact HB.out))); rintro e w46 ⟨v161, rfl, ho0, hb⟩; refine ⟨_, rfl, ?_⟩; have n0_ := Aside0.mk (Kd.R_below (by (with_reducible repeat (first | apply Kd.R_alloc | apply Kd.R_drewN | apply Kd.R_drew)); exact HO158.out) hb); have n1_ := Aside0.mk (Kd.R_lower (Kd.R_newB ho0 (g := gb152) (o := .cells #[.string a0_0, .string a0_1] 24 (0, 0)) (by (with_reducible repeat (first | refine blk_drewN ?_ _ | refine blk_drew ?_ | refine blk_alloc ?_ _)); exact BK152.out)) (below_size (by repeat (first | (with_reducible first | exact HB.out | apply below_alloc | apply pw_below_drewN | apply below_drew1 | refine below_set ?_ GE152.out) | exact HB.out)))); have n2_ := Aside0.mk (blk_below (g := gb152) (o := .cells #[.string a0_0, .string a0_1] 24 (0, 0)) (by (with_reducible repeat (first | refine blk_drewN ?_ _ | refine blk_drew ?_ | refine blk_alloc ?_ _)); exact BK152.out) hb); have n3_ := Aside0.mk (below_step (by repeat (first | (with_reducible first | exact HB.out | apply below_alloc | apply pw_below_drewN | apply below_drew1 | refine below_set ?_ GE152.out) | exact HB.out)) hb); clear HO158; clear BK152; clear HB; have HO158 := n0_; have HO162 := n1_; have BK152 := n2_; have HB := n3_; clear n0_ n1_ n2_ n3_; (try clear hb); (try clear hb2); (try clear hk); (try clear hi); (try clear ho0); have hcz47_0 : w46.cell? ⟨gb152, 0, none⟩ = some (.string a0_0) := (blk_cell BK152.out 0).trans rfl; have hcz47_1 : w46.cell? ⟨gb152, 1, none⟩ = some (.string a0_1) := (blk_cell BK152.out 1).trans rfl; have hfz47_0 := blk_frozen BK152.out 0; have hfz47_1 := blk_frozen BK152.out 1) | ((with_reducible refine gate_callee (f := 15) rfl ?_); refine goesL_ (some 31) rfl rfl Tryz.func15 (by kernel_rfl) rfl #[.agg #[.string a0_0, .string a0_1]] rfl (by (try simp only [List.map_toArray, List.map_cons, List.map_nil]); try rfl) ?_; (with_reducible refine (schismaref04_Parts.calls kj1 a0_0 a0_1 t164 t165 true _ A16.out).mono ?_); rintro e w48 ⟨rfl, hb⟩; refine ⟨_, rfl, ?_⟩; have n0_ := Aside0.mk (Kd.R_below (by (with_reducible repeat (first | apply Kd.R_alloc | apply Kd.R_drewN | apply Kd.R_drew)); exact HO158.out) hb); have n1_ := Aside0.mk (Kd.R_below (by (with_reducible repeat (first | apply Kd.R_alloc | apply Kd.R_drewN | apply Kd.R_drew)); exact HO162.out) hb); have n2_ := Aside0.mk (blk_below (g := gb152) (o := .cells #[.string a0_0, .string a0_1] 24 (0, 0)) (by (with_reducible repeat (first | refine blk_drewN ?_ _ | refine blk_drew ?_ | refine blk_alloc ?_ _)); exact BK152.out) hb); have n3_ := Aside0.mk (below_step (by repeat (first | (with_reducible first | exact HB.out | apply below_alloc | apply pw_below_drewN | apply below_drew1 | refine below_set ?_ GE152.out) | exact HB.out)) hb); clear HO158; clear HO162; clear BK152; clear HB; have HO158 := n0_; have HO162 := n1_; have BK152 := n2_; have HB := n3_; clear n0_ n1_ n2_ n3_; (try clear hb); (try clear hb2); (try clear hk); (try clear hi)) | ((with_reducible refine gate_callee (f := 21) rfl ?_); refine goesL_ (some 53) rfl rfl Tryz.func21 (by kernel_rfl) rfl #[.int .i64 t164, .int .i64 t165] rfl (by (try simp only [List.map_toArray, List.map_cons, List.map_nil]); try rfl) ?_; (with_reducible refine (schismaref04_Terms.calls kj1 t164 t165 t167 _ A18.out).mono ?_); rintro e w49 ⟨v168, rfl, ho0, hb⟩; refine ⟨_, rfl, ?_⟩; have n0_ := Aside0.mk (Kd.R_below (by (with_reducible repeat (first | apply Kd.R_alloc | apply Kd.R_drewN | apply Kd.R_drew)); exact HO158.out) hb); have n1_ := Aside0.mk (Kd.R_below (by (with_reducible repeat (first | apply Kd.R_alloc | apply Kd.R_drewN | apply Kd.R_drew)); exact HO162.out) hb); have n2_ := Aside0.mk (Kd.R_lower ho0 (below_size (by repeat (first | (with_reducible first | exact HB.out | apply below_alloc | apply pw_below_drewN | apply below_drew1 | refine below_set ?_ GE152.out) | exact HB.out)))); have n3_ := Aside0.mk (blk_below (g := gb152) (o := .cells #[.string a0_0, .string a0_1] 24 (0, 0)) (by (with_reducible repeat (first | refine blk_drewN ?_ _ | refine blk_drew ?_ | refine blk_alloc ?_ _)); exact BK152.out) hb); have n4_ := Aside0.mk (below_step (by repeat (first | (with_reducible first | exact HB.out | apply below_alloc | apply pw_below_drewN | apply below_drew1 | refine below_set ?_ GE152.out) | exact HB.out)) hb); clear HO158; clear HO162; clear BK152; clear HB; have HO158 := n0_; have HO162 := n1_; have HO169 := n2_; have BK152 := n3_; have HB := n4_; clear n0_ n1_ n2_ n3_ n4_; (try clear hb); (try clear hb2); (try clear hk); (try clear hi); (try clear ho0)))
         have n0_ := Aside0.mk (Kd.R_drew HO158.out)
         have n1_ := Aside0.mk (Kd.R_drew HO162.out)
         have n2_ := Aside0.mk (Kd.R_drew HO169.out)
         have n3_ := Aside0.mk (blk_drew BK152.out)
         have n4_ := Aside0.mk (below_drew1 HB.out)
         clear HO158
         clear HO162
         clear HO169
         clear BK152
         clear HB
         have HO158 := n0_
         have HO162 := n1_
         have HO169 := n2_
         have BK152 := n3_
         have HB := n4_
         clear n0_ n1_ n2_ n3_ n4_
         obtain ⟨Ao51, co51, eo51⟩ := Kd.R_slice HO158.out
         (first | subst eo51 | (injection eo51 with f1_ f2_ f3_; have f4_ := f1_.symm; have f5_ := f3_.symm; clear f1_ f2_ f3_; subst f4_; subst f5_))
         obtain ⟨Ao52, co52, eo52⟩ := Kd.R_slice HO169.out
         (first | subst eo52 | (injection eo52 with f1_ f2_ f3_; have f4_ := f1_.symm; have f5_ := f3_.symm; clear f1_ f2_ f3_; subst f4_; subst f5_))
         refine start_ (n := 28) (S := fun w' => True) (ds := []) #[O_,O_,O_,O_,O_,O_,O_,O_,O_,O_,O_,O_,O_,O_,O_,O_,O_,O_,O_,O_,O_,O_,O_,O_,O_,O_,O_,O_] (by kernel_rfl) rfl rfl trivial (fun hHeld => ?_); refine with_tabW schismalaw04_ConvergentTerms.tab9 schismalaw04_ConvergentTerms.bits9 (fun HT_ HW_ => ?_)
         generalize w49.drew = w50 at HO158 HO162 HO169 BK152 HB hHeld ⊢
         refine pure_ (i := 0) (N := some 54) (v := ?_) (a' := ?_) #[I_,O_,O_,O_,O_,O_,O_,O_,O_,O_,O_,O_,O_,O_,O_,O_,O_,O_,O_,O_,O_,O_,O_,O_,O_,O_,O_,O_] rfl rfl (any_of HT_.out (by kernel_rfl)) (fun _ _ _ h => h) (Or.inl ⟨by rfl, ?_⟩) ?_ ?_
         rotate_left
         ·intro w'
          go_simp
          with_reducible rfl
         rotate_left
         ·simp only [Act.put, List.setIfInBounds_toArray, List.set_cons_zero, List.set_cons_succ, i64_w, i32_w]
          rfl
         refine pure_ (i := 1) (N := some 55) (v := ?_) (a' := ?_) #[I_,I_,O_,O_,O_,O_,O_,O_,O_,O_,O_,O_,O_,O_,O_,O_,O_,O_,O_,O_,O_,O_,O_,O_,O_,O_,O_,O_] rfl rfl (any_of HT_.out (by kernel_rfl)) (fun _ _ _ h => h) (Or.inl ⟨by rfl, ?_⟩) ?_ ?_
         rotate_left
         ·intro w'
          go_simp
          with_reducible rfl
         rotate_left
         ·simp only [Act.put, List.setIfInBounds_toArray, List.set_cons_zero, List.set_cons_succ, i64_w, i32_w]
          rfl
         refine one_ (i := 2) (N := some 56) #[I_,I_,I_,O_,O_,O_,O_,O_,O_,O_,O_,O_,O_,O_,O_,O_,O_,O_,O_,O_,O_,O_,O_,O_,O_,O_,O_,O_] rfl rfl (one_of HT_.out (by kernel_rfl)) (by decide) (fun K hK => ?_)
         refine goes_ Tryz.func22 (by kernel_rfl) rfl #[.slice Ao51 t156.length co51, .slice Ao52 t167.length co52] (by rfl) rfl rfl (by (try simp only [List.map_toArray, List.map_cons, List.map_nil]); try rfl) ?_
         with_reducible refine (schismalaw04_ints.calls kj1 _ _ t156 _ _ t167 true _ ?side1 ?side2 ?side3 ?side4 A19.out).mono ?_
         (case side1 => repeat (first | exact (Kd.R_reads' HO158.out).2.2 | (with_reducible refine Kd.C_alloc ?_ _) | (with_reducible refine Kd.C_drewN ?_ _) | (with_reducible refine Kd.C_drew ?_)))
         (case side2 => exact (Kd.R_reads' HO158.out).2.1)
         (case side3 => repeat (first | exact (Kd.R_reads' HO169.out).2.2 | (with_reducible refine Kd.C_alloc ?_ _) | (with_reducible refine Kd.C_drewN ?_ _) | (with_reducible refine Kd.C_drew ?_)))
         (case side4 => exact (Kd.R_reads' HO169.out).2.1)
         rintro e w53 ⟨rfl, hb⟩
         refine ⟨_, rfl, ?_⟩
         have n0_ := Aside0.mk (Kd.R_below (by (with_reducible repeat (first | apply Kd.R_alloc | apply Kd.R_drewN | apply Kd.R_drew)); exact HO158.out) hb)
         have n1_ := Aside0.mk (Kd.R_below (by (with_reducible repeat (first | apply Kd.R_alloc | apply Kd.R_drewN | apply Kd.R_drew)); exact HO162.out) hb)
         have n2_ := Aside0.mk (Kd.R_below (by (with_reducible repeat (first | apply Kd.R_alloc | apply Kd.R_drewN | apply Kd.R_drew)); exact HO169.out) hb)
         have n3_ := Aside0.mk (blk_below (g := gb152) (o := .cells #[.string a0_0, .string a0_1] 24 (0, 0)) (by (with_reducible repeat (first | refine blk_drewN ?_ _ | refine blk_drew ?_ | refine blk_alloc ?_ _)); exact BK152.out) hb)
         have n4_ := Aside0.mk (below_step (by repeat (first | (with_reducible first | exact HB.out | apply below_alloc | apply pw_below_drewN | apply below_drew1 | refine below_set ?_ GE152.out) | exact HB.out)) hb)
         clear HO158
         clear HO162
         clear HO169
         clear BK152
         clear HB
         have HO158 := n0_
         have HO162 := n1_
         have HO169 := n2_
         have BK152 := n3_
         have HB := n4_
         clear n0_ n1_ n2_ n3_ n4_
         (try clear hb); (try clear hb2); (try clear hk); (try clear hi)
         refine hK.out _ _ trivial (fun hHeld => ?_)
         clear hK K
         refine norm_ (a' := ?_) ?_ ?_
         rotate_left
         ·show Act.put _ (some 56) _ = _
          simp only [Act.put, List.setIfInBounds_toArray, List.set_cons_zero, List.set_cons_succ, i64_w, i32_w]
          rfl
         refine pure_ (i := 3) (N := some 57) (v := ?_) (a' := ?_) #[I_,I_,I_,I_,O_,O_,O_,O_,O_,O_,O_,O_,O_,O_,O_,O_,O_,O_,O_,O_,O_,O_,O_,O_,O_,O_,O_,O_] rfl rfl (any_of HT_.out (by kernel_rfl)) (fun _ _ _ h => h) (Or.inl ⟨by rfl, ?_⟩) ?_ ?_
         rotate_left
         ·intro w'
          go_simp
          with_reducible rfl
         rotate_left
         ·simp only [Act.put, List.setIfInBounds_toArray, List.set_cons_zero, List.set_cons_succ, i64_w, i32_w]
          rfl
         refine pure_ (i := 4) (N := some 58) (v := ?_) (a' := ?_) #[I_,I_,I_,I_,I_,O_,O_,O_,O_,O_,O_,O_,O_,O_,O_,O_,O_,O_,O_,O_,O_,O_,O_,O_,O_,O_,O_,O_] rfl rfl (any_of HT_.out (by kernel_rfl)) (fun _ _ _ h => h) (Or.inl ⟨by rfl, ?_⟩) ?_ ?_
         rotate_left
         ·intro w'
          go_simp
          with_reducible rfl
         rotate_left
         ·simp only [Act.put, List.setIfInBounds_toArray, List.set_cons_zero, List.set_cons_succ, i64_w, i32_w]
          rfl
         refine pure_ (i := 5) (N := some 59) (v := ?_) (a' := ?_) #[I_,I_,I_,I_,I_,I_,O_,O_,O_,O_,O_,O_,O_,O_,O_,O_,O_,O_,O_,O_,O_,O_,O_,O_,O_,O_,O_,O_] rfl rfl (any_of HT_.out (by kernel_rfl)) (fun _ _ _ h => h) (Or.inl ⟨by rfl, ?_⟩) ?_ ?_
         rotate_left
         ·intro w'
          go_simp
          with_reducible rfl
         rotate_left
         ·simp only [Act.put, List.setIfInBounds_toArray, List.set_cons_zero, List.set_cons_succ, i64_w, i32_w]
          rfl
         refine pure_ (i := 6) (N := some 60) (v := ?_) (a' := ?_) #[I_,I_,I_,I_,I_,I_,I_,O_,O_,O_,O_,O_,O_,O_,O_,O_,O_,O_,O_,O_,O_,O_,O_,O_,O_,O_,O_,O_] rfl rfl (any_of HT_.out (by kernel_rfl)) (fun _ _ _ h => h) (Or.inl ⟨by rfl, ?_⟩) ?_ ?_
         rotate_left
         ·intro w'
          go_simp
          with_reducible rfl
         rotate_left
         ·simp only [Act.put, List.setIfInBounds_toArray, List.set_cons_zero, List.set_cons_succ, i64_w, i32_w]
          rfl
         refine pure_ (i := 7) (N := some 61) (v := ?_) (a' := ?_) #[I_,I_,I_,I_,I_,I_,I_,I_,O_,O_,O_,O_,O_,O_,O_,O_,O_,O_,O_,O_,O_,O_,O_,O_,O_,O_,O_,O_] rfl rfl (any_of HT_.out (by kernel_rfl)) (fun _ _ _ h => h) (Or.inl ⟨by rfl, ?_⟩) ?_ ?_
         rotate_left
         ·intro w'
          go_simp
          with_reducible rfl
         rotate_left
         ·simp only [Act.put, List.setIfInBounds_toArray, List.set_cons_zero, List.set_cons_succ, i64_w, i32_w]
          rfl
         refine pure_ (i := 8) (N := some 62) (v := ?_) (a' := ?_) #[I_,I_,I_,I_,I_,I_,I_,I_,I_,O_,O_,O_,O_,O_,O_,O_,O_,O_,O_,O_,O_,O_,O_,O_,O_,O_,O_,O_] rfl rfl (any_of HT_.out (by kernel_rfl)) (fun _ _ _ h => h) (Or.inl ⟨by rfl, ?_⟩) ?_ ?_
         rotate_left
         ·intro w'
          go_simp
          with_reducible rfl
         rotate_left
         ·simp only [Act.put, List.setIfInBounds_toArray, List.set_cons_zero, List.set_cons_succ, i64_w, i32_w]
          rfl
         refine pure_ (i := 9) (N := some 63) (v := ?_) (a' := ?_) #[I_,I_,I_,I_,I_,I_,I_,I_,I_,I_,O_,O_,O_,O_,O_,O_,O_,O_,O_,O_,O_,O_,O_,O_,O_,O_,O_,O_] rfl rfl (any_of HT_.out (by kernel_rfl)) (fun _ _ _ h => h) (Or.inl ⟨by rfl, ?_⟩) ?_ ?_
         rotate_left
         ·intro w'
          go_simp
          with_reducible rfl
         rotate_left
         ·simp only [Act.put, List.setIfInBounds_toArray, List.set_cons_zero, List.set_cons_succ, i64_w, i32_w]
          rfl
         refine one_ (i := 10) (N := some 64) #[I_,I_,I_,I_,I_,I_,I_,I_,I_,I_,I_,O_,O_,O_,O_,O_,O_,O_,O_,O_,O_,O_,O_,O_,O_,O_,O_,O_] rfl rfl (one_of HT_.out (by kernel_rfl)) (by decide) (fun K hK => ?_)
         refine goes_ Tryz.func24 (by kernel_rfl) rfl #[.slice Ao52 t167.length co52] (by rfl) rfl rfl (by (try simp only [List.map_toArray, List.map_cons, List.map_nil]); try rfl) ?_
         with_reducible refine (schismaref04_Convergents.calls kj1 _ _ t167 t171 _ ?side1 ?side2 A22.out).mono ?_
         (case side1 => repeat (first | exact (Kd.R_reads' HO169.out).2.2 | (with_reducible refine Kd.C_alloc ?_ _) | (with_reducible refine Kd.C_drewN ?_ _) | (with_reducible refine Kd.C_drew ?_)))
         (case side2 => exact (Kd.R_reads' HO169.out).2.1)
         rintro e w54 ⟨v172, rfl, ho0, hb⟩
         refine ⟨_, rfl, ?_⟩
         have n0_ := Aside0.mk (Kd.R_below (by (with_reducible repeat (first | apply Kd.R_alloc | apply Kd.R_drewN | apply Kd.R_drew)); exact HO158.out) hb)
         have n1_ := Aside0.mk (Kd.R_elder' (by (with_reducible repeat (first | apply Kd.R_alloc | apply Kd.R_drewN | apply Kd.R_drew)); exact HO162.out) (Kd.R_base ho0) hb)
         have n2_ := Aside0.mk (Kd.R_below (by (with_reducible repeat (first | apply Kd.R_alloc | apply Kd.R_drewN | apply Kd.R_drew)); exact HO169.out) hb)
         have n3_ := Aside0.mk (Kd.R_lower (Kd.R_newB (Kd.R_new' ho0 (Kd.R_lt (by (with_reducible repeat (first | apply Kd.R_alloc | apply Kd.R_drewN | apply Kd.R_drew)); exact HO162.out))) (g := gb152) (o := .cells #[.string a0_0, .string a0_1] 24 (0, 0)) (by (with_reducible repeat (first | refine blk_drewN ?_ _ | refine blk_drew ?_ | refine blk_alloc ?_ _)); exact BK152.out)) (below_size (by repeat (first | (with_reducible first | exact HB.out | apply below_alloc | apply pw_below_drewN | apply below_drew1 | refine below_set ?_ GE152.out) | exact HB.out))))
         have n4_ := Aside0.mk (blk_below (g := gb152) (o := .cells #[.string a0_0, .string a0_1] 24 (0, 0)) (by (with_reducible repeat (first | refine blk_drewN ?_ _ | refine blk_drew ?_ | refine blk_alloc ?_ _)); exact BK152.out) hb)
         have n5_ := Aside0.mk (below_step (by repeat (first | (with_reducible first | exact HB.out | apply below_alloc | apply pw_below_drewN | apply below_drew1 | refine below_set ?_ GE152.out) | exact HB.out)) hb)
         clear HO158
         clear HO162
         clear HO169
         clear BK152
         clear HB
         have HO158 := n0_
         have HO162 := n1_
         have HO169 := n2_
         have HO173 := n3_
         have BK152 := n4_
         have HB := n5_
         clear n0_ n1_ n2_ n3_ n4_ n5_
         (try clear hb); (try clear hb2); (try clear hk); (try clear hi); (try clear ho0)
         obtain ⟨Ao55, co55, eo55⟩ := Kd.R_slice HO162.out
         (first | subst eo55 | (injection eo55 with f1_ f2_ f3_; have f4_ := f1_.symm; have f5_ := f3_.symm; clear f1_ f2_ f3_; subst f4_; subst f5_))
         obtain ⟨Ao56, co56, eo56⟩ := Kd.R_slice HO173.out
         (first | subst eo56 | (injection eo56 with f1_ f2_ f3_; have f4_ := f1_.symm; have f5_ := f3_.symm; clear f1_ f2_ f3_; subst f4_; subst f5_))
         refine hK.out _ _ trivial (fun hHeld => ?_)
         clear hK K
         refine norm_ (a' := ?_) ?_ ?_
         rotate_left
         ·show Act.put _ (some 64) _ = _
          simp only [Act.put, List.setIfInBounds_toArray, List.set_cons_zero, List.set_cons_succ, i64_w, i32_w]
          rfl
         refine one_ (i := 11) (N := some 65) #[I_,I_,I_,I_,I_,I_,I_,I_,I_,I_,I_,I_,O_,O_,O_,O_,O_,O_,O_,O_,O_,O_,O_,O_,O_,O_,O_,O_] rfl rfl (one_of HT_.out (by kernel_rfl)) (by decide) (fun K hK => ?_)
         refine goes_ Tryz.func23 (by kernel_rfl) rfl #[.slice Ao55 t160.length co55, .slice Ao56 t171.length co56] (by rfl) rfl rfl (by (try simp only [List.map_toArray, List.map_cons, List.map_nil]); try rfl) ?_
         with_reducible refine (schismalaw04_same.calls kj1 _ _ t160 _ _ t171 true _ ?side1 ?side2 ?side3 ?side4 A23.out).mono ?_
         (case side1 => repeat (first | exact (Kd.R_reads' HO162.out).2.2 | (with_reducible refine Kd.C_alloc ?_ _) | (with_reducible refine Kd.C_drewN ?_ _) | (with_reducible refine Kd.C_drew ?_)))
         (case side2 => exact (Kd.R_reads' HO162.out).2.1)
         (case side3 => repeat (first | exact (Kd.R_reads' HO173.out).2.2 | (with_reducible refine Kd.C_alloc ?_ _) | (with_reducible refine Kd.C_drewN ?_ _) | (with_reducible refine Kd.C_drew ?_)))
         (case side4 => exact (Kd.R_reads' HO173.out).2.1)
         rintro e w' ⟨rfl, ⟨nd, rfl⟩⟩
         refine ⟨_, rfl, ?_⟩
         refine hK.out _ _ trivial (fun hHeld => ?_)
         clear hK K
         refine norm_ (a' := ?_) ?_ ?_
         rotate_left
         ·show Act.put _ (some 65) _ = _
          simp only [Act.put, List.setIfInBounds_toArray, List.set_cons_zero, List.set_cons_succ, i64_w, i32_w]
          rfl
         refine pure_ (i := 12) (N := some 66) (v := ?_) (a' := ?_) #[I_,I_,I_,I_,I_,I_,I_,I_,I_,I_,I_,I_,I_,O_,O_,O_,O_,O_,O_,O_,O_,O_,O_,O_,O_,O_,O_,O_] rfl rfl (any_of HT_.out (by kernel_rfl)) (fun _ _ _ h => h) (Or.inl ⟨by rfl, ?_⟩) ?_ ?_
         rotate_left
         ·intro w'
          go_simp
          with_reducible rfl
         rotate_left
         ·simp only [Act.put, List.setIfInBounds_toArray, List.set_cons_zero, List.set_cons_succ, i64_w, i32_w]
          rfl
         refine pure_ (i := 13) (N := some 67) (v := ?_) (a' := ?_) #[I_,I_,I_,I_,I_,I_,I_,I_,I_,I_,I_,I_,I_,I_,O_,O_,O_,O_,O_,O_,O_,O_,O_,O_,O_,O_,O_,O_] rfl rfl (any_of HT_.out (by kernel_rfl)) (fun _ _ _ h => h) (Or.inl ⟨by rfl, ?_⟩) ?_ ?_
         rotate_left
         ·intro w'
          go_simp
          with_reducible rfl
         rotate_left
         ·simp only [Act.put, List.setIfInBounds_toArray, List.set_cons_zero, List.set_cons_succ, i64_w, i32_w]
          rfl
         refine pure_ (i := 14) (N := some 68) (v := ?_) (a' := ?_) #[I_,I_,I_,I_,I_,I_,I_,I_,I_,I_,I_,I_,I_,I_,I_,O_,O_,O_,O_,O_,O_,O_,O_,O_,O_,O_,O_,O_] rfl rfl (any_of HT_.out (by kernel_rfl)) (fun _ _ _ h => h) (Or.inl ⟨by rfl, ?_⟩) ?_ ?_
         rotate_left
         ·intro w'
          go_simp
          with_reducible rfl
         rotate_left
         ·simp only [Act.put, List.setIfInBounds_toArray, List.set_cons_zero, List.set_cons_succ, i64_w, i32_w]
          rfl
         refine pure_ (i := 15) (N := some 69) (v := ?_) (a' := ?_) #[I_,I_,I_,I_,I_,I_,I_,I_,I_,I_,I_,I_,I_,I_,I_,I_,O_,O_,O_,O_,O_,O_,O_,O_,O_,O_,O_,O_] rfl rfl (any_of HT_.out (by kernel_rfl)) (fun _ _ _ h => h) (Or.inl ⟨by rfl, ?_⟩) ?_ ?_
         rotate_left
         ·intro w'
          go_simp
          with_reducible rfl
         rotate_left
         ·simp only [Act.put, List.setIfInBounds_toArray, List.set_cons_zero, List.set_cons_succ, i64_w, i32_w]
          rfl
         refine pure_ (i := 16) (N := some 70) (v := ?_) (a' := ?_) #[I_,I_,I_,I_,I_,I_,I_,I_,I_,I_,I_,I_,I_,I_,I_,I_,I_,O_,O_,O_,O_,O_,O_,O_,O_,O_,O_,O_] rfl rfl (any_of HT_.out (by kernel_rfl)) (fun _ _ _ h => h) (Or.inl ⟨by rfl, ?_⟩) ?_ ?_
         rotate_left
         ·intro w'
          go_simp
          with_reducible rfl
         rotate_left
         ·simp only [Act.put, List.setIfInBounds_toArray, List.set_cons_zero, List.set_cons_succ, i64_w, i32_w]
          rfl
         refine pure_ (i := 17) (N := some 71) (v := ?_) (a' := ?_) #[I_,I_,I_,I_,I_,I_,I_,I_,I_,I_,I_,I_,I_,I_,I_,I_,I_,I_,O_,O_,O_,O_,O_,O_,O_,O_,O_,O_] rfl rfl (any_of HT_.out (by kernel_rfl)) (fun _ _ _ h => h) (Or.inl ⟨by rfl, ?_⟩) ?_ ?_
         rotate_left
         ·intro w'
          go_simp
          with_reducible rfl
         rotate_left
         ·simp only [Act.put, List.setIfInBounds_toArray, List.set_cons_zero, List.set_cons_succ, i64_w, i32_w]
          rfl
         refine pure_ (i := 18) (N := some 72) (v := undef) (a' := ?_) #[I_,I_,I_,I_,I_,I_,I_,I_,I_,I_,I_,I_,I_,I_,I_,I_,I_,I_,I_,O_,O_,O_,O_,O_,O_,O_,O_,O_] rfl rfl (any_of HT_.out (by kernel_rfl)) (fun _ _ _ h => h) (Or.inr ⟨by rfl, rfl⟩) ?_ ?_
         rotate_left
         ·simp only [Act.put, List.setIfInBounds_toArray, List.set_cons_zero, List.set_cons_succ, i64_w, i32_w]
          rfl
         refine pure_ (i := 19) (N := some 73) (v := undef) (a' := ?_) #[I_,I_,I_,I_,I_,I_,I_,I_,I_,I_,I_,I_,I_,I_,I_,I_,I_,I_,I_,I_,O_,O_,O_,O_,O_,O_,O_,O_] rfl rfl (any_of HT_.out (by kernel_rfl)) (fun _ _ _ h => h) (Or.inr ⟨by rfl, rfl⟩) ?_ ?_
         rotate_left
         ·simp only [Act.put, List.setIfInBounds_toArray, List.set_cons_zero, List.set_cons_succ, i64_w, i32_w]
          rfl
         refine pure_ (i := 20) (N := some 74) (v := undef) (a' := ?_) #[I_,I_,I_,I_,I_,I_,I_,I_,I_,I_,I_,I_,I_,I_,I_,I_,I_,I_,I_,I_,I_,O_,O_,O_,O_,O_,O_,O_] rfl rfl (any_of HT_.out (by kernel_rfl)) (fun _ _ _ h => h) (Or.inr ⟨by rfl, rfl⟩) ?_ ?_
         rotate_left
         ·simp only [Act.put, List.setIfInBounds_toArray, List.set_cons_zero, List.set_cons_succ, i64_w, i32_w]
          rfl
         refine pure_ (i := 21) (N := some 75) (v := undef) (a' := ?_) #[I_,I_,I_,I_,I_,I_,I_,I_,I_,I_,I_,I_,I_,I_,I_,I_,I_,I_,I_,I_,I_,I_,O_,O_,O_,O_,O_,O_] rfl rfl (any_of HT_.out (by kernel_rfl)) (fun _ _ _ h => h) (Or.inr ⟨by rfl, rfl⟩) ?_ ?_
         rotate_left
         ·simp only [Act.put, List.setIfInBounds_toArray, List.set_cons_zero, List.set_cons_succ, i64_w, i32_w]
          rfl
         refine pure_ (i := 22) (N := some 76) (v := undef) (a' := ?_) #[I_,I_,I_,I_,I_,I_,I_,I_,I_,I_,I_,I_,I_,I_,I_,I_,I_,I_,I_,I_,I_,I_,I_,O_,O_,O_,O_,O_] rfl rfl (any_of HT_.out (by kernel_rfl)) (fun _ _ _ h => h) (Or.inr ⟨by rfl, rfl⟩) ?_ ?_
         rotate_left
         ·simp only [Act.put, List.setIfInBounds_toArray, List.set_cons_zero, List.set_cons_succ, i64_w, i32_w]
          rfl
         refine pure_ (i := 23) (N := some 77) (v := undef) (a' := ?_) #[I_,I_,I_,I_,I_,I_,I_,I_,I_,I_,I_,I_,I_,I_,I_,I_,I_,I_,I_,I_,I_,I_,I_,I_,O_,O_,O_,O_] rfl rfl (any_of HT_.out (by kernel_rfl)) (fun _ _ _ h => h) (Or.inr ⟨by rfl, rfl⟩) ?_ ?_
         rotate_left
         ·simp only [Act.put, List.setIfInBounds_toArray, List.set_cons_zero, List.set_cons_succ, i64_w, i32_w]
          rfl
         refine pure_ (i := 24) (N := some 78) (v := undef) (a' := ?_) #[I_,I_,I_,I_,I_,I_,I_,I_,I_,I_,I_,I_,I_,I_,I_,I_,I_,I_,I_,I_,I_,I_,I_,I_,I_,O_,O_,O_] rfl rfl (any_of HT_.out (by kernel_rfl)) (fun _ _ _ h => h) (Or.inr ⟨by rfl, rfl⟩) ?_ ?_
         rotate_left
         ·simp only [Act.put, List.setIfInBounds_toArray, List.set_cons_zero, List.set_cons_succ, i64_w, i32_w]
          rfl
         refine pure_ (i := 25) (N := some 79) (v := undef) (a' := ?_) #[I_,I_,I_,I_,I_,I_,I_,I_,I_,I_,I_,I_,I_,I_,I_,I_,I_,I_,I_,I_,I_,I_,I_,I_,I_,I_,O_,O_] rfl rfl (any_of HT_.out (by kernel_rfl)) (fun _ _ _ h => h) (Or.inr ⟨by rfl, rfl⟩) ?_ ?_
         rotate_left
         ·simp only [Act.put, List.setIfInBounds_toArray, List.set_cons_zero, List.set_cons_succ, i64_w, i32_w]
          rfl
         refine pure_ (i := 26) (N := some 80) (v := ?_) (a' := ?_) #[I_,I_,I_,I_,I_,I_,I_,I_,I_,I_,I_,I_,I_,I_,I_,I_,I_,I_,I_,I_,I_,I_,I_,I_,I_,I_,I_,O_] rfl rfl (any_of HT_.out (by kernel_rfl)) (fun _ _ _ h => h) (Or.inl ⟨by rfl, ?_⟩) ?_ ?_
         rotate_left
         ·intro w'
          go_simp
          with_reducible rfl
         rotate_left
         ·simp only [Act.put, List.setIfInBounds_toArray, List.set_cons_zero, List.set_cons_succ, i64_w, i32_w]
          rfl
         refine pure_ (i := 27) (N := some 2) (v := ?_) (a' := ?_) #[I_,I_,I_,I_,I_,I_,I_,I_,I_,I_,I_,I_,I_,I_,I_,I_,I_,I_,I_,I_,I_,I_,I_,I_,I_,I_,I_,I_] rfl rfl (any_of HT_.out (by kernel_rfl)) (fun _ _ _ h => h) (Or.inl ⟨by rfl, ?_⟩) ?_ ?_
         rotate_left
         ·intro w'
          go_simp
          with_reducible rfl
         rotate_left
         ·simp only [Act.put, List.setIfInBounds_toArray, List.set_cons_zero, List.set_cons_succ, i64_w, i32_w]
          rfl
         refine done_ (done_of HT_.out (by kernel_rfl)) ?_
         try go_wp2
         go_ret
         exact ⟨by first | rfl | (simp [*, errW_none, errW_some] <;> rfl), by repeat (first | (with_reducible first | exact HB.out | apply below_alloc | apply pw_below_drewN | apply below_drew1 | refine below_set ?_ GE152.out) | exact HB.out)⟩
       ·replace c24 := Bool.eq_false_iff.mpr c24
        subst c24
        have H1 : (some false) = some r := by rw [if_neg (show ¬ (false = true) by decide)] at H; exact H
        clear H
        have H := H1
        clear H1
        obtain rfl := Option.some.inj H
        have hcz57_0 : wc.cell? ⟨gb152, 0, none⟩ = some (.string a0_0) := (blk_cell BK152.out 0).trans rfl
        have hcz57_1 : wc.cell? ⟨gb152, 1, none⟩ = some (.string a0_1) := (blk_cell BK152.out 1).trans rfl
        have hfz57_0 := blk_frozen BK152.out 0
        have hfz57_1 := blk_frozen BK152.out 1
        try go_wp2_with (first | ((with_reducible refine gate_callee (f := 19) rfl ?_); refine goesL_ (some 21) rfl rfl Tryz.func19 (by kernel_rfl) rfl #[.agg #[.string a0_0, .string a0_1]] rfl (by (try simp only [List.map_toArray, List.map_cons, List.map_nil]); try rfl) ?_; (with_reducible refine (convergent_Terms.calls kj1 a0_0 a0_1 t156 t159 _ ?side1 A14.out).mono ?_); (case side1 => exact GWorld.below HG.out (by repeat (first | (with_reducible first | exact HB.out | apply below_alloc | apply pw_below_drewN | apply below_drew1 | refine below_set ?_ GE152.out) | exact HB.out))); rintro e w58 ⟨v157, rfl, ho0, hb⟩; refine ⟨_, rfl, ?_⟩; have n0_ := Aside0.mk (Kd.R_lower ho0 (below_size (by repeat (first | (with_reducible first | exact HB.out | apply below_alloc | apply pw_below_drewN | apply below_drew1 | refine below_set ?_ GE152.out) | exact HB.out)))); have n1_ := Aside0.mk (blk_below (g := gb152) (o := .cells #[.string a0_0, .string a0_1] 24 (0, 0)) (by (with_reducible repeat (first | refine blk_drewN ?_ _ | refine blk_drew ?_ | refine blk_alloc ?_ _)); exact BK152.out) hb); have n2_ := Aside0.mk (below_step (by repeat (first | (with_reducible first | exact HB.out | apply below_alloc | apply pw_below_drewN | apply below_drew1 | refine below_set ?_ GE152.out) | exact HB.out)) hb); clear BK152; clear HB; have HO158 := n0_; have BK152 := n1_; have HB := n2_; clear n0_ n1_ n2_; (try clear hb); (try clear hb2); (try clear hk); (try clear hi); (try clear ho0); have hcz59_0 : w58.cell? ⟨gb152, 0, none⟩ = some (.string a0_0) := (blk_cell BK152.out 0).trans rfl; have hcz59_1 : w58.cell? ⟨gb152, 1, none⟩ = some (.string a0_1) := (blk_cell BK152.out 1).trans rfl; have hfz59_0 := blk_frozen BK152.out 0; have hfz59_1 := blk_frozen BK152.out 1) | ((with_reducible refine gate_callee (f := 20) rfl ?_); refine goesL_ (some 26) rfl rfl Tryz.func20 (by kernel_rfl) rfl #[.agg #[.string a0_0, .string a0_1]] rfl (by (try simp only [List.map_toArray, List.map_cons, List.map_nil]); try rfl) ?_; (with_reducible refine (convergent_Convergents.calls kj1 a0_0 a0_1 t160 t163 _ ?side1 A15.out).mono ?_); (case side1 => exact GWorld.below HG.out (by repeat (first | (with_reducible first | exact HB.out | apply below_alloc | apply pw_below_drewN | apply below_drew1 | refine below_set ?_ GE152.out) | exact HB.out))); rintro e w60 ⟨v161, rfl, ho0, hb⟩; refine ⟨_, rfl, ?_⟩; have n0_ := Aside0.mk (Kd.R_below (by (with_reducible repeat (first | apply Kd.R_alloc | apply Kd.R_drewN | apply Kd.R_drew)); exact HO158.out) hb); have n1_ := Aside0.mk (Kd.R_lower (Kd.R_newB ho0 (g := gb152) (o := .cells #[.string a0_0, .string a0_1] 24 (0, 0)) (by (with_reducible repeat (first | refine blk_drewN ?_ _ | refine blk_drew ?_ | refine blk_alloc ?_ _)); exact BK152.out)) (below_size (by repeat (first | (with_reducible first | exact HB.out | apply below_alloc | apply pw_below_drewN | apply below_drew1 | refine below_set ?_ GE152.out) | exact HB.out)))); have n2_ := Aside0.mk (blk_below (g := gb152) (o := .cells #[.string a0_0, .string a0_1] 24 (0, 0)) (by (with_reducible repeat (first | refine blk_drewN ?_ _ | refine blk_drew ?_ | refine blk_alloc ?_ _)); exact BK152.out) hb); have n3_ := Aside0.mk (below_step (by repeat (first | (with_reducible first | exact HB.out | apply below_alloc | apply pw_below_drewN | apply below_drew1 | refine below_set ?_ GE152.out) | exact HB.out)) hb); clear HO158; clear BK152; clear HB; have HO158 := n0_; have HO162 := n1_; have BK152 := n2_; have HB := n3_; clear n0_ n1_ n2_ n3_; (try clear hb); (try clear hb2); (try clear hk); (try clear hi); (try clear ho0); have hcz61_0 : w60.cell? ⟨gb152, 0, none⟩ = some (.string a0_0) := (blk_cell BK152.out 0).trans rfl; have hcz61_1 : w60.cell? ⟨gb152, 1, none⟩ = some (.string a0_1) := (blk_cell BK152.out 1).trans rfl; have hfz61_0 := blk_frozen BK152.out 0; have hfz61_1 := blk_frozen BK152.out 1) | ((with_reducible refine gate_callee (f := 15) rfl ?_); refine goesL_ (some 31) rfl rfl Tryz.func15 (by kernel_rfl) rfl #[.agg #[.string a0_0, .string a0_1]] rfl (by (try simp only [List.map_toArray, List.map_cons, List.map_nil]); try rfl) ?_; (with_reducible refine (schismaref04_Parts.calls kj1 a0_0 a0_1 t164 t165 true _ A16.out).mono ?_); rintro e w62 ⟨rfl, hb⟩; refine ⟨_, rfl, ?_⟩; have n0_ := Aside0.mk (Kd.R_below (by (with_reducible repeat (first | apply Kd.R_alloc | apply Kd.R_drewN | apply Kd.R_drew)); exact HO158.out) hb); have n1_ := Aside0.mk (Kd.R_below (by (with_reducible repeat (first | apply Kd.R_alloc | apply Kd.R_drewN | apply Kd.R_drew)); exact HO162.out) hb); have n2_ := Aside0.mk (blk_below (g := gb152) (o := .cells #[.string a0_0, .string a0_1] 24 (0, 0)) (by (with_reducible repeat (first | refine blk_drewN ?_ _ | refine blk_drew ?_ | refine blk_alloc ?_ _)); exact BK152.out) hb); have n3_ := Aside0.mk (below_step (by repeat (first | (with_reducible first | exact HB.out | apply below_alloc | apply pw_below_drewN | apply below_drew1 | refine below_set ?_ GE152.out) | exact HB.out)) hb); clear HO158; clear HO162; clear BK152; clear HB; have HO158 := n0_; have HO162 := n1_; have BK152 := n2_; have HB := n3_; clear n0_ n1_ n2_ n3_; (try clear hb); (try clear hb2); (try clear hk); (try clear hi)) | ((with_reducible refine gate_callee (f := 21) rfl ?_); refine goesL_ (some 53) rfl rfl Tryz.func21 (by kernel_rfl) rfl #[.int .i64 t164, .int .i64 t165] rfl (by (try simp only [List.map_toArray, List.map_cons, List.map_nil]); try rfl) ?_; (with_reducible refine (schismaref04_Terms.calls kj1 t164 t165 t167 _ A18.out).mono ?_); rintro e w63 ⟨v168, rfl, ho0, hb⟩; refine ⟨_, rfl, ?_⟩; have n0_ := Aside0.mk (Kd.R_below (by (with_reducible repeat (first | apply Kd.R_alloc | apply Kd.R_drewN | apply Kd.R_drew)); exact HO158.out) hb); have n1_ := Aside0.mk (Kd.R_below (by (with_reducible repeat (first | apply Kd.R_alloc | apply Kd.R_drewN | apply Kd.R_drew)); exact HO162.out) hb); have n2_ := Aside0.mk (Kd.R_lower ho0 (below_size (by repeat (first | (with_reducible first | exact HB.out | apply below_alloc | apply pw_below_drewN | apply below_drew1 | refine below_set ?_ GE152.out) | exact HB.out)))); have n3_ := Aside0.mk (blk_below (g := gb152) (o := .cells #[.string a0_0, .string a0_1] 24 (0, 0)) (by (with_reducible repeat (first | refine blk_drewN ?_ _ | refine blk_drew ?_ | refine blk_alloc ?_ _)); exact BK152.out) hb); have n4_ := Aside0.mk (below_step (by repeat (first | (with_reducible first | exact HB.out | apply below_alloc | apply pw_below_drewN | apply below_drew1 | refine below_set ?_ GE152.out) | exact HB.out)) hb); clear HO158; clear HO162; clear BK152; clear HB; have HO158 := n0_; have HO162 := n1_; have HO169 := n2_; have BK152 := n3_; have HB := n4_; clear n0_ n1_ n2_ n3_ n4_; (try clear hb); (try clear hb2); (try clear hk); (try clear hi); (try clear ho0)))
        have n0_ := Aside0.mk (Kd.R_drew HO158.out)
        have n1_ := Aside0.mk (Kd.R_drew HO162.out)
        have n2_ := Aside0.mk (Kd.R_drew HO169.out)
        have n3_ := Aside0.mk (blk_drew BK152.out)
        have n4_ := Aside0.mk (below_drew1 HB.out)
        clear HO158
        clear HO162
        clear HO169
        clear BK152
        clear HB
        have HO158 := n0_
        have HO162 := n1_
        have HO169 := n2_
        have BK152 := n3_
        have HB := n4_
        clear n0_ n1_ n2_ n3_ n4_
        obtain ⟨Ao65, co65, eo65⟩ := Kd.R_slice HO158.out
        (first | subst eo65 | (injection eo65 with f1_ f2_ f3_; have f4_ := f1_.symm; have f5_ := f3_.symm; clear f1_ f2_ f3_; subst f4_; subst f5_))
        obtain ⟨Ao66, co66, eo66⟩ := Kd.R_slice HO169.out
        (first | subst eo66 | (injection eo66 with f1_ f2_ f3_; have f4_ := f1_.symm; have f5_ := f3_.symm; clear f1_ f2_ f3_; subst f4_; subst f5_))
        refine start_ (n := 28) (S := fun w' => True) (ds := []) #[O_,O_,O_,O_,O_,O_,O_,O_,O_,O_,O_,O_,O_,O_,O_,O_,O_,O_,O_,O_,O_,O_,O_,O_,O_,O_,O_,O_] (by kernel_rfl) rfl rfl trivial (fun hHeld => ?_); refine with_tabW schismalaw04_ConvergentTerms.tab9 schismalaw04_ConvergentTerms.bits9 (fun HT_ HW_ => ?_)
        generalize w63.drew = w64 at HO158 HO162 HO169 BK152 HB hHeld ⊢
        refine pure_ (i := 0) (N := some 54) (v := ?_) (a' := ?_) #[I_,O_,O_,O_,O_,O_,O_,O_,O_,O_,O_,O_,O_,O_,O_,O_,O_,O_,O_,O_,O_,O_,O_,O_,O_,O_,O_,O_] rfl rfl (any_of HT_.out (by kernel_rfl)) (fun _ _ _ h => h) (Or.inl ⟨by rfl, ?_⟩) ?_ ?_
        rotate_left
        ·intro w'
         go_simp
         with_reducible rfl
        rotate_left
        ·simp only [Act.put, List.setIfInBounds_toArray, List.set_cons_zero, List.set_cons_succ, i64_w, i32_w]
         rfl
        refine pure_ (i := 1) (N := some 55) (v := ?_) (a' := ?_) #[I_,I_,O_,O_,O_,O_,O_,O_,O_,O_,O_,O_,O_,O_,O_,O_,O_,O_,O_,O_,O_,O_,O_,O_,O_,O_,O_,O_] rfl rfl (any_of HT_.out (by kernel_rfl)) (fun _ _ _ h => h) (Or.inl ⟨by rfl, ?_⟩) ?_ ?_
        rotate_left
        ·intro w'
         go_simp
         with_reducible rfl
        rotate_left
        ·simp only [Act.put, List.setIfInBounds_toArray, List.set_cons_zero, List.set_cons_succ, i64_w, i32_w]
         rfl
        refine one_ (i := 2) (N := some 56) #[I_,I_,I_,O_,O_,O_,O_,O_,O_,O_,O_,O_,O_,O_,O_,O_,O_,O_,O_,O_,O_,O_,O_,O_,O_,O_,O_,O_] rfl rfl (one_of HT_.out (by kernel_rfl)) (by decide) (fun K hK => ?_)
        refine goes_ Tryz.func22 (by kernel_rfl) rfl #[.slice Ao65 t156.length co65, .slice Ao66 t167.length co66] (by rfl) rfl rfl (by (try simp only [List.map_toArray, List.map_cons, List.map_nil]); try rfl) ?_
        with_reducible refine (schismalaw04_ints.calls kj1 _ _ t156 _ _ t167 true _ ?side1 ?side2 ?side3 ?side4 A19.out).mono ?_
        (case side1 => repeat (first | exact (Kd.R_reads' HO158.out).2.2 | (with_reducible refine Kd.C_alloc ?_ _) | (with_reducible refine Kd.C_drewN ?_ _) | (with_reducible refine Kd.C_drew ?_)))
        (case side2 => exact (Kd.R_reads' HO158.out).2.1)
        (case side3 => repeat (first | exact (Kd.R_reads' HO169.out).2.2 | (with_reducible refine Kd.C_alloc ?_ _) | (with_reducible refine Kd.C_drewN ?_ _) | (with_reducible refine Kd.C_drew ?_)))
        (case side4 => exact (Kd.R_reads' HO169.out).2.1)
        rintro e w67 ⟨rfl, hb⟩
        refine ⟨_, rfl, ?_⟩
        have n0_ := Aside0.mk (Kd.R_below (by (with_reducible repeat (first | apply Kd.R_alloc | apply Kd.R_drewN | apply Kd.R_drew)); exact HO158.out) hb)
        have n1_ := Aside0.mk (Kd.R_below (by (with_reducible repeat (first | apply Kd.R_alloc | apply Kd.R_drewN | apply Kd.R_drew)); exact HO162.out) hb)
        have n2_ := Aside0.mk (Kd.R_below (by (with_reducible repeat (first | apply Kd.R_alloc | apply Kd.R_drewN | apply Kd.R_drew)); exact HO169.out) hb)
        have n3_ := Aside0.mk (blk_below (g := gb152) (o := .cells #[.string a0_0, .string a0_1] 24 (0, 0)) (by (with_reducible repeat (first | refine blk_drewN ?_ _ | refine blk_drew ?_ | refine blk_alloc ?_ _)); exact BK152.out) hb)
        have n4_ := Aside0.mk (below_step (by repeat (first | (with_reducible first | exact HB.out | apply below_alloc | apply pw_below_drewN | apply below_drew1 | refine below_set ?_ GE152.out) | exact HB.out)) hb)
        clear HO158
        clear HO162
        clear HO169
        clear BK152
        clear HB
        have HO158 := n0_
        have HO162 := n1_
        have HO169 := n2_
        have BK152 := n3_
        have HB := n4_
        clear n0_ n1_ n2_ n3_ n4_
        (try clear hb); (try clear hb2); (try clear hk); (try clear hi)
        refine hK.out _ _ trivial (fun hHeld => ?_)
        clear hK K
        refine norm_ (a' := ?_) ?_ ?_
        rotate_left
        ·show Act.put _ (some 56) _ = _
         simp only [Act.put, List.setIfInBounds_toArray, List.set_cons_zero, List.set_cons_succ, i64_w, i32_w]
         rfl
        refine pure_ (i := 3) (N := some 57) (v := ?_) (a' := ?_) #[I_,I_,I_,I_,O_,O_,O_,O_,O_,O_,O_,O_,O_,O_,O_,O_,O_,O_,O_,O_,O_,O_,O_,O_,O_,O_,O_,O_] rfl rfl (any_of HT_.out (by kernel_rfl)) (fun _ _ _ h => h) (Or.inl ⟨by rfl, ?_⟩) ?_ ?_
        rotate_left
        ·intro w'
         go_simp
         with_reducible rfl
        rotate_left
        ·simp only [Act.put, List.setIfInBounds_toArray, List.set_cons_zero, List.set_cons_succ, i64_w, i32_w]
         rfl
        refine pure_ (i := 4) (N := some 58) (v := ?_) (a' := ?_) #[I_,I_,I_,I_,I_,O_,O_,O_,O_,O_,O_,O_,O_,O_,O_,O_,O_,O_,O_,O_,O_,O_,O_,O_,O_,O_,O_,O_] rfl rfl (any_of HT_.out (by kernel_rfl)) (fun _ _ _ h => h) (Or.inl ⟨by rfl, ?_⟩) ?_ ?_
        rotate_left
        ·intro w'
         go_simp
         with_reducible rfl
        rotate_left
        ·simp only [Act.put, List.setIfInBounds_toArray, List.set_cons_zero, List.set_cons_succ, i64_w, i32_w]
         rfl
        refine pure_ (i := 5) (N := some 59) (v := ?_) (a' := ?_) #[I_,I_,I_,I_,I_,I_,O_,O_,O_,O_,O_,O_,O_,O_,O_,O_,O_,O_,O_,O_,O_,O_,O_,O_,O_,O_,O_,O_] rfl rfl (any_of HT_.out (by kernel_rfl)) (fun _ _ _ h => h) (Or.inl ⟨by rfl, ?_⟩) ?_ ?_
        rotate_left
        ·intro w'
         go_simp
         with_reducible rfl
        rotate_left
        ·simp only [Act.put, List.setIfInBounds_toArray, List.set_cons_zero, List.set_cons_succ, i64_w, i32_w]
         rfl
        refine pure_ (i := 6) (N := some 60) (v := ?_) (a' := ?_) #[I_,I_,I_,I_,I_,I_,I_,O_,O_,O_,O_,O_,O_,O_,O_,O_,O_,O_,O_,O_,O_,O_,O_,O_,O_,O_,O_,O_] rfl rfl (any_of HT_.out (by kernel_rfl)) (fun _ _ _ h => h) (Or.inl ⟨by rfl, ?_⟩) ?_ ?_
        rotate_left
        ·intro w'
         go_simp
         with_reducible rfl
        rotate_left
        ·simp only [Act.put, List.setIfInBounds_toArray, List.set_cons_zero, List.set_cons_succ, i64_w, i32_w]
         rfl
        refine pure_ (i := 7) (N := some 61) (v := ?_) (a' := ?_) #[I_,I_,I_,I_,I_,I_,I_,I_,O_,O_,O_,O_,O_,O_,O_,O_,O_,O_,O_,O_,O_,O_,O_,O_,O_,O_,O_,O_] rfl rfl (any_of HT_.out (by kernel_rfl)) (fun _ _ _ h => h) (Or.inl ⟨by rfl, ?_⟩) ?_ ?_
        rotate_left
        ·intro w'
         go_simp
         with_reducible rfl
        rotate_left
        ·simp only [Act.put, List.setIfInBounds_toArray, List.set_cons_zero, List.set_cons_succ, i64_w, i32_w]
         rfl
        refine pure_ (i := 8) (N := some 62) (v := ?_) (a' := ?_) #[I_,I_,I_,I_,I_,I_,I_,I_,I_,O_,O_,O_,O_,O_,O_,O_,O_,O_,O_,O_,O_,O_,O_,O_,O_,O_,O_,O_] rfl rfl (any_of HT_.out (by kernel_rfl)) (fun _ _ _ h => h) (Or.inl ⟨by rfl, ?_⟩) ?_ ?_
        rotate_left
        ·intro w'
         go_simp
         with_reducible rfl
        rotate_left
        ·simp only [Act.put, List.setIfInBounds_toArray, List.set_cons_zero, List.set_cons_succ, i64_w, i32_w]
         rfl
        refine pure_ (i := 9) (N := some 63) (v := ?_) (a' := ?_) #[I_,I_,I_,I_,I_,I_,I_,I_,I_,I_,O_,O_,O_,O_,O_,O_,O_,O_,O_,O_,O_,O_,O_,O_,O_,O_,O_,O_] rfl rfl (any_of HT_.out (by kernel_rfl)) (fun _ _ _ h => h) (Or.inl ⟨by rfl, ?_⟩) ?_ ?_
        rotate_left
        ·intro w'
         go_simp
         with_reducible rfl
        rotate_left
        ·simp only [Act.put, List.setIfInBounds_toArray, List.set_cons_zero, List.set_cons_succ, i64_w, i32_w]
         rfl
        refine one_ (i := 10) (N := some 64) #[I_,I_,I_,I_,I_,I_,I_,I_,I_,I_,I_,O_,O_,O_,O_,O_,O_,O_,O_,O_,O_,O_,O_,O_,O_,O_,O_,O_] rfl rfl (one_of HT_.out (by kernel_rfl)) (by decide) (fun K hK => ?_)
        refine goes_ Tryz.func24 (by kernel_rfl) rfl #[.slice Ao66 t167.length co66] (by rfl) rfl rfl (by (try simp only [List.map_toArray, List.map_cons, List.map_nil]); try rfl) ?_
        with_reducible refine (schismaref04_Convergents.calls kj1 _ _ t167 t171 _ ?side1 ?side2 A22.out).mono ?_
        (case side1 => repeat (first | exact (Kd.R_reads' HO169.out).2.2 | (with_reducible refine Kd.C_alloc ?_ _) | (with_reducible refine Kd.C_drewN ?_ _) | (with_reducible refine Kd.C_drew ?_)))
        (case side2 => exact (Kd.R_reads' HO169.out).2.1)
        rintro e w68 ⟨v172, rfl, ho0, hb⟩
        refine ⟨_, rfl, ?_⟩
        have n0_ := Aside0.mk (Kd.R_below (by (with_reducible repeat (first | apply Kd.R_alloc | apply Kd.R_drewN | apply Kd.R_drew)); exact HO158.out) hb)
        have n1_ := Aside0.mk (Kd.R_elder' (by (with_reducible repeat (first | apply Kd.R_alloc | apply Kd.R_drewN | apply Kd.R_drew)); exact HO162.out) (Kd.R_base ho0) hb)
        have n2_ := Aside0.mk (Kd.R_below (by (with_reducible repeat (first | apply Kd.R_alloc | apply Kd.R_drewN | apply Kd.R_drew)); exact HO169.out) hb)
        have n3_ := Aside0.mk (Kd.R_lower (Kd.R_newB (Kd.R_new' ho0 (Kd.R_lt (by (with_reducible repeat (first | apply Kd.R_alloc | apply Kd.R_drewN | apply Kd.R_drew)); exact HO162.out))) (g := gb152) (o := .cells #[.string a0_0, .string a0_1] 24 (0, 0)) (by (with_reducible repeat (first | refine blk_drewN ?_ _ | refine blk_drew ?_ | refine blk_alloc ?_ _)); exact BK152.out)) (below_size (by repeat (first | (with_reducible first | exact HB.out | apply below_alloc | apply pw_below_drewN | apply below_drew1 | refine below_set ?_ GE152.out) | exact HB.out))))
        have n4_ := Aside0.mk (blk_below (g := gb152) (o := .cells #[.string a0_0, .string a0_1] 24 (0, 0)) (by (with_reducible repeat (first | refine blk_drewN ?_ _ | refine blk_drew ?_ | refine blk_alloc ?_ _)); exact BK152.out) hb)
        have n5_ := Aside0.mk (below_step (by repeat (first | (with_reducible first | exact HB.out | apply below_alloc | apply pw_below_drewN | apply below_drew1 | refine below_set ?_ GE152.out) | exact HB.out)) hb)
        clear HO158
        clear HO162
        clear HO169
        clear BK152
        clear HB
        have HO158 := n0_
        have HO162 := n1_
        have HO169 := n2_
        have HO173 := n3_
        have BK152 := n4_
        have HB := n5_
        clear n0_ n1_ n2_ n3_ n4_ n5_
        (try clear hb); (try clear hb2); (try clear hk); (try clear hi); (try clear ho0)
        obtain ⟨Ao69, co69, eo69⟩ := Kd.R_slice HO162.out
        (first | subst eo69 | (injection eo69 with f1_ f2_ f3_; have f4_ := f1_.symm; have f5_ := f3_.symm; clear f1_ f2_ f3_; subst f4_; subst f5_))
        obtain ⟨Ao70, co70, eo70⟩ := Kd.R_slice HO173.out
        (first | subst eo70 | (injection eo70 with f1_ f2_ f3_; have f4_ := f1_.symm; have f5_ := f3_.symm; clear f1_ f2_ f3_; subst f4_; subst f5_))
        refine hK.out _ _ trivial (fun hHeld => ?_)
        clear hK K
        refine norm_ (a' := ?_) ?_ ?_
        rotate_left
        ·show Act.put _ (some 64) _ = _
         simp only [Act.put, List.setIfInBounds_toArray, List.set_cons_zero, List.set_cons_succ, i64_w, i32_w]
         rfl
        refine one_ (i := 11) (N := some 65) #[I_,I_,I_,I_,I_,I_,I_,I_,I_,I_,I_,I_,O_,O_,O_,O_,O_,O_,O_,O_,O_,O_,O_,O_,O_,O_,O_,O_] rfl rfl (one_of HT_.out (by kernel_rfl)) (by decide) (fun K hK => ?_)
        refine goes_ Tryz.func23 (by kernel_rfl) rfl #[.slice Ao69 t160.length co69, .slice Ao70 t171.length co70] (by rfl) rfl rfl (by (try simp only [List.map_toArray, List.map_cons, List.map_nil]); try rfl) ?_
        with_reducible refine (schismalaw04_same.calls kj1 _ _ t160 _ _ t171 false _ ?side1 ?side2 ?side3 ?side4 A23.out).mono ?_
        (case side1 => repeat (first | exact (Kd.R_reads' HO162.out).2.2 | (with_reducible refine Kd.C_alloc ?_ _) | (with_reducible refine Kd.C_drewN ?_ _) | (with_reducible refine Kd.C_drew ?_)))
        (case side2 => exact (Kd.R_reads' HO162.out).2.1)
        (case side3 => repeat (first | exact (Kd.R_reads' HO173.out).2.2 | (with_reducible refine Kd.C_alloc ?_ _) | (with_reducible refine Kd.C_drewN ?_ _) | (with_reducible refine Kd.C_drew ?_)))
        (case side4 => exact (Kd.R_reads' HO173.out).2.1)
        rintro e w' ⟨rfl, ⟨nd, rfl⟩⟩
        refine ⟨_, rfl, ?_⟩
        refine hK.out _ _ trivial (fun hHeld => ?_)
        clear hK K
        refine norm_ (a' := ?_) ?_ ?_
        rotate_left
        ·show Act.put _ (some 65) _ = _
         simp only [Act.put, List.setIfInBounds_toArray, List.set_cons_zero, List.set_cons_succ, i64_w, i32_w]
         rfl
        refine pure_ (i := 12) (N := some 66) (v := ?_) (a' := ?_) #[I_,I_,I_,I_,I_,I_,I_,I_,I_,I_,I_,I_,I_,O_,O_,O_,O_,O_,O_,O_,O_,O_,O_,O_,O_,O_,O_,O_] rfl rfl (any_of HT_.out (by kernel_rfl)) (fun _ _ _ h => h) (Or.inl ⟨by rfl, ?_⟩) ?_ ?_
        rotate_left
        ·intro w'
         go_simp
         with_reducible rfl
        rotate_left
        ·simp only [Act.put, List.setIfInBounds_toArray, List.set_cons_zero, List.set_cons_succ, i64_w, i32_w]
         rfl
        refine pure_ (i := 13) (N := some 67) (v := ?_) (a' := ?_) #[I_,I_,I_,I_,I_,I_,I_,I_,I_,I_,I_,I_,I_,I_,O_,O_,O_,O_,O_,O_,O_,O_,O_,O_,O_,O_,O_,O_] rfl rfl (any_of HT_.out (by kernel_rfl)) (fun _ _ _ h => h) (Or.inl ⟨by rfl, ?_⟩) ?_ ?_
        rotate_left
        ·intro w'
         go_simp
         with_reducible rfl
        rotate_left
        ·simp only [Act.put, List.setIfInBounds_toArray, List.set_cons_zero, List.set_cons_succ, i64_w, i32_w]
         rfl
        refine pure_ (i := 14) (N := some 68) (v := undef) (a' := ?_) #[I_,I_,I_,I_,I_,I_,I_,I_,I_,I_,I_,I_,I_,I_,I_,O_,O_,O_,O_,O_,O_,O_,O_,O_,O_,O_,O_,O_] rfl rfl (any_of HT_.out (by kernel_rfl)) (fun _ _ _ h => h) (Or.inr ⟨by rfl, rfl⟩) ?_ ?_
        rotate_left
        ·simp only [Act.put, List.setIfInBounds_toArray, List.set_cons_zero, List.set_cons_succ, i64_w, i32_w]
         rfl
        refine pure_ (i := 15) (N := some 69) (v := undef) (a' := ?_) #[I_,I_,I_,I_,I_,I_,I_,I_,I_,I_,I_,I_,I_,I_,I_,I_,O_,O_,O_,O_,O_,O_,O_,O_,O_,O_,O_,O_] rfl rfl (any_of HT_.out (by kernel_rfl)) (fun _ _ _ h => h) (Or.inr ⟨by rfl, rfl⟩) ?_ ?_
        rotate_left
        ·simp only [Act.put, List.setIfInBounds_toArray, List.set_cons_zero, List.set_cons_succ, i64_w, i32_w]
         rfl
        refine pure_ (i := 16) (N := some 70) (v := ?_) (a' := ?_) #[I_,I_,I_,I_,I_,I_,I_,I_,I_,I_,I_,I_,I_,I_,I_,I_,I_,O_,O_,O_,O_,O_,O_,O_,O_,O_,O_,O_] rfl rfl (any_of HT_.out (by kernel_rfl)) (fun _ _ _ h => h) (Or.inl ⟨by rfl, ?_⟩) ?_ ?_
        rotate_left
        ·intro w'
         go_simp
         with_reducible rfl
        rotate_left
        ·simp only [Act.put, List.setIfInBounds_toArray, List.set_cons_zero, List.set_cons_succ, i64_w, i32_w]
         rfl
        refine pure_ (i := 17) (N := some 71) (v := ?_) (a' := ?_) #[I_,I_,I_,I_,I_,I_,I_,I_,I_,I_,I_,I_,I_,I_,I_,I_,I_,I_,O_,O_,O_,O_,O_,O_,O_,O_,O_,O_] rfl rfl (any_of HT_.out (by kernel_rfl)) (fun _ _ _ h => h) (Or.inl ⟨by rfl, ?_⟩) ?_ ?_
        rotate_left
        ·intro w'
         go_simp
         with_reducible rfl
        rotate_left
        ·simp only [Act.put, List.setIfInBounds_toArray, List.set_cons_zero, List.set_cons_succ, i64_w, i32_w]
         rfl
        refine pure_ (i := 18) (N := some 72) (v := undef) (a' := ?_) #[I_,I_,I_,I_,I_,I_,I_,I_,I_,I_,I_,I_,I_,I_,I_,I_,I_,I_,I_,O_,O_,O_,O_,O_,O_,O_,O_,O_] rfl rfl (any_of HT_.out (by kernel_rfl)) (fun _ _ _ h => h) (Or.inr ⟨by rfl, rfl⟩) ?_ ?_
        rotate_left
        ·simp only [Act.put, List.setIfInBounds_toArray, List.set_cons_zero, List.set_cons_succ, i64_w, i32_w]
         rfl
        refine pure_ (i := 19) (N := some 73) (v := undef) (a' := ?_) #[I_,I_,I_,I_,I_,I_,I_,I_,I_,I_,I_,I_,I_,I_,I_,I_,I_,I_,I_,I_,O_,O_,O_,O_,O_,O_,O_,O_] rfl rfl (any_of HT_.out (by kernel_rfl)) (fun _ _ _ h => h) (Or.inr ⟨by rfl, rfl⟩) ?_ ?_
        rotate_left
        ·simp only [Act.put, List.setIfInBounds_toArray, List.set_cons_zero, List.set_cons_succ, i64_w, i32_w]
         rfl
        refine pure_ (i := 20) (N := some 74) (v := undef) (a' := ?_) #[I_,I_,I_,I_,I_,I_,I_,I_,I_,I_,I_,I_,I_,I_,I_,I_,I_,I_,I_,I_,I_,O_,O_,O_,O_,O_,O_,O_] rfl rfl (any_of HT_.out (by kernel_rfl)) (fun _ _ _ h => h) (Or.inr ⟨by rfl, rfl⟩) ?_ ?_
        rotate_left
        ·simp only [Act.put, List.setIfInBounds_toArray, List.set_cons_zero, List.set_cons_succ, i64_w, i32_w]
         rfl
        refine pure_ (i := 21) (N := some 75) (v := undef) (a' := ?_) #[I_,I_,I_,I_,I_,I_,I_,I_,I_,I_,I_,I_,I_,I_,I_,I_,I_,I_,I_,I_,I_,I_,O_,O_,O_,O_,O_,O_] rfl rfl (any_of HT_.out (by kernel_rfl)) (fun _ _ _ h => h) (Or.inr ⟨by rfl, rfl⟩) ?_ ?_
        rotate_left
        ·simp only [Act.put, List.setIfInBounds_toArray, List.set_cons_zero, List.set_cons_succ, i64_w, i32_w]
         rfl
        refine pure_ (i := 22) (N := some 76) (v := undef) (a' := ?_) #[I_,I_,I_,I_,I_,I_,I_,I_,I_,I_,I_,I_,I_,I_,I_,I_,I_,I_,I_,I_,I_,I_,I_,O_,O_,O_,O_,O_] rfl rfl (any_of HT_.out (by kernel_rfl)) (fun _ _ _ h => h) (Or.inr ⟨by rfl, rfl⟩) ?_ ?_
        rotate_left
        ·simp only [Act.put, List.setIfInBounds_toArray, List.set_cons_zero, List.set_cons_succ, i64_w, i32_w]
         rfl
        refine pure_ (i := 23) (N := some 77) (v := undef) (a' := ?_) #[I_,I_,I_,I_,I_,I_,I_,I_,I_,I_,I_,I_,I_,I_,I_,I_,I_,I_,I_,I_,I_,I_,I_,I_,O_,O_,O_,O_] rfl rfl (any_of HT_.out (by kernel_rfl)) (fun _ _ _ h => h) (Or.inr ⟨by rfl, rfl⟩) ?_ ?_
        rotate_left
        ·simp only [Act.put, List.setIfInBounds_toArray, List.set_cons_zero, List.set_cons_succ, i64_w, i32_w]
         rfl
        refine pure_ (i := 24) (N := some 78) (v := undef) (a' := ?_) #[I_,I_,I_,I_,I_,I_,I_,I_,I_,I_,I_,I_,I_,I_,I_,I_,I_,I_,I_,I_,I_,I_,I_,I_,I_,O_,O_,O_] rfl rfl (any_of HT_.out (by kernel_rfl)) (fun _ _ _ h => h) (Or.inr ⟨by rfl, rfl⟩) ?_ ?_
        rotate_left
        ·simp only [Act.put, List.setIfInBounds_toArray, List.set_cons_zero, List.set_cons_succ, i64_w, i32_w]
         rfl
        refine pure_ (i := 25) (N := some 79) (v := undef) (a' := ?_) #[I_,I_,I_,I_,I_,I_,I_,I_,I_,I_,I_,I_,I_,I_,I_,I_,I_,I_,I_,I_,I_,I_,I_,I_,I_,I_,O_,O_] rfl rfl (any_of HT_.out (by kernel_rfl)) (fun _ _ _ h => h) (Or.inr ⟨by rfl, rfl⟩) ?_ ?_
        rotate_left
        ·simp only [Act.put, List.setIfInBounds_toArray, List.set_cons_zero, List.set_cons_succ, i64_w, i32_w]
         rfl
        refine pure_ (i := 26) (N := some 80) (v := ?_) (a' := ?_) #[I_,I_,I_,I_,I_,I_,I_,I_,I_,I_,I_,I_,I_,I_,I_,I_,I_,I_,I_,I_,I_,I_,I_,I_,I_,I_,I_,O_] rfl rfl (any_of HT_.out (by kernel_rfl)) (fun _ _ _ h => h) (Or.inl ⟨by rfl, ?_⟩) ?_ ?_
        rotate_left
        ·intro w'
         go_simp
         with_reducible rfl
        rotate_left
        ·simp only [Act.put, List.setIfInBounds_toArray, List.set_cons_zero, List.set_cons_succ, i64_w, i32_w]
         rfl
        refine pure_ (i := 27) (N := some 2) (v := ?_) (a' := ?_) #[I_,I_,I_,I_,I_,I_,I_,I_,I_,I_,I_,I_,I_,I_,I_,I_,I_,I_,I_,I_,I_,I_,I_,I_,I_,I_,I_,I_] rfl rfl (any_of HT_.out (by kernel_rfl)) (fun _ _ _ h => h) (Or.inl ⟨by rfl, ?_⟩) ?_ ?_
        rotate_left
        ·intro w'
         go_simp
         with_reducible rfl
        rotate_left
        ·simp only [Act.put, List.setIfInBounds_toArray, List.set_cons_zero, List.set_cons_succ, i64_w, i32_w]
         rfl
        refine done_ (done_of HT_.out (by kernel_rfl)) ?_
        try go_wp2
        go_ret
        exact ⟨by first | rfl | (simp [*, errW_none, errW_some] <;> rfl), by repeat (first | (with_reducible first | exact HB.out | apply below_alloc | apply pw_below_drewN | apply below_drew1 | refine below_set ?_ GE152.out) | exact HB.out)⟩
      ·rw [if_neg c21] at H
       have c21b0 : (t159 == 0) = false := beq_eq_false_iff_ne.mpr c21
       have c21b1 : (t159 != 0) = true := bne_iff_ne.mpr c21
       obtain rfl := Option.some.inj H
       have hcz71_0 : wc.cell? ⟨gb152, 0, none⟩ = some (.string a0_0) := (blk_cell BK152.out 0).trans rfl
       have hcz71_1 : wc.cell? ⟨gb152, 1, none⟩ = some (.string a0_1) := (blk_cell BK152.out 1).trans rfl
       have hfz71_0 := blk_frozen BK152.out 0
       have hfz71_1 := blk_frozen BK152.out 1
       try go_wp2_with (first | ((with_reducible refine gate_callee (f := 19) rfl ?_); refine goesL_ (some 21) rfl rfl Tryz.func19 (by kernel_rfl) rfl #[.agg #[.string a0_0, .string a0_1]] rfl (by (try simp only [List.map_toArray, List.map_cons, List.map_nil]); try rfl) ?_; (with_reducible refine (convergent_Terms.calls kj1 a0_0 a0_1 t156 t159 _ ?side1 A14.out).mono ?_); (case side1 => exact GWorld.below HG.out (by repeat (first | (with_reducible first | exact HB.out | apply below_alloc | apply pw_below_drewN | apply below_drew1 | refine below_set ?_ GE152.out) | exact HB.out))); rintro e w72 ⟨v157, rfl, ho0, hb⟩; refine ⟨_, rfl, ?_⟩; have n0_ := Aside0.mk (Kd.R_lower ho0 (below_size (by repeat (first | (with_reducible first | exact HB.out | apply below_alloc | apply pw_below_drewN | apply below_drew1 | refine below_set ?_ GE152.out) | exact HB.out)))); have n1_ := Aside0.mk (blk_below (g := gb152) (o := .cells #[.string a0_0, .string a0_1] 24 (0, 0)) (by (with_reducible repeat (first | refine blk_drewN ?_ _ | refine blk_drew ?_ | refine blk_alloc ?_ _)); exact BK152.out) hb); have n2_ := Aside0.mk (below_step (by repeat (first | (with_reducible first | exact HB.out | apply below_alloc | apply pw_below_drewN | apply below_drew1 | refine below_set ?_ GE152.out) | exact HB.out)) hb); clear BK152; clear HB; have HO158 := n0_; have BK152 := n1_; have HB := n2_; clear n0_ n1_ n2_; (try clear hb); (try clear hb2); (try clear hk); (try clear hi); (try clear ho0); have hcz73_0 : w72.cell? ⟨gb152, 0, none⟩ = some (.string a0_0) := (blk_cell BK152.out 0).trans rfl; have hcz73_1 : w72.cell? ⟨gb152, 1, none⟩ = some (.string a0_1) := (blk_cell BK152.out 1).trans rfl; have hfz73_0 := blk_frozen BK152.out 0; have hfz73_1 := blk_frozen BK152.out 1) | ((with_reducible refine gate_callee (f := 20) rfl ?_); refine goesL_ (some 26) rfl rfl Tryz.func20 (by kernel_rfl) rfl #[.agg #[.string a0_0, .string a0_1]] rfl (by (try simp only [List.map_toArray, List.map_cons, List.map_nil]); try rfl) ?_; (with_reducible refine (convergent_Convergents.calls kj1 a0_0 a0_1 t160 t163 _ ?side1 A15.out).mono ?_); (case side1 => exact GWorld.below HG.out (by repeat (first | (with_reducible first | exact HB.out | apply below_alloc | apply pw_below_drewN | apply below_drew1 | refine below_set ?_ GE152.out) | exact HB.out))); rintro e w74 ⟨v161, rfl, ho0, hb⟩; refine ⟨_, rfl, ?_⟩; have n0_ := Aside0.mk (Kd.R_below (by (with_reducible repeat (first | apply Kd.R_alloc | apply Kd.R_drewN | apply Kd.R_drew)); exact HO158.out) hb); have n1_ := Aside0.mk (Kd.R_lower (Kd.R_newB ho0 (g := gb152) (o := .cells #[.string a0_0, .string a0_1] 24 (0, 0)) (by (with_reducible repeat (first | refine blk_drewN ?_ _ | refine blk_drew ?_ | refine blk_alloc ?_ _)); exact BK152.out)) (below_size (by repeat (first | (with_reducible first | exact HB.out | apply below_alloc | apply pw_below_drewN | apply below_drew1 | refine below_set ?_ GE152.out) | exact HB.out)))); have n2_ := Aside0.mk (blk_below (g := gb152) (o := .cells #[.string a0_0, .string a0_1] 24 (0, 0)) (by (with_reducible repeat (first | refine blk_drewN ?_ _ | refine blk_drew ?_ | refine blk_alloc ?_ _)); exact BK152.out) hb); have n3_ := Aside0.mk (below_step (by repeat (first | (with_reducible first | exact HB.out | apply below_alloc | apply pw_below_drewN | apply below_drew1 | refine below_set ?_ GE152.out) | exact HB.out)) hb); clear HO158; clear BK152; clear HB; have HO158 := n0_; have HO162 := n1_; have BK152 := n2_; have HB := n3_; clear n0_ n1_ n2_ n3_; (try clear hb); (try clear hb2); (try clear hk); (try clear hi); (try clear ho0); have hcz75_0 : w74.cell? ⟨gb152, 0, none⟩ = some (.string a0_0) := (blk_cell BK152.out 0).trans rfl; have hcz75_1 : w74.cell? ⟨gb152, 1, none⟩ = some (.string a0_1) := (blk_cell BK152.out 1).trans rfl; have hfz75_0 := blk_frozen BK152.out 0; have hfz75_1 := blk_frozen BK152.out 1) | ((with_reducible refine gate_callee (f := 15) rfl ?_); refine goesL_ (some 31) rfl rfl Tryz.func15 (by kernel_rfl) rfl #[.agg #[.string a0_0, .string a0_1]] rfl (by (try simp only [List.map_toArray, List.map_cons, List.map_nil]); try rfl) ?_; (with_reducible refine (schismaref04_Parts.calls kj1 a0_0 a0_1 t164 t165 true _ A16.out).mono ?_); rintro e w76 ⟨rfl, hb⟩; refine ⟨_, rfl, ?_⟩; have n0_ := Aside0.mk (Kd.R_below (by (with_reducible repeat (first | apply Kd.R_alloc | apply Kd.R_drewN | apply Kd.R_drew)); exact HO158.out) hb); have n1_ := Aside0.mk (Kd.R_below (by (with_reducible repeat (first | apply Kd.R_alloc | apply Kd.R_drewN | apply Kd.R_drew)); exact HO162.out) hb); have n2_ := Aside0.mk (blk_below (g := gb152) (o := .cells #[.string a0_0, .string a0_1] 24 (0, 0)) (by (with_reducible repeat (first | refine blk_drewN ?_ _ | refine blk_drew ?_ | refine blk_alloc ?_ _)); exact BK152.out) hb); have n3_ := Aside0.mk (below_step (by repeat (first | (with_reducible first | exact HB.out | apply below_alloc | apply pw_below_drewN | apply below_drew1 | refine below_set ?_ GE152.out) | exact HB.out)) hb); clear HO158; clear HO162; clear BK152; clear HB; have HO158 := n0_; have HO162 := n1_; have BK152 := n2_; have HB := n3_; clear n0_ n1_ n2_ n3_; (try clear hb); (try clear hb2); (try clear hk); (try clear hi)) | ((with_reducible refine gate_callee (f := 21) rfl ?_); refine goesL_ (some 53) rfl rfl Tryz.func21 (by kernel_rfl) rfl #[.int .i64 t164, .int .i64 t165] rfl (by (try simp only [List.map_toArray, List.map_cons, List.map_nil]); try rfl) ?_; (with_reducible refine (schismaref04_Terms.calls kj1 t164 t165 t167 _ A18.out).mono ?_); rintro e w77 ⟨v168, rfl, ho0, hb⟩; refine ⟨_, rfl, ?_⟩; have n0_ := Aside0.mk (Kd.R_below (by (with_reducible repeat (first | apply Kd.R_alloc | apply Kd.R_drewN | apply Kd.R_drew)); exact HO158.out) hb); have n1_ := Aside0.mk (Kd.R_below (by (with_reducible repeat (first | apply Kd.R_alloc | apply Kd.R_drewN | apply Kd.R_drew)); exact HO162.out) hb); have n2_ := Aside0.mk (Kd.R_lower ho0 (below_size (by repeat (first | (with_reducible first | exact HB.out | apply below_alloc | apply pw_below_drewN | apply below_drew1 | refine below_set ?_ GE152.out) | exact HB.out)))); have n3_ := Aside0.mk (blk_below (g := gb152) (o := .cells #[.string a0_0, .string a0_1] 24 (0, 0)) (by (with_reducible repeat (first | refine blk_drewN ?_ _ | refine blk_drew ?_ | refine blk_alloc ?_ _)); exact BK152.out) hb); have n4_ := Aside0.mk (below_step (by repeat (first | (with_reducible first | exact HB.out | apply below_alloc | apply pw_below_drewN | apply below_drew1 | refine below_set ?_ GE152.out) | exact HB.out)) hb); clear HO158; clear HO162; clear BK152; clear HB; have HO158 := n0_; have HO162 := n1_; have HO169 := n2_; have BK152 := n3_; have HB := n4_; clear n0_ n1_ n2_ n3_ n4_; (try clear hb); (try clear hb2); (try clear hk); (try clear hi); (try clear ho0)))
       have n0_ := Aside0.mk (Kd.R_drew HO158.out)
       have n1_ := Aside0.mk (Kd.R_drew HO162.out)
       have n2_ := Aside0.mk (Kd.R_drew HO169.out)
       have n3_ := Aside0.mk (blk_drew BK152.out)
       have n4_ := Aside0.mk (below_drew1 HB.out)
       clear HO158
       clear HO162
       clear HO169
       clear BK152
       clear HB
       have HO158 := n0_
       have HO162 := n1_
       have HO169 := n2_
       have BK152 := n3_
       have HB := n4_
       clear n0_ n1_ n2_ n3_ n4_
       obtain ⟨Ao79, co79, eo79⟩ := Kd.R_slice HO158.out
       (first | subst eo79 | (injection eo79 with f1_ f2_ f3_; have f4_ := f1_.symm; have f5_ := f3_.symm; clear f1_ f2_ f3_; subst f4_; subst f5_))
       obtain ⟨Ao80, co80, eo80⟩ := Kd.R_slice HO169.out
       (first | subst eo80 | (injection eo80 with f1_ f2_ f3_; have f4_ := f1_.symm; have f5_ := f3_.symm; clear f1_ f2_ f3_; subst f4_; subst f5_))
       refine start_ (n := 28) (S := fun w' => True) (ds := []) #[O_,O_,O_,O_,O_,O_,O_,O_,O_,O_,O_,O_,O_,O_,O_,O_,O_,O_,O_,O_,O_,O_,O_,O_,O_,O_,O_,O_] (by kernel_rfl) rfl rfl trivial (fun hHeld => ?_); refine with_tabW schismalaw04_ConvergentTerms.tab9 schismalaw04_ConvergentTerms.bits9 (fun HT_ HW_ => ?_)
       generalize w77.drew = w78 at HO158 HO162 HO169 BK152 HB hHeld ⊢
       refine pure_ (i := 0) (N := some 54) (v := ?_) (a' := ?_) #[I_,O_,O_,O_,O_,O_,O_,O_,O_,O_,O_,O_,O_,O_,O_,O_,O_,O_,O_,O_,O_,O_,O_,O_,O_,O_,O_,O_] rfl rfl (any_of HT_.out (by kernel_rfl)) (fun _ _ _ h => h) (Or.inl ⟨by rfl, ?_⟩) ?_ ?_
       rotate_left
       ·intro w'
        go_simp
        with_reducible rfl
       rotate_left
       ·simp only [Act.put, List.setIfInBounds_toArray, List.set_cons_zero, List.set_cons_succ, i64_w, i32_w]
        rfl
       refine pure_ (i := 1) (N := some 55) (v := ?_) (a' := ?_) #[I_,I_,O_,O_,O_,O_,O_,O_,O_,O_,O_,O_,O_,O_,O_,O_,O_,O_,O_,O_,O_,O_,O_,O_,O_,O_,O_,O_] rfl rfl (any_of HT_.out (by kernel_rfl)) (fun _ _ _ h => h) (Or.inl ⟨by rfl, ?_⟩) ?_ ?_
       rotate_left
       ·intro w'
        go_simp
        with_reducible rfl
       rotate_left
       ·simp only [Act.put, List.setIfInBounds_toArray, List.set_cons_zero, List.set_cons_succ, i64_w, i32_w]
        rfl
       refine one_ (i := 2) (N := some 56) #[I_,I_,I_,O_,O_,O_,O_,O_,O_,O_,O_,O_,O_,O_,O_,O_,O_,O_,O_,O_,O_,O_,O_,O_,O_,O_,O_,O_] rfl rfl (one_of HT_.out (by kernel_rfl)) (by decide) (fun K hK => ?_)
       refine goes_ Tryz.func22 (by kernel_rfl) rfl #[.slice Ao79 t156.length co79, .slice Ao80 t167.length co80] (by rfl) rfl rfl (by (try simp only [List.map_toArray, List.map_cons, List.map_nil]); try rfl) ?_
       with_reducible refine (schismalaw04_ints.calls kj1 _ _ t156 _ _ t167 true _ ?side1 ?side2 ?side3 ?side4 A19.out).mono ?_
       (case side1 => repeat (first | exact (Kd.R_reads' HO158.out).2.2 | (with_reducible refine Kd.C_alloc ?_ _) | (with_reducible refine Kd.C_drewN ?_ _) | (with_reducible refine Kd.C_drew ?_)))
       (case side2 => exact (Kd.R_reads' HO158.out).2.1)
       (case side3 => repeat (first | exact (Kd.R_reads' HO169.out).2.2 | (with_reducible refine Kd.C_alloc ?_ _) | (with_reducible refine Kd.C_drewN ?_ _) | (with_reducible refine Kd.C_drew ?_)))
       (case side4 => exact (Kd.R_reads' HO169.out).2.1)
       rintro e w81 ⟨rfl, hb⟩
       refine ⟨_, rfl, ?_⟩
       have n0_ := Aside0.mk (Kd.R_below (by (with_reducible repeat (first | apply Kd.R_alloc | apply Kd.R_drewN | apply Kd.R_drew)); exact HO158.out) hb)
       have n1_ := Aside0.mk (Kd.R_below (by (with_reducible repeat (first | apply Kd.R_alloc | apply Kd.R_drewN | apply Kd.R_drew)); exact HO162.out) hb)
       have n2_ := Aside0.mk (Kd.R_below (by (with_reducible repeat (first | apply Kd.R_alloc | apply Kd.R_drewN | apply Kd.R_drew)); exact HO169.out) hb)
       have n3_ := Aside0.mk (blk_below (g := gb152) (o := .cells #[.string a0_0, .string a0_1] 24 (0, 0)) (by (with_reducible repeat (first | refine blk_drewN ?_ _ | refine blk_drew ?_ | refine blk_alloc ?_ _)); exact BK152.out) hb)
       have n4_ := Aside0.mk (below_step (by repeat (first | (with_reducible first | exact HB.out | apply below_alloc | apply pw_below_drewN | apply below_drew1 | refine below_set ?_ GE152.out) | exact HB.out)) hb)
       clear HO158
       clear HO162
       clear HO169
       clear BK152
       clear HB
       have HO158 := n0_
       have HO162 := n1_
       have HO169 := n2_
       have BK152 := n3_
       have HB := n4_
       clear n0_ n1_ n2_ n3_ n4_
       (try clear hb); (try clear hb2); (try clear hk); (try clear hi)
       refine hK.out _ _ trivial (fun hHeld => ?_)
       clear hK K
       refine norm_ (a' := ?_) ?_ ?_
       rotate_left
       ·show Act.put _ (some 56) _ = _
        simp only [Act.put, List.setIfInBounds_toArray, List.set_cons_zero, List.set_cons_succ, i64_w, i32_w]
        rfl
       refine pure_ (i := 3) (N := some 57) (v := ?_) (a' := ?_) #[I_,I_,I_,I_,O_,O_,O_,O_,O_,O_,O_,O_,O_,O_,O_,O_,O_,O_,O_,O_,O_,O_,O_,O_,O_,O_,O_,O_] rfl rfl (any_of HT_.out (by kernel_rfl)) (fun _ _ _ h => h) (Or.inl ⟨by rfl, ?_⟩) ?_ ?_
       rotate_left
       ·intro w'
        go_simp
        with_reducible rfl
       rotate_left
       ·simp only [Act.put, List.setIfInBounds_toArray, List.set_cons_zero, List.set_cons_succ, i64_w, i32_w]
        rfl
       refine pure_ (i := 4) (N := some 58) (v := ?_) (a' := ?_) #[I_,I_,I_,I_,I_,O_,O_,O_,O_,O_,O_,O_,O_,O_,O_,O_,O_,O_,O_,O_,O_,O_,O_,O_,O_,O_,O_,O_] rfl rfl (any_of HT_.out (by kernel_rfl)) (fun _ _ _ h => h) (Or.inl ⟨by rfl, ?_⟩) ?_ ?_
       rotate_left
       ·intro w'
        go_simp
        with_reducible rfl
       rotate_left
       ·simp only [Act.put, List.setIfInBounds_toArray, List.set_cons_zero, List.set_cons_succ, i64_w, i32_w]
        rfl
       refine pure_ (i := 5) (N := some 59) (v := ?_) (a' := ?_) #[I_,I_,I_,I_,I_,I_,O_,O_,O_,O_,O_,O_,O_,O_,O_,O_,O_,O_,O_,O_,O_,O_,O_,O_,O_,O_,O_,O_] rfl rfl (any_of HT_.out (by kernel_rfl)) (fun _ _ _ h => h) (Or.inl ⟨by rfl, ?_⟩) ?_ ?_
       rotate_left
       ·intro w'
        go_simp
        with_reducible rfl
       rotate_left
       ·simp only [Act.put, List.setIfInBounds_toArray, List.set_cons_zero, List.set_cons_succ, i64_w, i32_w]
        rfl
       refine pure_ (i := 6) (N := some 60) (v := ?_) (a' := ?_) #[I_,I_,I_,I_,I_,I_,I_,O_,O_,O_,O_,O_,O_,O_,O_,O_,O_,O_,O_,O_,O_,O_,O_,O_,O_,O_,O_,O_] rfl rfl (any_of HT_.out (by kernel_rfl)) (fun _ _ _ h => h) (Or.inl ⟨by rfl, ?_⟩) ?_ ?_
       rotate_left
       ·intro w'
        go_simp
        with_reducible rfl
       rotate_left
       ·simp only [Act.put, List.setIfInBounds_toArray, List.set_cons_zero, List.set_cons_succ, i64_w, i32_w]
        rfl
       refine pure_ (i := 7) (N := some 61) (v := ?_) (a' := ?_) #[I_,I_,I_,I_,I_,I_,I_,I_,O_,O_,O_,O_,O_,O_,O_,O_,O_,O_,O_,O_,O_,O_,O_,O_,O_,O_,O_,O_] rfl rfl (any_of HT_.out (by kernel_rfl)) (fun _ _ _ h => h) (Or.inl ⟨by rfl, ?_⟩) ?_ ?_
       rotate_left
       ·intro w'
        go_simp
        with_reducible rfl
       rotate_left
       ·simp only [Act.put, List.setIfInBounds_toArray, List.set_cons_zero, List.set_cons_succ, i64_w, i32_w]
        rfl
       refine pure_ (i := 8) (N := some 62) (v := undef) (a' := ?_) #[I_,I_,I_,I_,I_,I_,I_,I_,I_,O_,O_,O_,O_,O_,O_,O_,O_,O_,O_,O_,O_,O_,O_,O_,O_,O_,O_,O_] rfl rfl (any_of HT_.out (by kernel_rfl)) (fun _ _ _ h => h) (Or.inr ⟨by rfl, rfl⟩) ?_ ?_
       rotate_left
       ·simp only [Act.put, List.setIfInBounds_toArray, List.set_cons_zero, List.set_cons_succ, i64_w, i32_w]
        rfl
       refine pure_ (i := 9) (N := some 63) (v := undef) (a' := ?_) #[I_,I_,I_,I_,I_,I_,I_,I_,I_,I_,O_,O_,O_,O_,O_,O_,O_,O_,O_,O_,O_,O_,O_,O_,O_,O_,O_,O_] rfl rfl (any_of HT_.out (by kernel_rfl)) (fun _ _ _ h => h) (Or.inr ⟨by rfl, rfl⟩) ?_ ?_
       rotate_left
       ·simp only [Act.put, List.setIfInBounds_toArray, List.set_cons_zero, List.set_cons_succ, i64_w, i32_w]
        rfl
       refine pure_ (i := 10) (N := some 64) (v := undef) (a' := ?_) #[I_,I_,I_,I_,I_,I_,I_,I_,I_,I_,I_,O_,O_,O_,O_,O_,O_,O_,O_,O_,O_,O_,O_,O_,O_,O_,O_,O_] rfl rfl (any_of HT_.out (by kernel_rfl)) (fun _ _ _ h => h) (Or.inr ⟨by rfl, rfl⟩) ?_ ?_
       rotate_left
       ·simp only [Act.put, List.setIfInBounds_toArray, List.set_cons_zero, List.set_cons_succ, i64_w, i32_w]
        rfl
       refine pure_ (i := 11) (N := some 65) (v := undef) (a' := ?_) #[I_,I_,I_,I_,I_,I_,I_,I_,I_,I_,I_,I_,O_,O_,O_,O_,O_,O_,O_,O_,O_,O_,O_,O_,O_,O_,O_,O_] rfl rfl (any_of HT_.out (by kernel_rfl)) (fun _ _ _ h => h) (Or.inr ⟨by rfl, rfl⟩) ?_ ?_
       rotate_left
       ·simp only [Act.put, List.setIfInBounds_toArray, List.set_cons_zero, List.set_cons_succ, i64_w, i32_w]
        rfl
       refine pure_ (i := 12) (N := some 66) (v := ?_) (a' := ?_) #[I_,I_,I_,I_,I_,I_,I_,I_,I_,I_,I_,I_,I_,O_,O_,O_,O_,O_,O_,O_,O_,O_,O_,O_,O_,O_,O_,O_] rfl rfl (any_of HT_.out (by kernel_rfl)) (fun _ _ _ h => h) (Or.inl ⟨by rfl, ?_⟩) ?_ ?_
       rotate_left
       ·intro w'
        go_simp
        with_reducible rfl
       rotate_left
       ·simp only [Act.put, List.setIfInBounds_toArray, List.set_cons_zero, List.set_cons_succ, i64_w, i32_w]
        rfl
       refine pure_ (i := 13) (N := some 67) (v := ?_) (a' := ?_) #[I_,I_,I_,I_,I_,I_,I_,I_,I_,I_,I_,I_,I_,I_,O_,O_,O_,O_,O_,O_,O_,O_,O_,O_,O_,O_,O_,O_] rfl rfl (any_of HT_.out (by kernel_rfl)) (fun _ _ _ h => h) (Or.inl ⟨by rfl, ?_⟩) ?_ ?_
       rotate_left
       ·intro w'
        go_simp
        with_reducible rfl
       rotate_left
       ·simp only [Act.put, List.setIfInBounds_toArray, List.set_cons_zero, List.set_cons_succ, i64_w, i32_w]
        rfl
       refine pure_ (i := 14) (N := some 68) (v := undef) (a' := ?_) #[I_,I_,I_,I_,I_,I_,I_,I_,I_,I_,I_,I_,I_,I_,I_,O_,O_,O_,O_,O_,O_,O_,O_,O_,O_,O_,O_,O_] rfl rfl (any_of HT_.out (by kernel_rfl)) (fun _ _ _ h => h) (Or.inr ⟨by rfl, rfl⟩) ?_ ?_
       rotate_left
       ·simp only [Act.put, List.setIfInBounds_toArray, List.set_cons_zero, List.set_cons_succ, i64_w, i32_w]
        rfl
       refine pure_ (i := 15) (N := some 69) (v := undef) (a' := ?_) #[I_,I_,I_,I_,I_,I_,I_,I_,I_,I_,I_,I_,I_,I_,I_,I_,O_,O_,O_,O_,O_,O_,O_,O_,O_,O_,O_,O_] rfl rfl (any_of HT_.out (by kernel_rfl)) (fun _ _ _ h => h) (Or.inr ⟨by rfl, rfl⟩) ?_ ?_
       rotate_left
       ·simp only [Act.put, List.setIfInBounds_toArray, List.set_cons_zero, List.set_cons_succ, i64_w, i32_w]
        rfl
       refine pure_ (i := 16) (N := some 70) (v := ?_) (a' := ?_) #[I_,I_,I_,I_,I_,I_,I_,I_,I_,I_,I_,I_,I_,I_,I_,I_,I_,O_,O_,O_,O_,O_,O_,O_,O_,O_,O_,O_] rfl rfl (any_of HT_.out (by kernel_rfl)) (fun _ _ _ h => h) (Or.inl ⟨by rfl, ?_⟩) ?_ ?_
       rotate_left
       ·intro w'
        go_simp
        with_reducible rfl
       rotate_left
       ·simp only [Act.put, List.setIfInBounds_toArray, List.set_cons_zero, List.set_cons_succ, i64_w, i32_w]
        rfl
       refine pure_ (i := 17) (N := some 71) (v := ?_) (a' := ?_) #[I_,I_,I_,I_,I_,I_,I_,I_,I_,I_,I_,I_,I_,I_,I_,I_,I_,I_,O_,O_,O_,O_,O_,O_,O_,O_,O_,O_] rfl rfl (any_of HT_.out (by kernel_rfl)) (fun _ _ _ h => h) (Or.inl ⟨by rfl, ?_⟩) ?_ ?_
       rotate_left
       ·intro w'
        go_simp
        with_reducible rfl
       rotate_left
       ·simp only [Act.put, List.setIfInBounds_toArray, List.set_cons_zero, List.set_cons_succ, i64_w, i32_w]
        rfl
       refine pure_ (i := 18) (N := some 72) (v := undef) (a' := ?_) #[I_,I_,I_,I_,I_,I_,I_,I_,I_,I_,I_,I_,I_,I_,I_,I_,I_,I_,I_,O_,O_,O_,O_,O_,O_,O_,O_,O_] rfl rfl (any_of HT_.out (by kernel_rfl)) (fun _ _ _ h => h) (Or.inr ⟨by rfl, rfl⟩) ?_ ?_
       rotate_left
       ·simp only [Act.put, List.setIfInBounds_toArray, List.set_cons_zero, List.set_cons_succ, i64_w, i32_w]
        rfl
       refine pure_ (i := 19) (N := some 73) (v := undef) (a' := ?_) #[I_,I_,I_,I_,I_,I_,I_,I_,I_,I_,I_,I_,I_,I_,I_,I_,I_,I_,I_,I_,O_,O_,O_,O_,O_,O_,O_,O_] rfl rfl (any_of HT_.out (by kernel_rfl)) (fun _ _ _ h => h) (Or.inr ⟨by rfl, rfl⟩) ?_ ?_
       rotate_left
       ·simp only [Act.put, List.setIfInBounds_toArray, List.set_cons_zero, List.set_cons_succ, i64_w, i32_w]
        rfl
       refine pure_ (i := 20) (N := some 74) (v := undef) (a' := ?_) #[I_,I_,I_,I_,I_,I_,I_,I_,I_,I_,I_,I_,I_,I_,I_,I_,I_,I_,I_,I_,I_,O_,O_,O_,O_,O_,O_,O_] rfl rfl (any_of HT_.out (by kernel_rfl)) (fun _ _ _ h => h) (Or.inr ⟨by rfl, rfl⟩) ?_ ?_
       rotate_left
       ·simp only [Act.put, List.setIfInBounds_toArray, List.set_cons_zero, List.set_cons_succ, i64_w, i32_w]
        rfl
       refine pure_ (i := 21) (N := some 75) (v := undef) (a' := ?_) #[I_,I_,I_,I_,I_,I_,I_,I_,I_,I_,I_,I_,I_,I_,I_,I_,I_,I_,I_,I_,I_,I_,O_,O_,O_,O_,O_,O_] rfl rfl (any_of HT_.out (by kernel_rfl)) (fun _ _ _ h => h) (Or.inr ⟨by rfl, rfl⟩) ?_ ?_
       rotate_left
       ·simp only [Act.put, List.setIfInBounds_toArray, List.set_cons_zero, List.set_cons_succ, i64_w, i32_w]
        rfl
       refine pure_ (i := 22) (N := some 76) (v := undef) (a' := ?_) #[I_,I_,I_,I_,I_,I_,I_,I_,I_,I_,I_,I_,I_,I_,I_,I_,I_,I_,I_,I_,I_,I_,I_,O_,O_,O_,O_,O_] rfl rfl (any_of HT_.out (by kernel_rfl)) (fun _ _ _ h => h) (Or.inr ⟨by rfl, rfl⟩) ?_ ?_
       rotate_left
       ·simp only [Act.put, List.setIfInBounds_toArray, List.set_cons_zero, List.set_cons_succ, i64_w, i32_w]
        rfl
       refine pure_ (i := 23) (N := some 77) (v := undef) (a' := ?_) #[I_,I_,I_,I_,I_,I_,I_,I_,I_,I_,I_,I_,I_,I_,I_,I_,I_,I_,I_,I_,I_,I_,I_,I_,O_,O_,O_,O_] rfl rfl (any_of HT_.out (by kernel_rfl)) (fun _ _ _ h => h) (Or.inr ⟨by rfl, rfl⟩) ?_ ?_
       rotate_left
       ·simp only [Act.put, List.setIfInBounds_toArray, List.set_cons_zero, List.set_cons_succ, i64_w, i32_w]
        rfl
       refine pure_ (i := 24) (N := some 78) (v := undef) (a' := ?_) #[I_,I_,I_,I_,I_,I_,I_,I_,I_,I_,I_,I_,I_,I_,I_,I_,I_,I_,I_,I_,I_,I_,I_,I_,I_,O_,O_,O_] rfl rfl (any_of HT_.out (by kernel_rfl)) (fun _ _ _ h => h) (Or.inr ⟨by rfl, rfl⟩) ?_ ?_
       rotate_left
       ·simp only [Act.put, List.setIfInBounds_toArray, List.set_cons_zero, List.set_cons_succ, i64_w, i32_w]
        rfl
       refine pure_ (i := 25) (N := some 79) (v := undef) (a' := ?_) #[I_,I_,I_,I_,I_,I_,I_,I_,I_,I_,I_,I_,I_,I_,I_,I_,I_,I_,I_,I_,I_,I_,I_,I_,I_,I_,O_,O_] rfl rfl (any_of HT_.out (by kernel_rfl)) (fun _ _ _ h => h) (Or.inr ⟨by rfl, rfl⟩) ?_ ?_
       rotate_left
       ·simp only [Act.put, List.setIfInBounds_toArray, List.set_cons_zero, List.set_cons_succ, i64_w, i32_w]
        rfl
       refine pure_ (i := 26) (N := some 80) (v := ?_) (a' := ?_) #[I_,I_,I_,I_,I_,I_,I_,I_,I_,I_,I_,I_,I_,I_,I_,I_,I_,I_,I_,I_,I_,I_,I_,I_,I_,I_,I_,O_] rfl rfl (any_of HT_.out (by kernel_rfl)) (fun _ _ _ h => h) (Or.inl ⟨by rfl, ?_⟩) ?_ ?_
       rotate_left
       ·intro w'
        go_simp
        with_reducible rfl
       rotate_left
       ·simp only [Act.put, List.setIfInBounds_toArray, List.set_cons_zero, List.set_cons_succ, i64_w, i32_w]
        rfl
       refine pure_ (i := 27) (N := some 2) (v := ?_) (a' := ?_) #[I_,I_,I_,I_,I_,I_,I_,I_,I_,I_,I_,I_,I_,I_,I_,I_,I_,I_,I_,I_,I_,I_,I_,I_,I_,I_,I_,I_] rfl rfl (any_of HT_.out (by kernel_rfl)) (fun _ _ _ h => h) (Or.inl ⟨by rfl, ?_⟩) ?_ ?_
       rotate_left
       ·intro w'
        go_simp
        with_reducible rfl
       rotate_left
       ·simp only [Act.put, List.setIfInBounds_toArray, List.set_cons_zero, List.set_cons_succ, i64_w, i32_w]
        rfl
       refine done_ (done_of HT_.out (by kernel_rfl)) ?_
       try go_wp2
       go_ret
       exact ⟨by first | rfl | (simp [*, errW_none, errW_some] <;> rfl), by repeat (first | (with_reducible first | exact HB.out | apply below_alloc | apply pw_below_drewN | apply below_drew1 | refine below_set ?_ GE152.out) | exact HB.out)⟩
     ·replace c20 := Bool.eq_false_iff.mpr c20
      subst c20
      have H1 : (some false) = some r := by rw [if_neg (show ¬ (false = true) by decide)] at H; exact H
      clear H
      have H := H1
      clear H1
      obtain rfl := Option.some.inj H
      have hcz82_0 : wc.cell? ⟨gb152, 0, none⟩ = some (.string a0_0) := (blk_cell BK152.out 0).trans rfl
      have hcz82_1 : wc.cell? ⟨gb152, 1, none⟩ = some (.string a0_1) := (blk_cell BK152.out 1).trans rfl
      have hfz82_0 := blk_frozen BK152.out 0
      have hfz82_1 := blk_frozen BK152.out 1
      try go_wp2_with (first | ((with_reducible refine gate_callee (f := 19) rfl ?_); refine goesL_ (some 21) rfl rfl Tryz.func19 (by kernel_rfl) rfl #[.agg #[.string a0_0, .string a0_1]] rfl (by (try simp only [List.map_toArray, List.map_cons, List.map_nil]); try rfl) ?_; (with_reducible refine (convergent_Terms.calls kj1 a0_0 a0_1 t156 t159 _ ?side1 A14.out).mono ?_); (case side1 => exact GWorld.below HG.out (by repeat (first | (with_reducible first | exact HB.out | apply below_alloc | apply pw_below_drewN | apply below_drew1 | refine below_set ?_ GE152.out) | exact HB.out))); rintro e w83 ⟨v157, rfl, ho0, hb⟩; refine ⟨_, rfl, ?_⟩; have n0_ := Aside0.mk (Kd.R_lower ho0 (below_size (by repeat (first | (with_reducible first | exact HB.out | apply below_alloc | apply pw_below_drewN | apply below_drew1 | refine below_set ?_ GE152.out) | exact HB.out)))); have n1_ := Aside0.mk (blk_below (g := gb152) (o := .cells #[.string a0_0, .string a0_1] 24 (0, 0)) (by (with_reducible repeat (first | refine blk_drewN ?_ _ | refine blk_drew ?_ | refine blk_alloc ?_ _)); exact BK152.out) hb); have n2_ := Aside0.mk (below_step (by repeat (first | (with_reducible first | exact HB.out | apply below_alloc | apply pw_below_drewN | apply below_drew1 | refine below_set ?_ GE152.out) | exact HB.out)) hb); clear BK152; clear HB; have HO158 := n0_; have BK152 := n1_; have HB := n2_; clear n0_ n1_ n2_; (try clear hb); (try clear hb2); (try clear hk); (try clear hi); (try clear ho0); have hcz84_0 : w83.cell? ⟨gb152, 0, none⟩ = some (.string a0_0) := (blk_cell BK152.out 0).trans rfl; have hcz84_1 : w83.cell? ⟨gb152, 1, none⟩ = some (.string a0_1) := (blk_cell BK152.out 1).trans rfl; have hfz84_0 := blk_frozen BK152.out 0; have hfz84_1 := blk_frozen BK152.out 1) | ((with_reducible refine gate_callee (f := 20) rfl ?_); refine goesL_ (some 26) rfl rfl Tryz.func20 (by kernel_rfl) rfl #[.agg #[.string a0_0, .string a0_1]] rfl (by (try simp only [List.map_toArray, List.map_cons, List.map_nil]); try rfl) ?_; (with_reducible refine (convergent_Convergents.calls kj1 a0_0 a0_1 t160 t163 _ ?side1 A15.out).mono ?_); (case side1 => exact GWorld.below HG.out (by repeat (first | (with_reducible first | exact HB.out | apply below_alloc | apply pw_below_drewN | apply below_drew1 | refine below_set ?_ GE152.out) | exact HB.out))); rintro e w85 ⟨v161, rfl, ho0, hb⟩; refine ⟨_, rfl, ?_⟩; have n0_ := Aside0.mk (Kd.R_below (by (with_reducible repeat (first | apply Kd.R_alloc | apply Kd.R_drewN | apply Kd.R_drew)); exact HO158.out) hb); have n1_ := Aside0.mk (Kd.R_lower (Kd.R_newB ho0 (g := gb152) (o := .cells #[.string a0_0, .string a0_1] 24 (0, 0)) (by (with_reducible repeat (first | refine blk_drewN ?_ _ | refine blk_drew ?_ | refine blk_alloc ?_ _)); exact BK152.out)) (below_size (by repeat (first | (with_reducible first | exact HB.out | apply below_alloc | apply pw_below_drewN | apply below_drew1 | refine below_set ?_ GE152.out) | exact HB.out)))); have n2_ := Aside0.mk (blk_below (g := gb152) (o := .cells #[.string a0_0, .string a0_1] 24 (0, 0)) (by (with_reducible repeat (first | refine blk_drewN ?_ _ | refine blk_drew ?_ | refine blk_alloc ?_ _)); exact BK152.out) hb); have n3_ := Aside0.mk (below_step (by repeat (first | (with_reducible first | exact HB.out | apply below_alloc | apply pw_below_drewN | apply below_drew1 | refine below_set ?_ GE152.out) | exact HB.out)) hb); clear HO158; clear BK152; clear HB; have HO158 := n0_; have HO162 := n1_; have BK152 := n2_; have HB := n3_; clear n0_ n1_ n2_ n3_; (try clear hb); (try clear hb2); (try clear hk); (try clear hi); (try clear ho0); have hcz86_0 : w85.cell? ⟨gb152, 0, none⟩ = some (.string a0_0) := (blk_cell BK152.out 0).trans rfl; have hcz86_1 : w85.cell? ⟨gb152, 1, none⟩ = some (.string a0_1) := (blk_cell BK152.out 1).trans rfl; have hfz86_0 := blk_frozen BK152.out 0; have hfz86_1 := blk_frozen BK152.out 1) | ((with_reducible refine gate_callee (f := 15) rfl ?_); refine goesL_ (some 31) rfl rfl Tryz.func15 (by kernel_rfl) rfl #[.agg #[.string a0_0, .string a0_1]] rfl (by (try simp only [List.map_toArray, List.map_cons, List.map_nil]); try rfl) ?_; (with_reducible refine (schismaref04_Parts.calls kj1 a0_0 a0_1 t164 t165 true _ A16.out).mono ?_); rintro e w87 ⟨rfl, hb⟩; refine ⟨_, rfl, ?_⟩; have n0_ := Aside0.mk (Kd.R_below (by (with_reducible repeat (first | apply Kd.R_alloc | apply Kd.R_drewN | apply Kd.R_drew)); exact HO158.out) hb); have n1_ := Aside0.mk (Kd.R_below (by (with_reducible repeat (first | apply Kd.R_alloc | apply Kd.R_drewN | apply Kd.R_drew)); exact HO162.out) hb); have n2_ := Aside0.mk (blk_below (g := gb152) (o := .cells #[.string a0_0, .string a0_1] 24 (0, 0)) (by (with_reducible repeat (first | refine blk_drewN ?_ _ | refine blk_drew ?_ | refine blk_alloc ?_ _)); exact BK152.out) hb); have n3_ := Aside0.mk (below_step (by repeat (first | (with_reducible first | exact HB.out | apply below_alloc | apply pw_below_drewN | apply below_drew1 | refine below_set ?_ GE152.out) | exact HB.out)) hb); clear HO158; clear HO162; clear BK152; clear HB; have HO158 := n0_; have HO162 := n1_; have BK152 := n2_; have HB := n3_; clear n0_ n1_ n2_ n3_; (try clear hb); (try clear hb2); (try clear hk); (try clear hi)) | ((with_reducible refine gate_callee (f := 21) rfl ?_); refine goesL_ (some 53) rfl rfl Tryz.func21 (by kernel_rfl) rfl #[.int .i64 t164, .int .i64 t165] rfl (by (try simp only [List.map_toArray, List.map_cons, List.map_nil]); try rfl) ?_; (with_reducible refine (schismaref04_Terms.calls kj1 t164 t165 t167 _ A18.out).mono ?_); rintro e w88 ⟨v168, rfl, ho0, hb⟩; refine ⟨_, rfl, ?_⟩; have n0_ := Aside0.mk (Kd.R_below (by (with_reducible repeat (first | apply Kd.R_alloc | apply Kd.R_drewN | apply Kd.R_drew)); exact HO158.out) hb); have n1_ := Aside0.mk (Kd.R_below (by (with_reducible repeat (first | apply Kd.R_alloc | apply Kd.R_drewN | apply Kd.R_drew)); exact HO162.out) hb); have n2_ := Aside0.mk (Kd.R_lower ho0 (below_size (by repeat (first | (with_reducible first | exact HB.out | apply below_alloc | apply pw_below_drewN | apply below_drew1 | refine below_set ?_ GE152.out) | exact HB.out)))); have n3_ := Aside0.mk (blk_below (g := gb152) (o := .cells #[.string a0_0, .string a0_1] 24 (0, 0)) (by (with_reducible repeat (first | refine blk_drewN ?_ _ | refine blk_drew ?_ | refine blk_alloc ?_ _)); exact BK152.out) hb); have n4_ := Aside0.mk (below_step (by repeat (first | (with_reducible first | exact HB.out | apply below_alloc | apply pw_below_drewN | apply below_drew1 | refine below_set ?_ GE152.out) | exact HB.out)) hb); clear HO158; clear HO162; clear BK152; clear HB; have HO158 := n0_; have HO162 := n1_; have HO169 := n2_; have BK152 := n3_; have HB := n4_; clear n0_ n1_ n2_ n3_ n4_; (try clear hb); (try clear hb2); (try clear hk); (try clear hi); (try clear ho0)))
      have n0_ := Aside0.mk (Kd.R_drew HO158.out)
      have n1_ := Aside0.mk (Kd.R_drew HO162.out)
      have n2_ := Aside0.mk (Kd.R_drew HO169.out)
      have n3_ := Aside0.mk (blk_drew BK152.out)
      have n4_ := Aside0.mk (below_drew1 HB.out)
      clear HO158
      clear HO162
      clear HO169
      clear BK152
      clear HB
      have HO158 := n0_
      have HO162 := n1_
      have HO169 := n2_
      have BK152 := n3_
      have HB := n4_
      clear n0_ n1_ n2_ n3_ n4_
      obtain ⟨Ao90, co90, eo90⟩ := Kd.R_slice HO158.out
      (first | subst eo90 | (injection eo90 with f1_ f2_ f3_; have f4_ := f1_.symm; have f5_ := f3_.symm; clear f1_ f2_ f3_; subst f4_; subst f5_))
      obtain ⟨Ao91, co91, eo91⟩ := Kd.R_slice HO169.out
      (first | subst eo91 | (injection eo91 with f1_ f2_ f3_; have f4_ := f1_.symm; have f5_ := f3_.symm; clear f1_ f2_ f3_; subst f4_; subst f5_))
      refine start_ (n := 28) (S := fun w' => True) (ds := []) #[O_,O_,O_,O_,O_,O_,O_,O_,O_,O_,O_,O_,O_,O_,O_,O_,O_,O_,O_,O_,O_,O_,O_,O_,O_,O_,O_,O_] (by kernel_rfl) rfl rfl trivial (fun hHeld => ?_); refine with_tabW schismalaw04_ConvergentTerms.tab9 schismalaw04_ConvergentTerms.bits9 (fun HT_ HW_ => ?_)
      generalize w88.drew = w89 at HO158 HO162 HO169 BK152 HB hHeld ⊢
      refine pure_ (i := 0) (N := some 54) (v := ?_) (a' := ?_) #[I_,O_,O_,O_,O_,O_,O_,O_,O_,O_,O_,O_,O_,O_,O_,O_,O_,O_,O_,O_,O_,O_,O_,O_,O_,O_,O_,O_] rfl rfl (any_of HT_.out (by kernel_rfl)) (fun _ _ _ h => h) (Or.inl ⟨by rfl, ?_⟩) ?_ ?_
      rotate_left
      ·intro w'
       go_simp
       with_reducible rfl
      rotate_left
      ·simp only [Act.put, List.setIfInBounds_toArray, List.set_cons_zero, List.set_cons_succ, i64_w, i32_w]
       rfl
      refine pure_ (i := 1) (N := some 55) (v := ?_) (a' := ?_) #[I_,I_,O_,O_,O_,O_,O_,O_,O_,O_,O_,O_,O_,O_,O_,O_,O_,O_,O_,O_,O_,O_,O_,O_,O_,O_,O_,O_] rfl rfl (any_of HT_.out (by kernel_rfl)) (fun _ _ _ h => h) (Or.inl ⟨by rfl, ?_⟩) ?_ ?_
      rotate_left
      ·intro w'
       go_simp
       with_reducible rfl
      rotate_left
      ·simp only [Act.put, List.setIfInBounds_toArray, List.set_cons_zero, List.set_cons_succ, i64_w, i32_w]
       rfl
      refine one_ (i := 2) (N := some 56) #[I_,I_,I_,O_,O_,O_,O_,O_,O_,O_,O_,O_,O_,O_,O_,O_,O_,O_,O_,O_,O_,O_,O_,O_,O_,O_,O_,O_] rfl rfl (one_of HT_.out (by kernel_rfl)) (by decide) (fun K hK => ?_)
      refine goes_ Tryz.func22 (by kernel_rfl) rfl #[.slice Ao90 t156.length co90, .slice Ao91 t167.length co91] (by rfl) rfl rfl (by (try simp only [List.map_toArray, List.map_cons, List.map_nil]); try rfl) ?_
      with_reducible refine (schismalaw04_ints.calls kj1 _ _ t156 _ _ t167 false _ ?side1 ?side2 ?side3 ?side4 A19.out).mono ?_
      (case side1 => repeat (first | exact (Kd.R_reads' HO158.out).2.2 | (with_reducible refine Kd.C_alloc ?_ _) | (with_reducible refine Kd.C_drewN ?_ _) | (with_reducible refine Kd.C_drew ?_)))
      (case side2 => exact (Kd.R_reads' HO158.out).2.1)
      (case side3 => repeat (first | exact (Kd.R_reads' HO169.out).2.2 | (with_reducible refine Kd.C_alloc ?_ _) | (with_reducible refine Kd.C_drewN ?_ _) | (with_reducible refine Kd.C_drew ?_)))
      (case side4 => exact (Kd.R_reads' HO169.out).2.1)
      rintro e w92 ⟨rfl, hb⟩
      refine ⟨_, rfl, ?_⟩
      have n0_ := Aside0.mk (Kd.R_below (by (with_reducible repeat (first | apply Kd.R_alloc | apply Kd.R_drewN | apply Kd.R_drew)); exact HO158.out) hb)
      have n1_ := Aside0.mk (Kd.R_below (by (with_reducible repeat (first | apply Kd.R_alloc | apply Kd.R_drewN | apply Kd.R_drew)); exact HO162.out) hb)
      have n2_ := Aside0.mk (Kd.R_below (by (with_reducible repeat (first | apply Kd.R_alloc | apply Kd.R_drewN | apply Kd.R_drew)); exact HO169.out) hb)
      have n3_ := Aside0.mk (blk_below (g := gb152) (o := .cells #[.string a0_0, .string a0_1] 24 (0, 0)) (by (with_reducible repeat (first | refine blk_drewN ?_ _ | refine blk_drew ?_ | refine blk_alloc ?_ _)); exact BK152.out) hb)
      have n4_ := Aside0.mk (below_step (by repeat (first | (with_reducible first | exact HB.out | apply below_alloc | apply pw_below_drewN | apply below_drew1 | refine below_set ?_ GE152.out) | exact HB.out)) hb)
      clear HO158
      clear HO162
      clear HO169
      clear BK152
      clear HB
      have HO158 := n0_
      have HO162 := n1_
      have HO169 := n2_
      have BK152 := n3_
      have HB := n4_
      clear n0_ n1_ n2_ n3_ n4_
      (try clear hb); (try clear hb2); (try clear hk); (try clear hi)
      refine hK.out _ _ trivial (fun hHeld => ?_)
      clear hK K
      refine norm_ (a' := ?_) ?_ ?_
      rotate_left
      ·show Act.put _ (some 56) _ = _
       simp only [Act.put, List.setIfInBounds_toArray, List.set_cons_zero, List.set_cons_succ, i64_w, i32_w]
       rfl
      refine pure_ (i := 3) (N := some 57) (v := ?_) (a' := ?_) #[I_,I_,I_,I_,O_,O_,O_,O_,O_,O_,O_,O_,O_,O_,O_,O_,O_,O_,O_,O_,O_,O_,O_,O_,O_,O_,O_,O_] rfl rfl (any_of HT_.out (by kernel_rfl)) (fun _ _ _ h => h) (Or.inl ⟨by rfl, ?_⟩) ?_ ?_
      rotate_left
      ·intro w'
       go_simp
       with_reducible rfl
      rotate_left
      ·simp only [Act.put, List.setIfInBounds_toArray, List.set_cons_zero, List.set_cons_succ, i64_w, i32_w]
       rfl
      refine pure_ (i := 4) (N := some 58) (v := undef) (a' := ?_) #[I_,I_,I_,I_,I_,O_,O_,O_,O_,O_,O_,O_,O_,O_,O_,O_,O_,O_,O_,O_,O_,O_,O_,O_,O_,O_,O_,O_] rfl rfl (any_of HT_.out (by kernel_rfl)) (fun _ _ _ h => h) (Or.inr ⟨by rfl, rfl⟩) ?_ ?_
      rotate_left
      ·simp only [Act.put, List.setIfInBounds_toArray, List.set_cons_zero, List.set_cons_succ, i64_w, i32_w]
       rfl
      refine pure_ (i := 5) (N := some 59) (v := undef) (a' := ?_) #[I_,I_,I_,I_,I_,I_,O_,O_,O_,O_,O_,O_,O_,O_,O_,O_,O_,O_,O_,O_,O_,O_,O_,O_,O_,O_,O_,O_] rfl rfl (any_of HT_.out (by kernel_rfl)) (fun _ _ _ h => h) (Or.inr ⟨by rfl, rfl⟩) ?_ ?_
      rotate_left
      ·simp only [Act.put, List.setIfInBounds_toArray, List.set_cons_zero, List.set_cons_succ, i64_w, i32_w]
       rfl
      refine pure_ (i := 6) (N := some 60) (v := ?_) (a' := ?_) #[I_,I_,I_,I_,I_,I_,I_,O_,O_,O_,O_,O_,O_,O_,O_,O_,O_,O_,O_,O_,O_,O_,O_,O_,O_,O_,O_,O_] rfl rfl (any_of HT_.out (by kernel_rfl)) (fun _ _ _ h => h) (Or.inl ⟨by rfl, ?_⟩) ?_ ?_
      rotate_left
      ·intro w'
       go_simp
       with_reducible rfl
      rotate_left
      ·simp only [Act.put, List.setIfInBounds_toArray, List.set_cons_zero, List.set_cons_succ, i64_w, i32_w]
       rfl
      refine pure_ (i := 7) (N := some 61) (v := ?_) (a' := ?_) #[I_,I_,I_,I_,I_,I_,I_,I_,O_,O_,O_,O_,O_,O_,O_,O_,O_,O_,O_,O_,O_,O_,O_,O_,O_,O_,O_,O_] rfl rfl (any_of HT_.out (by kernel_rfl)) (fun _ _ _ h => h) (Or.inl ⟨by rfl, ?_⟩) ?_ ?_
      rotate_left
      ·intro w'
       go_simp
       with_reducible rfl
      rotate_left
      ·simp only [Act.put, List.setIfInBounds_toArray, List.set_cons_zero, List.set_cons_succ, i64_w, i32_w]
       rfl
      refine pure_ (i := 8) (N := some 62) (v := undef) (a' := ?_) #[I_,I_,I_,I_,I_,I_,I_,I_,I_,O_,O_,O_,O_,O_,O_,O_,O_,O_,O_,O_,O_,O_,O_,O_,O_,O_,O_,O_] rfl rfl (any_of HT_.out (by kernel_rfl)) (fun _ _ _ h => h) (Or.inr ⟨by rfl, rfl⟩) ?_ ?_
      rotate_left
      ·simp only [Act.put, List.setIfInBounds_toArray, List.set_cons_zero, List.set_cons_succ, i64_w, i32_w]
       rfl
      refine pure_ (i := 9) (N := some 63) (v := undef) (a' := ?_) #[I_,I_,I_,I_,I_,I_,I_,I_,I_,I_,O_,O_,O_,O_,O_,O_,O_,O_,O_,O_,O_,O_,O_,O_,O_,O_,O_,O_] rfl rfl (any_of HT_.out (by kernel_rfl)) (fun _ _ _ h => h) (Or.inr ⟨by rfl, rfl⟩) ?_ ?_
      rotate_left
      ·simp only [Act.put, List.setIfInBounds_toArray, List.set_cons_zero, List.set_cons_succ, i64_w, i32_w]
       rfl
      refine pure_ (i := 10) (N := some 64) (v := undef) (a' := ?_) #[I_,I_,I_,I_,I_,I_,I_,I_,I_,I_,I_,O_,O_,O_,O_,O_,O_,O_,O_,O_,O_,O_,O_,O_,O_,O_,O_,O_] rfl rfl (any_of HT_.out (by kernel_rfl)) (fun _ _ _ h => h) (Or.inr ⟨by rfl, rfl⟩) ?_ ?_
      rotate_left
      ·simp only [Act.put, List.setIfInBounds_toArray, List.set_cons_zero, List.set_cons_succ, i64_w, i32_w]
       rfl
      refine pure_ (i := 11) (N := some 65) (v := undef) (a' := ?_) #[I_,I_,I_,I_,I_,I_,I_,I_,I_,I_,I_,I_,O_,O_,O_,O_,O_,O_,O_,O_,O_,O_,O_,O_,O_,O_,O_,O_] rfl rfl (any_of HT_.out (by kernel_rfl)) (fun _ _ _ h => h) (Or.inr ⟨by rfl, rfl⟩) ?_ ?_
      rotate_left
      ·simp only [Act.put, List.setIfInBounds_toArray, List.set_cons_zero, List.set_cons_succ, i64_w, i32_w]
       rfl
      refine pure_ (i := 12) (N := some 66) (v := ?_) (a' := ?_) #[I_,I_,I_,I_,I_,I_,I_,I_,I_,I_,I_,I_,I_,O_,O_,O_,O_,O_,O_,O_,O_,O_,O_,O_,O_,O_,O_,O_] rfl rfl (any_of HT_.out (by kernel_rfl)) (fun _ _ _ h => h) (Or.inl ⟨by rfl, ?_⟩) ?_ ?_
      rotate_left
      ·intro w'
       go_simp
       with_reducible rfl
      rotate_left
      ·simp only [Act.put, List.setIfInBounds_toArray, List.set_cons_zero, List.set_cons_succ, i64_w, i32_w]
       rfl
      refine pure_ (i := 13) (N := some 67) (v := ?_) (a' := ?_) #[I_,I_,I_,I_,I_,I_,I_,I_,I_,I_,I_,I_,I_,I_,O_,O_,O_,O_,O_,O_,O_,O_,O_,O_,O_,O_,O_,O_] rfl rfl (any_of HT_.out (by kernel_rfl)) (fun _ _ _ h => h) (Or.inl ⟨by rfl, ?_⟩) ?_ ?_
      rotate_left
      ·intro w'
       go_simp
       with_reducible rfl
      rotate_left
      ·simp only [Act.put, List.setIfInBounds_toArray, List.set_cons_zero, List.set_cons_succ, i64_w, i32_w]
       rfl
      refine pure_ (i := 14) (N := some 68) (v := undef) (a' := ?_) #[I_,I_,I_,I_,I_,I_,I_,I_,I_,I_,I_,I_,I_,I_,I_,O_,O_,O_,O_,O_,O_,O_,O_,O_,O_,O_,O_,O_] rfl rfl (any_of HT_.out (by kernel_rfl)) (fun _ _ _ h => h) (Or.inr ⟨by rfl, rfl⟩) ?_ ?_
      rotate_left
      ·simp only [Act.put, List.setIfInBounds_toArray, List.set_cons_zero, List.set_cons_succ, i64_w, i32_w]
       rfl
      refine pure_ (i := 15) (N := some 69) (v := undef) (a' := ?_) #[I_,I_,I_,I_,I_,I_,I_,I_,I_,I_,I_,I_,I_,I_,I_,I_,O_,O_,O_,O_,O_,O_,O_,O_,O_,O_,O_,O_] rfl rfl (any_of HT_.out (by kernel_rfl)) (fun _ _ _ h => h) (Or.inr ⟨by rfl, rfl⟩) ?_ ?_
      rotate_left
      ·simp only [Act.put, List.setIfInBounds_toArray, List.set_cons_zero, List.set_cons_succ, i64_w, i32_w]
       rfl
      refine pure_ (i := 16) (N := some 70) (v := ?_) (a' := ?_) #[I_,I_,I_,I_,I_,I_,I_,I_,I_,I_,I_,I_,I_,I_,I_,I_,I_,O_,O_,O_,O_,O_,O_,O_,O_,O_,O_,O_] rfl rfl (any_of HT_.out (by kernel_rfl)) (fun _ _ _ h => h) (Or.inl ⟨by rfl, ?_⟩) ?_ ?_
      rotate_left
      ·intro w'
       go_simp
       with_reducible rfl
      rotate_left
      ·simp only [Act.put, List.setIfInBounds_toArray, List.set_cons_zero, List.set_cons_succ, i64_w, i32_w]
       rfl
      refine pure_ (i := 17) (N := some 71) (v := ?_) (a' := ?_) #[I_,I_,I_,I_,I_,I_,I_,I_,I_,I_,I_,I_,I_,I_,I_,I_,I_,I_,O_,O_,O_,O_,O_,O_,O_,O_,O_,O_] rfl rfl (any_of HT_.out (by kernel_rfl)) (fun _ _ _ h => h) (Or.inl ⟨by rfl, ?_⟩) ?_ ?_
      rotate_left
      ·intro w'
       go_simp
       with_reducible rfl
      rotate_left
      ·simp only [Act.put, List.setIfInBounds_toArray, List.set_cons_zero, List.set_cons_succ, i64_w, i32_w]
       rfl
      refine pure_ (i := 18) (N := some 72) (v := undef) (a' := ?_) #[I_,I_,I_,I_,I_,I_,I_,I_,I_,I_,I_,I_,I_,I_,I_,I_,I_,I_,I_,O_,O_,O_,O_,O_,O_,O_,O_,O_] rfl rfl (any_of HT_.out (by kernel_rfl)) (fun _ _ _ h => h) (Or.inr ⟨by rfl, rfl⟩) ?_ ?_
      rotate_left
      ·simp only [Act.put, List.setIfInBounds_toArray, List.set_cons_zero, List.set_cons_succ, i64_w, i32_w]
       rfl
      refine pure_ (i := 19) (N := some 73) (v := undef) (a' := ?_) #[I_,I_,I_,I_,I_,I_,I_,I_,I_,I_,I_,I_,I_,I_,I_,I_,I_,I_,I_,I_,O_,O_,O_,O_,O_,O_,O_,O_] rfl rfl (any_of HT_.out (by kernel_rfl)) (fun _ _ _ h => h) (Or.inr ⟨by rfl, rfl⟩) ?_ ?_
      rotate_left
      ·simp only [Act.put, List.setIfInBounds_toArray, List.set_cons_zero, List.set_cons_succ, i64_w, i32_w]
       rfl
      refine pure_ (i := 20) (N := some 74) (v := undef) (a' := ?_) #[I_,I_,I_,I_,I_,I_,I_,I_,I_,I_,I_,I_,I_,I_,I_,I_,I_,I_,I_,I_,I_,O_,O_,O_,O_,O_,O_,O_] rfl rfl (any_of HT_.out (by kernel_rfl)) (fun _ _ _ h => h) (Or.inr ⟨by rfl, rfl⟩) ?_ ?_
      rotate_left
      ·simp only [Act.put, List.setIfInBounds_toArray, List.set_cons_zero, List.set_cons_succ, i64_w, i32_w]
       rfl
      refine pure_ (i := 21) (N := some 75) (v := undef) (a' := ?_) #[I_,I_,I_,I_,I_,I_,I_,I_,I_,I_,I_,I_,I_,I_,I_,I_,I_,I_,I_,I_,I_,I_,O_,O_,O_,O_,O_,O_] rfl rfl (any_of HT_.out (by kernel_rfl)) (fun _ _ _ h => h) (Or.inr ⟨by rfl, rfl⟩) ?_ ?_
      rotate_left
      ·simp only [Act.put, List.setIfInBounds_toArray, List.set_cons_zero, List.set_cons_succ, i64_w, i32_w]
       rfl
      refine pure_ (i := 22) (N := some 76) (v := undef) (a' := ?_) #[I_,I_,I_,I_,I_,I_,I_,I_,I_,I_,I_,I_,I_,I_,I_,I_,I_,I_,I_,I_,I_,I_,I_,O_,O_,O_,O_,O_] rfl rfl (any_of HT_.out (by kernel_rfl)) (fun _ _ _ h => h) (Or.inr ⟨by rfl, rfl⟩) ?_ ?_
      rotate_left
      ·simp only [Act.put, List.setIfInBounds_toArray, List.set_cons_zero, List.set_cons_succ, i64_w, i32_w]
       rfl
      refine pure_ (i := 23) (N := some 77) (v := undef) (a' := ?_) #[I_,I_,I_,I_,I_,I_,I_,I_,I_,I_,I_,I_,I_,I_,I_,I_,I_,I_,I_,I_,I_,I_,I_,I_,O_,O_,O_,O_] rfl rfl (any_of HT_.out (by kernel_rfl)) (fun _ _ _ h => h) (Or.inr ⟨by rfl, rfl⟩) ?_ ?_
      rotate_left
      ·simp only [Act.put, List.setIfInBounds_toArray, List.set_cons_zero, List.set_cons_succ, i64_w, i32_w]
       rfl
      refine pure_ (i := 24) (N := some 78) (v := undef) (a' := ?_) #[I_,I_,I_,I_,I_,I_,I_,I_,I_,I_,I_,I_,I_,I_,I_,I_,I_,I_,I_,I_,I_,I_,I_,I_,I_,O_,O_,O_] rfl rfl (any_of HT_.out (by kernel_rfl)) (fun _ _ _ h => h) (Or.inr ⟨by rfl, rfl⟩) ?_ ?_
      rotate_left
      ·simp only [Act.put, List.setIfInBounds_toArray, List.set_cons_zero, List.set_cons_succ, i64_w, i32_w]
       rfl
      refine pure_ (i := 25) (N := some 79) (v := undef) (a' := ?_) #[I_,I_,I_,I_,I_,I_,I_,I_,I_,I_,I_,I_,I_,I_,I_,I_,I_,I_,I_,I_,I_,I_,I_,I_,I_,I_,O_,O_] rfl rfl (any_of HT_.out (by kernel_rfl)) (fun _ _ _ h => h) (Or.inr ⟨by rfl, rfl⟩) ?_ ?_
      rotate_left
      ·simp only [Act.put, List.setIfInBounds_toArray, List.set_cons_zero, List.set_cons_succ, i64_w, i32_w]
       rfl
      refine pure_ (i := 26) (N := some 80) (v := ?_) (a' := ?_) #[I_,I_,I_,I_,I_,I_,I_,I_,I_,I_,I_,I_,I_,I_,I_,I_,I_,I_,I_,I_,I_,I_,I_,I_,I_,I_,I_,O_] rfl rfl (any_of HT_.out (by kernel_rfl)) (fun _ _ _ h => h) (Or.inl ⟨by rfl, ?_⟩) ?_ ?_
      rotate_left
      ·intro w'
       go_simp
       with_reducible rfl
      rotate_left
      ·simp only [Act.put, List.setIfInBounds_toArray, List.set_cons_zero, List.set_cons_succ, i64_w, i32_w]
       rfl
      refine pure_ (i := 27) (N := some 2) (v := ?_) (a' := ?_) #[I_,I_,I_,I_,I_,I_,I_,I_,I_,I_,I_,I_,I_,I_,I_,I_,I_,I_,I_,I_,I_,I_,I_,I_,I_,I_,I_,I_] rfl rfl (any_of HT_.out (by kernel_rfl)) (fun _ _ _ h => h) (Or.inl ⟨by rfl, ?_⟩) ?_ ?_
      rotate_left
      ·intro w'
       go_simp
       with_reducible rfl
      rotate_left
      ·simp only [Act.put, List.setIfInBounds_toArray, List.set_cons_zero, List.set_cons_succ, i64_w, i32_w]
       rfl
      refine done_ (done_of HT_.out (by kernel_rfl)) ?_
      try go_wp2
      go_ret
      exact ⟨by first | rfl | (simp [*, errW_none, errW_some] <;> rfl), by repeat (first | (with_reducible first | exact HB.out | apply below_alloc | apply pw_below_drewN | apply below_drew1 | refine below_set ?_ GE152.out) | exact HB.out)⟩
    ·replace c17 := Bool.eq_false_iff.mpr c17
     subst c17
     have H1 : (if (wrap64 ((t156.length : Int) + (t160.length : Int))) = 0 then (if t159 = 2 then (some (t163 == 2)) else (some false)) else (some false)) = some r := by rw [if_neg (show ¬ (false = true) by decide)] at H; exact H
     clear H
     have H := H1
     clear H1
     by_cases c93 : (wrap64 ((t156.length : Int) + (t160.length : Int))) = 0
     ·rw [if_pos c93] at H
      have c93b0 : ((wrap64 ((t156.length : Int) + (t160.length : Int))) == 0) = true := beq_iff_eq.mpr c93
      have c93b1 : ((wrap64 ((t156.length : Int) + (t160.length : Int))) != 0) = false := bne_eq_false_iff_eq.mpr c93
      clear c93
      by_cases c94 : t159 = 2
      ·rw [if_pos c94] at H
       have c94b0 : (t159 == 2) = true := beq_iff_eq.mpr c94
       have c94b1 : (t159 != 2) = false := bne_eq_false_iff_eq.mpr c94
       clear c94
       obtain rfl := Option.some.inj H
       have hcz95_0 : wc.cell? ⟨gb152, 0, none⟩ = some (.string a0_0) := (blk_cell BK152.out 0).trans rfl
       have hcz95_1 : wc.cell? ⟨gb152, 1, none⟩ = some (.string a0_1) := (blk_cell BK152.out 1).trans rfl
       have hfz95_0 := blk_frozen BK152.out 0
       have hfz95_1 := blk_frozen BK152.out 1
       go_wp2_with (first | ((with_reducible refine gate_callee (f := 19) rfl ?_); refine goesL_ (some 21) rfl rfl Tryz.func19 (by kernel_rfl) rfl #[.agg #[.string a0_0, .string a0_1]] rfl (by (try simp only [List.map_toArray, List.map_cons, List.map_nil]); try rfl) ?_; (with_reducible refine (convergent_Terms.calls kj1 a0_0 a0_1 t156 t159 _ ?side1 A14.out).mono ?_); (case side1 => exact GWorld.below HG.out (by repeat (first | (with_reducible first | exact HB.out | apply below_alloc | apply pw_below_drewN | apply below_drew1 | refine below_set ?_ GE152.out) | exact HB.out))); rintro e w96 ⟨v157, rfl, ho0, hb⟩; refine ⟨_, rfl, ?_⟩; have n0_ := Aside0.mk (Kd.R_lower ho0 (below_size (by repeat (first | (with_reducible first | exact HB.out | apply below_alloc | apply pw_below_drewN | apply below_drew1 | refine below_set ?_ GE152.out) | exact HB.out)))); have n1_ := Aside0.mk (blk_below (g := gb152) (o := .cells #[.string a0_0, .string a0_1] 24 (0, 0)) (by (with_reducible repeat (first | refine blk_drewN ?_ _ | refine blk_drew ?_ | refine blk_alloc ?_ _)); exact BK152.out) hb); have n2_ := Aside0.mk (below_step (by repeat (first | (with_reducible first | exact HB.out | apply below_alloc | apply pw_below_drewN | apply below_drew1 | refine below_set ?_ GE152.out) | exact HB.out)) hb); clear BK152; clear HB; have HO158 := n0_; have BK152 := n1_; have HB := n2_; clear n0_ n1_ n2_; (try clear hb); (try clear hb2); (try clear hk); (try clear hi); (try clear ho0); have hcz97_0 : w96.cell? ⟨gb152, 0, none⟩ = some (.string a0_0) := (blk_cell BK152.out 0).trans rfl; have hcz97_1 : w96.cell? ⟨gb152, 1, none⟩ = some (.string a0_1) := (blk_cell BK152.out 1).trans rfl; have hfz97_0 := blk_frozen BK152.out 0; have hfz97_1 := blk_frozen BK152.out 1) | ((with_reducible refine gate_callee (f := 20) rfl ?_); refine goesL_ (some 26) rfl rfl Tryz.func20 (by kernel_rfl) rfl #[.agg #[.string a0_0, .string a0_1]] rfl (by (try simp only [List.map_toArray, List.map_cons, List.map_nil]); try rfl) ?_; (with_reducible refine (convergent_Convergents.calls kj1 a0_0 a0_1 t160 t163 _ ?side1 A15.out).mono ?_); (case side1 => exact GWorld.below HG.out (by repeat (first | (with_reducible first | exact HB.out | apply below_alloc | apply pw_below_drewN | apply below_drew1 | refine below_set ?_ GE152.out) | exact HB.out))); rintro e w98 ⟨v161, rfl, ho0, hb⟩; refine ⟨_, rfl, ?_⟩; have n0_ := Aside0.mk (Kd.R_below (by (with_reducible repeat (first | apply Kd.R_alloc | apply Kd.R_drewN | apply Kd.R_drew)); exact HO158.out) hb); have n1_ := Aside0.mk (Kd.R_lower (Kd.R_newB ho0 (g := gb152) (o := .cells #[.string a0_0, .string a0_1] 24 (0, 0)) (by (with_reducible repeat (first | refine blk_drewN ?_ _ | refine blk_drew ?_ | refine blk_alloc ?_ _)); exact BK152.out)) (below_size (by repeat (first | (with_reducible first | exact HB.out | apply below_alloc | apply pw_below_drewN | apply below_drew1 | refine below_set ?_ GE152.out) | exact HB.out)))); have n2_ := Aside0.mk (blk_below (g := gb152) (o := .cells #[.string a0_0, .string a0_1] 24 (0, 0)) (by (with_reducible repeat (first | refine blk_drewN ?_ _ | refine blk_drew ?_ | refine blk_alloc ?_ _)); exact BK152.out) hb); have n3_ := Aside0.mk (below_step (by repeat (first | (with_reducible first | exact HB.out | apply below_alloc | apply pw_below_drewN | apply below_drew1 | refine below_set ?_ GE152.out) | exact HB.out)) hb); clear HO158; clear BK152; clear HB; have HO158 := n0_; have HO162 := n1_; have BK152 := n2_; have HB := n3_; clear n0_ n1_ n2_ n3_; (try clear hb); (try clear hb2); (try clear hk); (try clear hi); (try clear ho0); have hcz99_0 : w98.cell? ⟨gb152, 0, none⟩ = some (.string a0_0) := (blk_cell BK152.out 0).trans rfl; have hcz99_1 : w98.cell? ⟨gb152, 1, none⟩ = some (.string a0_1) := (blk_cell BK152.out 1).trans rfl; have hfz99_0 := blk_frozen BK152.out 0; have hfz99_1 := blk_frozen BK152.out 1) | ((with_reducible refine gate_callee (f := 15) rfl ?_); refine goesL_ (some 31) rfl rfl Tryz.func15 (by kernel_rfl) rfl #[.agg #[.string a0_0, .string a0_1]] rfl (by (try simp only [List.map_toArray, List.map_cons, List.map_nil]); try rfl) ?_; (with_reducible refine (schismaref04_Parts.calls kj1 a0_0 a0_1 t164 t165 false _ A16.out).mono ?_); rintro e w100 ⟨rfl, hb⟩; refine ⟨_, rfl, ?_⟩; have n0_ := Aside0.mk (Kd.R_below (by (with_reducible repeat (first | apply Kd.R_alloc | apply Kd.R_drewN | apply Kd.R_drew)); exact HO158.out) hb); have n1_ := Aside0.mk (Kd.R_below (by (with_reducible repeat (first | apply Kd.R_alloc | apply Kd.R_drewN | apply Kd.R_drew)); exact HO162.out) hb); have n2_ := Aside0.mk (blk_below (g := gb152) (o := .cells #[.string a0_0, .string a0_1] 24 (0, 0)) (by (with_reducible repeat (first | refine blk_drewN ?_ _ | refine blk_drew ?_ | refine blk_alloc ?_ _)); exact BK152.out) hb); have n3_ := Aside0.mk (below_step (by repeat (first | (with_reducible first | exact HB.out | apply below_alloc | apply pw_below_drewN | apply below_drew1 | refine below_set ?_ GE152.out) | exact HB.out)) hb); clear HO158; clear HO162; clear BK152; clear HB; have HO158 := n0_; have HO162 := n1_; have BK152 := n2_; have HB := n3_; clear n0_ n1_ n2_ n3_; (try clear hb); (try clear hb2); (try clear hk); (try clear hi); obtain ⟨Ao101, co101, eo101⟩ := Kd.R_slice HO158.out; subst eo101; obtain ⟨Ao102, co102, eo102⟩ := Kd.R_slice HO162.out; subst eo102))
       go_ret
       exact ⟨by first | rfl | (simp [*, errW_none, errW_some] <;> rfl), by repeat (first | (with_reducible first | exact HB.out | apply below_alloc | apply pw_below_drewN | apply below_drew1 | refine below_set ?_ GE152.out) | exact HB.out)⟩
      ·rw [if_neg c94] at H
       have c94b0 : (t159 == 2) = false := beq_eq_false_iff_ne.mpr c94
       have c94b1 : (t159 != 2) = true := bne_iff_ne.mpr c94
       obtain rfl := Option.some.inj H
       have hcz103_0 : wc.cell? ⟨gb152, 0, none⟩ = some (.string a0_0) := (blk_cell BK152.out 0).trans rfl
       have hcz103_1 : wc.cell? ⟨gb152, 1, none⟩ = some (.string a0_1) := (blk_cell BK152.out 1).trans rfl
       have hfz103_0 := blk_frozen BK152.out 0
       have hfz103_1 := blk_frozen BK152.out 1
       go_wp2_with (first | ((with_reducible refine gate_callee (f := 19) rfl ?_); refine goesL_ (some 21) rfl rfl Tryz.func19 (by kernel_rfl) rfl #[.agg #[.string a0_0, .string a0_1]] rfl (by (try simp only [List.map_toArray, List.map_cons, List.map_nil]); try rfl) ?_; (with_reducible refine (convergent_Terms.calls kj1 a0_0 a0_1 t156 t159 _ ?side1 A14.out).mono ?_); (case side1 => exact GWorld.below HG.out (by repeat (first | (with_reducible first | exact HB.out | apply below_alloc | apply pw_below_drewN | apply below_drew1 | refine below_set ?_ GE152.out) | exact HB.out))); rintro e w104 ⟨v157, rfl, ho0, hb⟩; refine ⟨_, rfl, ?_⟩; have n0_ := Aside0.mk (Kd.R_lower ho0 (below_size (by repeat (first | (with_reducible first | exact HB.out | apply below_alloc | apply pw_below_drewN | apply below_drew1 | refine below_set ?_ GE152.out) | exact HB.out)))); have n1_ := Aside0.mk (blk_below (g := gb152) (o := .cells #[.string a0_0, .string a0_1] 24 (0, 0)) (by (with_reducible repeat (first | refine blk_drewN ?_ _ | refine blk_drew ?_ | refine blk_alloc ?_ _)); exact BK152.out) hb); have n2_ := Aside0.mk (below_step (by repeat (first | (with_reducible first | exact HB.out | apply below_alloc | apply pw_below_drewN | apply below_drew1 | refine below_set ?_ GE152.out) | exact HB.out)) hb); clear BK152; clear HB; have HO158 := n0_; have BK152 := n1_; have HB := n2_; clear n0_ n1_ n2_; (try clear hb); (try clear hb2); (try clear hk); (try clear hi); (try clear ho0); have hcz105_0 : w104.cell? ⟨gb152, 0, none⟩ = some (.string a0_0) := (blk_cell BK152.out 0).trans rfl; have hcz105_1 : w104.cell? ⟨gb152, 1, none⟩ = some (.string a0_1) := (blk_cell BK152.out 1).trans rfl; have hfz105_0 := blk_frozen BK152.out 0; have hfz105_1 := blk_frozen BK152.out 1) | ((with_reducible refine gate_callee (f := 20) rfl ?_); refine goesL_ (some 26) rfl rfl Tryz.func20 (by kernel_rfl) rfl #[.agg #[.string a0_0, .string a0_1]] rfl (by (try simp only [List.map_toArray, List.map_cons, List.map_nil]); try rfl) ?_; (with_reducible refine (convergent_Convergents.calls kj1 a0_0 a0_1 t160 t163 _ ?side1 A15.out).mono ?_); (case side1 => exact GWorld.below HG.out (by repeat (first | (with_reducible first | exact HB.out | apply below_alloc | apply pw_below_drewN | apply below_drew1 | refine below_set ?_ GE152.out) | exact HB.out))); rintro e w106 ⟨v161, rfl, ho0, hb⟩; refine ⟨_, rfl, ?_⟩; have n0_ := Aside0.mk (Kd.R_below (by (with_reducible repeat (first | apply Kd.R_alloc | apply Kd.R_drewN | apply Kd.R_drew)); exact HO158.out) hb); have n1_ := Aside0.mk (Kd.R_lower (Kd.R_newB ho0 (g := gb152) (o := .cells #[.string a0_0, .string a0_1] 24 (0, 0)) (by (with_reducible repeat (first | refine blk_drewN ?_ _ | refine blk_drew ?_ | refine blk_alloc ?_ _)); exact BK152.out)) (below_size (by repeat (first | (with_reducible first | exact HB.out | apply below_alloc | apply pw_below_drewN | apply below_drew1 | refine below_set ?_ GE152.out) | exact HB.out)))); have n2_ := Aside0.mk (blk_below (g := gb152) (o := .cells #[.string a0_0, .string a0_1] 24 (0, 0)) (by (with_reducible repeat (first | refine blk_drewN ?_ _ | refine blk_drew ?_ | refine blk_alloc ?_ _)); exact BK152.out) hb); have n3_ := Aside0.mk (below_step (by repeat (first | (with_reducible first | exact HB.out | apply below_alloc | apply pw_below_drewN | apply below_drew1 | refine below_set ?_ GE152.out) | exact HB.out)) hb); clear HO158; clear BK152; clear HB; have HO158 := n0_; have HO162 := n1_; have BK152 := n2_; have HB := n3_; clear n0_ n1_ n2_ n3_; (try clear hb); (try clear hb2); (try clear hk); (try clear hi); (try clear ho0); have hcz107_0 : w106.cell? ⟨gb152, 0, none⟩ = some (.string a0_0) := (blk_cell BK152.out 0).trans rfl; have hcz107_1 : w106.cell? ⟨gb152, 1, none⟩ = some (.string a0_1) := (blk_cell BK152.out 1).trans rfl; have hfz107_0 := blk_frozen BK152.out 0; have hfz107_1 := blk_frozen BK152.out 1) | ((with_reducible refine gate_callee (f := 15) rfl ?_); refine goesL_ (some 31) rfl rfl Tryz.func15 (by kernel_rfl) rfl #[.agg #[.string a0_0, .string a0_1]] rfl (by (try simp only [List.map_toArray, List.map_cons, List.map_nil]); try rfl) ?_; (with_reducible refine (schismaref04_Parts.calls kj1 a0_0 a0_1 t164 t165 false _ A16.out).mono ?_); rintro e w108 ⟨rfl, hb⟩; refine ⟨_, rfl, ?_⟩; have n0_ := Aside0.mk (Kd.R_below (by (with_reducible repeat (first | apply Kd.R_alloc | apply Kd.R_drewN | apply Kd.R_drew)); exact HO158.out) hb); have n1_ := Aside0.mk (Kd.R_below (by (with_reducible repeat (first | apply Kd.R_alloc | apply Kd.R_drewN | apply Kd.R_drew)); exact HO162.out) hb); have n2_ := Aside0.mk (blk_below (g := gb152) (o := .cells #[.string a0_0, .string a0_1] 24 (0, 0)) (by (with_reducible repeat (first | refine blk_drewN ?_ _ | refine blk_drew ?_ | refine blk_alloc ?_ _)); exact BK152.out) hb); have n3_ := Aside0.mk (below_step (by repeat (first | (with_reducible first | exact HB.out | apply below_alloc | apply pw_below_drewN | apply below_drew1 | refine below_set ?_ GE152.out) | exact HB.out)) hb); clear HO158; clear HO162; clear BK152; clear HB; have HO158 := n0_; have HO162 := n1_; have BK152 := n2_; have HB := n3_; clear n0_ n1_ n2_ n3_; (try clear hb); (try clear hb2); (try clear hk); (try clear hi); obtain ⟨Ao109, co109, eo109⟩ := Kd.R_slice HO158.out; subst eo109; obtain ⟨Ao110, co110, eo110⟩ := Kd.R_slice HO162.out; subst eo110))
       go_ret
       exact ⟨by first | rfl | (simp [*, errW_none, errW_some] <;> rfl), by repeat (first | (with_reducible first | exact HB.out | apply below_alloc | apply pw_below_drewN | apply below_drew1 | refine below_set ?_ GE152.out) | exact HB.out)⟩
     ·rw [if_neg c93] at H
      have c93b0 : ((wrap64 ((t156.length : Int) + (t160.length : Int))) == 0) = false := beq_eq_false_iff_ne.mpr c93
      have c93b1 : ((wrap64 ((t156.length : Int) + (t160.length : Int))) != 0) = true := bne_iff_ne.mpr c93
      obtain rfl := Option.some.inj H
      have hcz111_0 : wc.cell? ⟨gb152, 0, none⟩ = some (.string a0_0) := (blk_cell BK152.out 0).trans rfl
      have hcz111_1 : wc.cell? ⟨gb152, 1, none⟩ = some (.string a0_1) := (blk_cell BK152.out 1).trans rfl
      have hfz111_0 := blk_frozen BK152.out 0
      have hfz111_1 := blk_frozen BK152.out 1
      go_wp2_with (first | ((with_reducible refine gate_callee (f := 19) rfl ?_); refine goesL_ (some 21) rfl rfl Tryz.func19 (by kernel_rfl) rfl #[.agg #[.string a0_0, .string a0_1]] rfl (by (try simp only [List.map_toArray, List.map_cons, List.map_nil]); try rfl) ?_; (with_reducible refine (convergent_Terms.calls kj1 a0_0 a0_1 t156 t159 _ ?side1 A14.out).mono ?_); (case side1 => exact GWorld.below HG.out (by repeat (first | (with_reducible first | exact HB.out | apply below_alloc | apply pw_below_drewN | apply below_drew1 | refine below_set ?_ GE152.out) | exact HB.out))); rintro e w112 ⟨v157, rfl, ho0, hb⟩; refine ⟨_, rfl, ?_⟩; have n0_ := Aside0.mk (Kd.R_lower ho0 (below_size (by repeat (first | (with_reducible first | exact HB.out | apply below_alloc | apply pw_below_drewN | apply below_drew1 | refine below_set ?_ GE152.out) | exact HB.out)))); have n1_ := Aside0.mk (blk_below (g := gb152) (o := .cells #[.string a0_0, .string a0_1] 24 (0, 0)) (by (with_reducible repeat (first | refine blk_drewN ?_ _ | refine blk_drew ?_ | refine blk_alloc ?_ _)); exact BK152.out) hb); have n2_ := Aside0.mk (below_step (by repeat (first | (with_reducible first | exact HB.out | apply below_alloc | apply pw_below_drewN | apply below_drew1 | refine below_set ?_ GE152.out) | exact HB.out)) hb); clear BK152; clear HB; have HO158 := n0_; have BK152 := n1_; have HB := n2_; clear n0_ n1_ n2_; (try clear hb); (try clear hb2); (try clear hk); (try clear hi); (try clear ho0); have hcz113_0 : w112.cell? ⟨gb152, 0, none⟩ = some (.string a0_0) := (blk_cell BK152.out 0).trans rfl; have hcz113_1 : w112.cell? ⟨gb152, 1, none⟩ = some (.string a0_1) := (blk_cell BK152.out 1).trans rfl; have hfz113_0 := blk_frozen BK152.out 0; have hfz113_1 := blk_frozen BK152.out 1) | ((with_reducible refine gate_callee (f := 20) rfl ?_); refine goesL_ (some 26) rfl rfl Tryz.func20 (by kernel_rfl) rfl #[.agg #[.string a0_0, .string a0_1]] rfl (by (try simp only [List.map_toArray, List.map_cons, List.map_nil]); try rfl) ?_; (with_reducible refine (convergent_Convergents.calls kj1 a0_0 a0_1 t160 t163 _ ?side1 A15.out).mono ?_); (case side1 => exact GWorld.below HG.out (by repeat (first | (with_reducible first | exact HB.out | apply below_alloc | apply pw_below_drewN | apply below_drew1 | refine below_set ?_ GE152.out) | exact HB.out))); rintro e w114 ⟨v161, rfl, ho0, hb⟩; refine ⟨_, rfl, ?_⟩; have n0_ := Aside0.mk (Kd.R_below (by (with_reducible repeat (first | apply Kd.R_alloc | apply Kd.R_drewN | apply Kd.R_drew)); exact HO158.out) hb); have n1_ := Aside0.mk (Kd.R_lower (Kd.R_newB ho0 (g := gb152) (o := .cells #[.string a0_0, .string a0_1] 24 (0, 0)) (by (with_reducible repeat (first | refine blk_drewN ?_ _ | refine blk_drew ?_ | refine blk_alloc ?_ _)); exact BK152.out)) (below_size (by repeat (first | (with_reducible first | exact HB.out | apply below_alloc | apply pw_below_drewN | apply below_drew1 | refine below_set ?_ GE152.out) | exact HB.out)))); have n2_ := Aside0.mk (blk_below (g := gb152) (o := .cells #[.string a0_0, .string a0_1] 24 (0, 0)) (by (with_reducible repeat (first | refine blk_drewN ?_ _ | refine blk_drew ?_ | refine blk_alloc ?_ _)); exact BK152.out) hb); have n3_ := Aside0.mk (below_step (by repeat (first | (with_reducible first | exact HB.out | apply below_alloc | apply pw_below_drewN | apply below_drew1 | refine below_set ?_ GE152.out) | exact HB.out)) hb); clear HO158; clear BK152; clear HB; have HO158 := n0_; have HO162 := n1_; have BK152 := n2_; have HB := n3_; clear n0_ n1_ n2_ n3_; (try clear hb); (try clear hb2); (try clear hk); (try clear hi); (try clear ho0); have hcz115_0 : w114.cell? ⟨gb152, 0, none⟩ = some (.string a0_0) := (blk_cell BK152.out 0).trans rfl; have hcz115_1 : w114.cell? ⟨gb152, 1, none⟩ = some (.string a0_1) := (blk_cell BK152.out 1).trans rfl; have hfz115_0 := blk_frozen BK152.out 0; have hfz115_1 := blk_frozen BK152.out 1) | ((with_reducible refine gate_callee (f := 15) rfl ?_); refine goesL_ (some 31) rfl rfl Tryz.func15 (by kernel_rfl) rfl #[.agg #[.string a0_0, .string a0_1]] rfl (by (try simp only [List.map_toArray, List.map_cons, List.map_nil]); try rfl) ?_; (with_reducible refine (schismaref04_Parts.calls kj1 a0_0 a0_1 t164 t165 false _ A16.out).mono ?_); rintro e w116 ⟨rfl, hb⟩; refine ⟨_, rfl, ?_⟩; have n0_ := Aside0.mk (Kd.R_below (by (with_reducible repeat (first | apply Kd.R_alloc | apply Kd.R_drewN | apply Kd.R_drew)); exact HO158.out) hb); have n1_ := Aside0.mk (Kd.R_below (by (with_reducible repeat (first | apply Kd.R_alloc | apply Kd.R_drewN | apply Kd.R_drew)); exact HO162.out) hb); have n2_ := Aside0.mk (blk_below (g := gb152) (o := .cells #[.string a0_0, .string a0_1] 24 (0, 0)) (by (with_reducible repeat (first | refine blk_drewN ?_ _ | refine blk_drew ?_ | refine blk_alloc ?_ _)); exact BK152.out) hb); have n3_ := Aside0.mk (below_step (by repeat (first | (with_reducible first | exact HB.out | apply below_alloc | apply pw_below_drewN | apply below_drew1 | refine below_set ?_ GE152.out) | exact HB.out)) hb); clear HO158; clear HO162; clear BK152; clear HB; have HO158 := n0_; have HO162 := n1_; have BK152 := n2_; have HB := n3_; clear n0_ n1_ n2_ n3_; (try clear hb); (try clear hb2); (try clear hk); (try clear hi); obtain ⟨Ao117, co117, eo117⟩ := Kd.R_slice HO158.out; subst eo117; obtain ⟨Ao118, co118, eo118⟩ := Kd.R_slice HO162.out; subst eo118))
      go_ret
      exact ⟨by first | rfl | (simp [*, errW_none, errW_some] <;> rfl), by repeat (first | (with_reducible first | exact HB.out | apply below_alloc | apply pw_below_drewN | apply below_drew1 | refine below_set ?_ GE152.out) | exact HB.out)⟩
end Go.Proofs.YtidajgkepdkcbaaGreatDoor.PL
end
section
namespace Go.Proofs.YtidajgkepdkcbaaGreatDoor
open Go.RowKit Go.Lib Go.Proofs.YtidajgkepdkcbaaGreatDoorW.PrintWords Go.Proofs.YtidajgkepdkcbaaGreatDoorW.PrintLast Go.Proofs.YtidajgkepdkcbaaGreatDoorW.PrintMore PF PL
theorem te_true (a b : ByteArray) : Ev (fun k => schismalaw04_ConvergentTerms.j0 k true a b) true := by
 refine Ev.step (fun k => by rw [schismalaw04_ConvergentTerms.j0, if_pos rfl]) ?_
 exact Ev.bind Known (ev_const fun _ => rfl)
theorem T13 {i : Int} (h : (T i).size ≤ 13) : -1000000000000 < i ∧ i < 10000000000000 := by
 have := lt_of_T_size (i := i) (k := 12) (by omega)
 omega
theorem CTerms_no {a b : ByteArray} (ha : a.size ≤ 17) (hb : b.size ≤ 17) (h : ∀ n d, a = T n → b = T d → ¬ Fr n d) : Ev (fun k => convergent_Terms.f k a b) ([], 2) := by
 unfold convergent_Terms.f
 exact Ev.bind (Wrong_yes ha hb h) (Ev.congr (fun k => if_pos rfl) (ev_const fun _ => rfl))
theorem Convergents_no {a b : ByteArray} (ha : a.size ≤ 17) (hb : b.size ≤ 17) (h : ∀ n d, a = T n → b = T d → ¬ Fr n d) : Ev (fun k => convergent_Convergents.f k a b) ([], 2) := by
 unfold convergent_Convergents.f
 exact Ev.bind (CTerms_no ha hb h) (Ev.congr (fun k => if_neg (by omega)) (ev_const fun _ => rfl))
theorem cf_small {n d : Int} (h0 : 0 < d) (hd2 : d < 10000000000000) : ∃ ts, isCf ts n d ∧ ts.length ≤ 1000 := by
 obtain ⟨ts, h1, h2⟩ := isCf_exists 60 n d h0 (by omega)
 exact ⟨ts, h1, by omega⟩
theorem cf_S17 {n d : Int} {ts : List Int} (hts : isCf ts n d) (hn1 : -10000000000000 < n) (hn2 : n < 10000000000000) (h0 : 0 < d) (hd2 : d < 10000000000000) : ∀ a ∈ ts, S17 a := by
 obtain ⟨G, g0, gs⟩ := conv_G hn1 hn2 h0 hd2 hts
 have : ∀ (m k : Nat) (c : CS), ts.length = k + m → G k c → ∀ i, k ≤ i → (h : i < ts.length) → S17 ts[i] := by
  intro m
  induction m with
  | zero => intro k c _ _ i h1 h2; omega
  | succ m ih =>
   intro k c hk hG i h1 h2
   obtain ⟨ok, hG'⟩ := gs k c _ hG (List.getElem?_eq_getElem (show k < ts.length by omega))
   rcases Nat.eq_or_lt_of_le h1 with h | h
   ·subst h
    have := ok.step.hj
    exact this.S17
   ·exact ih (k + 1) _ (by omega) hG' i (by omega) h2
 intro a ha
 obtain ⟨i, hi, rfl⟩ := List.mem_iff_getElem.1 ha
 exact this ts.length 0 CS.begin (by omega) g0 i (Nat.zero_le _) hi
theorem convs_last {n d : Int} {ts : List Int} (hts : isCf ts n d) (hF : Fr n d) (hn1 : -10000000000000 < n) (hn2 : n < 10000000000000) (hd2 : d < 10000000000000) : (convs CS.begin ts)[ts.length - 1]? = some (n, d) := by
 obtain ⟨G, g0, gs⟩ := conv_G hn1 hn2 hF.1 hd2 hts
 have hne := List.length_pos_iff.2 hts.ne_nil
 have : ∀ (m k : Nat) (c : CS), ts.length = k + (m + 1) → G k c → (convs c (ts.drop k))[m]? = some (n, d) := by
  intro m
  induction m with
  | zero =>
   intro k c hk hG
   have hlt : k < ts.length := by omega
   obtain ⟨ok, _⟩ := gs k c _ hG (List.getElem?_eq_getElem hlt)
   obtain ⟨e1, e2⟩ := ok.last (by omega) hF
   rw [List.drop_eq_getElem_cons hlt, convs]
   simp [e1, e2]
  | succ m ih =>
   intro k c hk hG
   have hlt : k < ts.length := by omega
   obtain ⟨_, hG'⟩ := gs k c _ hG (List.getElem?_eq_getElem hlt)
   rw [List.drop_eq_getElem_cons hlt, convs]
   simpa using ih (k + 1) (c.next ts[k]) (by omega) hG'
 have h := this (ts.length - 1) 0 CS.begin (by omega) g0
 simpa using h
theorem te_false (a b : ByteArray) (ha : a.size ≤ 13) (hb : b.size ≤ 13) : Ev (fun k => schismalaw04_ConvergentTerms.j0 k false a b) true := by
 refine Ev.step (fun k => by rw [schismalaw04_ConvergentTerms.j0, if_neg (by simp)]) ?_
 rcases said a b with ⟨n, d, rfl, rfl, hF⟩ | h
 ·have hn := T13 ha
  have hd := T13 hb
  have h0 := hF.1
  obtain ⟨ts, hts, hl⟩ := cf_small (n := n) h0 hd.2
  refine Ev.bind (CTerms_T hts (by unfold S17; omega) (by unfold S17; omega) hF hl) ?_
  refine Ev.bind (Convergents_T hts hF (by omega) hn.2 hd.2 hl) ?_
  refine Ev.bind (Parts_yes (by omega) (by omega) hF) (Ev.congr (fun k => if_pos rfl) ?_)
  refine Ev.bind (RTerms (n := n) (d := d) hts (by omega) h0 (by omega) (by omega)) ?_
  refine Ev.bind (Ints_T (by omega) (cf_S17 hts (by omega) hn.2 h0 hd.2)) (Ev.congr (fun k => by rw [if_pos rfl, if_pos rfl]) ?_)
  refine Ev.bind (RConvergents hts (by omega) hn.2 h0 hd.2 hl) ?_
  have hlc : ((convs CS.begin ts).map sf).length = ts.length := by rw [List.length_map, convs_len]
  have hpos := List.length_pos_iff.2 hts.ne_nil
  refine Ev.bind (Same_self (by rw [hlc]; omega)) (Ev.congr (fun k => by rw [if_pos rfl, if_pos rfl]) ?_)
  simp only [hlc]
  rw [w64 (x := (ts.length : Int) - 1) (by omega) (by omega)]
  refine Ev.congr (fun k => by rw [if_pos (by omega), if_pos (by omega)]) (ev_const fun _ => ?_)
  have hlast := convs_last hts hF (by omega) hn.2 hd.2
  have et : ((ts.length : Int) - 1).toNat = ts.length - 1 := by omega
  have e : rd_T24 ((convs CS.begin ts).map sf) ((ts.length : Int) - 1) = sf (n, d) := by
   unfold rd_T24
   rw [et, List.getD_eq_getElem?_getD, List.getElem?_map, hlast]
   rfl
  rw [e]
  simp [sf]
 ·refine Ev.bind (CTerms_no (by omega) (by omega) h) (Ev.bind (Convergents_no (by omega) (by omega) h) (Ev.bind (Parts_no (by omega) (by omega) h) (Ev.congr (fun k => if_neg (by simp)) (ev_const fun _ => ?_))))
  simp only [List.length_nil]
  rw [w64 (by simp) (by simp)]
  simp
theorem ConvergentTerms_true (a b : ByteArray) : ∃ k, schismalaw04_ConvergentTerms.f k a b = some true := by
 refine Ev.rounds (g := fun k => schismalaw04_ConvergentTerms.f k a b) ?_
 unfold schismalaw04_ConvergentTerms.f
 refine Ev.bind Known (Ev.congr (fun k => if_pos rfl) ?_)
 have hs : schismalaw04_short.f a b = some (decide (a.size ≤ 13 ∧ b.size ≤ 13)) := by
  unfold schismalaw04_short.f
  by_cases h : a.size ≤ 13
  ·rw [if_pos (by omega)]
   congr 1
   by_cases h2 : b.size ≤ 13
   ·rw [decide_eq_true (by omega), decide_eq_true ⟨h, h2⟩]
   ·rw [decide_eq_false (by omega), decide_eq_false (fun hh => h2 hh.2)]
  ·rw [if_neg (by omega), decide_eq_false (fun hh => h hh.1)]
 refine Ev.bind (ev_const fun _ => hs) ?_
 by_cases h : a.size ≤ 13 ∧ b.size ≤ 13
 ·rw [decide_eq_true h]; exact te_false a b h.1 h.2
 ·rw [decide_eq_false h]; exact te_true a b
end Go.Proofs.YtidajgkepdkcbaaGreatDoor
end
