/- A part of the proof in QSp5. -/
import Derived.Test.YtidajgkepdkcbaaGreatDoorQSp3
set_option linter.unusedVariables false
set_option linter.unusedSimpArgs false
section
namespace Go.Proofs.YtidajgkepdkcbaaGreatDoor.PL
open Go.RowKit Go.Proofs.YtidajgkepdkcbaaGreatDoorW.PrintWords Go.Proofs.YtidajgkepdkcbaaGreatDoorW.PrintLast Go.Proofs.YtidajgkepdkcbaaGreatDoorW.PrintMore Go.Proofs.YtidajgkepdkcbaaGreatDoor.PF
attribute [local go_sem] max2_int min2_int max_two min_two max_three min_three max_four min_four
noncomputable def schismalaw04_known.f (k : Nat)  : Option (Bool) := (schismaref04_Make.f k 7 12).bind fun bt101 => ((convergent_Terms.f k bt101.1 bt101.2).bind fun bt104 => ((schismaref04_Make.f k 3 5).bind fun bt108 => ((convergent_Path.f k bt108.1 bt108.2).bind fun bt110 => ((convergent_Best.f k bt101.1 bt101.2 7).bind fun bt112 => (if bt104.2 = 0 then ((schismalaw04_ints.f k bt104.1 (([0, 1, 1, 2, 2] : List Int))).bind fun t119 => (if t119 = true then (if bt110.2 = 0 then (if bt110.1.toList = ([76, 82, 76] : List UInt8) then (if bt112.2 = 0 then ((schismaref04_Make.f k 1 1).bind fun bt120 => ((schismaref04_Make.f k 1 2).bind fun bt122 => ((schismaref04_Make.f k 3 5).bind fun bt124 => ((schismaref04_Make.f k 4 7).bind fun bt126 => ((schismalaw04_same.f k bt112.1 (([(⟨bt120.1, bt120.2⟩ : S24), (⟨bt122.1, bt122.2⟩ : S24), (⟨bt124.1, bt124.2⟩ : S24), (⟨bt126.1, bt126.2⟩ : S24)] : List (S24)))).bind fun t131 => (some t131)))))) else (some false)) else (some false)) else (some false)) else (some false))) else (some false))))))
set_option maxHeartbeats 8000000 in
set_option maxRecDepth 100000 in
theorem schismalaw04_known.calls (k : Nat)  (r : Bool) (w : World) (hG_ : GWorld w) (h : schismalaw04_known.f k  = some r) :
  Calls Tryz.prog 13 #[] w fun e w' => e = .returned (.bool r) ∧ Below w.heap.size w w' := by
 have hu24 := Tryz.underlying24
 have HB := Aside0.mk (Below.refl w.heap.size w)
 have HG := Aside0.mk hG_
 clear hG_
 have H : ((schismaref04_Make.f k 7 12).bind fun bt101 => ((convergent_Terms.f k bt101.1 bt101.2).bind fun bt104 => ((schismaref04_Make.f k 3 5).bind fun bt108 => ((convergent_Path.f k bt108.1 bt108.2).bind fun bt110 => ((convergent_Best.f k bt101.1 bt101.2 7).bind fun bt112 => (if bt104.2 = 0 then ((schismalaw04_ints.f k bt104.1 (([0, 1, 1, 2, 2] : List Int))).bind fun t119 => (if t119 = true then (if bt110.2 = 0 then (if bt110.1.toList = ([76, 82, 76] : List UInt8) then (if bt112.2 = 0 then ((schismaref04_Make.f k 1 1).bind fun bt120 => ((schismaref04_Make.f k 1 2).bind fun bt122 => ((schismaref04_Make.f k 3 5).bind fun bt124 => ((schismaref04_Make.f k 4 7).bind fun bt126 => ((schismalaw04_same.f k bt112.1 (([(⟨bt120.1, bt120.2⟩ : S24), (⟨bt122.1, bt122.2⟩ : S24), (⟨bt124.1, bt124.2⟩ : S24), (⟨bt126.1, bt126.2⟩ : S24)] : List (S24)))).bind fun t131 => (some t131)))))) else (some false)) else (some false)) else (some false)) else (some false))) else (some false))))))) = some r := h
 clear h
 replace H := Option.bind_eq_some_iff.mp H
 obtain ⟨⟨t101, t102⟩, A10, H⟩ := H
 replace H : ((convergent_Terms.f k t101 t102).bind fun bt104 => ((schismaref04_Make.f k 3 5).bind fun bt108 => ((convergent_Path.f k bt108.1 bt108.2).bind fun bt110 => ((convergent_Best.f k t101 t102 7).bind fun bt112 => (if bt104.2 = 0 then ((schismalaw04_ints.f k bt104.1 (([0, 1, 1, 2, 2] : List Int))).bind fun t119 => (if t119 = true then (if bt110.2 = 0 then (if bt110.1.toList = ([76, 82, 76] : List UInt8) then (if bt112.2 = 0 then ((schismaref04_Make.f k 1 1).bind fun bt120 => ((schismaref04_Make.f k 1 2).bind fun bt122 => ((schismaref04_Make.f k 3 5).bind fun bt124 => ((schismaref04_Make.f k 4 7).bind fun bt126 => ((schismalaw04_same.f k bt112.1 (([(⟨bt120.1, bt120.2⟩ : S24), (⟨bt122.1, bt122.2⟩ : S24), (⟨bt124.1, bt124.2⟩ : S24), (⟨bt126.1, bt126.2⟩ : S24)] : List (S24)))).bind fun t131 => (some t131)))))) else (some false)) else (some false)) else (some false)) else (some false))) else (some false)))))) = some r := H
 have A1 := Aside0.mk A10
 clear A10
 replace H := Option.bind_eq_some_iff.mp H
 obtain ⟨⟨t104, t107⟩, A20, H⟩ := H
 replace H : ((schismaref04_Make.f k 3 5).bind fun bt108 => ((convergent_Path.f k bt108.1 bt108.2).bind fun bt110 => ((convergent_Best.f k t101 t102 7).bind fun bt112 => (if t107 = 0 then ((schismalaw04_ints.f k t104 (([0, 1, 1, 2, 2] : List Int))).bind fun t119 => (if t119 = true then (if bt110.2 = 0 then (if bt110.1.toList = ([76, 82, 76] : List UInt8) then (if bt112.2 = 0 then ((schismaref04_Make.f k 1 1).bind fun bt120 => ((schismaref04_Make.f k 1 2).bind fun bt122 => ((schismaref04_Make.f k 3 5).bind fun bt124 => ((schismaref04_Make.f k 4 7).bind fun bt126 => ((schismalaw04_same.f k bt112.1 (([(⟨bt120.1, bt120.2⟩ : S24), (⟨bt122.1, bt122.2⟩ : S24), (⟨bt124.1, bt124.2⟩ : S24), (⟨bt126.1, bt126.2⟩ : S24)] : List (S24)))).bind fun t131 => (some t131)))))) else (some false)) else (some false)) else (some false)) else (some false))) else (some false))))) = some r := H
 have A2 := Aside0.mk A20
 clear A20
 replace H := Option.bind_eq_some_iff.mp H
 obtain ⟨⟨t108, t109⟩, A30, H⟩ := H
 replace H : ((convergent_Path.f k t108 t109).bind fun bt110 => ((convergent_Best.f k t101 t102 7).bind fun bt112 => (if t107 = 0 then ((schismalaw04_ints.f k t104 (([0, 1, 1, 2, 2] : List Int))).bind fun t119 => (if t119 = true then (if bt110.2 = 0 then (if bt110.1.toList = ([76, 82, 76] : List UInt8) then (if bt112.2 = 0 then ((schismaref04_Make.f k 1 1).bind fun bt120 => ((schismaref04_Make.f k 1 2).bind fun bt122 => ((schismaref04_Make.f k 3 5).bind fun bt124 => ((schismaref04_Make.f k 4 7).bind fun bt126 => ((schismalaw04_same.f k bt112.1 (([(⟨bt120.1, bt120.2⟩ : S24), (⟨bt122.1, bt122.2⟩ : S24), (⟨bt124.1, bt124.2⟩ : S24), (⟨bt126.1, bt126.2⟩ : S24)] : List (S24)))).bind fun t131 => (some t131)))))) else (some false)) else (some false)) else (some false)) else (some false))) else (some false)))) = some r := H
 have A3 := Aside0.mk A30
 clear A30
 replace H := Option.bind_eq_some_iff.mp H
 obtain ⟨⟨t110, t111⟩, A40, H⟩ := H
 replace H : ((convergent_Best.f k t101 t102 7).bind fun bt112 => (if t107 = 0 then ((schismalaw04_ints.f k t104 (([0, 1, 1, 2, 2] : List Int))).bind fun t119 => (if t119 = true then (if t111 = 0 then (if t110.toList = ([76, 82, 76] : List UInt8) then (if bt112.2 = 0 then ((schismaref04_Make.f k 1 1).bind fun bt120 => ((schismaref04_Make.f k 1 2).bind fun bt122 => ((schismaref04_Make.f k 3 5).bind fun bt124 => ((schismaref04_Make.f k 4 7).bind fun bt126 => ((schismalaw04_same.f k bt112.1 (([(⟨bt120.1, bt120.2⟩ : S24), (⟨bt122.1, bt122.2⟩ : S24), (⟨bt124.1, bt124.2⟩ : S24), (⟨bt126.1, bt126.2⟩ : S24)] : List (S24)))).bind fun t131 => (some t131)))))) else (some false)) else (some false)) else (some false)) else (some false))) else (some false))) = some r := H
 have A4 := Aside0.mk A40
 clear A40
 replace H := Option.bind_eq_some_iff.mp H
 obtain ⟨⟨t112, t115⟩, A50, H⟩ := H
 replace H : (if t107 = 0 then ((schismalaw04_ints.f k t104 (([0, 1, 1, 2, 2] : List Int))).bind fun t119 => (if t119 = true then (if t111 = 0 then (if t110.toList = ([76, 82, 76] : List UInt8) then (if t115 = 0 then ((schismaref04_Make.f k 1 1).bind fun bt120 => ((schismaref04_Make.f k 1 2).bind fun bt122 => ((schismaref04_Make.f k 3 5).bind fun bt124 => ((schismaref04_Make.f k 4 7).bind fun bt126 => ((schismalaw04_same.f k t112 (([(⟨bt120.1, bt120.2⟩ : S24), (⟨bt122.1, bt122.2⟩ : S24), (⟨bt124.1, bt124.2⟩ : S24), (⟨bt126.1, bt126.2⟩ : S24)] : List (S24)))).bind fun t131 => (some t131)))))) else (some false)) else (some false)) else (some false)) else (some false))) else (some false)) = some r := H
 have A5 := Aside0.mk A50
 clear A50
 by_cases c6 : t107 = 0
 ·rw [if_pos c6] at H
  have c6b0 : (t107 == 0) = true := beq_iff_eq.mpr c6
  have c6b1 : (t107 != 0) = false := bne_eq_false_iff_eq.mpr c6
  clear c6
  obtain ⟨y116, hy116⟩ : ∃ y_ : List Int, y_ = (([0, 1, 1, 2, 2] : List Int)) := ⟨_, rfl⟩
  replace H : ((schismalaw04_ints.f k t104 y116).bind fun t119 => (if t119 = true then (if t111 = 0 then (if t110.toList = ([76, 82, 76] : List UInt8) then (if t115 = 0 then ((schismaref04_Make.f k 1 1).bind fun bt120 => ((schismaref04_Make.f k 1 2).bind fun bt122 => ((schismaref04_Make.f k 3 5).bind fun bt124 => ((schismaref04_Make.f k 4 7).bind fun bt126 => ((schismalaw04_same.f k t112 (([(⟨bt120.1, bt120.2⟩ : S24), (⟨bt122.1, bt122.2⟩ : S24), (⟨bt124.1, bt124.2⟩ : S24), (⟨bt126.1, bt126.2⟩ : S24)] : List (S24)))).bind fun t131 => (some t131)))))) else (some false)) else (some false)) else (some false)) else (some false))) = some r := by first | (rw [hy116]; with_reducible exact H) | (have H2_ := (Option.bind_some _ _).symm.trans H; rw [hy116]; with_reducible exact H2_) | (have H2_ := (Option.bind_some _ _).symm.trans H; with_reducible exact H2_) | with_reducible exact H | (rw [hy116]; exact H) | exact H
  have Ny116 := Aside0.mk hy116
  clear hy116
  replace H := Option.bind_eq_some_iff.mp H
  obtain ⟨t119, A70, H⟩ := H
  replace H : (if t119 = true then (if t111 = 0 then (if t110.toList = ([76, 82, 76] : List UInt8) then (if t115 = 0 then ((schismaref04_Make.f k 1 1).bind fun bt120 => ((schismaref04_Make.f k 1 2).bind fun bt122 => ((schismaref04_Make.f k 3 5).bind fun bt124 => ((schismaref04_Make.f k 4 7).bind fun bt126 => ((schismalaw04_same.f k t112 (([(⟨bt120.1, bt120.2⟩ : S24), (⟨bt122.1, bt122.2⟩ : S24), (⟨bt124.1, bt124.2⟩ : S24), (⟨bt126.1, bt126.2⟩ : S24)] : List (S24)))).bind fun t131 => (some t131)))))) else (some false)) else (some false)) else (some false)) else (some false)) = some r := H
  have A7 := Aside0.mk A70
  clear A70
  by_cases c8 : t119 = true
  ·subst c8
   have H1 : (if t111 = 0 then (if t110.toList = ([76, 82, 76] : List UInt8) then (if t115 = 0 then ((schismaref04_Make.f k 1 1).bind fun bt120 => ((schismaref04_Make.f k 1 2).bind fun bt122 => ((schismaref04_Make.f k 3 5).bind fun bt124 => ((schismaref04_Make.f k 4 7).bind fun bt126 => ((schismalaw04_same.f k t112 (([(⟨bt120.1, bt120.2⟩ : S24), (⟨bt122.1, bt122.2⟩ : S24), (⟨bt124.1, bt124.2⟩ : S24), (⟨bt126.1, bt126.2⟩ : S24)] : List (S24)))).bind fun t131 => (some t131)))))) else (some false)) else (some false)) else (some false)) = some r := by rw [if_pos rfl] at H; exact H
   clear H
   have H := H1
   clear H1
   by_cases c9 : t111 = 0
   ·rw [if_pos c9] at H
    have c9b0 : (t111 == 0) = true := beq_iff_eq.mpr c9
    have c9b1 : (t111 != 0) = false := bne_eq_false_iff_eq.mpr c9
    clear c9
    by_cases c10 : t110.toList = ([76, 82, 76] : List UInt8)
    ·rw [if_pos c10] at H
     have c10b0 : (t110.toList == ([76, 82, 76] : List UInt8)) = true := beq_iff_eq.mpr c10
     have c10b1 : (t110.toList != ([76, 82, 76] : List UInt8)) = false := bne_eq_false_iff_eq.mpr c10
     clear c10
     by_cases c11 : t115 = 0
     ·rw [if_pos c11] at H
      have c11b0 : (t115 == 0) = true := beq_iff_eq.mpr c11
      have c11b1 : (t115 != 0) = false := bne_eq_false_iff_eq.mpr c11
      clear c11
      replace H := Option.bind_eq_some_iff.mp H
      obtain ⟨⟨t120, t121⟩, A120, H⟩ := H
      replace H : ((schismaref04_Make.f k 1 2).bind fun bt122 => ((schismaref04_Make.f k 3 5).bind fun bt124 => ((schismaref04_Make.f k 4 7).bind fun bt126 => ((schismalaw04_same.f k t112 (([(⟨t120, t121⟩ : S24), (⟨bt122.1, bt122.2⟩ : S24), (⟨bt124.1, bt124.2⟩ : S24), (⟨bt126.1, bt126.2⟩ : S24)] : List (S24)))).bind fun t131 => (some t131))))) = some r := H
      have A12 := Aside0.mk A120
      clear A120
      replace H := Option.bind_eq_some_iff.mp H
      obtain ⟨⟨t122, t123⟩, A130, H⟩ := H
      replace H : ((schismaref04_Make.f k 3 5).bind fun bt124 => ((schismaref04_Make.f k 4 7).bind fun bt126 => ((schismalaw04_same.f k t112 (([(⟨t120, t121⟩ : S24), (⟨t122, t123⟩ : S24), (⟨bt124.1, bt124.2⟩ : S24), (⟨bt126.1, bt126.2⟩ : S24)] : List (S24)))).bind fun t131 => (some t131)))) = some r := H
      have A13 := Aside0.mk A130
      clear A130
      replace H := Option.bind_eq_some_iff.mp H
      obtain ⟨⟨t124, t125⟩, A140, H⟩ := H
      replace H : ((schismaref04_Make.f k 4 7).bind fun bt126 => ((schismalaw04_same.f k t112 (([(⟨t120, t121⟩ : S24), (⟨t122, t123⟩ : S24), (⟨t124, t125⟩ : S24), (⟨bt126.1, bt126.2⟩ : S24)] : List (S24)))).bind fun t131 => (some t131))) = some r := H
      have A14 := Aside0.mk A140
      clear A140
      replace H := Option.bind_eq_some_iff.mp H
      obtain ⟨⟨t126, t127⟩, A150, H⟩ := H
      replace H : ((schismalaw04_same.f k t112 (([(⟨t120, t121⟩ : S24), (⟨t122, t123⟩ : S24), (⟨t124, t125⟩ : S24), (⟨t126, t127⟩ : S24)] : List (S24)))).bind fun t131 => (some t131)) = some r := H
      have A15 := Aside0.mk A150
      clear A150
      obtain ⟨y128, hy128⟩ : ∃ y_ : List (S24), y_ = (([(⟨t120, t121⟩ : S24), (⟨t122, t123⟩ : S24), (⟨t124, t125⟩ : S24), (⟨t126, t127⟩ : S24)] : List (S24))) := ⟨_, rfl⟩
      replace H : ((schismalaw04_same.f k t112 y128).bind fun t131 => (some t131)) = some r := by first | (rw [hy128]; with_reducible exact H) | (have H2_ := (Option.bind_some _ _).symm.trans H; rw [hy128]; with_reducible exact H2_) | (have H2_ := (Option.bind_some _ _).symm.trans H; with_reducible exact H2_) | with_reducible exact H | (rw [hy128]; exact H) | exact H
      have Ny128 := Aside0.mk hy128
      clear hy128
      replace H := Option.bind_eq_some_iff.mp H
      obtain ⟨t131, A160, H⟩ := H
      replace H : (some t131) = some r := H
      have A16 := Aside0.mk A160
      clear A160
      obtain rfl := Option.some.inj H
      go_enter Tryz.func13, Tryz.ntmps13
      go_wp2_with (first | ((with_reducible refine gate_callee (f := 17) rfl ?_); refine goesL_ (some 8) rfl rfl Tryz.func17 (by kernel_rfl) rfl #[.int .i64 7, .int .i64 12] rfl mp_ ?_; (with_reducible refine (schismaref04_Make.calls k 7 12 t101 t102 _ A1.out).mono ?_); rintro e w17 ⟨rfl, hb⟩; refine ⟨_, rfl, ?_⟩; replace HB := bs_ hb; (try clear hb); (try clear hb2); (try clear hk); (try clear hi)) | ((with_reducible refine gate_dst (N := 1) rfl ?_); (try (refine gate_guard (by rfl) ?_; dsimp only)); refine bx_ 1 #[.string (⟨#[]⟩ : ByteArray), .string (⟨#[]⟩ : ByteArray)] 24 ?_; clear HB; intro gb103 w18 BK103 GW103 HB; have GE103 := GW103; obtain ⟨hcz19_0, hcz19_1, hfz19_0, hfz19_1⟩ := c2_ BK103) | ((with_reducible refine gate_callee (f := 19) rfl ?_); refine goesL_ (some 11) rfl rfl Tryz.func19 (by kernel_rfl) rfl #[.agg #[.string t101, .string t102]] rfl mp_ ?_; (with_reducible refine (convergent_Terms.calls k t101 t102 t104 t107 _ ?side1 A2.out).mono ?_); (case side1 => exact gw_ HG); rintro e w20 ⟨v105, rfl, ho0, hb⟩; refine ⟨_, rfl, ?_⟩; have HO106 := Aside0.mk (Kd.R_lower ho0 (below_size bl_)); replace BK103 := Aside0.mk (blk_below (g := gb103) (o := .cells #[.string t101, .string t102] 24 (0, 0)) (by (with_reducible repeat (first | refine blk_drewN ?_ _ | refine blk_drew ?_ | refine blk_alloc ?_ _)); refine blk_put (cs := #[.string t101, .string (⟨#[]⟩ : ByteArray)]) ?_ 1 _ rfl; (with_reducible repeat (first | refine blk_drewN ?_ _ | refine blk_drew ?_ | refine blk_alloc ?_ _)); refine blk_put (cs := #[.string (⟨#[]⟩ : ByteArray), .string (⟨#[]⟩ : ByteArray)]) ?_ 0 _ rfl; (with_reducible repeat (first | refine blk_drewN ?_ _ | refine blk_drew ?_ | refine blk_alloc ?_ _)); exact BK103.out) hb); replace HB := bs_ hb; (try clear hb); (try clear hb2); (try clear hk); (try clear hi); (try clear ho0)) | ((with_reducible refine gate_callee (f := 17) rfl ?_); refine goesL_ (some 15) rfl rfl Tryz.func17 (by kernel_rfl) rfl #[.int .i64 3, .int .i64 5] rfl mp_ ?_; (with_reducible refine (schismaref04_Make.calls k 3 5 t108 t109 _ A3.out).mono ?_); rintro e w21 ⟨rfl, hb⟩; refine ⟨_, rfl, ?_⟩; replace HO106 := rb_ HO106 hb; replace BK103 := kb_ BK103 hb; replace HB := bs_ hb; (try clear hb); (try clear hb2); (try clear hk); (try clear hi)) | ((with_reducible refine gate_callee (f := 32) rfl ?_); refine goesL_ (some 16) rfl rfl Tryz.func32 (by kernel_rfl) rfl #[.agg #[.string t108, .string t109]] rfl mp_ ?_; (with_reducible refine (convergent_Path.calls k t108 t109 t110 t111 _ ?side1 A4.out).mono ?_); (case side1 => exact gw_ HG); rintro e w22 ⟨rfl, hb⟩; refine ⟨_, rfl, ?_⟩; replace HO106 := rb_ HO106 hb; replace BK103 := kb_ BK103 hb; replace HB := bs_ hb; (try clear hb); (try clear hb2); (try clear hk); (try clear hi); obtain ⟨hcz23_0, hcz23_1, hfz23_0, hfz23_1⟩ := c2_ BK103) | ((with_reducible refine gate_callee (f := 28) rfl ?_); refine goesL_ (some 21) rfl rfl Tryz.func28 (by kernel_rfl) rfl #[.agg #[.string t101, .string t102], .int .i64 7] rfl mp_ ?_; (with_reducible refine (convergent_Best.calls k t101 t102 7 t112 t115 _ ?side1 A5.out).mono ?_); (case side1 => exact gw_ HG); rintro e w24 ⟨v113, rfl, ho0, hb⟩; refine ⟨_, rfl, ?_⟩; replace HO106 := rb_ HO106 hb; have HO114 := Aside0.mk (Kd.R_lower (Kd.R_newB ho0 (g := gb103) (o := .cells #[.string t101, .string t102] 24 (0, 0)) bk_) (below_size bl_)); replace BK103 := kb_ BK103 hb; replace HB := bs_ hb; (try clear hb); (try clear hb2); (try clear hk); (try clear hi); (try clear ho0)) | ((with_reducible refine gate_dst (N := 28) rfl ?_); (try (refine gate_guard (by rfl) ?_; dsimp only)); refine Kd.R_lit (Kd.int .i64) _ 3 ?hg (N := 28) ?hd (xs := ([0, 1, 1, 2, 2] : List Int)) (inner := [.int .i64 0, .int .i64 1, .int .i64 1, .int .i64 2, .int .i64 2]) (ok := fun _ => True) (okp := fun _ => True) ?hr ?hp (fun _ hk => hk) trivial (Below.refl _ _) (Nat.le_refl _) (by simp) ?_; (case hd => rfl); (case hg => rfl); (case hr => first | (go_simp; done) | (go_simp; rfl)); (case hp => exact (Reps.one (show Kd.M (Kd.int .i64) _ _ _ 0 [.int .i64 0] from rfl) (Reps.one (show Kd.M (Kd.int .i64) _ _ _ 1 [.int .i64 1] from rfl) (Reps.one (show Kd.M (Kd.int .i64) _ _ _ 1 [.int .i64 1] from rfl) (Reps.one (show Kd.M (Kd.int .i64) _ _ _ 2 [.int .i64 2] from rfl) (Reps.one (show Kd.M (Kd.int .i64) _ _ _ 2 [.int .i64 2] from rfl) (Reps.none _ _))))))); intro v117 w25 ho26 hb hg_ hnew_; clear hg_ hnew_; (first | rw [← Ny116.out] at ho26 | (simp only [Int.reduceToNat] at ho26; rw [← Ny116.out] at ho26)); replace HO106 := rb_ HO106 hb; replace HO114 := rb_ HO114 hb; have HO118 := Aside0.mk (Kd.R_lower ho26 (below_size bl_)); replace BK103 := kb_ BK103 hb; replace HB := bs_ hb; clear hb ho26; obtain ⟨Ao27, co27, eo27⟩ := Kd.R_slice HO106.out; subst eo27; obtain ⟨Ao28, co28, eo28⟩ := Kd.R_slice HO118.out; subst eo28) | (go_at_call 22; (with_reducible refine (schismalaw04_ints.calls k _ _ t104 _ _ y116 true _ ?side1 ?side2 ?side3 ?side4 A7.out).mono ?_); (case side1 => repeat (first | exact (Kd.R_reads' HO106.out).2.2 | (with_reducible refine Kd.C_alloc ?_ _) | (with_reducible refine Kd.C_drewN ?_ _) | (with_reducible refine Kd.C_drew ?_))); (case side2 => exact (Kd.R_reads' HO106.out).2.1); (case side3 => repeat (first | exact (Kd.R_reads' HO118.out).2.2 | (with_reducible refine Kd.C_alloc ?_ _) | (with_reducible refine Kd.C_drewN ?_ _) | (with_reducible refine Kd.C_drew ?_))); (case side4 => exact (Kd.R_reads' HO118.out).2.1); rintro e w29 ⟨rfl, hb⟩; replace HO106 := rb_ HO106 hb; replace HO114 := rb_ HO114 hb; replace HO118 := rb_ HO118 hb; replace BK103 := kb_ BK103 hb; replace HB := bs_ hb; (try clear hb); (try clear hb2); (try clear hk); (try clear hi)) | (go_at_call 17; (with_reducible refine (schismaref04_Make.calls k 1 1 t120 t121 _ A12.out).mono ?_); rintro e w30 ⟨rfl, hb⟩; replace HO106 := rb_ HO106 hb; replace HO114 := rb_ HO114 hb; replace HO118 := rb_ HO118 hb; replace BK103 := kb_ BK103 hb; replace HB := bs_ hb; (try clear hb); (try clear hb2); (try clear hk); (try clear hi)) | (go_at_call 17; (with_reducible refine (schismaref04_Make.calls k 1 2 t122 t123 _ A13.out).mono ?_); rintro e w31 ⟨rfl, hb⟩; replace HO106 := rb_ HO106 hb; replace HO114 := rb_ HO114 hb; replace HO118 := rb_ HO118 hb; replace BK103 := kb_ BK103 hb; replace HB := bs_ hb; (try clear hb); (try clear hb2); (try clear hk); (try clear hi)) | (go_at_call 17; (with_reducible refine (schismaref04_Make.calls k 3 5 t124 t125 _ A14.out).mono ?_); rintro e w32 ⟨rfl, hb⟩; replace HO106 := rb_ HO106 hb; replace HO114 := rb_ HO114 hb; replace HO118 := rb_ HO118 hb; replace BK103 := kb_ BK103 hb; replace HB := bs_ hb; (try clear hb); (try clear hb2); (try clear hk); (try clear hi)) | (go_at_call 17; (with_reducible refine (schismaref04_Make.calls k 4 7 t126 t127 _ A15.out).mono ?_); rintro e w33 ⟨rfl, hb⟩; replace HO106 := rb_ HO106 hb; replace HO114 := rb_ HO114 hb; replace HO118 := rb_ HO118 hb; replace BK103 := kb_ BK103 hb; replace HB := bs_ hb; (try clear hb); (try clear hb2); (try clear hk); (try clear hi)) | ((with_reducible refine gate_dst (N := 49) rfl ?_); (try (refine gate_guard (by rfl) ?_; dsimp only)); refine Kd.R_lit k24 _ 24 ?hg (N := 49) ?hd (xs := ([(⟨t120, t121⟩ : S24), (⟨t122, t123⟩ : S24), (⟨t124, t125⟩ : S24), (⟨t126, t127⟩ : S24)] : List (S24))) (inner := [.string t120, .string t121, .string t122, .string t123, .string t124, .string t125, .string t126, .string t127]) (ok := fun _ => True) (okp := fun _ => True) ?hr ?hp (fun _ hk => hk) trivial (Below.refl _ _) (Nat.le_refl _) (by simp) ?_; (case hd => rfl); (case hg => rfl); (case hr => first | (go_simp; done) | (go_simp; rfl)); (case hp => exact (Reps.c2 (show Kd.M k24 _ _ _ (⟨t120, t121⟩ : S24) [.string t120, .string t121] from (k24_mkM _ _ _ (⟨t120, t121⟩ : S24) )) (Reps.c2 (show Kd.M k24 _ _ _ (⟨t122, t123⟩ : S24) [.string t122, .string t123] from (k24_mkM _ _ _ (⟨t122, t123⟩ : S24) )) (Reps.c2 (show Kd.M k24 _ _ _ (⟨t124, t125⟩ : S24) [.string t124, .string t125] from (k24_mkM _ _ _ (⟨t124, t125⟩ : S24) )) (Reps.c2 (show Kd.M k24 _ _ _ (⟨t126, t127⟩ : S24) [.string t126, .string t127] from (k24_mkM _ _ _ (⟨t126, t127⟩ : S24) )) (Reps.none _ _)))))); intro v129 w34 ho35 hb hg_ hnew_; clear hg_ hnew_; (first | rw [← Ny128.out] at ho35 | (simp only [Int.reduceToNat] at ho35; rw [← Ny128.out] at ho35)); replace HO106 := rb_ HO106 hb; replace HO118 := rb_ HO118 hb; have HO130 := Aside0.mk (Kd.R_lower (Kd.R_newB (Kd.R_new' ho35 (Kd.R_lt (by (with_reducible repeat (first | apply Kd.R_alloc | apply Kd.R_drewN | apply Kd.R_drew)); exact HO114.out))) (g := gb103) (o := .cells #[.string t101, .string t102] 24 (0, 0)) bk_) (below_size bl_)); replace HO114 := Aside0.mk (Kd.R_elder' (by (with_reducible repeat (first | apply Kd.R_alloc | apply Kd.R_drewN | apply Kd.R_drew)); exact HO114.out) (Kd.R_base ho35) hb); replace BK103 := kb_ BK103 hb; replace HB := bs_ hb; clear hb ho35; obtain ⟨Ao36, co36, eo36⟩ := Kd.R_slice HO114.out; subst eo36; obtain ⟨Ao37, co37, eo37⟩ := Kd.R_slice HO130.out; subst eo37) | (go_at_call 23; (with_reducible refine (schismalaw04_same.calls k _ _ t112 _ _ y128 t131 _ ?side1 ?side2 ?side3 ?side4 A16.out).mono ?_); (case side1 => repeat (first | exact (Kd.R_reads' HO114.out).2.2 | (with_reducible refine Kd.C_alloc ?_ _) | (with_reducible refine Kd.C_drewN ?_ _) | (with_reducible refine Kd.C_drew ?_))); (case side2 => exact (Kd.R_reads' HO114.out).2.1); (case side3 => repeat (first | exact (Kd.R_reads' HO130.out).2.2 | (with_reducible refine Kd.C_alloc ?_ _) | (with_reducible refine Kd.C_drewN ?_ _) | (with_reducible refine Kd.C_drew ?_))); (case side4 => exact (Kd.R_reads' HO130.out).2.1); rintro e w' ⟨rfl, ⟨nd, rfl⟩⟩))
      go_ret
      exact ⟨er_, bl_⟩
     ·rw [if_neg c11] at H
      have c11b0 : (t115 == 0) = false := beq_eq_false_iff_ne.mpr c11
      have c11b1 : (t115 != 0) = true := bne_iff_ne.mpr c11
      obtain rfl := Option.some.inj H
      go_enter Tryz.func13, Tryz.ntmps13
      go_wp2_with (first | ((with_reducible refine gate_callee (f := 17) rfl ?_); refine goesL_ (some 8) rfl rfl Tryz.func17 (by kernel_rfl) rfl #[.int .i64 7, .int .i64 12] rfl mp_ ?_; (with_reducible refine (schismaref04_Make.calls k 7 12 t101 t102 _ A1.out).mono ?_); rintro e w38 ⟨rfl, hb⟩; refine ⟨_, rfl, ?_⟩; replace HB := bs_ hb; (try clear hb); (try clear hb2); (try clear hk); (try clear hi)) | ((with_reducible refine gate_dst (N := 1) rfl ?_); (try (refine gate_guard (by rfl) ?_; dsimp only)); refine bx_ 1 #[.string (⟨#[]⟩ : ByteArray), .string (⟨#[]⟩ : ByteArray)] 24 ?_; clear HB; intro gb103 w39 BK103 GW103 HB; have GE103 := GW103; obtain ⟨hcz40_0, hcz40_1, hfz40_0, hfz40_1⟩ := c2_ BK103) | ((with_reducible refine gate_callee (f := 19) rfl ?_); refine goesL_ (some 11) rfl rfl Tryz.func19 (by kernel_rfl) rfl #[.agg #[.string t101, .string t102]] rfl mp_ ?_; (with_reducible refine (convergent_Terms.calls k t101 t102 t104 t107 _ ?side1 A2.out).mono ?_); (case side1 => exact gw_ HG); rintro e w41 ⟨v105, rfl, ho0, hb⟩; refine ⟨_, rfl, ?_⟩; have HO106 := Aside0.mk (Kd.R_lower ho0 (below_size bl_)); replace BK103 := Aside0.mk (blk_below (g := gb103) (o := .cells #[.string t101, .string t102] 24 (0, 0)) (by (with_reducible repeat (first | refine blk_drewN ?_ _ | refine blk_drew ?_ | refine blk_alloc ?_ _)); refine blk_put (cs := #[.string t101, .string (⟨#[]⟩ : ByteArray)]) ?_ 1 _ rfl; (with_reducible repeat (first | refine blk_drewN ?_ _ | refine blk_drew ?_ | refine blk_alloc ?_ _)); refine blk_put (cs := #[.string (⟨#[]⟩ : ByteArray), .string (⟨#[]⟩ : ByteArray)]) ?_ 0 _ rfl; (with_reducible repeat (first | refine blk_drewN ?_ _ | refine blk_drew ?_ | refine blk_alloc ?_ _)); exact BK103.out) hb); replace HB := bs_ hb; (try clear hb); (try clear hb2); (try clear hk); (try clear hi); (try clear ho0)) | ((with_reducible refine gate_callee (f := 17) rfl ?_); refine goesL_ (some 15) rfl rfl Tryz.func17 (by kernel_rfl) rfl #[.int .i64 3, .int .i64 5] rfl mp_ ?_; (with_reducible refine (schismaref04_Make.calls k 3 5 t108 t109 _ A3.out).mono ?_); rintro e w42 ⟨rfl, hb⟩; refine ⟨_, rfl, ?_⟩; replace HO106 := rb_ HO106 hb; replace BK103 := kb_ BK103 hb; replace HB := bs_ hb; (try clear hb); (try clear hb2); (try clear hk); (try clear hi)) | ((with_reducible refine gate_callee (f := 32) rfl ?_); refine goesL_ (some 16) rfl rfl Tryz.func32 (by kernel_rfl) rfl #[.agg #[.string t108, .string t109]] rfl mp_ ?_; (with_reducible refine (convergent_Path.calls k t108 t109 t110 t111 _ ?side1 A4.out).mono ?_); (case side1 => exact gw_ HG); rintro e w43 ⟨rfl, hb⟩; refine ⟨_, rfl, ?_⟩; replace HO106 := rb_ HO106 hb; replace BK103 := kb_ BK103 hb; replace HB := bs_ hb; (try clear hb); (try clear hb2); (try clear hk); (try clear hi); obtain ⟨hcz44_0, hcz44_1, hfz44_0, hfz44_1⟩ := c2_ BK103) | ((with_reducible refine gate_callee (f := 28) rfl ?_); refine goesL_ (some 21) rfl rfl Tryz.func28 (by kernel_rfl) rfl #[.agg #[.string t101, .string t102], .int .i64 7] rfl mp_ ?_; (with_reducible refine (convergent_Best.calls k t101 t102 7 t112 t115 _ ?side1 A5.out).mono ?_); (case side1 => exact gw_ HG); rintro e w45 ⟨v113, rfl, ho0, hb⟩; refine ⟨_, rfl, ?_⟩; replace HO106 := rb_ HO106 hb; have HO114 := Aside0.mk (Kd.R_lower (Kd.R_newB ho0 (g := gb103) (o := .cells #[.string t101, .string t102] 24 (0, 0)) bk_) (below_size bl_)); replace BK103 := kb_ BK103 hb; replace HB := bs_ hb; (try clear hb); (try clear hb2); (try clear hk); (try clear hi); (try clear ho0)) | ((with_reducible refine gate_dst (N := 28) rfl ?_); (try (refine gate_guard (by rfl) ?_; dsimp only)); refine Kd.R_lit (Kd.int .i64) _ 3 ?hg (N := 28) ?hd (xs := ([0, 1, 1, 2, 2] : List Int)) (inner := [.int .i64 0, .int .i64 1, .int .i64 1, .int .i64 2, .int .i64 2]) (ok := fun _ => True) (okp := fun _ => True) ?hr ?hp (fun _ hk => hk) trivial (Below.refl _ _) (Nat.le_refl _) (by simp) ?_; (case hd => rfl); (case hg => rfl); (case hr => first | (go_simp; done) | (go_simp; rfl)); (case hp => exact (Reps.one (show Kd.M (Kd.int .i64) _ _ _ 0 [.int .i64 0] from rfl) (Reps.one (show Kd.M (Kd.int .i64) _ _ _ 1 [.int .i64 1] from rfl) (Reps.one (show Kd.M (Kd.int .i64) _ _ _ 1 [.int .i64 1] from rfl) (Reps.one (show Kd.M (Kd.int .i64) _ _ _ 2 [.int .i64 2] from rfl) (Reps.one (show Kd.M (Kd.int .i64) _ _ _ 2 [.int .i64 2] from rfl) (Reps.none _ _))))))); intro v117 w46 ho47 hb hg_ hnew_; clear hg_ hnew_; (first | rw [← Ny116.out] at ho47 | (simp only [Int.reduceToNat] at ho47; rw [← Ny116.out] at ho47)); replace HO106 := rb_ HO106 hb; replace HO114 := rb_ HO114 hb; have HO118 := Aside0.mk (Kd.R_lower ho47 (below_size bl_)); replace BK103 := kb_ BK103 hb; replace HB := bs_ hb; clear hb ho47; obtain ⟨Ao48, co48, eo48⟩ := Kd.R_slice HO106.out; subst eo48; obtain ⟨Ao49, co49, eo49⟩ := Kd.R_slice HO118.out; subst eo49) | (go_at_call 22; (with_reducible refine (schismalaw04_ints.calls k _ _ t104 _ _ y116 true _ ?side1 ?side2 ?side3 ?side4 A7.out).mono ?_); (case side1 => repeat (first | exact (Kd.R_reads' HO106.out).2.2 | (with_reducible refine Kd.C_alloc ?_ _) | (with_reducible refine Kd.C_drewN ?_ _) | (with_reducible refine Kd.C_drew ?_))); (case side2 => exact (Kd.R_reads' HO106.out).2.1); (case side3 => repeat (first | exact (Kd.R_reads' HO118.out).2.2 | (with_reducible refine Kd.C_alloc ?_ _) | (with_reducible refine Kd.C_drewN ?_ _) | (with_reducible refine Kd.C_drew ?_))); (case side4 => exact (Kd.R_reads' HO118.out).2.1); rintro e w50 ⟨rfl, hb⟩; replace HO106 := rb_ HO106 hb; replace HO114 := rb_ HO114 hb; replace HO118 := rb_ HO118 hb; replace BK103 := kb_ BK103 hb; replace HB := bs_ hb; (try clear hb); (try clear hb2); (try clear hk); (try clear hi)))
      go_ret
      exact ⟨er_, bl_⟩
    ·rw [if_neg c10] at H
     have c10b0 : (t110.toList == ([76, 82, 76] : List UInt8)) = false := beq_eq_false_iff_ne.mpr c10
     have c10b1 : (t110.toList != ([76, 82, 76] : List UInt8)) = true := bne_iff_ne.mpr c10
     obtain rfl := Option.some.inj H
     go_enter Tryz.func13, Tryz.ntmps13
     go_wp2_with (first | ((with_reducible refine gate_callee (f := 17) rfl ?_); refine goesL_ (some 8) rfl rfl Tryz.func17 (by kernel_rfl) rfl #[.int .i64 7, .int .i64 12] rfl mp_ ?_; (with_reducible refine (schismaref04_Make.calls k 7 12 t101 t102 _ A1.out).mono ?_); rintro e w51 ⟨rfl, hb⟩; refine ⟨_, rfl, ?_⟩; replace HB := bs_ hb; (try clear hb); (try clear hb2); (try clear hk); (try clear hi)) | ((with_reducible refine gate_dst (N := 1) rfl ?_); (try (refine gate_guard (by rfl) ?_; dsimp only)); refine bx_ 1 #[.string (⟨#[]⟩ : ByteArray), .string (⟨#[]⟩ : ByteArray)] 24 ?_; clear HB; intro gb103 w52 BK103 GW103 HB; have GE103 := GW103; obtain ⟨hcz53_0, hcz53_1, hfz53_0, hfz53_1⟩ := c2_ BK103) | ((with_reducible refine gate_callee (f := 19) rfl ?_); refine goesL_ (some 11) rfl rfl Tryz.func19 (by kernel_rfl) rfl #[.agg #[.string t101, .string t102]] rfl mp_ ?_; (with_reducible refine (convergent_Terms.calls k t101 t102 t104 t107 _ ?side1 A2.out).mono ?_); (case side1 => exact gw_ HG); rintro e w54 ⟨v105, rfl, ho0, hb⟩; refine ⟨_, rfl, ?_⟩; have HO106 := Aside0.mk (Kd.R_lower ho0 (below_size bl_)); replace BK103 := Aside0.mk (blk_below (g := gb103) (o := .cells #[.string t101, .string t102] 24 (0, 0)) (by (with_reducible repeat (first | refine blk_drewN ?_ _ | refine blk_drew ?_ | refine blk_alloc ?_ _)); refine blk_put (cs := #[.string t101, .string (⟨#[]⟩ : ByteArray)]) ?_ 1 _ rfl; (with_reducible repeat (first | refine blk_drewN ?_ _ | refine blk_drew ?_ | refine blk_alloc ?_ _)); refine blk_put (cs := #[.string (⟨#[]⟩ : ByteArray), .string (⟨#[]⟩ : ByteArray)]) ?_ 0 _ rfl; (with_reducible repeat (first | refine blk_drewN ?_ _ | refine blk_drew ?_ | refine blk_alloc ?_ _)); exact BK103.out) hb); replace HB := bs_ hb; (try clear hb); (try clear hb2); (try clear hk); (try clear hi); (try clear ho0)) | ((with_reducible refine gate_callee (f := 17) rfl ?_); refine goesL_ (some 15) rfl rfl Tryz.func17 (by kernel_rfl) rfl #[.int .i64 3, .int .i64 5] rfl mp_ ?_; (with_reducible refine (schismaref04_Make.calls k 3 5 t108 t109 _ A3.out).mono ?_); rintro e w55 ⟨rfl, hb⟩; refine ⟨_, rfl, ?_⟩; replace HO106 := rb_ HO106 hb; replace BK103 := kb_ BK103 hb; replace HB := bs_ hb; (try clear hb); (try clear hb2); (try clear hk); (try clear hi)) | ((with_reducible refine gate_callee (f := 32) rfl ?_); refine goesL_ (some 16) rfl rfl Tryz.func32 (by kernel_rfl) rfl #[.agg #[.string t108, .string t109]] rfl mp_ ?_; (with_reducible refine (convergent_Path.calls k t108 t109 t110 t111 _ ?side1 A4.out).mono ?_); (case side1 => exact gw_ HG); rintro e w56 ⟨rfl, hb⟩; refine ⟨_, rfl, ?_⟩; replace HO106 := rb_ HO106 hb; replace BK103 := kb_ BK103 hb; replace HB := bs_ hb; (try clear hb); (try clear hb2); (try clear hk); (try clear hi); obtain ⟨hcz57_0, hcz57_1, hfz57_0, hfz57_1⟩ := c2_ BK103) | ((with_reducible refine gate_callee (f := 28) rfl ?_); refine goesL_ (some 21) rfl rfl Tryz.func28 (by kernel_rfl) rfl #[.agg #[.string t101, .string t102], .int .i64 7] rfl mp_ ?_; (with_reducible refine (convergent_Best.calls k t101 t102 7 t112 t115 _ ?side1 A5.out).mono ?_); (case side1 => exact gw_ HG); rintro e w58 ⟨v113, rfl, ho0, hb⟩; refine ⟨_, rfl, ?_⟩; replace HO106 := rb_ HO106 hb; have HO114 := Aside0.mk (Kd.R_lower (Kd.R_newB ho0 (g := gb103) (o := .cells #[.string t101, .string t102] 24 (0, 0)) bk_) (below_size bl_)); replace BK103 := kb_ BK103 hb; replace HB := bs_ hb; (try clear hb); (try clear hb2); (try clear hk); (try clear hi); (try clear ho0)) | ((with_reducible refine gate_dst (N := 28) rfl ?_); (try (refine gate_guard (by rfl) ?_; dsimp only)); refine Kd.R_lit (Kd.int .i64) _ 3 ?hg (N := 28) ?hd (xs := ([0, 1, 1, 2, 2] : List Int)) (inner := [.int .i64 0, .int .i64 1, .int .i64 1, .int .i64 2, .int .i64 2]) (ok := fun _ => True) (okp := fun _ => True) ?hr ?hp (fun _ hk => hk) trivial (Below.refl _ _) (Nat.le_refl _) (by simp) ?_; (case hd => rfl); (case hg => rfl); (case hr => first | (go_simp; done) | (go_simp; rfl)); (case hp => exact (Reps.one (show Kd.M (Kd.int .i64) _ _ _ 0 [.int .i64 0] from rfl) (Reps.one (show Kd.M (Kd.int .i64) _ _ _ 1 [.int .i64 1] from rfl) (Reps.one (show Kd.M (Kd.int .i64) _ _ _ 1 [.int .i64 1] from rfl) (Reps.one (show Kd.M (Kd.int .i64) _ _ _ 2 [.int .i64 2] from rfl) (Reps.one (show Kd.M (Kd.int .i64) _ _ _ 2 [.int .i64 2] from rfl) (Reps.none _ _))))))); intro v117 w59 ho60 hb hg_ hnew_; clear hg_ hnew_; (first | rw [← Ny116.out] at ho60 | (simp only [Int.reduceToNat] at ho60; rw [← Ny116.out] at ho60)); replace HO106 := rb_ HO106 hb; replace HO114 := rb_ HO114 hb; have HO118 := Aside0.mk (Kd.R_lower ho60 (below_size bl_)); replace BK103 := kb_ BK103 hb; replace HB := bs_ hb; clear hb ho60; obtain ⟨Ao61, co61, eo61⟩ := Kd.R_slice HO106.out; subst eo61; obtain ⟨Ao62, co62, eo62⟩ := Kd.R_slice HO118.out; subst eo62) | (go_at_call 22; (with_reducible refine (schismalaw04_ints.calls k _ _ t104 _ _ y116 true _ ?side1 ?side2 ?side3 ?side4 A7.out).mono ?_); (case side1 => repeat (first | exact (Kd.R_reads' HO106.out).2.2 | (with_reducible refine Kd.C_alloc ?_ _) | (with_reducible refine Kd.C_drewN ?_ _) | (with_reducible refine Kd.C_drew ?_))); (case side2 => exact (Kd.R_reads' HO106.out).2.1); (case side3 => repeat (first | exact (Kd.R_reads' HO118.out).2.2 | (with_reducible refine Kd.C_alloc ?_ _) | (with_reducible refine Kd.C_drewN ?_ _) | (with_reducible refine Kd.C_drew ?_))); (case side4 => exact (Kd.R_reads' HO118.out).2.1); rintro e w63 ⟨rfl, hb⟩; replace HO106 := rb_ HO106 hb; replace HO114 := rb_ HO114 hb; replace HO118 := rb_ HO118 hb; replace BK103 := kb_ BK103 hb; replace HB := bs_ hb; (try clear hb); (try clear hb2); (try clear hk); (try clear hi)))
     go_ret
     exact ⟨er_, bl_⟩
   ·rw [if_neg c9] at H
    have c9b0 : (t111 == 0) = false := beq_eq_false_iff_ne.mpr c9
    have c9b1 : (t111 != 0) = true := bne_iff_ne.mpr c9
    obtain rfl := Option.some.inj H
    go_enter Tryz.func13, Tryz.ntmps13
    go_wp2_with (first | ((with_reducible refine gate_callee (f := 17) rfl ?_); refine goesL_ (some 8) rfl rfl Tryz.func17 (by kernel_rfl) rfl #[.int .i64 7, .int .i64 12] rfl mp_ ?_; (with_reducible refine (schismaref04_Make.calls k 7 12 t101 t102 _ A1.out).mono ?_); rintro e w64 ⟨rfl, hb⟩; refine ⟨_, rfl, ?_⟩; replace HB := bs_ hb; (try clear hb); (try clear hb2); (try clear hk); (try clear hi)) | ((with_reducible refine gate_dst (N := 1) rfl ?_); (try (refine gate_guard (by rfl) ?_; dsimp only)); refine bx_ 1 #[.string (⟨#[]⟩ : ByteArray), .string (⟨#[]⟩ : ByteArray)] 24 ?_; clear HB; intro gb103 w65 BK103 GW103 HB; have GE103 := GW103; obtain ⟨hcz66_0, hcz66_1, hfz66_0, hfz66_1⟩ := c2_ BK103) | ((with_reducible refine gate_callee (f := 19) rfl ?_); refine goesL_ (some 11) rfl rfl Tryz.func19 (by kernel_rfl) rfl #[.agg #[.string t101, .string t102]] rfl mp_ ?_; (with_reducible refine (convergent_Terms.calls k t101 t102 t104 t107 _ ?side1 A2.out).mono ?_); (case side1 => exact gw_ HG); rintro e w67 ⟨v105, rfl, ho0, hb⟩; refine ⟨_, rfl, ?_⟩; have HO106 := Aside0.mk (Kd.R_lower ho0 (below_size bl_)); replace BK103 := Aside0.mk (blk_below (g := gb103) (o := .cells #[.string t101, .string t102] 24 (0, 0)) (by (with_reducible repeat (first | refine blk_drewN ?_ _ | refine blk_drew ?_ | refine blk_alloc ?_ _)); refine blk_put (cs := #[.string t101, .string (⟨#[]⟩ : ByteArray)]) ?_ 1 _ rfl; (with_reducible repeat (first | refine blk_drewN ?_ _ | refine blk_drew ?_ | refine blk_alloc ?_ _)); refine blk_put (cs := #[.string (⟨#[]⟩ : ByteArray), .string (⟨#[]⟩ : ByteArray)]) ?_ 0 _ rfl; (with_reducible repeat (first | refine blk_drewN ?_ _ | refine blk_drew ?_ | refine blk_alloc ?_ _)); exact BK103.out) hb); replace HB := bs_ hb; (try clear hb); (try clear hb2); (try clear hk); (try clear hi); (try clear ho0)) | ((with_reducible refine gate_callee (f := 17) rfl ?_); refine goesL_ (some 15) rfl rfl Tryz.func17 (by kernel_rfl) rfl #[.int .i64 3, .int .i64 5] rfl mp_ ?_; (with_reducible refine (schismaref04_Make.calls k 3 5 t108 t109 _ A3.out).mono ?_); rintro e w68 ⟨rfl, hb⟩; refine ⟨_, rfl, ?_⟩; replace HO106 := rb_ HO106 hb; replace BK103 := kb_ BK103 hb; replace HB := bs_ hb; (try clear hb); (try clear hb2); (try clear hk); (try clear hi)) | ((with_reducible refine gate_callee (f := 32) rfl ?_); refine goesL_ (some 16) rfl rfl Tryz.func32 (by kernel_rfl) rfl #[.agg #[.string t108, .string t109]] rfl mp_ ?_; (with_reducible refine (convergent_Path.calls k t108 t109 t110 t111 _ ?side1 A4.out).mono ?_); (case side1 => exact gw_ HG); rintro e w69 ⟨rfl, hb⟩; refine ⟨_, rfl, ?_⟩; replace HO106 := rb_ HO106 hb; replace BK103 := kb_ BK103 hb; replace HB := bs_ hb; (try clear hb); (try clear hb2); (try clear hk); (try clear hi); obtain ⟨hcz70_0, hcz70_1, hfz70_0, hfz70_1⟩ := c2_ BK103) | ((with_reducible refine gate_callee (f := 28) rfl ?_); refine goesL_ (some 21) rfl rfl Tryz.func28 (by kernel_rfl) rfl #[.agg #[.string t101, .string t102], .int .i64 7] rfl mp_ ?_; (with_reducible refine (convergent_Best.calls k t101 t102 7 t112 t115 _ ?side1 A5.out).mono ?_); (case side1 => exact gw_ HG); rintro e w71 ⟨v113, rfl, ho0, hb⟩; refine ⟨_, rfl, ?_⟩; replace HO106 := rb_ HO106 hb; have HO114 := Aside0.mk (Kd.R_lower (Kd.R_newB ho0 (g := gb103) (o := .cells #[.string t101, .string t102] 24 (0, 0)) bk_) (below_size bl_)); replace BK103 := kb_ BK103 hb; replace HB := bs_ hb; (try clear hb); (try clear hb2); (try clear hk); (try clear hi); (try clear ho0)) | ((with_reducible refine gate_dst (N := 28) rfl ?_); (try (refine gate_guard (by rfl) ?_; dsimp only)); refine Kd.R_lit (Kd.int .i64) _ 3 ?hg (N := 28) ?hd (xs := ([0, 1, 1, 2, 2] : List Int)) (inner := [.int .i64 0, .int .i64 1, .int .i64 1, .int .i64 2, .int .i64 2]) (ok := fun _ => True) (okp := fun _ => True) ?hr ?hp (fun _ hk => hk) trivial (Below.refl _ _) (Nat.le_refl _) (by simp) ?_; (case hd => rfl); (case hg => rfl); (case hr => first | (go_simp; done) | (go_simp; rfl)); (case hp => exact (Reps.one (show Kd.M (Kd.int .i64) _ _ _ 0 [.int .i64 0] from rfl) (Reps.one (show Kd.M (Kd.int .i64) _ _ _ 1 [.int .i64 1] from rfl) (Reps.one (show Kd.M (Kd.int .i64) _ _ _ 1 [.int .i64 1] from rfl) (Reps.one (show Kd.M (Kd.int .i64) _ _ _ 2 [.int .i64 2] from rfl) (Reps.one (show Kd.M (Kd.int .i64) _ _ _ 2 [.int .i64 2] from rfl) (Reps.none _ _))))))); intro v117 w72 ho73 hb hg_ hnew_; clear hg_ hnew_; (first | rw [← Ny116.out] at ho73 | (simp only [Int.reduceToNat] at ho73; rw [← Ny116.out] at ho73)); replace HO106 := rb_ HO106 hb; replace HO114 := rb_ HO114 hb; have HO118 := Aside0.mk (Kd.R_lower ho73 (below_size bl_)); replace BK103 := kb_ BK103 hb; replace HB := bs_ hb; clear hb ho73; obtain ⟨Ao74, co74, eo74⟩ := Kd.R_slice HO106.out; subst eo74; obtain ⟨Ao75, co75, eo75⟩ := Kd.R_slice HO118.out; subst eo75) | (go_at_call 22; (with_reducible refine (schismalaw04_ints.calls k _ _ t104 _ _ y116 true _ ?side1 ?side2 ?side3 ?side4 A7.out).mono ?_); (case side1 => repeat (first | exact (Kd.R_reads' HO106.out).2.2 | (with_reducible refine Kd.C_alloc ?_ _) | (with_reducible refine Kd.C_drewN ?_ _) | (with_reducible refine Kd.C_drew ?_))); (case side2 => exact (Kd.R_reads' HO106.out).2.1); (case side3 => repeat (first | exact (Kd.R_reads' HO118.out).2.2 | (with_reducible refine Kd.C_alloc ?_ _) | (with_reducible refine Kd.C_drewN ?_ _) | (with_reducible refine Kd.C_drew ?_))); (case side4 => exact (Kd.R_reads' HO118.out).2.1); rintro e w76 ⟨rfl, hb⟩; replace HO106 := rb_ HO106 hb; replace HO114 := rb_ HO114 hb; replace HO118 := rb_ HO118 hb; replace BK103 := kb_ BK103 hb; replace HB := bs_ hb; (try clear hb); (try clear hb2); (try clear hk); (try clear hi)))
    go_ret
    exact ⟨er_, bl_⟩
  ·replace c8 := Bool.eq_false_iff.mpr c8
   subst c8
   have H1 : (some false) = some r := by rw [if_neg (show ¬ (false = true) by decide)] at H; exact H
   clear H
   have H := H1
   clear H1
   obtain rfl := Option.some.inj H
   go_enter Tryz.func13, Tryz.ntmps13
   go_wp2_with (first | ((with_reducible refine gate_callee (f := 17) rfl ?_); refine goesL_ (some 8) rfl rfl Tryz.func17 (by kernel_rfl) rfl #[.int .i64 7, .int .i64 12] rfl mp_ ?_; (with_reducible refine (schismaref04_Make.calls k 7 12 t101 t102 _ A1.out).mono ?_); rintro e w77 ⟨rfl, hb⟩; refine ⟨_, rfl, ?_⟩; replace HB := bs_ hb; (try clear hb); (try clear hb2); (try clear hk); (try clear hi)) | ((with_reducible refine gate_dst (N := 1) rfl ?_); (try (refine gate_guard (by rfl) ?_; dsimp only)); refine bx_ 1 #[.string (⟨#[]⟩ : ByteArray), .string (⟨#[]⟩ : ByteArray)] 24 ?_; clear HB; intro gb103 w78 BK103 GW103 HB; have GE103 := GW103; obtain ⟨hcz79_0, hcz79_1, hfz79_0, hfz79_1⟩ := c2_ BK103) | ((with_reducible refine gate_callee (f := 19) rfl ?_); refine goesL_ (some 11) rfl rfl Tryz.func19 (by kernel_rfl) rfl #[.agg #[.string t101, .string t102]] rfl mp_ ?_; (with_reducible refine (convergent_Terms.calls k t101 t102 t104 t107 _ ?side1 A2.out).mono ?_); (case side1 => exact gw_ HG); rintro e w80 ⟨v105, rfl, ho0, hb⟩; refine ⟨_, rfl, ?_⟩; have HO106 := Aside0.mk (Kd.R_lower ho0 (below_size bl_)); replace BK103 := Aside0.mk (blk_below (g := gb103) (o := .cells #[.string t101, .string t102] 24 (0, 0)) (by (with_reducible repeat (first | refine blk_drewN ?_ _ | refine blk_drew ?_ | refine blk_alloc ?_ _)); refine blk_put (cs := #[.string t101, .string (⟨#[]⟩ : ByteArray)]) ?_ 1 _ rfl; (with_reducible repeat (first | refine blk_drewN ?_ _ | refine blk_drew ?_ | refine blk_alloc ?_ _)); refine blk_put (cs := #[.string (⟨#[]⟩ : ByteArray), .string (⟨#[]⟩ : ByteArray)]) ?_ 0 _ rfl; (with_reducible repeat (first | refine blk_drewN ?_ _ | refine blk_drew ?_ | refine blk_alloc ?_ _)); exact BK103.out) hb); replace HB := bs_ hb; (try clear hb); (try clear hb2); (try clear hk); (try clear hi); (try clear ho0)) | ((with_reducible refine gate_callee (f := 17) rfl ?_); refine goesL_ (some 15) rfl rfl Tryz.func17 (by kernel_rfl) rfl #[.int .i64 3, .int .i64 5] rfl mp_ ?_; (with_reducible refine (schismaref04_Make.calls k 3 5 t108 t109 _ A3.out).mono ?_); rintro e w81 ⟨rfl, hb⟩; refine ⟨_, rfl, ?_⟩; replace HO106 := rb_ HO106 hb; replace BK103 := kb_ BK103 hb; replace HB := bs_ hb; (try clear hb); (try clear hb2); (try clear hk); (try clear hi)) | ((with_reducible refine gate_callee (f := 32) rfl ?_); refine goesL_ (some 16) rfl rfl Tryz.func32 (by kernel_rfl) rfl #[.agg #[.string t108, .string t109]] rfl mp_ ?_; (with_reducible refine (convergent_Path.calls k t108 t109 t110 t111 _ ?side1 A4.out).mono ?_); (case side1 => exact gw_ HG); rintro e w82 ⟨rfl, hb⟩; refine ⟨_, rfl, ?_⟩; replace HO106 := rb_ HO106 hb; replace BK103 := kb_ BK103 hb; replace HB := bs_ hb; (try clear hb); (try clear hb2); (try clear hk); (try clear hi); obtain ⟨hcz83_0, hcz83_1, hfz83_0, hfz83_1⟩ := c2_ BK103) | ((with_reducible refine gate_callee (f := 28) rfl ?_); refine goesL_ (some 21) rfl rfl Tryz.func28 (by kernel_rfl) rfl #[.agg #[.string t101, .string t102], .int .i64 7] rfl mp_ ?_; (with_reducible refine (convergent_Best.calls k t101 t102 7 t112 t115 _ ?side1 A5.out).mono ?_); (case side1 => exact gw_ HG); rintro e w84 ⟨v113, rfl, ho0, hb⟩; refine ⟨_, rfl, ?_⟩; replace HO106 := rb_ HO106 hb; have HO114 := Aside0.mk (Kd.R_lower (Kd.R_newB ho0 (g := gb103) (o := .cells #[.string t101, .string t102] 24 (0, 0)) bk_) (below_size bl_)); replace BK103 := kb_ BK103 hb; replace HB := bs_ hb; (try clear hb); (try clear hb2); (try clear hk); (try clear hi); (try clear ho0)) | ((with_reducible refine gate_dst (N := 28) rfl ?_); (try (refine gate_guard (by rfl) ?_; dsimp only)); refine Kd.R_lit (Kd.int .i64) _ 3 ?hg (N := 28) ?hd (xs := ([0, 1, 1, 2, 2] : List Int)) (inner := [.int .i64 0, .int .i64 1, .int .i64 1, .int .i64 2, .int .i64 2]) (ok := fun _ => True) (okp := fun _ => True) ?hr ?hp (fun _ hk => hk) trivial (Below.refl _ _) (Nat.le_refl _) (by simp) ?_; (case hd => rfl); (case hg => rfl); (case hr => first | (go_simp; done) | (go_simp; rfl)); (case hp => exact (Reps.one (show Kd.M (Kd.int .i64) _ _ _ 0 [.int .i64 0] from rfl) (Reps.one (show Kd.M (Kd.int .i64) _ _ _ 1 [.int .i64 1] from rfl) (Reps.one (show Kd.M (Kd.int .i64) _ _ _ 1 [.int .i64 1] from rfl) (Reps.one (show Kd.M (Kd.int .i64) _ _ _ 2 [.int .i64 2] from rfl) (Reps.one (show Kd.M (Kd.int .i64) _ _ _ 2 [.int .i64 2] from rfl) (Reps.none _ _))))))); intro v117 w85 ho86 hb hg_ hnew_; clear hg_ hnew_; (first | rw [← Ny116.out] at ho86 | (simp only [Int.reduceToNat] at ho86; rw [← Ny116.out] at ho86)); replace HO106 := rb_ HO106 hb; replace HO114 := rb_ HO114 hb; have HO118 := Aside0.mk (Kd.R_lower ho86 (below_size bl_)); replace BK103 := kb_ BK103 hb; replace HB := bs_ hb; clear hb ho86; obtain ⟨Ao87, co87, eo87⟩ := Kd.R_slice HO106.out; subst eo87; obtain ⟨Ao88, co88, eo88⟩ := Kd.R_slice HO118.out; subst eo88) | (go_at_call 22; (with_reducible refine (schismalaw04_ints.calls k _ _ t104 _ _ y116 false _ ?side1 ?side2 ?side3 ?side4 A7.out).mono ?_); (case side1 => repeat (first | exact (Kd.R_reads' HO106.out).2.2 | (with_reducible refine Kd.C_alloc ?_ _) | (with_reducible refine Kd.C_drewN ?_ _) | (with_reducible refine Kd.C_drew ?_))); (case side2 => exact (Kd.R_reads' HO106.out).2.1); (case side3 => repeat (first | exact (Kd.R_reads' HO118.out).2.2 | (with_reducible refine Kd.C_alloc ?_ _) | (with_reducible refine Kd.C_drewN ?_ _) | (with_reducible refine Kd.C_drew ?_))); (case side4 => exact (Kd.R_reads' HO118.out).2.1); rintro e w89 ⟨rfl, hb⟩; replace HO106 := rb_ HO106 hb; replace HO114 := rb_ HO114 hb; replace HO118 := rb_ HO118 hb; replace BK103 := kb_ BK103 hb; replace HB := bs_ hb; (try clear hb); (try clear hb2); (try clear hk); (try clear hi)))
   go_ret
   exact ⟨er_, bl_⟩
 ·rw [if_neg c6] at H
  have c6b0 : (t107 == 0) = false := beq_eq_false_iff_ne.mpr c6
  have c6b1 : (t107 != 0) = true := bne_iff_ne.mpr c6
  obtain rfl := Option.some.inj H
  go_enter Tryz.func13, Tryz.ntmps13
  go_wp2_with (first | ((with_reducible refine gate_callee (f := 17) rfl ?_); refine goesL_ (some 8) rfl rfl Tryz.func17 (by kernel_rfl) rfl #[.int .i64 7, .int .i64 12] rfl mp_ ?_; (with_reducible refine (schismaref04_Make.calls k 7 12 t101 t102 _ A1.out).mono ?_); rintro e w90 ⟨rfl, hb⟩; refine ⟨_, rfl, ?_⟩; replace HB := bs_ hb; (try clear hb); (try clear hb2); (try clear hk); (try clear hi)) | ((with_reducible refine gate_dst (N := 1) rfl ?_); (try (refine gate_guard (by rfl) ?_; dsimp only)); refine bx_ 1 #[.string (⟨#[]⟩ : ByteArray), .string (⟨#[]⟩ : ByteArray)] 24 ?_; clear HB; intro gb103 w91 BK103 GW103 HB; have GE103 := GW103; obtain ⟨hcz92_0, hcz92_1, hfz92_0, hfz92_1⟩ := c2_ BK103) | ((with_reducible refine gate_callee (f := 19) rfl ?_); refine goesL_ (some 11) rfl rfl Tryz.func19 (by kernel_rfl) rfl #[.agg #[.string t101, .string t102]] rfl mp_ ?_; (with_reducible refine (convergent_Terms.calls k t101 t102 t104 t107 _ ?side1 A2.out).mono ?_); (case side1 => exact gw_ HG); rintro e w93 ⟨v105, rfl, ho0, hb⟩; refine ⟨_, rfl, ?_⟩; have HO106 := Aside0.mk (Kd.R_lower ho0 (below_size bl_)); replace BK103 := Aside0.mk (blk_below (g := gb103) (o := .cells #[.string t101, .string t102] 24 (0, 0)) (by (with_reducible repeat (first | refine blk_drewN ?_ _ | refine blk_drew ?_ | refine blk_alloc ?_ _)); refine blk_put (cs := #[.string t101, .string (⟨#[]⟩ : ByteArray)]) ?_ 1 _ rfl; (with_reducible repeat (first | refine blk_drewN ?_ _ | refine blk_drew ?_ | refine blk_alloc ?_ _)); refine blk_put (cs := #[.string (⟨#[]⟩ : ByteArray), .string (⟨#[]⟩ : ByteArray)]) ?_ 0 _ rfl; (with_reducible repeat (first | refine blk_drewN ?_ _ | refine blk_drew ?_ | refine blk_alloc ?_ _)); exact BK103.out) hb); replace HB := bs_ hb; (try clear hb); (try clear hb2); (try clear hk); (try clear hi); (try clear ho0)) | ((with_reducible refine gate_callee (f := 17) rfl ?_); refine goesL_ (some 15) rfl rfl Tryz.func17 (by kernel_rfl) rfl #[.int .i64 3, .int .i64 5] rfl mp_ ?_; (with_reducible refine (schismaref04_Make.calls k 3 5 t108 t109 _ A3.out).mono ?_); rintro e w94 ⟨rfl, hb⟩; refine ⟨_, rfl, ?_⟩; replace HO106 := rb_ HO106 hb; replace BK103 := kb_ BK103 hb; replace HB := bs_ hb; (try clear hb); (try clear hb2); (try clear hk); (try clear hi)) | ((with_reducible refine gate_callee (f := 32) rfl ?_); refine goesL_ (some 16) rfl rfl Tryz.func32 (by kernel_rfl) rfl #[.agg #[.string t108, .string t109]] rfl mp_ ?_; (with_reducible refine (convergent_Path.calls k t108 t109 t110 t111 _ ?side1 A4.out).mono ?_); (case side1 => exact gw_ HG); rintro e w95 ⟨rfl, hb⟩; refine ⟨_, rfl, ?_⟩; replace HO106 := rb_ HO106 hb; replace BK103 := kb_ BK103 hb; replace HB := bs_ hb; (try clear hb); (try clear hb2); (try clear hk); (try clear hi); obtain ⟨hcz96_0, hcz96_1, hfz96_0, hfz96_1⟩ := c2_ BK103) | ((with_reducible refine gate_callee (f := 28) rfl ?_); refine goesL_ (some 21) rfl rfl Tryz.func28 (by kernel_rfl) rfl #[.agg #[.string t101, .string t102], .int .i64 7] rfl mp_ ?_; (with_reducible refine (convergent_Best.calls k t101 t102 7 t112 t115 _ ?side1 A5.out).mono ?_); (case side1 => exact gw_ HG); rintro e w97 ⟨v113, rfl, ho0, hb⟩; refine ⟨_, rfl, ?_⟩; replace HO106 := rb_ HO106 hb; have HO114 := Aside0.mk (Kd.R_lower (Kd.R_newB ho0 (g := gb103) (o := .cells #[.string t101, .string t102] 24 (0, 0)) bk_) (below_size bl_)); replace BK103 := kb_ BK103 hb; replace HB := bs_ hb; (try clear hb); (try clear hb2); (try clear hk); (try clear hi); (try clear ho0)))
  go_ret
  exact ⟨er_, bl_⟩
end Go.Proofs.YtidajgkepdkcbaaGreatDoor.PL
end
section
namespace Go.Proofs.YtidajgkepdkcbaaGreatDoor
open Go.RowKit Go.Lib Go.Proofs.YtidajgkepdkcbaaGreatDoorW.PrintWords Go.Proofs.YtidajgkepdkcbaaGreatDoorW.PrintLast Go.Proofs.YtidajgkepdkcbaaGreatDoorW.PrintMore PF PL
theorem same_go (l : List S24) : ∀ (m j : Nat), l.length ≤ 1000000 → l.length = j + m → Ev (fun k => schismalaw04_same.l0 k l l (j : Int)) true
 | 0, j, hl, hm => ev_here 1 fun k => by rw [schismalaw04_same.l0, if_neg (by omega)]
 | m + 1, j, hl, hm => by
  refine Ev.step (f := fun k => schismalaw04_same.l0 k l l ((j + 1 : Nat) : Int)) (fun k => ?_) (same_go l m (j + 1) hl (by omega))
  rw [schismalaw04_same.l0, if_pos (by omega), if_pos (by omega), if_pos (by omega), if_neg (by simp), w64 (by omega) (by omega)]
  rfl
theorem Same_self {l : List S24} (hl : l.length ≤ 1000000) : Ev (fun k => schismalaw04_same.f k l l) true := by
 unfold schismalaw04_same.f
 exact Ev.congr (fun k => if_pos rfl) (same_go l l.length 0 hl (by omega))
theorem Small_T {i : Int} (h0 : -9223372036854775808 ≤ i) (h1 : i ≤ 9223372036854775807) : whole_Small.f (T i) = some (i, true) := by
 unfold whole_Small.f strconv_ParseInt.f
 rw [if_pos ⟨rfl, rfl, by have : (T i).size ≤ 20 := T_size_le (k := 19) (by omega) (by omega); omega⟩, T_dataList, parseIntB_itoa h0 h1]
 rfl
theorem S17_small {i : Int} (h : -1000 ≤ i) (h2 : i ≤ 1000) : S17 i := by unfold S17; omega
theorem CTerms_T {ts : List Int} {n d : Int} (h : isCf ts n d) (hn : S17 n) (hd : S17 d) (hF : Fr n d) (hl : ts.length ≤ 1000) : Ev (fun k => convergent_Terms.f k (T n) (T d)) (ts.map T, 0) := by
 unfold convergent_Terms.f
 refine Ev.bind (Wrong_no hn hd hF) (Ev.congr (fun k => if_neg (by simp)) ?_)
 refine Ev.bind (Terms_T h hn hd hF.1 hl) (Ev.congr (fun k => if_neg (by simp; omega)) (ev_const fun _ => rfl))
theorem Path_T {ts : List Int} {n d : Int} (h : isCf ts n d) (hn : S17 n) (hd : S17 d) (hF : Fr n d) (hp : 0 < n) (hl : ts.length ≤ 1000) (a : Int) (ha : ts.getLast? = some a) (hS : S17 a) {r : ByteArray × Int} (hr : pathl 0 ((ts.dropLast ++ [a - 1]).map T) [] = some r) :
  Ev (fun k => convergent_Path.f k (T n) (T d)) r := by
 unfold convergent_Path.f
 refine Ev.bind (Wrong_no hn hd hF) (Ev.congr (fun k => if_neg (by simp)) ?_)
 refine Ev.bind (ev_const (r := (1 : Int)) fun k => ?_) (Ev.congr (fun k => if_neg (by omega)) ?_)
 ·unfold fraction_Sign.f
  rw [whole_Sign_T n, sg_pos hp]
  rfl
 refine Ev.bind (Terms_T h hn hd hF.1 hl) ?_
 have e : (ts.map T).getLast? = some (T a) := by rw [List.getLast?_map, ha]; rfl
 refine Ev.congr (fun k => by rw [e]) ?_
 simp only
 rw [lit1]
 refine Ev.bind (ev_const fun k => Sub_T (a := a) (b := 1) ?_ (by unfold S17; omega) k) (ev_const fun k => ?_)
 ·exact hS
 ·rw [← hr]
  simp [List.map_dropLast]
theorem Known : Ev (fun k => schismalaw04_known.f k) true := by
 unfold schismalaw04_known.f
 have F7 : Fr 7 12 := ⟨by decide, by decide⟩
 have F3 : Fr 3 5 := ⟨by decide, by decide⟩
 have t7 : isCf [0, 1, 1, 2, 2] 7 12 := by simp [isCf]
 have t3 : isCf [0, 1, 1, 2] 3 5 := by simp [isCf]
 have m : ∀ {n d : Int}, n.natAbs < 1000 → 0 < d → d < 1000 → Fr n d → Ev (fun k => schismaref04_Make.f k n d) (T n, T d) := fun h1 h2 h3 h4 => by
  rw [← fr_self h4]; exact RMake (by omega) h2 (by omega)
 refine Ev.bind (m (n := 7) (d := 12) (by decide) (by decide) (by decide) F7) ?_
 refine Ev.bind (CTerms_T t7 (S17_small (by decide) (by decide)) (S17_small (by decide) (by decide)) F7 (by decide)) ?_
 refine Ev.bind (m (n := 3) (d := 5) (by decide) (by decide) (by decide) F3) ?_
 refine Ev.bind (Path_T t3 (S17_small (by decide) (by decide)) (S17_small (by decide) (by decide)) F3 (by decide) (by decide) 2 rfl (S17_small (by decide) (by decide)) (r := (⟨#[76, 82, 76]⟩, 0)) ?_) ?_
 ·simp only [List.dropLast, List.map_cons, List.map_append, List.map_nil, List.nil_append, List.cons_append, pathl]
  rw [Small_T (by decide) (by decide), Small_T (by decide) (by decide), Small_T (by decide) (by decide)]
  rfl
 refine Ev.bind (ev_const fun k => Best_yes (ts := [0, 1, 1, 2, 2]) ⟨rfl, rfl, by decide, by decide, F7, by decide, by decide, by decide, t7, by decide⟩ k) ?_
 refine Ev.congr (fun k => if_pos rfl) ?_
 refine Ev.bind (Ints_T (by decide) (fun a ha => S17_small (by simp at ha; omega) (by simp at ha; omega))) ?_
 refine Ev.congr (fun k => by rw [if_pos rfl, if_pos rfl, if_pos (by simp [ByteArray.toList_eq]), if_pos rfl]) ?_
 refine Ev.bind (m (n := 1) (d := 1) (by decide) (by decide) (by decide) ⟨by decide, by decide⟩) ?_
 refine Ev.bind (m (n := 1) (d := 2) (by decide) (by decide) (by decide) ⟨by decide, by decide⟩) ?_
 refine Ev.bind (m (n := 3) (d := 5) (by decide) (by decide) (by decide) ⟨by decide, by decide⟩) ?_
 refine Ev.bind (m (n := 4) (d := 7) (by decide) (by decide) (by decide) ⟨by decide, by decide⟩) ?_
 have e : (bestRow 7 12 7 [0, 1, 1, 2, 2]).map sf = [⟨T 1, T 1⟩, ⟨T 1, T 2⟩, ⟨T 3, T 5⟩, ⟨T 4, T 7⟩] := by
  have : bestRow 7 12 7 [0, 1, 1, 2, 2] = [(1, 1), (1, 2), (3, 5), (4, 7)] := by decide
  rw [this]; rfl
 rw [e]
 exact Ev.bind (Same_self (by decide)) (ev_const fun _ => rfl)
end Go.Proofs.YtidajgkepdkcbaaGreatDoor
end
section
namespace Go.Proofs.YtidajgkepdkcbaaGreatDoor
open Go.RowKit Go.Lib Go.Proofs.YtidajgkepdkcbaaGreatDoorW.PrintWords Go.Proofs.YtidajgkepdkcbaaGreatDoorW.PrintLast Go.Proofs.YtidajgkepdkcbaaGreatDoorW.PrintMore PF
theorem fr_good {p q : Int} (h : Int.gcd p q = 1) : fr p q = (T p, T q) := by unfold fr; rw [h]; simp
end Go.Proofs.YtidajgkepdkcbaaGreatDoor
end
section
namespace Go.Proofs.YtidajgkepdkcbaaGreatDoor
open Go.RowKit Go.Lib Go.Proofs.YtidajgkepdkcbaaGreatDoorW.PrintWords Go.Proofs.YtidajgkepdkcbaaGreatDoorW.PrintLast Go.Proofs.YtidajgkepdkcbaaGreatDoorW.PrintMore PF
theorem FFloor_T {n d : Int} (hn : S17 n) (hd : S17 d) (h0 : 0 < d) : Ev (fun k => fraction_Floor.f k (T n) (T d)) (T (n / d)) := by
 unfold fraction_Floor.f
 exact Ev.bind (DivMod_T hn hd h0) (ev_const fun _ => rfl)
theorem FCeil_T {n d : Int} (hn : S17 n) (hd : S17 d) (h0 : 0 < d) : Ev (fun k => fraction_Ceil.f k (T n) (T d)) (T (cl n d)) := by
 unfold fraction_Ceil.f
 refine Ev.bind (ev_const fun _ => FNeg_T hn) (Ev.bind (FFloor_T hn.neg hd h0) ?_)
 have h1 : (-n / d).natAbs ≤ (-n).natAbs := Int.natAbs_ediv_le_natAbs ..
 refine Ev.bind (ev_const fun _ => Neg_T ?_) (ev_const fun _ => rfl)
 unfold S17 at *; omega
theorem Inv_T {x y : Int} (hx : S17 x) (hy : S17 y) (hx9 : x.natAbs < 10000000000000000) (hy9 : y.natAbs < 10000000000000000) (h0 : 0 < x) (hg : Int.gcd x y = 1) : Ev (fun k => fraction_Div.f k (T 1) (T 1) (T x) (T y)) (T y, T x, 0) := by
 unfold fraction_Div.f
 have h1 : S17 1 := by unfold S17; omega
 refine Ev.bind (ev_const (r := (1 : Int)) fun _ => ?_) (Ev.congr (fun k => if_neg (by omega)) ?_)
 ·unfold fraction_Sign.f
  rw [whole_Sign_T, sg_pos h0]
  rfl
 refine Ev.bind (Mul_T h1 hy (by rw [show (1 : Int).natAbs = 1 from rfl, Nat.one_mul]; exact hy9)) (Ev.bind (Mul_T h1 hx (by rw [show (1 : Int).natAbs = 1 from rfl, Nat.one_mul]; exact hx9)) ?_)
 rw [Int.one_mul, Int.one_mul]
 refine Ev.bind (Lowest_T hy hx h0) (ev_const fun _ => ?_)
 rw [fr_self ⟨h0, by rw [Int.gcd_comm]; exact hg⟩]
structure SI (c : CS) (ln ld hn hd : Int) : Prop where
 p0 : 0 ≤ c.p
 q0 : 0 ≤ c.q
 b0 : 0 ≤ c.b
 u0 : 0 ≤ c.u
 uq : 1 ≤ c.u + c.q
 l1 : c.b * ld + c.p * ln < 100000000
 l2 : c.u * ld + c.q * ln < 100000000
 h1 : c.b * hd + c.p * hn < 100000000
 h2 : c.u * hd + c.q * hn < 100000000
 ln0 : 0 < ln
 ld0 : 0 < ld
 hn0 : 0 < hn
 hd0 : 0 < hd
 ln9 : ln < 100000000
 ld9 : ld < 100000000
 hn9 : hn < 100000000
 hd9 : hd < 100000000
 gl : Int.gcd ln ld = 1
 gh : Int.gcd hn hd = 1
theorem gcd_sub {x y a : Int} (h : Int.gcd x y = 1) : Int.gcd (x - a * y) y = 1 := by
 have h1 : ((Int.gcd (x - a * y) y : Nat) : Int) ∣ x - a * y := Int.gcd_dvd_left ..
 have h2 : ((Int.gcd (x - a * y) y : Nat) : Int) ∣ y := Int.gcd_dvd_right ..
 have h3 : ((Int.gcd (x - a * y) y : Nat) : Int) ∣ x := by
  have := Int.dvd_add h1 (Int.dvd_trans h2 (Int.dvd_mul_left a y))
  have e : x - a * y + a * y = x := by omega
  rwa [e] at this
 have h4 := Int.dvd_coe_gcd h3 h2
 rw [h] at h4
 have := Int.eq_one_of_dvd_one (by omega) h4
 omega
theorem SI.next {c : CS} {ln ld hn hd : Int} (h : SI c ln ld hn hd) (hle : ln * hd ≤ hn * ld) (hc : ¬ cl ln ld ≤ hn / hd) :
  SI (c.next (ln / ld)) hd (hn - ln / ld * hd) ld (ln - ln / ld * ld) := by
 obtain ⟨a0, a1, a2, a3, a4, a5⟩ := simpl_step h.ld0 h.hd0 h.ln0 hle hc
 have m1 : 0 ≤ ln / ld * c.p := Int.mul_nonneg a0 h.p0
 have m2 : 0 ≤ ln / ld * c.q := Int.mul_nonneg a0 h.q0
 refine ⟨?_, ?_, h.p0, h.q0, ?_, ?_, ?_, ?_, ?_, h.hd0, a2, h.ld0, a1, h.hd9, by have := h.hd9; omega, h.ld9, by have := h.ld9; omega, ?_, ?_⟩
 ·simp only [CS.next]; have := h.b0; omega
 ·simp only [CS.next]; have := h.u0; omega
 ·simp only [CS.next]; have := h.uq; have := h.q0; omega
 ·have e : (c.next (ln / ld)).b * (hn - ln / ld * hd) + (c.next (ln / ld)).p * hd = c.b * hd + c.p * hn := by simp only [CS.next]; grind
  rw [e]; exact h.h1
 ·have e : (c.next (ln / ld)).u * (hn - ln / ld * hd) + (c.next (ln / ld)).q * hd = c.u * hd + c.q * hn := by simp only [CS.next]; grind
  rw [e]; exact h.h2
 ·have e : (c.next (ln / ld)).b * (ln - ln / ld * ld) + (c.next (ln / ld)).p * ld = c.b * ld + c.p * ln := by simp only [CS.next]; grind
  rw [e]; exact h.l1
 ·have e : (c.next (ln / ld)).u * (ln - ln / ld * ld) + (c.next (ln / ld)).q * ld = c.u * ld + c.q * ln := by simp only [CS.next]; grind
  rw [e]; exact h.l2
 ·rw [Int.gcd_comm]; exact gcd_sub h.gh
 ·rw [Int.gcd_comm]; exact gcd_sub h.gl
theorem SI.small {c : CS} {ln ld hn hd : Int} (h : SI c ln ld hn hd) : c.p < 100000000 ∧ c.q < 100000000 ∧ c.b < 100000000 ∧ c.u < 100000000 ∧
  (∀ j, 0 ≤ j → j ≤ ln ∨ j ≤ hn → j * c.p < 100000000 ∧ 0 ≤ j * c.p ∧ j * c.q < 100000000 ∧ 0 ≤ j * c.q) := by
 have a1 : 0 ≤ c.b * ld := Int.mul_nonneg h.b0 (by have := h.ld0; omega)
 have a2 : 0 ≤ c.u * ld := Int.mul_nonneg h.u0 (by have := h.ld0; omega)
 have a3 : 0 ≤ c.b * hd := Int.mul_nonneg h.b0 (by have := h.hd0; omega)
 have a4 : 0 ≤ c.u * hd := Int.mul_nonneg h.u0 (by have := h.hd0; omega)
 have b1 : c.p * 1 ≤ c.p * ln := Int.mul_le_mul_of_nonneg_left (by have := h.ln0; omega) h.p0
 have b2 : c.q * 1 ≤ c.q * ln := Int.mul_le_mul_of_nonneg_left (by have := h.ln0; omega) h.q0
 have b3 : c.b * 1 ≤ c.b * ld := Int.mul_le_mul_of_nonneg_left (by have := h.ld0; omega) h.b0
 have b4 : c.u * 1 ≤ c.u * ld := Int.mul_le_mul_of_nonneg_left (by have := h.ld0; omega) h.u0
 have l1 := h.l1
 have l2 := h.l2
 have h1 := h.h1
 have h2 := h.h2
 have hp := h.p0
 have hq := h.q0
 refine ⟨by omega, by omega, by omega, by omega, fun j hj hjl => ?_⟩
 have n1 : 0 ≤ j * c.p := Int.mul_nonneg hj hp
 have n2 : 0 ≤ j * c.q := Int.mul_nonneg hj hq
 rcases hjl with hjl | hjl
 ·have m1 : c.p * j ≤ c.p * ln := Int.mul_le_mul_of_nonneg_left hjl hp
  have m2 : c.q * j ≤ c.q * ln := Int.mul_le_mul_of_nonneg_left hjl hq
  have e1 : j * c.p = c.p * j := Int.mul_comm ..
  have e2 : j * c.q = c.q * j := Int.mul_comm ..
  omega
 ·have m1 : c.p * j ≤ c.p * hn := Int.mul_le_mul_of_nonneg_left hjl hp
  have m2 : c.q * j ≤ c.q * hn := Int.mul_le_mul_of_nonneg_left hjl hq
  have e1 : j * c.p = c.p * j := Int.mul_comm ..
  have e2 : j * c.q = c.q * j := Int.mul_comm ..
  omega
theorem SI.step {c : CS} {ln ld hn hd j : Int} (h : SI c ln ld hn hd) (hj : 0 ≤ j) (hjl : j ≤ ln ∨ j ≤ hn) : c.StepOk j := by
 obtain ⟨s1, s2, s3, s4, s5⟩ := h.small
 obtain ⟨t1, t2, t3, t4⟩ := s5 j hj hjl
 have := h.p0; have := h.q0; have := h.b0; have := h.u0; have := h.ln9; have := h.hn9
 refine ⟨⟨?_, ?_, ?_, ?_, h.q0, h.u0⟩, ?_, natAbs_mul_lt (B := 10000000000000000) (by omega) (by omega), natAbs_mul_lt (B := 10000000000000000) (by omega) (by omega)⟩ <;> (unfold S15; omega)
theorem simp_eval : ∀ (k : Nat) (c : CS) (ln ld hn hd : Int), SI c ln ld hn hd → ln * hd ≤ hn * ld → ld + hd < k →
  Ev (fun j => convergent_simplest.l0 j (T ln) (T ld) (T hn) (T hd) (T c.p) (T c.q) (T c.b) (T c.u)) (fr (simpl k c ln ld hn hd).1 (simpl k c ln ld hn hd).2)
 | 0, _, ln, ld, hn, hd, h, _, hk => by have := h.ld0; have := h.hd0; omega
 | k + 1, c, ln, ld, hn, hd, h, hle, hk => by
  have ln0 := h.ln0; have ld0 := h.ld0; have hn0 := h.hn0; have hd0 := h.hd0
  have ln9 := h.ln9; have ld9 := h.ld9; have hn9 := h.hn9; have hd9 := h.hd9
  have sln : S17 ln := by unfold S17; omega
  have sld : S17 ld := by unfold S17; omega
  have shn : S17 hn := by unfold S17; omega
  have shd : S17 hd := by unfold S17; omega
  obtain ⟨c1, c2⟩ := cl_spec (n := ln) ld0
  have hcl1 : 1 ≤ cl ln ld := by
   apply Int.not_lt.1; intro hh
   have := Int.mul_nonneg (a := ld) (b := -cl ln ld) (by omega) (by omega)
   rw [Int.mul_neg] at this
   omega
  have hcl2 : cl ln ld ≤ ln := c2 ln (by
   have := Int.mul_le_mul_of_nonneg_right (show 1 ≤ ld by omega) (show 0 ≤ ln by omega)
   omega)
  have hf0 : 0 ≤ hn / hd := Int.ediv_nonneg (by omega) (by omega)
  have hf2 : hn / hd ≤ hn := Int.ediv_le_self _ (by omega)
  have ha0 : 0 ≤ ln / ld := Int.ediv_nonneg (by omega) (by omega)
  have ha2 : ln / ld ≤ ln := Int.ediv_le_self _ (by omega)
  have scl := S17.size (i := cl ln ld) (by unfold S17; omega)
  have scf := S17.size (i := hn / hd) (by unfold S17; omega)
  refine Ev.step (fun j => by rw [convergent_simplest.l0]) ?_
  refine Ev.bind (FCeil_T sln sld ld0) (Ev.bind (FFloor_T shn shd hd0) (Ev.bind (ev_const fun _ => Compare_T (a := cl ln ld) (b := hn / hd) (by omega) (by omega)) ?_))
  rw [simpl]
  by_cases hc : cl ln ld ≤ hn / hd
  ·rw [if_pos hc]
   have hcmp : cmp (cl ln ld) (hn / hd) ≤ 0 := by unfold cmp; split; omega; rw [if_neg (by omega)]; omega
   refine Ev.congr (fun j => if_pos hcmp) ?_
   have hst := h.step (j := cl ln ld) (by omega) (.inl hcl2)
   obtain ⟨s1, s2, s3, s4, s5⟩ := h.small
   obtain ⟨t1, t2, t3, t4⟩ := s5 (cl ln ld) (by omega) (.inl hcl2)
   have hb0 := h.b0; have hu0 := h.u0; have hq0 := h.q0; have huq := h.uq
   have hqq : 1 * c.q ≤ cl ln ld * c.q := Int.mul_le_mul_of_nonneg_right hcl1 hq0
   refine Ev.bind (Step_T hst) (Ev.bind (Over_T (by unfold S17; omega) (by unfold S17; omega) (by omega)) (ev_const fun _ => rfl))
  ·rw [if_neg hc]
   have hcmp : ¬ cmp (cl ln ld) (hn / hd) ≤ 0 := by unfold cmp; rw [if_neg (by omega), if_pos (by omega)]; omega
   refine Ev.congr (fun j => if_neg hcmp) ?_
   have hN := h.next hle hc
   obtain ⟨a0, a1, a2, a3, a4, a5⟩ := simpl_step ld0 hd0 ln0 hle hc
   have sa : S17 (ln / ld) := by unfold S17; omega
   have s1 : S17 1 := by unfold S17; omega
   have f1 : fr (ln / ld) 1 = (T (ln / ld), T 1) := fr_good (by simp)
   have f2 : fr 1 1 = (T 1, T 1) := fr_good (by simp)
   have el : Int.gcd (ln - ln / ld * ld) ld = 1 := gcd_sub h.gl
   have eh : Int.gcd (hn - ln / ld * hd) hd = 1 := gcd_sub h.gh
   have so1 : SumOk ln ld (ln / ld) 1 := ⟨sln, sld, sa, s1, ld0, by omega, by simp; omega, natAbs_mul_lt (B := 10000000000000000) (by omega) (by omega), by simp; omega⟩
   have so2 : SumOk hn hd (ln / ld) 1 := ⟨shn, shd, sa, s1, hd0, by omega, by simp; omega, natAbs_mul_lt (B := 10000000000000000) (by have := Int.mul_nonneg ha0 (show 0 ≤ hd by omega); omega) (by omega), by simp; omega⟩
   refine Ev.bind (FFloor_T sln sld ld0) (Ev.bind (Next_T (h.step ha0 (.inl ha2))) ?_)
   rw [lit1]
   refine Ev.bind (Over_T sa s1 (by omega)) ?_
   rw [f1]
   refine Ev.bind (Over_T s1 s1 (by omega)) ?_
   rw [f2]
   refine Ev.bind (FSub_T so1) ?_
   rw [Int.mul_one, Int.mul_one, fr_good el]
   refine Ev.bind (Inv_T (by unfold S17; omega) sld (by omega) (by omega) a1 el) ?_
   refine Ev.bind (Over_T s1 s1 (by omega)) ?_
   rw [f2]
   refine Ev.bind (FSub_T so2) ?_
   rw [Int.mul_one, Int.mul_one, fr_good eh]
   refine Ev.bind (Inv_T (by unfold S17; omega) shd (by omega) (by omega) a2 eh) ?_
   have := simp_eval k (c.next (ln / ld)) hd (hn - ln / ld * hd) ld (ln - ln / ld * ld) hN a5 (by omega)
   simpa [CS.next] using this
theorem simplest_T {ln ld hn hd : Int} (h0 : 0 < ln) (h1 : 0 < ld) (h2 : 0 < hd) (hle : ln * hd ≤ hn * ld) (gl : Int.gcd ln ld = 1) (gh : Int.gcd hn hd = 1) (b1 : ln < 10000000) (b2 : ld < 10000000) (b3 : hn < 10000000) (b4 : hd < 10000000) :
  ∃ P Q, Simp ln ld hn hd P Q ∧ 0 < P ∧ Ev (fun j => convergent_simplest.f j (T ln) (T ld) (T hn) (T hd)) (fr P Q) := by
 have hn0 : 0 < hn := by
  apply Int.not_le.1; intro h
  have a1 : 0 < ln * hd := Int.mul_pos h0 h2
  have a2 := Int.mul_nonneg (a := -hn) (b := ld) (by omega) (by omega)
  rw [Int.neg_mul] at a2
  omega
 obtain ⟨P, Q, hs, hP, he⟩ := simpl_spec (ld + hd + 1).toNat CS.begin ln ld hn hd h0 h1 h2 hle (by omega)
 refine ⟨P, Q, hs, hP, ?_⟩
 have hSI : SI CS.begin ln ld hn hd := by
  constructor <;> (try simp only [CS.begin]) <;> omega
 have hev := simp_eval (ld + hd + 1).toNat CS.begin ln ld hn hd hSI hle (by omega)
 rw [he] at hev
 simp only [CS.begin, Int.zero_mul, Int.one_mul, Int.zero_add, Int.add_zero] at hev
 unfold convergent_simplest.f
 refine Ev.bind (ev_const (r := (T 1, T 0, T 0, T 1)) fun k => by rw [convergent_begin.f, lit0, lit1]) ?_
 exact hev
end Go.Proofs.YtidajgkepdkcbaaGreatDoor
end
section
namespace Go.Proofs.YtidajgkepdkcbaaGreatDoor.PL
open Go.RowKit Go.Proofs.YtidajgkepdkcbaaGreatDoorW.PrintWords Go.Proofs.YtidajgkepdkcbaaGreatDoorW.PrintLast Go.Proofs.YtidajgkepdkcbaaGreatDoorW.PrintMore Go.Proofs.YtidajgkepdkcbaaGreatDoor.PF
attribute [local go_sem] max2_int min2_int max_two min_two max_three min_three max_four min_four
theorem eqA24 (d : Nat) (w : World) (x0 y0 : ByteArray) (x1 y1 : ByteArray) :
  (Op.equalIn (d + 2) 24 (.agg #[.string x0, .string x1]) (.agg #[.string y0, .string y1])).run Tryz.prog w = .ok (x0.toList == y0.toList && (x1.toList == y1.toList)) w := by
 refine eqA_of Tryz.underlying24 (by kernel_rfl) ?_
 refine eqf_cons (by rfl) (by go_simp; rfl) (by go_simp; rfl) (by go_simp) ?_
 exact eqf_last (by rfl) (by go_simp; rfl) (by go_simp; rfl) (by go_simp)
end Go.Proofs.YtidajgkepdkcbaaGreatDoor.PL
end
section
namespace Go.Proofs.YtidajgkepdkcbaaGreatDoor.PL
open Go.RowKit Go.Proofs.YtidajgkepdkcbaaGreatDoorW.PrintWords Go.Proofs.YtidajgkepdkcbaaGreatDoorW.PrintLast Go.Proofs.YtidajgkepdkcbaaGreatDoorW.PrintMore Go.Proofs.YtidajgkepdkcbaaGreatDoor.PF
attribute [local go_sem] max2_int min2_int max_two min_two max_three min_three max_four min_four
attribute [local go_sem high] eqA24
mutual
noncomputable def schismalaw04_ConvergentSimplest.j0 : Nat → Bool → ByteArray → ByteArray → ByteArray → ByteArray → Option (Bool)
 | 0, _, _, _, _, _ => none
 | k + 1, x24, x180000, x180001, x181000, x181001 => if x24 = true then ((schismalaw04_known.f k).bind fun t184 => (some t184)) else ((schismaref04_Parts.f k x180000 x180001).bind fun bt185 => ((schismaref04_Parts.f k x181000 x181001).bind fun bt188 => (if bt185.2.2 = true then (if bt185.2.1 > 200 then (schismalaw04_ConvergentSimplest.j1 k bt185.1 bt185.2.1 bt185.2.2 bt188.1 bt188.2.1 bt188.2.2 true x180000 x180001 x181000 x181001) else (if bt188.2.2 = true then (schismalaw04_ConvergentSimplest.j1 k bt185.1 bt185.2.1 bt185.2.2 bt188.1 bt188.2.1 bt188.2.2 (decide (bt188.2.1 > 200)) x180000 x180001 x181000 x181001) else (schismalaw04_ConvergentSimplest.j1 k bt185.1 bt185.2.1 bt185.2.2 bt188.1 bt188.2.1 bt188.2.2 false x180000 x180001 x181000 x181001))) else (if bt188.2.2 = true then (schismalaw04_ConvergentSimplest.j1 k bt185.1 bt185.2.1 bt185.2.2 bt188.1 bt188.2.1 bt188.2.2 (decide (bt188.2.1 > 200)) x180000 x180001 x181000 x181001) else (schismalaw04_ConvergentSimplest.j1 k bt185.1 bt185.2.1 bt185.2.2 bt188.1 bt188.2.1 bt188.2.2 false x180000 x180001 x181000 x181001)))))
noncomputable def schismalaw04_ConvergentSimplest.j1 : Nat → Int → Int → Bool → Int → Int → Bool → Bool → ByteArray → ByteArray → ByteArray → ByteArray → Option (Bool)
 | 0, _, _, _, _, _, _, _, _, _, _, _ => none
 | k + 1, x5, x6, x7, x8, x9, x10, x49, x180000, x180001, x181000, x181001 => if x49 = true then (some true) else ((convergent_Simplest.f k x180000 x180001 x181000 x181001).bind fun bt191 => (if x7 = true then (schismalaw04_ConvergentSimplest.j2 k x5 x6 x8 x9 bt191.2.2 (!x10) bt191.1 bt191.2.1) else (schismalaw04_ConvergentSimplest.j2 k x5 x6 x8 x9 bt191.2.2 true bt191.1 bt191.2.1)))
noncomputable def schismalaw04_ConvergentSimplest.j2 : Nat → Int → Int → Int → Int → Int → Bool → ByteArray → ByteArray → Option (Bool)
 | 0, _, _, _, _, _, _, _, _ => none
 | k + 1, x5, x6, x8, x9, x12, x56, x195000, x195001 => if x56 = true then ((schismalaw04_none.f x195000 x195001).bind fun t195 => (if t195 = true then (some (x12 == 2)) else (some false))) else (if (wrap64 (x5 * x9)) > (wrap64 (x8 * x6)) then ((schismalaw04_none.f x195000 x195001).bind fun t196 => (if t196 = true then (some (x12 == 6)) else (some false))) else ((schismaref04_Simplest.f k x5 x6 x8 x9).bind fun bt197 => (if (x195000.toList == bt197.1.toList && (x195001.toList == bt197.2.toList)) = true then (some (x12 == 0)) else (some false))))
end
noncomputable def schismalaw04_ConvergentSimplest.f (k : Nat) (a0_0 : ByteArray) (a0_1 : ByteArray) (a1_0 : ByteArray) (a1_1 : ByteArray) : Option (Bool) := (schismalaw04_known.f k).bind fun t181 => (if t181 = true then ((schismalaw04_small.f a0_0 a0_1).bind fun t182 => (if t182 = true then ((schismalaw04_small.f a1_0 a1_1).bind fun t183 => (schismalaw04_ConvergentSimplest.j0 k (!t183) a0_0 a0_1 a1_0 a1_1)) else (schismalaw04_ConvergentSimplest.j0 k true a0_0 a0_1 a1_0 a1_1))) else (schismalaw04_ConvergentSimplest.j0 k true a0_0 a0_1 a1_0 a1_1))
noncomputable def schismalaw04_ConvergentSimplest.T12 : Bool × List (List Nat × List Nat) := (true, [([], []), ([], []), ([], []), ([], []), ([], []), ([1, 2, 3, 4], [1, 2, 3, 4]), ([0, 5], [0, 5]), ([6, 5], [6]), ([7], [7]), ([8, 7], [7, 8]), ([7, 9], [7, 9]), ([10, 7, 0, 1, 2, 3, 4, 5, 6, 7, 8, 9, 10], [10])])
noncomputable def schismalaw04_ConvergentSimplest.B12 : List Nat := [0, 0, 0, 0, 0, 30, 63, 127, 255, 511, 1023, 2047]
theorem schismalaw04_ConvergentSimplest.tab12 : rtab .any (opsOf Tryz.f11 12) = schismalaw04_ConvergentSimplest.T12 := by kernel_rfl
theorem schismalaw04_ConvergentSimplest.bits12 : waitsOk schismalaw04_ConvergentSimplest.T12.2 schismalaw04_ConvergentSimplest.B12 = true := by kernel_rfl
set_option maxHeartbeats 8000000 in
set_option maxRecDepth 100000 in
theorem schismalaw04_ConvergentSimplest.calls (k : Nat) (a0_0 : ByteArray) (a0_1 : ByteArray) (a1_0 : ByteArray) (a1_1 : ByteArray) (r : Bool) (w : World) (hG_ : GWorld w) (h : schismalaw04_ConvergentSimplest.f k a0_0 a0_1 a1_0 a1_1 = some r) :
  Calls Tryz.prog 11 #[.agg #[.string a0_0, .string a0_1], .agg #[.string a1_0, .string a1_1]] w fun e w' => e = .returned (.bool r) ∧ Below w.heap.size w w' := by
 have hu24 := Tryz.underlying24
 have HB := Aside0.mk (Below.refl w.heap.size w)
 have HG := Aside0.mk hG_
 clear hG_
 have H : ((schismalaw04_known.f k).bind fun t181 => (if t181 = true then ((schismalaw04_small.f a0_0 a0_1).bind fun t182 => (if t182 = true then ((schismalaw04_small.f a1_0 a1_1).bind fun t183 => (schismalaw04_ConvergentSimplest.j0 k (!t183) a0_0 a0_1 a1_0 a1_1)) else (schismalaw04_ConvergentSimplest.j0 k true a0_0 a0_1 a1_0 a1_1))) else (schismalaw04_ConvergentSimplest.j0 k true a0_0 a0_1 a1_0 a1_1))) = some r := h
 clear h
 have HC3 := Aside0.mk H
 clear H
 go_enter Tryz.func11, Tryz.ntmps11
 go_upto_region 1 with (first | ((with_reducible refine gate_dst (N := 2) rfl ?_); refine bx_ 2 #[.string a0_0, .string a0_1] 24 ?_; clear HB; intro gb179 w4 BK179 GW179 HB; have GE179 := GW179) | ((with_reducible refine gate_dst (N := 3) rfl ?_); refine box_event ?hg (N := 3) ?hd (cs := #[.string a1_0, .string a1_1]) (t := 24) ?hr ?_; (case hd => rfl); (case hg => rfl); (case hr => first | (go_simp; done) | (go_simp; rfl)); intro gb180 hg w5 hbox hb; have BK180 := Aside0.mk (hbox); have GW180 := ge_ (w := w) hg; have GE180 := ge_ (w := w) hg; replace HB := bs_ hb; have NB179_180 := nl_ hg BK179; have NB180_179 := ng_ hg BK179; replace BK179 := kb_ BK179 hb; clear hb hbox hg))
 (try simp only [Act.put, List.setIfInBounds_toArray, List.set_cons_zero, List.set_cons_succ])
 go_cut [24] (fun v24 wc => ∃ (kq : Nat) (x24_2 : Bool), v24 = .bool x24_2 ∧ Aside0 (schismalaw04_ConvergentSimplest.j0 kq x24_2 a0_0 a0_1 a1_0 a1_1 = some r) ∧ Aside0 (kq ≤ k) ∧ Aside0 (wc.heap[gb179]? = some (.cells #[.string a0_0, .string a0_1] 24 (0, 0))) ∧ Aside0 (wc.heap[gb180]? = some (.cells #[.string a1_0, .string a1_1] 24 (0, 0))) ∧ Aside0 (Below w.heap.size w wc))
 case first =>
  have H := HC3.out
  clear HC3
  replace H := Option.bind_eq_some_iff.mp H
  obtain ⟨t181, A60, H⟩ := H
  replace H : (if t181 = true then ((schismalaw04_small.f a0_0 a0_1).bind fun t182 => (if t182 = true then ((schismalaw04_small.f a1_0 a1_1).bind fun t183 => (schismalaw04_ConvergentSimplest.j0 k (!t183) a0_0 a0_1 a1_0 a1_1)) else (schismalaw04_ConvergentSimplest.j0 k true a0_0 a0_1 a1_0 a1_1))) else (schismalaw04_ConvergentSimplest.j0 k true a0_0 a0_1 a1_0 a1_1)) = some r := H
  have A6 := Aside0.mk A60
  clear A60
  by_cases c7 : t181 = true
  ·subst c7
   have H1 : ((schismalaw04_small.f a0_0 a0_1).bind fun t182 => (if t182 = true then ((schismalaw04_small.f a1_0 a1_1).bind fun t183 => (schismalaw04_ConvergentSimplest.j0 k (!t183) a0_0 a0_1 a1_0 a1_1)) else (schismalaw04_ConvergentSimplest.j0 k true a0_0 a0_1 a1_0 a1_1))) = some r := by rw [if_pos rfl] at H; exact H
   clear H
   have H := H1
   clear H1
   replace H := Option.bind_eq_some_iff.mp H
   obtain ⟨t182, A80, H⟩ := H
   replace H : (if t182 = true then ((schismalaw04_small.f a1_0 a1_1).bind fun t183 => (schismalaw04_ConvergentSimplest.j0 k (!t183) a0_0 a0_1 a1_0 a1_1)) else (schismalaw04_ConvergentSimplest.j0 k true a0_0 a0_1 a1_0 a1_1)) = some r := H
   have A8 := Aside0.mk A80
   clear A80
   by_cases c9 : t182 = true
   ·subst c9
    have H1 : ((schismalaw04_small.f a1_0 a1_1).bind fun t183 => (schismalaw04_ConvergentSimplest.j0 k (!t183) a0_0 a0_1 a1_0 a1_1)) = some r := by rw [if_pos rfl] at H; exact H
    clear H
    have H := H1
    clear H1
    replace H := Option.bind_eq_some_iff.mp H
    obtain ⟨t183, A100, H⟩ := H
    replace H : (schismalaw04_ConvergentSimplest.j0 k (!t183) a0_0 a0_1 a1_0 a1_1) = some r := H
    have A10 := Aside0.mk A100
    clear A100
    have H' := Aside0.mk H
    clear H
    go_wp2_with (first | ((with_reducible refine gate_callee (f := 13) rfl ?_); refine goesL_ (some 13) rfl rfl Tryz.func13 (by kernel_rfl) rfl #[] rfl mp_ ?_; (with_reducible refine (schismalaw04_known.calls k  true _ ?side1 A6.out).mono ?_); (case side1 => exact gw_ HG); rintro e w11 ⟨rfl, hb⟩; refine ⟨_, rfl, ?_⟩; replace BK179 := kb_ BK179 hb; replace BK180 := kb_ BK180 hb; replace HB := bs_ hb; (try clear hb); (try clear hb2); (try clear hk); (try clear hi); have hnb12 := NB179_180.out; have hnc12 := NB180_179.out; obtain ⟨hcz13_0, hcz13_1, hfz13_0, hfz13_1⟩ := c2_ BK179) | (go_at_call 27; (with_reducible refine (schismalaw04_small.calls a0_0 a0_1 true _ A8.out).mono ?_); rintro e w14 ⟨rfl, hb⟩; replace BK179 := kb_ BK179 hb; replace BK180 := kb_ BK180 hb; replace HB := bs_ hb; (try clear hb); (try clear hb2); (try clear hk); (try clear hi); obtain ⟨hcz15_0, hcz15_1, hfz15_0, hfz15_1⟩ := c2_ BK180) | (go_at_call 27; (with_reducible refine (schismalaw04_small.calls a1_0 a1_1 t183 _ A10.out).mono ?_); rintro e w16 ⟨rfl, hb⟩; replace BK179 := kb_ BK179 hb; replace BK180 := kb_ BK180 hb; replace HB := bs_ hb; (try clear hb); (try clear hb2); (try clear hk); (try clear hi)))
    go_meet
    case rel => exact ⟨_, (!t183), (by first | rfl | (simp; done) | (simp [*]; done)), H', ⟨by first | omega | exact Nat.le_refl _⟩, ⟨bk_⟩, ⟨bk_⟩, ⟨bl_⟩⟩
   ·replace c9 := Bool.eq_false_iff.mpr c9
    subst c9
    have H1 : (schismalaw04_ConvergentSimplest.j0 k true a0_0 a0_1 a1_0 a1_1) = some r := by rw [if_neg (show ¬ (false = true) by decide)] at H; exact H
    clear H
    have H := H1
    clear H1
    have H' := Aside0.mk H
    clear H
    go_wp2_with (first | ((with_reducible refine gate_callee (f := 13) rfl ?_); refine goesL_ (some 13) rfl rfl Tryz.func13 (by kernel_rfl) rfl #[] rfl mp_ ?_; (with_reducible refine (schismalaw04_known.calls k  true _ ?side1 A6.out).mono ?_); (case side1 => exact gw_ HG); rintro e w17 ⟨rfl, hb⟩; refine ⟨_, rfl, ?_⟩; replace BK179 := kb_ BK179 hb; replace BK180 := kb_ BK180 hb; replace HB := bs_ hb; (try clear hb); (try clear hb2); (try clear hk); (try clear hi); have hnb18 := NB179_180.out; have hnc18 := NB180_179.out; obtain ⟨hcz19_0, hcz19_1, hfz19_0, hfz19_1⟩ := c2_ BK179) | (go_at_call 27; (with_reducible refine (schismalaw04_small.calls a0_0 a0_1 false _ A8.out).mono ?_); rintro e w20 ⟨rfl, hb⟩; replace BK179 := kb_ BK179 hb; replace BK180 := kb_ BK180 hb; replace HB := bs_ hb; (try clear hb); (try clear hb2); (try clear hk); (try clear hi)))
    go_meet
    case rel => exact ⟨_, (true), (by first | rfl | (simp; done) | (simp [*]; done)), H', ⟨by first | omega | exact Nat.le_refl _⟩, ⟨bk_⟩, ⟨bk_⟩, ⟨bl_⟩⟩
  ·replace c7 := Bool.eq_false_iff.mpr c7
   subst c7
   have H1 : (schismalaw04_ConvergentSimplest.j0 k true a0_0 a0_1 a1_0 a1_1) = some r := by rw [if_neg (show ¬ (false = true) by decide)] at H; exact H
   clear H
   have H := H1
   clear H1
   have H' := Aside0.mk H
   clear H
   go_wp2_with (first | ((with_reducible refine gate_callee (f := 13) rfl ?_); refine goesL_ (some 13) rfl rfl Tryz.func13 (by kernel_rfl) rfl #[] rfl mp_ ?_; (with_reducible refine (schismalaw04_known.calls k  false _ ?side1 A6.out).mono ?_); (case side1 => exact gw_ HG); rintro e w21 ⟨rfl, hb⟩; refine ⟨_, rfl, ?_⟩; replace BK179 := kb_ BK179 hb; replace BK180 := kb_ BK180 hb; replace HB := bs_ hb; (try clear hb); (try clear hb2); (try clear hk); (try clear hi)))
   go_meet
   case rel => exact ⟨_, (true), (by first | rfl | (simp; done) | (simp [*]; done)), H', ⟨by first | omega | exact Nat.le_refl _⟩, ⟨bk_⟩, ⟨bk_⟩, ⟨bl_⟩⟩
 case rest =>
  clear HC3
  try clear c1
  try clear p2
  try clear c7
  try clear c9
  try clear c11
  try clear c12
  try clear c13
  try clear c18
  try clear hcz13_0
  try clear hcz13_1
  try clear hcz15_0
  try clear hcz15_1
  try clear hcz19_0
  try clear hcz19_1
  try clear hfz13_0
  try clear hfz13_1
  try clear hfz15_0
  try clear hfz15_1
  try clear hfz19_0
  try clear hfz19_1
  obtain ⟨kq, x24_2, rfl, HA, HJ2, BK179, BK180, HB⟩ := hcut
  cases kq with
  | zero => exact absurd HA.out (by simp [schismalaw04_ConvergentSimplest.j0])
  | succ kj2 =>
   have H := HA.out
   clear HA
   simp only [schismalaw04_ConvergentSimplest.j0] at H
   by_cases c22 : x24_2 = true
   ·subst c22
    have H1 : ((schismalaw04_known.f kj2).bind fun t184 => (some t184)) = some r := by rw [if_pos rfl] at H; exact H
    clear H
    have H := H1
    clear H1
    replace H := Option.bind_eq_some_iff.mp H
    obtain ⟨t184, A230, H⟩ := H
    replace H : (some t184) = some r := H
    have A23 := Aside0.mk A230
    clear A230
    obtain rfl := Option.some.inj H
    go_wp2_with (first | ((with_reducible refine gate_callee (f := 13) rfl ?_); refine goesL_ (some 25) rfl rfl Tryz.func13 (by kernel_rfl) rfl #[] rfl mp_ ?_; (with_reducible refine (schismalaw04_known.calls kj2  t184 _ ?side1 A23.out).mono ?_); (case side1 => exact gw_ HG); rintro e w24 ⟨rfl, hb⟩; refine ⟨_, rfl, ?_⟩; replace BK179 := kb_ BK179 hb; replace BK180 := kb_ BK180 hb; replace HB := bs_ hb; (try clear hb); (try clear hb2); (try clear hk); (try clear hi)))
    go_ret
    exact ⟨er_, bl_⟩
   ·replace c22 := Bool.eq_false_iff.mpr c22
    subst c22
    have H1 : ((schismaref04_Parts.f kj2 a0_0 a0_1).bind fun bt185 => ((schismaref04_Parts.f kj2 a1_0 a1_1).bind fun bt188 => (if bt185.2.2 = true then (if bt185.2.1 > 200 then (schismalaw04_ConvergentSimplest.j1 kj2 bt185.1 bt185.2.1 bt185.2.2 bt188.1 bt188.2.1 bt188.2.2 true a0_0 a0_1 a1_0 a1_1) else (if bt188.2.2 = true then (schismalaw04_ConvergentSimplest.j1 kj2 bt185.1 bt185.2.1 bt185.2.2 bt188.1 bt188.2.1 bt188.2.2 (decide (bt188.2.1 > 200)) a0_0 a0_1 a1_0 a1_1) else (schismalaw04_ConvergentSimplest.j1 kj2 bt185.1 bt185.2.1 bt185.2.2 bt188.1 bt188.2.1 bt188.2.2 false a0_0 a0_1 a1_0 a1_1))) else (if bt188.2.2 = true then (schismalaw04_ConvergentSimplest.j1 kj2 bt185.1 bt185.2.1 bt185.2.2 bt188.1 bt188.2.1 bt188.2.2 (decide (bt188.2.1 > 200)) a0_0 a0_1 a1_0 a1_1) else (schismalaw04_ConvergentSimplest.j1 kj2 bt185.1 bt185.2.1 bt185.2.2 bt188.1 bt188.2.1 bt188.2.2 false a0_0 a0_1 a1_0 a1_1))))) = some r := by rw [if_neg (show ¬ (false = true) by decide)] at H; exact H
    clear H
    have H := H1
    clear H1
    replace H := Option.bind_eq_some_iff.mp H
    obtain ⟨⟨t185, t186, t187⟩, A250, H⟩ := H
    replace H : ((schismaref04_Parts.f kj2 a1_0 a1_1).bind fun bt188 => (if t187 = true then (if t186 > 200 then (schismalaw04_ConvergentSimplest.j1 kj2 t185 t186 t187 bt188.1 bt188.2.1 bt188.2.2 true a0_0 a0_1 a1_0 a1_1) else (if bt188.2.2 = true then (schismalaw04_ConvergentSimplest.j1 kj2 t185 t186 t187 bt188.1 bt188.2.1 bt188.2.2 (decide (bt188.2.1 > 200)) a0_0 a0_1 a1_0 a1_1) else (schismalaw04_ConvergentSimplest.j1 kj2 t185 t186 t187 bt188.1 bt188.2.1 bt188.2.2 false a0_0 a0_1 a1_0 a1_1))) else (if bt188.2.2 = true then (schismalaw04_ConvergentSimplest.j1 kj2 t185 t186 t187 bt188.1 bt188.2.1 bt188.2.2 (decide (bt188.2.1 > 200)) a0_0 a0_1 a1_0 a1_1) else (schismalaw04_ConvergentSimplest.j1 kj2 t185 t186 t187 bt188.1 bt188.2.1 bt188.2.2 false a0_0 a0_1 a1_0 a1_1)))) = some r := H
    have A25 := Aside0.mk A250
    clear A250
    replace H := Option.bind_eq_some_iff.mp H
    obtain ⟨⟨t188, t189, t190⟩, A260, H⟩ := H
    replace H : (if t187 = true then (if t186 > 200 then (schismalaw04_ConvergentSimplest.j1 kj2 t185 t186 t187 t188 t189 t190 true a0_0 a0_1 a1_0 a1_1) else (if t190 = true then (schismalaw04_ConvergentSimplest.j1 kj2 t185 t186 t187 t188 t189 t190 (decide (t189 > 200)) a0_0 a0_1 a1_0 a1_1) else (schismalaw04_ConvergentSimplest.j1 kj2 t185 t186 t187 t188 t189 t190 false a0_0 a0_1 a1_0 a1_1))) else (if t190 = true then (schismalaw04_ConvergentSimplest.j1 kj2 t185 t186 t187 t188 t189 t190 (decide (t189 > 200)) a0_0 a0_1 a1_0 a1_1) else (schismalaw04_ConvergentSimplest.j1 kj2 t185 t186 t187 t188 t189 t190 false a0_0 a0_1 a1_0 a1_1))) = some r := H
    have A26 := Aside0.mk A260
    clear A260
    have HC27 := Aside0.mk H
    clear H
    have hnb28 := NB179_180.out
    have hnc28 := NB180_179.out
    have hcz29_0 : wc.cell? ⟨gb179, 0, none⟩ = some (.string a0_0) := (blk_cell BK179.out 0).trans rfl
    have hcz29_1 : wc.cell? ⟨gb179, 1, none⟩ = some (.string a0_1) := (blk_cell BK179.out 1).trans rfl
    have hfz29_0 := blk_frozen BK179.out 0
    have hfz29_1 := blk_frozen BK179.out 1
    go_upto_region 5 with (first | ((with_reducible refine gate_callee (f := 15) rfl ?_); refine goesL_ (some 28) rfl rfl Tryz.func15 (by kernel_rfl) rfl #[.agg #[.string a0_0, .string a0_1]] rfl mp_ ?_; (with_reducible refine (schismaref04_Parts.calls kj2 a0_0 a0_1 t185 t186 t187 _ A25.out).mono ?_); rintro e w30 ⟨rfl, hb⟩; refine ⟨_, rfl, ?_⟩; replace BK179 := kb_ BK179 hb; replace BK180 := kb_ BK180 hb; replace HB := bs_ hb; (try clear hb); (try clear hb2); (try clear hk); (try clear hi); obtain ⟨hcz31_0, hcz31_1, hfz31_0, hfz31_1⟩ := c2_ BK180) | ((with_reducible refine gate_callee (f := 15) rfl ?_); refine goesL_ (some 34) rfl rfl Tryz.func15 (by kernel_rfl) rfl #[.agg #[.string a1_0, .string a1_1]] rfl mp_ ?_; (with_reducible refine (schismaref04_Parts.calls kj2 a1_0 a1_1 t188 t189 t190 _ A26.out).mono ?_); rintro e w32 ⟨rfl, hb⟩; refine ⟨_, rfl, ?_⟩; replace BK179 := kb_ BK179 hb; replace BK180 := kb_ BK180 hb; replace HB := bs_ hb; (try clear hb); (try clear hb2); (try clear hk); (try clear hi)))
    (try simp only [Act.put, List.setIfInBounds_toArray, List.set_cons_zero, List.set_cons_succ])
    go_cut [49] (fun v49 wc => ∃ (kq : Nat) (x49_26 : Bool), v49 = .bool x49_26 ∧ Aside0 (schismalaw04_ConvergentSimplest.j1 kq t185 t186 t187 t188 t189 t190 x49_26 a0_0 a0_1 a1_0 a1_1 = some r) ∧ Aside0 (kq ≤ kj2) ∧ Aside0 (wc.heap[gb179]? = some (.cells #[.string a0_0, .string a0_1] 24 (0, 0))) ∧ Aside0 (wc.heap[gb180]? = some (.cells #[.string a1_0, .string a1_1] 24 (0, 0))) ∧ Aside0 (Below w.heap.size w wc))
    case first =>
     have H := HC27.out
     clear HC27
     by_cases c33 : t187 = true
     ·subst c33
      have H1 : (if t186 > 200 then (schismalaw04_ConvergentSimplest.j1 kj2 t185 t186 true t188 t189 t190 true a0_0 a0_1 a1_0 a1_1) else (if t190 = true then (schismalaw04_ConvergentSimplest.j1 kj2 t185 t186 true t188 t189 t190 (decide (t189 > 200)) a0_0 a0_1 a1_0 a1_1) else (schismalaw04_ConvergentSimplest.j1 kj2 t185 t186 true t188 t189 t190 false a0_0 a0_1 a1_0 a1_1))) = some r := by rw [if_pos rfl] at H; exact H
      clear H
      have H := H1
      clear H1
      by_cases c34 : t186 > 200
      ·rw [if_pos c34] at H
       have c34b0 : decide (200 < t186) = true := decide_eq_true c34
       clear c34
       (first | rw [c34b0] | (simp only [i64_w, i32_w]; rw [c34b0]) | skip)
       have H' := Aside0.mk H
       clear H
       go_wp2
       go_meet
       case rel => exact ⟨_, (true), (by first | rfl | (simp; done) | (simp [*]; done)), H', ⟨by have := HJ2.out; first | omega | exact Nat.le_refl _⟩, ⟨bk_⟩, ⟨bk_⟩, ⟨bl_⟩⟩
      ·rw [if_neg c34] at H
       have c34b0 : decide (200 < t186) = false := decide_eq_false c34
       clear c34
       (first | rw [c34b0] | (simp only [i64_w, i32_w]; rw [c34b0]) | skip)
       by_cases c35 : t190 = true
       ·subst c35
        have H1 : (schismalaw04_ConvergentSimplest.j1 kj2 t185 t186 true t188 t189 true (decide (t189 > 200)) a0_0 a0_1 a1_0 a1_1) = some r := by rw [if_pos rfl] at H; exact H
        clear H
        have H := H1
        clear H1
        have H' := Aside0.mk H
        clear H
        go_wp2
        go_meet
        case rel => exact ⟨_, (decide (t189 > 200)), (by first | rfl | (simp; done) | (simp [*]; done)), H', ⟨by have := HJ2.out; first | omega | exact Nat.le_refl _⟩, ⟨bk_⟩, ⟨bk_⟩, ⟨bl_⟩⟩
       ·replace c35 := Bool.eq_false_iff.mpr c35
        subst c35
        have H1 : (schismalaw04_ConvergentSimplest.j1 kj2 t185 t186 true t188 t189 false false a0_0 a0_1 a1_0 a1_1) = some r := by rw [if_neg (show ¬ (false = true) by decide)] at H; exact H
        clear H
        have H := H1
        clear H1
        have H' := Aside0.mk H
        clear H
        go_wp2
        go_meet
        case rel => exact ⟨_, (false), (by first | rfl | (simp; done) | (simp [*]; done)), H', ⟨by have := HJ2.out; first | omega | exact Nat.le_refl _⟩, ⟨bk_⟩, ⟨bk_⟩, ⟨bl_⟩⟩
     ·replace c33 := Bool.eq_false_iff.mpr c33
      subst c33
      have H1 : (if t190 = true then (schismalaw04_ConvergentSimplest.j1 kj2 t185 t186 false t188 t189 t190 (decide (t189 > 200)) a0_0 a0_1 a1_0 a1_1) else (schismalaw04_ConvergentSimplest.j1 kj2 t185 t186 false t188 t189 t190 false a0_0 a0_1 a1_0 a1_1)) = some r := by rw [if_neg (show ¬ (false = true) by decide)] at H; exact H
      clear H
      have H := H1
      clear H1
      by_cases c36 : t190 = true
      ·subst c36
       have H1 : (schismalaw04_ConvergentSimplest.j1 kj2 t185 t186 false t188 t189 true (decide (t189 > 200)) a0_0 a0_1 a1_0 a1_1) = some r := by rw [if_pos rfl] at H; exact H
       clear H
       have H := H1
       clear H1
       have H' := Aside0.mk H
       clear H
       go_wp2
       go_meet
       case rel => exact ⟨_, (decide (t189 > 200)), (by first | rfl | (simp; done) | (simp [*]; done)), H', ⟨by have := HJ2.out; first | omega | exact Nat.le_refl _⟩, ⟨bk_⟩, ⟨bk_⟩, ⟨bl_⟩⟩
      ·replace c36 := Bool.eq_false_iff.mpr c36
       subst c36
       have H1 : (schismalaw04_ConvergentSimplest.j1 kj2 t185 t186 false t188 t189 false false a0_0 a0_1 a1_0 a1_1) = some r := by rw [if_neg (show ¬ (false = true) by decide)] at H; exact H
       clear H
       have H := H1
       clear H1
       have H' := Aside0.mk H
       clear H
       go_wp2
       go_meet
       case rel => exact ⟨_, (false), (by first | rfl | (simp; done) | (simp [*]; done)), H', ⟨by have := HJ2.out; first | omega | exact Nat.le_refl _⟩, ⟨bk_⟩, ⟨bk_⟩, ⟨bl_⟩⟩
    case rest =>
     clear HC27
     try clear c1
     try clear c2
     try clear p2
     try clear c3
     try clear c7
     try clear c9
     try clear c11
     try clear c12
     try clear c13
     try clear c15
     try clear c18
     try clear c22
     try clear c28
     try clear c33
     try clear c34
     try clear c34b0
     try clear c35
     try clear c36
     try clear hcz13_0
     try clear hcz13_1
     try clear hcz15_0
     try clear hcz15_1
     try clear hcz19_0
     try clear hcz19_1
     try clear hcz29_0
     try clear hcz29_1
     try clear hcz31_0
     try clear hcz31_1
     try clear hfz13_0
     try clear hfz13_1
     try clear hfz15_0
     try clear hfz15_1
     try clear hfz19_0
     try clear hfz19_1
     try clear hfz29_0
     try clear hfz29_1
     try clear hfz31_0
     try clear hfz31_1
     try clear p2
     obtain ⟨kq, x49_26, rfl, HA, HJ26, BK179, BK180, HB⟩ := hcut
     cases kq with
     | zero => exact absurd HA.out (by simp [schismalaw04_ConvergentSimplest.j1])
     | succ kj26 =>
      have H := HA.out
      clear HA
      simp only [schismalaw04_ConvergentSimplest.j1] at H
      by_cases c37 : x49_26 = true
      ·subst c37
       have H1 : (some true) = some r := by rw [if_pos rfl] at H; exact H
       clear H
       have H := H1
       clear H1
       obtain rfl := Option.some.inj H
       go_wp2
       go_ret
       exact ⟨er_, bl_⟩
      ·replace c37 := Bool.eq_false_iff.mpr c37
       subst c37
       have H1 : ((convergent_Simplest.f kj26 a0_0 a0_1 a1_0 a1_1).bind fun bt191 => (if t187 = true then (schismalaw04_ConvergentSimplest.j2 kj26 t185 t186 t188 t189 bt191.2.2 (!t190) bt191.1 bt191.2.1) else (schismalaw04_ConvergentSimplest.j2 kj26 t185 t186 t188 t189 bt191.2.2 true bt191.1 bt191.2.1))) = some r := by rw [if_neg (show ¬ (false = true) by decide)] at H; exact H
       clear H
       have H := H1
       clear H1
       replace H := Option.bind_eq_some_iff.mp H
       obtain ⟨⟨t191, t192, t193⟩, A380, H⟩ := H
       replace H : (if t187 = true then (schismalaw04_ConvergentSimplest.j2 kj26 t185 t186 t188 t189 t193 (!t190) t191 t192) else (schismalaw04_ConvergentSimplest.j2 kj26 t185 t186 t188 t189 t193 true t191 t192)) = some r := H
       have A38 := Aside0.mk A380
       clear A380
       have HC39 := Aside0.mk H
       clear H
       have hnb40 := NB179_180.out
       have hnc40 := NB180_179.out
       have hcz41_0 : wc.cell? ⟨gb179, 0, none⟩ = some (.string a0_0) := (blk_cell BK179.out 0).trans rfl
       have hcz41_1 : wc.cell? ⟨gb179, 1, none⟩ = some (.string a0_1) := (blk_cell BK179.out 1).trans rfl
       have hfz41_0 := blk_frozen BK179.out 0
       have hfz41_1 := blk_frozen BK179.out 1
       have hcz42_0 : wc.cell? ⟨gb180, 0, none⟩ = some (.string a1_0) := (blk_cell BK180.out 0).trans rfl
       have hcz42_1 : wc.cell? ⟨gb180, 1, none⟩ = some (.string a1_1) := (blk_cell BK180.out 1).trans rfl
       have hfz42_0 := blk_frozen BK180.out 0
       have hfz42_1 := blk_frozen BK180.out 1
       go_upto_region 8 with (first | ((with_reducible refine gate_callee (f := 38) rfl ?_); refine goesL_ (some 53) rfl rfl Tryz.func38 (by kernel_rfl) rfl #[.agg #[.string a0_0, .string a0_1], .agg #[.string a1_0, .string a1_1]] rfl mp_ ?_; (with_reducible refine (convergent_Simplest.calls kj26 a0_0 a0_1 a1_0 a1_1 t191 t192 t193 _ ?side1 A38.out).mono ?_); (case side1 => exact gw_ HG); rintro e w43 ⟨rfl, hb⟩; refine ⟨_, rfl, ?_⟩; replace BK179 := kb_ BK179 hb; replace BK180 := kb_ BK180 hb; replace HB := bs_ hb; (try clear hb); (try clear hb2); (try clear hk); (try clear hi)) | ((with_reducible refine gate_dst (N := 11) rfl ?_); refine box_event ?hg (N := 11) ?hd (cs := #[.string (⟨#[]⟩ : ByteArray), .string (⟨#[]⟩ : ByteArray)]) (t := 24) ?hr ?_; (case hd => rfl); (case hg => rfl); (case hr => first | (go_simp; done) | (go_simp; rfl)); intro gb194 hg w44 hbox hb; have BK194 := Aside0.mk (hbox); have GW194 := ge_ (w := w) hg; have GE194 := ge_ (w := w) hg; replace HB := bs_ hb; have NB179_194 := nl_ hg BK179; have NB194_179 := ng_ hg BK179; replace BK179 := kb_ BK179 hb; have NB180_194 := nl_ hg BK180; have NB194_180 := ng_ hg BK180; replace BK180 := kb_ BK180 hb; clear hb hbox hg; have hnb45 := NB194_179.out; have hnc45 := NB179_194.out; have hnb46 := NB194_180.out; have hnc46 := NB180_194.out; obtain ⟨hcz47_0, hcz47_1, hfz47_0, hfz47_1⟩ := c2_ BK194))
       (try simp only [Act.put, List.setIfInBounds_toArray, List.set_cons_zero, List.set_cons_succ])
       go_cut [56] (fun v56 wc => ∃ (kq : Nat) (x56_38 : Bool), v56 = .bool x56_38 ∧ Aside0 (schismalaw04_ConvergentSimplest.j2 kq t185 t186 t188 t189 t193 x56_38 t191 t192 = some r) ∧ Aside0 (kq ≤ kj26) ∧ Aside0 (wc.heap[gb179]? = some (.cells #[.string a0_0, .string a0_1] 24 (0, 0))) ∧ Aside0 (wc.heap[gb180]? = some (.cells #[.string a1_0, .string a1_1] 24 (0, 0))) ∧ Aside0 (wc.heap[gb194]? = some (.cells #[.string t191, .string t192] 24 (0, 0))) ∧ Aside0 (Below w.heap.size w wc))
       case first =>
        have H := HC39.out
        clear HC39
        by_cases c48 : t187 = true
        ·subst c48
         have H1 : (schismalaw04_ConvergentSimplest.j2 kj26 t185 t186 t188 t189 t193 (!t190) t191 t192) = some r := by rw [if_pos rfl] at H; exact H
         clear H
         have H := H1
         clear H1
         have H' := Aside0.mk H
         clear H
         go_wp2
         go_meet
         case rel => exact ⟨_, (!t190), (by first | rfl | (simp; done) | (simp [*]; done)), H', ⟨by have := HJ2.out; have := HJ26.out; first | omega | exact Nat.le_refl _⟩, ⟨by (with_reducible repeat (first | refine blk_drewN ?_ _ | refine blk_drew ?_ | refine blk_alloc ?_ _)); refine blk_far ?_ NB179_194.out _; (with_reducible repeat (first | refine blk_drewN ?_ _ | refine blk_drew ?_ | refine blk_alloc ?_ _)); refine blk_far ?_ NB179_194.out _; (with_reducible repeat (first | refine blk_drewN ?_ _ | refine blk_drew ?_ | refine blk_alloc ?_ _)); exact BK179.out⟩, ⟨by (with_reducible repeat (first | refine blk_drewN ?_ _ | refine blk_drew ?_ | refine blk_alloc ?_ _)); refine blk_far ?_ NB180_194.out _; (with_reducible repeat (first | refine blk_drewN ?_ _ | refine blk_drew ?_ | refine blk_alloc ?_ _)); refine blk_far ?_ NB180_194.out _; (with_reducible repeat (first | refine blk_drewN ?_ _ | refine blk_drew ?_ | refine blk_alloc ?_ _)); exact BK180.out⟩, ⟨by (with_reducible repeat (first | refine blk_drewN ?_ _ | refine blk_drew ?_ | refine blk_alloc ?_ _)); refine blk_put (cs := #[.string t191, .string (⟨#[]⟩ : ByteArray)]) ?_ 1 _ rfl; (with_reducible repeat (first | refine blk_drewN ?_ _ | refine blk_drew ?_ | refine blk_alloc ?_ _)); refine blk_put (cs := #[.string (⟨#[]⟩ : ByteArray), .string (⟨#[]⟩ : ByteArray)]) ?_ 0 _ rfl; (with_reducible repeat (first | refine blk_drewN ?_ _ | refine blk_drew ?_ | refine blk_alloc ?_ _)); exact BK194.out⟩, ⟨bl_⟩⟩
        ·replace c48 := Bool.eq_false_iff.mpr c48
         subst c48
         have H1 : (schismalaw04_ConvergentSimplest.j2 kj26 t185 t186 t188 t189 t193 true t191 t192) = some r := by rw [if_neg (show ¬ (false = true) by decide)] at H; exact H
         clear H
         have H := H1
         clear H1
         have H' := Aside0.mk H
         clear H
         go_wp2
         go_meet
         case rel => exact ⟨_, (true), (by first | rfl | (simp; done) | (simp [*]; done)), H', ⟨by have := HJ2.out; have := HJ26.out; first | omega | exact Nat.le_refl _⟩, ⟨by (with_reducible repeat (first | refine blk_drewN ?_ _ | refine blk_drew ?_ | refine blk_alloc ?_ _)); refine blk_far ?_ NB179_194.out _; (with_reducible repeat (first | refine blk_drewN ?_ _ | refine blk_drew ?_ | refine blk_alloc ?_ _)); refine blk_far ?_ NB179_194.out _; (with_reducible repeat (first | refine blk_drewN ?_ _ | refine blk_drew ?_ | refine blk_alloc ?_ _)); exact BK179.out⟩, ⟨by (with_reducible repeat (first | refine blk_drewN ?_ _ | refine blk_drew ?_ | refine blk_alloc ?_ _)); refine blk_far ?_ NB180_194.out _; (with_reducible repeat (first | refine blk_drewN ?_ _ | refine blk_drew ?_ | refine blk_alloc ?_ _)); refine blk_far ?_ NB180_194.out _; (with_reducible repeat (first | refine blk_drewN ?_ _ | refine blk_drew ?_ | refine blk_alloc ?_ _)); exact BK180.out⟩, ⟨by (with_reducible repeat (first | refine blk_drewN ?_ _ | refine blk_drew ?_ | refine blk_alloc ?_ _)); refine blk_put (cs := #[.string t191, .string (⟨#[]⟩ : ByteArray)]) ?_ 1 _ rfl; (with_reducible repeat (first | refine blk_drewN ?_ _ | refine blk_drew ?_ | refine blk_alloc ?_ _)); refine blk_put (cs := #[.string (⟨#[]⟩ : ByteArray), .string (⟨#[]⟩ : ByteArray)]) ?_ 0 _ rfl; (with_reducible repeat (first | refine blk_drewN ?_ _ | refine blk_drew ?_ | refine blk_alloc ?_ _)); exact BK194.out⟩, ⟨bl_⟩⟩
       case rest =>
        clear HC39
        try clear c1
        try clear c2
        try clear p2
        try clear c3
        try clear c4
        try clear c7
        try clear c9
        try clear c11
        try clear c12
        try clear c13
        try clear c15
        try clear c18
        try clear c22
        try clear c28
        try clear c33
        try clear c34
        try clear c34b0
        try clear c35
        try clear c36
        try clear c37
        try clear c38
        try clear c40
        try clear c45
        try clear c46
        try clear c48
        try clear hcz13_0
        try clear hcz13_1
        try clear hcz15_0
        try clear hcz15_1
        try clear hcz19_0
        try clear hcz19_1
        try clear hcz29_0
        try clear hcz29_1
        try clear hcz31_0
        try clear hcz31_1
        try clear hcz41_0
        try clear hcz41_1
        try clear hcz42_0
        try clear hcz42_1
        try clear hcz47_0
        try clear hcz47_1
        try clear hfz13_0
        try clear hfz13_1
        try clear hfz15_0
        try clear hfz15_1
        try clear hfz19_0
        try clear hfz19_1
        try clear hfz29_0
        try clear hfz29_1
        try clear hfz31_0
        try clear hfz31_1
        try clear hfz41_0
        try clear hfz41_1
        try clear hfz42_0
        try clear hfz42_1
        try clear hfz47_0
        try clear hfz47_1
        try clear p2
        obtain ⟨kq, x56_38, rfl, HA, HJ38, BK179, BK180, BK194, HB⟩ := hcut
        cases kq with
        | zero => exact absurd HA.out (by simp [schismalaw04_ConvergentSimplest.j2])
        | succ kj38 =>
         have H := HA.out
         clear HA
         simp only [schismalaw04_ConvergentSimplest.j2] at H
         by_cases c49 : x56_38 = true
         ·subst c49
          have H1 : ((schismalaw04_none.f t191 t192).bind fun t195 => (if t195 = true then (some (t193 == 2)) else (some false))) = some r := by rw [if_pos rfl] at H; exact H
          clear H
          have H := H1
          clear H1
          replace H := Option.bind_eq_some_iff.mp H
          obtain ⟨t195, A500, H⟩ := H
          replace H : (if t195 = true then (some (t193 == 2)) else (some false)) = some r := H
          have A50 := Aside0.mk A500
          clear A500
          by_cases c51 : t195 = true
          ·subst c51
           have H1 : (some (t193 == 2)) = some r := by rw [if_pos rfl] at H; exact H
           clear H
           have H := H1
           clear H1
           obtain rfl := Option.some.inj H
           have hnb52 := NB194_179.out
           have hnc52 := NB179_194.out
           have hnb53 := NB194_180.out
           have hnc53 := NB180_194.out
           have hcz54_0 : wc.cell? ⟨gb194, 0, none⟩ = some (.string t191) := (blk_cell BK194.out 0).trans rfl
           have hcz54_1 : wc.cell? ⟨gb194, 1, none⟩ = some (.string t192) := (blk_cell BK194.out 1).trans rfl
           have hfz54_0 := blk_frozen BK194.out 0
           have hfz54_1 := blk_frozen BK194.out 1
           go_wp2_with (first | ((with_reducible refine gate_callee (f := 16) rfl ?_); refine goesL_ (some 64) rfl rfl Tryz.func16 (by kernel_rfl) rfl #[.agg #[.string t191, .string t192]] rfl mp_ ?_; (with_reducible refine (schismalaw04_none.calls t191 t192 true _ A50.out).mono ?_); rintro e w55 ⟨rfl, hb⟩; refine ⟨_, rfl, ?_⟩; replace BK179 := kb_ BK179 hb; replace BK180 := kb_ BK180 hb; replace BK194 := kb_ BK194 hb; replace HB := bs_ hb; (try clear hb); (try clear hb2); (try clear hk); (try clear hi)))
           go_ret
           exact ⟨er_, bl_⟩
          ·replace c51 := Bool.eq_false_iff.mpr c51
           subst c51
           have H1 : (some false) = some r := by rw [if_neg (show ¬ (false = true) by decide)] at H; exact H
           clear H
           have H := H1
           clear H1
           obtain rfl := Option.some.inj H
           have hnb56 := NB194_179.out
           have hnc56 := NB179_194.out
           have hnb57 := NB194_180.out
           have hnc57 := NB180_194.out
           have hcz58_0 : wc.cell? ⟨gb194, 0, none⟩ = some (.string t191) := (blk_cell BK194.out 0).trans rfl
           have hcz58_1 : wc.cell? ⟨gb194, 1, none⟩ = some (.string t192) := (blk_cell BK194.out 1).trans rfl
           have hfz58_0 := blk_frozen BK194.out 0
           have hfz58_1 := blk_frozen BK194.out 1
           go_wp2_with (first | ((with_reducible refine gate_callee (f := 16) rfl ?_); refine goesL_ (some 64) rfl rfl Tryz.func16 (by kernel_rfl) rfl #[.agg #[.string t191, .string t192]] rfl mp_ ?_; (with_reducible refine (schismalaw04_none.calls t191 t192 false _ A50.out).mono ?_); rintro e w59 ⟨rfl, hb⟩; refine ⟨_, rfl, ?_⟩; replace BK179 := kb_ BK179 hb; replace BK180 := kb_ BK180 hb; replace BK194 := kb_ BK194 hb; replace HB := bs_ hb; (try clear hb); (try clear hb2); (try clear hk); (try clear hi)))
           go_ret
           exact ⟨er_, bl_⟩
         ·replace c49 := Bool.eq_false_iff.mpr c49
          subst c49
          have H1 : (if (wrap64 (t185 * t189)) > (wrap64 (t188 * t186)) then ((schismalaw04_none.f t191 t192).bind fun t196 => (if t196 = true then (some (t193 == 6)) else (some false))) else ((schismaref04_Simplest.f kj38 t185 t186 t188 t189).bind fun bt197 => (if (t191.toList == bt197.1.toList && (t192.toList == bt197.2.toList)) = true then (some (t193 == 0)) else (some false)))) = some r := by rw [if_neg (show ¬ (false = true) by decide)] at H; exact H
          clear H
          have H := H1
          clear H1
          by_cases c60 : (wrap64 (t185 * t189)) > (wrap64 (t188 * t186))
          ·rw [if_pos c60] at H
           have c60b0 : decide ((wrap64 (t188 * t186)) < (wrap64 (t185 * t189))) = true := decide_eq_true c60
           clear c60
           replace H := Option.bind_eq_some_iff.mp H
           obtain ⟨t196, A610, H⟩ := H
           replace H : (if t196 = true then (some (t193 == 6)) else (some false)) = some r := H
           have A61 := Aside0.mk A610
           clear A610
           by_cases c62 : t196 = true
           ·subst c62
            have H1 : (some (t193 == 6)) = some r := by rw [if_pos rfl] at H; exact H
            clear H
            have H := H1
            clear H1
            obtain rfl := Option.some.inj H
            have hnb63 := NB194_179.out
            have hnc63 := NB179_194.out
            have hnb64 := NB194_180.out
            have hnc64 := NB180_194.out
            have hcz65_0 : wc.cell? ⟨gb194, 0, none⟩ = some (.string t191) := (blk_cell BK194.out 0).trans rfl
            have hcz65_1 : wc.cell? ⟨gb194, 1, none⟩ = some (.string t192) := (blk_cell BK194.out 1).trans rfl
            have hfz65_0 := blk_frozen BK194.out 0
            have hfz65_1 := blk_frozen BK194.out 1
            go_wp2_with (first | ((with_reducible refine gate_callee (f := 16) rfl ?_); refine goesL_ (some 78) rfl rfl Tryz.func16 (by kernel_rfl) rfl #[.agg #[.string t191, .string t192]] rfl mp_ ?_; (with_reducible refine (schismalaw04_none.calls t191 t192 true _ A61.out).mono ?_); rintro e w66 ⟨rfl, hb⟩; refine ⟨_, rfl, ?_⟩; replace BK179 := kb_ BK179 hb; replace BK180 := kb_ BK180 hb; replace BK194 := kb_ BK194 hb; replace HB := bs_ hb; (try clear hb); (try clear hb2); (try clear hk); (try clear hi)))
            go_ret
            exact ⟨er_, bl_⟩
           ·replace c62 := Bool.eq_false_iff.mpr c62
            subst c62
            have H1 : (some false) = some r := by rw [if_neg (show ¬ (false = true) by decide)] at H; exact H
            clear H
            have H := H1
            clear H1
            obtain rfl := Option.some.inj H
            have hnb67 := NB194_179.out
            have hnc67 := NB179_194.out
            have hnb68 := NB194_180.out
            have hnc68 := NB180_194.out
            have hcz69_0 : wc.cell? ⟨gb194, 0, none⟩ = some (.string t191) := (blk_cell BK194.out 0).trans rfl
            have hcz69_1 : wc.cell? ⟨gb194, 1, none⟩ = some (.string t192) := (blk_cell BK194.out 1).trans rfl
            have hfz69_0 := blk_frozen BK194.out 0
            have hfz69_1 := blk_frozen BK194.out 1
            go_wp2_with (first | ((with_reducible refine gate_callee (f := 16) rfl ?_); refine goesL_ (some 78) rfl rfl Tryz.func16 (by kernel_rfl) rfl #[.agg #[.string t191, .string t192]] rfl mp_ ?_; (with_reducible refine (schismalaw04_none.calls t191 t192 false _ A61.out).mono ?_); rintro e w70 ⟨rfl, hb⟩; refine ⟨_, rfl, ?_⟩; replace BK179 := kb_ BK179 hb; replace BK180 := kb_ BK180 hb; replace BK194 := kb_ BK194 hb; replace HB := bs_ hb; (try clear hb); (try clear hb2); (try clear hk); (try clear hi)))
            go_ret
            exact ⟨er_, bl_⟩
          ·rw [if_neg c60] at H
           have c60b0 : decide ((wrap64 (t188 * t186)) < (wrap64 (t185 * t189))) = false := decide_eq_false c60
           clear c60
           replace H := Option.bind_eq_some_iff.mp H
           obtain ⟨⟨t197, t198⟩, A710, H⟩ := H
           replace H : (if (t191.toList == t197.toList && (t192.toList == t198.toList)) = true then (some (t193 == 0)) else (some false)) = some r := H
           have A71 := Aside0.mk A710
           clear A710
           by_cases c72 : (t191.toList == t197.toList && (t192.toList == t198.toList)) = true
           ·rw [if_pos c72] at H
            have c72b0 : (t191.toList == t197.toList && (t192.toList == t198.toList)) = true := c72
            (try (have c72b1 : decide (t191.toList = t197.toList && (t192.toList == t198.toList)) = true := by simpa using c72))
            (try (have c72b2 : (t191.toList == t197.toList && (t192.toList == t198.toList)) = true := by simpa using c72))
            clear c72
            obtain rfl := Option.some.inj H
            try go_wp2
            have n0_ := Aside0.mk (blk_drew BK179.out)
            have n1_ := Aside0.mk (blk_drew BK180.out)
            have n2_ := Aside0.mk (blk_drew BK194.out)
            have n3_ := Aside0.mk (below_drew1 HB.out)
            clear BK179
            clear BK180
            clear BK194
            clear HB
            have BK179 := n0_
            have BK180 := n1_
            have BK194 := n2_
            have HB := n3_
            clear n0_ n1_ n2_ n3_
            refine start_ (n := 12) (S := fun w' => w'.cell? ⟨gb194, 0, none⟩ = some (.string t191) ∧ w'.cell? ⟨gb194, 1, none⟩ = some (.string t192)) (ds := []) #[false, false, false, false, false, false, false, false, false, false, false, false] (by kernel_rfl) rfl rfl ⟨(blk_cell BK194.out 0).trans rfl, (blk_cell BK194.out 1).trans rfl⟩ (fun hHeld => ?_); refine with_tabW schismalaw04_ConvergentSimplest.tab12 schismalaw04_ConvergentSimplest.bits12 (fun HT_ HW_ => ?_)
            generalize wc.drew = w73 at BK179 BK180 BK194 HB hHeld ⊢
            refine pure_ (i := 1) (N := some 84) (v := ?_) (a' := ?_) #[false, true, false, false, false, false, false, false, false, false, false, false] rfl rfl (any_of HT_.out (by kernel_rfl)) (fun _ _ _ h => h) (Or.inl ⟨by rfl, ?_⟩) ?_ ?_
            rotate_left
            ·intro w'
             go_simp
             with_reducible rfl
            rotate_left
            ·simp only [Act.put, List.setIfInBounds_toArray, List.set_cons_zero, List.set_cons_succ, i64_w, i32_w]
             rfl
            refine pure_ (i := 2) (N := some 85) (v := ?_) (a' := ?_) #[false, true, true, false, false, false, false, false, false, false, false, false] rfl rfl (any_of HT_.out (by kernel_rfl)) (fun _ _ _ h => h) (Or.inl ⟨by rfl, ?_⟩) ?_ ?_
            rotate_left
            ·intro w'
             go_simp
             with_reducible rfl
            rotate_left
            ·simp only [Act.put, List.setIfInBounds_toArray, List.set_cons_zero, List.set_cons_succ, i64_w, i32_w]
             rfl
            refine pure_ (i := 3) (N := some 86) (v := ?_) (a' := ?_) #[false, true, true, true, false, false, false, false, false, false, false, false] rfl rfl (any_of HT_.out (by kernel_rfl)) (fun _ _ _ h => h) (Or.inl ⟨by rfl, ?_⟩) ?_ ?_
            rotate_left
            ·intro w'
             go_simp
             with_reducible rfl
            rotate_left
            ·simp only [Act.put, List.setIfInBounds_toArray, List.set_cons_zero, List.set_cons_succ, i64_w, i32_w]
             rfl
            refine pure_ (i := 4) (N := some 87) (v := ?_) (a' := ?_) #[false, true, true, true, true, false, false, false, false, false, false, false] rfl rfl (any_of HT_.out (by kernel_rfl)) (fun _ _ _ h => h) (Or.inl ⟨by rfl, ?_⟩) ?_ ?_
            rotate_left
            ·intro w'
             go_simp
             with_reducible rfl
            rotate_left
            ·simp only [Act.put, List.setIfInBounds_toArray, List.set_cons_zero, List.set_cons_succ, i64_w, i32_w]
             rfl
            refine take_ (i := 0) (N := some 83) (v := ?_) (a' := ?_) #[true, true, true, true, true, false, false, false, false, false, false, false] rfl rfl (take_ofW HT_.out HW_.out (by kernel_rfl)) (fun _ _ _ h => h) (Or.inl ⟨by rfl, ?_⟩) hHeld ?_ ?_
            rotate_left
            ·rintro w' ⟨s0, s1⟩
             go_simp
             with_reducible rfl
            rotate_left
            ·simp only [Act.put, List.setIfInBounds_toArray, List.set_cons_zero, List.set_cons_succ, i64_w, i32_w]
             rfl
            refine one_ (i := 5) (N := some 88) #[true, true, true, true, true, true, false, false, false, false, false, false] rfl rfl (one_of HT_.out (by kernel_rfl)) (by decide) (fun K hK => ?_)
            refine goes_ Tryz.func39 (by kernel_rfl) rfl #[.int .i64 t185, .int .i64 t186, .int .i64 t188, .int .i64 t189] (by rfl) rfl rfl mp_ ?_
            with_reducible refine (schismaref04_Simplest.calls kj38 t185 t186 t188 t189 t197 t198 _ A71.out).mono ?_
            rintro e w74 ⟨rfl, hb⟩
            refine ⟨_, rfl, ?_⟩
            have n0_ := kb_ BK179 hb
            have n1_ := kb_ BK180 hb
            have n2_ := kb_ BK194 hb
            have n3_ := bs_ hb
            clear BK179
            clear BK180
            clear BK194
            clear HB
            have BK179 := n0_
            have BK180 := n1_
            have BK194 := n2_
            have HB := n3_
            clear n0_ n1_ n2_ n3_
            (try clear hb); (try clear hb2); (try clear hk); (try clear hi)
            refine hK.out _ _ ⟨(blk_cell BK194.out 0).trans rfl, (blk_cell BK194.out 1).trans rfl⟩ (fun hHeld => ?_)
            clear hK K
            refine norm_ (a' := ?_) ?_ ?_
            rotate_left
            ·show Act.put _ (some 88) _ = _
             simp only [Act.put, List.setIfInBounds_toArray, List.set_cons_zero, List.set_cons_succ, i64_w, i32_w]
             rfl
            refine pure_ (i := 6) (N := some 89) (v := ?_) (a' := ?_) #[true, true, true, true, true, true, true, false, false, false, false, false] rfl rfl (any_of HT_.out (by kernel_rfl)) (fun _ _ _ h => h) (Or.inl ⟨by rfl, ?_⟩) ?_ ?_
            rotate_left
            ·intro w'
             go_simp
             with_reducible rfl
            rotate_left
            ·simp only [Act.put, List.setIfInBounds_toArray, List.set_cons_zero, List.set_cons_succ, i64_w, i32_w]
             rfl
            refine pure_ (i := 7) (N := some 90) (v := ?_) (a' := ?_) #[true, true, true, true, true, true, true, true, false, false, false, false] rfl rfl (any_of HT_.out (by kernel_rfl)) (fun _ _ _ h => h) (Or.inl ⟨by rfl, ?_⟩) ?_ ?_
            rotate_left
            ·intro w'
             go_simp
             with_reducible rfl
            rotate_left
            ·simp only [Act.put, List.setIfInBounds_toArray, List.set_cons_zero, List.set_cons_succ, i64_w, i32_w]
             rfl
            refine pure_ (i := 8) (N := some 91) (v := ?_) (a' := ?_) #[true, true, true, true, true, true, true, true, true, false, false, false] rfl rfl (any_of HT_.out (by kernel_rfl)) (fun _ _ _ h => h) (Or.inl ⟨by rfl, ?_⟩) ?_ ?_
            rotate_left
            ·intro w'
             go_simp
             with_reducible rfl
            rotate_left
            ·simp only [Act.put, List.setIfInBounds_toArray, List.set_cons_zero, List.set_cons_succ, i64_w, i32_w]
             rfl
            refine pure_ (i := 9) (N := some 92) (v := ?_) (a' := ?_) #[true, true, true, true, true, true, true, true, true, true, false, false] rfl rfl (any_of HT_.out (by kernel_rfl)) (fun _ _ _ h => h) (Or.inl ⟨by rfl, ?_⟩) ?_ ?_
            rotate_left
            ·intro w'
             go_simp
             with_reducible rfl
            rotate_left
            ·simp only [Act.put, List.setIfInBounds_toArray, List.set_cons_zero, List.set_cons_succ, i64_w, i32_w]
             rfl
            refine pure_ (i := 10) (N := some 93) (v := ?_) (a' := ?_) #[true, true, true, true, true, true, true, true, true, true, true, false] rfl rfl (any_of HT_.out (by kernel_rfl)) (fun _ _ _ h => h) (Or.inl ⟨by rfl, ?_⟩) ?_ ?_
            rotate_left
            ·intro w'
             go_simp
             with_reducible rfl
            rotate_left
            ·simp only [Act.put, List.setIfInBounds_toArray, List.set_cons_zero, List.set_cons_succ, i64_w, i32_w]
             rfl
            refine pure_ (i := 11) (N := some 4) (v := ?_) (a' := ?_) #[true, true, true, true, true, true, true, true, true, true, true, true] rfl rfl (any_of HT_.out (by kernel_rfl)) (fun _ _ _ h => h) (Or.inl ⟨by rfl, ?_⟩) ?_ ?_
            rotate_left
            ·intro w'
             go_simp
             with_reducible rfl
            rotate_left
            ·simp only [Act.put, List.setIfInBounds_toArray, List.set_cons_zero, List.set_cons_succ, i64_w, i32_w]
             rfl
            refine done_ (done_of HT_.out (by kernel_rfl)) ?_
            try go_wp2
            go_ret
            exact ⟨er_, bl_⟩
           ·rw [if_neg c72] at H
            have c72b0 : (t191.toList == t197.toList && (t192.toList == t198.toList)) = false := by simpa using c72
            (try (have c72b1 : decide (t191.toList = t197.toList && (t192.toList == t198.toList)) = false := by simpa using c72))
            (try (have c72b2 : (t191.toList == t197.toList && (t192.toList == t198.toList)) = false := by simpa using c72))
            (try (have c72b3 : ¬ (t191.toList = t197.toList && (t192.toList == t198.toList)) := by simpa using c72))
            clear c72
            obtain rfl := Option.some.inj H
            try go_wp2
            have n0_ := Aside0.mk (blk_drew BK179.out)
            have n1_ := Aside0.mk (blk_drew BK180.out)
            have n2_ := Aside0.mk (blk_drew BK194.out)
            have n3_ := Aside0.mk (below_drew1 HB.out)
            clear BK179
            clear BK180
            clear BK194
            clear HB
            have BK179 := n0_
            have BK180 := n1_
            have BK194 := n2_
            have HB := n3_
            clear n0_ n1_ n2_ n3_
            refine start_ (n := 12) (S := fun w' => w'.cell? ⟨gb194, 0, none⟩ = some (.string t191) ∧ w'.cell? ⟨gb194, 1, none⟩ = some (.string t192)) (ds := []) #[false, false, false, false, false, false, false, false, false, false, false, false] (by kernel_rfl) rfl rfl ⟨(blk_cell BK194.out 0).trans rfl, (blk_cell BK194.out 1).trans rfl⟩ (fun hHeld => ?_); refine with_tabW schismalaw04_ConvergentSimplest.tab12 schismalaw04_ConvergentSimplest.bits12 (fun HT_ HW_ => ?_)
            generalize wc.drew = w75 at BK179 BK180 BK194 HB hHeld ⊢
            refine pure_ (i := 1) (N := some 84) (v := ?_) (a' := ?_) #[false, true, false, false, false, false, false, false, false, false, false, false] rfl rfl (any_of HT_.out (by kernel_rfl)) (fun _ _ _ h => h) (Or.inl ⟨by rfl, ?_⟩) ?_ ?_
            rotate_left
            ·intro w'
             go_simp
             with_reducible rfl
            rotate_left
            ·simp only [Act.put, List.setIfInBounds_toArray, List.set_cons_zero, List.set_cons_succ, i64_w, i32_w]
             rfl
            refine pure_ (i := 2) (N := some 85) (v := ?_) (a' := ?_) #[false, true, true, false, false, false, false, false, false, false, false, false] rfl rfl (any_of HT_.out (by kernel_rfl)) (fun _ _ _ h => h) (Or.inl ⟨by rfl, ?_⟩) ?_ ?_
            rotate_left
            ·intro w'
             go_simp
             with_reducible rfl
            rotate_left
            ·simp only [Act.put, List.setIfInBounds_toArray, List.set_cons_zero, List.set_cons_succ, i64_w, i32_w]
             rfl
            refine pure_ (i := 3) (N := some 86) (v := ?_) (a' := ?_) #[false, true, true, true, false, false, false, false, false, false, false, false] rfl rfl (any_of HT_.out (by kernel_rfl)) (fun _ _ _ h => h) (Or.inl ⟨by rfl, ?_⟩) ?_ ?_
            rotate_left
            ·intro w'
             go_simp
             with_reducible rfl
            rotate_left
            ·simp only [Act.put, List.setIfInBounds_toArray, List.set_cons_zero, List.set_cons_succ, i64_w, i32_w]
             rfl
            refine pure_ (i := 4) (N := some 87) (v := ?_) (a' := ?_) #[false, true, true, true, true, false, false, false, false, false, false, false] rfl rfl (any_of HT_.out (by kernel_rfl)) (fun _ _ _ h => h) (Or.inl ⟨by rfl, ?_⟩) ?_ ?_
            rotate_left
            ·intro w'
             go_simp
             with_reducible rfl
            rotate_left
            ·simp only [Act.put, List.setIfInBounds_toArray, List.set_cons_zero, List.set_cons_succ, i64_w, i32_w]
             rfl
            refine take_ (i := 0) (N := some 83) (v := ?_) (a' := ?_) #[true, true, true, true, true, false, false, false, false, false, false, false] rfl rfl (take_ofW HT_.out HW_.out (by kernel_rfl)) (fun _ _ _ h => h) (Or.inl ⟨by rfl, ?_⟩) hHeld ?_ ?_
            rotate_left
            ·rintro w' ⟨s0, s1⟩
             go_simp
             with_reducible rfl
            rotate_left
            ·simp only [Act.put, List.setIfInBounds_toArray, List.set_cons_zero, List.set_cons_succ, i64_w, i32_w]
             rfl
            refine one_ (i := 5) (N := some 88) #[true, true, true, true, true, true, false, false, false, false, false, false] rfl rfl (one_of HT_.out (by kernel_rfl)) (by decide) (fun K hK => ?_)
            refine goes_ Tryz.func39 (by kernel_rfl) rfl #[.int .i64 t185, .int .i64 t186, .int .i64 t188, .int .i64 t189] (by rfl) rfl rfl mp_ ?_
            with_reducible refine (schismaref04_Simplest.calls kj38 t185 t186 t188 t189 t197 t198 _ A71.out).mono ?_
            rintro e w76 ⟨rfl, hb⟩
            refine ⟨_, rfl, ?_⟩
            have n0_ := kb_ BK179 hb
            have n1_ := kb_ BK180 hb
            have n2_ := kb_ BK194 hb
            have n3_ := bs_ hb
            clear BK179
            clear BK180
            clear BK194
            clear HB
            have BK179 := n0_
            have BK180 := n1_
            have BK194 := n2_
            have HB := n3_
            clear n0_ n1_ n2_ n3_
            (try clear hb); (try clear hb2); (try clear hk); (try clear hi)
            refine hK.out _ _ ⟨(blk_cell BK194.out 0).trans rfl, (blk_cell BK194.out 1).trans rfl⟩ (fun hHeld => ?_)
            clear hK K
            refine norm_ (a' := ?_) ?_ ?_
            rotate_left
            ·show Act.put _ (some 88) _ = _
             simp only [Act.put, List.setIfInBounds_toArray, List.set_cons_zero, List.set_cons_succ, i64_w, i32_w]
             rfl
            refine pure_ (i := 6) (N := some 89) (v := ?_) (a' := ?_) #[true, true, true, true, true, true, true, false, false, false, false, false] rfl rfl (any_of HT_.out (by kernel_rfl)) (fun _ _ _ h => h) (Or.inl ⟨by rfl, ?_⟩) ?_ ?_
            rotate_left
            ·intro w'
             go_simp
             with_reducible rfl
            rotate_left
            ·simp only [Act.put, List.setIfInBounds_toArray, List.set_cons_zero, List.set_cons_succ, i64_w, i32_w]
             rfl
            refine pure_ (i := 7) (N := some 90) (v := ?_) (a' := ?_) #[true, true, true, true, true, true, true, true, false, false, false, false] rfl rfl (any_of HT_.out (by kernel_rfl)) (fun _ _ _ h => h) (Or.inl ⟨by rfl, ?_⟩) ?_ ?_
            rotate_left
            ·intro w'
             go_simp
             with_reducible rfl
            rotate_left
            ·simp only [Act.put, List.setIfInBounds_toArray, List.set_cons_zero, List.set_cons_succ, i64_w, i32_w]
             rfl
            refine pure_ (i := 8) (N := some 91) (v := undef) (a' := ?_) #[true, true, true, true, true, true, true, true, true, false, false, false] rfl rfl (any_of HT_.out (by kernel_rfl)) (fun _ _ _ h => h) (Or.inr ⟨by rfl, rfl⟩) ?_ ?_
            rotate_left
            ·simp only [Act.put, List.setIfInBounds_toArray, List.set_cons_zero, List.set_cons_succ, i64_w, i32_w]
             rfl
            refine pure_ (i := 9) (N := some 92) (v := undef) (a' := ?_) #[true, true, true, true, true, true, true, true, true, true, false, false] rfl rfl (any_of HT_.out (by kernel_rfl)) (fun _ _ _ h => h) (Or.inr ⟨by rfl, rfl⟩) ?_ ?_
            rotate_left
            ·simp only [Act.put, List.setIfInBounds_toArray, List.set_cons_zero, List.set_cons_succ, i64_w, i32_w]
             rfl
            refine pure_ (i := 10) (N := some 93) (v := ?_) (a' := ?_) #[true, true, true, true, true, true, true, true, true, true, true, false] rfl rfl (any_of HT_.out (by kernel_rfl)) (fun _ _ _ h => h) (Or.inl ⟨by rfl, ?_⟩) ?_ ?_
            rotate_left
            ·intro w'
             go_simp
             with_reducible rfl
            rotate_left
            ·simp only [Act.put, List.setIfInBounds_toArray, List.set_cons_zero, List.set_cons_succ, i64_w, i32_w]
             rfl
            refine pure_ (i := 11) (N := some 4) (v := ?_) (a' := ?_) #[true, true, true, true, true, true, true, true, true, true, true, true] rfl rfl (any_of HT_.out (by kernel_rfl)) (fun _ _ _ h => h) (Or.inl ⟨by rfl, ?_⟩) ?_ ?_
            rotate_left
            ·intro w'
             go_simp
             with_reducible rfl
            rotate_left
            ·simp only [Act.put, List.setIfInBounds_toArray, List.set_cons_zero, List.set_cons_succ, i64_w, i32_w]
             rfl
            refine done_ (done_of HT_.out (by kernel_rfl)) ?_
            try go_wp2
            go_ret
            exact ⟨er_, bl_⟩
end Go.Proofs.YtidajgkepdkcbaaGreatDoor.PL
end
section
namespace Go.Proofs.YtidajgkepdkcbaaGreatDoor
open Go.RowKit Go.Lib Go.Proofs.YtidajgkepdkcbaaGreatDoorW.PrintWords Go.Proofs.YtidajgkepdkcbaaGreatDoorW.PrintLast Go.Proofs.YtidajgkepdkcbaaGreatDoorW.PrintMore PF PL
theorem sp_mul {a q : Int} (ha : a.natAbs < 10000000) (h0 : 0 ≤ q) (hq : q ≤ 1000) : (a * q).natAbs ≤ 10000000 * 1000 := by
 rw [Int.natAbs_mul]; exact Nat.mul_le_mul (by omega) (by omega)
theorem sp_open {a b x y q : Int} (hb : 0 < b) (hy : 0 < y) (ha9 : a.natAbs < 10000000) (hx9 : x.natAbs < 10000000) (h0 : 1 ≤ q) (hq : q ≤ 1000) (k : Nat) :
  schismaref04_Simplest.l0 (k + 1) a b x y q = if cl (a * q) b > x * q / y then schismaref04_Simplest.l0 k a b x y (q + 1) else if cl (a * q) b ≤ 0 then schismaref04_Simplest.j1 k q (cl (a * q) b) (x * q / y) (decide (x * q / y ≥ 0)) else schismaref04_Simplest.j1 k q (cl (a * q) b) (x * q / y) false := by
 have m1 := sp_mul (q := q) ha9 (by omega) hq
 have m2 := sp_mul (q := q) hx9 (by omega) hq
 have d1 : (-(a * q) / b).natAbs ≤ (-(a * q)).natAbs := Int.natAbs_ediv_le_natAbs ..
 rw [schismaref04_Simplest.l0, w64 (x := a * q) (by omega) (by omega), w64 (x := -(a * q)) (by omega) (by omega), w64 (x := x * q) (by omega) (by omega), RFloor (by omega) hb]
 simp only [Option.bind_some]
 rw [RFloor (n := x * q) (by omega) hy]
 simp only [Option.bind_some]
 rw [w64 (x := -(-(a * q) / b)) (by omega) (by omega), w64 (x := q + 1) (by omega) (by omega)]
 rfl
theorem sp_loop {a b x y Q : Int} (hb : 0 < b) (hy : 0 < y) (ha9 : a.natAbs < 10000000) (hx9 : x.natAbs < 10000000) (hQ : Q ≤ 1000) (hmin : ∀ q, 1 ≤ q → cl (a * q) b ≤ x * q / y → Q ≤ q) {r : ByteArray × ByteArray} (hfin : Ev (fun k => schismaref04_Simplest.l0 k a b x y Q) r) :
  ∀ (m : Nat) (q : Int), Q = q + m → 1 ≤ q → Ev (fun k => schismaref04_Simplest.l0 k a b x y q) r
 | 0, q, h, _ => by
  have : q = Q := by omega
  rw [this]; exact hfin
 | m + 1, q, h, h1 => by
  have ih := sp_loop hb hy ha9 hx9 hQ hmin hfin m (q + 1) (by omega) (by omega)
  refine Ev.step (fun k => ?_) ih
  rw [sp_open hb hy ha9 hx9 h1 (by omega), if_pos]
  apply Int.not_le.1
  intro hh
  have := hmin q h1 hh
  omega
theorem RSimplest_pos {a b x y P Q : Int} (hb : 0 < b) (hy : 0 < y) (ha9 : a.natAbs < 10000000) (hx9 : x.natAbs < 10000000) (hP9 : P < 10000000000) (hQ : Q ≤ 1000) (h : Simp a b x y P Q) (hP : 0 < P) : Ev (fun k => schismaref04_Simplest.f k a b x y) (fr P Q) := by
 obtain ⟨h1, h2, h3⟩ := h.first hb hy
 unfold schismaref04_Simplest.f
 refine sp_loop hb hy ha9 hx9 hQ h3 ?_ (Q - 1).toNat 1 (by have := h.q1; omega) (Int.le_refl _)
 refine Ev.step (fun k => by rw [sp_open hb hy ha9 hx9 h.q1 hQ, h1, if_neg (by omega), if_neg (by omega)]) ?_
 refine Ev.step (fun k => by rw [schismaref04_Simplest.j1, if_neg (by simp), if_neg (by omega)]) ?_
 exact Ev.bind (RMake (by omega) (by have := h.q1; omega) (by omega)) (ev_const fun _ => rfl)
theorem RSimplest_neg {a b x y P Q : Int} (hb : 0 < b) (hy : 0 < y) (ha9 : a.natAbs < 10000000) (hx9 : x.natAbs < 10000000) (hP9 : P < 10000000000) (hQ : Q ≤ 1000) (h : Simp (-x) y (-a) b P Q) (hP : 0 < P) : Ev (fun k => schismaref04_Simplest.f k a b x y) (fr (-P) Q) := by
 obtain ⟨h1, h2, h3⟩ := h.first hy hb
 have e1 : ∀ q, cl (-x * q) y = -(x * q / y) := fun q => by unfold cl; rw [Int.neg_mul, Int.neg_neg]
 have e2 : ∀ q, cl (a * q) b = -(-a * q / b) := fun q => by unfold cl; rw [Int.neg_mul]
 rw [e1] at h1
 unfold schismaref04_Simplest.f
 refine sp_loop hb hy ha9 hx9 hQ (fun q hq hle => h3 q hq (by rw [e1]; rw [e2] at hle; omega)) ?_ (Q - 1).toNat 1 (by have := h.q1; omega) (Int.le_refl _)
 have hl : x * Q / y = -P := by omega
 have hc : cl (a * Q) b ≤ -P := by rw [e2]; omega
 refine Ev.step (fun k => by rw [sp_open hb hy ha9 hx9 h.q1 hQ, hl, if_neg (by omega), if_pos (by omega), decide_eq_false (by omega)]) ?_
 refine Ev.step (fun k => by rw [schismaref04_Simplest.j1, if_neg (by simp), if_pos (by omega)]) ?_
 exact Ev.bind (RMake (by omega) (by have := h.q1; omega) (by omega)) (ev_const fun _ => rfl)
theorem RSimplest_zero {a b x y : Int} (hb : 0 < b) (hy : 0 < y) (ha9 : a.natAbs < 10000000) (hx9 : x.natAbs < 10000000) (ha : a ≤ 0) (hx : 0 ≤ x) : Ev (fun k => schismaref04_Simplest.f k a b x y) (T 0, T 1) := by
 have h1 : 0 ≤ x * 1 / y := Int.ediv_nonneg (by omega) (by omega)
 have h2 : cl (a * 1) b ≤ 0 := by
  have : 0 ≤ -(a * 1) / b := Int.ediv_nonneg (by omega) (by omega)
  unfold cl; omega
 unfold schismaref04_Simplest.f
 refine Ev.step (fun k => by rw [sp_open hb hy ha9 hx9 (Int.le_refl _) (by omega), if_neg (by omega), if_pos h2, decide_eq_true h1]) ?_
 refine Ev.step (fun k => by rw [schismaref04_Simplest.j1, if_pos rfl]) ?_
 have e : fr 0 1 = (T 0, T 1) := fr_good (by simp)
 exact Ev.bind (RMake (by omega) (by omega) (by omega)) (ev_const fun _ => by rw [e])
theorem fr_neg {P Q : Int} : fr (-P) Q = (T (-(P / (Int.gcd P Q : Int))), T (Q / (Int.gcd P Q : Int))) := by
 unfold fr
 rw [Int.neg_gcd, Int.neg_ediv_of_dvd (Int.gcd_dvd_left ..)]
theorem CSimplest_T {a b x y : Int} (h1 : Fr a b) (h2 : Fr x y) (ha : -1000000 < a ∧ a < 10000000) (hx : -1000000 < x ∧ x < 10000000) (hb : b ≤ 200) (hy : y ≤ 200) (hle : a * y ≤ x * b) :
  ∃ r, Ev (fun k => convergent_Simplest.f k (T a) (T b) (T x) (T y)) (r.1, r.2, 0) ∧ Ev (fun k => schismaref04_Simplest.f k a b x y) r := by
 have b0 := h1.1
 have y0 := h2.1
 have sa : S17 a := by unfold S17; omega
 have sb : S17 b := by unfold S17; omega
 have sx : S17 x := by unfold S17; omega
 have sy : S17 y := by unfold S17; omega
 have m1 : a.natAbs * y.natAbs ≤ 10000000 * 200 := Nat.mul_le_mul (by omega) (by omega)
 have m2 : x.natAbs * b.natAbs ≤ 10000000 * 200 := Nat.mul_le_mul (by omega) (by omega)
 have m3 : b.natAbs * y.natAbs ≤ 200 * 200 := Nat.mul_le_mul (by omega) (by omega)
 have hcmp : ¬ cmp (a * y) (x * b) > 0 := by unfold cmp; split; omega; rw [if_neg (by omega)]; omega
 have top : ∀ {r : ByteArray × ByteArray × Int}, Ev (fun k => (fraction_Sign.f (T a) (T b)).bind fun t566 => (if t566 ≤ 0 then ((fraction_Sign.f (T x) (T y)).bind fun t567 => (convergent_Simplest.j1 k (decide (t567 ≥ 0)) (T a) (T b) (T x) (T y))) else (convergent_Simplest.j1 k false (T a) (T b) (T x) (T y)))) r →
   Ev (fun k => convergent_Simplest.f k (T a) (T b) (T x) (T y)) r := fun {r} hr => by
  unfold convergent_Simplest.f
  refine Ev.bind (Wrong_no sa sb h1) (Ev.congr (fun k => if_neg (by simp)) (Ev.bind (Wrong_no sx sy h2) ?_))
  refine Ev.step (fun k => by rw [convergent_Simplest.j0, if_neg (by simp)]) ?_
  refine Ev.bind (FCompare_T ⟨sa, sb, sx, sy, b0, y0, by omega, by omega, by omega⟩) (Ev.congr (fun k => if_neg hcmp) ?_)
  exact hr
 have sgn : ∀ (i d : Int), fraction_Sign.f (T i) (T d) = some (sg i) := fun i d => by unfold fraction_Sign.f; rw [whole_Sign_T]; rfl
 by_cases ha0 : a ≤ 0
 ·have sga : sg a ≤ 0 := by unfold sg; split; omega; rw [if_pos (by omega)]; omega
  by_cases hx0 : 0 ≤ x
  ·have sgx : sg x ≥ 0 := by unfold sg; split; omega; rw [if_neg (by omega)]; omega
   refine ⟨(T 0, T 1), top ?_, RSimplest_zero b0 y0 (by omega) (by omega) ha0 hx0⟩
   refine Ev.bind (ev_const fun _ => sgn a b) (Ev.congr (fun k => if_pos sga) (Ev.bind (ev_const fun _ => sgn x y) ?_))
   rw [decide_eq_true sgx]
   refine Ev.step (fun k => by rw [convergent_Simplest.j1, if_pos rfl]) ?_
   rw [lit0, lit1]
   have e : fr 0 1 = (T 0, T 1) := fr_good (by simp)
   exact Ev.bind (Over_T (by unfold S17; omega) (by unfold S17; omega) (by omega)) (ev_const fun _ => by rw [e])
  ·have sgx : ¬ sg x ≥ 0 := by unfold sg; rw [if_neg (by omega), if_pos (by omega)]; omega
   have hna : a < 0 := by
    apply Int.not_le.1; intro h
    have e : a = 0 := by omega
    rw [e, Int.zero_mul] at hle
    have := Int.mul_pos (a := -x) (b := b) (by omega) b0
    rw [Int.neg_mul] at this
    omega
   have e1 : -x * b ≤ -a * y := by rw [Int.neg_mul, Int.neg_mul]; omega
   obtain ⟨P, Q, hs, hP, hev⟩ := simplest_T (ln := -x) (ld := y) (hn := -a) (hd := b) (by omega) y0 b0 e1 (by rw [Int.neg_gcd]; exact h2.2) (by rw [Int.neg_gcd]; exact h1.2) (by omega) (by omega) (by omega) (by omega)
   have hm := hs.min (-x) y (by omega) (by omega) e1
   have hq1 := hs.q1
   refine ⟨fr (-P) Q, top ?_, RSimplest_neg b0 y0 (by omega) (by omega) (by omega) (by omega) hs hP⟩
   refine Ev.bind (ev_const fun _ => sgn a b) (Ev.congr (fun k => if_pos sga) (Ev.bind (ev_const fun _ => sgn x y) ?_))
   rw [decide_eq_false sgx]
   refine Ev.step (fun k => by rw [convergent_Simplest.j1, if_neg (by simp)]) ?_
   refine Ev.bind (ev_const fun _ => sgn x y) (Ev.congr (fun k => if_pos (by omega)) ?_)
   refine Ev.bind (ev_const fun _ => FNeg_T sx) (Ev.bind (ev_const fun _ => FNeg_T sa) (Ev.bind hev ?_))
   obtain ⟨g0, g1⟩ := gcd_le (n := P) (d := Q) (by omega)
   have a1 : (P / (Int.gcd P Q : Int)).natAbs ≤ P.natAbs := Int.natAbs_ediv_le_natAbs ..
   refine Ev.bind (ev_const fun _ => FNeg_T (n := P / (Int.gcd P Q : Int)) (d := Q / (Int.gcd P Q : Int)) (by unfold S17; omega)) (ev_const fun _ => ?_)
   rw [fr_neg]
 ·have sga : ¬ sg a ≤ 0 := by unfold sg; rw [if_neg (by omega), if_neg (by omega)]; omega
  obtain ⟨P, Q, hs, hP, hev⟩ := simplest_T (ln := a) (ld := b) (hn := x) (hd := y) (by omega) b0 y0 hle h1.2 h2.2 (by omega) (by omega) (by omega) (by omega)
  have hm := hs.min a b (by omega) (by omega) hle
  have hx0 : 0 < x := by
   apply Int.not_le.1; intro h
   have a1 : 0 < a * y := Int.mul_pos (by omega) y0
   have a2 := Int.mul_nonneg (a := -x) (b := b) (by omega) (by omega)
   rw [Int.neg_mul] at a2
   omega
  have sgx : ¬ sg x < 0 := by unfold sg; rw [if_neg (by omega), if_neg (by omega)]; omega
  refine ⟨fr P Q, top ?_, RSimplest_pos b0 y0 (by omega) (by omega) (by omega) (by omega) hs hP⟩
  refine Ev.bind (ev_const fun _ => sgn a b) (Ev.congr (fun k => if_neg sga) ?_)
  refine Ev.step (fun k => by rw [convergent_Simplest.j1, if_neg (by simp)]) ?_
  refine Ev.bind (ev_const fun _ => sgn x y) (Ev.congr (fun k => if_neg sgx) ?_)
  exact Ev.bind hev (ev_const fun _ => rfl)
theorem CSimplest_order {a b x y : Int} (h1 : Fr a b) (h2 : Fr x y) (ha : -1000000 < a ∧ a < 10000000) (hx : -1000000 < x ∧ x < 10000000) (hb : b ≤ 200) (hy : y ≤ 200) (hgt : a * y > x * b) :
  Ev (fun k => convergent_Simplest.f k (T a) (T b) (T x) (T y)) (⟨#[]⟩, ⟨#[]⟩, 6) := by
 have b0 := h1.1
 have y0 := h2.1
 have sa : S17 a := by unfold S17; omega
 have sb : S17 b := by unfold S17; omega
 have sx : S17 x := by unfold S17; omega
 have sy : S17 y := by unfold S17; omega
 have m1 : a.natAbs * y.natAbs ≤ 10000000 * 200 := Nat.mul_le_mul (by omega) (by omega)
 have m2 : x.natAbs * b.natAbs ≤ 10000000 * 200 := Nat.mul_le_mul (by omega) (by omega)
 have m3 : b.natAbs * y.natAbs ≤ 200 * 200 := Nat.mul_le_mul (by omega) (by omega)
 have hcmp : cmp (a * y) (x * b) > 0 := by unfold cmp; rw [if_neg (by omega), if_pos (by omega)]; omega
 unfold convergent_Simplest.f
 refine Ev.bind (Wrong_no sa sb h1) (Ev.congr (fun k => if_neg (by simp)) (Ev.bind (Wrong_no sx sy h2) ?_))
 refine Ev.step (fun k => by rw [convergent_Simplest.j0, if_neg (by simp)]) ?_
 exact Ev.bind (FCompare_T ⟨sa, sb, sx, sy, b0, y0, by omega, by omega, by omega⟩) (Ev.congr (fun k => if_pos hcmp) (ev_const fun _ => rfl))
theorem CSimplest_wrong {a b c d : ByteArray} (ha : a.size ≤ 17) (hb : b.size ≤ 17) (hc : c.size ≤ 17) (hd : d.size ≤ 17) (h : (∀ n m, a = T n → b = T m → ¬ Fr n m) ∨ (∀ n m, c = T n → d = T m → ¬ Fr n m)) :
  Ev (fun k => convergent_Simplest.f k a b c d) (⟨#[]⟩, ⟨#[]⟩, 2) := by
 have j : Ev (fun k => convergent_Simplest.j0 k true a b c d) (⟨#[]⟩, ⟨#[]⟩, 2) := ev_here 1 fun k => by rw [convergent_Simplest.j0, if_pos rfl]
 unfold convergent_Simplest.f
 rcases said a b with ⟨n, m, rfl, rfl, h1⟩ | h1
 ·refine Ev.bind (Wrong_no (S17_of ha) (S17_of hb) h1) (Ev.congr (fun k => if_neg (by simp)) ?_)
  refine Ev.bind (Wrong_yes hc hd ?_) j
  rcases h with h | h
  ·exact absurd h1 (h n m rfl rfl)
  ·exact h
 ·exact Ev.bind (Wrong_yes ha hb h1) (Ev.congr (fun k => if_pos rfl) j)
theorem sp_true (a b c d : ByteArray) : Ev (fun k => schismalaw04_ConvergentSimplest.j0 k true a b c d) true := by
 refine Ev.step (fun k => by rw [schismalaw04_ConvergentSimplest.j0, if_pos rfl]) ?_
 exact Ev.bind Known (ev_const fun _ => rfl)
theorem sp_none : schismalaw04_none.f ⟨#[]⟩ ⟨#[]⟩ = some true := by simp [schismalaw04_none.f, ByteArray.toList_eq]
theorem sp_late (a b c d : ByteArray) (x5 x6 : Int) (x7 : Bool) (x8 x9 : Int) (x10 : Bool) : Ev (fun k => schismalaw04_ConvergentSimplest.j1 k x5 x6 x7 x8 x9 x10 true a b c d) true :=
 ev_here 1 fun k => by rw [schismalaw04_ConvergentSimplest.j1, if_pos rfl]
theorem T7 {i : Int} (h : (T i).size ≤ 7) : -1000000 < i ∧ i < 10000000 := by
 have := lt_of_T_size (i := i) (k := 6) (by omega)
 omega
theorem sp_wrong (a b c d : ByteArray) (x5 x6 : Int) (x7 : Bool) (x8 x9 : Int) (x10 : Bool) (hx : x7 = false ∨ x10 = false) (h : Ev (fun k => convergent_Simplest.f k a b c d) (⟨#[]⟩, ⟨#[]⟩, 2)) : Ev (fun k => schismalaw04_ConvergentSimplest.j1 k x5 x6 x7 x8 x9 x10 false a b c d) true := by
 have bad : Ev (fun k => schismalaw04_ConvergentSimplest.j2 k x5 x6 x8 x9 2 true ⟨#[]⟩ ⟨#[]⟩) true := ev_here 1 fun k => by
  rw [schismalaw04_ConvergentSimplest.j2, if_pos rfl, sp_none]
  rfl
 refine Ev.step (fun k => by rw [schismalaw04_ConvergentSimplest.j1, if_neg (by simp)]) ?_
 refine Ev.bind h ?_
 cases x7 with
 | false => exact Ev.congr (fun k => if_neg (by simp)) bad
 | true =>
  have : x10 = false := by rcases hx with h | h; cases h; exact h
  subst this
  exact Ev.congr (fun k => if_pos rfl) bad
theorem sp_false (a b c d : ByteArray) (ha : a.size ≤ 7) (hb : b.size ≤ 7) (hc : c.size ≤ 7) (hd : d.size ≤ 7) : Ev (fun k => schismalaw04_ConvergentSimplest.j0 k false a b c d) true := by
 refine Ev.step (fun k => by rw [schismalaw04_ConvergentSimplest.j0, if_neg (by simp)]) ?_
 rcases said a b with ⟨p, q, rfl, rfl, h1⟩ | h1
 ·have hp := T7 ha
  have hq := T7 hb
  refine Ev.bind (Parts_yes (by omega) (by omega) h1) ?_
  rcases said c d with ⟨r, s, rfl, rfl, h2⟩ | h2
  ·have hr := T7 hc
   have hs := T7 hd
   refine Ev.bind (Parts_yes (by omega) (by omega) h2) (Ev.congr (fun k => if_pos rfl) ?_)
   simp only
   by_cases hq2 : q > 200
   ·exact Ev.congr (fun k => if_pos hq2) (sp_late _ _ _ _ _ _ _ _ _ _)
   refine Ev.congr (fun k => by rw [if_neg hq2, if_pos trivial]) ?_
   by_cases hs2 : s > 200
   ·rw [decide_eq_true hs2]; exact sp_late _ _ _ _ _ _ _ _ _ _
   rw [decide_eq_false hs2]
   have q0 := h1.1
   have s0 := h2.1
   have m1 : (p * s).natAbs ≤ 10000000 * 200 := by rw [Int.natAbs_mul]; exact Nat.mul_le_mul (by omega) (by omega)
   have m2 : (r * q).natAbs ≤ 10000000 * 200 := by rw [Int.natAbs_mul]; exact Nat.mul_le_mul (by omega) (by omega)
   refine Ev.step (fun k => by rw [schismalaw04_ConvergentSimplest.j1, if_neg (by simp)]) ?_
   by_cases ho : p * s > r * q
   ·refine Ev.bind (CSimplest_order h1 h2 hp hr (by omega) (by omega) ho) (Ev.congr (fun k => if_pos rfl) ?_)
    simp only [Bool.not_true]
    refine ev_here 1 fun k => ?_
    rw [schismalaw04_ConvergentSimplest.j2, if_neg (by simp), w64 (x := p * s) (by omega) (by omega), w64 (x := r * q) (by omega) (by omega), if_pos ho, sp_none]
    rfl
   ·obtain ⟨x, e1, e2⟩ := CSimplest_T h1 h2 hp hr (by omega) (by omega) (by omega)
    refine Ev.bind e1 (Ev.congr (fun k => if_pos rfl) ?_)
    simp only [Bool.not_true]
    refine Ev.step (fun k => by rw [schismalaw04_ConvergentSimplest.j2, if_neg (by simp), w64 (x := p * s) (by omega) (by omega), w64 (x := r * q) (by omega) (by omega), if_neg ho]) ?_
    refine Ev.bind e2 (ev_const fun k => ?_)
    rw [if_pos (by simp)]
    rfl
  ·refine Ev.bind (Parts_no (by omega) (by omega) h2) (Ev.congr (fun k => if_pos rfl) ?_)
   simp only
   by_cases hq2 : q > 200
   ·exact Ev.congr (fun k => if_pos hq2) (sp_late _ _ _ _ _ _ _ _ _ _)
   ·exact Ev.congr (fun k => by rw [if_neg hq2, if_neg (by simp)]) (sp_wrong _ _ _ _ _ _ _ _ _ _ (.inr rfl) (CSimplest_wrong (by omega) (by omega) (by omega) (by omega) (.inr h2)))
 ·refine Ev.bind (Parts_no (by omega) (by omega) h1) ?_
  rcases said c d with ⟨r, s, rfl, rfl, h2⟩ | h2
  ·refine Ev.bind (Parts_yes (by omega) (by omega) h2) (Ev.congr (fun k => by rw [if_neg (by simp), if_pos rfl]) ?_)
   simp only
   by_cases hs2 : s > 200
   ·rw [decide_eq_true hs2]; exact sp_late _ _ _ _ _ _ _ _ _ _
   ·rw [decide_eq_false hs2]
    exact sp_wrong _ _ _ _ _ _ _ _ _ _ (.inl rfl) (CSimplest_wrong (by omega) (by omega) (by omega) (by omega) (.inl h1))
  ·refine Ev.bind (Parts_no (by omega) (by omega) h2) (Ev.congr (fun k => by rw [if_neg (by simp), if_neg (by simp)]) ?_)
   exact sp_wrong _ _ _ _ _ _ _ _ _ _ (.inl rfl) (CSimplest_wrong (by omega) (by omega) (by omega) (by omega) (.inl h1))
theorem sp_small (a b : ByteArray) : schismalaw04_small.f a b = some (decide (a.size ≤ 7 ∧ b.size ≤ 7)) := by
 unfold schismalaw04_small.f
 by_cases h : a.size ≤ 7
 ·rw [if_pos (by omega)]
  congr 1
  by_cases h2 : b.size ≤ 7
  ·rw [decide_eq_true (by omega), decide_eq_true ⟨h, h2⟩]
  ·rw [decide_eq_false (by omega), decide_eq_false (fun hh => h2 hh.2)]
 ·rw [if_neg (by omega), decide_eq_false (fun hh => h hh.1)]
theorem ConvergentSimplest_true (a b c d : ByteArray) : ∃ k, schismalaw04_ConvergentSimplest.f k a b c d = some true := by
 refine Ev.rounds (g := fun k => schismalaw04_ConvergentSimplest.f k a b c d) ?_
 unfold schismalaw04_ConvergentSimplest.f
 refine Ev.bind Known (Ev.congr (fun k => if_pos rfl) ?_)
 refine Ev.bind (ev_const fun _ => sp_small a b) ?_
 by_cases h : a.size ≤ 7 ∧ b.size ≤ 7
 ·rw [decide_eq_true h]
  refine Ev.congr (fun k => if_pos rfl) (Ev.bind (ev_const fun _ => sp_small c d) ?_)
  by_cases h2 : c.size ≤ 7 ∧ d.size ≤ 7
  ·rw [decide_eq_true h2]; exact sp_false a b c d h.1 h.2 h2.1 h2.2
  ·rw [decide_eq_false h2]; exact sp_true a b c d
 ·rw [decide_eq_false h]
  exact Ev.congr (fun k => if_neg (by simp)) (sp_true a b c d)
end Go.Proofs.YtidajgkepdkcbaaGreatDoor
end
