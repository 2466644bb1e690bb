/- A part of the proof in QBw5. -/
import Derived.Test.YtidajgkepdkcbaaGreatDoorQBw0
set_option linter.unusedVariables false
set_option linter.unusedSimpArgs false
section
namespace Go.Proofs.YtidajgkepdkcbaaGreatDoor.PF
open Go.RowKit Go.Proofs.YtidajgkepdkcbaaGreatDoorW.PrintWords Go.Proofs.YtidajgkepdkcbaaGreatDoorW.PrintLast Go.Proofs.YtidajgkepdkcbaaGreatDoorW.PrintMore
attribute [local go_sem] max2_int min2_int max_two min_two max_three min_three max_four min_four
mutual
def whole_DivMod.j1 : Nat → ByteArray → ByteArray → Option (ByteArray × ByteArray × Int)
 | 0, _, _ => none
 | k + 1, x0, x1 => (whole_split.f x0).bind fun bt148 => ((whole_split.f x1).bind fun bt150 => ((decimal_DivMod.f bt148.2 bt150.2).bind fun bt152 => (if bt152.2.2 = 0 then (if (bt148.1 != bt150.1) = true then (whole_DivMod.j2 k bt148.1 bt150.1 bt150.2 bt152.1 bt152.2.1 (bt152.2.1.toList != ([48] : List UInt8))) else (whole_DivMod.j2 k bt148.1 bt150.1 bt150.2 bt152.1 bt152.2.1 false)) else (some ((⟨#[]⟩ : ByteArray), (⟨#[]⟩ : ByteArray), bt152.2.2)))))
def whole_DivMod.j2 : Nat → Bool → Bool → ByteArray → ByteArray → ByteArray → Bool → Option (ByteArray × ByteArray × Int)
 | 0, _, _, _, _, _, _ => none
 | k + 1, x13, x15, x16, x17, x18, x83 => if x83 = true then ((decimal_Add.f x17 (⟨#[49]⟩ : ByteArray)).bind fun t155 => ((decimal_Sub.f x16 x18).bind fun bt156 => ((whole_join.f (x13 != x15) t155).bind fun t158 => ((whole_join.f x15 bt156.1).bind fun t159 => (some (t158, t159, 0)))))) else ((whole_join.f (x13 != x15) x17).bind fun t160 => ((whole_join.f x15 x18).bind fun t161 => (some (t160, t161, 0))))
def whole_DivMod.j0 : Nat → Int → Int → Int → Bool → Option (ByteArray × ByteArray × Int)
 | 0, _, _, _, _ => none
 | k + 1, x9, x11, x12, x47 => if x47 = true then ((whole_Of.f (wrap64 (x11 - 1))).bind fun t144 => ((whole_Of.f (wrap64 (x12 + x9))).bind fun t145 => (some (t144, t145, 0)))) else ((whole_Of.f x11).bind fun t146 => ((whole_Of.f x12).bind fun t147 => (some (t146, t147, 0))))
end
def whole_DivMod.f (k : Nat) (a0 : ByteArray) (a1 : ByteArray) : Option (ByteArray × ByteArray × Int) := if a1.toList = ([48] : List UInt8) then (some ((⟨#[]⟩ : ByteArray), (⟨#[]⟩ : ByteArray), 17)) else ((whole_little.f a0 18).bind fun bt140 => (if bt140.2 = true then ((whole_little.f a1 18).bind fun bt142 => (if bt142.2 = true then (if bt142.1 = 0 then (none) else (if (Int.tmod bt140.1 bt142.1) = 0 then (whole_DivMod.j0 k bt142.1 (wrap64 (Int.tdiv bt140.1 bt142.1)) (Int.tmod bt140.1 bt142.1) false) else (whole_DivMod.j0 k bt142.1 (wrap64 (Int.tdiv bt140.1 bt142.1)) (Int.tmod bt140.1 bt142.1) ((decide ((Int.tmod bt140.1 bt142.1) < 0)) != (decide (bt142.1 < 0)))))) else (whole_DivMod.j1 k a0 a1))) else (whole_DivMod.j1 k a0 a1)))
set_option maxHeartbeats 8000000 in
set_option maxRecDepth 100000 in
theorem whole_DivMod.calls (k : Nat) (a0 : ByteArray) (a1 : ByteArray) (r1 : ByteArray) (r2 : ByteArray) (r3 : Int) (w : World) (hG_ : GWorld w) (h : whole_DivMod.f k a0 a1 = some (r1, r2, r3)) :
  Calls Tryz.prog 55 #[.string a0, .string a1] w fun e w' => e = .returned (.tuple #[.string r1, .string r2, .int .i64 r3]) ∧ Below w.heap.size w w' := by
 have HB := Aside0.mk (Below.refl w.heap.size w)
 have HG := Aside0.mk hG_
 clear hG_
 have H : (if a1.toList = ([48] : List UInt8) then (some ((⟨#[]⟩ : ByteArray), (⟨#[]⟩ : ByteArray), 17)) else ((whole_little.f a0 18).bind fun bt140 => (if bt140.2 = true then ((whole_little.f a1 18).bind fun bt142 => (if bt142.2 = true then (if bt142.1 = 0 then (none) else (if (Int.tmod bt140.1 bt142.1) = 0 then (whole_DivMod.j0 k bt142.1 (wrap64 (Int.tdiv bt140.1 bt142.1)) (Int.tmod bt140.1 bt142.1) false) else (whole_DivMod.j0 k bt142.1 (wrap64 (Int.tdiv bt140.1 bt142.1)) (Int.tmod bt140.1 bt142.1) ((decide ((Int.tmod bt140.1 bt142.1) < 0)) != (decide (bt142.1 < 0)))))) else (whole_DivMod.j1 k a0 a1))) else (whole_DivMod.j1 k a0 a1)))) = some (r1, r2, r3) := h
 clear h
 by_cases c3 : a1.toList = ([48] : List UInt8)
 ·rw [if_pos c3] at H
  have c3b0 : (a1.toList == ([48] : List UInt8)) = true := beq_iff_eq.mpr c3
  have c3b1 : (a1.toList != ([48] : List UInt8)) = false := bne_eq_false_iff_eq.mpr c3
  clear c3
  simp only [Option.some.injEq, Prod.mk.injEq] at H
  obtain ⟨rfl, rfl, rfl⟩ := H
  go_enter Tryz.func55, Tryz.ntmps55
  go_wp2
  repeat (go_quiet (fail); try go_wp2)
  go_ret3
  exact ⟨er_, bl_⟩
 ·rw [if_neg c3] at H
  have c3b0 : (a1.toList == ([48] : List UInt8)) = false := beq_eq_false_iff_ne.mpr c3
  have c3b1 : (a1.toList != ([48] : List UInt8)) = true := bne_iff_ne.mpr c3
  replace H := Option.bind_eq_some_iff.mp H
  obtain ⟨⟨t140, t141⟩, A40, H⟩ := H
  replace H : (if t141 = true then ((whole_little.f a1 18).bind fun bt142 => (if bt142.2 = true then (if bt142.1 = 0 then (none) else (if (Int.tmod t140 bt142.1) = 0 then (whole_DivMod.j0 k bt142.1 (wrap64 (Int.tdiv t140 bt142.1)) (Int.tmod t140 bt142.1) false) else (whole_DivMod.j0 k bt142.1 (wrap64 (Int.tdiv t140 bt142.1)) (Int.tmod t140 bt142.1) ((decide ((Int.tmod t140 bt142.1) < 0)) != (decide (bt142.1 < 0)))))) else (whole_DivMod.j1 k a0 a1))) else (whole_DivMod.j1 k a0 a1)) = some (r1, r2, r3) := H
  have A4 := Aside0.mk A40
  clear A40
  have HC5 := Aside0.mk H
  clear H
  go_enter Tryz.func55, Tryz.ntmps55
  go_upto_if 26 with (first | (go_at_call 77; (with_reducible refine (whole_little.calls a0 18 t140 t141 _ A4.out).mono ?_); rintro e w6 ⟨rfl, hb⟩; replace HB := bs_ hb; (try clear hb); (try clear hb2); (try clear hk); (try clear hi)))
  repeat (go_quiet (first | (go_at_call 77; (with_reducible refine (whole_little.calls a0 18 t140 t141 _ A4.out).mono ?_); rintro e w6 ⟨rfl, hb⟩; replace HB := bs_ hb; (try clear hb); (try clear hb2); (try clear hk); (try clear hi))); go_upto_if 26 with (first | (go_at_call 77; (with_reducible refine (whole_little.calls a0 18 t140 t141 _ A4.out).mono ?_); rintro e w6 ⟨rfl, hb⟩; replace HB := bs_ hb; (try clear hb); (try clear hb2); (try clear hk); (try clear hi))))
  (try simp only [Act.put, List.setIfInBounds_toArray, List.set_cons_zero, List.set_cons_succ])
  go_cut [] (fun wc => ∃ (kq : Nat), Aside0 (whole_DivMod.j1 kq a0 a1 = some (r1, r2, r3)) ∧ Aside0 (kq ≤ k) ∧ Aside0 (Below w.heap.size w wc))
  case first =>
   have H := HC5.out
   clear HC5
   by_cases c7 : t141 = true
   ·subst c7
    have H1 : ((whole_little.f a1 18).bind fun bt142 => (if bt142.2 = true then (if bt142.1 = 0 then (none) else (if (Int.tmod t140 bt142.1) = 0 then (whole_DivMod.j0 k bt142.1 (wrap64 (Int.tdiv t140 bt142.1)) (Int.tmod t140 bt142.1) false) else (whole_DivMod.j0 k bt142.1 (wrap64 (Int.tdiv t140 bt142.1)) (Int.tmod t140 bt142.1) ((decide ((Int.tmod t140 bt142.1) < 0)) != (decide (bt142.1 < 0)))))) else (whole_DivMod.j1 k a0 a1))) = some (r1, r2, r3) := by rw [if_pos rfl] at H; exact H
    clear H
    have H := H1
    clear H1
    replace H := Option.bind_eq_some_iff.mp H
    obtain ⟨⟨t142, t143⟩, A80, H⟩ := H
    replace H : (if t143 = true then (if t142 = 0 then (none) else (if (Int.tmod t140 t142) = 0 then (whole_DivMod.j0 k t142 (wrap64 (Int.tdiv t140 t142)) (Int.tmod t140 t142) false) else (whole_DivMod.j0 k t142 (wrap64 (Int.tdiv t140 t142)) (Int.tmod t140 t142) ((decide ((Int.tmod t140 t142) < 0)) != (decide (t142 < 0)))))) else (whole_DivMod.j1 k a0 a1)) = some (r1, r2, r3) := H
    have A8 := Aside0.mk A80
    clear A80
    by_cases c9 : t143 = true
    ·subst c9
     have H1 : (if t142 = 0 then (none) else (if (Int.tmod t140 t142) = 0 then (whole_DivMod.j0 k t142 (wrap64 (Int.tdiv t140 t142)) (Int.tmod t140 t142) false) else (whole_DivMod.j0 k t142 (wrap64 (Int.tdiv t140 t142)) (Int.tmod t140 t142) ((decide ((Int.tmod t140 t142) < 0)) != (decide (t142 < 0)))))) = some (r1, r2, r3) := by rw [if_pos rfl] at H; exact H
     clear H
     have H := H1
     clear H1
     by_cases c10 : t142 = 0
     ·rw [if_pos c10] at H
      exact absurd H (by simp)
     ·rw [if_neg c10] at H
      have c10b0 : (t142 == 0) = false := beq_eq_false_iff_ne.mpr c10
      have c10b1 : (t142 != 0) = true := bne_iff_ne.mpr c10
      (first | rw [c10b0] | (simp only [i64_w, i32_w]; rw [c10b0]) | skip)
      have HC11 := Aside0.mk H
      clear H
      go_upto_region 8 with (first | (go_at_call 77; (with_reducible refine (whole_little.calls a1 18 t142 true _ A8.out).mono ?_); rintro e w12 ⟨rfl, hb⟩; replace HB := bs_ hb; (try clear hb); (try clear hb2); (try clear hk); (try clear hi)))
      repeat (go_quiet (first | (go_at_call 77; (with_reducible refine (whole_little.calls a1 18 t142 true _ A8.out).mono ?_); rintro e w12 ⟨rfl, hb⟩; replace HB := bs_ hb; (try clear hb); (try clear hb2); (try clear hk); (try clear hi))); go_upto_region 8 with (first | (go_at_call 77; (with_reducible refine (whole_little.calls a1 18 t142 true _ A8.out).mono ?_); rintro e w12 ⟨rfl, hb⟩; replace HB := bs_ hb; (try clear hb); (try clear hb2); (try clear hk); (try clear hi))))
      (try simp only [Act.put, List.setIfInBounds_toArray, List.set_cons_zero, List.set_cons_succ])
      go_cut [47] (fun v47 wc => ∃ (kq : Nat) (x47_10 : Bool), v47 = .bool x47_10 ∧ Aside0 (whole_DivMod.j0 kq t142 (wrap64 (Int.tdiv t140 t142)) (Int.tmod t140 t142) x47_10 = some (r1, r2, r3)) ∧ Aside0 (kq ≤ k) ∧ Aside0 (Below w.heap.size w wc))
      case first =>
       have H := HC11.out
       clear HC11
       by_cases c13 : (Int.tmod t140 t142) = 0
       ·rw [if_pos c13] at H
        have c13b0 : ((Int.tmod t140 t142) == 0) = true := beq_iff_eq.mpr c13
        have c13b1 : ((Int.tmod t140 t142) != 0) = false := bne_eq_false_iff_eq.mpr c13
        clear c13
        (first | rw [c13b0] | (simp only [i64_w, i32_w]; rw [c13b0]) | skip)
        have H' := Aside0.mk H
        clear H
        go_wp2
        repeat (go_quiet (fail); try go_wp2)
        go_meet
        case rel => exact ⟨_, (false), (by first | rfl | (simp; done) | (simp [*]; done)), H', ⟨by first | omega | exact Nat.le_refl _⟩, ⟨bl_⟩⟩
       ·rw [if_neg c13] at H
        have c13b0 : ((Int.tmod t140 t142) == 0) = false := beq_eq_false_iff_ne.mpr c13
        have c13b1 : ((Int.tmod t140 t142) != 0) = true := bne_iff_ne.mpr c13
        (first | rw [c13b0] | (simp only [i64_w, i32_w]; rw [c13b0]) | skip)
        have H' := Aside0.mk H
        clear H
        go_wp2
        repeat (go_quiet (fail); try go_wp2)
        go_meet
        case rel => exact ⟨_, (((decide ((Int.tmod t140 t142) < 0)) != (decide (t142 < 0)))), (by first | rfl | (simp; done) | (simp [*]; done)), H', ⟨by first | omega | exact Nat.le_refl _⟩, ⟨bl_⟩⟩
      case rest =>
       clear HC11
       try clear c1
       try clear p2
       try clear c3
       try clear c3b0
       try clear c3b1
       try clear c5
       try clear p6
       try clear c7
       try clear c9
       try clear c10
       try clear c10b0
       try clear c10b1
       try clear c13
       try clear c13b0
       try clear c13b1
       obtain ⟨kq, x47_10, rfl, HA, HJ10, HB⟩ := hcut
       cases kq with
       | zero => exact absurd HA.out (by simp [whole_DivMod.j0])
       | succ kj10 =>
        have H := HA.out
        clear HA
        simp only [whole_DivMod.j0] at H
        by_cases c14 : x47_10 = true
        ·subst c14
         have H1 : ((whole_Of.f (wrap64 ((wrap64 (Int.tdiv t140 t142)) - 1))).bind fun t144 => ((whole_Of.f (wrap64 ((Int.tmod t140 t142) + t142))).bind fun t145 => (some (t144, t145, 0)))) = some (r1, r2, r3) := by rw [if_pos rfl] at H; exact H
         clear H
         have H := H1
         clear H1
         replace H := Option.bind_eq_some_iff.mp H
         obtain ⟨t144, A150, H⟩ := H
         replace H : ((whole_Of.f (wrap64 ((Int.tmod t140 t142) + t142))).bind fun t145 => (some (t144, t145, 0))) = some (r1, r2, r3) := H
         have A15 := Aside0.mk A150
         clear A150
         replace H := Option.bind_eq_some_iff.mp H
         obtain ⟨t145, A160, H⟩ := H
         replace H : (some (t144, t145, 0)) = some (r1, r2, r3) := H
         have A16 := Aside0.mk A160
         clear A160
         simp only [Option.some.injEq, Prod.mk.injEq] at H
         obtain ⟨rfl, rfl, rfl⟩ := H
         go_wp2_with (first | (go_at_call 59; (with_reducible refine (whole_Of.calls (wrap64 ((wrap64 (Int.tdiv t140 t142)) - 1)) t144 _ ?side1 A15.out).mono ?_); (case side1 => exact gw_ HG); rintro e w17 ⟨rfl, hb⟩; replace HB := bs_ hb; (try clear hb); (try clear hb2); (try clear hk); (try clear hi)) | (go_at_call 59; (with_reducible refine (whole_Of.calls (wrap64 ((Int.tmod t140 t142) + t142)) t145 _ ?side1 A16.out).mono ?_); (case side1 => exact gw_ HG); rintro e w18 ⟨rfl, hb⟩; replace HB := bs_ hb; (try clear hb); (try clear hb2); (try clear hk); (try clear hi)))
         repeat (go_quiet (first | (go_at_call 59; (with_reducible refine (whole_Of.calls (wrap64 ((wrap64 (Int.tdiv t140 t142)) - 1)) t144 _ ?side1 A15.out).mono ?_); (case side1 => exact gw_ HG); rintro e w17 ⟨rfl, hb⟩; replace HB := bs_ hb; (try clear hb); (try clear hb2); (try clear hk); (try clear hi)) | (go_at_call 59; (with_reducible refine (whole_Of.calls (wrap64 ((Int.tmod t140 t142) + t142)) t145 _ ?side1 A16.out).mono ?_); (case side1 => exact gw_ HG); rintro e w18 ⟨rfl, hb⟩; replace HB := bs_ hb; (try clear hb); (try clear hb2); (try clear hk); (try clear hi))); try go_wp2_with (first | (go_at_call 59; (with_reducible refine (whole_Of.calls (wrap64 ((wrap64 (Int.tdiv t140 t142)) - 1)) t144 _ ?side1 A15.out).mono ?_); (case side1 => exact gw_ HG); rintro e w17 ⟨rfl, hb⟩; replace HB := bs_ hb; (try clear hb); (try clear hb2); (try clear hk); (try clear hi)) | (go_at_call 59; (with_reducible refine (whole_Of.calls (wrap64 ((Int.tmod t140 t142) + t142)) t145 _ ?side1 A16.out).mono ?_); (case side1 => exact gw_ HG); rintro e w18 ⟨rfl, hb⟩; replace HB := bs_ hb; (try clear hb); (try clear hb2); (try clear hk); (try clear hi))))
         go_ret3
         exact ⟨er_, bl_⟩
        ·replace c14 := Bool.eq_false_iff.mpr c14
         subst c14
         have H1 : ((whole_Of.f (wrap64 (Int.tdiv t140 t142))).bind fun t146 => ((whole_Of.f (Int.tmod t140 t142)).bind fun t147 => (some (t146, t147, 0)))) = some (r1, r2, r3) := by rw [if_neg (show ¬ (false = true) by decide)] at H; exact H
         clear H
         have H := H1
         clear H1
         replace H := Option.bind_eq_some_iff.mp H
         obtain ⟨t146, A190, H⟩ := H
         replace H : ((whole_Of.f (Int.tmod t140 t142)).bind fun t147 => (some (t146, t147, 0))) = some (r1, r2, r3) := H
         have A19 := Aside0.mk A190
         clear A190
         replace H := Option.bind_eq_some_iff.mp H
         obtain ⟨t147, A200, H⟩ := H
         replace H : (some (t146, t147, 0)) = some (r1, r2, r3) := H
         have A20 := Aside0.mk A200
         clear A200
         simp only [Option.some.injEq, Prod.mk.injEq] at H
         obtain ⟨rfl, rfl, rfl⟩ := H
         go_wp2_with (first | (go_at_call 59; (with_reducible refine (whole_Of.calls (wrap64 (Int.tdiv t140 t142)) t146 _ ?side1 A19.out).mono ?_); (case side1 => exact gw_ HG); rintro e w21 ⟨rfl, hb⟩; replace HB := bs_ hb; (try clear hb); (try clear hb2); (try clear hk); (try clear hi)) | (go_at_call 59; (with_reducible refine (whole_Of.calls (Int.tmod t140 t142) t147 _ ?side1 A20.out).mono ?_); (case side1 => exact gw_ HG); rintro e w22 ⟨rfl, hb⟩; replace HB := bs_ hb; (try clear hb); (try clear hb2); (try clear hk); (try clear hi)))
         repeat (go_quiet (first | (go_at_call 59; (with_reducible refine (whole_Of.calls (wrap64 (Int.tdiv t140 t142)) t146 _ ?side1 A19.out).mono ?_); (case side1 => exact gw_ HG); rintro e w21 ⟨rfl, hb⟩; replace HB := bs_ hb; (try clear hb); (try clear hb2); (try clear hk); (try clear hi)) | (go_at_call 59; (with_reducible refine (whole_Of.calls (Int.tmod t140 t142) t147 _ ?side1 A20.out).mono ?_); (case side1 => exact gw_ HG); rintro e w22 ⟨rfl, hb⟩; replace HB := bs_ hb; (try clear hb); (try clear hb2); (try clear hk); (try clear hi))); try go_wp2_with (first | (go_at_call 59; (with_reducible refine (whole_Of.calls (wrap64 (Int.tdiv t140 t142)) t146 _ ?side1 A19.out).mono ?_); (case side1 => exact gw_ HG); rintro e w21 ⟨rfl, hb⟩; replace HB := bs_ hb; (try clear hb); (try clear hb2); (try clear hk); (try clear hi)) | (go_at_call 59; (with_reducible refine (whole_Of.calls (Int.tmod t140 t142) t147 _ ?side1 A20.out).mono ?_); (case side1 => exact gw_ HG); rintro e w22 ⟨rfl, hb⟩; replace HB := bs_ hb; (try clear hb); (try clear hb2); (try clear hk); (try clear hi))))
         go_ret3
         exact ⟨er_, bl_⟩
    ·replace c9 := Bool.eq_false_iff.mpr c9
     subst c9
     have H1 : (whole_DivMod.j1 k a0 a1) = some (r1, r2, r3) := by rw [if_neg (show ¬ (false = true) by decide)] at H; exact H
     clear H
     have H := H1
     clear H1
     have H' := Aside0.mk H
     clear H
     go_wp2_with (first | (go_at_call 77; (with_reducible refine (whole_little.calls a1 18 t142 false _ A8.out).mono ?_); rintro e w23 ⟨rfl, hb⟩; replace HB := bs_ hb; (try clear hb); (try clear hb2); (try clear hk); (try clear hi)))
     repeat (go_quiet (first | (go_at_call 77; (with_reducible refine (whole_little.calls a1 18 t142 false _ A8.out).mono ?_); rintro e w23 ⟨rfl, hb⟩; replace HB := bs_ hb; (try clear hb); (try clear hb2); (try clear hk); (try clear hi))); try go_wp2_with (first | (go_at_call 77; (with_reducible refine (whole_little.calls a1 18 t142 false _ A8.out).mono ?_); rintro e w23 ⟨rfl, hb⟩; replace HB := bs_ hb; (try clear hb); (try clear hb2); (try clear hk); (try clear hi))))
     go_meet
     case rel => exact ⟨_, H', ⟨by first | omega | exact Nat.le_refl _⟩, ⟨bl_⟩⟩
   ·replace c7 := Bool.eq_false_iff.mpr c7
    subst c7
    have H1 : (whole_DivMod.j1 k a0 a1) = some (r1, r2, r3) := by rw [if_neg (show ¬ (false = true) by decide)] at H; exact H
    clear H
    have H := H1
    clear H1
    have H' := Aside0.mk H
    clear H
    go_wp2
    repeat (go_quiet (fail); try go_wp2)
    go_meet
    case rel => exact ⟨_, H', ⟨by first | omega | exact Nat.le_refl _⟩, ⟨bl_⟩⟩
  case rest =>
   clear HC5
   try clear c1
   try clear p2
   try clear c3
   try clear c3b0
   try clear c3b1
   try clear c5
   try clear p6
   try clear c7
   try clear c9
   try clear c10
   try clear c10b0
   try clear c10b1
   try clear c13
   try clear c13b0
   try clear c13b1
   try clear c14
   try clear p2
   try clear p6
   obtain ⟨kq, HA, HJ4, HB⟩ := hcut
   cases kq with
   | zero => exact absurd HA.out (by simp [whole_DivMod.j1])
   | succ kj4 =>
    have H := HA.out
    clear HA
    simp only [whole_DivMod.j1] at H
    replace H := Option.bind_eq_some_iff.mp H
    obtain ⟨⟨t148, t149⟩, A240, H⟩ := H
    replace H : ((whole_split.f a1).bind fun bt150 => ((decimal_DivMod.f t149 bt150.2).bind fun bt152 => (if bt152.2.2 = 0 then (if (t148 != bt150.1) = true then (whole_DivMod.j2 kj4 t148 bt150.1 bt150.2 bt152.1 bt152.2.1 (bt152.2.1.toList != ([48] : List UInt8))) else (whole_DivMod.j2 kj4 t148 bt150.1 bt150.2 bt152.1 bt152.2.1 false)) else (some ((⟨#[]⟩ : ByteArray), (⟨#[]⟩ : ByteArray), bt152.2.2))))) = some (r1, r2, r3) := H
    have A24 := Aside0.mk A240
    clear A240
    replace H := Option.bind_eq_some_iff.mp H
    obtain ⟨⟨t150, t151⟩, A250, H⟩ := H
    replace H : ((decimal_DivMod.f t149 t151).bind fun bt152 => (if bt152.2.2 = 0 then (if (t148 != t150) = true then (whole_DivMod.j2 kj4 t148 t150 t151 bt152.1 bt152.2.1 (bt152.2.1.toList != ([48] : List UInt8))) else (whole_DivMod.j2 kj4 t148 t150 t151 bt152.1 bt152.2.1 false)) else (some ((⟨#[]⟩ : ByteArray), (⟨#[]⟩ : ByteArray), bt152.2.2)))) = some (r1, r2, r3) := H
    have A25 := Aside0.mk A250
    clear A250
    replace H := Option.bind_eq_some_iff.mp H
    obtain ⟨⟨t152, t153, t154⟩, A260, H⟩ := H
    replace H : (if t154 = 0 then (if (t148 != t150) = true then (whole_DivMod.j2 kj4 t148 t150 t151 t152 t153 (t153.toList != ([48] : List UInt8))) else (whole_DivMod.j2 kj4 t148 t150 t151 t152 t153 false)) else (some ((⟨#[]⟩ : ByteArray), (⟨#[]⟩ : ByteArray), t154))) = some (r1, r2, r3) := H
    have A26 := Aside0.mk A260
    clear A260
    by_cases c27 : t154 = 0
    ·rw [if_pos c27] at H
     have c27b0 : (t154 == 0) = true := beq_iff_eq.mpr c27
     have c27b1 : (t154 != 0) = false := bne_eq_false_iff_eq.mpr c27
     clear c27
     have HC28 := Aside0.mk H
     clear H
     go_upto_region 16 with (first | (go_at_call 78; (with_reducible refine (whole_split.calls a0 t148 t149 _ A24.out).mono ?_); rintro e w' ⟨rfl, ⟨nd, rfl⟩⟩; (try first | exact ⟨rfl, _, World.drewN_drewN _ _ _⟩ | exact ⟨rfl, _, Eq.trans (World.drewN_drewN _ _ _) (congrArg (World.drewN _) (Nat.add_assoc _ _ _))⟩)) | (go_at_call 78; (with_reducible refine (whole_split.calls a1 t150 t151 _ A25.out).mono ?_); rintro e w' ⟨rfl, ⟨nd, rfl⟩⟩; (try first | exact ⟨rfl, _, World.drewN_drewN _ _ _⟩ | exact ⟨rfl, _, Eq.trans (World.drewN_drewN _ _ _) (congrArg (World.drewN _) (Nat.add_assoc _ _ _))⟩)) | (go_at_call 86; (with_reducible refine (decimal_DivMod.calls t149 t151 t152 t153 t154 _ A26.out).mono ?_); rintro e w29 ⟨rfl, hb⟩; replace HB := bs_ hb; (try clear hb); (try clear hb2); (try clear hk); (try clear hi)))
     repeat (go_quiet (first | (go_at_call 78; (with_reducible refine (whole_split.calls a0 t148 t149 _ A24.out).mono ?_); rintro e w' ⟨rfl, ⟨nd, rfl⟩⟩; (try first | exact ⟨rfl, _, World.drewN_drewN _ _ _⟩ | exact ⟨rfl, _, Eq.trans (World.drewN_drewN _ _ _) (congrArg (World.drewN _) (Nat.add_assoc _ _ _))⟩)) | (go_at_call 78; (with_reducible refine (whole_split.calls a1 t150 t151 _ A25.out).mono ?_); rintro e w' ⟨rfl, ⟨nd, rfl⟩⟩; (try first | exact ⟨rfl, _, World.drewN_drewN _ _ _⟩ | exact ⟨rfl, _, Eq.trans (World.drewN_drewN _ _ _) (congrArg (World.drewN _) (Nat.add_assoc _ _ _))⟩)) | (go_at_call 86; (with_reducible refine (decimal_DivMod.calls t149 t151 t152 t153 t154 _ A26.out).mono ?_); rintro e w29 ⟨rfl, hb⟩; replace HB := bs_ hb; (try clear hb); (try clear hb2); (try clear hk); (try clear hi))); go_upto_region 16 with (first | (go_at_call 78; (with_reducible refine (whole_split.calls a0 t148 t149 _ A24.out).mono ?_); rintro e w' ⟨rfl, ⟨nd, rfl⟩⟩; (try first | exact ⟨rfl, _, World.drewN_drewN _ _ _⟩ | exact ⟨rfl, _, Eq.trans (World.drewN_drewN _ _ _) (congrArg (World.drewN _) (Nat.add_assoc _ _ _))⟩)) | (go_at_call 78; (with_reducible refine (whole_split.calls a1 t150 t151 _ A25.out).mono ?_); rintro e w' ⟨rfl, ⟨nd, rfl⟩⟩; (try first | exact ⟨rfl, _, World.drewN_drewN _ _ _⟩ | exact ⟨rfl, _, Eq.trans (World.drewN_drewN _ _ _) (congrArg (World.drewN _) (Nat.add_assoc _ _ _))⟩)) | (go_at_call 86; (with_reducible refine (decimal_DivMod.calls t149 t151 t152 t153 t154 _ A26.out).mono ?_); rintro e w29 ⟨rfl, hb⟩; replace HB := bs_ hb; (try clear hb); (try clear hb2); (try clear hk); (try clear hi))))
     (try simp only [Act.put, List.setIfInBounds_toArray, List.set_cons_zero, List.set_cons_succ])
     go_cut [83] (fun v83 wc => ∃ (kq : Nat) (x83_27 : Bool), v83 = .bool x83_27 ∧ Aside0 (whole_DivMod.j2 kq t148 t150 t151 t152 t153 x83_27 = some (r1, r2, r3)) ∧ Aside0 (kq ≤ kj4) ∧ Aside0 (Below w.heap.size w wc))
     case first =>
      have H := HC28.out
      clear HC28
      by_cases c30 : (t148 != t150) = true
      ·rw [if_pos c30] at H
       have c30b0 : (t148 != t150) = true := c30
       (try (have c30b1 : decide (t148 = t150) = false := by simpa using c30))
       (try (have c30b2 : (t148 == t150) = false := by simpa using c30))
       (try (have c30b3 : ¬ (t148 = t150) := by simpa using c30))
       clear c30
       (first | rw [c30b0] | (simp only [i64_w, i32_w]; rw [c30b0]) | skip)
       have H' := Aside0.mk H
       clear H
       go_wp2
       repeat (go_quiet (fail); try go_wp2)
       go_meet
       case rel => exact ⟨_, ((t153.toList != ([48] : List UInt8))), (by first | rfl | (simp; done) | (simp [*]; done)), H', ⟨by have := HJ4.out; first | omega | exact Nat.le_refl _⟩, ⟨bl_⟩⟩
      ·rw [if_neg c30] at H
       have c30b0 : (t148 != t150) = false := by simpa using c30
       (try (have c30b1 : decide (t148 = t150) = true := by simpa using c30))
       (try (have c30b2 : (t148 == t150) = true := by simpa using c30))
       clear c30
       (first | rw [c30b0] | (simp only [i64_w, i32_w]; rw [c30b0]) | skip)
       have H' := Aside0.mk H
       clear H
       go_wp2
       repeat (go_quiet (fail); try go_wp2)
       go_meet
       case rel => exact ⟨_, (false), (by first | rfl | (simp; done) | (simp [*]; done)), H', ⟨by have := HJ4.out; first | omega | exact Nat.le_refl _⟩, ⟨bl_⟩⟩
     case rest =>
      clear HC28
      try clear c1
      try clear c2
      try clear p2
      try clear c3
      try clear c3b0
      try clear c3b1
      try clear c5
      try clear p6
      try clear c7
      try clear c9
      try clear c10
      try clear c10b0
      try clear c10b1
      try clear c13
      try clear c13b0
      try clear c13b1
      try clear c14
      try clear c27
      try clear c27b0
      try clear c27b1
      try clear c30
      try clear c30b0
      try clear c30b1
      try clear c30b2
      try clear p2
      try clear p6
      obtain ⟨kq, x83_27, rfl, HA, HJ27, HB⟩ := hcut
      cases kq with
      | zero => exact absurd HA.out (by simp [whole_DivMod.j2])
      | succ kj27 =>
       have H := HA.out
       clear HA
       simp only [whole_DivMod.j2] at H
       by_cases c31 : x83_27 = true
       ·subst c31
        have H1 : ((decimal_Add.f t152 (⟨#[49]⟩ : ByteArray)).bind fun t155 => ((decimal_Sub.f t151 t153).bind fun bt156 => ((whole_join.f (t148 != t150) t155).bind fun t158 => ((whole_join.f t150 bt156.1).bind fun t159 => (some (t158, t159, 0)))))) = some (r1, r2, r3) := by rw [if_pos rfl] at H; exact H
        clear H
        have H := H1
        clear H1
        replace H := Option.bind_eq_some_iff.mp H
        obtain ⟨t155, A320, H⟩ := H
        replace H : ((decimal_Sub.f t151 t153).bind fun bt156 => ((whole_join.f (t148 != t150) t155).bind fun t158 => ((whole_join.f t150 bt156.1).bind fun t159 => (some (t158, t159, 0))))) = some (r1, r2, r3) := H
        have A32 := Aside0.mk A320
        clear A320
        replace H := Option.bind_eq_some_iff.mp H
        obtain ⟨⟨t156, t157⟩, A330, H⟩ := H
        replace H : ((whole_join.f (t148 != t150) t155).bind fun t158 => ((whole_join.f t150 t156).bind fun t159 => (some (t158, t159, 0)))) = some (r1, r2, r3) := H
        have A33 := Aside0.mk A330
        clear A330
        replace H := Option.bind_eq_some_iff.mp H
        obtain ⟨t158, A340, H⟩ := H
        replace H : ((whole_join.f t150 t156).bind fun t159 => (some (t158, t159, 0))) = some (r1, r2, r3) := H
        have A34 := Aside0.mk A340
        clear A340
        replace H := Option.bind_eq_some_iff.mp H
        obtain ⟨t159, A350, H⟩ := H
        replace H : (some (t158, t159, 0)) = some (r1, r2, r3) := H
        have A35 := Aside0.mk A350
        clear A350
        simp only [Option.some.injEq, Prod.mk.injEq] at H
        obtain ⟨rfl, rfl, rfl⟩ := H
        go_wp2_with (first | (go_at_call 80; (with_reducible refine (decimal_Add.calls t152 (⟨#[49]⟩ : ByteArray) t155 _ A32.out).mono ?_); rintro e w36 ⟨rfl, hb⟩; replace HB := bs_ hb; (try clear hb); (try clear hb2); (try clear hk); (try clear hi)) | (go_at_call 82; (with_reducible refine (decimal_Sub.calls t151 t153 t156 t157 _ A33.out).mono ?_); rintro e w37 ⟨rfl, hb⟩; replace HB := bs_ hb; (try clear hb); (try clear hb2); (try clear hk); (try clear hi); have BA34 := A34.out; unfold bne at BA34; replace BA34 := Aside0.mk BA34) | (go_at_call 79; (with_reducible first | refine (whole_join.calls (t148 != t150) t155 t158 _ A34.out).mono ?_ | refine (whole_join.calls (!(t148 == t150)) t155 t158 _ BA34.out).mono ?_); rintro e w' ⟨rfl, ⟨nd, rfl⟩⟩; (try first | exact ⟨rfl, _, World.drewN_drewN _ _ _⟩ | exact ⟨rfl, _, Eq.trans (World.drewN_drewN _ _ _) (congrArg (World.drewN _) (Nat.add_assoc _ _ _))⟩)) | (go_at_call 79; (with_reducible refine (whole_join.calls t150 t156 t159 _ A35.out).mono ?_); rintro e w' ⟨rfl, ⟨nd, rfl⟩⟩; (try first | exact ⟨rfl, _, World.drewN_drewN _ _ _⟩ | exact ⟨rfl, _, Eq.trans (World.drewN_drewN _ _ _) (congrArg (World.drewN _) (Nat.add_assoc _ _ _))⟩)))
        repeat (go_quiet (first | (go_at_call 80; (with_reducible refine (decimal_Add.calls t152 (⟨#[49]⟩ : ByteArray) t155 _ A32.out).mono ?_); rintro e w36 ⟨rfl, hb⟩; replace HB := bs_ hb; (try clear hb); (try clear hb2); (try clear hk); (try clear hi)) | (go_at_call 82; (with_reducible refine (decimal_Sub.calls t151 t153 t156 t157 _ A33.out).mono ?_); rintro e w37 ⟨rfl, hb⟩; replace HB := bs_ hb; (try clear hb); (try clear hb2); (try clear hk); (try clear hi); have BA34 := A34.out; unfold bne at BA34; replace BA34 := Aside0.mk BA34) | (go_at_call 79; (with_reducible first | refine (whole_join.calls (t148 != t150) t155 t158 _ A34.out).mono ?_ | refine (whole_join.calls (!(t148 == t150)) t155 t158 _ BA34.out).mono ?_); rintro e w' ⟨rfl, ⟨nd, rfl⟩⟩; (try first | exact ⟨rfl, _, World.drewN_drewN _ _ _⟩ | exact ⟨rfl, _, Eq.trans (World.drewN_drewN _ _ _) (congrArg (World.drewN _) (Nat.add_assoc _ _ _))⟩)) | (go_at_call 79; (with_reducible refine (whole_join.calls t150 t156 t159 _ A35.out).mono ?_); rintro e w' ⟨rfl, ⟨nd, rfl⟩⟩; (try first | exact ⟨rfl, _, World.drewN_drewN _ _ _⟩ | exact ⟨rfl, _, Eq.trans (World.drewN_drewN _ _ _) (congrArg (World.drewN _) (Nat.add_assoc _ _ _))⟩))); try go_wp2_with (first | (go_at_call 80; (with_reducible refine (decimal_Add.calls t152 (⟨#[49]⟩ : ByteArray) t155 _ A32.out).mono ?_); rintro e w36 ⟨rfl, hb⟩; replace HB := bs_ hb; (try clear hb); (try clear hb2); (try clear hk); (try clear hi)) | (go_at_call 82; (with_reducible refine (decimal_Sub.calls t151 t153 t156 t157 _ A33.out).mono ?_); rintro e w37 ⟨rfl, hb⟩; replace HB := bs_ hb; (try clear hb); (try clear hb2); (try clear hk); (try clear hi); have BA34 := A34.out; unfold bne at BA34; replace BA34 := Aside0.mk BA34) | (go_at_call 79; (with_reducible first | refine (whole_join.calls (t148 != t150) t155 t158 _ A34.out).mono ?_ | refine (whole_join.calls (!(t148 == t150)) t155 t158 _ BA34.out).mono ?_); rintro e w' ⟨rfl, ⟨nd, rfl⟩⟩; (try first | exact ⟨rfl, _, World.drewN_drewN _ _ _⟩ | exact ⟨rfl, _, Eq.trans (World.drewN_drewN _ _ _) (congrArg (World.drewN _) (Nat.add_assoc _ _ _))⟩)) | (go_at_call 79; (with_reducible refine (whole_join.calls t150 t156 t159 _ A35.out).mono ?_); rintro e w' ⟨rfl, ⟨nd, rfl⟩⟩; (try first | exact ⟨rfl, _, World.drewN_drewN _ _ _⟩ | exact ⟨rfl, _, Eq.trans (World.drewN_drewN _ _ _) (congrArg (World.drewN _) (Nat.add_assoc _ _ _))⟩))))
        go_ret3
        exact ⟨er_, bl_⟩
       ·replace c31 := Bool.eq_false_iff.mpr c31
        subst c31
        have H1 : ((whole_join.f (t148 != t150) t152).bind fun t160 => ((whole_join.f t150 t153).bind fun t161 => (some (t160, t161, 0)))) = some (r1, r2, r3) := by rw [if_neg (show ¬ (false = true) by decide)] at H; exact H
        clear H
        have H := H1
        clear H1
        replace H := Option.bind_eq_some_iff.mp H
        obtain ⟨t160, A380, H⟩ := H
        replace H : ((whole_join.f t150 t153).bind fun t161 => (some (t160, t161, 0))) = some (r1, r2, r3) := H
        have A38 := Aside0.mk A380
        clear A380
        replace H := Option.bind_eq_some_iff.mp H
        obtain ⟨t161, A390, H⟩ := H
        replace H : (some (t160, t161, 0)) = some (r1, r2, r3) := H
        have A39 := Aside0.mk A390
        clear A390
        simp only [Option.some.injEq, Prod.mk.injEq] at H
        obtain ⟨rfl, rfl, rfl⟩ := H
        have BA38 := A38.out
        unfold bne at BA38
        replace BA38 := Aside0.mk BA38
        go_wp2_with (first | (go_at_call 79; (with_reducible first | refine (whole_join.calls (t148 != t150) t152 t160 _ A38.out).mono ?_ | refine (whole_join.calls (!(t148 == t150)) t152 t160 _ BA38.out).mono ?_); rintro e w' ⟨rfl, ⟨nd, rfl⟩⟩; (try first | exact ⟨rfl, _, World.drewN_drewN _ _ _⟩ | exact ⟨rfl, _, Eq.trans (World.drewN_drewN _ _ _) (congrArg (World.drewN _) (Nat.add_assoc _ _ _))⟩)) | (go_at_call 79; (with_reducible refine (whole_join.calls t150 t153 t161 _ A39.out).mono ?_); rintro e w' ⟨rfl, ⟨nd, rfl⟩⟩; (try first | exact ⟨rfl, _, World.drewN_drewN _ _ _⟩ | exact ⟨rfl, _, Eq.trans (World.drewN_drewN _ _ _) (congrArg (World.drewN _) (Nat.add_assoc _ _ _))⟩)))
        repeat (go_quiet (first | (go_at_call 79; (with_reducible first | refine (whole_join.calls (t148 != t150) t152 t160 _ A38.out).mono ?_ | refine (whole_join.calls (!(t148 == t150)) t152 t160 _ BA38.out).mono ?_); rintro e w' ⟨rfl, ⟨nd, rfl⟩⟩; (try first | exact ⟨rfl, _, World.drewN_drewN _ _ _⟩ | exact ⟨rfl, _, Eq.trans (World.drewN_drewN _ _ _) (congrArg (World.drewN _) (Nat.add_assoc _ _ _))⟩)) | (go_at_call 79; (with_reducible refine (whole_join.calls t150 t153 t161 _ A39.out).mono ?_); rintro e w' ⟨rfl, ⟨nd, rfl⟩⟩; (try first | exact ⟨rfl, _, World.drewN_drewN _ _ _⟩ | exact ⟨rfl, _, Eq.trans (World.drewN_drewN _ _ _) (congrArg (World.drewN _) (Nat.add_assoc _ _ _))⟩))); try go_wp2_with (first | (go_at_call 79; (with_reducible first | refine (whole_join.calls (t148 != t150) t152 t160 _ A38.out).mono ?_ | refine (whole_join.calls (!(t148 == t150)) t152 t160 _ BA38.out).mono ?_); rintro e w' ⟨rfl, ⟨nd, rfl⟩⟩; (try first | exact ⟨rfl, _, World.drewN_drewN _ _ _⟩ | exact ⟨rfl, _, Eq.trans (World.drewN_drewN _ _ _) (congrArg (World.drewN _) (Nat.add_assoc _ _ _))⟩)) | (go_at_call 79; (with_reducible refine (whole_join.calls t150 t153 t161 _ A39.out).mono ?_); rintro e w' ⟨rfl, ⟨nd, rfl⟩⟩; (try first | exact ⟨rfl, _, World.drewN_drewN _ _ _⟩ | exact ⟨rfl, _, Eq.trans (World.drewN_drewN _ _ _) (congrArg (World.drewN _) (Nat.add_assoc _ _ _))⟩))))
        go_ret3
        exact ⟨er_, bl_⟩
    ·rw [if_neg c27] at H
     have c27b0 : (t154 == 0) = false := beq_eq_false_iff_ne.mpr c27
     have c27b1 : (t154 != 0) = true := bne_iff_ne.mpr c27
     simp only [Option.some.injEq, Prod.mk.injEq] at H
     obtain ⟨rfl, rfl, rfl⟩ := H
     go_wp2_with (first | (go_at_call 78; (with_reducible refine (whole_split.calls a0 t148 t149 _ A24.out).mono ?_); rintro e w' ⟨rfl, ⟨nd, rfl⟩⟩; (try first | exact ⟨rfl, _, World.drewN_drewN _ _ _⟩ | exact ⟨rfl, _, Eq.trans (World.drewN_drewN _ _ _) (congrArg (World.drewN _) (Nat.add_assoc _ _ _))⟩)) | (go_at_call 78; (with_reducible refine (whole_split.calls a1 t150 t151 _ A25.out).mono ?_); rintro e w' ⟨rfl, ⟨nd, rfl⟩⟩; (try first | exact ⟨rfl, _, World.drewN_drewN _ _ _⟩ | exact ⟨rfl, _, Eq.trans (World.drewN_drewN _ _ _) (congrArg (World.drewN _) (Nat.add_assoc _ _ _))⟩)) | (go_at_call 86; (with_reducible refine (decimal_DivMod.calls t149 t151 t152 t153 t154 _ A26.out).mono ?_); rintro e w40 ⟨rfl, hb⟩; replace HB := bs_ hb; (try clear hb); (try clear hb2); (try clear hk); (try clear hi)))
     repeat (go_quiet (first | (go_at_call 78; (with_reducible refine (whole_split.calls a0 t148 t149 _ A24.out).mono ?_); rintro e w' ⟨rfl, ⟨nd, rfl⟩⟩; (try first | exact ⟨rfl, _, World.drewN_drewN _ _ _⟩ | exact ⟨rfl, _, Eq.trans (World.drewN_drewN _ _ _) (congrArg (World.drewN _) (Nat.add_assoc _ _ _))⟩)) | (go_at_call 78; (with_reducible refine (whole_split.calls a1 t150 t151 _ A25.out).mono ?_); rintro e w' ⟨rfl, ⟨nd, rfl⟩⟩; (try first | exact ⟨rfl, _, World.drewN_drewN _ _ _⟩ | exact ⟨rfl, _, Eq.trans (World.drewN_drewN _ _ _) (congrArg (World.drewN _) (Nat.add_assoc _ _ _))⟩)) | (go_at_call 86; (with_reducible refine (decimal_DivMod.calls t149 t151 t152 t153 t154 _ A26.out).mono ?_); rintro e w40 ⟨rfl, hb⟩; replace HB := bs_ hb; (try clear hb); (try clear hb2); (try clear hk); (try clear hi))); try go_wp2_with (first | (go_at_call 78; (with_reducible refine (whole_split.calls a0 t148 t149 _ A24.out).mono ?_); rintro e w' ⟨rfl, ⟨nd, rfl⟩⟩; (try first | exact ⟨rfl, _, World.drewN_drewN _ _ _⟩ | exact ⟨rfl, _, Eq.trans (World.drewN_drewN _ _ _) (congrArg (World.drewN _) (Nat.add_assoc _ _ _))⟩)) | (go_at_call 78; (with_reducible refine (whole_split.calls a1 t150 t151 _ A25.out).mono ?_); rintro e w' ⟨rfl, ⟨nd, rfl⟩⟩; (try first | exact ⟨rfl, _, World.drewN_drewN _ _ _⟩ | exact ⟨rfl, _, Eq.trans (World.drewN_drewN _ _ _) (congrArg (World.drewN _) (Nat.add_assoc _ _ _))⟩)) | (go_at_call 86; (with_reducible refine (decimal_DivMod.calls t149 t151 t152 t153 t154 _ A26.out).mono ?_); rintro e w40 ⟨rfl, hb⟩; replace HB := bs_ hb; (try clear hb); (try clear hb2); (try clear hk); (try clear hi))))
     go_ret3
     exact ⟨er_, bl_⟩
def convergent_terms.l0 : Nat → ByteArray → ByteArray → List ByteArray → Option (List ByteArray)
 | 0, _, _, _ => none
 | k + 1, x3, x4, x5 => if (x5.length : Int) ≤ 1000 then ((whole_DivMod.f k x3 x4).bind fun bt163 => (if x5.length < 8796093022208 then ((some (x5 ++ [bt163.1] : List ByteArray)).bind fun y166 => (if bt163.2.1.toList = ([48] : List UInt8) then (some y166) else (convergent_terms.l0 k x4 bt163.2.1 y166))) else (none))) else (some x5)
def convergent_terms.f (k : Nat) (a0_0 : ByteArray) (a0_1 : ByteArray) : Option (List ByteArray) := convergent_terms.l0 k a0_0 a0_1 ([] : List ByteArray)
set_option maxHeartbeats 8000000 in
set_option maxRecDepth 100000 in
theorem convergent_terms.calls (k : Nat) (a0_0 : ByteArray) (a0_1 : ByteArray) (r : List ByteArray) (w : World) (hG_ : GWorld w) (h : convergent_terms.f k a0_0 a0_1 = some r) :
  Calls Tryz.prog 46 #[.agg #[.string a0_0, .string a0_1]] w fun e w' => ∃ v0_ : Value, e = .returned (v0_) ∧ Kd.R Kd.string 22 w' w.heap.size (fun _ => True) v0_ r ∧ Below w.heap.size w w' := by
 have hu24 := Tryz.underlying24
 have HB := Aside0.mk (Below.refl w.heap.size w)
 have HG := Aside0.mk hG_
 clear hG_
 have H : (convergent_terms.l0 k a0_0 a0_1 ([] : List ByteArray)) = some r := h
 clear h
 have H' := Aside0.mk H
 clear H
 go_enter Tryz.func46, Tryz.ntmps46
 go_wp2_with (first | ((with_reducible refine gate_dst (N := 1) rfl ?_); refine bx_ 1 #[.string a0_0, .string a0_1] 24 ?_; clear HB; intro gb162 w2 BK162 GW162 HB; have GE162 := GW162; obtain ⟨hcz3_0, hcz3_1, hfz3_0, hfz3_1⟩ := c2_ BK162))
 repeat (go_quiet (first | ((with_reducible refine gate_dst (N := 1) rfl ?_); refine bx_ 1 #[.string a0_0, .string a0_1] 24 ?_; clear HB; intro gb162 w2 BK162 GW162 HB; have GE162 := GW162; obtain ⟨hcz3_0, hcz3_1, hfz3_0, hfz3_1⟩ := c2_ BK162)); try go_wp2_with (first | ((with_reducible refine gate_dst (N := 1) rfl ?_); refine bx_ 1 #[.string a0_0, .string a0_1] 24 ?_; clear HB; intro gb162 w2 BK162 GW162 HB; have GE162 := GW162; obtain ⟨hcz3_0, hcz3_1, hfz3_0, hfz3_1⟩ := c2_ BK162)))
 go_loopg [3, 4, 5] k (fun kq v3 v4 v5 w' => ∃ (x3_1 : ByteArray) (x4_1 : ByteArray) (x5_1 : List ByteArray), v3 = .string x3_1 ∧ v4 = .string x4_1 ∧ Aside0 (convergent_terms.l0 kq x3_1 x4_1 x5_1 = some r) ∧ Aside0 (kq ≤ k) ∧ Aside0 (Kd.R Kd.string 22 w' w.heap.size (fun _ => True) v5 x5_1) ∧ Aside0 (w'.heap[gb162]? = some (.cells #[.string a0_0, .string a0_1] 24 (0, 0))) ∧ Aside0 (Below w.heap.size w w'))
 case atStart => exact ⟨(a0_0), (a0_1), (([] : List ByteArray)), (by first | rfl | (simp; done) | (simp [*]; done)), (by first | rfl | (simp; done) | (simp [*]; done)), H', ⟨Nat.le_refl _⟩, ⟨by first | exact Kd.R_nil _ _ _ _ _ | exact Kd.N_nil _ _ _ _ _ | exact Kd.V_nil _ _ _ _ _ | exact Kd.Q_nil _ _ _ _ _ | exact Kd.S_nil _ _ _ _ _⟩, ⟨bk_⟩, ⟨bl_⟩⟩
 case round =>
  clear H'
  try clear p2
  try clear hcz3_0
  try clear hcz3_1
  try clear hfz3_0
  try clear hfz3_1
  obtain ⟨x3_1, x4_1, x5_1, rfl, rfl, HA, HK1, HO_5, BK162, HB⟩ := hrel
  cases gk with
  | zero => exact absurd HA.out (by simp [convergent_terms.l0])
  | succ k1 =>
   have H := HA.out
   clear HA
   simp only [convergent_terms.l0] at H
   by_cases c4 : (x5_1.length : Int) ≤ 1000
   ·rw [if_pos c4] at H
    have c4b0 : decide ((x5_1.length : Int) ≤ 1000) = true := decide_eq_true c4
    have c4b1 : decide (x5_1.length ≤ 1000) = true := decide_eq_true (by omega)
    clear c4
    replace H := Option.bind_eq_some_iff.mp H
    obtain ⟨⟨t163, t164, t165⟩, A50, H⟩ := H
    replace H : (if x5_1.length < 8796093022208 then ((some (x5_1 ++ [t163] : List ByteArray)).bind fun y166 => (if t164.toList = ([48] : List UInt8) then (some y166) else (convergent_terms.l0 k1 x4_1 t164 y166))) else (none)) = some r := H
    have A5 := Aside0.mk A50
    clear A50
    by_cases c6 : x5_1.length < 8796093022208
    ·rw [if_pos c6] at H
     have LMc6 := Aside0.mk c6
     clear c6
     obtain ⟨y166, hy166⟩ : ∃ y_ : List ByteArray, y_ = (x5_1 ++ [t163]) := ⟨_, rfl⟩
     replace H : (if t164.toList = ([48] : List UInt8) then (some y166) else (convergent_terms.l0 k1 x4_1 t164 y166)) = some r := by first | (rw [hy166]; with_reducible exact H) | (have H2_ := (Option.bind_some _ _).symm.trans H; rw [hy166]; with_reducible exact H2_) | (have H2_ := (Option.bind_some _ _).symm.trans H; with_reducible exact H2_) | with_reducible exact H | (rw [hy166]; exact H) | exact H
     have Ny166 := Aside0.mk hy166
     clear hy166
     by_cases c7 : t164.toList = ([48] : List UInt8)
     ·rw [if_pos c7] at H
      have c7b0 : (t164.toList == ([48] : List UInt8)) = true := beq_iff_eq.mpr c7
      have c7b1 : (t164.toList != ([48] : List UInt8)) = false := bne_eq_false_iff_eq.mpr c7
      clear c7
      obtain rfl := Option.some.inj H
      obtain ⟨Ao8, co8, eo8⟩ := Kd.R_slice HO_5.out
      subst eo8
      go_wp2_with (first | (go_at_call 55; (with_reducible refine (whole_DivMod.calls k1 x3_1 x4_1 t163 t164 t165 _ ?side1 A5.out).mono ?_); (case side1 => exact gw_ HG); rintro e w9 ⟨rfl, hb⟩; replace HO_5 := rb_ HO_5 hb; replace BK162 := kb_ BK162 hb; replace HB := bs_ hb; (try clear hb); (try clear hb2); (try clear hk); (try clear hi)) | ((with_reducible refine gate_builtin (b := .append) (xs := #[.tmp 23, .tmp 25]) rfl ?_); at_builtin; refine Kd.R_append Kd.string (w0 := w) w.heap.size rfl (.tmp 23) (.tmp 25) 34 22 (.string ⟨#[]⟩) 16 rfl Tryz.underlying34 info22 rfl (by decide) (by omega) (.slice Ao8 x5_1.length co8) x5_1 t163 [.string t163] (fun _ => True) (fun _ => False) rfl rfl ?aP (fun _ hk => hk.elim) ?aF ?aO ?aB ?aS ?aL ?_; (case aP => exact rfl); (case aB => exact bl_); (case aF => exact (fun _ _ => trivial)); (case aO => exact (by (with_reducible repeat (first | apply Kd.R_alloc | apply Kd.R_drewN | apply Kd.R_drew)); exact HO_5.out)); (case aS => exact (below_size bl_)); (case aL => have := LMc6.out; omega); intro v167 w10 ho hb hg hat; rw [← Ny166.out] at ho; replace BK162 := Aside0.mk (blk_grown (g := gb162) (o := .cells #[.string a0_0, .string a0_1] 24 (0, 0)) bk_ hg (Kd.R_ne HO_5.out BK162.out (by decide))); replace HB := Aside0.mk (hb); have HO168 := Aside0.mk (ho); clear HO_5; clear ho hb hg hat))
      repeat (go_quiet (first | (go_at_call 55; (with_reducible refine (whole_DivMod.calls k1 x3_1 x4_1 t163 t164 t165 _ ?side1 A5.out).mono ?_); (case side1 => exact gw_ HG); rintro e w9 ⟨rfl, hb⟩; replace HO_5 := rb_ HO_5 hb; replace BK162 := kb_ BK162 hb; replace HB := bs_ hb; (try clear hb); (try clear hb2); (try clear hk); (try clear hi)) | ((with_reducible refine gate_builtin (b := .append) (xs := #[.tmp 23, .tmp 25]) rfl ?_); at_builtin; refine Kd.R_append Kd.string (w0 := w) w.heap.size rfl (.tmp 23) (.tmp 25) 34 22 (.string ⟨#[]⟩) 16 rfl Tryz.underlying34 info22 rfl (by decide) (by omega) (.slice Ao8 x5_1.length co8) x5_1 t163 [.string t163] (fun _ => True) (fun _ => False) rfl rfl ?aP (fun _ hk => hk.elim) ?aF ?aO ?aB ?aS ?aL ?_; (case aP => exact rfl); (case aB => exact bl_); (case aF => exact (fun _ _ => trivial)); (case aO => exact (by (with_reducible repeat (first | apply Kd.R_alloc | apply Kd.R_drewN | apply Kd.R_drew)); exact HO_5.out)); (case aS => exact (below_size bl_)); (case aL => have := LMc6.out; omega); intro v167 w10 ho hb hg hat; rw [← Ny166.out] at ho; replace BK162 := Aside0.mk (blk_grown (g := gb162) (o := .cells #[.string a0_0, .string a0_1] 24 (0, 0)) bk_ hg (Kd.R_ne HO_5.out BK162.out (by decide))); replace HB := Aside0.mk (hb); have HO168 := Aside0.mk (ho); clear HO_5; clear ho hb hg hat)); try go_wp2_with (first | (go_at_call 55; (with_reducible refine (whole_DivMod.calls k1 x3_1 x4_1 t163 t164 t165 _ ?side1 A5.out).mono ?_); (case side1 => exact gw_ HG); rintro e w9 ⟨rfl, hb⟩; replace HO_5 := rb_ HO_5 hb; replace BK162 := kb_ BK162 hb; replace HB := bs_ hb; (try clear hb); (try clear hb2); (try clear hk); (try clear hi)) | ((with_reducible refine gate_builtin (b := .append) (xs := #[.tmp 23, .tmp 25]) rfl ?_); at_builtin; refine Kd.R_append Kd.string (w0 := w) w.heap.size rfl (.tmp 23) (.tmp 25) 34 22 (.string ⟨#[]⟩) 16 rfl Tryz.underlying34 info22 rfl (by decide) (by omega) (.slice Ao8 x5_1.length co8) x5_1 t163 [.string t163] (fun _ => True) (fun _ => False) rfl rfl ?aP (fun _ hk => hk.elim) ?aF ?aO ?aB ?aS ?aL ?_; (case aP => exact rfl); (case aB => exact bl_); (case aF => exact (fun _ _ => trivial)); (case aO => exact (by (with_reducible repeat (first | apply Kd.R_alloc | apply Kd.R_drewN | apply Kd.R_drew)); exact HO_5.out)); (case aS => exact (below_size bl_)); (case aL => have := LMc6.out; omega); intro v167 w10 ho hb hg hat; rw [← Ny166.out] at ho; replace BK162 := Aside0.mk (blk_grown (g := gb162) (o := .cells #[.string a0_0, .string a0_1] 24 (0, 0)) bk_ hg (Kd.R_ne HO_5.out BK162.out (by decide))); replace HB := Aside0.mk (hb); have HO168 := Aside0.mk (ho); clear HO_5; clear ho hb hg hat)))
      go_ret
      exact ⟨_, er_, by (with_reducible repeat (first | apply Kd.R_alloc | apply Kd.R_drewN | apply Kd.R_drew)); exact HO168.out, bl_⟩
     ·rw [if_neg c7] at H
      have c7b0 : (t164.toList == ([48] : List UInt8)) = false := beq_eq_false_iff_ne.mpr c7
      have c7b1 : (t164.toList != ([48] : List UInt8)) = true := bne_iff_ne.mpr c7
      have H' := Aside0.mk H
      clear H
      obtain ⟨Ao11, co11, eo11⟩ := Kd.R_slice HO_5.out
      subst eo11
      go_wp2_with (first | (go_at_call 55; (with_reducible refine (whole_DivMod.calls k1 x3_1 x4_1 t163 t164 t165 _ ?side1 A5.out).mono ?_); (case side1 => exact gw_ HG); rintro e w12 ⟨rfl, hb⟩; replace HO_5 := rb_ HO_5 hb; replace BK162 := kb_ BK162 hb; replace HB := bs_ hb; (try clear hb); (try clear hb2); (try clear hk); (try clear hi)) | ((with_reducible refine gate_builtin (b := .append) (xs := #[.tmp 23, .tmp 25]) rfl ?_); at_builtin; refine Kd.R_append Kd.string (w0 := w) w.heap.size rfl (.tmp 23) (.tmp 25) 34 22 (.string ⟨#[]⟩) 16 rfl Tryz.underlying34 info22 rfl (by decide) (by omega) (.slice Ao11 x5_1.length co11) x5_1 t163 [.string t163] (fun _ => True) (fun _ => False) rfl rfl ?aP (fun _ hk => hk.elim) ?aF ?aO ?aB ?aS ?aL ?_; (case aP => exact rfl); (case aB => exact bl_); (case aF => exact (fun _ _ => trivial)); (case aO => exact (by (with_reducible repeat (first | apply Kd.R_alloc | apply Kd.R_drewN | apply Kd.R_drew)); exact HO_5.out)); (case aS => exact (below_size bl_)); (case aL => have := LMc6.out; omega); intro v167 w13 ho hb hg hat; rw [← Ny166.out] at ho; replace BK162 := Aside0.mk (blk_grown (g := gb162) (o := .cells #[.string a0_0, .string a0_1] 24 (0, 0)) bk_ hg (Kd.R_ne HO_5.out BK162.out (by decide))); replace HB := Aside0.mk (hb); have HO168 := Aside0.mk (ho); clear HO_5; clear ho hb hg hat))
      repeat (go_quiet (first | (go_at_call 55; (with_reducible refine (whole_DivMod.calls k1 x3_1 x4_1 t163 t164 t165 _ ?side1 A5.out).mono ?_); (case side1 => exact gw_ HG); rintro e w12 ⟨rfl, hb⟩; replace HO_5 := rb_ HO_5 hb; replace BK162 := kb_ BK162 hb; replace HB := bs_ hb; (try clear hb); (try clear hb2); (try clear hk); (try clear hi)) | ((with_reducible refine gate_builtin (b := .append) (xs := #[.tmp 23, .tmp 25]) rfl ?_); at_builtin; refine Kd.R_append Kd.string (w0 := w) w.heap.size rfl (.tmp 23) (.tmp 25) 34 22 (.string ⟨#[]⟩) 16 rfl Tryz.underlying34 info22 rfl (by decide) (by omega) (.slice Ao11 x5_1.length co11) x5_1 t163 [.string t163] (fun _ => True) (fun _ => False) rfl rfl ?aP (fun _ hk => hk.elim) ?aF ?aO ?aB ?aS ?aL ?_; (case aP => exact rfl); (case aB => exact bl_); (case aF => exact (fun _ _ => trivial)); (case aO => exact (by (with_reducible repeat (first | apply Kd.R_alloc | apply Kd.R_drewN | apply Kd.R_drew)); exact HO_5.out)); (case aS => exact (below_size bl_)); (case aL => have := LMc6.out; omega); intro v167 w13 ho hb hg hat; rw [← Ny166.out] at ho; replace BK162 := Aside0.mk (blk_grown (g := gb162) (o := .cells #[.string a0_0, .string a0_1] 24 (0, 0)) bk_ hg (Kd.R_ne HO_5.out BK162.out (by decide))); replace HB := Aside0.mk (hb); have HO168 := Aside0.mk (ho); clear HO_5; clear ho hb hg hat)); try go_wp2_with (first | (go_at_call 55; (with_reducible refine (whole_DivMod.calls k1 x3_1 x4_1 t163 t164 t165 _ ?side1 A5.out).mono ?_); (case side1 => exact gw_ HG); rintro e w12 ⟨rfl, hb⟩; replace HO_5 := rb_ HO_5 hb; replace BK162 := kb_ BK162 hb; replace HB := bs_ hb; (try clear hb); (try clear hb2); (try clear hk); (try clear hi)) | ((with_reducible refine gate_builtin (b := .append) (xs := #[.tmp 23, .tmp 25]) rfl ?_); at_builtin; refine Kd.R_append Kd.string (w0 := w) w.heap.size rfl (.tmp 23) (.tmp 25) 34 22 (.string ⟨#[]⟩) 16 rfl Tryz.underlying34 info22 rfl (by decide) (by omega) (.slice Ao11 x5_1.length co11) x5_1 t163 [.string t163] (fun _ => True) (fun _ => False) rfl rfl ?aP (fun _ hk => hk.elim) ?aF ?aO ?aB ?aS ?aL ?_; (case aP => exact rfl); (case aB => exact bl_); (case aF => exact (fun _ _ => trivial)); (case aO => exact (by (with_reducible repeat (first | apply Kd.R_alloc | apply Kd.R_drewN | apply Kd.R_drew)); exact HO_5.out)); (case aS => exact (below_size bl_)); (case aL => have := LMc6.out; omega); intro v167 w13 ho hb hg hat; rw [← Ny166.out] at ho; replace BK162 := Aside0.mk (blk_grown (g := gb162) (o := .cells #[.string a0_0, .string a0_1] 24 (0, 0)) bk_ hg (Kd.R_ne HO_5.out BK162.out (by decide))); replace HB := Aside0.mk (hb); have HO168 := Aside0.mk (ho); clear HO_5; clear ho hb hg hat)))
      go_roundg k1
      case measure => have := HK1.out; omega
      case rel => exact ⟨(x4_1), (t164), (y166), (by first | rfl | (simp; done) | (simp [*]; done)), (by first | rfl | (simp; done) | (simp [*]; done)), H', ⟨by have := HK1.out; omega⟩, ⟨by (with_reducible repeat (first | apply Kd.R_alloc | apply Kd.R_drewN | apply Kd.R_drew)); exact HO168.out⟩, ⟨bk_⟩, ⟨bl_⟩⟩
    ·rw [if_neg c6] at H
     exact absurd H (by simp)
   ·rw [if_neg c4] at H
    have c4b0 : decide ((x5_1.length : Int) ≤ 1000) = false := decide_eq_false c4
    have c4b1 : decide (x5_1.length ≤ 1000) = false := decide_eq_false (by omega)
    clear c4
    obtain rfl := Option.some.inj H
    obtain ⟨Ao14, co14, eo14⟩ := Kd.R_slice HO_5.out
    subst eo14
    go_wp2
    repeat (go_quiet (fail); try go_wp2)
    go_ret
    exact ⟨_, er_, by (with_reducible repeat (first | apply Kd.R_alloc | apply Kd.R_drewN | apply Kd.R_drew)); exact HO_5.out, bl_⟩
def convergent_Terms.f (k : Nat) (a0_0 : ByteArray) (a0_1 : ByteArray) : Option (List ByteArray × Int) := (convergent_wrong.f k a0_0 a0_1).bind fun t170 => (if t170 = true then (some (([] : List ByteArray), 2)) else ((convergent_terms.f k a0_0 a0_1).bind fun t171 => (if (t171.length : Int) > 1000 then (some (([] : List ByteArray), 4)) else (some (t171, 0)))))
set_option maxHeartbeats 8000000 in
set_option maxRecDepth 100000 in
theorem convergent_Terms.calls (k : Nat) (a0_0 : ByteArray) (a0_1 : ByteArray) (r1 : List ByteArray) (r2 : Int) (w : World) (hG_ : GWorld w) (h : convergent_Terms.f k a0_0 a0_1 = some (r1, r2)) :
  Calls Tryz.prog 19 #[.agg #[.string a0_0, .string a0_1]] w fun e w' => ∃ v0_ : Value, e = .returned (.tuple #[v0_, .int .i64 r2]) ∧ Kd.R Kd.string 22 w' w.heap.size (fun _ => True) v0_ r1 ∧ Below w.heap.size w w' := by
 have hu24 := Tryz.underlying24
 have HB := Aside0.mk (Below.refl w.heap.size w)
 have HG := Aside0.mk hG_
 clear hG_
 have H : ((convergent_wrong.f k a0_0 a0_1).bind fun t170 => (if t170 = true then (some (([] : List ByteArray), 2)) else ((convergent_terms.f k a0_0 a0_1).bind fun t171 => (if (t171.length : Int) > 1000 then (some (([] : List ByteArray), 4)) else (some (t171, 0)))))) = some (r1, r2) := h
 clear h
 replace H := Option.bind_eq_some_iff.mp H
 obtain ⟨t170, A20, H⟩ := H
 replace H : (if t170 = true then (some (([] : List ByteArray), 2)) else ((convergent_terms.f k a0_0 a0_1).bind fun t171 => (if (t171.length : Int) > 1000 then (some (([] : List ByteArray), 4)) else (some (t171, 0))))) = some (r1, r2) := H
 have A2 := Aside0.mk A20
 clear A20
 by_cases c3 : t170 = true
 ·subst c3
  have H1 : (some (([] : List ByteArray), 2)) = some (r1, r2) := by rw [if_pos rfl] at H; exact H
  clear H
  have H := H1
  clear H1
  simp only [Option.some.injEq, Prod.mk.injEq] at H
  obtain ⟨rfl, rfl⟩ := H
  go_enter Tryz.func19, Tryz.ntmps19
  go_wp2_with (first | ((with_reducible refine gate_dst (N := 1) rfl ?_); refine bx_ 1 #[.string a0_0, .string a0_1] 24 ?_; clear HB; intro gb169 w4 BK169 GW169 HB; have GE169 := GW169; obtain ⟨hcz5_0, hcz5_1, hfz5_0, hfz5_1⟩ := c2_ BK169) | ((with_reducible refine gate_callee (f := 40) rfl ?_); refine goesL_ (some 6) rfl rfl Tryz.func40 (by kernel_rfl) rfl #[.agg #[.string a0_0, .string a0_1]] rfl mp_ ?_; (with_reducible refine (convergent_wrong.calls k a0_0 a0_1 true _ ?side1 A2.out).mono ?_); (case side1 => exact gw_ HG); rintro e w6 ⟨rfl, hb⟩; refine ⟨_, rfl, ?_⟩; replace BK169 := kb_ BK169 hb; replace HB := bs_ hb; (try clear hb); (try clear hb2); (try clear hk); (try clear hi)))
  go_ret2
  exact ⟨_, er_, by first | exact Kd.R_nil _ _ _ _ _ | exact Kd.N_nil _ _ _ _ _ | exact Kd.V_nil _ _ _ _ _ | exact Kd.Q_nil _ _ _ _ _ | exact Kd.S_nil _ _ _ _ _, bl_⟩
 ·replace c3 := Bool.eq_false_iff.mpr c3
  subst c3
  have H1 : ((convergent_terms.f k a0_0 a0_1).bind fun t171 => (if (t171.length : Int) > 1000 then (some (([] : List ByteArray), 4)) else (some (t171, 0)))) = some (r1, r2) := by rw [if_neg (show ¬ (false = true) by decide)] at H; exact H
  clear H
  have H := H1
  clear H1
  replace H := Option.bind_eq_some_iff.mp H
  obtain ⟨t171, A70, H⟩ := H
  replace H : (if (t171.length : Int) > 1000 then (some (([] : List ByteArray), 4)) else (some (t171, 0))) = some (r1, r2) := H
  have A7 := Aside0.mk A70
  clear A70
  by_cases c8 : (t171.length : Int) > 1000
  ·rw [if_pos c8] at H
   have c8b0 : decide (1000 < (t171.length : Int)) = true := decide_eq_true c8
   have c8b1 : decide (1000 < t171.length) = true := decide_eq_true (by omega)
   clear c8
   simp only [Option.some.injEq, Prod.mk.injEq] at H
   obtain ⟨rfl, rfl⟩ := H
   go_enter Tryz.func19, Tryz.ntmps19
   go_wp2_with (first | ((with_reducible refine gate_dst (N := 1) rfl ?_); refine bx_ 1 #[.string a0_0, .string a0_1] 24 ?_; clear HB; intro gb169 w9 BK169 GW169 HB; have GE169 := GW169; obtain ⟨hcz10_0, hcz10_1, hfz10_0, hfz10_1⟩ := c2_ BK169) | ((with_reducible refine gate_callee (f := 40) rfl ?_); refine goesL_ (some 6) rfl rfl Tryz.func40 (by kernel_rfl) rfl #[.agg #[.string a0_0, .string a0_1]] rfl mp_ ?_; (with_reducible refine (convergent_wrong.calls k a0_0 a0_1 false _ ?side1 A2.out).mono ?_); (case side1 => exact gw_ HG); rintro e w11 ⟨rfl, hb⟩; refine ⟨_, rfl, ?_⟩; replace BK169 := kb_ BK169 hb; replace HB := bs_ hb; (try clear hb); (try clear hb2); (try clear hk); (try clear hi); obtain ⟨hcz12_0, hcz12_1, hfz12_0, hfz12_1⟩ := c2_ BK169) | ((with_reducible refine gate_callee (f := 46) rfl ?_); refine goesL_ (some 8) rfl rfl Tryz.func46 (by kernel_rfl) rfl #[.agg #[.string a0_0, .string a0_1]] rfl mp_ ?_; (with_reducible refine (convergent_terms.calls k a0_0 a0_1 t171 _ ?side1 A7.out).mono ?_); (case side1 => exact gw_ HG); rintro e w13 ⟨v172, rfl, ho0, hb⟩; refine ⟨_, rfl, ?_⟩; have HO173 := Aside0.mk (Kd.R_lower ho0 (below_size bl_)); replace BK169 := kb_ BK169 hb; replace HB := bs_ hb; (try clear hb); (try clear hb2); (try clear hk); (try clear hi); (try clear ho0); obtain ⟨Ao14, co14, eo14⟩ := Kd.R_slice HO173.out; subst eo14))
   go_ret2
   exact ⟨_, er_, by first | exact Kd.R_nil _ _ _ _ _ | exact Kd.N_nil _ _ _ _ _ | exact Kd.V_nil _ _ _ _ _ | exact Kd.Q_nil _ _ _ _ _ | exact Kd.S_nil _ _ _ _ _, bl_⟩
  ·rw [if_neg c8] at H
   have c8b0 : decide (1000 < (t171.length : Int)) = false := decide_eq_false c8
   have c8b1 : decide (1000 < t171.length) = false := decide_eq_false (by omega)
   clear c8
   simp only [Option.some.injEq, Prod.mk.injEq] at H
   obtain ⟨rfl, rfl⟩ := H
   go_enter Tryz.func19, Tryz.ntmps19
   go_wp2_with (first | ((with_reducible refine gate_dst (N := 1) rfl ?_); refine bx_ 1 #[.string a0_0, .string a0_1] 24 ?_; clear HB; intro gb169 w15 BK169 GW169 HB; have GE169 := GW169; obtain ⟨hcz16_0, hcz16_1, hfz16_0, hfz16_1⟩ := c2_ BK169) | ((with_reducible refine gate_callee (f := 40) rfl ?_); refine goesL_ (some 6) rfl rfl Tryz.func40 (by kernel_rfl) rfl #[.agg #[.string a0_0, .string a0_1]] rfl mp_ ?_; (with_reducible refine (convergent_wrong.calls k a0_0 a0_1 false _ ?side1 A2.out).mono ?_); (case side1 => exact gw_ HG); rintro e w17 ⟨rfl, hb⟩; refine ⟨_, rfl, ?_⟩; replace BK169 := kb_ BK169 hb; replace HB := bs_ hb; (try clear hb); (try clear hb2); (try clear hk); (try clear hi); obtain ⟨hcz18_0, hcz18_1, hfz18_0, hfz18_1⟩ := c2_ BK169) | ((with_reducible refine gate_callee (f := 46) rfl ?_); refine goesL_ (some 8) rfl rfl Tryz.func46 (by kernel_rfl) rfl #[.agg #[.string a0_0, .string a0_1]] rfl mp_ ?_; (with_reducible refine (convergent_terms.calls k a0_0 a0_1 t171 _ ?side1 A7.out).mono ?_); (case side1 => exact gw_ HG); rintro e w19 ⟨v172, rfl, ho0, hb⟩; refine ⟨_, rfl, ?_⟩; have HO173 := Aside0.mk (Kd.R_lower ho0 (below_size bl_)); replace BK169 := kb_ BK169 hb; replace HB := bs_ hb; (try clear hb); (try clear hb2); (try clear hk); (try clear hi); (try clear ho0); obtain ⟨Ao20, co20, eo20⟩ := Kd.R_slice HO173.out; subst eo20))
   go_ret2
   exact ⟨_, er_, by (with_reducible repeat (first | apply Kd.R_alloc | apply Kd.R_drewN | apply Kd.R_drew)); exact HO173.out, bl_⟩
end Go.Proofs.YtidajgkepdkcbaaGreatDoor.PF
end
section
namespace Go.Proofs.YtidajgkepdkcbaaGreatDoor.PF
open Go.RowKit Go.Proofs.YtidajgkepdkcbaaGreatDoorW.PrintWords Go.Proofs.YtidajgkepdkcbaaGreatDoorW.PrintLast Go.Proofs.YtidajgkepdkcbaaGreatDoorW.PrintMore
attribute [local go_sem] max2_int min2_int max_two min_two max_three min_three max_four min_four
attribute [local go_sem high] eqA24
def schismalaw04_ints.l0 : Nat → List ByteArray → List Int → Int → Option (Bool)
 | 0, _, _, _ => none
 | k + 1, x0, x1, x5 => if x5 < (x0.length : Int) then (if 0 ≤ x5 then (if x5 < (x1.length : Int) then ((schismaref04_Of.f k (rd x1 x5)).bind fun t176 => (if (rdOf ByteArray.empty x0 x5).toList = t176.toList then (schismalaw04_ints.l0 k x0 x1 (wrap64 (x5 + 1))) else (some false))) else (none)) else (none)) else (some true)
def schismalaw04_ints.f (k : Nat) (l0 : List ByteArray) (l1 : List Int) : Option (Bool) := if (l0.length : Int) = (l1.length : Int) then (schismalaw04_ints.l0 k l0 l1 0) else (some false)
def schismalaw04_ints.T6 : Bool × List (List Nat × List Nat) := (true, [([], []), ([], []), ([0, 1], [0, 1]), ([2], [2]), ([], []), ([], []), ([4, 5], [4, 5]), ([6], [6]), ([7], [7]), ([3, 8], [3, 8])])
def schismalaw04_ints.B6 : List Nat := [0, 0, 3, 7, 0, 0, 48, 112, 240, 511]
theorem schismalaw04_ints.tab6 : rtab .any (opsOf Tryz.f22 6) = schismalaw04_ints.T6 := by kernel_rfl
theorem schismalaw04_ints.bits6 : waitsOk schismalaw04_ints.T6.2 schismalaw04_ints.B6 = true := by kernel_rfl
set_option maxHeartbeats 8000000 in
set_option maxRecDepth 100000 in
theorem schismalaw04_ints.calls (k : Nat) (A0 : Option Addr) (c0 : Nat) (l0 : List ByteArray) (A1 : Option Addr) (c1 : Nat) (l1 : List Int) (r : Bool) (w : World) (hr0 : Kd.C Kd.string w A0 l0.length l0) (hc0 : l0.length ≤ c0) (hr1 : Kd.C (Kd.int .i64) w A1 l1.length l1) (hc1 : l1.length ≤ c1) (h : schismalaw04_ints.f k l0 l1 = some r) :
  Calls Tryz.prog 22 #[.slice A0 l0.length c0, .slice A1 l1.length c1] w fun e w' => e = .returned (.bool r) ∧ Below w.heap.size w w' := by
 have HR0 := Aside0.mk hr0
 have HC0 := Aside0.mk hc0
 clear hr0 hc0
 have HR1 := Aside0.mk hr1
 have HC1 := Aside0.mk hc1
 clear hr1 hc1
 have HB := Aside0.mk (Below.refl w.heap.size w)
 have H : (if (l0.length : Int) = (l1.length : Int) then (schismalaw04_ints.l0 k l0 l1 0) else (some false)) = some r := h
 clear h
 by_cases c3 : (l0.length : Int) = (l1.length : Int)
 ·rw [if_pos c3] at H
  have c3b0 : ((l0.length : Int) == (l1.length : Int)) = true := beq_iff_eq.mpr c3
  have c3b1 : ((l0.length : Int) != (l1.length : Int)) = false := bne_eq_false_iff_eq.mpr c3
  have c3b2 : (l0.length == l1.length) = true := by first | simpa using c3 | (simp at c3 ⊢; omega)
  clear c3
  have H' := Aside0.mk H
  clear H
  go_enter Tryz.func22, Tryz.ntmps22
  go_wp2
  go_loopg [5] k (fun kq v5 w' => ∃ (x5_1 : Int), v5 = .int .i64 x5_1 ∧ Aside0 (schismalaw04_ints.l0 kq l0 l1 x5_1 = some r) ∧ Aside0 (kq ≤ k) ∧ Aside0 (Below w.heap.size w w'))
  case atStart => exact ⟨(0), (by first | rfl | (simp; done) | (simp [*]; done)), H', ⟨Nat.le_refl _⟩, ⟨bl_⟩⟩
  case round =>
   clear H'
   try clear c1
   try clear c2
   try clear p2
   try clear c3
   try clear c3b0
   try clear c3b1
   try clear c3b2
   obtain ⟨x5_1, rfl, HA, HK1, HB⟩ := hrel
   cases gk with
   | zero => exact absurd HA.out (by simp [schismalaw04_ints.l0])
   | succ k1 =>
    have H := HA.out
    clear HA
    simp only [schismalaw04_ints.l0] at H
    by_cases c4 : x5_1 < (l0.length : Int)
    ·rw [if_pos c4] at H
     have c4b0 : decide (x5_1 < (l0.length : Int)) = true := decide_eq_true c4
     clear c4
     by_cases c5 : 0 ≤ x5_1
     ·rw [if_pos c5] at H
      have c5b0 : decide (0 ≤ x5_1) = true := decide_eq_true c5
      clear c5
      by_cases c6 : x5_1 < (l1.length : Int)
      ·rw [if_pos c6] at H
       have c6b0 : decide (x5_1 < (l1.length : Int)) = true := decide_eq_true c6
       clear c6
       replace H := Option.bind_eq_some_iff.mp H
       obtain ⟨t176, A70, H⟩ := H
       replace H : (if (rdOf ByteArray.empty l0 x5_1).toList = t176.toList then (schismalaw04_ints.l0 k1 l0 l1 (wrap64 (x5_1 + 1))) else (some false)) = some r := H
       have A7 := Aside0.mk A70
       clear A70
       by_cases c8 : (rdOf ByteArray.empty l0 x5_1).toList = t176.toList
       ·rw [if_pos c8] at H
        have c8b0 : ((rdOf ByteArray.empty l0 x5_1).toList == t176.toList) = true := beq_iff_eq.mpr c8
        have c8b1 : ((rdOf ByteArray.empty l0 x5_1).toList != t176.toList) = false := bne_eq_false_iff_eq.mpr c8
        clear c8
        have H' := Aside0.mk H
        clear H
        try go_wp2
        have n0_ := Aside0.mk (below_drew1 HB.out)
        clear HB
        have HB := n0_
        clear n0_
        have p174 : 0 ≤ (x5_1 : Int) := of_decide_eq_true (by first | (with_reducible assumption) | assumption)
        have q174 : x5_1 < (l0.length : Int) := of_decide_eq_true (by first | (with_reducible assumption) | assumption)
        obtain ⟨ad174, e174, hx174_0⟩ := Kd.at_string HR0.out x5_1 p174 q174
        have hw174_0 := hx174_0
        cases e174
        replace hx174_0 := (HB.out.cell (World.block_lt_of_cell? w _ hx174_0)).trans hx174_0
        replace p174 := eq_true p174
        replace q174 := eq_true q174
        have p175 : 0 ≤ (x5_1 : Int) := of_decide_eq_true (by first | (with_reducible assumption) | assumption)
        have q175 : x5_1 < (l1.length : Int) := of_decide_eq_true (by first | (with_reducible assumption) | assumption)
        obtain ⟨ad175, e175, hx175_0⟩ := Kd.at_int HR1.out x5_1 p175 q175
        have hw175_0 := hx175_0
        cases e175
        replace hx175_0 := (HB.out.cell (World.block_lt_of_cell? w _ hx175_0)).trans hx175_0
        replace p175 := eq_true p175
        replace q175 := eq_true q175
        refine start_ (n := 10) (S := fun w' => w'.cell? (ad174.add (x5_1).toNat) = some (.string (rdOf ByteArray.empty l0 x5_1)) ∧ w'.cell? (ad175.add (x5_1).toNat) = some (.int .i64 (rd l1 x5_1))) (ds := []) #[false, false, false, false, false, false, false, false, false, false] (by kernel_rfl) rfl rfl ⟨((HB.out.cell (World.block_lt_of_cell? w _ hw174_0)).trans hw174_0), ((HB.out.cell (World.block_lt_of_cell? w _ hw175_0)).trans hw175_0)⟩ (fun hHeld => ?_); refine with_tabW schismalaw04_ints.tab6 schismalaw04_ints.bits6 (fun HT_ HW_ => ?_)
        generalize wr.drew = w9 at HB hx174_0 hx175_0 hHeld ⊢
        refine pure_ (i := 0) (N := some 17) (v := ?_) (a' := ?_) #[true, false, false, false, false, false, false, false, false, false] rfl rfl (any_of HT_.out (by kernel_rfl)) (fun _ _ _ h => h) (Or.inl ⟨by rfl, ?_⟩) ?_ ?_
        rotate_left
        ·intro w'
         go_simp
         with_reducible rfl
        rotate_left
        ·simp only [Act.put, List.setIfInBounds_toArray, List.set_cons_zero, List.set_cons_succ, i64_w, i32_w]
         rfl
        refine pure_ (i := 1) (N := some 18) (v := ?_) (a' := ?_) #[true, true, false, false, false, false, false, false, false, false] rfl rfl (any_of HT_.out (by kernel_rfl)) (fun _ _ _ h => h) (Or.inl ⟨by rfl, ?_⟩) ?_ ?_
        rotate_left
        ·intro w'
         go_simp
         with_reducible rfl
        rotate_left
        ·simp only [Act.put, List.setIfInBounds_toArray, List.set_cons_zero, List.set_cons_succ, i64_w, i32_w]
         rfl
        refine pure_ (i := 2) (N := some 19) (v := ?_) (a' := ?_) #[true, true, true, false, false, false, false, false, false, false] rfl rfl (any_of HT_.out (by kernel_rfl)) (fun _ _ _ h => h) (Or.inl ⟨by rfl, ?_⟩) ?_ ?_
        rotate_left
        ·intro w'
         go_simp
         with_reducible rfl
        rotate_left
        ·simp only [Act.put, List.setIfInBounds_toArray, List.set_cons_zero, List.set_cons_succ, i64_w, i32_w]
         rfl
        refine pure_ (i := 4) (N := some 21) (v := ?_) (a' := ?_) #[true, true, true, false, true, false, false, false, false, false] rfl rfl (any_of HT_.out (by kernel_rfl)) (fun _ _ _ h => h) (Or.inl ⟨by rfl, ?_⟩) ?_ ?_
        rotate_left
        ·intro w'
         go_simp
         with_reducible rfl
        rotate_left
        ·simp only [Act.put, List.setIfInBounds_toArray, List.set_cons_zero, List.set_cons_succ, i64_w, i32_w]
         rfl
        refine pure_ (i := 5) (N := some 22) (v := ?_) (a' := ?_) #[true, true, true, false, true, true, false, false, false, false] rfl rfl (any_of HT_.out (by kernel_rfl)) (fun _ _ _ h => h) (Or.inl ⟨by rfl, ?_⟩) ?_ ?_
        rotate_left
        ·intro w'
         go_simp
         with_reducible rfl
        rotate_left
        ·simp only [Act.put, List.setIfInBounds_toArray, List.set_cons_zero, List.set_cons_succ, i64_w, i32_w]
         rfl
        refine pure_ (i := 6) (N := some 23) (v := ?_) (a' := ?_) #[true, true, true, false, true, true, true, false, false, false] rfl rfl (any_of HT_.out (by kernel_rfl)) (fun _ _ _ h => h) (Or.inl ⟨by rfl, ?_⟩) ?_ ?_
        rotate_left
        ·intro w'
         go_simp
         with_reducible rfl
        rotate_left
        ·simp only [Act.put, List.setIfInBounds_toArray, List.set_cons_zero, List.set_cons_succ, i64_w, i32_w]
         rfl
        refine take_ (i := 3) (N := some 20) (v := ?_) (a' := ?_) #[true, true, true, true, true, true, true, false, false, false] rfl rfl (take_ofW HT_.out HW_.out (by kernel_rfl)) (fun _ _ _ h => h) (Or.inl ⟨by rfl, ?_⟩) hHeld ?_ ?_
        rotate_left
        ·rintro w' ⟨s0, s1⟩
         go_simp
         with_reducible rfl
        rotate_left
        ·simp only [Act.put, List.setIfInBounds_toArray, List.set_cons_zero, List.set_cons_succ, i64_w, i32_w]
         rfl
        refine take_ (i := 7) (N := some 24) (v := ?_) (a' := ?_) #[true, true, true, true, true, true, true, true, false, false] rfl rfl (take_ofW HT_.out HW_.out (by kernel_rfl)) (fun _ _ _ h => h) (Or.inl ⟨by rfl, ?_⟩) hHeld ?_ ?_
        rotate_left
        ·rintro w' ⟨s0, s1⟩
         go_simp
         with_reducible rfl
        rotate_left
        ·simp only [Act.put, List.setIfInBounds_toArray, List.set_cons_zero, List.set_cons_succ, i64_w, i32_w]
         rfl
        refine one_ (i := 8) (N := some 25) #[true, true, true, true, true, true, true, true, true, false] rfl rfl (one_of HT_.out (by kernel_rfl)) (by decide) (fun K hK => ?_)
        refine goes_ Tryz.func45 (by kernel_rfl) rfl #[.int .i64 (rd l1 x5_1)] (by rfl) rfl rfl mp_ ?_
        with_reducible refine (schismaref04_Of.calls k1 (rd l1 x5_1) t176 _ A7.out).mono ?_
        rintro e w10 ⟨rfl, hb⟩
        refine ⟨_, rfl, ?_⟩
        have n0_ := bs_ hb
        clear HB
        have HB := n0_
        clear n0_
        (try clear hb); (try clear hb2); (try clear hk); (try clear hi)
        refine hK.out _ _ ⟨((HB.out.cell (World.block_lt_of_cell? w _ hw174_0)).trans hw174_0), ((HB.out.cell (World.block_lt_of_cell? w _ hw175_0)).trans hw175_0)⟩ (fun hHeld => ?_)
        clear hK K
        refine norm_ (a' := ?_) ?_ ?_
        rotate_left
        ·show Act.put _ (some 25) _ = _
         simp only [Act.put, List.setIfInBounds_toArray, List.set_cons_zero, List.set_cons_succ, i64_w, i32_w]
         rfl
        refine pure_ (i := 9) (N := some 26) (v := ?_) (a' := ?_) #[true, true, true, true, true, true, true, true, true, true] rfl rfl (any_of HT_.out (by kernel_rfl)) (fun _ _ _ h => h) (Or.inl ⟨by rfl, ?_⟩) ?_ ?_
        rotate_left
        ·intro w'
         go_simp
         with_reducible rfl
        rotate_left
        ·simp only [Act.put, List.setIfInBounds_toArray, List.set_cons_zero, List.set_cons_succ, i64_w, i32_w]
         rfl
        refine done_ (done_of HT_.out (by kernel_rfl)) ?_
        try go_wp2
        go_roundg k1
        case measure => have := HK1.out; omega
        case rel => exact ⟨(wrap64 (x5_1 + 1)), (by first | rfl | (simp; done) | (simp [*]; done)), H', ⟨by have := HK1.out; omega⟩, ⟨bl_⟩⟩
       ·rw [if_neg c8] at H
        have c8b0 : ((rdOf ByteArray.empty l0 x5_1).toList == t176.toList) = false := beq_eq_false_iff_ne.mpr c8
        have c8b1 : ((rdOf ByteArray.empty l0 x5_1).toList != t176.toList) = true := bne_iff_ne.mpr c8
        obtain rfl := Option.some.inj H
        try go_wp2
        have n0_ := Aside0.mk (below_drew1 HB.out)
        clear HB
        have HB := n0_
        clear n0_
        have p174 : 0 ≤ (x5_1 : Int) := of_decide_eq_true (by first | (with_reducible assumption) | assumption)
        have q174 : x5_1 < (l0.length : Int) := of_decide_eq_true (by first | (with_reducible assumption) | assumption)
        obtain ⟨ad174, e174, hx174_0⟩ := Kd.at_string HR0.out x5_1 p174 q174
        have hw174_0 := hx174_0
        cases e174
        replace hx174_0 := (HB.out.cell (World.block_lt_of_cell? w _ hx174_0)).trans hx174_0
        replace p174 := eq_true p174
        replace q174 := eq_true q174
        have p175 : 0 ≤ (x5_1 : Int) := of_decide_eq_true (by first | (with_reducible assumption) | assumption)
        have q175 : x5_1 < (l1.length : Int) := of_decide_eq_true (by first | (with_reducible assumption) | assumption)
        obtain ⟨ad175, e175, hx175_0⟩ := Kd.at_int HR1.out x5_1 p175 q175
        have hw175_0 := hx175_0
        cases e175
        replace hx175_0 := (HB.out.cell (World.block_lt_of_cell? w _ hx175_0)).trans hx175_0
        replace p175 := eq_true p175
        replace q175 := eq_true q175
        refine start_ (n := 10) (S := fun w' => w'.cell? (ad174.add (x5_1).toNat) = some (.string (rdOf ByteArray.empty l0 x5_1)) ∧ w'.cell? (ad175.add (x5_1).toNat) = some (.int .i64 (rd l1 x5_1))) (ds := []) #[false, false, false, false, false, false, false, false, false, false] (by kernel_rfl) rfl rfl ⟨((HB.out.cell (World.block_lt_of_cell? w _ hw174_0)).trans hw174_0), ((HB.out.cell (World.block_lt_of_cell? w _ hw175_0)).trans hw175_0)⟩ (fun hHeld => ?_); refine with_tabW schismalaw04_ints.tab6 schismalaw04_ints.bits6 (fun HT_ HW_ => ?_)
        generalize wr.drew = w11 at HB hx174_0 hx175_0 hHeld ⊢
        refine pure_ (i := 0) (N := some 17) (v := ?_) (a' := ?_) #[true, false, false, false, false, false, false, false, false, false] rfl rfl (any_of HT_.out (by kernel_rfl)) (fun _ _ _ h => h) (Or.inl ⟨by rfl, ?_⟩) ?_ ?_
        rotate_left
        ·intro w'
         go_simp
         with_reducible rfl
        rotate_left
        ·simp only [Act.put, List.setIfInBounds_toArray, List.set_cons_zero, List.set_cons_succ, i64_w, i32_w]
         rfl
        refine pure_ (i := 1) (N := some 18) (v := ?_) (a' := ?_) #[true, true, false, false, false, false, false, false, false, false] rfl rfl (any_of HT_.out (by kernel_rfl)) (fun _ _ _ h => h) (Or.inl ⟨by rfl, ?_⟩) ?_ ?_
        rotate_left
        ·intro w'
         go_simp
         with_reducible rfl
        rotate_left
        ·simp only [Act.put, List.setIfInBounds_toArray, List.set_cons_zero, List.set_cons_succ, i64_w, i32_w]
         rfl
        refine pure_ (i := 2) (N := some 19) (v := ?_) (a' := ?_) #[true, true, true, false, false, false, false, false, false, false] rfl rfl (any_of HT_.out (by kernel_rfl)) (fun _ _ _ h => h) (Or.inl ⟨by rfl, ?_⟩) ?_ ?_
        rotate_left
        ·intro w'
         go_simp
         with_reducible rfl
        rotate_left
        ·simp only [Act.put, List.setIfInBounds_toArray, List.set_cons_zero, List.set_cons_succ, i64_w, i32_w]
         rfl
        refine pure_ (i := 4) (N := some 21) (v := ?_) (a' := ?_) #[true, true, true, false, true, false, false, false, false, false] rfl rfl (any_of HT_.out (by kernel_rfl)) (fun _ _ _ h => h) (Or.inl ⟨by rfl, ?_⟩) ?_ ?_
        rotate_left
        ·intro w'
         go_simp
         with_reducible rfl
        rotate_left
        ·simp only [Act.put, List.setIfInBounds_toArray, List.set_cons_zero, List.set_cons_succ, i64_w, i32_w]
         rfl
        refine pure_ (i := 5) (N := some 22) (v := ?_) (a' := ?_) #[true, true, true, false, true, true, false, false, false, false] rfl rfl (any_of HT_.out (by kernel_rfl)) (fun _ _ _ h => h) (Or.inl ⟨by rfl, ?_⟩) ?_ ?_
        rotate_left
        ·intro w'
         go_simp
         with_reducible rfl
        rotate_left
        ·simp only [Act.put, List.setIfInBounds_toArray, List.set_cons_zero, List.set_cons_succ, i64_w, i32_w]
         rfl
        refine pure_ (i := 6) (N := some 23) (v := ?_) (a' := ?_) #[true, true, true, false, true, true, true, false, false, false] rfl rfl (any_of HT_.out (by kernel_rfl)) (fun _ _ _ h => h) (Or.inl ⟨by rfl, ?_⟩) ?_ ?_
        rotate_left
        ·intro w'
         go_simp
         with_reducible rfl
        rotate_left
        ·simp only [Act.put, List.setIfInBounds_toArray, List.set_cons_zero, List.set_cons_succ, i64_w, i32_w]
         rfl
        refine take_ (i := 3) (N := some 20) (v := ?_) (a' := ?_) #[true, true, true, true, true, true, true, false, false, false] rfl rfl (take_ofW HT_.out HW_.out (by kernel_rfl)) (fun _ _ _ h => h) (Or.inl ⟨by rfl, ?_⟩) hHeld ?_ ?_
        rotate_left
        ·rintro w' ⟨s0, s1⟩
         go_simp
         with_reducible rfl
        rotate_left
        ·simp only [Act.put, List.setIfInBounds_toArray, List.set_cons_zero, List.set_cons_succ, i64_w, i32_w]
         rfl
        refine take_ (i := 7) (N := some 24) (v := ?_) (a' := ?_) #[true, true, true, true, true, true, true, true, false, false] rfl rfl (take_ofW HT_.out HW_.out (by kernel_rfl)) (fun _ _ _ h => h) (Or.inl ⟨by rfl, ?_⟩) hHeld ?_ ?_
        rotate_left
        ·rintro w' ⟨s0, s1⟩
         go_simp
         with_reducible rfl
        rotate_left
        ·simp only [Act.put, List.setIfInBounds_toArray, List.set_cons_zero, List.set_cons_succ, i64_w, i32_w]
         rfl
        refine one_ (i := 8) (N := some 25) #[true, true, true, true, true, true, true, true, true, false] rfl rfl (one_of HT_.out (by kernel_rfl)) (by decide) (fun K hK => ?_)
        refine goes_ Tryz.func45 (by kernel_rfl) rfl #[.int .i64 (rd l1 x5_1)] (by rfl) rfl rfl mp_ ?_
        with_reducible refine (schismaref04_Of.calls k1 (rd l1 x5_1) t176 _ A7.out).mono ?_
        rintro e w12 ⟨rfl, hb⟩
        refine ⟨_, rfl, ?_⟩
        have n0_ := bs_ hb
        clear HB
        have HB := n0_
        clear n0_
        (try clear hb); (try clear hb2); (try clear hk); (try clear hi)
        refine hK.out _ _ ⟨((HB.out.cell (World.block_lt_of_cell? w _ hw174_0)).trans hw174_0), ((HB.out.cell (World.block_lt_of_cell? w _ hw175_0)).trans hw175_0)⟩ (fun hHeld => ?_)
        clear hK K
        refine norm_ (a' := ?_) ?_ ?_
        rotate_left
        ·show Act.put _ (some 25) _ = _
         simp only [Act.put, List.setIfInBounds_toArray, List.set_cons_zero, List.set_cons_succ, i64_w, i32_w]
         rfl
        refine pure_ (i := 9) (N := some 26) (v := ?_) (a' := ?_) #[true, true, true, true, true, true, true, true, true, true] rfl rfl (any_of HT_.out (by kernel_rfl)) (fun _ _ _ h => h) (Or.inl ⟨by rfl, ?_⟩) ?_ ?_
        rotate_left
        ·intro w'
         go_simp
         with_reducible rfl
        rotate_left
        ·simp only [Act.put, List.setIfInBounds_toArray, List.set_cons_zero, List.set_cons_succ, i64_w, i32_w]
         rfl
        refine done_ (done_of HT_.out (by kernel_rfl)) ?_
        try go_wp2
        go_ret
        exact ⟨er_, bl_⟩
      ·rw [if_neg c6] at H
       exact absurd H (by simp)
     ·rw [if_neg c5] at H
      exact absurd H (by simp)
    ·rw [if_neg c4] at H
     have c4b0 : decide (x5_1 < (l0.length : Int)) = false := decide_eq_false c4
     clear c4
     obtain rfl := Option.some.inj H
     go_wp2
     go_ret
     exact ⟨er_, bl_⟩
 ·rw [if_neg c3] at H
  have c3b0 : ((l0.length : Int) == (l1.length : Int)) = false := beq_eq_false_iff_ne.mpr c3
  have c3b1 : ((l0.length : Int) != (l1.length : Int)) = true := bne_iff_ne.mpr c3
  have c3b2 : (l0.length == l1.length) = false := by first | simpa using c3 | (simp at c3 ⊢; omega)
  obtain rfl := Option.some.inj H
  go_enter Tryz.func22, Tryz.ntmps22
  go_wp2
  go_ret
  exact ⟨er_, bl_⟩
def schismalaw04_same.l0 : Nat → List (S24) → List (S24) → Int → Option (Bool)
 | 0, _, _, _ => none
 | k + 1, x0, x1, x5 => if x5 < (x0.length : Int) then (if 0 ≤ x5 then (if x5 < (x1.length : Int) then (if (!((((rd_T24 x0 x5).f0).toList) == (((rd_T24 x1 x5).f0).toList)) || (!((((rd_T24 x0 x5).f1).toList) == (((rd_T24 x1 x5).f1).toList)))) = true then (some false) else (schismalaw04_same.l0 k x0 x1 (wrap64 (x5 + 1)))) else (none)) else (none)) else (some true)
def schismalaw04_same.f (k : Nat) (l0 : List (S24)) (l1 : List (S24)) : Option (Bool) := if (l0.length : Int) = (l1.length : Int) then (schismalaw04_same.l0 k l0 l1 0) else (some false)
set_option maxHeartbeats 8000000 in
set_option maxRecDepth 100000 in
theorem schismalaw04_same.calls (k : Nat) (A0 : Option Addr) (c0 : Nat) (l0 : List (S24)) (A1 : Option Addr) (c1 : Nat) (l1 : List (S24)) (r : Bool) (w : World) (hr0 : Kd.C k24 w A0 l0.length l0) (hc0 : l0.length ≤ c0) (hr1 : Kd.C k24 w A1 l1.length l1) (hc1 : l1.length ≤ c1) (h : schismalaw04_same.f k l0 l1 = some r) :
  Calls Tryz.prog 23 #[.slice A0 l0.length c0, .slice A1 l1.length c1] w fun e w' => e = .returned (.bool r) ∧ Drawn0 w w' := by
 have hu24 := Tryz.underlying24
 have HR0 := Aside0.mk hr0
 have HC0 := Aside0.mk hc0
 clear hr0 hc0
 have HR1 := Aside0.mk hr1
 have HC1 := Aside0.mk hc1
 clear hr1 hc1
 have H : (if (l0.length : Int) = (l1.length : Int) then (schismalaw04_same.l0 k l0 l1 0) else (some false)) = some r := h
 clear h
 by_cases c3 : (l0.length : Int) = (l1.length : Int)
 ·rw [if_pos c3] at H
  have c3b0 : ((l0.length : Int) == (l1.length : Int)) = true := beq_iff_eq.mpr c3
  have c3b1 : ((l0.length : Int) != (l1.length : Int)) = false := bne_eq_false_iff_eq.mpr c3
  have c3b2 : (l0.length == l1.length) = true := by first | simpa using c3 | (simp at c3 ⊢; omega)
  clear c3
  have H' := Aside0.mk H
  clear H
  go_enter Tryz.func23, Tryz.ntmps23
  go_wp2
  repeat (go_quiet (fail); try go_wp2)
  go_loopg [5] k (fun kq v5 w' => ∃ (x5_1 : Int), v5 = .int .i64 x5_1 ∧ Aside0 (schismalaw04_same.l0 kq l0 l1 x5_1 = some r) ∧ Aside0 (kq ≤ k) ∧ Drawn0 w w')
  case atStart => exact ⟨(0), (by first | rfl | (simp; done) | (simp [*]; done)), H', ⟨Nat.le_refl _⟩, by repeat (first | exact Drawn0.refl _ | apply Drawn0.step)⟩
  case round =>
   clear H'
   try clear c1
   try clear c2
   try clear p2
   try clear c3
   try clear c3b0
   try clear c3b1
   try clear c3b2
   obtain ⟨x5_1, rfl, HA, HK1, ⟨m1, rfl⟩⟩ := hrel
   cases gk with
   | zero => exact absurd HA.out (by simp [schismalaw04_same.l0])
   | succ k1 =>
    have H := HA.out
    clear HA
    simp only [schismalaw04_same.l0] at H
    by_cases c4 : x5_1 < (l0.length : Int)
    ·rw [if_pos c4] at H
     have c4b0 : decide (x5_1 < (l0.length : Int)) = true := decide_eq_true c4
     clear c4
     by_cases c5 : 0 ≤ x5_1
     ·rw [if_pos c5] at H
      have c5b0 : decide (0 ≤ x5_1) = true := decide_eq_true c5
      clear c5
      by_cases c6 : x5_1 < (l1.length : Int)
      ·rw [if_pos c6] at H
       have c6b0 : decide (x5_1 < (l1.length : Int)) = true := decide_eq_true c6
       clear c6
       by_cases c7 : (!((((rd_T24 l0 x5_1).f0).toList) == (((rd_T24 l1 x5_1).f0).toList)) || (!((((rd_T24 l0 x5_1).f1).toList) == (((rd_T24 l1 x5_1).f1).toList)))) = true
       ·rw [if_pos c7] at H
        have c7b0 : (!((((rd_T24 l0 x5_1).f0).toList) == (((rd_T24 l1 x5_1).f0).toList)) || (!((((rd_T24 l0 x5_1).f1).toList) == (((rd_T24 l1 x5_1).f1).toList)))) = true := c7
        clear c7
        obtain rfl := Option.some.inj H
        have p177 : 0 ≤ (x5_1 : Int) := of_decide_eq_true (by first | (with_reducible assumption) | assumption)
        have q177 : x5_1 < (l0.length : Int) := of_decide_eq_true (by first | (with_reducible assumption) | assumption)
        obtain ⟨ad177, e177, hx177_0, hx177_1⟩ := at_T24 HR0.out x5_1 p177 q177
        cases e177
        replace p177 := eq_true p177
        replace q177 := eq_true q177
        have p178 : 0 ≤ (x5_1 : Int) := of_decide_eq_true (by first | (with_reducible assumption) | assumption)
        have q178 : x5_1 < (l1.length : Int) := of_decide_eq_true (by first | (with_reducible assumption) | assumption)
        obtain ⟨ad178, e178, hx178_0, hx178_1⟩ := at_T24 HR1.out x5_1 p178 q178
        cases e178
        replace p178 := eq_true p178
        replace q178 := eq_true q178
        go_wp2
        repeat (go_quiet (fail); try go_wp2)
        go_ret
        exact ⟨by first | rfl | (simp; done) | (simp [*]; done), by repeat (first | exact Drawn0.refl _ | apply Drawn0.step)⟩
       ·rw [if_neg c7] at H
        have c7b0 : (!((((rd_T24 l0 x5_1).f0).toList) == (((rd_T24 l1 x5_1).f0).toList)) || (!((((rd_T24 l0 x5_1).f1).toList) == (((rd_T24 l1 x5_1).f1).toList)))) = false := by simpa using c7
        clear c7
        have H' := Aside0.mk H
        clear H
        have p177 : 0 ≤ (x5_1 : Int) := of_decide_eq_true (by first | (with_reducible assumption) | assumption)
        have q177 : x5_1 < (l0.length : Int) := of_decide_eq_true (by first | (with_reducible assumption) | assumption)
        obtain ⟨ad177, e177, hx177_0, hx177_1⟩ := at_T24 HR0.out x5_1 p177 q177
        cases e177
        replace p177 := eq_true p177
        replace q177 := eq_true q177
        have p178 : 0 ≤ (x5_1 : Int) := of_decide_eq_true (by first | (with_reducible assumption) | assumption)
        have q178 : x5_1 < (l1.length : Int) := of_decide_eq_true (by first | (with_reducible assumption) | assumption)
        obtain ⟨ad178, e178, hx178_0, hx178_1⟩ := at_T24 HR1.out x5_1 p178 q178
        cases e178
        replace p178 := eq_true p178
        replace q178 := eq_true q178
        go_wp2
        repeat (go_quiet (fail); try go_wp2)
        go_roundg k1
        case measure => have := HK1.out; omega
        case rel => exact ⟨(wrap64 (x5_1 + 1)), (by first | rfl | (simp; done) | (simp [*]; done)), H', ⟨by have := HK1.out; omega⟩, by repeat (first | exact Drawn0.refl _ | apply Drawn0.step)⟩
      ·rw [if_neg c6] at H
       exact absurd H (by simp)
     ·rw [if_neg c5] at H
      exact absurd H (by simp)
    ·rw [if_neg c4] at H
     have c4b0 : decide (x5_1 < (l0.length : Int)) = false := decide_eq_false c4
     clear c4
     obtain rfl := Option.some.inj H
     go_wp2
     repeat (go_quiet (fail); try go_wp2)
     go_ret
     exact ⟨by first | rfl | (simp; done) | (simp [*]; done), by repeat (first | exact Drawn0.refl _ | apply Drawn0.step)⟩
 ·rw [if_neg c3] at H
  have c3b0 : ((l0.length : Int) == (l1.length : Int)) = false := beq_eq_false_iff_ne.mpr c3
  have c3b1 : ((l0.length : Int) != (l1.length : Int)) = true := bne_iff_ne.mpr c3
  have c3b2 : (l0.length == l1.length) = false := by first | simpa using c3 | (simp at c3 ⊢; omega)
  obtain rfl := Option.some.inj H
  go_enter Tryz.func23, Tryz.ntmps23
  go_wp2
  repeat (go_quiet (fail); try go_wp2)
  go_ret
  exact ⟨by first | rfl | (simp; done) | (simp [*]; done), by repeat (first | exact Drawn0.refl _ | apply Drawn0.step)⟩
def convergent_bounded.f (k : Nat) (a0_0 : ByteArray) (a0_1 : ByteArray) (a1 : Int) : Option (Int) := (convergent_wrong.f k a0_0 a0_1).bind fun t180 => (if t180 = true then (some 2) else (if a1 < 1 then (some 3) else (if a1 > 1000000 then (some 3) else (some 0))))
set_option maxHeartbeats 8000000 in
set_option maxRecDepth 100000 in
theorem convergent_bounded.calls (k : Nat) (a0_0 : ByteArray) (a0_1 : ByteArray) (a1 : Int) (r : Int) (w : World) (hG_ : GWorld w) (h : convergent_bounded.f k a0_0 a0_1 a1 = some r) :
  Calls Tryz.prog 51 #[.agg #[.string a0_0, .string a0_1], .int .i64 a1] w fun e w' => e = .returned (.int .i64 r) ∧ Below w.heap.size w w' := by
 have hu24 := Tryz.underlying24
 have HB := Aside0.mk (Below.refl w.heap.size w)
 have HG := Aside0.mk hG_
 clear hG_
 have H : ((convergent_wrong.f k a0_0 a0_1).bind fun t180 => (if t180 = true then (some 2) else (if a1 < 1 then (some 3) else (if a1 > 1000000 then (some 3) else (some 0))))) = some r := h
 clear h
 replace H := Option.bind_eq_some_iff.mp H
 obtain ⟨t180, A30, H⟩ := H
 replace H : (if t180 = true then (some 2) else (if a1 < 1 then (some 3) else (if a1 > 1000000 then (some 3) else (some 0)))) = some r := H
 have A3 := Aside0.mk A30
 clear A30
 by_cases c4 : t180 = true
 ·subst c4
  have H1 : (some 2) = some r := by rw [if_pos rfl] at H; exact H
  clear H
  have H := H1
  clear H1
  obtain rfl := Option.some.inj H
  go_enter Tryz.func51, Tryz.ntmps51
  go_wp2_with (first | ((with_reducible refine gate_dst (N := 2) rfl ?_); refine bx_ 2 #[.string a0_0, .string a0_1] 24 ?_; clear HB; intro gb179 w5 BK179 GW179 HB; have GE179 := GW179; obtain ⟨hcz6_0, hcz6_1, hfz6_0, hfz6_1⟩ := c2_ BK179) | ((with_reducible refine gate_callee (f := 40) rfl ?_); refine goesL_ (some 7) rfl rfl Tryz.func40 (by kernel_rfl) rfl #[.agg #[.string a0_0, .string a0_1]] rfl mp_ ?_; (with_reducible refine (convergent_wrong.calls k a0_0 a0_1 true _ ?side1 A3.out).mono ?_); (case side1 => exact gw_ HG); rintro e w7 ⟨rfl, hb⟩; refine ⟨_, rfl, ?_⟩; replace BK179 := kb_ BK179 hb; replace HB := bs_ hb; (try clear hb); (try clear hb2); (try clear hk); (try clear hi)))
  go_ret
  exact ⟨er_, bl_⟩
 ·replace c4 := Bool.eq_false_iff.mpr c4
  subst c4
  have H1 : (if a1 < 1 then (some 3) else (if a1 > 1000000 then (some 3) else (some 0))) = some r := by rw [if_neg (show ¬ (false = true) by decide)] at H; exact H
  clear H
  have H := H1
  clear H1
  by_cases c8 : a1 < 1
  ·rw [if_pos c8] at H
   have c8b0 : decide (a1 < 1) = true := decide_eq_true c8
   clear c8
   obtain rfl := Option.some.inj H
   go_enter Tryz.func51, Tryz.ntmps51
   go_wp2_with (first | ((with_reducible refine gate_dst (N := 2) rfl ?_); refine bx_ 2 #[.string a0_0, .string a0_1] 24 ?_; clear HB; intro gb179 w9 BK179 GW179 HB; have GE179 := GW179; obtain ⟨hcz10_0, hcz10_1, hfz10_0, hfz10_1⟩ := c2_ BK179) | ((with_reducible refine gate_callee (f := 40) rfl ?_); refine goesL_ (some 7) rfl rfl Tryz.func40 (by kernel_rfl) rfl #[.agg #[.string a0_0, .string a0_1]] rfl mp_ ?_; (with_reducible refine (convergent_wrong.calls k a0_0 a0_1 false _ ?side1 A3.out).mono ?_); (case side1 => exact gw_ HG); rintro e w11 ⟨rfl, hb⟩; refine ⟨_, rfl, ?_⟩; replace BK179 := kb_ BK179 hb; replace HB := bs_ hb; (try clear hb); (try clear hb2); (try clear hk); (try clear hi)))
   go_ret
   exact ⟨er_, bl_⟩
  ·rw [if_neg c8] at H
   have c8b0 : decide (a1 < 1) = false := decide_eq_false c8
   clear c8
   by_cases c12 : a1 > 1000000
   ·rw [if_pos c12] at H
    have c12b0 : decide (1000000 < a1) = true := decide_eq_true c12
    clear c12
    obtain rfl := Option.some.inj H
    go_enter Tryz.func51, Tryz.ntmps51
    go_wp2_with (first | ((with_reducible refine gate_dst (N := 2) rfl ?_); refine bx_ 2 #[.string a0_0, .string a0_1] 24 ?_; clear HB; intro gb179 w13 BK179 GW179 HB; have GE179 := GW179; obtain ⟨hcz14_0, hcz14_1, hfz14_0, hfz14_1⟩ := c2_ BK179) | ((with_reducible refine gate_callee (f := 40) rfl ?_); refine goesL_ (some 7) rfl rfl Tryz.func40 (by kernel_rfl) rfl #[.agg #[.string a0_0, .string a0_1]] rfl mp_ ?_; (with_reducible refine (convergent_wrong.calls k a0_0 a0_1 false _ ?side1 A3.out).mono ?_); (case side1 => exact gw_ HG); rintro e w15 ⟨rfl, hb⟩; refine ⟨_, rfl, ?_⟩; replace BK179 := kb_ BK179 hb; replace HB := bs_ hb; (try clear hb); (try clear hb2); (try clear hk); (try clear hi)))
    go_ret
    exact ⟨er_, bl_⟩
   ·rw [if_neg c12] at H
    have c12b0 : decide (1000000 < a1) = false := decide_eq_false c12
    clear c12
    obtain rfl := Option.some.inj H
    go_enter Tryz.func51, Tryz.ntmps51
    go_wp2_with (first | ((with_reducible refine gate_dst (N := 2) rfl ?_); refine bx_ 2 #[.string a0_0, .string a0_1] 24 ?_; clear HB; intro gb179 w16 BK179 GW179 HB; have GE179 := GW179; obtain ⟨hcz17_0, hcz17_1, hfz17_0, hfz17_1⟩ := c2_ BK179) | ((with_reducible refine gate_callee (f := 40) rfl ?_); refine goesL_ (some 7) rfl rfl Tryz.func40 (by kernel_rfl) rfl #[.agg #[.string a0_0, .string a0_1]] rfl mp_ ?_; (with_reducible refine (convergent_wrong.calls k a0_0 a0_1 false _ ?side1 A3.out).mono ?_); (case side1 => exact gw_ HG); rintro e w18 ⟨rfl, hb⟩; refine ⟨_, rfl, ?_⟩; replace BK179 := kb_ BK179 hb; replace HB := bs_ hb; (try clear hb); (try clear hb2); (try clear hk); (try clear hi)))
    go_ret
    exact ⟨er_, bl_⟩
def whole_Compare.f (a0 : ByteArray) (a1 : ByteArray) : Option (Int) := (whole_Sign.f a0).bind fun t181 => ((whole_Sign.f a1).bind fun t182 => (if t181 = t182 then ((whole_split.f a0).bind fun bt183 => ((whole_split.f a1).bind fun bt185 => (if bt183.1 = true then ((decimal_Compare.f bt185.2 bt183.2).bind fun t187 => (some t187)) else ((decimal_Compare.f bt183.2 bt185.2).bind fun t188 => (some t188))))) else (if t181 < t182 then (some (-1)) else (some 1))))
set_option maxHeartbeats 8000000 in
set_option maxRecDepth 100000 in
theorem whole_Compare.calls (a0 : ByteArray) (a1 : ByteArray) (r : Int) (w : World) (h : whole_Compare.f a0 a1 = some r) :
  Calls Tryz.prog 58 #[.string a0, .string a1] w fun e w' => e = .returned (.int .i64 r) ∧ Below w.heap.size w w' := by
 have HB := Aside0.mk (Below.refl w.heap.size w)
 have H : ((whole_Sign.f a0).bind fun t181 => ((whole_Sign.f a1).bind fun t182 => (if t181 = t182 then ((whole_split.f a0).bind fun bt183 => ((whole_split.f a1).bind fun bt185 => (if bt183.1 = true then ((decimal_Compare.f bt185.2 bt183.2).bind fun t187 => (some t187)) else ((decimal_Compare.f bt183.2 bt185.2).bind fun t188 => (some t188))))) else (if t181 < t182 then (some (-1)) else (some 1))))) = some r := h
 clear h
 replace H := Option.bind_eq_some_iff.mp H
 obtain ⟨t181, A30, H⟩ := H
 replace H : ((whole_Sign.f a1).bind fun t182 => (if t181 = t182 then ((whole_split.f a0).bind fun bt183 => ((whole_split.f a1).bind fun bt185 => (if bt183.1 = true then ((decimal_Compare.f bt185.2 bt183.2).bind fun t187 => (some t187)) else ((decimal_Compare.f bt183.2 bt185.2).bind fun t188 => (some t188))))) else (if t181 < t182 then (some (-1)) else (some 1)))) = some r := H
 have A3 := Aside0.mk A30
 clear A30
 replace H := Option.bind_eq_some_iff.mp H
 obtain ⟨t182, A40, H⟩ := H
 replace H : (if t181 = t182 then ((whole_split.f a0).bind fun bt183 => ((whole_split.f a1).bind fun bt185 => (if bt183.1 = true then ((decimal_Compare.f bt185.2 bt183.2).bind fun t187 => (some t187)) else ((decimal_Compare.f bt183.2 bt185.2).bind fun t188 => (some t188))))) else (if t181 < t182 then (some (-1)) else (some 1))) = some r := H
 have A4 := Aside0.mk A40
 clear A40
 by_cases c5 : t181 = t182
 ·rw [if_pos c5] at H
  have c5b0 : (t181 == t182) = true := beq_iff_eq.mpr c5
  have c5b1 : (t181 != t182) = false := bne_eq_false_iff_eq.mpr c5
  clear c5
  replace H := Option.bind_eq_some_iff.mp H
  obtain ⟨⟨t183, t184⟩, A60, H⟩ := H
  replace H : ((whole_split.f a1).bind fun bt185 => (if t183 = true then ((decimal_Compare.f bt185.2 t184).bind fun t187 => (some t187)) else ((decimal_Compare.f t184 bt185.2).bind fun t188 => (some t188)))) = some r := H
  have A6 := Aside0.mk A60
  clear A60
  replace H := Option.bind_eq_some_iff.mp H
  obtain ⟨⟨t185, t186⟩, A70, H⟩ := H
  replace H : (if t183 = true then ((decimal_Compare.f t186 t184).bind fun t187 => (some t187)) else ((decimal_Compare.f t184 t186).bind fun t188 => (some t188))) = some r := H
  have A7 := Aside0.mk A70
  clear A70
  by_cases c8 : t183 = true
  ·subst c8
   have H1 : ((decimal_Compare.f t186 t184).bind fun t187 => (some t187)) = some r := by rw [if_pos rfl] at H; exact H
   clear H
   have H := H1
   clear H1
   replace H := Option.bind_eq_some_iff.mp H
   obtain ⟨t187, A90, H⟩ := H
   replace H : (some t187) = some r := H
   have A9 := Aside0.mk A90
   clear A90
   obtain rfl := Option.some.inj H
   go_enter Tryz.func58, Tryz.ntmps58
   go_wp2_with (first | ((with_reducible refine gate_callee (f := 63) rfl ?_); refine goesL_ (some 12) rfl rfl Tryz.func63 (by kernel_rfl) rfl #[.string a0] rfl mp_ ?_; (with_reducible refine (whole_Sign.calls a0 t181 _ A3.out).mono ?_); rintro e w' ⟨rfl, ⟨nd, rfl⟩⟩; refine ⟨_, rfl, ?_⟩) | ((with_reducible refine gate_callee (f := 63) rfl ?_); refine goesL_ (some 14) rfl rfl Tryz.func63 (by kernel_rfl) rfl #[.string a1] rfl mp_ ?_; (with_reducible refine (whole_Sign.calls a1 t182 _ A4.out).mono ?_); rintro e w' ⟨rfl, ⟨nd, rfl⟩⟩; refine ⟨_, rfl, ?_⟩) | ((with_reducible refine gate_callee (f := 78) rfl ?_); refine goesL_ (some 23) rfl rfl Tryz.func78 (by kernel_rfl) rfl #[.string a0] rfl mp_ ?_; (with_reducible refine (whole_split.calls a0 true t184 _ A6.out).mono ?_); rintro e w' ⟨rfl, ⟨nd, rfl⟩⟩; refine ⟨_, rfl, ?_⟩) | ((with_reducible refine gate_callee (f := 78) rfl ?_); refine goesL_ (some 28) rfl rfl Tryz.func78 (by kernel_rfl) rfl #[.string a1] rfl mp_ ?_; (with_reducible refine (whole_split.calls a1 t185 t186 _ A7.out).mono ?_); rintro e w' ⟨rfl, ⟨nd, rfl⟩⟩; refine ⟨_, rfl, ?_⟩) | ((with_reducible refine gate_callee (f := 81) rfl ?_); refine goesL_ (some 36) rfl rfl Tryz.func81 (by kernel_rfl) rfl #[.string t186, .string t184] rfl mp_ ?_; (with_reducible refine (decimal_Compare.calls t186 t184 t187 _ A9.out).mono ?_); rintro e w10 ⟨rfl, hb⟩; refine ⟨_, rfl, ?_⟩; replace HB := bs_ hb; (try clear hb); (try clear hb2); (try clear hk); (try clear hi)))
   go_ret
   exact ⟨er_, bl_⟩
  ·replace c8 := Bool.eq_false_iff.mpr c8
   subst c8
   have H1 : ((decimal_Compare.f t184 t186).bind fun t188 => (some t188)) = some r := by rw [if_neg (show ¬ (false = true) by decide)] at H; exact H
   clear H
   have H := H1
   clear H1
   replace H := Option.bind_eq_some_iff.mp H
   obtain ⟨t188, A110, H⟩ := H
   replace H : (some t188) = some r := H
   have A11 := Aside0.mk A110
   clear A110
   obtain rfl := Option.some.inj H
   go_enter Tryz.func58, Tryz.ntmps58
   go_wp2_with (first | ((with_reducible refine gate_callee (f := 63) rfl ?_); refine goesL_ (some 12) rfl rfl Tryz.func63 (by kernel_rfl) rfl #[.string a0] rfl mp_ ?_; (with_reducible refine (whole_Sign.calls a0 t181 _ A3.out).mono ?_); rintro e w' ⟨rfl, ⟨nd, rfl⟩⟩; refine ⟨_, rfl, ?_⟩) | ((with_reducible refine gate_callee (f := 63) rfl ?_); refine goesL_ (some 14) rfl rfl Tryz.func63 (by kernel_rfl) rfl #[.string a1] rfl mp_ ?_; (with_reducible refine (whole_Sign.calls a1 t182 _ A4.out).mono ?_); rintro e w' ⟨rfl, ⟨nd, rfl⟩⟩; refine ⟨_, rfl, ?_⟩) | ((with_reducible refine gate_callee (f := 78) rfl ?_); refine goesL_ (some 23) rfl rfl Tryz.func78 (by kernel_rfl) rfl #[.string a0] rfl mp_ ?_; (with_reducible refine (whole_split.calls a0 false t184 _ A6.out).mono ?_); rintro e w' ⟨rfl, ⟨nd, rfl⟩⟩; refine ⟨_, rfl, ?_⟩) | ((with_reducible refine gate_callee (f := 78) rfl ?_); refine goesL_ (some 28) rfl rfl Tryz.func78 (by kernel_rfl) rfl #[.string a1] rfl mp_ ?_; (with_reducible refine (whole_split.calls a1 t185 t186 _ A7.out).mono ?_); rintro e w' ⟨rfl, ⟨nd, rfl⟩⟩; refine ⟨_, rfl, ?_⟩) | ((with_reducible refine gate_callee (f := 81) rfl ?_); refine goesL_ (some 36) rfl rfl Tryz.func81 (by kernel_rfl) rfl #[.string t184, .string t186] rfl mp_ ?_; (with_reducible refine (decimal_Compare.calls t184 t186 t188 _ A11.out).mono ?_); rintro e w12 ⟨rfl, hb⟩; refine ⟨_, rfl, ?_⟩; replace HB := bs_ hb; (try clear hb); (try clear hb2); (try clear hk); (try clear hi)))
   go_ret
   exact ⟨er_, bl_⟩
 ·rw [if_neg c5] at H
  have c5b0 : (t181 == t182) = false := beq_eq_false_iff_ne.mpr c5
  have c5b1 : (t181 != t182) = true := bne_iff_ne.mpr c5
  by_cases c13 : t181 < t182
  ·rw [if_pos c13] at H
   have c13b0 : decide (t181 < t182) = true := decide_eq_true c13
   clear c13
   obtain rfl := Option.some.inj H
   go_enter Tryz.func58, Tryz.ntmps58
   go_wp2_with (first | ((with_reducible refine gate_callee (f := 63) rfl ?_); refine goesL_ (some 12) rfl rfl Tryz.func63 (by kernel_rfl) rfl #[.string a0] rfl mp_ ?_; (with_reducible refine (whole_Sign.calls a0 t181 _ A3.out).mono ?_); rintro e w' ⟨rfl, ⟨nd, rfl⟩⟩; refine ⟨_, rfl, ?_⟩) | ((with_reducible refine gate_callee (f := 63) rfl ?_); refine goesL_ (some 14) rfl rfl Tryz.func63 (by kernel_rfl) rfl #[.string a1] rfl mp_ ?_; (with_reducible refine (whole_Sign.calls a1 t182 _ A4.out).mono ?_); rintro e w' ⟨rfl, ⟨nd, rfl⟩⟩; refine ⟨_, rfl, ?_⟩))
   go_ret
   exact ⟨er_, bl_⟩
  ·rw [if_neg c13] at H
   have c13b0 : decide (t181 < t182) = false := decide_eq_false c13
   clear c13
   obtain rfl := Option.some.inj H
   go_enter Tryz.func58, Tryz.ntmps58
   go_wp2_with (first | ((with_reducible refine gate_callee (f := 63) rfl ?_); refine goesL_ (some 12) rfl rfl Tryz.func63 (by kernel_rfl) rfl #[.string a0] rfl mp_ ?_; (with_reducible refine (whole_Sign.calls a0 t181 _ A3.out).mono ?_); rintro e w' ⟨rfl, ⟨nd, rfl⟩⟩; refine ⟨_, rfl, ?_⟩) | ((with_reducible refine gate_callee (f := 63) rfl ?_); refine goesL_ (some 14) rfl rfl Tryz.func63 (by kernel_rfl) rfl #[.string a1] rfl mp_ ?_; (with_reducible refine (whole_Sign.calls a1 t182 _ A4.out).mono ?_); rintro e w' ⟨rfl, ⟨nd, rfl⟩⟩; refine ⟨_, rfl, ?_⟩))
   go_ret
   exact ⟨er_, bl_⟩
def fraction_little.f (a0 : ByteArray) : Option (Int × Bool) := if (a0.size : Int) > 9 then (some (0, false)) else ((strconv_Atoi.f a0).bind fun bt189 => (if bt189.2.isNone = true then (some (bt189.1, true)) else (some (bt189.1, false))))
set_option maxHeartbeats 8000000 in
set_option maxRecDepth 100000 in
theorem fraction_little.calls (a0 : ByteArray) (r1 : Int) (r2 : Bool) (w : World) (h : fraction_little.f a0 = some (r1, r2)) :
  Calls Tryz.prog 123 #[.string a0] w fun e w' => e = .returned (.tuple #[.int .i64 r1, .bool r2]) ∧ Below w.heap.size w w' := by
 have hu96 := Tryz.underlying96
 have HB := Aside0.mk (Below.refl w.heap.size w)
 have H : (if (a0.size : Int) > 9 then (some (0, false)) else ((strconv_Atoi.f a0).bind fun bt189 => (if bt189.2.isNone = true then (some (bt189.1, true)) else (some (bt189.1, false))))) = some (r1, r2) := h
 clear h
 by_cases c2 : (a0.size : Int) > 9
 ·rw [if_pos c2] at H
  have c2b0 : decide (9 < (a0.size : Int)) = true := decide_eq_true c2
  have c2b1 : decide (9 < a0.size) = true := decide_eq_true (by omega)
  clear c2
  simp only [Option.some.injEq, Prod.mk.injEq] at H
  obtain ⟨rfl, rfl⟩ := H
  go_enter Tryz.func123, Tryz.ntmps123
  go_wp2
  repeat (go_quiet (fail); try go_wp2)
  go_ret2
  exact ⟨er_, bl_⟩
 ·rw [if_neg c2] at H
  have c2b0 : decide (9 < (a0.size : Int)) = false := decide_eq_false c2
  have c2b1 : decide (9 < a0.size) = false := decide_eq_false (by omega)
  clear c2
  replace H := Option.bind_eq_some_iff.mp H
  obtain ⟨⟨t189, t190⟩, A30, H⟩ := H
  replace H : (if t190.isNone = true then (some (t189, true)) else (some (t189, false))) = some (r1, r2) := H
  have A3 := Aside0.mk A30
  clear A30
  rcases t190 with _ | q191
  ·have H1 : (some (t189, true)) = some (r1, r2) := by rw [if_pos (show (none : Option Int).isNone = true by rfl)] at H; exact H
   clear H
   have H := H1
   clear H1
   try simp only [errW_none, errW_some]
   simp only [Option.some.injEq, Prod.mk.injEq] at H
   obtain ⟨rfl, rfl⟩ := H
   go_enter Tryz.func123, Tryz.ntmps123
   go_wp2_with (first | (go_at_call 112; (with_reducible refine (strconv_Atoi.calls a0 t189 none _ A3.out).mono ?_); rintro e w4 ⟨rfl, hb⟩; replace HB := bs_ hb; (try clear hb); (try clear hb2); (try clear hk); (try clear hi); (try simp only [errW_none, errW_some])))
   repeat (go_quiet (first | (go_at_call 112; (with_reducible refine (strconv_Atoi.calls a0 t189 none _ A3.out).mono ?_); rintro e w4 ⟨rfl, hb⟩; replace HB := bs_ hb; (try clear hb); (try clear hb2); (try clear hk); (try clear hi); (try simp only [errW_none, errW_some]))); try go_wp2_with (first | (go_at_call 112; (with_reducible refine (strconv_Atoi.calls a0 t189 none _ A3.out).mono ?_); rintro e w4 ⟨rfl, hb⟩; replace HB := bs_ hb; (try clear hb); (try clear hb2); (try clear hk); (try clear hi); (try simp only [errW_none, errW_some]))))
   go_ret2
   exact ⟨er_, bl_⟩
  ·have H1 : (some (t189, false)) = some (r1, r2) := by rw [if_neg (show ¬ (some q191).isNone = true by simp)] at H; exact H
   clear H
   have H := H1
   clear H1
   try simp only [errW_none, errW_some]
   simp only [Option.some.injEq, Prod.mk.injEq] at H
   obtain ⟨rfl, rfl⟩ := H
   go_enter Tryz.func123, Tryz.ntmps123
   go_wp2_with (first | (go_at_call 112; (with_reducible refine (strconv_Atoi.calls a0 t189 (some q191) _ A3.out).mono ?_); rintro e w5 ⟨rfl, hb⟩; replace HB := bs_ hb; (try clear hb); (try clear hb2); (try clear hk); (try clear hi); (try simp only [errW_none, errW_some])))
   repeat (go_quiet (first | (go_at_call 112; (with_reducible refine (strconv_Atoi.calls a0 t189 (some q191) _ A3.out).mono ?_); rintro e w5 ⟨rfl, hb⟩; replace HB := bs_ hb; (try clear hb); (try clear hb2); (try clear hk); (try clear hi); (try simp only [errW_none, errW_some]))); try go_wp2_with (first | (go_at_call 112; (with_reducible refine (strconv_Atoi.calls a0 t189 (some q191) _ A3.out).mono ?_); rintro e w5 ⟨rfl, hb⟩; replace HB := bs_ hb; (try clear hb); (try clear hb2); (try clear hk); (try clear hi); (try simp only [errW_none, errW_some]))))
   go_ret2
   exact ⟨er_, bl_⟩
def fraction_both.f (a0_0 : ByteArray) (a0_1 : ByteArray) : Option (Int × Int × Bool) := (fraction_little.f a0_0).bind fun bt193 => ((fraction_little.f a0_1).bind fun bt195 => (if bt193.2 = true then (some (bt193.1, bt195.1, bt195.2)) else (some (bt193.1, bt195.1, false))))
set_option maxHeartbeats 8000000 in
set_option maxRecDepth 100000 in
theorem fraction_both.calls (a0_0 : ByteArray) (a0_1 : ByteArray) (r1 : Int) (r2 : Int) (r3 : Bool) (w : World) (h : fraction_both.f a0_0 a0_1 = some (r1, r2, r3)) :
  Calls Tryz.prog 87 #[.agg #[.string a0_0, .string a0_1]] w fun e w' => e = .returned (.tuple #[.int .i64 r1, .int .i64 r2, .bool r3]) ∧ Below w.heap.size w w' := by
 have hu24 := Tryz.underlying24
 have HB := Aside0.mk (Below.refl w.heap.size w)
 have H : ((fraction_little.f a0_0).bind fun bt193 => ((fraction_little.f a0_1).bind fun bt195 => (if bt193.2 = true then (some (bt193.1, bt195.1, bt195.2)) else (some (bt193.1, bt195.1, false))))) = some (r1, r2, r3) := h
 clear h
 replace H := Option.bind_eq_some_iff.mp H
 obtain ⟨⟨t193, t194⟩, A20, H⟩ := H
 replace H : ((fraction_little.f a0_1).bind fun bt195 => (if t194 = true then (some (t193, bt195.1, bt195.2)) else (some (t193, bt195.1, false)))) = some (r1, r2, r3) := H
 have A2 := Aside0.mk A20
 clear A20
 replace H := Option.bind_eq_some_iff.mp H
 obtain ⟨⟨t195, t196⟩, A30, H⟩ := H
 replace H : (if t194 = true then (some (t193, t195, t196)) else (some (t193, t195, false))) = some (r1, r2, r3) := H
 have A3 := Aside0.mk A30
 clear A30
 by_cases c4 : t194 = true
 ·subst c4
  have H1 : (some (t193, t195, t196)) = some (r1, r2, r3) := by rw [if_pos rfl] at H; exact H
  clear H
  have H := H1
  clear H1
  simp only [Option.some.injEq, Prod.mk.injEq] at H
  obtain ⟨rfl, rfl, rfl⟩ := H
  go_enter Tryz.func87, Tryz.ntmps87
  go_wp2_with (first | ((with_reducible refine gate_dst (N := 1) rfl ?_); refine bx_ 1 #[.string a0_0, .string a0_1] 24 ?_; clear HB; intro gb192 w5 BK192 GW192 HB; have GE192 := GW192; obtain ⟨hcz6_0, hcz6_1, hfz6_0, hfz6_1⟩ := c2_ BK192) | ((with_reducible refine gate_callee (f := 123) rfl ?_); refine goesL_ (some 10) rfl rfl Tryz.func123 (by kernel_rfl) rfl #[.string a0_0] rfl mp_ ?_; (with_reducible refine (fraction_little.calls a0_0 t193 true _ A2.out).mono ?_); rintro e w7 ⟨rfl, hb⟩; refine ⟨_, rfl, ?_⟩; replace BK192 := kb_ BK192 hb; replace HB := bs_ hb; (try clear hb); (try clear hb2); (try clear hk); (try clear hi); obtain ⟨hcz8_0, hcz8_1, hfz8_0, hfz8_1⟩ := c2_ BK192) | ((with_reducible refine gate_callee (f := 123) rfl ?_); refine goesL_ (some 16) rfl rfl Tryz.func123 (by kernel_rfl) rfl #[.string a0_1] rfl mp_ ?_; (with_reducible refine (fraction_little.calls a0_1 t195 t196 _ A3.out).mono ?_); rintro e w9 ⟨rfl, hb⟩; refine ⟨_, rfl, ?_⟩; replace BK192 := kb_ BK192 hb; replace HB := bs_ hb; (try clear hb); (try clear hb2); (try clear hk); (try clear hi)))
  go_ret3
  exact ⟨er_, bl_⟩
 ·replace c4 := Bool.eq_false_iff.mpr c4
  subst c4
  have H1 : (some (t193, t195, false)) = some (r1, r2, r3) := by rw [if_neg (show ¬ (false = true) by decide)] at H; exact H
  clear H
  have H := H1
  clear H1
  simp only [Option.some.injEq, Prod.mk.injEq] at H
  obtain ⟨rfl, rfl, rfl⟩ := H
  go_enter Tryz.func87, Tryz.ntmps87
  go_wp2_with (first | ((with_reducible refine gate_dst (N := 1) rfl ?_); refine bx_ 1 #[.string a0_0, .string a0_1] 24 ?_; clear HB; intro gb192 w10 BK192 GW192 HB; have GE192 := GW192; obtain ⟨hcz11_0, hcz11_1, hfz11_0, hfz11_1⟩ := c2_ BK192) | ((with_reducible refine gate_callee (f := 123) rfl ?_); refine goesL_ (some 10) rfl rfl Tryz.func123 (by kernel_rfl) rfl #[.string a0_0] rfl mp_ ?_; (with_reducible refine (fraction_little.calls a0_0 t193 false _ A2.out).mono ?_); rintro e w12 ⟨rfl, hb⟩; refine ⟨_, rfl, ?_⟩; replace BK192 := kb_ BK192 hb; replace HB := bs_ hb; (try clear hb); (try clear hb2); (try clear hk); (try clear hi); obtain ⟨hcz13_0, hcz13_1, hfz13_0, hfz13_1⟩ := c2_ BK192) | ((with_reducible refine gate_callee (f := 123) rfl ?_); refine goesL_ (some 16) rfl rfl Tryz.func123 (by kernel_rfl) rfl #[.string a0_1] rfl mp_ ?_; (with_reducible refine (fraction_little.calls a0_1 t195 t196 _ A3.out).mono ?_); rintro e w14 ⟨rfl, hb⟩; refine ⟨_, rfl, ?_⟩; replace BK192 := kb_ BK192 hb; replace HB := bs_ hb; (try clear hb); (try clear hb2); (try clear hk); (try clear hi)))
  go_ret3
  exact ⟨er_, bl_⟩
end Go.Proofs.YtidajgkepdkcbaaGreatDoor.PF
end
section
namespace Go.Proofs.YtidajgkepdkcbaaGreatDoor.PF
open Go.RowKit Go.Proofs.YtidajgkepdkcbaaGreatDoorW.PrintWords Go.Proofs.YtidajgkepdkcbaaGreatDoorW.PrintLast Go.Proofs.YtidajgkepdkcbaaGreatDoorW.PrintMore
attribute [local go_sem] max2_int min2_int max_two min_two max_three min_three max_four min_four
def whole_Mul.j0 : Nat → ByteArray → ByteArray → Option (ByteArray)
 | 0, _, _ => none
 | k + 1, x0, x1 => (whole_split.f x0).bind fun bt202 => ((whole_split.f x1).bind fun bt204 => ((decimal_Mul.f bt202.2 bt204.2).bind fun t206 => ((whole_join.f (bt202.1 != bt204.1) t206).bind fun t207 => (some t207))))
def whole_Mul.f (k : Nat) (a0 : ByteArray) (a1 : ByteArray) : Option (ByteArray) := (whole_little.f a0 9).bind fun bt197 => (if bt197.2 = true then ((whole_little.f a1 9).bind fun bt199 => (if bt199.2 = true then ((whole_Of.f (wrap64 (bt197.1 * bt199.1))).bind fun t201 => (some t201)) else (whole_Mul.j0 k a0 a1))) else (whole_Mul.j0 k a0 a1))
set_option maxHeartbeats 8000000 in
set_option maxRecDepth 100000 in
theorem whole_Mul.calls (k : Nat) (a0 : ByteArray) (a1 : ByteArray) (r : ByteArray) (w : World) (hG_ : GWorld w) (h : whole_Mul.f k a0 a1 = some r) :
  Calls Tryz.prog 88 #[.string a0, .string a1] w fun e w' => e = .returned (.string r) ∧ Below w.heap.size w w' := by
 have HB := Aside0.mk (Below.refl w.heap.size w)
 have HG := Aside0.mk hG_
 clear hG_
 have H : ((whole_little.f a0 9).bind fun bt197 => (if bt197.2 = true then ((whole_little.f a1 9).bind fun bt199 => (if bt199.2 = true then ((whole_Of.f (wrap64 (bt197.1 * bt199.1))).bind fun t201 => (some t201)) else (whole_Mul.j0 k a0 a1))) else (whole_Mul.j0 k a0 a1))) = some r := h
 clear h
 replace H := Option.bind_eq_some_iff.mp H
 obtain ⟨⟨t197, t198⟩, A30, H⟩ := H
 replace H : (if t198 = true then ((whole_little.f a1 9).bind fun bt199 => (if bt199.2 = true then ((whole_Of.f (wrap64 (t197 * bt199.1))).bind fun t201 => (some t201)) else (whole_Mul.j0 k a0 a1))) else (whole_Mul.j0 k a0 a1)) = some r := H
 have A3 := Aside0.mk A30
 clear A30
 have HC4 := Aside0.mk H
 clear H
 go_enter Tryz.func88, Tryz.ntmps88
 go_upto_if 18 with (first | ((with_reducible refine gate_callee (f := 77) rfl ?_); refine goesL_ (some 15) rfl rfl Tryz.func77 (by kernel_rfl) rfl #[.string a0, .int .i64 9] rfl mp_ ?_; (with_reducible refine (whole_little.calls a0 9 t197 t198 _ A3.out).mono ?_); rintro e w5 ⟨rfl, hb⟩; refine ⟨_, rfl, ?_⟩; replace HB := bs_ hb; (try clear hb); (try clear hb2); (try clear hk); (try clear hi)))
 (try simp only [Act.put, List.setIfInBounds_toArray, List.set_cons_zero, List.set_cons_succ])
 go_cut [] (fun wc => ∃ (kq : Nat), Aside0 (whole_Mul.j0 kq a0 a1 = some r) ∧ Aside0 (kq ≤ k) ∧ Aside0 (Below w.heap.size w wc))
 case first =>
  have H := HC4.out
  clear HC4
  by_cases c6 : t198 = true
  ·subst c6
   have H1 : ((whole_little.f a1 9).bind fun bt199 => (if bt199.2 = true then ((whole_Of.f (wrap64 (t197 * bt199.1))).bind fun t201 => (some t201)) else (whole_Mul.j0 k a0 a1))) = some r := by rw [if_pos rfl] at H; exact H
   clear H
   have H := H1
   clear H1
   replace H := Option.bind_eq_some_iff.mp H
   obtain ⟨⟨t199, t200⟩, A70, H⟩ := H
   replace H : (if t200 = true then ((whole_Of.f (wrap64 (t197 * t199))).bind fun t201 => (some t201)) else (whole_Mul.j0 k a0 a1)) = some r := H
   have A7 := Aside0.mk A70
   clear A70
   by_cases c8 : t200 = true
   ·subst c8
    have H1 : ((whole_Of.f (wrap64 (t197 * t199))).bind fun t201 => (some t201)) = some r := by rw [if_pos rfl] at H; exact H
    clear H
    have H := H1
    clear H1
    replace H := Option.bind_eq_some_iff.mp H
    obtain ⟨t201, A90, H⟩ := H
    replace H : (some t201) = some r := H
    have A9 := Aside0.mk A90
    clear A90
    obtain rfl := Option.some.inj H
    go_wp2_with (first | ((with_reducible refine gate_callee (f := 77) rfl ?_); refine goesL_ (some 21) rfl rfl Tryz.func77 (by kernel_rfl) rfl #[.string a1, .int .i64 9] rfl mp_ ?_; (with_reducible refine (whole_little.calls a1 9 t199 true _ A7.out).mono ?_); rintro e w10 ⟨rfl, hb⟩; refine ⟨_, rfl, ?_⟩; replace HB := bs_ hb; (try clear hb); (try clear hb2); (try clear hk); (try clear hi)) | ((with_reducible refine gate_callee (f := 59) rfl ?_); refine goesL_ (some 28) rfl rfl Tryz.func59 (by kernel_rfl) rfl #[.int .i64 (wrap64 (t197 * t199))] rfl mp_ ?_; (with_reducible refine (whole_Of.calls (wrap64 (t197 * t199)) t201 _ ?side1 A9.out).mono ?_); (case side1 => exact gw_ HG); rintro e w11 ⟨rfl, hb⟩; refine ⟨_, rfl, ?_⟩; replace HB := bs_ hb; (try clear hb); (try clear hb2); (try clear hk); (try clear hi)))
    go_ret
    exact ⟨er_, bl_⟩
   ·replace c8 := Bool.eq_false_iff.mpr c8
    subst c8
    have H1 : (whole_Mul.j0 k a0 a1) = some r := by rw [if_neg (show ¬ (false = true) by decide)] at H; exact H
    clear H
    have H := H1
    clear H1
    have H' := Aside0.mk H
    clear H
    go_wp2_with (first | ((with_reducible refine gate_callee (f := 77) rfl ?_); refine goesL_ (some 21) rfl rfl Tryz.func77 (by kernel_rfl) rfl #[.string a1, .int .i64 9] rfl mp_ ?_; (with_reducible refine (whole_little.calls a1 9 t199 false _ A7.out).mono ?_); rintro e w12 ⟨rfl, hb⟩; refine ⟨_, rfl, ?_⟩; replace HB := bs_ hb; (try clear hb); (try clear hb2); (try clear hk); (try clear hi)))
    go_meet
    case rel => exact ⟨_, H', ⟨by first | omega | exact Nat.le_refl _⟩, ⟨bl_⟩⟩
  ·replace c6 := Bool.eq_false_iff.mpr c6
   subst c6
   have H1 : (whole_Mul.j0 k a0 a1) = some r := by rw [if_neg (show ¬ (false = true) by decide)] at H; exact H
   clear H
   have H := H1
   clear H1
   have H' := Aside0.mk H
   clear H
   go_wp2
   go_meet
   case rel => exact ⟨_, H', ⟨by first | omega | exact Nat.le_refl _⟩, ⟨bl_⟩⟩
 case rest =>
  clear HC4
  try clear p2
  try clear c5
  try clear c6
  try clear p6
  try clear c7
  try clear c8
  obtain ⟨kq, HA, HJ3, HB⟩ := hcut
  cases kq with
  | zero => exact absurd HA.out (by simp [whole_Mul.j0])
  | succ kj3 =>
   have H := HA.out
   clear HA
   simp only [whole_Mul.j0] at H
   replace H := Option.bind_eq_some_iff.mp H
   obtain ⟨⟨t202, t203⟩, A130, H⟩ := H
   replace H : ((whole_split.f a1).bind fun bt204 => ((decimal_Mul.f t203 bt204.2).bind fun t206 => ((whole_join.f (t202 != bt204.1) t206).bind fun t207 => (some t207)))) = some r := H
   have A13 := Aside0.mk A130
   clear A130
   replace H := Option.bind_eq_some_iff.mp H
   obtain ⟨⟨t204, t205⟩, A140, H⟩ := H
   replace H : ((decimal_Mul.f t203 t205).bind fun t206 => ((whole_join.f (t202 != t204) t206).bind fun t207 => (some t207))) = some r := H
   have A14 := Aside0.mk A140
   clear A140
   replace H := Option.bind_eq_some_iff.mp H
   obtain ⟨t206, A150, H⟩ := H
   replace H : ((whole_join.f (t202 != t204) t206).bind fun t207 => (some t207)) = some r := H
   have A15 := Aside0.mk A150
   clear A150
   replace H := Option.bind_eq_some_iff.mp H
   obtain ⟨t207, A160, H⟩ := H
   replace H : (some t207) = some r := H
   have A16 := Aside0.mk A160
   clear A160
   obtain rfl := Option.some.inj H
   go_wp2_with (first | ((with_reducible refine gate_callee (f := 78) rfl ?_); refine goesL_ (some 31) rfl rfl Tryz.func78 (by kernel_rfl) rfl #[.string a0] rfl mp_ ?_; (with_reducible refine (whole_split.calls a0 t202 t203 _ A13.out).mono ?_); rintro e w' ⟨rfl, ⟨nd, rfl⟩⟩; refine ⟨_, rfl, ?_⟩) | ((with_reducible refine gate_callee (f := 78) rfl ?_); refine goesL_ (some 36) rfl rfl Tryz.func78 (by kernel_rfl) rfl #[.string a1] rfl mp_ ?_; (with_reducible refine (whole_split.calls a1 t204 t205 _ A14.out).mono ?_); rintro e w' ⟨rfl, ⟨nd, rfl⟩⟩; refine ⟨_, rfl, ?_⟩) | ((with_reducible refine gate_callee (f := 124) rfl ?_); refine goesL_ (some 44) rfl rfl Tryz.func124 (by kernel_rfl) rfl #[.string t203, .string t205] rfl mp_ ?_; (with_reducible refine (decimal_Mul.calls t203 t205 t206 _ ?side1 A15.out).mono ?_); (case side1 => exact gw_ HG); rintro e w17 ⟨rfl, hb⟩; refine ⟨_, rfl, ?_⟩; replace HB := bs_ hb; (try clear hb); (try clear hb2); (try clear hk); (try clear hi); have BA16 := A16.out; unfold bne at BA16; replace BA16 := Aside0.mk BA16) | (go_at_call 79; (with_reducible first | refine (whole_join.calls (t202 != t204) t206 t207 _ A16.out).mono ?_ | refine (whole_join.calls (!(t202 == t204)) t206 t207 _ BA16.out).mono ?_); rintro e w' ⟨rfl, ⟨nd, rfl⟩⟩))
   go_ret
   exact ⟨er_, bl_⟩
def fraction_Compare.j0 : Nat → ByteArray → ByteArray → ByteArray → ByteArray → Option (Int)
 | 0, _, _, _, _ => none
 | k + 1, x209000, x209001, x210000, x210001 => if x209001.toList = x210001.toList then ((whole_Compare.f x209000 x210000).bind fun t216 => (some t216)) else ((whole_Mul.f k x209000 x210001).bind fun t217 => ((whole_Mul.f k x210000 x209001).bind fun t218 => ((whole_Compare.f t217 t218).bind fun t219 => (some t219))))
def fraction_Compare.f (k : Nat) (a0_0 : ByteArray) (a0_1 : ByteArray) (a1_0 : ByteArray) (a1_1 : ByteArray) : Option (Int) := (fraction_both.f a0_0 a0_1).bind fun bt210 => (if bt210.2.2 = true then ((fraction_both.f a1_0 a1_1).bind fun bt213 => (if bt213.2.2 = true then (if (wrap64 (bt210.1 * bt213.2.1)) < (wrap64 (bt213.1 * bt210.2.1)) then (some (-1)) else (if (wrap64 (bt210.1 * bt213.2.1)) > (wrap64 (bt213.1 * bt210.2.1)) then (some 1) else (some 0))) else (fraction_Compare.j0 k a0_0 a0_1 a1_0 a1_1))) else (fraction_Compare.j0 k a0_0 a0_1 a1_0 a1_1))
def fraction_Compare.T13 : Bool × List (List Nat × List Nat) := (true, [([], []), ([0], [0]), ([], []), ([2], [2]), ([1, 3], [1, 3]), ([], []), ([5], [5]), ([], []), ([7], [7]), ([6, 8, 4], [6, 8]), ([4, 9, 9], [4, 9]), ([10, 10, 0, 1, 2, 3, 4, 5, 6, 7, 8, 9, 10], [10])])
def fraction_Compare.B13 : List Nat := [0, 1, 0, 4, 15, 0, 32, 0, 128, 511, 1023, 2047]
theorem fraction_Compare.tab13 : rtab .any (opsOf Tryz.f56 13) = fraction_Compare.T13 := by kernel_rfl
theorem fraction_Compare.bits13 : waitsOk fraction_Compare.T13.2 fraction_Compare.B13 = true := by kernel_rfl
set_option maxHeartbeats 8000000 in
set_option maxRecDepth 100000 in
theorem fraction_Compare.calls (k : Nat) (a0_0 : ByteArray) (a0_1 : ByteArray) (a1_0 : ByteArray) (a1_1 : ByteArray) (r : Int) (w : World) (hG_ : GWorld w) (h : fraction_Compare.f k a0_0 a0_1 a1_0 a1_1 = some r) :
  Calls Tryz.prog 56 #[.agg #[.string a0_0, .string a0_1], .agg #[.string a1_0, .string a1_1]] w fun e w' => e = .returned (.int .i64 r) ∧ Below w.heap.size w w' := by
 have hu24 := Tryz.underlying24
 have HB := Aside0.mk (Below.refl w.heap.size w)
 have HG := Aside0.mk hG_
 clear hG_
 have H : ((fraction_both.f a0_0 a0_1).bind fun bt210 => (if bt210.2.2 = true then ((fraction_both.f a1_0 a1_1).bind fun bt213 => (if bt213.2.2 = true then (if (wrap64 (bt210.1 * bt213.2.1)) < (wrap64 (bt213.1 * bt210.2.1)) then (some (-1)) else (if (wrap64 (bt210.1 * bt213.2.1)) > (wrap64 (bt213.1 * bt210.2.1)) then (some 1) else (some 0))) else (fraction_Compare.j0 k a0_0 a0_1 a1_0 a1_1))) else (fraction_Compare.j0 k a0_0 a0_1 a1_0 a1_1))) = some r := h
 clear h
 replace H := Option.bind_eq_some_iff.mp H
 obtain ⟨⟨t210, t211, t212⟩, A30, H⟩ := H
 replace H : (if t212 = true then ((fraction_both.f a1_0 a1_1).bind fun bt213 => (if bt213.2.2 = true then (if (wrap64 (t210 * bt213.2.1)) < (wrap64 (bt213.1 * t211)) then (some (-1)) else (if (wrap64 (t210 * bt213.2.1)) > (wrap64 (bt213.1 * t211)) then (some 1) else (some 0))) else (fraction_Compare.j0 k a0_0 a0_1 a1_0 a1_1))) else (fraction_Compare.j0 k a0_0 a0_1 a1_0 a1_1)) = some r := H
 have A3 := Aside0.mk A30
 clear A30
 have HC4 := Aside0.mk H
 clear H
 go_enter Tryz.func56, Tryz.ntmps56
 go_upto_if 19 with (first | ((with_reducible refine gate_dst (N := 2) rfl ?_); refine bx_ 2 #[.string a0_0, .string a0_1] 24 ?_; clear HB; intro gb208 w5 BK208 GW208 HB; have GE208 := GW208) | ((with_reducible refine gate_dst (N := 3) rfl ?_); refine box_event ?hg (N := 3) ?hd (cs := #[.string a1_0, .string a1_1]) (t := 24) ?hr ?_; (case hd => rfl); (case hg => rfl); (case hr => first | (go_simp; done) | (go_simp; rfl)); intro gb209 hg w6 hbox hb; have BK209 := Aside0.mk (hbox); have GW209 := ge_ (w := w) hg; have GE209 := ge_ (w := w) hg; replace HB := bs_ hb; have NB208_209 := nl_ hg BK208; have NB209_208 := ng_ hg BK208; replace BK208 := kb_ BK208 hb; clear hb hbox hg; have hnb7 := NB208_209.out; have hnc7 := NB209_208.out; obtain ⟨hcz8_0, hcz8_1, hfz8_0, hfz8_1⟩ := c2_ BK208) | ((with_reducible refine gate_callee (f := 87) rfl ?_); refine goesL_ (some 15) rfl rfl Tryz.func87 (by kernel_rfl) rfl #[.agg #[.string a0_0, .string a0_1]] rfl mp_ ?_; (with_reducible refine (fraction_both.calls a0_0 a0_1 t210 t211 t212 _ A3.out).mono ?_); rintro e w9 ⟨rfl, hb⟩; refine ⟨_, rfl, ?_⟩; replace BK208 := kb_ BK208 hb; replace BK209 := kb_ BK209 hb; replace HB := bs_ hb; (try clear hb); (try clear hb2); (try clear hk); (try clear hi)))
 (try simp only [Act.put, List.setIfInBounds_toArray, List.set_cons_zero, List.set_cons_succ])
 go_cut [] (fun wc => ∃ (kq : Nat), Aside0 (fraction_Compare.j0 kq a0_0 a0_1 a1_0 a1_1 = some r) ∧ Aside0 (kq ≤ k) ∧ Aside0 (wc.heap[gb208]? = some (.cells #[.string a0_0, .string a0_1] 24 (0, 0))) ∧ Aside0 (wc.heap[gb209]? = some (.cells #[.string a1_0, .string a1_1] 24 (0, 0))) ∧ Aside0 (Below w.heap.size w wc))
 case first =>
  have H := HC4.out
  clear HC4
  by_cases c10 : t212 = true
  ·subst c10
   have H1 : ((fraction_both.f a1_0 a1_1).bind fun bt213 => (if bt213.2.2 = true then (if (wrap64 (t210 * bt213.2.1)) < (wrap64 (bt213.1 * t211)) then (some (-1)) else (if (wrap64 (t210 * bt213.2.1)) > (wrap64 (bt213.1 * t211)) then (some 1) else (some 0))) else (fraction_Compare.j0 k a0_0 a0_1 a1_0 a1_1))) = some r := by rw [if_pos rfl] at H; exact H
   clear H
   have H := H1
   clear H1
   replace H := Option.bind_eq_some_iff.mp H
   obtain ⟨⟨t213, t214, t215⟩, A110, H⟩ := H
   replace H : (if t215 = true then (if (wrap64 (t210 * t214)) < (wrap64 (t213 * t211)) then (some (-1)) else (if (wrap64 (t210 * t214)) > (wrap64 (t213 * t211)) then (some 1) else (some 0))) else (fraction_Compare.j0 k a0_0 a0_1 a1_0 a1_1)) = some r := H
   have A11 := Aside0.mk A110
   clear A110
   by_cases c12 : t215 = true
   ·subst c12
    have H1 : (if (wrap64 (t210 * t214)) < (wrap64 (t213 * t211)) then (some (-1)) else (if (wrap64 (t210 * t214)) > (wrap64 (t213 * t211)) then (some 1) else (some 0))) = some r := by rw [if_pos rfl] at H; exact H
    clear H
    have H := H1
    clear H1
    by_cases c13 : (wrap64 (t210 * t214)) < (wrap64 (t213 * t211))
    ·rw [if_pos c13] at H
     have c13b0 : decide ((wrap64 (t210 * t214)) < (wrap64 (t213 * t211))) = true := decide_eq_true c13
     clear c13
     (first | rw [c13b0] | (simp only [i64_w, i32_w]; rw [c13b0]) | skip)
     obtain rfl := Option.some.inj H
     have hnb14 := NB209_208.out
     have hnc14 := NB208_209.out
     have hcz15_0 : w9.cell? ⟨gb209, 0, none⟩ = some (.string a1_0) := (blk_cell BK209.out 0).trans rfl
     have hcz15_1 : w9.cell? ⟨gb209, 1, none⟩ = some (.string a1_1) := (blk_cell BK209.out 1).trans rfl
     have hfz15_0 := blk_frozen BK209.out 0
     have hfz15_1 := blk_frozen BK209.out 1
     go_wp2_with (first | ((with_reducible refine gate_callee (f := 87) rfl ?_); refine goesL_ (some 22) rfl rfl Tryz.func87 (by kernel_rfl) rfl #[.agg #[.string a1_0, .string a1_1]] rfl mp_ ?_; (with_reducible refine (fraction_both.calls a1_0 a1_1 t213 t214 true _ A11.out).mono ?_); rintro e w16 ⟨rfl, hb⟩; refine ⟨_, rfl, ?_⟩; replace BK208 := kb_ BK208 hb; replace BK209 := kb_ BK209 hb; replace HB := bs_ hb; (try clear hb); (try clear hb2); (try clear hk); (try clear hi)))
     go_ret
     exact ⟨er_, bl_⟩
    ·rw [if_neg c13] at H
     have c13b0 : decide ((wrap64 (t210 * t214)) < (wrap64 (t213 * t211))) = false := decide_eq_false c13
     clear c13
     (first | rw [c13b0] | (simp only [i64_w, i32_w]; rw [c13b0]) | skip)
     by_cases c17 : (wrap64 (t210 * t214)) > (wrap64 (t213 * t211))
     ·rw [if_pos c17] at H
      have c17b0 : decide ((wrap64 (t213 * t211)) < (wrap64 (t210 * t214))) = true := decide_eq_true c17
      clear c17
      obtain rfl := Option.some.inj H
      have hnb18 := NB209_208.out
      have hnc18 := NB208_209.out
      have hcz19_0 : w9.cell? ⟨gb209, 0, none⟩ = some (.string a1_0) := (blk_cell BK209.out 0).trans rfl
      have hcz19_1 : w9.cell? ⟨gb209, 1, none⟩ = some (.string a1_1) := (blk_cell BK209.out 1).trans rfl
      have hfz19_0 := blk_frozen BK209.out 0
      have hfz19_1 := blk_frozen BK209.out 1
      go_wp2_with (first | ((with_reducible refine gate_callee (f := 87) rfl ?_); refine goesL_ (some 22) rfl rfl Tryz.func87 (by kernel_rfl) rfl #[.agg #[.string a1_0, .string a1_1]] rfl mp_ ?_; (with_reducible refine (fraction_both.calls a1_0 a1_1 t213 t214 true _ A11.out).mono ?_); rintro e w20 ⟨rfl, hb⟩; refine ⟨_, rfl, ?_⟩; replace BK208 := kb_ BK208 hb; replace BK209 := kb_ BK209 hb; replace HB := bs_ hb; (try clear hb); (try clear hb2); (try clear hk); (try clear hi)))
      go_ret
      exact ⟨er_, bl_⟩
     ·rw [if_neg c17] at H
      have c17b0 : decide ((wrap64 (t213 * t211)) < (wrap64 (t210 * t214))) = false := decide_eq_false c17
      clear c17
      obtain rfl := Option.some.inj H
      have hnb21 := NB209_208.out
      have hnc21 := NB208_209.out
      have hcz22_0 : w9.cell? ⟨gb209, 0, none⟩ = some (.string a1_0) := (blk_cell BK209.out 0).trans rfl
      have hcz22_1 : w9.cell? ⟨gb209, 1, none⟩ = some (.string a1_1) := (blk_cell BK209.out 1).trans rfl
      have hfz22_0 := blk_frozen BK209.out 0
      have hfz22_1 := blk_frozen BK209.out 1
      go_wp2_with (first | ((with_reducible refine gate_callee (f := 87) rfl ?_); refine goesL_ (some 22) rfl rfl Tryz.func87 (by kernel_rfl) rfl #[.agg #[.string a1_0, .string a1_1]] rfl mp_ ?_; (with_reducible refine (fraction_both.calls a1_0 a1_1 t213 t214 true _ A11.out).mono ?_); rintro e w23 ⟨rfl, hb⟩; refine ⟨_, rfl, ?_⟩; replace BK208 := kb_ BK208 hb; replace BK209 := kb_ BK209 hb; replace HB := bs_ hb; (try clear hb); (try clear hb2); (try clear hk); (try clear hi)))
      go_ret
      exact ⟨er_, bl_⟩
   ·replace c12 := Bool.eq_false_iff.mpr c12
    subst c12
    have H1 : (fraction_Compare.j0 k a0_0 a0_1 a1_0 a1_1) = some r := by rw [if_neg (show ¬ (false = true) by decide)] at H; exact H
    clear H
    have H := H1
    clear H1
    have H' := Aside0.mk H
    clear H
    have hnb24 := NB209_208.out
    have hnc24 := NB208_209.out
    have hcz25_0 : w9.cell? ⟨gb209, 0, none⟩ = some (.string a1_0) := (blk_cell BK209.out 0).trans rfl
    have hcz25_1 : w9.cell? ⟨gb209, 1, none⟩ = some (.string a1_1) := (blk_cell BK209.out 1).trans rfl
    have hfz25_0 := blk_frozen BK209.out 0
    have hfz25_1 := blk_frozen BK209.out 1
    go_wp2_with (first | ((with_reducible refine gate_callee (f := 87) rfl ?_); refine goesL_ (some 22) rfl rfl Tryz.func87 (by kernel_rfl) rfl #[.agg #[.string a1_0, .string a1_1]] rfl mp_ ?_; (with_reducible refine (fraction_both.calls a1_0 a1_1 t213 t214 false _ A11.out).mono ?_); rintro e w26 ⟨rfl, hb⟩; refine ⟨_, rfl, ?_⟩; replace BK208 := kb_ BK208 hb; replace BK209 := kb_ BK209 hb; replace HB := bs_ hb; (try clear hb); (try clear hb2); (try clear hk); (try clear hi)))
    go_meet
    case rel => exact ⟨_, H', ⟨by first | omega | exact Nat.le_refl _⟩, ⟨bk_⟩, ⟨bk_⟩, ⟨bl_⟩⟩
  ·replace c10 := Bool.eq_false_iff.mpr c10
   subst c10
   have H1 : (fraction_Compare.j0 k a0_0 a0_1 a1_0 a1_1) = some r := by rw [if_neg (show ¬ (false = true) by decide)] at H; exact H
   clear H
   have H := H1
   clear H1
   have H' := Aside0.mk H
   clear H
   go_wp2
   go_meet
   case rel => exact ⟨_, H', ⟨by first | omega | exact Nat.le_refl _⟩, ⟨bk_⟩, ⟨bk_⟩, ⟨bl_⟩⟩
 case rest =>
  clear HC4
  try clear c1
  try clear c2
  try clear p2
  try clear c5
  try clear p6
  try clear c7
  try clear c8
  try clear c10
  try clear c12
  try clear c13
  try clear c13b0
  try clear c14
  try clear c17
  try clear c17b0
  try clear c18
  try clear c21
  try clear c24
  try clear hcz15_0
  try clear hcz15_1
  try clear hcz19_0
  try clear hcz19_1
  try clear hcz22_0
  try clear hcz22_1
  try clear hcz25_0
  try clear hcz25_1
  try clear hcz8_0
  try clear hcz8_1
  try clear hfz15_0
  try clear hfz15_1
  try clear hfz19_0
  try clear hfz19_1
  try clear hfz22_0
  try clear hfz22_1
  try clear hfz25_0
  try clear hfz25_1
  try clear hfz8_0
  try clear hfz8_1
  obtain ⟨kq, HA, HJ3, BK208, BK209, HB⟩ := hcut
  cases kq with
  | zero => exact absurd HA.out (by simp [fraction_Compare.j0])
  | succ kj3 =>
   have H := HA.out
   clear HA
   simp only [fraction_Compare.j0] at H
   by_cases c27 : a0_1.toList = a1_1.toList
   ·rw [if_pos c27] at H
    have c27b0 : (a0_1.toList == a1_1.toList) = true := beq_iff_eq.mpr c27
    have c27b1 : (a0_1.toList != a1_1.toList) = false := bne_eq_false_iff_eq.mpr c27
    clear c27
    replace H := Option.bind_eq_some_iff.mp H
    obtain ⟨t216, A280, H⟩ := H
    replace H : (some t216) = some r := H
    have A28 := Aside0.mk A280
    clear A280
    obtain rfl := Option.some.inj H
    have hnb29 := NB208_209.out
    have hnc29 := NB209_208.out
    have hcz30_0 : wc.cell? ⟨gb208, 0, none⟩ = some (.string a0_0) := (blk_cell BK208.out 0).trans rfl
    have hcz30_1 : wc.cell? ⟨gb208, 1, none⟩ = some (.string a0_1) := (blk_cell BK208.out 1).trans rfl
    have hfz30_0 := blk_frozen BK208.out 0
    have hfz30_1 := blk_frozen BK208.out 1
    have hcz31_0 : wc.cell? ⟨gb209, 0, none⟩ = some (.string a1_0) := (blk_cell BK209.out 0).trans rfl
    have hcz31_1 : wc.cell? ⟨gb209, 1, none⟩ = some (.string a1_1) := (blk_cell BK209.out 1).trans rfl
    have hfz31_0 := blk_frozen BK209.out 0
    have hfz31_1 := blk_frozen BK209.out 1
    go_wp2_with (first | ((with_reducible refine gate_callee (f := 58) rfl ?_); refine goesL_ (some 50) rfl rfl Tryz.func58 (by kernel_rfl) rfl #[.string a0_0, .string a1_0] rfl mp_ ?_; (with_reducible refine (whole_Compare.calls a0_0 a1_0 t216 _ A28.out).mono ?_); rintro e w32 ⟨rfl, hb⟩; refine ⟨_, rfl, ?_⟩; replace BK208 := kb_ BK208 hb; replace BK209 := kb_ BK209 hb; replace HB := bs_ hb; (try clear hb); (try clear hb2); (try clear hk); (try clear hi)))
    go_ret
    exact ⟨er_, bl_⟩
   ·rw [if_neg c27] at H
    have c27b0 : (a0_1.toList == a1_1.toList) = false := beq_eq_false_iff_ne.mpr c27
    have c27b1 : (a0_1.toList != a1_1.toList) = true := bne_iff_ne.mpr c27
    replace H := Option.bind_eq_some_iff.mp H
    obtain ⟨t217, A330, H⟩ := H
    replace H : ((whole_Mul.f kj3 a1_0 a0_1).bind fun t218 => ((whole_Compare.f t217 t218).bind fun t219 => (some t219))) = some r := H
    have A33 := Aside0.mk A330
    clear A330
    replace H := Option.bind_eq_some_iff.mp H
    obtain ⟨t218, A340, H⟩ := H
    replace H : ((whole_Compare.f t217 t218).bind fun t219 => (some t219)) = some r := H
    have A34 := Aside0.mk A340
    clear A340
    replace H := Option.bind_eq_some_iff.mp H
    obtain ⟨t219, A350, H⟩ := H
    replace H : (some t219) = some r := H
    have A35 := Aside0.mk A350
    clear A350
    obtain rfl := Option.some.inj H
    have hnb36 := NB208_209.out
    have hnc36 := NB209_208.out
    have hcz37_0 : wc.cell? ⟨gb208, 0, none⟩ = some (.string a0_0) := (blk_cell BK208.out 0).trans rfl
    have hcz37_1 : wc.cell? ⟨gb208, 1, none⟩ = some (.string a0_1) := (blk_cell BK208.out 1).trans rfl
    have hfz37_0 := blk_frozen BK208.out 0
    have hfz37_1 := blk_frozen BK208.out 1
    have hcz38_0 : wc.cell? ⟨gb209, 0, none⟩ = some (.string a1_0) := (blk_cell BK209.out 0).trans rfl
    have hcz38_1 : wc.cell? ⟨gb209, 1, none⟩ = some (.string a1_1) := (blk_cell BK209.out 1).trans rfl
    have hfz38_0 := blk_frozen BK209.out 0
    have hfz38_1 := blk_frozen BK209.out 1
    try go_wp2
    have n0_ := Aside0.mk (blk_drew BK208.out)
    have n1_ := Aside0.mk (blk_drew BK209.out)
    have n2_ := Aside0.mk (below_drew1 HB.out)
    clear BK208
    clear BK209
    clear HB
    have BK208 := n0_
    have BK209 := n1_
    have HB := n2_
    clear n0_ n1_ n2_
    refine start_ (n := 12) (S := fun w' => w'.cell? ⟨gb208, 0, none⟩ = some (.string a0_0) ∧ w'.cell? ⟨gb208, 1, none⟩ = some (.string a0_1) ∧ w'.cell? ⟨gb209, 0, none⟩ = some (.string a1_0) ∧ w'.cell? ⟨gb209, 1, none⟩ = some (.string a1_1)) (ds := []) #[false, false, false, false, false, false, false, false, false, false, false, false] (by kernel_rfl) rfl rfl ⟨(blk_cell BK208.out 0).trans rfl, (blk_cell BK208.out 1).trans rfl, (blk_cell BK209.out 0).trans rfl, (blk_cell BK209.out 1).trans rfl⟩ (fun hHeld => ?_); refine with_tabW fraction_Compare.tab13 fraction_Compare.bits13 (fun HT_ HW_ => ?_)
    generalize wc.drew = w39 at BK208 BK209 HB hHeld ⊢
    refine pure_ (i := 0) (N := some 51) (v := ?_) (a' := ?_) #[true, false, false, false, false, false, false, false, false, false, false, false] rfl rfl (any_of HT_.out (by kernel_rfl)) (fun _ _ _ h => h) (Or.inl ⟨by rfl, ?_⟩) ?_ ?_
    rotate_left
    ·intro w'
     go_simp
     with_reducible rfl
    rotate_left
    ·simp only [Act.put, List.setIfInBounds_toArray, List.set_cons_zero, List.set_cons_succ, i64_w, i32_w]
     rfl
    refine pure_ (i := 2) (N := some 53) (v := ?_) (a' := ?_) #[true, false, true, false, false, false, false, false, false, false, false, false] rfl rfl (any_of HT_.out (by kernel_rfl)) (fun _ _ _ h => h) (Or.inl ⟨by rfl, ?_⟩) ?_ ?_
    rotate_left
    ·intro w'
     go_simp
     with_reducible rfl
    rotate_left
    ·simp only [Act.put, List.setIfInBounds_toArray, List.set_cons_zero, List.set_cons_succ, i64_w, i32_w]
     rfl
    refine pure_ (i := 5) (N := some 56) (v := ?_) (a' := ?_) #[true, false, true, false, false, true, false, false, false, false, false, false] rfl rfl (any_of HT_.out (by kernel_rfl)) (fun _ _ _ h => h) (Or.inl ⟨by rfl, ?_⟩) ?_ ?_
    rotate_left
    ·intro w'
     go_simp
     with_reducible rfl
    rotate_left
    ·simp only [Act.put, List.setIfInBounds_toArray, List.set_cons_zero, List.set_cons_succ, i64_w, i32_w]
     rfl
    refine pure_ (i := 7) (N := some 58) (v := ?_) (a' := ?_) #[true, false, true, false, false, true, false, true, false, false, false, false] rfl rfl (any_of HT_.out (by kernel_rfl)) (fun _ _ _ h => h) (Or.inl ⟨by rfl, ?_⟩) ?_ ?_
    rotate_left
    ·intro w'
     go_simp
     with_reducible rfl
    rotate_left
    ·simp only [Act.put, List.setIfInBounds_toArray, List.set_cons_zero, List.set_cons_succ, i64_w, i32_w]
     rfl
    refine take_ (i := 1) (N := some 52) (v := ?_) (a' := ?_) #[true, true, true, false, false, true, false, true, false, false, false, false] rfl rfl (take_ofW HT_.out HW_.out (by kernel_rfl)) (fun _ _ _ h => h) (Or.inl ⟨by rfl, ?_⟩) hHeld ?_ ?_
    rotate_left
    ·rintro w' ⟨s0, s1, s2, s3⟩
     go_simp
     with_reducible rfl
    rotate_left
    ·simp only [Act.put, List.setIfInBounds_toArray, List.set_cons_zero, List.set_cons_succ, i64_w, i32_w]
     rfl
    refine take_ (i := 3) (N := some 54) (v := ?_) (a' := ?_) #[true, true, true, true, false, true, false, true, false, false, false, false] rfl rfl (take_ofW HT_.out HW_.out (by kernel_rfl)) (fun _ _ _ h => h) (Or.inl ⟨by rfl, ?_⟩) hHeld ?_ ?_
    rotate_left
    ·rintro w' ⟨s0, s1, s2, s3⟩
     go_simp
     with_reducible rfl
    rotate_left
    ·simp only [Act.put, List.setIfInBounds_toArray, List.set_cons_zero, List.set_cons_succ, i64_w, i32_w]
     rfl
    refine take_ (i := 6) (N := some 57) (v := ?_) (a' := ?_) #[true, true, true, true, false, true, true, true, false, false, false, false] rfl rfl (take_ofW HT_.out HW_.out (by kernel_rfl)) (fun _ _ _ h => h) (Or.inl ⟨by rfl, ?_⟩) hHeld ?_ ?_
    rotate_left
    ·rintro w' ⟨s0, s1, s2, s3⟩
     go_simp
     with_reducible rfl
    rotate_left
    ·simp only [Act.put, List.setIfInBounds_toArray, List.set_cons_zero, List.set_cons_succ, i64_w, i32_w]
     rfl
    refine take_ (i := 8) (N := some 59) (v := ?_) (a' := ?_) #[true, true, true, true, false, true, true, true, true, false, false, false] rfl rfl (take_ofW HT_.out HW_.out (by kernel_rfl)) (fun _ _ _ h => h) (Or.inl ⟨by rfl, ?_⟩) hHeld ?_ ?_
    rotate_left
    ·rintro w' ⟨s0, s1, s2, s3⟩
     go_simp
     with_reducible rfl
    rotate_left
    ·simp only [Act.put, List.setIfInBounds_toArray, List.set_cons_zero, List.set_cons_succ, i64_w, i32_w]
     rfl
    refine one_ (i := 4) (N := some 55) #[true, true, true, true, true, true, true, true, true, false, false, false] rfl rfl (one_of HT_.out (by kernel_rfl)) (by decide) (fun K hK => ?_)
    refine goes_ Tryz.func88 (by kernel_rfl) rfl #[.string a0_0, .string a1_1] (by rfl) rfl rfl mp_ ?_
    with_reducible refine (whole_Mul.calls kj3 a0_0 a1_1 t217 _ ?side1 A33.out).mono ?_
    (case side1 => exact gw_ HG)
    rintro e w40 ⟨rfl, hb⟩
    refine ⟨_, rfl, ?_⟩
    have n0_ := kb_ BK208 hb
    have n1_ := kb_ BK209 hb
    have n2_ := bs_ hb
    clear BK208
    clear BK209
    clear HB
    have BK208 := n0_
    have BK209 := n1_
    have HB := n2_
    clear n0_ n1_ n2_
    (try clear hb); (try clear hb2); (try clear hk); (try clear hi)
    refine hK.out _ _ ⟨(blk_cell BK208.out 0).trans rfl, (blk_cell BK208.out 1).trans rfl, (blk_cell BK209.out 0).trans rfl, (blk_cell BK209.out 1).trans rfl⟩ (fun hHeld => ?_)
    clear hK K
    refine norm_ (a' := ?_) ?_ ?_
    rotate_left
    ·show Act.put _ (some 55) _ = _
     simp only [Act.put, List.setIfInBounds_toArray, List.set_cons_zero, List.set_cons_succ, i64_w, i32_w]
     rfl
    refine one_ (i := 9) (N := some 60) #[true, true, true, true, true, true, true, true, true, true, false, false] rfl rfl (one_of HT_.out (by kernel_rfl)) (by decide) (fun K hK => ?_)
    refine goes_ Tryz.func88 (by kernel_rfl) rfl #[.string a1_0, .string a0_1] (by rfl) rfl rfl mp_ ?_
    with_reducible refine (whole_Mul.calls kj3 a1_0 a0_1 t218 _ ?side1 A34.out).mono ?_
    (case side1 => exact gw_ HG)
    rintro e w41 ⟨rfl, hb⟩
    refine ⟨_, rfl, ?_⟩
    have n0_ := kb_ BK208 hb
    have n1_ := kb_ BK209 hb
    have n2_ := bs_ hb
    clear BK208
    clear BK209
    clear HB
    have BK208 := n0_
    have BK209 := n1_
    have HB := n2_
    clear n0_ n1_ n2_
    (try clear hb); (try clear hb2); (try clear hk); (try clear hi)
    refine hK.out _ _ ⟨(blk_cell BK208.out 0).trans rfl, (blk_cell BK208.out 1).trans rfl, (blk_cell BK209.out 0).trans rfl, (blk_cell BK209.out 1).trans rfl⟩ (fun hHeld => ?_)
    clear hK K
    refine norm_ (a' := ?_) ?_ ?_
    rotate_left
    ·show Act.put _ (some 60) _ = _
     simp only [Act.put, List.setIfInBounds_toArray, List.set_cons_zero, List.set_cons_succ, i64_w, i32_w]
     rfl
    refine one_ (i := 10) (N := some 61) #[true, true, true, true, true, true, true, true, true, true, true, false] rfl rfl (one_of HT_.out (by kernel_rfl)) (by decide) (fun K hK => ?_)
    refine goes_ Tryz.func58 (by kernel_rfl) rfl #[.string t217, .string t218] (by rfl) rfl rfl mp_ ?_
    with_reducible refine (whole_Compare.calls t217 t218 t219 _ A35.out).mono ?_
    rintro e w42 ⟨rfl, hb⟩
    refine ⟨_, rfl, ?_⟩
    have n0_ := kb_ BK208 hb
    have n1_ := kb_ BK209 hb
    have n2_ := bs_ hb
    clear BK208
    clear BK209
    clear HB
    have BK208 := n0_
    have BK209 := n1_
    have HB := n2_
    clear n0_ n1_ n2_
    (try clear hb); (try clear hb2); (try clear hk); (try clear hi)
    refine hK.out _ _ ⟨(blk_cell BK208.out 0).trans rfl, (blk_cell BK208.out 1).trans rfl, (blk_cell BK209.out 0).trans rfl, (blk_cell BK209.out 1).trans rfl⟩ (fun hHeld => ?_)
    clear hK K
    refine norm_ (a' := ?_) ?_ ?_
    rotate_left
    ·show Act.put _ (some 61) _ = _
     simp only [Act.put, List.setIfInBounds_toArray, List.set_cons_zero, List.set_cons_succ, i64_w, i32_w]
     rfl
    refine pure_ (i := 11) (N := some 4) (v := ?_) (a' := ?_) #[true, true, true, true, true, true, true, true, true, true, true, true] rfl rfl (any_of HT_.out (by kernel_rfl)) (fun _ _ _ h => h) (Or.inl ⟨by rfl, ?_⟩) ?_ ?_
    rotate_left
    ·intro w'
     go_simp
     with_reducible rfl
    rotate_left
    ·simp only [Act.put, List.setIfInBounds_toArray, List.set_cons_zero, List.set_cons_succ, i64_w, i32_w]
     rfl
    refine done_ (done_of HT_.out (by kernel_rfl)) ?_
    try go_wp2
    go_ret
    exact ⟨er_, bl_⟩
def fraction_Abs.f (a0_0 : ByteArray) (a0_1 : ByteArray) : Option (ByteArray × ByteArray) := (whole_Abs.f a0_0).bind fun t222 => (some (t222, a0_1))
set_option maxHeartbeats 8000000 in
set_option maxRecDepth 100000 in
theorem fraction_Abs.calls (a0_0 : ByteArray) (a0_1 : ByteArray) (r1 : ByteArray) (r2 : ByteArray) (w : World) (h : fraction_Abs.f a0_0 a0_1 = some (r1, r2)) :
  Calls Tryz.prog 89 #[.agg #[.string a0_0, .string a0_1]] w fun e w' => e = .returned (.agg #[.string r1, .string r2]) ∧ Below w.heap.size w w' := by
 have hu24 := Tryz.underlying24
 have HB := Aside0.mk (Below.refl w.heap.size w)
 have H : ((whole_Abs.f a0_0).bind fun t222 => (some (t222, a0_1))) = some (r1, r2) := h
 clear h
 replace H := Option.bind_eq_some_iff.mp H
 obtain ⟨t222, A20, H⟩ := H
 replace H : (some (t222, a0_1)) = some (r1, r2) := H
 have A2 := Aside0.mk A20
 clear A20
 simp only [Option.some.injEq, Prod.mk.injEq] at H
 obtain ⟨rfl, rfl⟩ := H
 go_enter Tryz.func89, Tryz.ntmps89
 try go_wp2_with (first | ((with_reducible refine gate_dst (N := 1) rfl ?_); refine bx_ 1 #[.string a0_0, .string a0_1] 24 ?_; clear HB; intro gb220 w3 BK220 GW220 HB; have GE220 := GW220) | ((with_reducible refine gate_dst (N := 2) rfl ?_); refine box_event ?hg (N := 2) ?hd (cs := #[.string (⟨#[]⟩ : ByteArray), .string (⟨#[]⟩ : ByteArray)]) (t := 24) ?hr ?_; (case hd => rfl); (case hg => rfl); (case hr => first | (go_simp; done) | (go_simp; rfl)); intro gb221 hg w4 hbox hb; have BK221 := Aside0.mk (hbox); have GW221 := ge_ (w := w) hg; have GE221 := ge_ (w := w) hg; replace HB := bs_ hb; have NB220_221 := nl_ hg BK220; have NB221_220 := ng_ hg BK220; replace BK220 := kb_ BK220 hb; clear hb hbox hg))
 have n0_ := Aside0.mk (blk_drew BK220.out)
 have n1_ := Aside0.mk (blk_drew BK221.out)
 have n2_ := Aside0.mk (below_drew1 HB.out)
 clear BK220
 clear BK221
 clear HB
 have BK220 := n0_
 have BK221 := n1_
 have HB := n2_
 clear n0_ n1_ n2_
 refine start_ (n := 7) (S := fun w' => w'.cell? ⟨gb220, 0, none⟩ = some (.string a0_0) ∧ w'.cell? ⟨gb220, 1, none⟩ = some (.string a0_1)) (ds := []) #[false, false, false, false, false, false, false] (by kernel_rfl) rfl rfl ⟨(blk_cell BK220.out 0).trans rfl, (blk_cell BK220.out 1).trans rfl⟩ (fun hHeld => ?_)
 generalize w4.drew = w5 at BK220 BK221 HB hHeld ⊢
 refine pure_ (i := 0) (N := some 3) (v := ?_) (a' := ?_) #[true, false, false, false, false, false, false] rfl rfl (by kernel_rfl) (fun _ _ _ h => h) (Or.inl ⟨by rfl, ?_⟩) ?_ ?_
 rotate_left
 ·intro w'
  go_simp
  with_reducible rfl
 rotate_left
 ·simp only [Act.put, List.setIfInBounds_toArray, List.set_cons_zero, List.set_cons_succ, i64_w, i32_w]
  rfl
 refine pure_ (i := 3) (N := some 6) (v := ?_) (a' := ?_) #[true, false, false, true, false, false, false] rfl rfl (by kernel_rfl) (fun _ _ _ h => h) (Or.inl ⟨by rfl, ?_⟩) ?_ ?_
 rotate_left
 ·intro w'
  go_simp
  with_reducible rfl
 rotate_left
 ·simp only [Act.put, List.setIfInBounds_toArray, List.set_cons_zero, List.set_cons_succ, i64_w, i32_w]
  rfl
 refine take_ (i := 1) (N := some 4) (v := ?_) (a' := ?_) #[true, true, false, true, false, false, false] rfl rfl (by kernel_rfl) (fun _ _ _ h => h) (Or.inl ⟨by rfl, ?_⟩) hHeld ?_ ?_
 rotate_left
 ·rintro w' ⟨s0, s1⟩
  go_simp
  with_reducible rfl
 rotate_left
 ·simp only [Act.put, List.setIfInBounds_toArray, List.set_cons_zero, List.set_cons_succ, i64_w, i32_w]
  rfl
 refine take_ (i := 4) (N := some 7) (v := ?_) (a' := ?_) #[true, true, false, true, true, false, false] rfl rfl (by kernel_rfl) (fun _ _ _ h => h) (Or.inl ⟨by rfl, ?_⟩) hHeld ?_ ?_
 rotate_left
 ·rintro w' ⟨s0, s1⟩
  go_simp
  with_reducible rfl
 rotate_left
 ·simp only [Act.put, List.setIfInBounds_toArray, List.set_cons_zero, List.set_cons_succ, i64_w, i32_w]
  rfl
 refine one_ (i := 2) (N := some 5) #[true, true, true, true, true, false, false] rfl rfl (by kernel_rfl) (by decide) (fun K hK => ?_)
 refine goes_ Tryz.func125 (by kernel_rfl) rfl #[.string a0_0] (by rfl) rfl rfl mp_ ?_
 with_reducible refine (whole_Abs.calls a0_0 t222 _ A2.out).mono ?_
 rintro e w' ⟨rfl, ⟨nd, rfl⟩⟩
 refine ⟨_, rfl, ?_⟩
 refine hK.out _ _ ⟨(blk_cell BK220.out 0).trans rfl, (blk_cell BK220.out 1).trans rfl⟩ (fun hHeld => ?_)
 clear hK K
 refine norm_ (a' := ?_) ?_ ?_
 rotate_left
 ·show Act.put _ (some 5) _ = _
  simp only [Act.put, List.setIfInBounds_toArray, List.set_cons_zero, List.set_cons_succ, i64_w, i32_w]
  rfl
 refine pure_ (i := 5) (N := some 8) (v := ?_) (a' := ?_) #[true, true, true, true, true, true, false] rfl rfl (by kernel_rfl) (fun _ _ _ h => h) (Or.inl ⟨by rfl, ?_⟩) ?_ ?_
 rotate_left
 ·intro w'
  go_simp
  with_reducible rfl
 rotate_left
 ·simp only [Act.put, List.setIfInBounds_toArray, List.set_cons_zero, List.set_cons_succ, i64_w, i32_w]
  rfl
 refine one_ (i := 6) (N := none) #[true, true, true, true, true, true, true] rfl rfl (by kernel_rfl) (by decide) (fun K hK => ?_)
 have hs6 : w5.cell? ⟨gb221, 0, none⟩ = some (.string (⟨#[]⟩ : ByteArray)) := (blk_cell BK221.out 0).trans rfl
 have hfs6 := blk_frozen BK221.out 0
 have hns6_0 := NB220_221.out
 have hms6_0 := NB221_220.out
 have hs7 : w5.cell? ⟨gb221, 1, none⟩ = some (.string (⟨#[]⟩ : ByteArray)) := (blk_cell BK221.out 1).trans rfl
 have hfs7 := blk_frozen BK221.out 1
 have hns7_0 := NB220_221.out
 have hms7_0 := NB221_220.out
 refine skip_ (w1 := ?_) (by rfl) rfl ?_ ?_
 rotate_left
 ·go_simp
  rfl
 refine hK.out _ _ ⟨((cell_far (p := ⟨gb221, _, none⟩) NB220_221.out _).trans (((cell_far (p := ⟨gb221, _, none⟩) NB220_221.out _).trans (hHeld.1)))), ((cell_far (p := ⟨gb221, _, none⟩) NB220_221.out _).trans (((cell_far (p := ⟨gb221, _, none⟩) NB220_221.out _).trans (hHeld.2))))⟩ (fun hHeld => ?_)
 clear hK K
 refine done_ (by kernel_rfl) ?_
 try go_wp2
 refine bodyPost_ret (results_cell_row rfl _ _ gb221 24 #[.string t222, .string a0_1] (0, 0) _ rfl (by (with_reducible repeat (first | refine blk_drewN ?_ _ | refine blk_drew ?_ | refine blk_alloc ?_ _)); refine blk_put (cs := #[.string t222, .string (⟨#[]⟩ : ByteArray)]) ?_ 1 _ rfl; (with_reducible repeat (first | refine blk_drewN ?_ _ | refine blk_drew ?_ | refine blk_alloc ?_ _)); refine blk_put (cs := #[.string (⟨#[]⟩ : ByteArray), .string (⟨#[]⟩ : ByteArray)]) ?_ 0 _ rfl; (with_reducible repeat (first | refine blk_drewN ?_ _ | refine blk_drew ?_ | refine blk_alloc ?_ _)); exact BK221.out) Tryz.underlying24 rfl (by kernel_rfl)) rfl ?_
 exact ⟨er_, bl_⟩
def whole_Neg.f (a0 : ByteArray) : Option (ByteArray) := (whole_split.f a0).bind fun bt223 => ((whole_join.f (!bt223.1) bt223.2).bind fun t225 => (some t225))
set_option maxHeartbeats 8000000 in
set_option maxRecDepth 100000 in
theorem whole_Neg.calls (a0 : ByteArray) (r : ByteArray) (w : World) (h : whole_Neg.f a0 = some r) :
  Calls Tryz.prog 95 #[.string a0] w fun e w' => e = .returned (.string r) ∧ Drawn0 w w' := by
 have H : ((whole_split.f a0).bind fun bt223 => ((whole_join.f (!bt223.1) bt223.2).bind fun t225 => (some t225))) = some r := h
 clear h
 replace H := Option.bind_eq_some_iff.mp H
 obtain ⟨⟨t223, t224⟩, A20, H⟩ := H
 replace H : ((whole_join.f (!t223) t224).bind fun t225 => (some t225)) = some r := H
 have A2 := Aside0.mk A20
 clear A20
 replace H := Option.bind_eq_some_iff.mp H
 obtain ⟨t225, A30, H⟩ := H
 replace H : (some t225) = some r := H
 have A3 := Aside0.mk A30
 clear A30
 obtain rfl := Option.some.inj H
 go_enter Tryz.func95, Tryz.ntmps95
 go_wp2_with (first | ((with_reducible refine gate_callee (f := 78) rfl ?_); refine goesL_ (some 7) rfl rfl Tryz.func78 (by kernel_rfl) rfl #[.string a0] rfl mp_ ?_; (with_reducible refine (whole_split.calls a0 t223 t224 _ A2.out).mono ?_); rintro e w' ⟨rfl, ⟨nd, rfl⟩⟩; refine ⟨_, rfl, ?_⟩) | ((with_reducible refine gate_callee (f := 79) rfl ?_); refine goesL_ (some 13) rfl rfl Tryz.func79 (by kernel_rfl) rfl #[.bool (!t223), .string t224] rfl mp_ ?_; (with_reducible refine (whole_join.calls (!t223) t224 t225 _ A3.out).mono ?_); rintro e w' ⟨rfl, ⟨nd, rfl⟩⟩; refine ⟨_, rfl, ?_⟩))
 go_ret
 exact ⟨by first | rfl | (simp; done) | (simp [*]; done), by repeat (first | exact Drawn0.refl _ | apply Drawn0.step)⟩
def fraction_Neg.f (a0_0 : ByteArray) (a0_1 : ByteArray) : Option (ByteArray × ByteArray) := (whole_Neg.f a0_0).bind fun t228 => (some (t228, a0_1))
set_option maxHeartbeats 8000000 in
set_option maxRecDepth 100000 in
theorem fraction_Neg.calls (a0_0 : ByteArray) (a0_1 : ByteArray) (r1 : ByteArray) (r2 : ByteArray) (w : World) (h : fraction_Neg.f a0_0 a0_1 = some (r1, r2)) :
  Calls Tryz.prog 73 #[.agg #[.string a0_0, .string a0_1]] w fun e w' => e = .returned (.agg #[.string r1, .string r2]) ∧ Below w.heap.size w w' := by
 have hu24 := Tryz.underlying24
 have HB := Aside0.mk (Below.refl w.heap.size w)
 have H : ((whole_Neg.f a0_0).bind fun t228 => (some (t228, a0_1))) = some (r1, r2) := h
 clear h
 replace H := Option.bind_eq_some_iff.mp H
 obtain ⟨t228, A20, H⟩ := H
 replace H : (some (t228, a0_1)) = some (r1, r2) := H
 have A2 := Aside0.mk A20
 clear A20
 simp only [Option.some.injEq, Prod.mk.injEq] at H
 obtain ⟨rfl, rfl⟩ := H
 go_enter Tryz.func73, Tryz.ntmps73
 try go_wp2_with (first | ((with_reducible refine gate_dst (N := 1) rfl ?_); refine bx_ 1 #[.string a0_0, .string a0_1] 24 ?_; clear HB; intro gb226 w3 BK226 GW226 HB; have GE226 := GW226) | ((with_reducible refine gate_dst (N := 2) rfl ?_); refine box_event ?hg (N := 2) ?hd (cs := #[.string (⟨#[]⟩ : ByteArray), .string (⟨#[]⟩ : ByteArray)]) (t := 24) ?hr ?_; (case hd => rfl); (case hg => rfl); (case hr => first | (go_simp; done) | (go_simp; rfl)); intro gb227 hg w4 hbox hb; have BK227 := Aside0.mk (hbox); have GW227 := ge_ (w := w) hg; have GE227 := ge_ (w := w) hg; replace HB := bs_ hb; have NB226_227 := nl_ hg BK226; have NB227_226 := ng_ hg BK226; replace BK226 := kb_ BK226 hb; clear hb hbox hg))
 have n0_ := Aside0.mk (blk_drew BK226.out)
 have n1_ := Aside0.mk (blk_drew BK227.out)
 have n2_ := Aside0.mk (below_drew1 HB.out)
 clear BK226
 clear BK227
 clear HB
 have BK226 := n0_
 have BK227 := n1_
 have HB := n2_
 clear n0_ n1_ n2_
 refine start_ (n := 7) (S := fun w' => w'.cell? ⟨gb226, 0, none⟩ = some (.string a0_0) ∧ w'.cell? ⟨gb226, 1, none⟩ = some (.string a0_1)) (ds := []) #[false, false, false, false, false, false, false] (by kernel_rfl) rfl rfl ⟨(blk_cell BK226.out 0).trans rfl, (blk_cell BK226.out 1).trans rfl⟩ (fun hHeld => ?_)
 generalize w4.drew = w5 at BK226 BK227 HB hHeld ⊢
 refine pure_ (i := 0) (N := some 3) (v := ?_) (a' := ?_) #[true, false, false, false, false, false, false] rfl rfl (by kernel_rfl) (fun _ _ _ h => h) (Or.inl ⟨by rfl, ?_⟩) ?_ ?_
 rotate_left
 ·intro w'
  go_simp
  with_reducible rfl
 rotate_left
 ·simp only [Act.put, List.setIfInBounds_toArray, List.set_cons_zero, List.set_cons_succ, i64_w, i32_w]
  rfl
 refine pure_ (i := 3) (N := some 6) (v := ?_) (a' := ?_) #[true, false, false, true, false, false, false] rfl rfl (by kernel_rfl) (fun _ _ _ h => h) (Or.inl ⟨by rfl, ?_⟩) ?_ ?_
 rotate_left
 ·intro w'
  go_simp
  with_reducible rfl
 rotate_left
 ·simp only [Act.put, List.setIfInBounds_toArray, List.set_cons_zero, List.set_cons_succ, i64_w, i32_w]
  rfl
 refine take_ (i := 1) (N := some 4) (v := ?_) (a' := ?_) #[true, true, false, true, false, false, false] rfl rfl (by kernel_rfl) (fun _ _ _ h => h) (Or.inl ⟨by rfl, ?_⟩) hHeld ?_ ?_
 rotate_left
 ·rintro w' ⟨s0, s1⟩
  go_simp
  with_reducible rfl
 rotate_left
 ·simp only [Act.put, List.setIfInBounds_toArray, List.set_cons_zero, List.set_cons_succ, i64_w, i32_w]
  rfl
 refine take_ (i := 4) (N := some 7) (v := ?_) (a' := ?_) #[true, true, false, true, true, false, false] rfl rfl (by kernel_rfl) (fun _ _ _ h => h) (Or.inl ⟨by rfl, ?_⟩) hHeld ?_ ?_
 rotate_left
 ·rintro w' ⟨s0, s1⟩
  go_simp
  with_reducible rfl
 rotate_left
 ·simp only [Act.put, List.setIfInBounds_toArray, List.set_cons_zero, List.set_cons_succ, i64_w, i32_w]
  rfl
 refine one_ (i := 2) (N := some 5) #[true, true, true, true, true, false, false] rfl rfl (by kernel_rfl) (by decide) (fun K hK => ?_)
 refine goes_ Tryz.func95 (by kernel_rfl) rfl #[.string a0_0] (by rfl) rfl rfl mp_ ?_
 with_reducible refine (whole_Neg.calls a0_0 t228 _ A2.out).mono ?_
 rintro e w' ⟨rfl, ⟨nd, rfl⟩⟩
 refine ⟨_, rfl, ?_⟩
 refine hK.out _ _ ⟨(blk_cell BK226.out 0).trans rfl, (blk_cell BK226.out 1).trans rfl⟩ (fun hHeld => ?_)
 clear hK K
 refine norm_ (a' := ?_) ?_ ?_
 rotate_left
 ·show Act.put _ (some 5) _ = _
  simp only [Act.put, List.setIfInBounds_toArray, List.set_cons_zero, List.set_cons_succ, i64_w, i32_w]
  rfl
 refine pure_ (i := 5) (N := some 8) (v := ?_) (a' := ?_) #[true, true, true, true, true, true, false] rfl rfl (by kernel_rfl) (fun _ _ _ h => h) (Or.inl ⟨by rfl, ?_⟩) ?_ ?_
 rotate_left
 ·intro w'
  go_simp
  with_reducible rfl
 rotate_left
 ·simp only [Act.put, List.setIfInBounds_toArray, List.set_cons_zero, List.set_cons_succ, i64_w, i32_w]
  rfl
 refine one_ (i := 6) (N := none) #[true, true, true, true, true, true, true] rfl rfl (by kernel_rfl) (by decide) (fun K hK => ?_)
 have hs6 : w5.cell? ⟨gb227, 0, none⟩ = some (.string (⟨#[]⟩ : ByteArray)) := (blk_cell BK227.out 0).trans rfl
 have hfs6 := blk_frozen BK227.out 0
 have hns6_0 := NB226_227.out
 have hms6_0 := NB227_226.out
 have hs7 : w5.cell? ⟨gb227, 1, none⟩ = some (.string (⟨#[]⟩ : ByteArray)) := (blk_cell BK227.out 1).trans rfl
 have hfs7 := blk_frozen BK227.out 1
 have hns7_0 := NB226_227.out
 have hms7_0 := NB227_226.out
 refine skip_ (w1 := ?_) (by rfl) rfl ?_ ?_
 rotate_left
 ·go_simp
  rfl
 refine hK.out _ _ ⟨((cell_far (p := ⟨gb227, _, none⟩) NB226_227.out _).trans (((cell_far (p := ⟨gb227, _, none⟩) NB226_227.out _).trans (hHeld.1)))), ((cell_far (p := ⟨gb227, _, none⟩) NB226_227.out _).trans (((cell_far (p := ⟨gb227, _, none⟩) NB226_227.out _).trans (hHeld.2))))⟩ (fun hHeld => ?_)
 clear hK K
 refine done_ (by kernel_rfl) ?_
 try go_wp2
 refine bodyPost_ret (results_cell_row rfl _ _ gb227 24 #[.string t228, .string a0_1] (0, 0) _ rfl (by (with_reducible repeat (first | refine blk_drewN ?_ _ | refine blk_drew ?_ | refine blk_alloc ?_ _)); refine blk_put (cs := #[.string t228, .string (⟨#[]⟩ : ByteArray)]) ?_ 1 _ rfl; (with_reducible repeat (first | refine blk_drewN ?_ _ | refine blk_drew ?_ | refine blk_alloc ?_ _)); refine blk_put (cs := #[.string (⟨#[]⟩ : ByteArray), .string (⟨#[]⟩ : ByteArray)]) ?_ 0 _ rfl; (with_reducible repeat (first | refine blk_drewN ?_ _ | refine blk_drew ?_ | refine blk_alloc ?_ _)); exact BK227.out) Tryz.underlying24 rfl (by kernel_rfl)) rfl ?_
 exact ⟨er_, bl_⟩
end Go.Proofs.YtidajgkepdkcbaaGreatDoor.PF
end
section
namespace Go.Proofs.YtidajgkepdkcbaaGreatDoor.PF
open Go.RowKit Go.Proofs.YtidajgkepdkcbaaGreatDoorW.PrintWords Go.Proofs.YtidajgkepdkcbaaGreatDoorW.PrintLast Go.Proofs.YtidajgkepdkcbaaGreatDoorW.PrintMore
attribute [local go_sem] max2_int min2_int max_two min_two max_three min_three max_four min_four
def whole_Add.j0 : Nat → ByteArray → ByteArray → Option (ByteArray)
 | 0, _, _ => none
 | k + 1, x0, x1 => (whole_split.f x0).bind fun bt234 => ((whole_split.f x1).bind fun bt236 => (if (bt234.1 == bt236.1) = true then ((decimal_Add.f bt234.2 bt236.2).bind fun t238 => ((whole_join.f bt234.1 t238).bind fun t239 => (some t239))) else ((decimal_Compare.f bt234.2 bt236.2).bind fun t240 => (if t240 < 0 then ((decimal_Sub.f bt236.2 bt234.2).bind fun bt241 => ((whole_join.f bt236.1 bt241.1).bind fun t243 => (some t243))) else ((decimal_Sub.f bt234.2 bt236.2).bind fun bt244 => ((whole_join.f bt234.1 bt244.1).bind fun t246 => (some t246)))))))
def whole_Add.f (k : Nat) (a0 : ByteArray) (a1 : ByteArray) : Option (ByteArray) := (whole_little.f a0 18).bind fun bt229 => (if bt229.2 = true then ((whole_little.f a1 18).bind fun bt231 => (if bt231.2 = true then ((whole_Of.f (wrap64 (bt229.1 + bt231.1))).bind fun t233 => (some t233)) else (whole_Add.j0 k a0 a1))) else (whole_Add.j0 k a0 a1))
set_option maxHeartbeats 8000000 in
set_option maxRecDepth 100000 in
theorem whole_Add.calls (k : Nat) (a0 : ByteArray) (a1 : ByteArray) (r : ByteArray) (w : World) (hG_ : GWorld w) (h : whole_Add.f k a0 a1 = some r) :
  Calls Tryz.prog 42 #[.string a0, .string a1] w fun e w' => e = .returned (.string r) ∧ Below w.heap.size w w' := by
 have HB := Aside0.mk (Below.refl w.heap.size w)
 have HG := Aside0.mk hG_
 clear hG_
 have H : ((whole_little.f a0 18).bind fun bt229 => (if bt229.2 = true then ((whole_little.f a1 18).bind fun bt231 => (if bt231.2 = true then ((whole_Of.f (wrap64 (bt229.1 + bt231.1))).bind fun t233 => (some t233)) else (whole_Add.j0 k a0 a1))) else (whole_Add.j0 k a0 a1))) = some r := h
 clear h
 replace H := Option.bind_eq_some_iff.mp H
 obtain ⟨⟨t229, t230⟩, A30, H⟩ := H
 replace H : (if t230 = true then ((whole_little.f a1 18).bind fun bt231 => (if bt231.2 = true then ((whole_Of.f (wrap64 (t229 + bt231.1))).bind fun t233 => (some t233)) else (whole_Add.j0 k a0 a1))) else (whole_Add.j0 k a0 a1)) = some r := H
 have A3 := Aside0.mk A30
 clear A30
 have HC4 := Aside0.mk H
 clear H
 go_enter Tryz.func42, Tryz.ntmps42
 go_upto_if 20 with (first | ((with_reducible refine gate_callee (f := 77) rfl ?_); refine goesL_ (some 17) rfl rfl Tryz.func77 (by kernel_rfl) rfl #[.string a0, .int .i64 18] rfl mp_ ?_; (with_reducible refine (whole_little.calls a0 18 t229 t230 _ A3.out).mono ?_); rintro e w5 ⟨rfl, hb⟩; refine ⟨_, rfl, ?_⟩; replace HB := bs_ hb; (try clear hb); (try clear hb2); (try clear hk); (try clear hi)))
 (try simp only [Act.put, List.setIfInBounds_toArray, List.set_cons_zero, List.set_cons_succ])
 go_cut [] (fun wc => ∃ (kq : Nat), Aside0 (whole_Add.j0 kq a0 a1 = some r) ∧ Aside0 (kq ≤ k) ∧ Aside0 (Below w.heap.size w wc))
 case first =>
  have H := HC4.out
  clear HC4
  by_cases c6 : t230 = true
  ·subst c6
   have H1 : ((whole_little.f a1 18).bind fun bt231 => (if bt231.2 = true then ((whole_Of.f (wrap64 (t229 + bt231.1))).bind fun t233 => (some t233)) else (whole_Add.j0 k a0 a1))) = some r := by rw [if_pos rfl] at H; exact H
   clear H
   have H := H1
   clear H1
   replace H := Option.bind_eq_some_iff.mp H
   obtain ⟨⟨t231, t232⟩, A70, H⟩ := H
   replace H : (if t232 = true then ((whole_Of.f (wrap64 (t229 + t231))).bind fun t233 => (some t233)) else (whole_Add.j0 k a0 a1)) = some r := H
   have A7 := Aside0.mk A70
   clear A70
   by_cases c8 : t232 = true
   ·subst c8
    have H1 : ((whole_Of.f (wrap64 (t229 + t231))).bind fun t233 => (some t233)) = some r := by rw [if_pos rfl] at H; exact H
    clear H
    have H := H1
    clear H1
    replace H := Option.bind_eq_some_iff.mp H
    obtain ⟨t233, A90, H⟩ := H
    replace H : (some t233) = some r := H
    have A9 := Aside0.mk A90
    clear A90
    obtain rfl := Option.some.inj H
    go_wp2_with (first | ((with_reducible refine gate_callee (f := 77) rfl ?_); refine goesL_ (some 23) rfl rfl Tryz.func77 (by kernel_rfl) rfl #[.string a1, .int .i64 18] rfl mp_ ?_; (with_reducible refine (whole_little.calls a1 18 t231 true _ A7.out).mono ?_); rintro e w10 ⟨rfl, hb⟩; refine ⟨_, rfl, ?_⟩; replace HB := bs_ hb; (try clear hb); (try clear hb2); (try clear hk); (try clear hi)) | ((with_reducible refine gate_callee (f := 59) rfl ?_); refine goesL_ (some 30) rfl rfl Tryz.func59 (by kernel_rfl) rfl #[.int .i64 (wrap64 (t229 + t231))] rfl mp_ ?_; (with_reducible refine (whole_Of.calls (wrap64 (t229 + t231)) t233 _ ?side1 A9.out).mono ?_); (case side1 => exact gw_ HG); rintro e w11 ⟨rfl, hb⟩; refine ⟨_, rfl, ?_⟩; replace HB := bs_ hb; (try clear hb); (try clear hb2); (try clear hk); (try clear hi)))
    go_ret
    exact ⟨er_, bl_⟩
   ·replace c8 := Bool.eq_false_iff.mpr c8
    subst c8
    have H1 : (whole_Add.j0 k a0 a1) = some r := by rw [if_neg (show ¬ (false = true) by decide)] at H; exact H
    clear H
    have H := H1
    clear H1
    have H' := Aside0.mk H
    clear H
    go_wp2_with (first | ((with_reducible refine gate_callee (f := 77) rfl ?_); refine goesL_ (some 23) rfl rfl Tryz.func77 (by kernel_rfl) rfl #[.string a1, .int .i64 18] rfl mp_ ?_; (with_reducible refine (whole_little.calls a1 18 t231 false _ A7.out).mono ?_); rintro e w12 ⟨rfl, hb⟩; refine ⟨_, rfl, ?_⟩; replace HB := bs_ hb; (try clear hb); (try clear hb2); (try clear hk); (try clear hi)))
    go_meet
    case rel => exact ⟨_, H', ⟨by first | omega | exact Nat.le_refl _⟩, ⟨bl_⟩⟩
  ·replace c6 := Bool.eq_false_iff.mpr c6
   subst c6
   have H1 : (whole_Add.j0 k a0 a1) = some r := by rw [if_neg (show ¬ (false = true) by decide)] at H; exact H
   clear H
   have H := H1
   clear H1
   have H' := Aside0.mk H
   clear H
   go_wp2
   go_meet
   case rel => exact ⟨_, H', ⟨by first | omega | exact Nat.le_refl _⟩, ⟨bl_⟩⟩
 case rest =>
  clear HC4
  try clear p2
  try clear c4
  try clear c5
  try clear c6
  try clear p6
  try clear c7
  try clear c8
  obtain ⟨kq, HA, HJ3, HB⟩ := hcut
  cases kq with
  | zero => exact absurd HA.out (by simp [whole_Add.j0])
  | succ kj3 =>
   have H := HA.out
   clear HA
   simp only [whole_Add.j0] at H
   replace H := Option.bind_eq_some_iff.mp H
   obtain ⟨⟨t234, t235⟩, A130, H⟩ := H
   replace H : ((whole_split.f a1).bind fun bt236 => (if (t234 == bt236.1) = true then ((decimal_Add.f t235 bt236.2).bind fun t238 => ((whole_join.f t234 t238).bind fun t239 => (some t239))) else ((decimal_Compare.f t235 bt236.2).bind fun t240 => (if t240 < 0 then ((decimal_Sub.f bt236.2 t235).bind fun bt241 => ((whole_join.f bt236.1 bt241.1).bind fun t243 => (some t243))) else ((decimal_Sub.f t235 bt236.2).bind fun bt244 => ((whole_join.f t234 bt244.1).bind fun t246 => (some t246))))))) = some r := H
   have A13 := Aside0.mk A130
   clear A130
   replace H := Option.bind_eq_some_iff.mp H
   obtain ⟨⟨t236, t237⟩, A140, H⟩ := H
   replace H : (if (t234 == t236) = true then ((decimal_Add.f t235 t237).bind fun t238 => ((whole_join.f t234 t238).bind fun t239 => (some t239))) else ((decimal_Compare.f t235 t237).bind fun t240 => (if t240 < 0 then ((decimal_Sub.f t237 t235).bind fun bt241 => ((whole_join.f t236 bt241.1).bind fun t243 => (some t243))) else ((decimal_Sub.f t235 t237).bind fun bt244 => ((whole_join.f t234 bt244.1).bind fun t246 => (some t246)))))) = some r := H
   have A14 := Aside0.mk A140
   clear A140
   by_cases c15 : (t234 == t236) = true
   ·rw [if_pos c15] at H
    have c15b0 : (t234 == t236) = true := c15
    (try (have c15b1 : decide (t234 = t236) = true := by simpa using c15))
    (try (have c15b2 : (t234 == t236) = true := by simpa using c15))
    clear c15
    replace H := Option.bind_eq_some_iff.mp H
    obtain ⟨t238, A160, H⟩ := H
    replace H : ((whole_join.f t234 t238).bind fun t239 => (some t239)) = some r := H
    have A16 := Aside0.mk A160
    clear A160
    replace H := Option.bind_eq_some_iff.mp H
    obtain ⟨t239, A170, H⟩ := H
    replace H : (some t239) = some r := H
    have A17 := Aside0.mk A170
    clear A170
    obtain rfl := Option.some.inj H
    go_wp2_with (first | ((with_reducible refine gate_callee (f := 78) rfl ?_); refine goesL_ (some 33) rfl rfl Tryz.func78 (by kernel_rfl) rfl #[.string a0] rfl mp_ ?_; (with_reducible refine (whole_split.calls a0 t234 t235 _ A13.out).mono ?_); rintro e w' ⟨rfl, ⟨nd, rfl⟩⟩; refine ⟨_, rfl, ?_⟩) | ((with_reducible refine gate_callee (f := 78) rfl ?_); refine goesL_ (some 38) rfl rfl Tryz.func78 (by kernel_rfl) rfl #[.string a1] rfl mp_ ?_; (with_reducible refine (whole_split.calls a1 t236 t237 _ A14.out).mono ?_); rintro e w' ⟨rfl, ⟨nd, rfl⟩⟩; refine ⟨_, rfl, ?_⟩) | ((with_reducible refine gate_callee (f := 80) rfl ?_); refine goesL_ (some 47) rfl rfl Tryz.func80 (by kernel_rfl) rfl #[.string t235, .string t237] rfl mp_ ?_; (with_reducible refine (decimal_Add.calls t235 t237 t238 _ A16.out).mono ?_); rintro e w18 ⟨rfl, hb⟩; refine ⟨_, rfl, ?_⟩; replace HB := bs_ hb; (try clear hb); (try clear hb2); (try clear hk); (try clear hi)) | ((with_reducible refine gate_callee (f := 79) rfl ?_); refine goesL_ (some 48) rfl rfl Tryz.func79 (by kernel_rfl) rfl #[.bool t234, .string t238] rfl mp_ ?_; (with_reducible refine (whole_join.calls t234 t238 t239 _ A17.out).mono ?_); rintro e w' ⟨rfl, ⟨nd, rfl⟩⟩; refine ⟨_, rfl, ?_⟩))
    go_ret
    exact ⟨er_, bl_⟩
   ·rw [if_neg c15] at H
    have c15b0 : (t234 == t236) = false := by simpa using c15
    (try (have c15b1 : decide (t234 = t236) = false := by simpa using c15))
    (try (have c15b2 : (t234 == t236) = false := by simpa using c15))
    (try (have c15b3 : ¬ (t234 = t236) := by simpa using c15))
    clear c15
    replace H := Option.bind_eq_some_iff.mp H
    obtain ⟨t240, A190, H⟩ := H
    replace H : (if t240 < 0 then ((decimal_Sub.f t237 t235).bind fun bt241 => ((whole_join.f t236 bt241.1).bind fun t243 => (some t243))) else ((decimal_Sub.f t235 t237).bind fun bt244 => ((whole_join.f t234 bt244.1).bind fun t246 => (some t246)))) = some r := H
    have A19 := Aside0.mk A190
    clear A190
    by_cases c20 : t240 < 0
    ·rw [if_pos c20] at H
     have c20b0 : decide (t240 < 0) = true := decide_eq_true c20
     clear c20
     replace H := Option.bind_eq_some_iff.mp H
     obtain ⟨⟨t241, t242⟩, A210, H⟩ := H
     replace H : ((whole_join.f t236 t241).bind fun t243 => (some t243)) = some r := H
     have A21 := Aside0.mk A210
     clear A210
     replace H := Option.bind_eq_some_iff.mp H
     obtain ⟨t243, A220, H⟩ := H
     replace H : (some t243) = some r := H
     have A22 := Aside0.mk A220
     clear A220
     obtain rfl := Option.some.inj H
     go_wp2_with (first | ((with_reducible refine gate_callee (f := 78) rfl ?_); refine goesL_ (some 33) rfl rfl Tryz.func78 (by kernel_rfl) rfl #[.string a0] rfl mp_ ?_; (with_reducible refine (whole_split.calls a0 t234 t235 _ A13.out).mono ?_); rintro e w' ⟨rfl, ⟨nd, rfl⟩⟩; refine ⟨_, rfl, ?_⟩) | ((with_reducible refine gate_callee (f := 78) rfl ?_); refine goesL_ (some 38) rfl rfl Tryz.func78 (by kernel_rfl) rfl #[.string a1] rfl mp_ ?_; (with_reducible refine (whole_split.calls a1 t236 t237 _ A14.out).mono ?_); rintro e w' ⟨rfl, ⟨nd, rfl⟩⟩; refine ⟨_, rfl, ?_⟩) | ((with_reducible refine gate_callee (f := 81) rfl ?_); refine goesL_ (some 51) rfl rfl Tryz.func81 (by kernel_rfl) rfl #[.string t235, .string t237] rfl mp_ ?_; (with_reducible refine (decimal_Compare.calls t235 t237 t240 _ A19.out).mono ?_); rintro e w23 ⟨rfl, hb⟩; refine ⟨_, rfl, ?_⟩; replace HB := bs_ hb; (try clear hb); (try clear hb2); (try clear hk); (try clear hi)) | ((with_reducible refine gate_callee (f := 82) rfl ?_); refine goesL_ (some 59) rfl rfl Tryz.func82 (by kernel_rfl) rfl #[.string t237, .string t235] rfl mp_ ?_; (with_reducible refine (decimal_Sub.calls t237 t235 t241 t242 _ A21.out).mono ?_); rintro e w24 ⟨rfl, hb⟩; refine ⟨_, rfl, ?_⟩; replace HB := bs_ hb; (try clear hb); (try clear hb2); (try clear hk); (try clear hi)) | ((with_reducible refine gate_callee (f := 79) rfl ?_); refine goesL_ (some 64) rfl rfl Tryz.func79 (by kernel_rfl) rfl #[.bool t236, .string t241] rfl mp_ ?_; (with_reducible refine (whole_join.calls t236 t241 t243 _ A22.out).mono ?_); rintro e w' ⟨rfl, ⟨nd, rfl⟩⟩; refine ⟨_, rfl, ?_⟩))
     go_ret
     exact ⟨er_, bl_⟩
    ·rw [if_neg c20] at H
     have c20b0 : decide (t240 < 0) = false := decide_eq_false c20
     clear c20
     replace H := Option.bind_eq_some_iff.mp H
     obtain ⟨⟨t244, t245⟩, A250, H⟩ := H
     replace H : ((whole_join.f t234 t244).bind fun t246 => (some t246)) = some r := H
     have A25 := Aside0.mk A250
     clear A250
     replace H := Option.bind_eq_some_iff.mp H
     obtain ⟨t246, A260, H⟩ := H
     replace H : (some t246) = some r := H
     have A26 := Aside0.mk A260
     clear A260
     obtain rfl := Option.some.inj H
     go_wp2_with (first | ((with_reducible refine gate_callee (f := 78) rfl ?_); refine goesL_ (some 33) rfl rfl Tryz.func78 (by kernel_rfl) rfl #[.string a0] rfl mp_ ?_; (with_reducible refine (whole_split.calls a0 t234 t235 _ A13.out).mono ?_); rintro e w' ⟨rfl, ⟨nd, rfl⟩⟩; refine ⟨_, rfl, ?_⟩) | ((with_reducible refine gate_callee (f := 78) rfl ?_); refine goesL_ (some 38) rfl rfl Tryz.func78 (by kernel_rfl) rfl #[.string a1] rfl mp_ ?_; (with_reducible refine (whole_split.calls a1 t236 t237 _ A14.out).mono ?_); rintro e w' ⟨rfl, ⟨nd, rfl⟩⟩; refine ⟨_, rfl, ?_⟩) | ((with_reducible refine gate_callee (f := 81) rfl ?_); refine goesL_ (some 51) rfl rfl Tryz.func81 (by kernel_rfl) rfl #[.string t235, .string t237] rfl mp_ ?_; (with_reducible refine (decimal_Compare.calls t235 t237 t240 _ A19.out).mono ?_); rintro e w27 ⟨rfl, hb⟩; refine ⟨_, rfl, ?_⟩; replace HB := bs_ hb; (try clear hb); (try clear hb2); (try clear hk); (try clear hi)) | ((with_reducible refine gate_callee (f := 82) rfl ?_); refine goesL_ (some 59) rfl rfl Tryz.func82 (by kernel_rfl) rfl #[.string t235, .string t237] rfl mp_ ?_; (with_reducible refine (decimal_Sub.calls t235 t237 t244 t245 _ A25.out).mono ?_); rintro e w28 ⟨rfl, hb⟩; refine ⟨_, rfl, ?_⟩; replace HB := bs_ hb; (try clear hb); (try clear hb2); (try clear hk); (try clear hi)) | ((with_reducible refine gate_callee (f := 79) rfl ?_); refine goesL_ (some 64) rfl rfl Tryz.func79 (by kernel_rfl) rfl #[.bool t234, .string t244] rfl mp_ ?_; (with_reducible refine (whole_join.calls t234 t244 t246 _ A26.out).mono ?_); rintro e w' ⟨rfl, ⟨nd, rfl⟩⟩; refine ⟨_, rfl, ?_⟩))
     go_ret
     exact ⟨er_, bl_⟩
def fraction_lowest.j0 : Nat → ByteArray → ByteArray → Option (ByteArray × ByteArray)
 | 0, _, _ => none
 | k + 1, x0, x1 => (whole_Gcd.f k x0 x1).bind fun t251 => (if t251.toList = ([49] : List UInt8) then (some (x0, x1)) else ((whole_DivMod.f k x0 t251).bind fun bt252 => ((whole_DivMod.f k x1 t251).bind fun bt255 => (some (bt252.1, bt255.1)))))
def fraction_lowest.f (k : Nat) (a0 : ByteArray) (a1 : ByteArray) : Option (ByteArray × ByteArray) := (whole_Sign.f a1).bind fun t248 => (if t248 < 0 then ((whole_Neg.f a0).bind fun t249 => ((whole_Neg.f a1).bind fun t250 => (fraction_lowest.j0 k t249 t250))) else (fraction_lowest.j0 k a0 a1))
set_option maxHeartbeats 8000000 in
set_option maxRecDepth 100000 in
theorem fraction_lowest.calls (k : Nat) (a0 : ByteArray) (a1 : ByteArray) (r1 : ByteArray) (r2 : ByteArray) (w : World) (hG_ : GWorld w) (h : fraction_lowest.f k a0 a1 = some (r1, r2)) :
  Calls Tryz.prog 111 #[.string a0, .string a1] w fun e w' => e = .returned (.agg #[.string r1, .string r2]) ∧ Below w.heap.size w w' := by
 have hu24 := Tryz.underlying24
 have HB := Aside0.mk (Below.refl w.heap.size w)
 have HG := Aside0.mk hG_
 clear hG_
 have H : ((whole_Sign.f a1).bind fun t248 => (if t248 < 0 then ((whole_Neg.f a0).bind fun t249 => ((whole_Neg.f a1).bind fun t250 => (fraction_lowest.j0 k t249 t250))) else (fraction_lowest.j0 k a0 a1))) = some (r1, r2) := h
 clear h
 replace H := Option.bind_eq_some_iff.mp H
 obtain ⟨t248, A30, H⟩ := H
 replace H : (if t248 < 0 then ((whole_Neg.f a0).bind fun t249 => ((whole_Neg.f a1).bind fun t250 => (fraction_lowest.j0 k t249 t250))) else (fraction_lowest.j0 k a0 a1)) = some (r1, r2) := H
 have A3 := Aside0.mk A30
 clear A30
 have HC4 := Aside0.mk H
 clear H
 go_enter Tryz.func111, Tryz.ntmps111
 go_upto_if 8 with (first | ((with_reducible refine gate_dst (N := 4) rfl ?_); refine bx_ 4 #[.string (⟨#[]⟩ : ByteArray), .string (⟨#[]⟩ : ByteArray)] 24 ?_; clear HB; intro gb247 w5 BK247 GW247 HB; have GE247 := GW247) | ((with_reducible refine gate_callee (f := 63) rfl ?_); refine goesL_ (some 7) rfl rfl Tryz.func63 (by kernel_rfl) rfl #[.string a1] rfl mp_ ?_; (with_reducible refine (whole_Sign.calls a1 t248 _ A3.out).mono ?_); rintro e w' ⟨rfl, ⟨nd, rfl⟩⟩; refine ⟨_, rfl, ?_⟩))
 (try simp only [Act.put, List.setIfInBounds_toArray, List.set_cons_zero, List.set_cons_succ])
 go_cut [0, 1] (fun v0 v1 wc => ∃ (kq : Nat) (x0_3 : ByteArray) (x1_3 : ByteArray), v0 = .string x0_3 ∧ v1 = .string x1_3 ∧ Aside0 (fraction_lowest.j0 kq x0_3 x1_3 = some (r1, r2)) ∧ Aside0 (kq ≤ k) ∧ Aside0 (wc.heap[gb247]? = some (.cells #[.string (⟨#[]⟩ : ByteArray), .string (⟨#[]⟩ : ByteArray)] 24 (0, 0))) ∧ Aside0 (Below w.heap.size w wc))
 case first =>
  have H := HC4.out
  clear HC4
  by_cases c6 : t248 < 0
  ·rw [if_pos c6] at H
   have c6b0 : decide (t248 < 0) = true := decide_eq_true c6
   clear c6
   (first | rw [c6b0] | (simp only [i64_w, i32_w]; rw [c6b0]) | skip)
   replace H := Option.bind_eq_some_iff.mp H
   obtain ⟨t249, A70, H⟩ := H
   replace H : ((whole_Neg.f a1).bind fun t250 => (fraction_lowest.j0 k t249 t250)) = some (r1, r2) := H
   have A7 := Aside0.mk A70
   clear A70
   replace H := Option.bind_eq_some_iff.mp H
   obtain ⟨t250, A80, H⟩ := H
   replace H : (fraction_lowest.j0 k t249 t250) = some (r1, r2) := H
   have A8 := Aside0.mk A80
   clear A80
   have H' := Aside0.mk H
   clear H
   go_wp2_with (first | ((with_reducible refine gate_callee (f := 95) rfl ?_); refine goesL_ (some 10) rfl rfl Tryz.func95 (by kernel_rfl) rfl #[.string a0] rfl mp_ ?_; (with_reducible refine (whole_Neg.calls a0 t249 _ A7.out).mono ?_); rintro e w' ⟨rfl, ⟨nd, rfl⟩⟩; refine ⟨_, rfl, ?_⟩) | ((with_reducible refine gate_callee (f := 95) rfl ?_); refine goesL_ (some 12) rfl rfl Tryz.func95 (by kernel_rfl) rfl #[.string a1] rfl mp_ ?_; (with_reducible refine (whole_Neg.calls a1 t250 _ A8.out).mono ?_); rintro e w' ⟨rfl, ⟨nd, rfl⟩⟩; refine ⟨_, rfl, ?_⟩))
   go_meet
   case rel => exact ⟨_, (t249), (t250), (by first | rfl | (simp; done) | (simp [*]; done)), (by first | rfl | (simp; done) | (simp [*]; done)), H', ⟨by first | omega | exact Nat.le_refl _⟩, ⟨bk_⟩, ⟨bl_⟩⟩
  ·rw [if_neg c6] at H
   have c6b0 : decide (t248 < 0) = false := decide_eq_false c6
   clear c6
   (first | rw [c6b0] | (simp only [i64_w, i32_w]; rw [c6b0]) | skip)
   have H' := Aside0.mk H
   clear H
   go_wp2
   go_meet
   case rel => exact ⟨_, (a0), (a1), (by first | rfl | (simp; done) | (simp [*]; done)), (by first | rfl | (simp; done) | (simp [*]; done)), H', ⟨by first | omega | exact Nat.le_refl _⟩, ⟨bk_⟩, ⟨bl_⟩⟩
 case rest =>
  clear HC4
  try clear c1
  try clear p2
  try clear c6
  try clear c6b0
  obtain ⟨kq, x0_3, x1_3, rfl, rfl, HA, HJ3, BK247, HB⟩ := hcut
  cases kq with
  | zero => exact absurd HA.out (by simp [fraction_lowest.j0])
  | succ kj3 =>
   have H := HA.out
   clear HA
   simp only [fraction_lowest.j0] at H
   replace H := Option.bind_eq_some_iff.mp H
   obtain ⟨t251, A90, H⟩ := H
   replace H : (if t251.toList = ([49] : List UInt8) then (some (x0_3, x1_3)) else ((whole_DivMod.f kj3 x0_3 t251).bind fun bt252 => ((whole_DivMod.f kj3 x1_3 t251).bind fun bt255 => (some (bt252.1, bt255.1))))) = some (r1, r2) := H
   have A9 := Aside0.mk A90
   clear A90
   by_cases c10 : t251.toList = ([49] : List UInt8)
   ·rw [if_pos c10] at H
    have c10b0 : (t251.toList == ([49] : List UInt8)) = true := beq_iff_eq.mpr c10
    have c10b1 : (t251.toList != ([49] : List UInt8)) = false := bne_eq_false_iff_eq.mpr c10
    clear c10
    simp only [Option.some.injEq, Prod.mk.injEq] at H
    obtain ⟨rfl, rfl⟩ := H
    go_wp2_with (first | ((with_reducible refine gate_callee (f := 110) rfl ?_); refine goesL_ (some 15) rfl rfl Tryz.func110 (by kernel_rfl) rfl #[.string x0_3, .string x1_3] rfl mp_ ?_; (with_reducible refine (whole_Gcd.calls kj3 x0_3 x1_3 t251 _ ?side1 A9.out).mono ?_); (case side1 => exact gw_ HG); rintro e w11 ⟨rfl, hb⟩; refine ⟨_, rfl, ?_⟩; replace BK247 := kb_ BK247 hb; replace HB := bs_ hb; (try clear hb); (try clear hb2); (try clear hk); (try clear hi); obtain ⟨hcz12_0, hcz12_1, hfz12_0, hfz12_1⟩ := c2_ BK247))
    refine bodyPost_ret (results_cell_row rfl _ _ gb247 24 #[.string x0_3, .string x1_3] (0, 0) _ rfl (by (with_reducible repeat (first | refine blk_drewN ?_ _ | refine blk_drew ?_ | refine blk_alloc ?_ _)); refine blk_put (cs := #[.string x0_3, .string (⟨#[]⟩ : ByteArray)]) ?_ 1 _ rfl; (with_reducible repeat (first | refine blk_drewN ?_ _ | refine blk_drew ?_ | refine blk_alloc ?_ _)); refine blk_put (cs := #[.string (⟨#[]⟩ : ByteArray), .string (⟨#[]⟩ : ByteArray)]) ?_ 0 _ rfl; (with_reducible repeat (first | refine blk_drewN ?_ _ | refine blk_drew ?_ | refine blk_alloc ?_ _)); exact BK247.out) Tryz.underlying24 rfl (by kernel_rfl)) rfl ?_
    exact ⟨er_, bl_⟩
   ·rw [if_neg c10] at H
    have c10b0 : (t251.toList == ([49] : List UInt8)) = false := beq_eq_false_iff_ne.mpr c10
    have c10b1 : (t251.toList != ([49] : List UInt8)) = true := bne_iff_ne.mpr c10
    replace H := Option.bind_eq_some_iff.mp H
    obtain ⟨⟨t252, t253, t254⟩, A130, H⟩ := H
    replace H : ((whole_DivMod.f kj3 x1_3 t251).bind fun bt255 => (some (t252, bt255.1))) = some (r1, r2) := H
    have A13 := Aside0.mk A130
    clear A130
    replace H := Option.bind_eq_some_iff.mp H
    obtain ⟨⟨t255, t256, t257⟩, A140, H⟩ := H
    replace H : (some (t252, t255)) = some (r1, r2) := H
    have A14 := Aside0.mk A140
    clear A140
    simp only [Option.some.injEq, Prod.mk.injEq] at H
    obtain ⟨rfl, rfl⟩ := H
    go_wp2_with (first | ((with_reducible refine gate_callee (f := 110) rfl ?_); refine goesL_ (some 15) rfl rfl Tryz.func110 (by kernel_rfl) rfl #[.string x0_3, .string x1_3] rfl mp_ ?_; (with_reducible refine (whole_Gcd.calls kj3 x0_3 x1_3 t251 _ ?side1 A9.out).mono ?_); (case side1 => exact gw_ HG); rintro e w15 ⟨rfl, hb⟩; refine ⟨_, rfl, ?_⟩; replace BK247 := kb_ BK247 hb; replace HB := bs_ hb; (try clear hb); (try clear hb2); (try clear hk); (try clear hi)) | ((with_reducible refine gate_callee (f := 55) rfl ?_); refine goesL_ (some 21) rfl rfl Tryz.func55 (by kernel_rfl) rfl #[.string x0_3, .string t251] rfl mp_ ?_; (with_reducible refine (whole_DivMod.calls kj3 x0_3 t251 t252 t253 t254 _ ?side1 A13.out).mono ?_); (case side1 => exact gw_ HG); rintro e w16 ⟨rfl, hb⟩; refine ⟨_, rfl, ?_⟩; replace BK247 := kb_ BK247 hb; replace HB := bs_ hb; (try clear hb); (try clear hb2); (try clear hk); (try clear hi)) | ((with_reducible refine gate_callee (f := 55) rfl ?_); refine goesL_ (some 28) rfl rfl Tryz.func55 (by kernel_rfl) rfl #[.string x1_3, .string t251] rfl mp_ ?_; (with_reducible refine (whole_DivMod.calls kj3 x1_3 t251 t255 t256 t257 _ ?side1 A14.out).mono ?_); (case side1 => exact gw_ HG); rintro e w17 ⟨rfl, hb⟩; refine ⟨_, rfl, ?_⟩; replace BK247 := kb_ BK247 hb; replace HB := bs_ hb; (try clear hb); (try clear hb2); (try clear hk); (try clear hi); obtain ⟨hcz18_0, hcz18_1, hfz18_0, hfz18_1⟩ := c2_ BK247))
    refine bodyPost_ret (results_cell_row rfl _ _ gb247 24 #[.string t252, .string t255] (0, 0) _ rfl (by (with_reducible repeat (first | refine blk_drewN ?_ _ | refine blk_drew ?_ | refine blk_alloc ?_ _)); refine blk_put (cs := #[.string t252, .string (⟨#[]⟩ : ByteArray)]) ?_ 1 _ rfl; (with_reducible repeat (first | refine blk_drewN ?_ _ | refine blk_drew ?_ | refine blk_alloc ?_ _)); refine blk_put (cs := #[.string (⟨#[]⟩ : ByteArray), .string (⟨#[]⟩ : ByteArray)]) ?_ 0 _ rfl; (with_reducible repeat (first | refine blk_drewN ?_ _ | refine blk_drew ?_ | refine blk_alloc ?_ _)); exact BK247.out) Tryz.underlying24 rfl (by kernel_rfl)) rfl ?_
    exact ⟨er_, bl_⟩
def fraction_of.l0 : Nat → Int → Int → Int → Int → Option (ByteArray × ByteArray)
 | 0, _, _, _, _ => none
 | k + 1, x0, x1, x5, x6 => if x6 = 0 then (if x5 < 0 then (if (wrap64 (-x5)) = 0 then (none) else ((strconv_Itoa.f (wrap64 (Int.tdiv x0 (wrap64 (-x5))))).bind fun t259 => ((strconv_Itoa.f (wrap64 (Int.tdiv x1 (wrap64 (-x5))))).bind fun t260 => (some (t259, t260))))) else (if x5 = 0 then (none) else ((strconv_Itoa.f (wrap64 (Int.tdiv x0 x5))).bind fun t261 => ((strconv_Itoa.f (wrap64 (Int.tdiv x1 x5))).bind fun t262 => (some (t261, t262)))))) else (fraction_of.l0 k x0 x1 x6 (Int.tmod x5 x6))
def fraction_of.f (k : Nat) (a0 : Int) (a1 : Int) : Option (ByteArray × ByteArray) := fraction_of.l0 k a0 a1 a0 a1
def fraction_of.T6 : Bool × List (List Nat × List Nat) := (true, [([], []), ([], []), ([0, 1], [0, 1]), ([2], [2]), ([], []), ([], []), ([4, 5], [4, 5]), ([6, 3], [6]), ([3, 7], [3, 7]), ([8, 7, 0, 1, 2, 3, 4, 5, 6, 7, 8], [8])])
def fraction_of.B6 : List Nat := [0, 0, 3, 7, 0, 0, 48, 127, 255, 511]
theorem fraction_of.tab6 : rtab .any (opsOf Tryz.f148 6) = fraction_of.T6 := by kernel_rfl
theorem fraction_of.bits6 : waitsOk fraction_of.T6.2 fraction_of.B6 = true := by kernel_rfl
set_option maxHeartbeats 8000000 in
set_option maxRecDepth 100000 in
theorem fraction_of.calls (k : Nat) (a0 : Int) (a1 : Int) (r1 : ByteArray) (r2 : ByteArray) (w : World) (hG_ : GWorld w) (h : fraction_of.f k a0 a1 = some (r1, r2)) :
  Calls Tryz.prog 148 #[.int .i64 a0, .int .i64 a1] w fun e w' => e = .returned (.agg #[.string r1, .string r2]) ∧ Below w.heap.size w w' := by
 have hu24 := Tryz.underlying24
 have HB := Aside0.mk (Below.refl w.heap.size w)
 have HG := Aside0.mk hG_
 clear hG_
 have H : (fraction_of.l0 k a0 a1 a0 a1) = some (r1, r2) := h
 clear h
 have H' := Aside0.mk H
 clear H
 go_enter Tryz.func148, Tryz.ntmps148
 go_wp2_with (first | ((with_reducible refine gate_dst (N := 4) rfl ?_); refine bx_ 4 #[.string (⟨#[]⟩ : ByteArray), .string (⟨#[]⟩ : ByteArray)] 24 ?_; clear HB; intro gb258 w3 BK258 GW258 HB; have GE258 := GW258))
 go_loopg [5, 6] k (fun kq v5 v6 w' => ∃ (x5_1 : Int) (x6_1 : Int), v5 = .int .i64 x5_1 ∧ v6 = .int .i64 x6_1 ∧ Aside0 (fraction_of.l0 kq a0 a1 x5_1 x6_1 = some (r1, r2)) ∧ Aside0 (kq ≤ k) ∧ Aside0 (w'.heap[gb258]? = some (.cells #[.string (⟨#[]⟩ : ByteArray), .string (⟨#[]⟩ : ByteArray)] 24 (0, 0))) ∧ Aside0 (Below w.heap.size w w'))
 case atStart => exact ⟨(a0), (a1), (by first | rfl | (simp; done) | (simp [*]; done)), (by first | rfl | (simp; done) | (simp [*]; done)), H', ⟨Nat.le_refl _⟩, ⟨bk_⟩, ⟨bl_⟩⟩
 case round =>
  clear H'
  try clear c1
  try clear p2
  obtain ⟨x5_1, x6_1, rfl, rfl, HA, HK1, BK258, HB⟩ := hrel
  cases gk with
  | zero => exact absurd HA.out (by simp [fraction_of.l0])
  | succ k1 =>
   have H := HA.out
   clear HA
   simp only [fraction_of.l0] at H
   by_cases c4 : x6_1 = 0
   ·rw [if_pos c4] at H
    have c4b0 : (x6_1 == 0) = true := beq_iff_eq.mpr c4
    have c4b1 : (x6_1 != 0) = false := bne_eq_false_iff_eq.mpr c4
    clear c4
    by_cases c5 : x5_1 < 0
    ·rw [if_pos c5] at H
     have c5b0 : decide (x5_1 < 0) = true := decide_eq_true c5
     clear c5
     by_cases c6 : (wrap64 (-x5_1)) = 0
     ·rw [if_pos c6] at H
      exact absurd H (by simp)
     ·rw [if_neg c6] at H
      have c6b0 : ((wrap64 (-x5_1)) == 0) = false := beq_eq_false_iff_ne.mpr c6
      have c6b1 : ((wrap64 (-x5_1)) != 0) = true := bne_iff_ne.mpr c6
      replace H := Option.bind_eq_some_iff.mp H
      obtain ⟨t259, A70, H⟩ := H
      replace H : ((strconv_Itoa.f (wrap64 (Int.tdiv a1 (wrap64 (-x5_1))))).bind fun t260 => (some (t259, t260))) = some (r1, r2) := H
      have A7 := Aside0.mk A70
      clear A70
      replace H := Option.bind_eq_some_iff.mp H
      obtain ⟨t260, A80, H⟩ := H
      replace H : (some (t259, t260)) = some (r1, r2) := H
      have A8 := Aside0.mk A80
      clear A80
      simp only [Option.some.injEq, Prod.mk.injEq] at H
      obtain ⟨rfl, rfl⟩ := H
      try go_wp2
      have n0_ := Aside0.mk (blk_drew BK258.out)
      have n1_ := Aside0.mk (below_drew1 HB.out)
      clear BK258
      clear HB
      have BK258 := n0_
      have HB := n1_
      clear n0_ n1_
      refine start_ (n := 10) (S := fun w' => True) (ds := []) #[false, false, false, false, false, false, false, false, false, false] (by kernel_rfl) rfl rfl trivial (fun hHeld => ?_); refine with_tabW fraction_of.tab6 fraction_of.bits6 (fun HT_ HW_ => ?_)
      generalize wr.drew = w9 at BK258 HB hHeld ⊢
      refine pure_ (i := 0) (N := some 19) (v := ?_) (a' := ?_) #[true, false, false, false, false, false, false, false, false, false] rfl rfl (any_of HT_.out (by kernel_rfl)) (fun _ _ _ h => h) (Or.inl ⟨by rfl, ?_⟩) ?_ ?_
      rotate_left
      ·intro w'
       go_simp
       with_reducible rfl
      rotate_left
      ·simp only [Act.put, List.setIfInBounds_toArray, List.set_cons_zero, List.set_cons_succ, i64_w, i32_w]
       rfl
      refine pure_ (i := 1) (N := some 20) (v := ?_) (a' := ?_) #[true, true, false, false, false, false, false, false, false, false] rfl rfl (any_of HT_.out (by kernel_rfl)) (fun _ _ _ h => h) (Or.inl ⟨by rfl, ?_⟩) ?_ ?_
      rotate_left
      ·intro w'
       go_simp
       with_reducible rfl
      rotate_left
      ·simp only [Act.put, List.setIfInBounds_toArray, List.set_cons_zero, List.set_cons_succ, i64_w, i32_w]
       rfl
      refine pure_ (i := 2) (N := some 21) (v := ?_) (a' := ?_) #[true, true, true, false, false, false, false, false, false, false] rfl rfl (any_of HT_.out (by kernel_rfl)) (fun _ _ _ h => h) (Or.inl ⟨by rfl, ?_⟩) ?_ ?_
      rotate_left
      ·intro w'
       go_simp
       with_reducible rfl
      rotate_left
      ·simp only [Act.put, List.setIfInBounds_toArray, List.set_cons_zero, List.set_cons_succ, i64_w, i32_w]
       rfl
      refine pure_ (i := 4) (N := some 23) (v := ?_) (a' := ?_) #[true, true, true, false, true, false, false, false, false, false] rfl rfl (any_of HT_.out (by kernel_rfl)) (fun _ _ _ h => h) (Or.inl ⟨by rfl, ?_⟩) ?_ ?_
      rotate_left
      ·intro w'
       go_simp
       with_reducible rfl
      rotate_left
      ·simp only [Act.put, List.setIfInBounds_toArray, List.set_cons_zero, List.set_cons_succ, i64_w, i32_w]
       rfl
      refine pure_ (i := 5) (N := some 24) (v := ?_) (a' := ?_) #[true, true, true, false, true, true, false, false, false, false] rfl rfl (any_of HT_.out (by kernel_rfl)) (fun _ _ _ h => h) (Or.inl ⟨by rfl, ?_⟩) ?_ ?_
      rotate_left
      ·intro w'
       go_simp
       with_reducible rfl
      rotate_left
      ·simp only [Act.put, List.setIfInBounds_toArray, List.set_cons_zero, List.set_cons_succ, i64_w, i32_w]
       rfl
      refine pure_ (i := 6) (N := some 25) (v := ?_) (a' := ?_) #[true, true, true, false, true, true, true, false, false, false] rfl rfl (any_of HT_.out (by kernel_rfl)) (fun _ _ _ h => h) (Or.inl ⟨by rfl, ?_⟩) ?_ ?_
      rotate_left
      ·intro w'
       go_simp
       with_reducible rfl
      rotate_left
      ·simp only [Act.put, List.setIfInBounds_toArray, List.set_cons_zero, List.set_cons_succ, i64_w, i32_w]
       rfl
      refine one_ (i := 3) (N := some 22) #[true, true, true, true, true, true, true, false, false, false] rfl rfl (one_of HT_.out (by kernel_rfl)) (by decide) (fun K hK => ?_)
      refine goes_ Tryz.func91 (by kernel_rfl) rfl #[.int .i64 (wrap64 (Int.tdiv a0 (wrap64 (-x5_1))))] (by rfl) rfl rfl mp_ ?_
      with_reducible refine (strconv_Itoa.calls (wrap64 (Int.tdiv a0 (wrap64 (-x5_1)))) t259 _ ?side1 A7.out).mono ?_
      (case side1 => exact gw_ HG)
      rintro e w10 ⟨rfl, hb⟩
      refine ⟨_, rfl, ?_⟩
      have n0_ := kb_ BK258 hb
      have n1_ := bs_ hb
      clear BK258
      clear HB
      have BK258 := n0_
      have HB := n1_
      clear n0_ n1_
      (try clear hb); (try clear hb2); (try clear hk); (try clear hi)
      refine hK.out _ _ trivial (fun hHeld => ?_)
      clear hK K
      refine norm_ (a' := ?_) ?_ ?_
      rotate_left
      ·show Act.put _ (some 22) _ = _
       simp only [Act.put, List.setIfInBounds_toArray, List.set_cons_zero, List.set_cons_succ, i64_w, i32_w]
       rfl
      refine one_ (i := 7) (N := some 26) #[true, true, true, true, true, true, true, true, false, false] rfl rfl (one_of HT_.out (by kernel_rfl)) (by decide) (fun K hK => ?_)
      refine goes_ Tryz.func91 (by kernel_rfl) rfl #[.int .i64 (wrap64 (Int.tdiv a1 (wrap64 (-x5_1))))] (by rfl) rfl rfl mp_ ?_
      with_reducible refine (strconv_Itoa.calls (wrap64 (Int.tdiv a1 (wrap64 (-x5_1)))) t260 _ ?side1 A8.out).mono ?_
      (case side1 => exact gw_ HG)
      rintro e w11 ⟨rfl, hb⟩
      refine ⟨_, rfl, ?_⟩
      have n0_ := kb_ BK258 hb
      have n1_ := bs_ hb
      clear BK258
      clear HB
      have BK258 := n0_
      have HB := n1_
      clear n0_ n1_
      (try clear hb); (try clear hb2); (try clear hk); (try clear hi)
      refine hK.out _ _ trivial (fun hHeld => ?_)
      clear hK K
      refine norm_ (a' := ?_) ?_ ?_
      rotate_left
      ·show Act.put _ (some 26) _ = _
       simp only [Act.put, List.setIfInBounds_toArray, List.set_cons_zero, List.set_cons_succ, i64_w, i32_w]
       rfl
      refine pure_ (i := 8) (N := some 27) (v := ?_) (a' := ?_) #[true, true, true, true, true, true, true, true, true, false] rfl rfl (any_of HT_.out (by kernel_rfl)) (fun _ _ _ h => h) (Or.inl ⟨by rfl, ?_⟩) ?_ ?_
      rotate_left
      ·intro w'
       go_simp
       with_reducible rfl
      rotate_left
      ·simp only [Act.put, List.setIfInBounds_toArray, List.set_cons_zero, List.set_cons_succ, i64_w, i32_w]
       rfl
      refine one_ (i := 9) (N := none) #[true, true, true, true, true, true, true, true, true, true] rfl rfl (one_of HT_.out (by kernel_rfl)) (by decide) (fun K hK => ?_)
      have hs12 : w11.cell? ⟨gb258, 0, none⟩ = some (.string (⟨#[]⟩ : ByteArray)) := (blk_cell BK258.out 0).trans rfl
      have hfs12 := blk_frozen BK258.out 0
      have hs13 : w11.cell? ⟨gb258, 1, none⟩ = some (.string (⟨#[]⟩ : ByteArray)) := (blk_cell BK258.out 1).trans rfl
      have hfs13 := blk_frozen BK258.out 1
      refine skip_ (w1 := ?_) (by rfl) rfl ?_ ?_
      rotate_left
      ·go_simp
       rfl
      refine hK.out _ _ trivial (fun hHeld => ?_)
      clear hK K
      refine done_ (done_of HT_.out (by kernel_rfl)) ?_
      try go_wp2
      refine bodyPost_ret (results_cell_row rfl _ _ gb258 24 #[.string t259, .string t260] (0, 0) _ rfl (by (with_reducible repeat (first | refine blk_drewN ?_ _ | refine blk_drew ?_ | refine blk_alloc ?_ _)); refine blk_put (cs := #[.string t259, .string (⟨#[]⟩ : ByteArray)]) ?_ 1 _ rfl; (with_reducible repeat (first | refine blk_drewN ?_ _ | refine blk_drew ?_ | refine blk_alloc ?_ _)); refine blk_put (cs := #[.string (⟨#[]⟩ : ByteArray), .string (⟨#[]⟩ : ByteArray)]) ?_ 0 _ rfl; (with_reducible repeat (first | refine blk_drewN ?_ _ | refine blk_drew ?_ | refine blk_alloc ?_ _)); exact BK258.out) Tryz.underlying24 rfl (by kernel_rfl)) rfl ?_
      exact ⟨er_, bl_⟩
    ·rw [if_neg c5] at H
     have c5b0 : decide (x5_1 < 0) = false := decide_eq_false c5
     clear c5
     by_cases c14 : x5_1 = 0
     ·rw [if_pos c14] at H
      exact absurd H (by simp)
     ·rw [if_neg c14] at H
      have c14b0 : (x5_1 == 0) = false := beq_eq_false_iff_ne.mpr c14
      have c14b1 : (x5_1 != 0) = true := bne_iff_ne.mpr c14
      replace H := Option.bind_eq_some_iff.mp H
      obtain ⟨t261, A150, H⟩ := H
      replace H : ((strconv_Itoa.f (wrap64 (Int.tdiv a1 x5_1))).bind fun t262 => (some (t261, t262))) = some (r1, r2) := H
      have A15 := Aside0.mk A150
      clear A150
      replace H := Option.bind_eq_some_iff.mp H
      obtain ⟨t262, A160, H⟩ := H
      replace H : (some (t261, t262)) = some (r1, r2) := H
      have A16 := Aside0.mk A160
      clear A160
      simp only [Option.some.injEq, Prod.mk.injEq] at H
      obtain ⟨rfl, rfl⟩ := H
      try go_wp2
      have n0_ := Aside0.mk (blk_drew BK258.out)
      have n1_ := Aside0.mk (below_drew1 HB.out)
      clear BK258
      clear HB
      have BK258 := n0_
      have HB := n1_
      clear n0_ n1_
      refine start_ (n := 10) (S := fun w' => True) (ds := []) #[false, false, false, false, false, false, false, false, false, false] (by kernel_rfl) rfl rfl trivial (fun hHeld => ?_); refine with_tabW fraction_of.tab6 fraction_of.bits6 (fun HT_ HW_ => ?_)
      generalize wr.drew = w17 at BK258 HB hHeld ⊢
      refine pure_ (i := 0) (N := some 19) (v := ?_) (a' := ?_) #[true, false, false, false, false, false, false, false, false, false] rfl rfl (any_of HT_.out (by kernel_rfl)) (fun _ _ _ h => h) (Or.inl ⟨by rfl, ?_⟩) ?_ ?_
      rotate_left
      ·intro w'
       go_simp
       with_reducible rfl
      rotate_left
      ·simp only [Act.put, List.setIfInBounds_toArray, List.set_cons_zero, List.set_cons_succ, i64_w, i32_w]
       rfl
      refine pure_ (i := 1) (N := some 20) (v := ?_) (a' := ?_) #[true, true, false, false, false, false, false, false, false, false] rfl rfl (any_of HT_.out (by kernel_rfl)) (fun _ _ _ h => h) (Or.inl ⟨by rfl, ?_⟩) ?_ ?_
      rotate_left
      ·intro w'
       go_simp
       with_reducible rfl
      rotate_left
      ·simp only [Act.put, List.setIfInBounds_toArray, List.set_cons_zero, List.set_cons_succ, i64_w, i32_w]
       rfl
      refine pure_ (i := 2) (N := some 21) (v := ?_) (a' := ?_) #[true, true, true, false, false, false, false, false, false, false] rfl rfl (any_of HT_.out (by kernel_rfl)) (fun _ _ _ h => h) (Or.inl ⟨by rfl, ?_⟩) ?_ ?_
      rotate_left
      ·intro w'
       go_simp
       with_reducible rfl
      rotate_left
      ·simp only [Act.put, List.setIfInBounds_toArray, List.set_cons_zero, List.set_cons_succ, i64_w, i32_w]
       rfl
      refine pure_ (i := 4) (N := some 23) (v := ?_) (a' := ?_) #[true, true, true, false, true, false, false, false, false, false] rfl rfl (any_of HT_.out (by kernel_rfl)) (fun _ _ _ h => h) (Or.inl ⟨by rfl, ?_⟩) ?_ ?_
      rotate_left
      ·intro w'
       go_simp
       with_reducible rfl
      rotate_left
      ·simp only [Act.put, List.setIfInBounds_toArray, List.set_cons_zero, List.set_cons_succ, i64_w, i32_w]
       rfl
      refine pure_ (i := 5) (N := some 24) (v := ?_) (a' := ?_) #[true, true, true, false, true, true, false, false, false, false] rfl rfl (any_of HT_.out (by kernel_rfl)) (fun _ _ _ h => h) (Or.inl ⟨by rfl, ?_⟩) ?_ ?_
      rotate_left
      ·intro w'
       go_simp
       with_reducible rfl
      rotate_left
      ·simp only [Act.put, List.setIfInBounds_toArray, List.set_cons_zero, List.set_cons_succ, i64_w, i32_w]
       rfl
      refine pure_ (i := 6) (N := some 25) (v := ?_) (a' := ?_) #[true, true, true, false, true, true, true, false, false, false] rfl rfl (any_of HT_.out (by kernel_rfl)) (fun _ _ _ h => h) (Or.inl ⟨by rfl, ?_⟩) ?_ ?_
      rotate_left
      ·intro w'
       go_simp
       with_reducible rfl
      rotate_left
      ·simp only [Act.put, List.setIfInBounds_toArray, List.set_cons_zero, List.set_cons_succ, i64_w, i32_w]
       rfl
      refine one_ (i := 3) (N := some 22) #[true, true, true, true, true, true, true, false, false, false] rfl rfl (one_of HT_.out (by kernel_rfl)) (by decide) (fun K hK => ?_)
      refine goes_ Tryz.func91 (by kernel_rfl) rfl #[.int .i64 (wrap64 (Int.tdiv a0 x5_1))] (by rfl) rfl rfl mp_ ?_
      with_reducible refine (strconv_Itoa.calls (wrap64 (Int.tdiv a0 x5_1)) t261 _ ?side1 A15.out).mono ?_
      (case side1 => exact gw_ HG)
      rintro e w18 ⟨rfl, hb⟩
      refine ⟨_, rfl, ?_⟩
      have n0_ := kb_ BK258 hb
      have n1_ := bs_ hb
      clear BK258
      clear HB
      have BK258 := n0_
      have HB := n1_
      clear n0_ n1_
      (try clear hb); (try clear hb2); (try clear hk); (try clear hi)
      refine hK.out _ _ trivial (fun hHeld => ?_)
      clear hK K
      refine norm_ (a' := ?_) ?_ ?_
      rotate_left
      ·show Act.put _ (some 22) _ = _
       simp only [Act.put, List.setIfInBounds_toArray, List.set_cons_zero, List.set_cons_succ, i64_w, i32_w]
       rfl
      refine one_ (i := 7) (N := some 26) #[true, true, true, true, true, true, true, true, false, false] rfl rfl (one_of HT_.out (by kernel_rfl)) (by decide) (fun K hK => ?_)
      refine goes_ Tryz.func91 (by kernel_rfl) rfl #[.int .i64 (wrap64 (Int.tdiv a1 x5_1))] (by rfl) rfl rfl mp_ ?_
      with_reducible refine (strconv_Itoa.calls (wrap64 (Int.tdiv a1 x5_1)) t262 _ ?side1 A16.out).mono ?_
      (case side1 => exact gw_ HG)
      rintro e w19 ⟨rfl, hb⟩
      refine ⟨_, rfl, ?_⟩
      have n0_ := kb_ BK258 hb
      have n1_ := bs_ hb
      clear BK258
      clear HB
      have BK258 := n0_
      have HB := n1_
      clear n0_ n1_
      (try clear hb); (try clear hb2); (try clear hk); (try clear hi)
      refine hK.out _ _ trivial (fun hHeld => ?_)
      clear hK K
      refine norm_ (a' := ?_) ?_ ?_
      rotate_left
      ·show Act.put _ (some 26) _ = _
       simp only [Act.put, List.setIfInBounds_toArray, List.set_cons_zero, List.set_cons_succ, i64_w, i32_w]
       rfl
      refine pure_ (i := 8) (N := some 27) (v := ?_) (a' := ?_) #[true, true, true, true, true, true, true, true, true, false] rfl rfl (any_of HT_.out (by kernel_rfl)) (fun _ _ _ h => h) (Or.inl ⟨by rfl, ?_⟩) ?_ ?_
      rotate_left
      ·intro w'
       go_simp
       with_reducible rfl
      rotate_left
      ·simp only [Act.put, List.setIfInBounds_toArray, List.set_cons_zero, List.set_cons_succ, i64_w, i32_w]
       rfl
      refine one_ (i := 9) (N := none) #[true, true, true, true, true, true, true, true, true, true] rfl rfl (one_of HT_.out (by kernel_rfl)) (by decide) (fun K hK => ?_)
      have hs20 : w19.cell? ⟨gb258, 0, none⟩ = some (.string (⟨#[]⟩ : ByteArray)) := (blk_cell BK258.out 0).trans rfl
      have hfs20 := blk_frozen BK258.out 0
      have hs21 : w19.cell? ⟨gb258, 1, none⟩ = some (.string (⟨#[]⟩ : ByteArray)) := (blk_cell BK258.out 1).trans rfl
      have hfs21 := blk_frozen BK258.out 1
      refine skip_ (w1 := ?_) (by rfl) rfl ?_ ?_
      rotate_left
      ·go_simp
       rfl
      refine hK.out _ _ trivial (fun hHeld => ?_)
      clear hK K
      refine done_ (done_of HT_.out (by kernel_rfl)) ?_
      try go_wp2
      refine bodyPost_ret (results_cell_row rfl _ _ gb258 24 #[.string t261, .string t262] (0, 0) _ rfl (by (with_reducible repeat (first | refine blk_drewN ?_ _ | refine blk_drew ?_ | refine blk_alloc ?_ _)); refine blk_put (cs := #[.string t261, .string (⟨#[]⟩ : ByteArray)]) ?_ 1 _ rfl; (with_reducible repeat (first | refine blk_drewN ?_ _ | refine blk_drew ?_ | refine blk_alloc ?_ _)); refine blk_put (cs := #[.string (⟨#[]⟩ : ByteArray), .string (⟨#[]⟩ : ByteArray)]) ?_ 0 _ rfl; (with_reducible repeat (first | refine blk_drewN ?_ _ | refine blk_drew ?_ | refine blk_alloc ?_ _)); exact BK258.out) Tryz.underlying24 rfl (by kernel_rfl)) rfl ?_
      exact ⟨er_, bl_⟩
   ·rw [if_neg c4] at H
    have c4b0 : (x6_1 == 0) = false := beq_eq_false_iff_ne.mpr c4
    have c4b1 : (x6_1 != 0) = true := bne_iff_ne.mpr c4
    have H' := Aside0.mk H
    clear H
    try go_wp2
    have n0_ := Aside0.mk (blk_drew BK258.out)
    have n1_ := Aside0.mk (below_drew1 HB.out)
    clear BK258
    clear HB
    have BK258 := n0_
    have HB := n1_
    clear n0_ n1_
    refine start_ (n := 6) (S := fun w' => True) (ds := []) #[false, false, false, false, false, false] (by kernel_rfl) rfl rfl trivial (fun hHeld => ?_)
    generalize wr.drew = w22 at BK258 HB hHeld ⊢
    refine pure_ (i := 0) (N := some 11) (v := ?_) (a' := ?_) #[true, false, false, false, false, false] rfl rfl (by kernel_rfl) (fun _ _ _ h => h) (Or.inl ⟨by rfl, ?_⟩) ?_ ?_
    rotate_left
    ·intro w'
     go_simp
     with_reducible rfl
    rotate_left
    ·simp only [Act.put, List.setIfInBounds_toArray, List.set_cons_zero, List.set_cons_succ, i64_w, i32_w]
     rfl
    refine pure_ (i := 1) (N := some 12) (v := ?_) (a' := ?_) #[true, true, false, false, false, false] rfl rfl (by kernel_rfl) (fun _ _ _ h => h) (Or.inl ⟨by rfl, ?_⟩) ?_ ?_
    rotate_left
    ·intro w'
     go_simp
     with_reducible rfl
    rotate_left
    ·simp only [Act.put, List.setIfInBounds_toArray, List.set_cons_zero, List.set_cons_succ, i64_w, i32_w]
     rfl
    refine pure_ (i := 2) (N := some 13) (v := ?_) (a' := ?_) #[true, true, true, false, false, false] rfl rfl (by kernel_rfl) (fun _ _ _ h => h) (Or.inl ⟨by rfl, ?_⟩) ?_ ?_
    rotate_left
    ·intro w'
     go_simp
     with_reducible rfl
    rotate_left
    ·simp only [Act.put, List.setIfInBounds_toArray, List.set_cons_zero, List.set_cons_succ, i64_w, i32_w]
     rfl
    refine pure_ (i := 3) (N := some 14) (v := ?_) (a' := ?_) #[true, true, true, true, false, false] rfl rfl (by kernel_rfl) (fun _ _ _ h => h) (Or.inl ⟨by rfl, ?_⟩) ?_ ?_
    rotate_left
    ·intro w'
     go_simp
     with_reducible rfl
    rotate_left
    ·simp only [Act.put, List.setIfInBounds_toArray, List.set_cons_zero, List.set_cons_succ, i64_w, i32_w]
     rfl
    refine pure_ (i := 4) (N := some 5) (v := ?_) (a' := ?_) #[true, true, true, true, true, false] rfl rfl (by kernel_rfl) (fun _ _ _ h => h) (Or.inl ⟨by rfl, ?_⟩) ?_ ?_
    rotate_left
    ·intro w'
     go_simp
     with_reducible rfl
    rotate_left
    ·simp only [Act.put, List.setIfInBounds_toArray, List.set_cons_zero, List.set_cons_succ, i64_w, i32_w]
     rfl
    refine pure_ (i := 5) (N := some 6) (v := ?_) (a' := ?_) #[true, true, true, true, true, true] rfl rfl (by kernel_rfl) (fun _ _ _ h => h) (Or.inl ⟨by rfl, ?_⟩) ?_ ?_
    rotate_left
    ·intro w'
     go_simp
     with_reducible rfl
    rotate_left
    ·simp only [Act.put, List.setIfInBounds_toArray, List.set_cons_zero, List.set_cons_succ, i64_w, i32_w]
     rfl
    refine done_ (by kernel_rfl) ?_
    try go_wp2
    go_roundg k1
    case measure => have := HK1.out; omega
    case rel => exact ⟨(x6_1), (Int.tmod x5_1 x6_1), (by first | rfl | (simp; done) | (simp [*]; done)), (by first | rfl | (simp; done) | (simp [*]; done)), H', ⟨by have := HK1.out; omega⟩, ⟨bk_⟩, ⟨bl_⟩⟩
end Go.Proofs.YtidajgkepdkcbaaGreatDoor.PF
end
section
namespace Go.Proofs.YtidajgkepdkcbaaGreatDoor.PF
open Go.RowKit Go.Proofs.YtidajgkepdkcbaaGreatDoorW.PrintWords Go.Proofs.YtidajgkepdkcbaaGreatDoorW.PrintLast Go.Proofs.YtidajgkepdkcbaaGreatDoorW.PrintMore
attribute [local go_sem] max2_int min2_int max_two min_two max_three min_three max_four min_four
mutual
def fraction_Add.j0 : Nat → Bool → ByteArray → ByteArray → ByteArray → ByteArray → Option (ByteArray × ByteArray)
 | 0, _, _, _, _, _ => none
 | k + 1, x18, x264000, x264001, x265000, x265001 => if x18 = true then ((whole_Add.f k x264000 x265000).bind fun t266 => (some (t266, (⟨#[49]⟩ : ByteArray)))) else ((fraction_both.f x264000 x264001).bind fun bt267 => (if bt267.2.2 = true then ((fraction_both.f x265000 x265001).bind fun bt270 => (if bt270.2.2 = true then ((fraction_of.f k (wrap64 ((wrap64 (bt267.1 * bt270.2.1)) + (wrap64 (bt270.1 * bt267.2.1)))) (wrap64 (bt267.2.1 * bt270.2.1))).bind fun bt273 => (some (bt273.1, bt273.2))) else (fraction_Add.j1 k x264000 x264001 x265000 x265001))) else (fraction_Add.j1 k x264000 x264001 x265000 x265001)))
def fraction_Add.j1 : Nat → ByteArray → ByteArray → ByteArray → ByteArray → Option (ByteArray × ByteArray)
 | 0, _, _, _, _ => none
 | k + 1, x264000, x264001, x265000, x265001 => (whole_Mul.f k x264000 x265001).bind fun t275 => ((whole_Mul.f k x265000 x264001).bind fun t276 => ((whole_Add.f k t275 t276).bind fun t277 => ((whole_Mul.f k x264001 x265001).bind fun t278 => ((fraction_lowest.f k t277 t278).bind fun bt279 => (some (bt279.1, bt279.2))))))
end
def fraction_Add.f (k : Nat) (a0_0 : ByteArray) (a0_1 : ByteArray) (a1_0 : ByteArray) (a1_1 : ByteArray) : Option (ByteArray × ByteArray) := if a0_1.toList = ([49] : List UInt8) then (fraction_Add.j0 k (a1_1.toList == ([49] : List UInt8)) a0_0 a0_1 a1_0 a1_1) else (fraction_Add.j0 k false a0_0 a0_1 a1_0 a1_1)
def fraction_Add.T8 : Bool × List (List Nat × List Nat) := (true, [([], []), ([0], [0]), ([], []), ([2], [2]), ([1, 3], [1, 3]), ([], []), ([5], [5]), ([], []), ([7], [7]), ([6, 8, 4], [6, 8]), ([4, 9, 9], [4, 9]), ([], []), ([11], [11]), ([], []), ([13], [13]), ([12, 14, 10], [12, 14]), ([10, 15, 15], [10, 15]), ([16, 16, 0, 1, 2, 3, 4, 5, 6, 7, 8, 9, 10, 11, 12, 13, 14, 15, 16], [16])])
def fraction_Add.B8 : List Nat := [0, 1, 0, 4, 15, 0, 32, 0, 128, 511, 1023, 0, 2048, 0, 8192, 32767, 65535, 131071]
theorem fraction_Add.tab8 : rtab .any (opsOf Tryz.f126 8) = fraction_Add.T8 := by kernel_rfl
theorem fraction_Add.bits8 : waitsOk fraction_Add.T8.2 fraction_Add.B8 = true := by kernel_rfl
set_option maxHeartbeats 8000000 in
set_option maxRecDepth 100000 in
theorem fraction_Add.calls (k : Nat) (a0_0 : ByteArray) (a0_1 : ByteArray) (a1_0 : ByteArray) (a1_1 : ByteArray) (r1 : ByteArray) (r2 : ByteArray) (w : World) (hG_ : GWorld w) (h : fraction_Add.f k a0_0 a0_1 a1_0 a1_1 = some (r1, r2)) :
  Calls Tryz.prog 126 #[.agg #[.string a0_0, .string a0_1], .agg #[.string a1_0, .string a1_1]] w fun e w' => e = .returned (.agg #[.string r1, .string r2]) ∧ Below w.heap.size w w' := by
 have hu24 := Tryz.underlying24
 have HB := Aside0.mk (Below.refl w.heap.size w)
 have HG := Aside0.mk hG_
 clear hG_
 have H : (if a0_1.toList = ([49] : List UInt8) then (fraction_Add.j0 k (a1_1.toList == ([49] : List UInt8)) a0_0 a0_1 a1_0 a1_1) else (fraction_Add.j0 k false a0_0 a0_1 a1_0 a1_1)) = some (r1, r2) := h
 clear h
 have HC3 := Aside0.mk H
 clear H
 go_enter Tryz.func126, Tryz.ntmps126
 go_upto_region 1 with (first | ((with_reducible refine gate_dst (N := 2) rfl ?_); refine bx_ 2 #[.string a0_0, .string a0_1] 24 ?_; clear HB; intro gb263 w4 BK263 GW263 HB; have GE263 := GW263) | ((with_reducible refine gate_dst (N := 3) rfl ?_); refine box_event ?hg (N := 3) ?hd (cs := #[.string a1_0, .string a1_1]) (t := 24) ?hr ?_; (case hd => rfl); (case hg => rfl); (case hr => first | (go_simp; done) | (go_simp; rfl)); intro gb264 hg w5 hbox hb; have BK264 := Aside0.mk (hbox); have GW264 := ge_ (w := w) hg; have GE264 := ge_ (w := w) hg; replace HB := bs_ hb; have NB263_264 := nl_ hg BK263; have NB264_263 := ng_ hg BK263; replace BK263 := kb_ BK263 hb; clear hb hbox hg) | ((with_reducible refine gate_dst (N := 4) rfl ?_); refine box_event ?hg (N := 4) ?hd (cs := #[.string (⟨#[]⟩ : ByteArray), .string (⟨#[]⟩ : ByteArray)]) (t := 24) ?hr ?_; (case hd => rfl); (case hg => rfl); (case hr => first | (go_simp; done) | (go_simp; rfl)); intro gb265 hg w6 hbox hb; have BK265 := Aside0.mk (hbox); have GW265 := ge_ (w := w) hg; have GE265 := ge_ (w := w) hg; replace HB := bs_ hb; have NB263_265 := nl_ hg BK263; have NB265_263 := ng_ hg BK263; replace BK263 := kb_ BK263 hb; have NB264_265 := nl_ hg BK264; have NB265_264 := ng_ hg BK264; replace BK264 := kb_ BK264 hb; clear hb hbox hg))
 (try simp only [Act.put, List.setIfInBounds_toArray, List.set_cons_zero, List.set_cons_succ])
 go_cut [18] (fun v18 wc => ∃ (kq : Nat) (x18_2 : Bool), v18 = .bool x18_2 ∧ Aside0 (fraction_Add.j0 kq x18_2 a0_0 a0_1 a1_0 a1_1 = some (r1, r2)) ∧ Aside0 (kq ≤ k) ∧ Aside0 (wc.heap[gb263]? = some (.cells #[.string a0_0, .string a0_1] 24 (0, 0))) ∧ Aside0 (wc.heap[gb264]? = some (.cells #[.string a1_0, .string a1_1] 24 (0, 0))) ∧ Aside0 (wc.heap[gb265]? = some (.cells #[.string (⟨#[]⟩ : ByteArray), .string (⟨#[]⟩ : ByteArray)] 24 (0, 0))) ∧ Aside0 (Below w.heap.size w wc))
 case first =>
  have H := HC3.out
  clear HC3
  by_cases c7 : a0_1.toList = ([49] : List UInt8)
  ·rw [if_pos c7] at H
   have c7b0 : (a0_1.toList == ([49] : List UInt8)) = true := beq_iff_eq.mpr c7
   have c7b1 : (a0_1.toList != ([49] : List UInt8)) = false := bne_eq_false_iff_eq.mpr c7
   clear c7
   (first | rw [c7b0] | (simp only [i64_w, i32_w]; rw [c7b0]) | skip)
   have H' := Aside0.mk H
   clear H
   have hnb8 := NB263_264.out
   have hnc8 := NB264_263.out
   have hnb9 := NB263_265.out
   have hnc9 := NB265_263.out
   have hcz10_0 : w6.cell? ⟨gb263, 0, none⟩ = some (.string a0_0) := (blk_cell BK263.out 0).trans rfl
   have hcz10_1 : w6.cell? ⟨gb263, 1, none⟩ = some (.string a0_1) := (blk_cell BK263.out 1).trans rfl
   have hfz10_0 := blk_frozen BK263.out 0
   have hfz10_1 := blk_frozen BK263.out 1
   have hnb11 := NB264_265.out
   have hnc11 := NB265_264.out
   have hcz12_0 : w6.cell? ⟨gb264, 0, none⟩ = some (.string a1_0) := (blk_cell BK264.out 0).trans rfl
   have hcz12_1 : w6.cell? ⟨gb264, 1, none⟩ = some (.string a1_1) := (blk_cell BK264.out 1).trans rfl
   have hfz12_0 := blk_frozen BK264.out 0
   have hfz12_1 := blk_frozen BK264.out 1
   go_wp2
   go_meet
   case rel => exact ⟨_, ((a1_1.toList == ([49] : List UInt8))), (by first | rfl | (simp; done) | (simp [*]; done)), H', ⟨by first | omega | exact Nat.le_refl _⟩, ⟨bk_⟩, ⟨bk_⟩, ⟨bk_⟩, ⟨bl_⟩⟩
  ·rw [if_neg c7] at H
   have c7b0 : (a0_1.toList == ([49] : List UInt8)) = false := beq_eq_false_iff_ne.mpr c7
   have c7b1 : (a0_1.toList != ([49] : List UInt8)) = true := bne_iff_ne.mpr c7
   (first | rw [c7b0] | (simp only [i64_w, i32_w]; rw [c7b0]) | skip)
   have H' := Aside0.mk H
   clear H
   have hnb13 := NB263_264.out
   have hnc13 := NB264_263.out
   have hnb14 := NB263_265.out
   have hnc14 := NB265_263.out
   have hcz15_0 : w6.cell? ⟨gb263, 0, none⟩ = some (.string a0_0) := (blk_cell BK263.out 0).trans rfl
   have hcz15_1 : w6.cell? ⟨gb263, 1, none⟩ = some (.string a0_1) := (blk_cell BK263.out 1).trans rfl
   have hfz15_0 := blk_frozen BK263.out 0
   have hfz15_1 := blk_frozen BK263.out 1
   go_wp2
   go_meet
   case rel => exact ⟨_, (false), (by first | rfl | (simp; done) | (simp [*]; done)), H', ⟨by first | omega | exact Nat.le_refl _⟩, ⟨bk_⟩, ⟨bk_⟩, ⟨bk_⟩, ⟨bl_⟩⟩
 case rest =>
  clear HC3
  try clear c1
  try clear p2
  try clear c7
  try clear c7b0
  try clear c7b1
  try clear c8
  try clear c9
  try clear c11
  try clear c12
  try clear c13
  try clear c14
  try clear hcz10_0
  try clear hcz10_1
  try clear hcz12_0
  try clear hcz12_1
  try clear hcz15_0
  try clear hcz15_1
  try clear hfz10_0
  try clear hfz10_1
  try clear hfz12_0
  try clear hfz12_1
  try clear hfz15_0
  try clear hfz15_1
  obtain ⟨kq, x18_2, rfl, HA, HJ2, BK263, BK264, BK265, HB⟩ := hcut
  cases kq with
  | zero => exact absurd HA.out (by simp [fraction_Add.j0])
  | succ kj2 =>
   have H := HA.out
   clear HA
   simp only [fraction_Add.j0] at H
   by_cases c16 : x18_2 = true
   ·subst c16
    have H1 : ((whole_Add.f kj2 a0_0 a1_0).bind fun t266 => (some (t266, (⟨#[49]⟩ : ByteArray)))) = some (r1, r2) := by rw [if_pos rfl] at H; exact H
    clear H
    have H := H1
    clear H1
    replace H := Option.bind_eq_some_iff.mp H
    obtain ⟨t266, A170, H⟩ := H
    replace H : (some (t266, (⟨#[49]⟩ : ByteArray))) = some (r1, r2) := H
    have A17 := Aside0.mk A170
    clear A170
    simp only [Option.some.injEq, Prod.mk.injEq] at H
    obtain ⟨rfl, rfl⟩ := H
    have hnb18 := NB263_264.out
    have hnc18 := NB264_263.out
    have hnb19 := NB263_265.out
    have hnc19 := NB265_263.out
    have hcz20_0 : wc.cell? ⟨gb263, 0, none⟩ = some (.string a0_0) := (blk_cell BK263.out 0).trans rfl
    have hcz20_1 : wc.cell? ⟨gb263, 1, none⟩ = some (.string a0_1) := (blk_cell BK263.out 1).trans rfl
    have hfz20_0 := blk_frozen BK263.out 0
    have hfz20_1 := blk_frozen BK263.out 1
    have hnb21 := NB264_265.out
    have hnc21 := NB265_264.out
    have hcz22_0 : wc.cell? ⟨gb264, 0, none⟩ = some (.string a1_0) := (blk_cell BK264.out 0).trans rfl
    have hcz22_1 : wc.cell? ⟨gb264, 1, none⟩ = some (.string a1_1) := (blk_cell BK264.out 1).trans rfl
    have hfz22_0 := blk_frozen BK264.out 0
    have hfz22_1 := blk_frozen BK264.out 1
    go_wp2_with (first | ((with_reducible refine gate_callee (f := 42) rfl ?_); refine goesL_ (some 23) rfl rfl Tryz.func42 (by kernel_rfl) rfl #[.string a0_0, .string a1_0] rfl mp_ ?_; (with_reducible refine (whole_Add.calls kj2 a0_0 a1_0 t266 _ ?side1 A17.out).mono ?_); (case side1 => exact gw_ HG); rintro e w23 ⟨rfl, hb⟩; refine ⟨_, rfl, ?_⟩; replace BK263 := kb_ BK263 hb; replace BK264 := kb_ BK264 hb; replace BK265 := kb_ BK265 hb; replace HB := bs_ hb; (try clear hb); (try clear hb2); (try clear hk); (try clear hi); obtain ⟨hcz24_0, hcz24_1, hfz24_0, hfz24_1⟩ := c2_ BK265))
    refine bodyPost_ret (results_cell_row rfl _ _ gb265 24 #[.string t266, .string (⟨#[49]⟩ : ByteArray)] (0, 0) _ rfl (by (with_reducible repeat (first | refine blk_drewN ?_ _ | refine blk_drew ?_ | refine blk_alloc ?_ _)); refine blk_put (cs := #[.string t266, .string (⟨#[]⟩ : ByteArray)]) ?_ 1 _ rfl; (with_reducible repeat (first | refine blk_drewN ?_ _ | refine blk_drew ?_ | refine blk_alloc ?_ _)); refine blk_put (cs := #[.string (⟨#[]⟩ : ByteArray), .string (⟨#[]⟩ : ByteArray)]) ?_ 0 _ rfl; (with_reducible repeat (first | refine blk_drewN ?_ _ | refine blk_drew ?_ | refine blk_alloc ?_ _)); exact BK265.out) Tryz.underlying24 rfl (by kernel_rfl)) rfl ?_
    exact ⟨er_, bl_⟩
   ·replace c16 := Bool.eq_false_iff.mpr c16
    subst c16
    have H1 : ((fraction_both.f a0_0 a0_1).bind fun bt267 => (if bt267.2.2 = true then ((fraction_both.f a1_0 a1_1).bind fun bt270 => (if bt270.2.2 = true then ((fraction_of.f kj2 (wrap64 ((wrap64 (bt267.1 * bt270.2.1)) + (wrap64 (bt270.1 * bt267.2.1)))) (wrap64 (bt267.2.1 * bt270.2.1))).bind fun bt273 => (some (bt273.1, bt273.2))) else (fraction_Add.j1 kj2 a0_0 a0_1 a1_0 a1_1))) else (fraction_Add.j1 kj2 a0_0 a0_1 a1_0 a1_1))) = some (r1, r2) := by rw [if_neg (show ¬ (false = true) by decide)] at H; exact H
    clear H
    have H := H1
    clear H1
    replace H := Option.bind_eq_some_iff.mp H
    obtain ⟨⟨t267, t268, t269⟩, A250, H⟩ := H
    replace H : (if t269 = true then ((fraction_both.f a1_0 a1_1).bind fun bt270 => (if bt270.2.2 = true then ((fraction_of.f kj2 (wrap64 ((wrap64 (t267 * bt270.2.1)) + (wrap64 (bt270.1 * t268)))) (wrap64 (t268 * bt270.2.1))).bind fun bt273 => (some (bt273.1, bt273.2))) else (fraction_Add.j1 kj2 a0_0 a0_1 a1_0 a1_1))) else (fraction_Add.j1 kj2 a0_0 a0_1 a1_0 a1_1)) = some (r1, r2) := H
    have A25 := Aside0.mk A250
    clear A250
    have HC26 := Aside0.mk H
    clear H
    have hnb27 := NB263_264.out
    have hnc27 := NB264_263.out
    have hnb28 := NB263_265.out
    have hnc28 := NB265_263.out
    have hcz29_0 : wc.cell? ⟨gb263, 0, none⟩ = some (.string a0_0) := (blk_cell BK263.out 0).trans rfl
    have hcz29_1 : wc.cell? ⟨gb263, 1, none⟩ = some (.string a0_1) := (blk_cell BK263.out 1).trans rfl
    have hfz29_0 := blk_frozen BK263.out 0
    have hfz29_1 := blk_frozen BK263.out 1
    go_upto_if 31 with (first | ((with_reducible refine gate_callee (f := 87) rfl ?_); refine goesL_ (some 27) rfl rfl Tryz.func87 (by kernel_rfl) rfl #[.agg #[.string a0_0, .string a0_1]] rfl mp_ ?_; (with_reducible refine (fraction_both.calls a0_0 a0_1 t267 t268 t269 _ A25.out).mono ?_); rintro e w30 ⟨rfl, hb⟩; refine ⟨_, rfl, ?_⟩; replace BK263 := kb_ BK263 hb; replace BK264 := kb_ BK264 hb; replace BK265 := kb_ BK265 hb; replace HB := bs_ hb; (try clear hb); (try clear hb2); (try clear hk); (try clear hi)))
    (try simp only [Act.put, List.setIfInBounds_toArray, List.set_cons_zero, List.set_cons_succ])
    go_cut [] (fun wc => ∃ (kq : Nat) (x266000_25 : ByteArray) (x266001_25 : ByteArray), Aside0 (fraction_Add.j1 kq a0_0 a0_1 a1_0 a1_1 = some (r1, r2)) ∧ Aside0 (kq ≤ kj2) ∧ Aside0 (wc.heap[gb263]? = some (.cells #[.string a0_0, .string a0_1] 24 (0, 0))) ∧ Aside0 (wc.heap[gb264]? = some (.cells #[.string a1_0, .string a1_1] 24 (0, 0))) ∧ Aside0 (wc.heap[gb265]? = some (.cells #[.string x266000_25, .string x266001_25] 24 (0, 0))) ∧ Aside0 (Below w.heap.size w wc))
    case first =>
     have H := HC26.out
     clear HC26
     by_cases c31 : t269 = true
     ·subst c31
      have H1 : ((fraction_both.f a1_0 a1_1).bind fun bt270 => (if bt270.2.2 = true then ((fraction_of.f kj2 (wrap64 ((wrap64 (t267 * bt270.2.1)) + (wrap64 (bt270.1 * t268)))) (wrap64 (t268 * bt270.2.1))).bind fun bt273 => (some (bt273.1, bt273.2))) else (fraction_Add.j1 kj2 a0_0 a0_1 a1_0 a1_1))) = some (r1, r2) := by rw [if_pos rfl] at H; exact H
      clear H
      have H := H1
      clear H1
      replace H := Option.bind_eq_some_iff.mp H
      obtain ⟨⟨t270, t271, t272⟩, A320, H⟩ := H
      replace H : (if t272 = true then ((fraction_of.f kj2 (wrap64 ((wrap64 (t267 * t271)) + (wrap64 (t270 * t268)))) (wrap64 (t268 * t271))).bind fun bt273 => (some (bt273.1, bt273.2))) else (fraction_Add.j1 kj2 a0_0 a0_1 a1_0 a1_1)) = some (r1, r2) := H
      have A32 := Aside0.mk A320
      clear A320
      by_cases c33 : t272 = true
      ·subst c33
       have H1 : ((fraction_of.f kj2 (wrap64 ((wrap64 (t267 * t271)) + (wrap64 (t270 * t268)))) (wrap64 (t268 * t271))).bind fun bt273 => (some (bt273.1, bt273.2))) = some (r1, r2) := by rw [if_pos rfl] at H; exact H
       clear H
       have H := H1
       clear H1
       replace H := Option.bind_eq_some_iff.mp H
       obtain ⟨⟨t273, t274⟩, A340, H⟩ := H
       replace H : (some (t273, t274)) = some (r1, r2) := H
       have A34 := Aside0.mk A340
       clear A340
       simp only [Option.some.injEq, Prod.mk.injEq] at H
       obtain ⟨rfl, rfl⟩ := H
       have hnb35 := NB264_263.out
       have hnc35 := NB263_264.out
       have hnb36 := NB264_265.out
       have hnc36 := NB265_264.out
       have hcz37_0 : w30.cell? ⟨gb264, 0, none⟩ = some (.string a1_0) := (blk_cell BK264.out 0).trans rfl
       have hcz37_1 : w30.cell? ⟨gb264, 1, none⟩ = some (.string a1_1) := (blk_cell BK264.out 1).trans rfl
       have hfz37_0 := blk_frozen BK264.out 0
       have hfz37_1 := blk_frozen BK264.out 1
       go_wp2_with (first | ((with_reducible refine gate_callee (f := 87) rfl ?_); refine goesL_ (some 34) rfl rfl Tryz.func87 (by kernel_rfl) rfl #[.agg #[.string a1_0, .string a1_1]] rfl mp_ ?_; (with_reducible refine (fraction_both.calls a1_0 a1_1 t270 t271 true _ A32.out).mono ?_); rintro e w38 ⟨rfl, hb⟩; refine ⟨_, rfl, ?_⟩; replace BK263 := kb_ BK263 hb; replace BK264 := kb_ BK264 hb; replace BK265 := kb_ BK265 hb; replace HB := bs_ hb; (try clear hb); (try clear hb2); (try clear hk); (try clear hi)) | ((with_reducible refine gate_callee (f := 148) rfl ?_); refine goesL_ (some 49) rfl rfl Tryz.func148 (by kernel_rfl) rfl #[.int .i64 (wrap64 ((wrap64 (t267 * t271)) + (wrap64 (t270 * t268)))), .int .i64 (wrap64 (t268 * t271))] rfl mp_ ?_; (with_reducible refine (fraction_of.calls kj2 (wrap64 ((wrap64 (t267 * t271)) + (wrap64 (t270 * t268)))) (wrap64 (t268 * t271)) t273 t274 _ ?side1 A34.out).mono ?_); (case side1 => exact gw_ HG); rintro e w39 ⟨rfl, hb⟩; refine ⟨_, rfl, ?_⟩; replace BK263 := kb_ BK263 hb; replace BK264 := kb_ BK264 hb; replace BK265 := kb_ BK265 hb; replace HB := bs_ hb; (try clear hb); (try clear hb2); (try clear hk); (try clear hi); have hnb40 := NB265_263.out; have hnc40 := NB263_265.out; obtain ⟨hcz41_0, hcz41_1, hfz41_0, hfz41_1⟩ := c2_ BK265))
       refine bodyPost_ret (results_cell_row rfl _ _ gb265 24 #[.string t273, .string t274] (0, 0) _ rfl (by (with_reducible repeat (first | refine blk_drewN ?_ _ | refine blk_drew ?_ | refine blk_alloc ?_ _)); refine blk_put (cs := #[.string t273, .string (⟨#[]⟩ : ByteArray)]) ?_ 1 _ rfl; (with_reducible repeat (first | refine blk_drewN ?_ _ | refine blk_drew ?_ | refine blk_alloc ?_ _)); refine blk_put (cs := #[.string (⟨#[]⟩ : ByteArray), .string (⟨#[]⟩ : ByteArray)]) ?_ 0 _ rfl; (with_reducible repeat (first | refine blk_drewN ?_ _ | refine blk_drew ?_ | refine blk_alloc ?_ _)); exact BK265.out) Tryz.underlying24 rfl (by kernel_rfl)) rfl ?_
       exact ⟨er_, bl_⟩
      ·replace c33 := Bool.eq_false_iff.mpr c33
       subst c33
       have H1 : (fraction_Add.j1 kj2 a0_0 a0_1 a1_0 a1_1) = some (r1, r2) := by rw [if_neg (show ¬ (false = true) by decide)] at H; exact H
       clear H
       have H := H1
       clear H1
       have H' := Aside0.mk H
       clear H
       have hnb42 := NB264_263.out
       have hnc42 := NB263_264.out
       have hnb43 := NB264_265.out
       have hnc43 := NB265_264.out
       have hcz44_0 : w30.cell? ⟨gb264, 0, none⟩ = some (.string a1_0) := (blk_cell BK264.out 0).trans rfl
       have hcz44_1 : w30.cell? ⟨gb264, 1, none⟩ = some (.string a1_1) := (blk_cell BK264.out 1).trans rfl
       have hfz44_0 := blk_frozen BK264.out 0
       have hfz44_1 := blk_frozen BK264.out 1
       go_wp2_with (first | ((with_reducible refine gate_callee (f := 87) rfl ?_); refine goesL_ (some 34) rfl rfl Tryz.func87 (by kernel_rfl) rfl #[.agg #[.string a1_0, .string a1_1]] rfl mp_ ?_; (with_reducible refine (fraction_both.calls a1_0 a1_1 t270 t271 false _ A32.out).mono ?_); rintro e w45 ⟨rfl, hb⟩; refine ⟨_, rfl, ?_⟩; replace BK263 := kb_ BK263 hb; replace BK264 := kb_ BK264 hb; replace BK265 := kb_ BK265 hb; replace HB := bs_ hb; (try clear hb); (try clear hb2); (try clear hk); (try clear hi)))
       go_meet
       case rel => exact ⟨_, ((⟨#[]⟩ : ByteArray)), ((⟨#[]⟩ : ByteArray)), H', ⟨by have := HJ2.out; first | omega | exact Nat.le_refl _⟩, ⟨bk_⟩, ⟨bk_⟩, ⟨bk_⟩, ⟨bl_⟩⟩
     ·replace c31 := Bool.eq_false_iff.mpr c31
      subst c31
      have H1 : (fraction_Add.j1 kj2 a0_0 a0_1 a1_0 a1_1) = some (r1, r2) := by rw [if_neg (show ¬ (false = true) by decide)] at H; exact H
      clear H
      have H := H1
      clear H1
      have H' := Aside0.mk H
      clear H
      go_wp2
      go_meet
      case rel => exact ⟨_, ((⟨#[]⟩ : ByteArray)), ((⟨#[]⟩ : ByteArray)), H', ⟨by have := HJ2.out; first | omega | exact Nat.le_refl _⟩, ⟨bk_⟩, ⟨bk_⟩, ⟨bk_⟩, ⟨bl_⟩⟩
    case rest =>
     clear HC26
     try clear c1
     try clear c2
     try clear p2
     try clear c3
     try clear c4
     try clear p6
     try clear c7
     try clear c7b0
     try clear c7b1
     try clear c8
     try clear c9
     try clear c11
     try clear c12
     try clear c13
     try clear c14
     try clear c16
     try clear c18
     try clear c19
     try clear c21
     try clear c27
     try clear c28
     try clear c31
     try clear c33
     try clear c35
     try clear c36
     try clear c40
     try clear c42
     try clear c43
     try clear hcz10_0
     try clear hcz10_1
     try clear hcz12_0
     try clear hcz12_1
     try clear hcz15_0
     try clear hcz15_1
     try clear hcz20_0
     try clear hcz20_1
     try clear hcz22_0
     try clear hcz22_1
     try clear hcz24_0
     try clear hcz24_1
     try clear hcz29_0
     try clear hcz29_1
     try clear hcz37_0
     try clear hcz37_1
     try clear hcz41_0
     try clear hcz41_1
     try clear hcz44_0
     try clear hcz44_1
     try clear hfz10_0
     try clear hfz10_1
     try clear hfz12_0
     try clear hfz12_1
     try clear hfz15_0
     try clear hfz15_1
     try clear hfz20_0
     try clear hfz20_1
     try clear hfz22_0
     try clear hfz22_1
     try clear hfz24_0
     try clear hfz24_1
     try clear hfz29_0
     try clear hfz29_1
     try clear hfz37_0
     try clear hfz37_1
     try clear hfz41_0
     try clear hfz41_1
     try clear hfz44_0
     try clear hfz44_1
     try clear p2
     obtain ⟨kq, x266000_25, x266001_25, HA, HJ25, BK263, BK264, BK265, HB⟩ := hcut
     cases kq with
     | zero => exact absurd HA.out (by simp [fraction_Add.j1])
     | succ kj25 =>
      have H := HA.out
      clear HA
      simp only [fraction_Add.j1] at H
      replace H := Option.bind_eq_some_iff.mp H
      obtain ⟨t275, A460, H⟩ := H
      replace H : ((whole_Mul.f kj25 a1_0 a0_1).bind fun t276 => ((whole_Add.f kj25 t275 t276).bind fun t277 => ((whole_Mul.f kj25 a0_1 a1_1).bind fun t278 => ((fraction_lowest.f kj25 t277 t278).bind fun bt279 => (some (bt279.1, bt279.2)))))) = some (r1, r2) := H
      have A46 := Aside0.mk A460
      clear A460
      replace H := Option.bind_eq_some_iff.mp H
      obtain ⟨t276, A470, H⟩ := H
      replace H : ((whole_Add.f kj25 t275 t276).bind fun t277 => ((whole_Mul.f kj25 a0_1 a1_1).bind fun t278 => ((fraction_lowest.f kj25 t277 t278).bind fun bt279 => (some (bt279.1, bt279.2))))) = some (r1, r2) := H
      have A47 := Aside0.mk A470
      clear A470
      replace H := Option.bind_eq_some_iff.mp H
      obtain ⟨t277, A480, H⟩ := H
      replace H : ((whole_Mul.f kj25 a0_1 a1_1).bind fun t278 => ((fraction_lowest.f kj25 t277 t278).bind fun bt279 => (some (bt279.1, bt279.2)))) = some (r1, r2) := H
      have A48 := Aside0.mk A480
      clear A480
      replace H := Option.bind_eq_some_iff.mp H
      obtain ⟨t278, A490, H⟩ := H
      replace H : ((fraction_lowest.f kj25 t277 t278).bind fun bt279 => (some (bt279.1, bt279.2))) = some (r1, r2) := H
      have A49 := Aside0.mk A490
      clear A490
      replace H := Option.bind_eq_some_iff.mp H
      obtain ⟨⟨t279, t280⟩, A500, H⟩ := H
      replace H : (some (t279, t280)) = some (r1, r2) := H
      have A50 := Aside0.mk A500
      clear A500
      simp only [Option.some.injEq, Prod.mk.injEq] at H
      obtain ⟨rfl, rfl⟩ := H
      try go_wp2
      have n0_ := Aside0.mk (blk_drew BK263.out)
      have n1_ := Aside0.mk (blk_drew BK264.out)
      have n2_ := Aside0.mk (blk_drew BK265.out)
      have n3_ := Aside0.mk (below_drew1 HB.out)
      clear BK263
      clear BK264
      clear BK265
      clear HB
      have BK263 := n0_
      have BK264 := n1_
      have BK265 := n2_
      have HB := n3_
      clear n0_ n1_ n2_ n3_
      refine start_ (n := 18) (S := fun w' => w'.cell? ⟨gb263, 0, none⟩ = some (.string a0_0) ∧ w'.cell? ⟨gb263, 1, none⟩ = some (.string a0_1) ∧ w'.cell? ⟨gb264, 0, none⟩ = some (.string a1_0) ∧ w'.cell? ⟨gb264, 1, none⟩ = some (.string a1_1)) (ds := []) #[false, false, false, false, false, false, false, false, false, false, false, false, false, false, false, false, false, false] (by kernel_rfl) rfl rfl ⟨(blk_cell BK263.out 0).trans rfl, (blk_cell BK263.out 1).trans rfl, (blk_cell BK264.out 0).trans rfl, (blk_cell BK264.out 1).trans rfl⟩ (fun hHeld => ?_); refine with_tabW fraction_Add.tab8 fraction_Add.bits8 (fun HT_ HW_ => ?_)
      generalize wc.drew = w51 at BK263 BK264 BK265 HB hHeld ⊢
      refine pure_ (i := 0) (N := some 50) (v := ?_) (a' := ?_) #[true, false, false, false, false, false, false, false, false, false, false, false, false, false, false, false, false, false] rfl rfl (any_of HT_.out (by kernel_rfl)) (fun _ _ _ h => h) (Or.inl ⟨by rfl, ?_⟩) ?_ ?_
      rotate_left
      ·intro w'
       go_simp
       with_reducible rfl
      rotate_left
      ·simp only [Act.put, List.setIfInBounds_toArray, List.set_cons_zero, List.set_cons_succ, i64_w, i32_w]
       rfl
      refine pure_ (i := 2) (N := some 52) (v := ?_) (a' := ?_) #[true, false, true, false, false, false, false, false, false, false, false, false, false, false, false, false, false, false] rfl rfl (any_of HT_.out (by kernel_rfl)) (fun _ _ _ h => h) (Or.inl ⟨by rfl, ?_⟩) ?_ ?_
      rotate_left
      ·intro w'
       go_simp
       with_reducible rfl
      rotate_left
      ·simp only [Act.put, List.setIfInBounds_toArray, List.set_cons_zero, List.set_cons_succ, i64_w, i32_w]
       rfl
      refine pure_ (i := 5) (N := some 55) (v := ?_) (a' := ?_) #[true, false, true, false, false, true, false, false, false, false, false, false, false, false, false, false, false, false] rfl rfl (any_of HT_.out (by kernel_rfl)) (fun _ _ _ h => h) (Or.inl ⟨by rfl, ?_⟩) ?_ ?_
      rotate_left
      ·intro w'
       go_simp
       with_reducible rfl
      rotate_left
      ·simp only [Act.put, List.setIfInBounds_toArray, List.set_cons_zero, List.set_cons_succ, i64_w, i32_w]
       rfl
      refine pure_ (i := 7) (N := some 57) (v := ?_) (a' := ?_) #[true, false, true, false, false, true, false, true, false, false, false, false, false, false, false, false, false, false] rfl rfl (any_of HT_.out (by kernel_rfl)) (fun _ _ _ h => h) (Or.inl ⟨by rfl, ?_⟩) ?_ ?_
      rotate_left
      ·intro w'
       go_simp
       with_reducible rfl
      rotate_left
      ·simp only [Act.put, List.setIfInBounds_toArray, List.set_cons_zero, List.set_cons_succ, i64_w, i32_w]
       rfl
      refine pure_ (i := 11) (N := some 61) (v := ?_) (a' := ?_) #[true, false, true, false, false, true, false, true, false, false, false, true, false, false, false, false, false, false] rfl rfl (any_of HT_.out (by kernel_rfl)) (fun _ _ _ h => h) (Or.inl ⟨by rfl, ?_⟩) ?_ ?_
      rotate_left
      ·intro w'
       go_simp
       with_reducible rfl
      rotate_left
      ·simp only [Act.put, List.setIfInBounds_toArray, List.set_cons_zero, List.set_cons_succ, i64_w, i32_w]
       rfl
      refine pure_ (i := 13) (N := some 63) (v := ?_) (a' := ?_) #[true, false, true, false, false, true, false, true, false, false, false, true, false, true, false, false, false, false] rfl rfl (any_of HT_.out (by kernel_rfl)) (fun _ _ _ h => h) (Or.inl ⟨by rfl, ?_⟩) ?_ ?_
      rotate_left
      ·intro w'
       go_simp
       with_reducible rfl
      rotate_left
      ·simp only [Act.put, List.setIfInBounds_toArray, List.set_cons_zero, List.set_cons_succ, i64_w, i32_w]
       rfl
      refine take_ (i := 1) (N := some 51) (v := ?_) (a' := ?_) #[true, true, true, false, false, true, false, true, false, false, false, true, false, true, false, false, false, false] rfl rfl (take_ofW HT_.out HW_.out (by kernel_rfl)) (fun _ _ _ h => h) (Or.inl ⟨by rfl, ?_⟩) hHeld ?_ ?_
      rotate_left
      ·rintro w' ⟨s0, s1, s2, s3⟩
       go_simp
       with_reducible rfl
      rotate_left
      ·simp only [Act.put, List.setIfInBounds_toArray, List.set_cons_zero, List.set_cons_succ, i64_w, i32_w]
       rfl
      refine take_ (i := 3) (N := some 53) (v := ?_) (a' := ?_) #[true, true, true, true, false, true, false, true, false, false, false, true, false, true, false, false, false, false] rfl rfl (take_ofW HT_.out HW_.out (by kernel_rfl)) (fun _ _ _ h => h) (Or.inl ⟨by rfl, ?_⟩) hHeld ?_ ?_
      rotate_left
      ·rintro w' ⟨s0, s1, s2, s3⟩
       go_simp
       with_reducible rfl
      rotate_left
      ·simp only [Act.put, List.setIfInBounds_toArray, List.set_cons_zero, List.set_cons_succ, i64_w, i32_w]
       rfl
      refine take_ (i := 6) (N := some 56) (v := ?_) (a' := ?_) #[true, true, true, true, false, true, true, true, false, false, false, true, false, true, false, false, false, false] rfl rfl (take_ofW HT_.out HW_.out (by kernel_rfl)) (fun _ _ _ h => h) (Or.inl ⟨by rfl, ?_⟩) hHeld ?_ ?_
      rotate_left
      ·rintro w' ⟨s0, s1, s2, s3⟩
       go_simp
       with_reducible rfl
      rotate_left
      ·simp only [Act.put, List.setIfInBounds_toArray, List.set_cons_zero, List.set_cons_succ, i64_w, i32_w]
       rfl
      refine take_ (i := 8) (N := some 58) (v := ?_) (a' := ?_) #[true, true, true, true, false, true, true, true, true, false, false, true, false, true, false, false, false, false] rfl rfl (take_ofW HT_.out HW_.out (by kernel_rfl)) (fun _ _ _ h => h) (Or.inl ⟨by rfl, ?_⟩) hHeld ?_ ?_
      rotate_left
      ·rintro w' ⟨s0, s1, s2, s3⟩
       go_simp
       with_reducible rfl
      rotate_left
      ·simp only [Act.put, List.setIfInBounds_toArray, List.set_cons_zero, List.set_cons_succ, i64_w, i32_w]
       rfl
      refine take_ (i := 12) (N := some 62) (v := ?_) (a' := ?_) #[true, true, true, true, false, true, true, true, true, false, false, true, true, true, false, false, false, false] rfl rfl (take_ofW HT_.out HW_.out (by kernel_rfl)) (fun _ _ _ h => h) (Or.inl ⟨by rfl, ?_⟩) hHeld ?_ ?_
      rotate_left
      ·rintro w' ⟨s0, s1, s2, s3⟩
       go_simp
       with_reducible rfl
      rotate_left
      ·simp only [Act.put, List.setIfInBounds_toArray, List.set_cons_zero, List.set_cons_succ, i64_w, i32_w]
       rfl
      refine take_ (i := 14) (N := some 64) (v := ?_) (a' := ?_) #[true, true, true, true, false, true, true, true, true, false, false, true, true, true, true, false, false, false] rfl rfl (take_ofW HT_.out HW_.out (by kernel_rfl)) (fun _ _ _ h => h) (Or.inl ⟨by rfl, ?_⟩) hHeld ?_ ?_
      rotate_left
      ·rintro w' ⟨s0, s1, s2, s3⟩
       go_simp
       with_reducible rfl
      rotate_left
      ·simp only [Act.put, List.setIfInBounds_toArray, List.set_cons_zero, List.set_cons_succ, i64_w, i32_w]
       rfl
      refine one_ (i := 4) (N := some 54) #[true, true, true, true, true, true, true, true, true, false, false, true, true, true, true, false, false, false] rfl rfl (one_of HT_.out (by kernel_rfl)) (by decide) (fun K hK => ?_)
      refine goes_ Tryz.func88 (by kernel_rfl) rfl #[.string a0_0, .string a1_1] (by rfl) rfl rfl mp_ ?_
      with_reducible refine (whole_Mul.calls kj25 a0_0 a1_1 t275 _ ?side1 A46.out).mono ?_
      (case side1 => exact gw_ HG)
      rintro e w52 ⟨rfl, hb⟩
      refine ⟨_, rfl, ?_⟩
      have n0_ := kb_ BK263 hb
      have n1_ := kb_ BK264 hb
      have n2_ := kb_ BK265 hb
      have n3_ := bs_ hb
      clear BK263
      clear BK264
      clear BK265
      clear HB
      have BK263 := n0_
      have BK264 := n1_
      have BK265 := n2_
      have HB := n3_
      clear n0_ n1_ n2_ n3_
      (try clear hb); (try clear hb2); (try clear hk); (try clear hi)
      refine hK.out _ _ ⟨(blk_cell BK263.out 0).trans rfl, (blk_cell BK263.out 1).trans rfl, (blk_cell BK264.out 0).trans rfl, (blk_cell BK264.out 1).trans rfl⟩ (fun hHeld => ?_)
      clear hK K
      refine norm_ (a' := ?_) ?_ ?_
      rotate_left
      ·show Act.put _ (some 54) _ = _
       simp only [Act.put, List.setIfInBounds_toArray, List.set_cons_zero, List.set_cons_succ, i64_w, i32_w]
       rfl
      refine one_ (i := 9) (N := some 59) #[true, true, true, true, true, true, true, true, true, true, false, true, true, true, true, false, false, false] rfl rfl (one_of HT_.out (by kernel_rfl)) (by decide) (fun K hK => ?_)
      refine goes_ Tryz.func88 (by kernel_rfl) rfl #[.string a1_0, .string a0_1] (by rfl) rfl rfl mp_ ?_
      with_reducible refine (whole_Mul.calls kj25 a1_0 a0_1 t276 _ ?side1 A47.out).mono ?_
      (case side1 => exact gw_ HG)
      rintro e w53 ⟨rfl, hb⟩
      refine ⟨_, rfl, ?_⟩
      have n0_ := kb_ BK263 hb
      have n1_ := kb_ BK264 hb
      have n2_ := kb_ BK265 hb
      have n3_ := bs_ hb
      clear BK263
      clear BK264
      clear BK265
      clear HB
      have BK263 := n0_
      have BK264 := n1_
      have BK265 := n2_
      have HB := n3_
      clear n0_ n1_ n2_ n3_
      (try clear hb); (try clear hb2); (try clear hk); (try clear hi)
      refine hK.out _ _ ⟨(blk_cell BK263.out 0).trans rfl, (blk_cell BK263.out 1).trans rfl, (blk_cell BK264.out 0).trans rfl, (blk_cell BK264.out 1).trans rfl⟩ (fun hHeld => ?_)
      clear hK K
      refine norm_ (a' := ?_) ?_ ?_
      rotate_left
      ·show Act.put _ (some 59) _ = _
       simp only [Act.put, List.setIfInBounds_toArray, List.set_cons_zero, List.set_cons_succ, i64_w, i32_w]
       rfl
      refine one_ (i := 10) (N := some 60) #[true, true, true, true, true, true, true, true, true, true, true, true, true, true, true, false, false, false] rfl rfl (one_of HT_.out (by kernel_rfl)) (by decide) (fun K hK => ?_)
      refine goes_ Tryz.func42 (by kernel_rfl) rfl #[.string t275, .string t276] (by rfl) rfl rfl mp_ ?_
      with_reducible refine (whole_Add.calls kj25 t275 t276 t277 _ ?side1 A48.out).mono ?_
      (case side1 => exact gw_ HG)
      rintro e w54 ⟨rfl, hb⟩
      refine ⟨_, rfl, ?_⟩
      have n0_ := kb_ BK263 hb
      have n1_ := kb_ BK264 hb
      have n2_ := kb_ BK265 hb
      have n3_ := bs_ hb
      clear BK263
      clear BK264
      clear BK265
      clear HB
      have BK263 := n0_
      have BK264 := n1_
      have BK265 := n2_
      have HB := n3_
      clear n0_ n1_ n2_ n3_
      (try clear hb); (try clear hb2); (try clear hk); (try clear hi)
      refine hK.out _ _ ⟨(blk_cell BK263.out 0).trans rfl, (blk_cell BK263.out 1).trans rfl, (blk_cell BK264.out 0).trans rfl, (blk_cell BK264.out 1).trans rfl⟩ (fun hHeld => ?_)
      clear hK K
      refine norm_ (a' := ?_) ?_ ?_
      rotate_left
      ·show Act.put _ (some 60) _ = _
       simp only [Act.put, List.setIfInBounds_toArray, List.set_cons_zero, List.set_cons_succ, i64_w, i32_w]
       rfl
      refine one_ (i := 15) (N := some 65) #[true, true, true, true, true, true, true, true, true, true, true, true, true, true, true, true, false, false] rfl rfl (one_of HT_.out (by kernel_rfl)) (by decide) (fun K hK => ?_)
      refine goes_ Tryz.func88 (by kernel_rfl) rfl #[.string a0_1, .string a1_1] (by rfl) rfl rfl mp_ ?_
      with_reducible refine (whole_Mul.calls kj25 a0_1 a1_1 t278 _ ?side1 A49.out).mono ?_
      (case side1 => exact gw_ HG)
      rintro e w55 ⟨rfl, hb⟩
      refine ⟨_, rfl, ?_⟩
      have n0_ := kb_ BK263 hb
      have n1_ := kb_ BK264 hb
      have n2_ := kb_ BK265 hb
      have n3_ := bs_ hb
      clear BK263
      clear BK264
      clear BK265
      clear HB
      have BK263 := n0_
      have BK264 := n1_
      have BK265 := n2_
      have HB := n3_
      clear n0_ n1_ n2_ n3_
      (try clear hb); (try clear hb2); (try clear hk); (try clear hi)
      refine hK.out _ _ ⟨(blk_cell BK263.out 0).trans rfl, (blk_cell BK263.out 1).trans rfl, (blk_cell BK264.out 0).trans rfl, (blk_cell BK264.out 1).trans rfl⟩ (fun hHeld => ?_)
      clear hK K
      refine norm_ (a' := ?_) ?_ ?_
      rotate_left
      ·show Act.put _ (some 65) _ = _
       simp only [Act.put, List.setIfInBounds_toArray, List.set_cons_zero, List.set_cons_succ, i64_w, i32_w]
       rfl
      refine one_ (i := 16) (N := some 66) #[true, true, true, true, true, true, true, true, true, true, true, true, true, true, true, true, true, false] rfl rfl (one_of HT_.out (by kernel_rfl)) (by decide) (fun K hK => ?_)
      refine goes_ Tryz.func111 (by kernel_rfl) rfl #[.string t277, .string t278] (by rfl) rfl rfl mp_ ?_
      with_reducible refine (fraction_lowest.calls kj25 t277 t278 t279 t280 _ ?side1 A50.out).mono ?_
      (case side1 => exact gw_ HG)
      rintro e w56 ⟨rfl, hb⟩
      refine ⟨_, rfl, ?_⟩
      have n0_ := kb_ BK263 hb
      have n1_ := kb_ BK264 hb
      have n2_ := kb_ BK265 hb
      have n3_ := bs_ hb
      clear BK263
      clear BK264
      clear BK265
      clear HB
      have BK263 := n0_
      have BK264 := n1_
      have BK265 := n2_
      have HB := n3_
      clear n0_ n1_ n2_ n3_
      (try clear hb); (try clear hb2); (try clear hk); (try clear hi)
      refine hK.out _ _ ⟨(blk_cell BK263.out 0).trans rfl, (blk_cell BK263.out 1).trans rfl, (blk_cell BK264.out 0).trans rfl, (blk_cell BK264.out 1).trans rfl⟩ (fun hHeld => ?_)
      clear hK K
      refine norm_ (a' := ?_) ?_ ?_
      rotate_left
      ·show Act.put _ (some 66) _ = _
       simp only [Act.put, List.setIfInBounds_toArray, List.set_cons_zero, List.set_cons_succ, i64_w, i32_w]
       rfl
      refine one_ (i := 17) (N := none) #[true, true, true, true, true, true, true, true, true, true, true, true, true, true, true, true, true, true] rfl rfl (one_of HT_.out (by kernel_rfl)) (by decide) (fun K hK => ?_)
      have hs57 : w56.cell? ⟨gb265, 0, none⟩ = some (.string x266000_25) := (blk_cell BK265.out 0).trans rfl
      have hfs57 := blk_frozen BK265.out 0
      have hns57_0 := NB263_265.out
      have hns57_1 := NB264_265.out
      have hms57_0 := NB265_263.out
      have hms57_1 := NB265_264.out
      have hs58 : w56.cell? ⟨gb265, 1, none⟩ = some (.string x266001_25) := (blk_cell BK265.out 1).trans rfl
      have hfs58 := blk_frozen BK265.out 1
      have hns58_0 := NB263_265.out
      have hns58_1 := NB264_265.out
      have hms58_0 := NB265_263.out
      have hms58_1 := NB265_264.out
      refine skip_ (w1 := ?_) (by rfl) rfl ?_ ?_
      rotate_left
      ·go_simp
       rfl
      refine hK.out _ _ ⟨((cell_far (p := ⟨gb265, _, none⟩) NB263_265.out _).trans (((cell_far (p := ⟨gb265, _, none⟩) NB263_265.out _).trans (hHeld.1)))), ((cell_far (p := ⟨gb265, _, none⟩) NB263_265.out _).trans (((cell_far (p := ⟨gb265, _, none⟩) NB263_265.out _).trans (hHeld.2.1)))), ((cell_far (p := ⟨gb265, _, none⟩) NB264_265.out _).trans (((cell_far (p := ⟨gb265, _, none⟩) NB264_265.out _).trans (hHeld.2.2.1)))), ((cell_far (p := ⟨gb265, _, none⟩) NB264_265.out _).trans (((cell_far (p := ⟨gb265, _, none⟩) NB264_265.out _).trans (hHeld.2.2.2))))⟩ (fun hHeld => ?_)
      clear hK K
      refine done_ (done_of HT_.out (by kernel_rfl)) ?_
      try go_wp2
      refine bodyPost_ret (results_cell_row rfl _ _ gb265 24 #[.string t279, .string t280] (0, 0) _ rfl (by (with_reducible repeat (first | refine blk_drewN ?_ _ | refine blk_drew ?_ | refine blk_alloc ?_ _)); refine blk_put (cs := #[.string t279, .string x266001_25]) ?_ 1 _ rfl; (with_reducible repeat (first | refine blk_drewN ?_ _ | refine blk_drew ?_ | refine blk_alloc ?_ _)); refine blk_put (cs := #[.string x266000_25, .string x266001_25]) ?_ 0 _ rfl; (with_reducible repeat (first | refine blk_drewN ?_ _ | refine blk_drew ?_ | refine blk_alloc ?_ _)); exact BK265.out) Tryz.underlying24 rfl (by kernel_rfl)) rfl ?_
      exact ⟨er_, bl_⟩
def fraction_Sub.f (k : Nat) (a0_0 : ByteArray) (a0_1 : ByteArray) (a1_0 : ByteArray) (a1_1 : ByteArray) : Option (ByteArray × ByteArray) := (fraction_Neg.f a1_0 a1_1).bind fun bt284 => ((fraction_Add.f k a0_0 a0_1 bt284.1 bt284.2).bind fun bt286 => (some (bt286.1, bt286.2)))
set_option maxHeartbeats 8000000 in
set_option maxRecDepth 100000 in
theorem fraction_Sub.calls (k : Nat) (a0_0 : ByteArray) (a0_1 : ByteArray) (a1_0 : ByteArray) (a1_1 : ByteArray) (r1 : ByteArray) (r2 : ByteArray) (w : World) (hG_ : GWorld w) (h : fraction_Sub.f k a0_0 a0_1 a1_0 a1_1 = some (r1, r2)) :
  Calls Tryz.prog 90 #[.agg #[.string a0_0, .string a0_1], .agg #[.string a1_0, .string a1_1]] w fun e w' => e = .returned (.agg #[.string r1, .string r2]) ∧ Below w.heap.size w w' := by
 have hu24 := Tryz.underlying24
 have HB := Aside0.mk (Below.refl w.heap.size w)
 have HG := Aside0.mk hG_
 clear hG_
 have H : ((fraction_Neg.f a1_0 a1_1).bind fun bt284 => ((fraction_Add.f k a0_0 a0_1 bt284.1 bt284.2).bind fun bt286 => (some (bt286.1, bt286.2)))) = some (r1, r2) := h
 clear h
 replace H := Option.bind_eq_some_iff.mp H
 obtain ⟨⟨t284, t285⟩, A30, H⟩ := H
 replace H : ((fraction_Add.f k a0_0 a0_1 t284 t285).bind fun bt286 => (some (bt286.1, bt286.2))) = some (r1, r2) := H
 have A3 := Aside0.mk A30
 clear A30
 replace H := Option.bind_eq_some_iff.mp H
 obtain ⟨⟨t286, t287⟩, A40, H⟩ := H
 replace H : (some (t286, t287)) = some (r1, r2) := H
 have A4 := Aside0.mk A40
 clear A40
 simp only [Option.some.injEq, Prod.mk.injEq] at H
 obtain ⟨rfl, rfl⟩ := H
 go_enter Tryz.func90, Tryz.ntmps90
 try go_wp2_with (first | ((with_reducible refine gate_dst (N := 2) rfl ?_); refine bx_ 2 #[.string a0_0, .string a0_1] 24 ?_; clear HB; intro gb281 w5 BK281 GW281 HB; have GE281 := GW281) | ((with_reducible refine gate_dst (N := 3) rfl ?_); refine box_event ?hg (N := 3) ?hd (cs := #[.string a1_0, .string a1_1]) (t := 24) ?hr ?_; (case hd => rfl); (case hg => rfl); (case hr => first | (go_simp; done) | (go_simp; rfl)); intro gb282 hg w6 hbox hb; have BK282 := Aside0.mk (hbox); have GW282 := ge_ (w := w) hg; have GE282 := ge_ (w := w) hg; replace HB := bs_ hb; have NB281_282 := nl_ hg BK281; have NB282_281 := ng_ hg BK281; replace BK281 := kb_ BK281 hb; clear hb hbox hg) | ((with_reducible refine gate_dst (N := 4) rfl ?_); refine box_event ?hg (N := 4) ?hd (cs := #[.string (⟨#[]⟩ : ByteArray), .string (⟨#[]⟩ : ByteArray)]) (t := 24) ?hr ?_; (case hd => rfl); (case hg => rfl); (case hr => first | (go_simp; done) | (go_simp; rfl)); intro gb283 hg w7 hbox hb; have BK283 := Aside0.mk (hbox); have GW283 := ge_ (w := w) hg; have GE283 := ge_ (w := w) hg; replace HB := bs_ hb; have NB281_283 := nl_ hg BK281; have NB283_281 := ng_ hg BK281; replace BK281 := kb_ BK281 hb; have NB282_283 := nl_ hg BK282; have NB283_282 := ng_ hg BK282; replace BK282 := kb_ BK282 hb; clear hb hbox hg))
 have n0_ := Aside0.mk (blk_drew BK281.out)
 have n1_ := Aside0.mk (blk_drew BK282.out)
 have n2_ := Aside0.mk (blk_drew BK283.out)
 have n3_ := Aside0.mk (below_drew1 HB.out)
 clear BK281
 clear BK282
 clear BK283
 clear HB
 have BK281 := n0_
 have BK282 := n1_
 have BK283 := n2_
 have HB := n3_
 clear n0_ n1_ n2_ n3_
 refine start_ (n := 5) (S := fun w' => w'.cell? ⟨gb281, 0, none⟩ = some (.string a0_0) ∧ w'.cell? ⟨gb281, 1, none⟩ = some (.string a0_1) ∧ w'.cell? ⟨gb282, 0, none⟩ = some (.string a1_0) ∧ w'.cell? ⟨gb282, 1, none⟩ = some (.string a1_1)) (ds := []) #[false, false, false, false, false] (by kernel_rfl) rfl rfl ⟨(blk_cell BK281.out 0).trans rfl, (blk_cell BK281.out 1).trans rfl, (blk_cell BK282.out 0).trans rfl, (blk_cell BK282.out 1).trans rfl⟩ (fun hHeld => ?_)
 generalize w7.drew = w8 at BK281 BK282 BK283 HB hHeld ⊢
 refine take_ (i := 0) (N := some 5) (v := ?_) (a' := ?_) #[true, false, false, false, false] rfl rfl (by kernel_rfl) (fun _ _ _ h => h) (Or.inl ⟨by rfl, ?_⟩) hHeld ?_ ?_
 rotate_left
 ·rintro w' ⟨s0, s1, s2, s3⟩
  go_simp
  with_reducible rfl
 rotate_left
 ·simp only [Act.put, List.setIfInBounds_toArray, List.set_cons_zero, List.set_cons_succ, i64_w, i32_w]
  rfl
 refine take_ (i := 1) (N := some 6) (v := ?_) (a' := ?_) #[true, true, false, false, false] rfl rfl (by kernel_rfl) (fun _ _ _ h => h) (Or.inl ⟨by rfl, ?_⟩) hHeld ?_ ?_
 rotate_left
 ·rintro w' ⟨s0, s1, s2, s3⟩
  go_simp
  with_reducible rfl
 rotate_left
 ·simp only [Act.put, List.setIfInBounds_toArray, List.set_cons_zero, List.set_cons_succ, i64_w, i32_w]
  rfl
 refine one_ (i := 2) (N := some 7) #[true, true, true, false, false] rfl rfl (by kernel_rfl) (by decide) (fun K hK => ?_)
 refine goes_ Tryz.func73 (by kernel_rfl) rfl #[.agg #[.string a1_0, .string a1_1]] (by rfl) rfl rfl mp_ ?_
 with_reducible refine (fraction_Neg.calls a1_0 a1_1 t284 t285 _ A3.out).mono ?_
 rintro e w9 ⟨rfl, hb⟩
 refine ⟨_, rfl, ?_⟩
 have n0_ := kb_ BK281 hb
 have n1_ := kb_ BK282 hb
 have n2_ := kb_ BK283 hb
 have n3_ := bs_ hb
 clear BK281
 clear BK282
 clear BK283
 clear HB
 have BK281 := n0_
 have BK282 := n1_
 have BK283 := n2_
 have HB := n3_
 clear n0_ n1_ n2_ n3_
 (try clear hb); (try clear hb2); (try clear hk); (try clear hi)
 refine hK.out _ _ ⟨(blk_cell BK281.out 0).trans rfl, (blk_cell BK281.out 1).trans rfl, (blk_cell BK282.out 0).trans rfl, (blk_cell BK282.out 1).trans rfl⟩ (fun hHeld => ?_)
 clear hK K
 refine norm_ (a' := ?_) ?_ ?_
 rotate_left
 ·show Act.put _ (some 7) _ = _
  simp only [Act.put, List.setIfInBounds_toArray, List.set_cons_zero, List.set_cons_succ, i64_w, i32_w]
  rfl
 refine one_ (i := 3) (N := some 8) #[true, true, true, true, false] rfl rfl (by kernel_rfl) (by decide) (fun K hK => ?_)
 refine goes_ Tryz.func126 (by kernel_rfl) rfl #[.agg #[.string a0_0, .string a0_1], .agg #[.string t284, .string t285]] (by rfl) rfl rfl mp_ ?_
 with_reducible refine (fraction_Add.calls k a0_0 a0_1 t284 t285 t286 t287 _ ?side1 A4.out).mono ?_
 (case side1 => exact gw_ HG)
 rintro e w10 ⟨rfl, hb⟩
 refine ⟨_, rfl, ?_⟩
 have n0_ := kb_ BK281 hb
 have n1_ := kb_ BK282 hb
 have n2_ := kb_ BK283 hb
 have n3_ := bs_ hb
 clear BK281
 clear BK282
 clear BK283
 clear HB
 have BK281 := n0_
 have BK282 := n1_
 have BK283 := n2_
 have HB := n3_
 clear n0_ n1_ n2_ n3_
 (try clear hb); (try clear hb2); (try clear hk); (try clear hi)
 refine hK.out _ _ ⟨(blk_cell BK281.out 0).trans rfl, (blk_cell BK281.out 1).trans rfl, (blk_cell BK282.out 0).trans rfl, (blk_cell BK282.out 1).trans rfl⟩ (fun hHeld => ?_)
 clear hK K
 refine norm_ (a' := ?_) ?_ ?_
 rotate_left
 ·show Act.put _ (some 8) _ = _
  simp only [Act.put, List.setIfInBounds_toArray, List.set_cons_zero, List.set_cons_succ, i64_w, i32_w]
  rfl
 refine one_ (i := 4) (N := none) #[true, true, true, true, true] rfl rfl (by kernel_rfl) (by decide) (fun K hK => ?_)
 have hs11 : w10.cell? ⟨gb283, 0, none⟩ = some (.string (⟨#[]⟩ : ByteArray)) := (blk_cell BK283.out 0).trans rfl
 have hfs11 := blk_frozen BK283.out 0
 have hns11_0 := NB281_283.out
 have hns11_1 := NB282_283.out
 have hms11_0 := NB283_281.out
 have hms11_1 := NB283_282.out
 have hs12 : w10.cell? ⟨gb283, 1, none⟩ = some (.string (⟨#[]⟩ : ByteArray)) := (blk_cell BK283.out 1).trans rfl
 have hfs12 := blk_frozen BK283.out 1
 have hns12_0 := NB281_283.out
 have hns12_1 := NB282_283.out
 have hms12_0 := NB283_281.out
 have hms12_1 := NB283_282.out
 refine skip_ (w1 := ?_) (by rfl) rfl ?_ ?_
 rotate_left
 ·go_simp
  rfl
 refine hK.out _ _ ⟨((cell_far (p := ⟨gb283, _, none⟩) NB281_283.out _).trans (((cell_far (p := ⟨gb283, _, none⟩) NB281_283.out _).trans (hHeld.1)))), ((cell_far (p := ⟨gb283, _, none⟩) NB281_283.out _).trans (((cell_far (p := ⟨gb283, _, none⟩) NB281_283.out _).trans (hHeld.2.1)))), ((cell_far (p := ⟨gb283, _, none⟩) NB282_283.out _).trans (((cell_far (p := ⟨gb283, _, none⟩) NB282_283.out _).trans (hHeld.2.2.1)))), ((cell_far (p := ⟨gb283, _, none⟩) NB282_283.out _).trans (((cell_far (p := ⟨gb283, _, none⟩) NB282_283.out _).trans (hHeld.2.2.2))))⟩ (fun hHeld => ?_)
 clear hK K
 refine done_ (by kernel_rfl) ?_
 try go_wp2
 refine bodyPost_ret (results_cell_row rfl _ _ gb283 24 #[.string t286, .string t287] (0, 0) _ rfl (by (with_reducible repeat (first | refine blk_drewN ?_ _ | refine blk_drew ?_ | refine blk_alloc ?_ _)); refine blk_put (cs := #[.string t286, .string (⟨#[]⟩ : ByteArray)]) ?_ 1 _ rfl; (with_reducible repeat (first | refine blk_drewN ?_ _ | refine blk_drew ?_ | refine blk_alloc ?_ _)); refine blk_put (cs := #[.string (⟨#[]⟩ : ByteArray), .string (⟨#[]⟩ : ByteArray)]) ?_ 0 _ rfl; (with_reducible repeat (first | refine blk_drewN ?_ _ | refine blk_drew ?_ | refine blk_alloc ?_ _)); exact BK283.out) Tryz.underlying24 rfl (by kernel_rfl)) rfl ?_
 exact ⟨er_, bl_⟩
def convergent_distance.f (k : Nat) (a0_0 : ByteArray) (a0_1 : ByteArray) (a1_0 : ByteArray) (a1_1 : ByteArray) : Option (ByteArray × ByteArray) := (fraction_Sub.f k a0_0 a0_1 a1_0 a1_1).bind fun bt291 => ((fraction_Abs.f bt291.1 bt291.2).bind fun bt293 => (some (bt293.1, bt293.2)))
set_option maxHeartbeats 8000000 in
set_option maxRecDepth 100000 in
theorem convergent_distance.calls (k : Nat) (a0_0 : ByteArray) (a0_1 : ByteArray) (a1_0 : ByteArray) (a1_1 : ByteArray) (r1 : ByteArray) (r2 : ByteArray) (w : World) (hG_ : GWorld w) (h : convergent_distance.f k a0_0 a0_1 a1_0 a1_1 = some (r1, r2)) :
  Calls Tryz.prog 57 #[.agg #[.string a0_0, .string a0_1], .agg #[.string a1_0, .string a1_1]] w fun e w' => e = .returned (.agg #[.string r1, .string r2]) ∧ Below w.heap.size w w' := by
 have hu24 := Tryz.underlying24
 have HB := Aside0.mk (Below.refl w.heap.size w)
 have HG := Aside0.mk hG_
 clear hG_
 have H : ((fraction_Sub.f k a0_0 a0_1 a1_0 a1_1).bind fun bt291 => ((fraction_Abs.f bt291.1 bt291.2).bind fun bt293 => (some (bt293.1, bt293.2)))) = some (r1, r2) := h
 clear h
 replace H := Option.bind_eq_some_iff.mp H
 obtain ⟨⟨t291, t292⟩, A30, H⟩ := H
 replace H : ((fraction_Abs.f t291 t292).bind fun bt293 => (some (bt293.1, bt293.2))) = some (r1, r2) := H
 have A3 := Aside0.mk A30
 clear A30
 replace H := Option.bind_eq_some_iff.mp H
 obtain ⟨⟨t293, t294⟩, A40, H⟩ := H
 replace H : (some (t293, t294)) = some (r1, r2) := H
 have A4 := Aside0.mk A40
 clear A40
 simp only [Option.some.injEq, Prod.mk.injEq] at H
 obtain ⟨rfl, rfl⟩ := H
 go_enter Tryz.func57, Tryz.ntmps57
 go_wp2_with (first | ((with_reducible refine gate_dst (N := 2) rfl ?_); refine bx_ 2 #[.string a0_0, .string a0_1] 24 ?_; clear HB; intro gb288 w5 BK288 GW288 HB; have GE288 := GW288) | ((with_reducible refine gate_dst (N := 3) rfl ?_); refine box_event ?hg (N := 3) ?hd (cs := #[.string a1_0, .string a1_1]) (t := 24) ?hr ?_; (case hd => rfl); (case hg => rfl); (case hr => first | (go_simp; done) | (go_simp; rfl)); intro gb289 hg w6 hbox hb; have BK289 := Aside0.mk (hbox); have GW289 := ge_ (w := w) hg; have GE289 := ge_ (w := w) hg; replace HB := bs_ hb; have NB288_289 := nl_ hg BK288; have NB289_288 := ng_ hg BK288; replace BK288 := kb_ BK288 hb; clear hb hbox hg) | ((with_reducible refine gate_dst (N := 4) rfl ?_); refine box_event ?hg (N := 4) ?hd (cs := #[.string (⟨#[]⟩ : ByteArray), .string (⟨#[]⟩ : ByteArray)]) (t := 24) ?hr ?_; (case hd => rfl); (case hg => rfl); (case hr => first | (go_simp; done) | (go_simp; rfl)); intro gb290 hg w7 hbox hb; have BK290 := Aside0.mk (hbox); have GW290 := ge_ (w := w) hg; have GE290 := ge_ (w := w) hg; replace HB := bs_ hb; have NB288_290 := nl_ hg BK288; have NB290_288 := ng_ hg BK288; replace BK288 := kb_ BK288 hb; have NB289_290 := nl_ hg BK289; have NB290_289 := ng_ hg BK289; replace BK289 := kb_ BK289 hb; clear hb hbox hg; have hnb8 := NB288_289.out; have hnc8 := NB289_288.out; have hnb9 := NB288_290.out; have hnc9 := NB290_288.out; obtain ⟨hcz10_0, hcz10_1, hfz10_0, hfz10_1⟩ := c2_ BK288; have hnb11 := NB289_290.out; have hnc11 := NB290_289.out; obtain ⟨hcz12_0, hcz12_1, hfz12_0, hfz12_1⟩ := c2_ BK289) | ((with_reducible refine gate_callee (f := 90) rfl ?_); refine goesL_ (some 7) rfl rfl Tryz.func90 (by kernel_rfl) rfl #[.agg #[.string a0_0, .string a0_1], .agg #[.string a1_0, .string a1_1]] rfl mp_ ?_; (with_reducible refine (fraction_Sub.calls k a0_0 a0_1 a1_0 a1_1 t291 t292 _ ?side1 A3.out).mono ?_); (case side1 => exact gw_ HG); rintro e w13 ⟨rfl, hb⟩; refine ⟨_, rfl, ?_⟩; replace BK288 := kb_ BK288 hb; replace BK289 := kb_ BK289 hb; replace BK290 := kb_ BK290 hb; replace HB := bs_ hb; (try clear hb); (try clear hb2); (try clear hk); (try clear hi)) | ((with_reducible refine gate_callee (f := 89) rfl ?_); refine goesL_ (some 8) rfl rfl Tryz.func89 (by kernel_rfl) rfl #[.agg #[.string t291, .string t292]] rfl mp_ ?_; (with_reducible refine (fraction_Abs.calls t291 t292 t293 t294 _ A4.out).mono ?_); rintro e w14 ⟨rfl, hb⟩; refine ⟨_, rfl, ?_⟩; replace BK288 := kb_ BK288 hb; replace BK289 := kb_ BK289 hb; replace BK290 := kb_ BK290 hb; replace HB := bs_ hb; (try clear hb); (try clear hb2); (try clear hk); (try clear hi); obtain ⟨hcz15_0, hcz15_1, hfz15_0, hfz15_1⟩ := c2_ BK290))
 refine bodyPost_ret (results_cell_row rfl _ _ gb290 24 #[.string t293, .string t294] (0, 0) _ rfl (by (with_reducible repeat (first | refine blk_drewN ?_ _ | refine blk_drew ?_ | refine blk_alloc ?_ _)); refine blk_put (cs := #[.string t293, .string (⟨#[]⟩ : ByteArray)]) ?_ 1 _ rfl; (with_reducible repeat (first | refine blk_drewN ?_ _ | refine blk_drew ?_ | refine blk_alloc ?_ _)); refine blk_put (cs := #[.string (⟨#[]⟩ : ByteArray), .string (⟨#[]⟩ : ByteArray)]) ?_ 0 _ rfl; (with_reducible repeat (first | refine blk_drewN ?_ _ | refine blk_drew ?_ | refine blk_alloc ?_ _)); exact BK290.out) Tryz.underlying24 rfl (by kernel_rfl)) rfl ?_
 exact ⟨er_, bl_⟩
end Go.Proofs.YtidajgkepdkcbaaGreatDoor.PF
end
section
namespace Go.Proofs.YtidajgkepdkcbaaGreatDoor.PF
open Go.RowKit Go.Proofs.YtidajgkepdkcbaaGreatDoorW.PrintWords Go.Proofs.YtidajgkepdkcbaaGreatDoorW.PrintLast Go.Proofs.YtidajgkepdkcbaaGreatDoorW.PrintMore
attribute [local go_sem] max2_int min2_int max_two min_two max_three min_three max_four min_four
def fraction_Sign.f (a0_0 : ByteArray) (a0_1 : ByteArray) : Option (Int) := (whole_Sign.f a0_0).bind fun t297 => (some t297)
set_option maxHeartbeats 8000000 in
set_option maxRecDepth 100000 in
theorem fraction_Sign.calls (a0_0 : ByteArray) (a0_1 : ByteArray) (r : Int) (w : World) (h : fraction_Sign.f a0_0 a0_1 = some r) :
  Calls Tryz.prog 64 #[.agg #[.string a0_0, .string a0_1]] w fun e w' => e = .returned (.int .i64 r) ∧ Below w.heap.size w w' := by
 have hu24 := Tryz.underlying24
 have HB := Aside0.mk (Below.refl w.heap.size w)
 have H : ((whole_Sign.f a0_0).bind fun t297 => (some t297)) = some r := h
 clear h
 replace H := Option.bind_eq_some_iff.mp H
 obtain ⟨t297, A20, H⟩ := H
 replace H : (some t297) = some r := H
 have A2 := Aside0.mk A20
 clear A20
 obtain rfl := Option.some.inj H
 go_enter Tryz.func64, Tryz.ntmps64
 go_wp2_with (first | ((with_reducible refine gate_dst (N := 1) rfl ?_); refine bx_ 1 #[.string a0_0, .string a0_1] 24 ?_; clear HB; intro gb296 w3 BK296 GW296 HB; have GE296 := GW296; obtain ⟨hcz4_0, hcz4_1, hfz4_0, hfz4_1⟩ := c2_ BK296) | ((with_reducible refine gate_callee (f := 63) rfl ?_); refine goesL_ (some 5) rfl rfl Tryz.func63 (by kernel_rfl) rfl #[.string a0_0] rfl mp_ ?_; (with_reducible refine (whole_Sign.calls a0_0 t297 _ A2.out).mono ?_); rintro e w' ⟨rfl, ⟨nd, rfl⟩⟩; refine ⟨_, rfl, ?_⟩))
 go_ret
 exact ⟨er_, bl_⟩
def whole_Sub.f (k : Nat) (a0 : ByteArray) (a1 : ByteArray) : Option (ByteArray) := (whole_Neg.f a1).bind fun t298 => ((whole_Add.f k a0 t298).bind fun t299 => (some t299))
set_option maxHeartbeats 8000000 in
set_option maxRecDepth 100000 in
theorem whole_Sub.calls (k : Nat) (a0 : ByteArray) (a1 : ByteArray) (r : ByteArray) (w : World) (hG_ : GWorld w) (h : whole_Sub.f k a0 a1 = some r) :
  Calls Tryz.prog 65 #[.string a0, .string a1] w fun e w' => e = .returned (.string r) ∧ Below w.heap.size w w' := by
 have HB := Aside0.mk (Below.refl w.heap.size w)
 have HG := Aside0.mk hG_
 clear hG_
 have H : ((whole_Neg.f a1).bind fun t298 => ((whole_Add.f k a0 t298).bind fun t299 => (some t299))) = some r := h
 clear h
 replace H := Option.bind_eq_some_iff.mp H
 obtain ⟨t298, A30, H⟩ := H
 replace H : ((whole_Add.f k a0 t298).bind fun t299 => (some t299)) = some r := H
 have A3 := Aside0.mk A30
 clear A30
 replace H := Option.bind_eq_some_iff.mp H
 obtain ⟨t299, A40, H⟩ := H
 replace H : (some t299) = some r := H
 have A4 := Aside0.mk A40
 clear A40
 obtain rfl := Option.some.inj H
 go_enter Tryz.func65, Tryz.ntmps65
 go_wp2_with (first | ((with_reducible refine gate_callee (f := 95) rfl ?_); refine goesL_ (some 7) rfl rfl Tryz.func95 (by kernel_rfl) rfl #[.string a1] rfl mp_ ?_; (with_reducible refine (whole_Neg.calls a1 t298 _ A3.out).mono ?_); rintro e w' ⟨rfl, ⟨nd, rfl⟩⟩; refine ⟨_, rfl, ?_⟩) | ((with_reducible refine gate_callee (f := 42) rfl ?_); refine goesL_ (some 8) rfl rfl Tryz.func42 (by kernel_rfl) rfl #[.string a0, .string t298] rfl mp_ ?_; (with_reducible refine (whole_Add.calls k a0 t298 t299 _ ?side1 A4.out).mono ?_); (case side1 => exact gw_ HG); rintro e w5 ⟨rfl, hb⟩; refine ⟨_, rfl, ?_⟩; replace HB := bs_ hb; (try clear hb); (try clear hb2); (try clear hk); (try clear hi)))
 go_ret
 exact ⟨er_, bl_⟩
def whole_Small.f (a0 : ByteArray) : Option (Int × Bool) := (strconv_ParseInt.f a0 10 64).bind fun bt300 => (if bt300.2.isNone = true then (some (bt300.1, true)) else (some (0, false)))
set_option maxHeartbeats 8000000 in
set_option maxRecDepth 100000 in
theorem whole_Small.calls (a0 : ByteArray) (r1 : Int) (r2 : Bool) (w : World) (h : whole_Small.f a0 = some (r1, r2)) :
  Calls Tryz.prog 66 #[.string a0] w fun e w' => e = .returned (.tuple #[.int .i64 r1, .bool r2]) ∧ Below w.heap.size w w' := by
 have hu96 := Tryz.underlying96
 have HB := Aside0.mk (Below.refl w.heap.size w)
 have H : ((strconv_ParseInt.f a0 10 64).bind fun bt300 => (if bt300.2.isNone = true then (some (bt300.1, true)) else (some (0, false)))) = some (r1, r2) := h
 clear h
 replace H := Option.bind_eq_some_iff.mp H
 obtain ⟨⟨t300, t301⟩, A20, H⟩ := H
 replace H : (if t301.isNone = true then (some (t300, true)) else (some (0, false))) = some (r1, r2) := H
 have A2 := Aside0.mk A20
 clear A20
 rcases t301 with _ | q302
 ·have H1 : (some (t300, true)) = some (r1, r2) := by rw [if_pos (show (none : Option Int).isNone = true by rfl)] at H; exact H
  clear H
  have H := H1
  clear H1
  try simp only [errW_none, errW_some]
  simp only [Option.some.injEq, Prod.mk.injEq] at H
  obtain ⟨rfl, rfl⟩ := H
  go_enter Tryz.func66, Tryz.ntmps66
  go_wp2_with (first | ((with_reducible refine gate_callee (f := 96) rfl ?_); refine goesL_ (some 8) rfl rfl Tryz.func96 (by kernel_rfl) rfl #[.string a0, .int .i64 10, .int .i64 64] rfl mp_ ?_; (with_reducible refine (strconv_ParseInt.calls a0 10 64 t300 none _ A2.out).mono ?_); rintro e w3 ⟨rfl, hb⟩; refine ⟨_, rfl, ?_⟩; replace HB := bs_ hb; (try clear hb); (try clear hb2); (try clear hk); (try clear hi); (try simp only [errW_none, errW_some])))
  go_ret2
  exact ⟨er_, bl_⟩
 ·have H1 : (some (0, false)) = some (r1, r2) := by rw [if_neg (show ¬ (some q302).isNone = true by simp)] at H; exact H
  clear H
  have H := H1
  clear H1
  try simp only [errW_none, errW_some]
  simp only [Option.some.injEq, Prod.mk.injEq] at H
  obtain ⟨rfl, rfl⟩ := H
  go_enter Tryz.func66, Tryz.ntmps66
  go_wp2_with (first | ((with_reducible refine gate_callee (f := 96) rfl ?_); refine goesL_ (some 8) rfl rfl Tryz.func96 (by kernel_rfl) rfl #[.string a0, .int .i64 10, .int .i64 64] rfl mp_ ?_; (with_reducible refine (strconv_ParseInt.calls a0 10 64 t300 (some q302) _ A2.out).mono ?_); rintro e w4 ⟨rfl, hb⟩; refine ⟨_, rfl, ?_⟩; replace HB := bs_ hb; (try clear hb); (try clear hb2); (try clear hk); (try clear hi); (try simp only [errW_none, errW_some])))
  go_ret2
  exact ⟨er_, bl_⟩
def fraction_New.f (k : Nat) (a0 : ByteArray) (a1 : ByteArray) : Option (ByteArray × ByteArray × Int) := (whole_Sign.f a1).bind fun t316 => (if t316 = 0 then (some ((⟨#[]⟩ : ByteArray), (⟨#[]⟩ : ByteArray), 17)) else ((fraction_lowest.f k a0 a1).bind fun bt317 => (some (bt317.1, bt317.2, 0))))
set_option maxHeartbeats 8000000 in
set_option maxRecDepth 100000 in
theorem fraction_New.calls (k : Nat) (a0 : ByteArray) (a1 : ByteArray) (r1 : ByteArray) (r2 : ByteArray) (r3 : Int) (w : World) (hG_ : GWorld w) (h : fraction_New.f k a0 a1 = some (r1, r2, r3)) :
  Calls Tryz.prog 76 #[.string a0, .string a1] w fun e w' => e = .returned (.tuple #[.agg #[.string r1, .string r2], .int .i64 r3]) ∧ Below w.heap.size w w' := by
 have hu24 := Tryz.underlying24
 have HB := Aside0.mk (Below.refl w.heap.size w)
 have HG := Aside0.mk hG_
 clear hG_
 have H : ((whole_Sign.f a1).bind fun t316 => (if t316 = 0 then (some ((⟨#[]⟩ : ByteArray), (⟨#[]⟩ : ByteArray), 17)) else ((fraction_lowest.f k a0 a1).bind fun bt317 => (some (bt317.1, bt317.2, 0))))) = some (r1, r2, r3) := h
 clear h
 replace H := Option.bind_eq_some_iff.mp H
 obtain ⟨t316, A30, H⟩ := H
 replace H : (if t316 = 0 then (some ((⟨#[]⟩ : ByteArray), (⟨#[]⟩ : ByteArray), 17)) else ((fraction_lowest.f k a0 a1).bind fun bt317 => (some (bt317.1, bt317.2, 0)))) = some (r1, r2, r3) := H
 have A3 := Aside0.mk A30
 clear A30
 by_cases c4 : t316 = 0
 ·rw [if_pos c4] at H
  have c4b0 : (t316 == 0) = true := beq_iff_eq.mpr c4
  have c4b1 : (t316 != 0) = false := bne_eq_false_iff_eq.mpr c4
  clear c4
  simp only [Option.some.injEq, Prod.mk.injEq] at H
  obtain ⟨rfl, rfl, rfl⟩ := H
  go_enter Tryz.func76, Tryz.ntmps76
  go_wp2_with (first | ((with_reducible refine gate_dst (N := 4) rfl ?_); refine bx_ 4 #[.string (⟨#[]⟩ : ByteArray), .string (⟨#[]⟩ : ByteArray)] 24 ?_; clear HB; intro gb315 w5 BK315 GW315 HB; have GE315 := GW315) | ((with_reducible refine gate_callee (f := 63) rfl ?_); refine goesL_ (some 7) rfl rfl Tryz.func63 (by kernel_rfl) rfl #[.string a1] rfl mp_ ?_; (with_reducible refine (whole_Sign.calls a1 t316 _ A3.out).mono ?_); rintro e w' ⟨rfl, ⟨nd, rfl⟩⟩; refine ⟨_, rfl, ?_⟩; (try (rw [drewN_self w5]; generalize hq_ : World.drewN w5 _ = w5; replace BK315 := dk_ hq_ BK315; replace HB := db_ hq_ HB; clear hq_)); obtain ⟨hcz6_0, hcz6_1, hfz6_0, hfz6_1⟩ := c2_ BK315))
  refine bodyPost_ret (results_ct rfl _ _ gb315 24 #[.string (⟨#[]⟩ : ByteArray), .string (⟨#[]⟩ : ByteArray)] (0, 0) _ rfl (by (with_reducible repeat (first | refine blk_drewN ?_ _ | refine blk_drew ?_ | refine blk_alloc ?_ _)); refine blk_put (cs := #[.string (⟨#[]⟩ : ByteArray), .string (⟨#[]⟩ : ByteArray)]) ?_ 1 _ rfl; (with_reducible repeat (first | refine blk_drewN ?_ _ | refine blk_drew ?_ | refine blk_alloc ?_ _)); refine blk_put (cs := #[.string (⟨#[]⟩ : ByteArray), .string (⟨#[]⟩ : ByteArray)]) ?_ 0 _ rfl; (with_reducible repeat (first | refine blk_drewN ?_ _ | refine blk_drew ?_ | refine blk_alloc ?_ _)); exact BK315.out) Tryz.underlying24 rfl (by kernel_rfl)) rfl ?_
  exact ⟨er_, bl_⟩
 ·rw [if_neg c4] at H
  have c4b0 : (t316 == 0) = false := beq_eq_false_iff_ne.mpr c4
  have c4b1 : (t316 != 0) = true := bne_iff_ne.mpr c4
  replace H := Option.bind_eq_some_iff.mp H
  obtain ⟨⟨t317, t318⟩, A70, H⟩ := H
  replace H : (some (t317, t318, 0)) = some (r1, r2, r3) := H
  have A7 := Aside0.mk A70
  clear A70
  simp only [Option.some.injEq, Prod.mk.injEq] at H
  obtain ⟨rfl, rfl, rfl⟩ := H
  go_enter Tryz.func76, Tryz.ntmps76
  go_wp2_with (first | ((with_reducible refine gate_dst (N := 4) rfl ?_); refine bx_ 4 #[.string (⟨#[]⟩ : ByteArray), .string (⟨#[]⟩ : ByteArray)] 24 ?_; clear HB; intro gb315 w8 BK315 GW315 HB; have GE315 := GW315) | ((with_reducible refine gate_callee (f := 63) rfl ?_); refine goesL_ (some 7) rfl rfl Tryz.func63 (by kernel_rfl) rfl #[.string a1] rfl mp_ ?_; (with_reducible refine (whole_Sign.calls a1 t316 _ A3.out).mono ?_); rintro e w' ⟨rfl, ⟨nd, rfl⟩⟩; refine ⟨_, rfl, ?_⟩; (try (rw [drewN_self w8]; generalize hq_ : World.drewN w8 _ = w8; replace BK315 := dk_ hq_ BK315; replace HB := db_ hq_ HB; clear hq_))) | ((with_reducible refine gate_callee (f := 111) rfl ?_); refine goesL_ (some 12) rfl rfl Tryz.func111 (by kernel_rfl) rfl #[.string a0, .string a1] rfl mp_ ?_; (with_reducible refine (fraction_lowest.calls k a0 a1 t317 t318 _ ?side1 A7.out).mono ?_); (case side1 => exact gw_ HG); rintro e w9 ⟨rfl, hb⟩; refine ⟨_, rfl, ?_⟩; replace BK315 := kb_ BK315 hb; replace HB := bs_ hb; (try clear hb); (try clear hb2); (try clear hk); (try clear hi); obtain ⟨hcz10_0, hcz10_1, hfz10_0, hfz10_1⟩ := c2_ BK315))
  refine bodyPost_ret (results_ct rfl _ _ gb315 24 #[.string t317, .string t318] (0, 0) _ rfl (by (with_reducible repeat (first | refine blk_drewN ?_ _ | refine blk_drew ?_ | refine blk_alloc ?_ _)); refine blk_put (cs := #[.string t317, .string (⟨#[]⟩ : ByteArray)]) ?_ 1 _ rfl; (with_reducible repeat (first | refine blk_drewN ?_ _ | refine blk_drew ?_ | refine blk_alloc ?_ _)); refine blk_put (cs := #[.string (⟨#[]⟩ : ByteArray), .string (⟨#[]⟩ : ByteArray)]) ?_ 0 _ rfl; (with_reducible repeat (first | refine blk_drewN ?_ _ | refine blk_drew ?_ | refine blk_alloc ?_ _)); exact BK315.out) Tryz.underlying24 rfl (by kernel_rfl)) rfl ?_
  exact ⟨er_, bl_⟩
def convergent_over.f (k : Nat) (a0 : ByteArray) (a1 : ByteArray) : Option (ByteArray × ByteArray) := (fraction_New.f k a0 a1).bind fun bt320 => (some (bt320.1, bt320.2.1))
set_option maxHeartbeats 8000000 in
set_option maxRecDepth 100000 in
theorem convergent_over.calls (k : Nat) (a0 : ByteArray) (a1 : ByteArray) (r1 : ByteArray) (r2 : ByteArray) (w : World) (hG_ : GWorld w) (h : convergent_over.f k a0 a1 = some (r1, r2)) :
  Calls Tryz.prog 41 #[.string a0, .string a1] w fun e w' => e = .returned (.agg #[.string r1, .string r2]) ∧ Below w.heap.size w w' := by
 have hu24 := Tryz.underlying24
 have HB := Aside0.mk (Below.refl w.heap.size w)
 have HG := Aside0.mk hG_
 clear hG_
 have H : ((fraction_New.f k a0 a1).bind fun bt320 => (some (bt320.1, bt320.2.1))) = some (r1, r2) := h
 clear h
 replace H := Option.bind_eq_some_iff.mp H
 obtain ⟨⟨t320, t321, t322⟩, A30, H⟩ := H
 replace H : (some (t320, t321)) = some (r1, r2) := H
 have A3 := Aside0.mk A30
 clear A30
 simp only [Option.some.injEq, Prod.mk.injEq] at H
 obtain ⟨rfl, rfl⟩ := H
 go_enter Tryz.func41, Tryz.ntmps41
 go_wp2_with (first | ((with_reducible refine gate_dst (N := 4) rfl ?_); refine bx_ 4 #[.string (⟨#[]⟩ : ByteArray), .string (⟨#[]⟩ : ByteArray)] 24 ?_; clear HB; intro gb319 w4 BK319 GW319 HB; have GE319 := GW319) | ((with_reducible refine gate_callee (f := 76) rfl ?_); refine goesL_ (some 10) rfl rfl Tryz.func76 (by kernel_rfl) rfl #[.string a0, .string a1] rfl mp_ ?_; (with_reducible refine (fraction_New.calls k a0 a1 t320 t321 t322 _ ?side1 A3.out).mono ?_); (case side1 => exact gw_ HG); rintro e w5 ⟨rfl, hb⟩; refine ⟨_, rfl, ?_⟩; replace BK319 := kb_ BK319 hb; replace HB := bs_ hb; (try clear hb); (try clear hb2); (try clear hk); (try clear hi)) | ((with_reducible refine gate_dst (N := 5) rfl ?_); refine box_event ?hg (N := 5) ?hd (cs := #[.string (⟨#[]⟩ : ByteArray), .string (⟨#[]⟩ : ByteArray)]) (t := 24) ?hr ?_; (case hd => rfl); (case hg => rfl); (case hr => first | (go_simp; done) | (go_simp; rfl)); intro gb323 hg w6 hbox hb; have BK323 := Aside0.mk (hbox); have GW323 := ge_ (w := w) hg; have GE323 := ge_ (w := w) hg; replace HB := bs_ hb; have NB319_323 := nl_ hg BK319; have NB323_319 := ng_ hg BK319; replace BK319 := kb_ BK319 hb; clear hb hbox hg; have hnb7 := NB323_319.out; have hnc7 := NB319_323.out; obtain ⟨hcz8_0, hcz8_1, hfz8_0, hfz8_1⟩ := c2_ BK323; obtain ⟨hcz9_0, hcz9_1, hfz9_0, hfz9_1⟩ := c2_ BK319))
 refine bodyPost_ret (results_cell_row rfl _ _ gb319 24 #[.string t320, .string t321] (0, 0) _ rfl (by (with_reducible repeat (first | refine blk_drewN ?_ _ | refine blk_drew ?_ | refine blk_alloc ?_ _)); refine blk_put (cs := #[.string t320, .string (⟨#[]⟩ : ByteArray)]) ?_ 1 _ rfl; (with_reducible repeat (first | refine blk_drewN ?_ _ | refine blk_drew ?_ | refine blk_alloc ?_ _)); refine blk_put (cs := #[.string (⟨#[]⟩ : ByteArray), .string (⟨#[]⟩ : ByteArray)]) ?_ 0 _ rfl; (with_reducible repeat (first | refine blk_drewN ?_ _ | refine blk_drew ?_ | refine blk_alloc ?_ _)); refine blk_far ?_ NB319_323.out _; (with_reducible repeat (first | refine blk_drewN ?_ _ | refine blk_drew ?_ | refine blk_alloc ?_ _)); refine blk_far ?_ NB319_323.out _; (with_reducible repeat (first | refine blk_drewN ?_ _ | refine blk_drew ?_ | refine blk_alloc ?_ _)); exact BK319.out) Tryz.underlying24 rfl (by kernel_rfl)) rfl ?_
 exact ⟨er_, bl_⟩
end Go.Proofs.YtidajgkepdkcbaaGreatDoor.PF
end
section
namespace Go.Proofs.YtidajgkepdkcbaaGreatDoor.PF
open Go.RowKit Go.Proofs.YtidajgkepdkcbaaGreatDoorW.PrintWords Go.Proofs.YtidajgkepdkcbaaGreatDoorW.PrintLast Go.Proofs.YtidajgkepdkcbaaGreatDoorW.PrintMore
attribute [local go_sem] max2_int min2_int max_two min_two max_three min_three max_four min_four
def convergent_Mediant.T3 : Bool × List (List Nat × List Nat) := (true, [([], []), ([0], [0]), ([], []), ([2], [2]), ([1, 3], [1, 3]), ([], []), ([5], [5]), ([], []), ([7], [7]), ([6, 8, 4], [6, 8]), ([4, 9, 9], [4, 9]), ([], []), ([11, 10, 10, 0, 1, 2, 3, 4, 5, 6, 7, 8, 9, 10, 11], [10, 11])])
def convergent_Mediant.B3 : List Nat := [0, 1, 0, 4, 15, 0, 32, 0, 128, 511, 1023, 0, 4095]
theorem convergent_Mediant.tab3 : rtab .any (opsOf Tryz.f14 3) = convergent_Mediant.T3 := by kernel_rfl
theorem convergent_Mediant.bits3 : waitsOk convergent_Mediant.T3.2 convergent_Mediant.B3 = true := by kernel_rfl
end Go.Proofs.YtidajgkepdkcbaaGreatDoor.PF
end
