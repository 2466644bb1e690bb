/- A part of the proof in QBw5. -/
import Derived.Test.YtidajgkepdkcbaaGreatDoorQBw1
import Derived.Lib.IndexBytes
import Derived.RangeFuncFrom
import Derived.RangeFuncIn
import Derived.TacticsIn
import Derived.RegionIn
import Derived.LoopIn
import Derived.BigFrameIn
import Derived.BigGuardIn
import Derived.OrdersIn
set_option linter.unusedVariables false
set_option linter.unusedSimpArgs false
section
namespace Go.Proofs.YtidajgkepdkcbaaGreatDoor.PF
open Go.RowKit Go.Proofs.YtidajgkepdkcbaaGreatDoorW.PrintWords Go.Proofs.YtidajgkepdkcbaaGreatDoorW.PrintLast Go.Proofs.YtidajgkepdkcbaaGreatDoorW.PrintMore
attribute [local go_sem] max2_int min2_int max_two min_two max_three min_three max_four min_four
attribute [local go_sem high] eqA24
mutual
def schismaref04_Int.j0 : Nat → ByteArray → Int → Bool → Option (Int × Bool)
 | 0, _, _, _ => none
 | k + 1, x4, x5, x16 => if x16 = true then (if 1 ≤ (x4.size : Int) then (schismaref04_Int.j1 k (x4.extract 1 x4.size) (-1)) else (none)) else (schismaref04_Int.j1 k x4 x5)
def schismaref04_Int.j1 : Nat → ByteArray → Int → Option (Int × Bool)
 | 0, _, _ => none
 | k + 1, x4, x5 => if (x4.size : Int) = 0 then (schismaref04_Int.j2 k x4 x5 true) else (if (x4.size : Int) > 17 then (schismaref04_Int.j2 k x4 x5 true) else (if 0 < (x4.size : Int) then (if (bt x4 0) = 48 then (if (x4.size : Int) > 1 then (schismaref04_Int.j2 k x4 x5 true) else (schismaref04_Int.j2 k x4 x5 (decide (x5 < 0)))) else (schismaref04_Int.j2 k x4 x5 false)) else (none)))
def schismaref04_Int.j2 : Nat → ByteArray → Int → Bool → Option (Int × Bool)
 | 0, _, _, _ => none
 | k + 1, x4, x5, x40 => if x40 = true then (some (0, false)) else (schismaref04_Int.l0 k x4 x5 0 0)
def schismaref04_Int.l0 : Nat → ByteArray → Int → Int → Int → Option (Int × Bool)
 | 0, _, _, _, _ => none
 | k + 1, x4, x5, x6, x7 => if x7 < (x4.size : Int) then (if 0 ≤ x7 then (if (bt x4 x7) < 48 then (some (0, false)) else (if (bt x4 x7) > 57 then (some (0, false)) else (schismaref04_Int.l0 k x4 x5 (wrap64 ((wrap64 (10 * x6)) + (((bt x4 x7) - 48) % 256))) (wrap64 (x7 + 1))))) else (none)) else (some (wrap64 (x5 * x6), true))
end
def schismaref04_Int.f (k : Nat) (a0 : ByteArray) : Option (Int × Bool) := if (a0.size : Int) > 0 then (if 0 < (a0.size : Int) then (schismaref04_Int.j0 k a0 1 ((bt a0 0) == 45)) else (none)) else (schismaref04_Int.j0 k a0 1 false)
set_option maxHeartbeats 8000000 in
set_option maxRecDepth 100000 in
theorem schismaref04_Int.calls (k : Nat) (a0 : ByteArray) (r1 : Int) (r2 : Bool) (w : World) (h : schismaref04_Int.f k a0 = some (r1, r2)) :
  Calls Tryz.prog 43 #[.string a0] w fun e w' => e = .returned (.tuple #[.int .i64 r1, .bool r2]) ∧ Drawn0 w w' := by
 have H : (if (a0.size : Int) > 0 then (if 0 < (a0.size : Int) then (schismaref04_Int.j0 k a0 1 ((bt a0 0) == 45)) else (none)) else (schismaref04_Int.j0 k a0 1 false)) = some (r1, r2) := h
 clear h
 have HC2 := Aside0.mk H
 clear H
 go_enter Tryz.func43, Tryz.ntmps43
 go_upto_region 3 with (fail)
 repeat (go_quiet (fail); go_upto_region 3 with (fail))
 go_cut [16] (fun v16 wc => ∃ (kq : Nat) (x16_1 : Bool), v16 = .bool x16_1 ∧ Aside0 (schismaref04_Int.j0 kq a0 1 x16_1 = some (r1, r2)) ∧ Aside0 (kq ≤ k) ∧ Drawn0 w wc)
 case first =>
  have H := HC2.out
  clear HC2
  by_cases c3 : (a0.size : Int) > 0
  ·rw [if_pos c3] at H
   have c3b0 : decide (0 < (a0.size : Int)) = true := decide_eq_true c3
   have c3b1 : decide (0 < a0.size) = true := decide_eq_true (by omega)
   clear c3
   (first | rw [c3b0] | (simp only [i64_w, i32_w]; rw [c3b0]) | skip)
   by_cases c4 : 0 < (a0.size : Int)
   ·rw [if_pos c4] at H
    have c4b0 : decide (0 < (a0.size : Int)) = true := decide_eq_true c4
    have c4b1 : decide (0 < a0.size) = true := decide_eq_true (by omega)
    clear c4
    have H' := Aside0.mk H
    clear H
    have p5 : 0 ≤ (0 : Int) := (by omega)
    have q5 : 0 < a0.size := (by have : (0 : Int) < (a0.size : Int) := of_decide_eq_true (by first | (with_reducible assumption) | assumption); omega)
    have hx5 : ∀ h : 0 < a0.size, ((a0[0]'h).toNat : Int) = bt a0 0 := bt_at a0 0
    clear p5
    have qi5 : (0 < (a0.size : Int)) = True := eq_true (of_decide_eq_true (by first | (with_reducible assumption) | assumption))
    replace q5 := eq_true q5
    go_wp2
    repeat (go_quiet (fail); try go_wp2)
    go_meet
    case rel => exact ⟨_, (((bt a0 0) == 45)), (by first | rfl | (simp; done) | (simp [*]; done)), H', ⟨by first | omega | exact Nat.le_refl _⟩, by repeat (first | exact Drawn0.refl _ | apply Drawn0.step)⟩
   ·rw [if_neg c4] at H
    exact absurd H (by simp)
  ·rw [if_neg c3] at H
   have c3b0 : decide (0 < (a0.size : Int)) = false := decide_eq_false c3
   have c3b1 : decide (0 < a0.size) = false := decide_eq_false (by omega)
   clear c3
   (first | rw [c3b0] | (simp only [i64_w, i32_w]; rw [c3b0]) | skip)
   have H' := Aside0.mk H
   clear H
   go_wp2
   repeat (go_quiet (fail); try go_wp2)
   go_meet
   case rel => exact ⟨_, (false), (by first | rfl | (simp; done) | (simp [*]; done)), H', ⟨by first | omega | exact Nat.le_refl _⟩, by repeat (first | exact Drawn0.refl _ | apply Drawn0.step)⟩
 case rest =>
  clear HC2
  try clear p2
  try clear c3
  try clear c3b0
  try clear c3b1
  try clear c4
  try clear c4b0
  try clear c4b1
  try clear p5
  try clear q5
  try clear hx5
  try clear qi5
  try clear p5
  try clear q5
  obtain ⟨kq, x16_1, rfl, HA, HJ1, ⟨mc1, rfl⟩⟩ := hcut
  cases kq with
  | zero => exact absurd HA.out (by simp [schismaref04_Int.j0])
  | succ kj1 =>
   have H := HA.out
   clear HA
   simp only [schismaref04_Int.j0] at H
   have HC6 := Aside0.mk H
   clear H
   go_upto_if 16 with (fail)
   repeat (go_quiet (fail); go_upto_if 16 with (fail))
   go_cut [4, 5] (fun v4 v5 wc => ∃ (kq : Nat) (x4_5 : ByteArray) (x5_5 : Int), v4 = .string x4_5 ∧ v5 = .int .i64 x5_5 ∧ Aside0 (schismaref04_Int.j1 kq x4_5 x5_5 = some (r1, r2)) ∧ Aside0 (kq ≤ kj1) ∧ Drawn0 w wc)
   case first =>
    have H := HC6.out
    clear HC6
    by_cases c7 : x16_1 = true
    ·subst c7
     have H1 : (if 1 ≤ (a0.size : Int) then (schismaref04_Int.j1 kj1 (a0.extract 1 a0.size) (-1)) else (none)) = some (r1, r2) := by rw [if_pos rfl] at H; exact H
     clear H
     have H := H1
     clear H1
     by_cases c8 : 1 ≤ (a0.size : Int)
     ·rw [if_pos c8] at H
      have c8b0 := eq_true c8
      have c8b1 : decide (1 ≤ (a0.size : Int)) = true := decide_eq_true c8
      clear c8
      have H' := Aside0.mk H
      clear H
      go_wp2
      repeat (go_quiet (fail); try go_wp2)
      go_meet
      case rel => exact ⟨_, (a0.extract 1 a0.size), ((-1)), (by first | rfl | (simp; done) | (simp [*]; done)), (by first | rfl | (simp; done) | (simp [*]; done)), H', ⟨by have := HJ1.out; first | omega | exact Nat.le_refl _⟩, by repeat (first | exact Drawn0.refl _ | apply Drawn0.step)⟩
     ·rw [if_neg c8] at H
      exact absurd H (by simp)
    ·replace c7 := Bool.eq_false_iff.mpr c7
     subst c7
     have H1 : (schismaref04_Int.j1 kj1 a0 1) = some (r1, r2) := by rw [if_neg (show ¬ (false = true) by decide)] at H; exact H
     clear H
     have H := H1
     clear H1
     have H' := Aside0.mk H
     clear H
     go_wp2
     repeat (go_quiet (fail); try go_wp2)
     go_meet
     case rel => exact ⟨_, (a0), (1), (by first | rfl | (simp; done) | (simp [*]; done)), (by first | rfl | (simp; done) | (simp [*]; done)), H', ⟨by have := HJ1.out; first | omega | exact Nat.le_refl _⟩, by repeat (first | exact Drawn0.refl _ | apply Drawn0.step)⟩
   case rest =>
    clear HC6
    try clear c1
    try clear p2
    try clear c3
    try clear c3b0
    try clear c3b1
    try clear c4
    try clear c4b0
    try clear c4b1
    try clear p5
    try clear q5
    try clear hx5
    try clear qi5
    try clear c7
    try clear c8
    try clear c8b0
    try clear c8b1
    try clear p2
    try clear p5
    try clear q5
    obtain ⟨kq, x4_5, x5_5, rfl, rfl, HA, HJ5, ⟨mc5, rfl⟩⟩ := hcut
    cases kq with
    | zero => exact absurd HA.out (by simp [schismaref04_Int.j1])
    | succ kj5 =>
     have H := HA.out
     clear HA
     simp only [schismaref04_Int.j1] at H
     have HC9 := Aside0.mk H
     clear H
     go_upto_region 5 with (fail)
     repeat (go_quiet (fail); go_upto_region 5 with (fail))
     go_cut [40] (fun v40 wc => ∃ (kq : Nat) (x40_8 : Bool), v40 = .bool x40_8 ∧ Aside0 (schismaref04_Int.j2 kq x4_5 x5_5 x40_8 = some (r1, r2)) ∧ Aside0 (kq ≤ kj5) ∧ Drawn0 w wc)
     case first =>
      have H := HC9.out
      clear HC9
      by_cases c10 : (x4_5.size : Int) = 0
      ·rw [if_pos c10] at H
       have c10b0 : ((x4_5.size : Int) == 0) = true := beq_iff_eq.mpr c10
       have c10b1 : ((x4_5.size : Int) != 0) = false := bne_eq_false_iff_eq.mpr c10
       clear c10
       (first | rw [c10b0] | (simp only [i64_w, i32_w]; rw [c10b0]) | skip)
       have H' := Aside0.mk H
       clear H
       go_wp2
       repeat (go_quiet (fail); try go_wp2)
       go_meet
       case rel => exact ⟨_, (true), (by first | rfl | (simp; done) | (simp [*]; done)), H', ⟨by have := HJ1.out; have := HJ5.out; first | omega | exact Nat.le_refl _⟩, by repeat (first | exact Drawn0.refl _ | apply Drawn0.step)⟩
      ·rw [if_neg c10] at H
       have c10b0 : ((x4_5.size : Int) == 0) = false := beq_eq_false_iff_ne.mpr c10
       have c10b1 : ((x4_5.size : Int) != 0) = true := bne_iff_ne.mpr c10
       (first | rw [c10b0] | (simp only [i64_w, i32_w]; rw [c10b0]) | skip)
       by_cases c11 : (x4_5.size : Int) > 17
       ·rw [if_pos c11] at H
        have c11b0 : decide (17 < (x4_5.size : Int)) = true := decide_eq_true c11
        have c11b1 : decide (17 < x4_5.size) = true := decide_eq_true (by omega)
        clear c11
        have H' := Aside0.mk H
        clear H
        go_wp2
        repeat (go_quiet (fail); try go_wp2)
        go_meet
        case rel => exact ⟨_, (true), (by first | rfl | (simp; done) | (simp [*]; done)), H', ⟨by have := HJ1.out; have := HJ5.out; first | omega | exact Nat.le_refl _⟩, by repeat (first | exact Drawn0.refl _ | apply Drawn0.step)⟩
       ·rw [if_neg c11] at H
        have c11b0 : decide (17 < (x4_5.size : Int)) = false := decide_eq_false c11
        have c11b1 : decide (17 < x4_5.size) = false := decide_eq_false (by omega)
        clear c11
        by_cases c12 : 0 < (x4_5.size : Int)
        ·rw [if_pos c12] at H
         have c12b0 : decide (0 < (x4_5.size : Int)) = true := decide_eq_true c12
         have c12b1 : decide (0 < x4_5.size) = true := decide_eq_true (by omega)
         clear c12
         by_cases c14 : (bt x4_5 0) = 48
         ·rw [if_pos c14] at H
          have c14b0 : ((bt x4_5 0) == 48) = true := beq_iff_eq.mpr c14
          have c14b1 : ((bt x4_5 0) != 48) = false := bne_eq_false_iff_eq.mpr c14
          clear c14
          by_cases c15 : (x4_5.size : Int) > 1
          ·rw [if_pos c15] at H
           have c15b0 : decide (1 < (x4_5.size : Int)) = true := decide_eq_true c15
           have c15b1 : decide (1 < x4_5.size) = true := decide_eq_true (by omega)
           clear c15
           have H' := Aside0.mk H
           clear H
           have p13 : 0 ≤ (0 : Int) := (by omega)
           have q13 : 0 < x4_5.size := (by have : (0 : Int) < (x4_5.size : Int) := of_decide_eq_true (by first | (with_reducible assumption) | assumption); omega)
           have hx13 : ∀ h : 0 < x4_5.size, ((x4_5[0]'h).toNat : Int) = bt x4_5 0 := bt_at x4_5 0
           clear p13
           have qi13 : (0 < (x4_5.size : Int)) = True := eq_true (of_decide_eq_true (by first | (with_reducible assumption) | assumption))
           replace q13 := eq_true q13
           go_wp2
           repeat (go_quiet (fail); try go_wp2)
           go_meet
           case rel => exact ⟨_, (true), (by first | rfl | (simp; done) | (simp [*]; done)), H', ⟨by have := HJ1.out; have := HJ5.out; first | omega | exact Nat.le_refl _⟩, by repeat (first | exact Drawn0.refl _ | apply Drawn0.step)⟩
          ·rw [if_neg c15] at H
           have c15b0 : decide (1 < (x4_5.size : Int)) = false := decide_eq_false c15
           have c15b1 : decide (1 < x4_5.size) = false := decide_eq_false (by omega)
           clear c15
           have H' := Aside0.mk H
           clear H
           have p13 : 0 ≤ (0 : Int) := (by omega)
           have q13 : 0 < x4_5.size := (by have : (0 : Int) < (x4_5.size : Int) := of_decide_eq_true (by first | (with_reducible assumption) | assumption); omega)
           have hx13 : ∀ h : 0 < x4_5.size, ((x4_5[0]'h).toNat : Int) = bt x4_5 0 := bt_at x4_5 0
           clear p13
           have qi13 : (0 < (x4_5.size : Int)) = True := eq_true (of_decide_eq_true (by first | (with_reducible assumption) | assumption))
           replace q13 := eq_true q13
           go_wp2
           repeat (go_quiet (fail); try go_wp2)
           go_meet
           case rel => exact ⟨_, (decide (x5_5 < 0)), (by first | rfl | (simp; done) | (simp [*]; done)), H', ⟨by have := HJ1.out; have := HJ5.out; first | omega | exact Nat.le_refl _⟩, by repeat (first | exact Drawn0.refl _ | apply Drawn0.step)⟩
         ·rw [if_neg c14] at H
          have c14b0 : ((bt x4_5 0) == 48) = false := beq_eq_false_iff_ne.mpr c14
          have c14b1 : ((bt x4_5 0) != 48) = true := bne_iff_ne.mpr c14
          have H' := Aside0.mk H
          clear H
          have p13 : 0 ≤ (0 : Int) := (by omega)
          have q13 : 0 < x4_5.size := (by have : (0 : Int) < (x4_5.size : Int) := of_decide_eq_true (by first | (with_reducible assumption) | assumption); omega)
          have hx13 : ∀ h : 0 < x4_5.size, ((x4_5[0]'h).toNat : Int) = bt x4_5 0 := bt_at x4_5 0
          clear p13
          have qi13 : (0 < (x4_5.size : Int)) = True := eq_true (of_decide_eq_true (by first | (with_reducible assumption) | assumption))
          replace q13 := eq_true q13
          go_wp2
          repeat (go_quiet (fail); try go_wp2)
          go_meet
          case rel => exact ⟨_, (false), (by first | rfl | (simp; done) | (simp [*]; done)), H', ⟨by have := HJ1.out; have := HJ5.out; first | omega | exact Nat.le_refl _⟩, by repeat (first | exact Drawn0.refl _ | apply Drawn0.step)⟩
        ·rw [if_neg c12] at H
         exact absurd H (by simp)
     case rest =>
      clear HC9
      try clear c1
      try clear p1
      try clear q1
      try clear hx1
      try clear qi1
      try clear p2
      try clear c3
      try clear c3b0
      try clear c3b1
      try clear c4
      try clear c4b0
      try clear c4b1
      try clear c5
      try clear p5
      try clear q5
      try clear hx5
      try clear qi5
      try clear c7
      try clear c8
      try clear c8b0
      try clear c8b1
      try clear c10
      try clear c10b0
      try clear c10b1
      try clear c11
      try clear c11b0
      try clear c11b1
      try clear c12
      try clear c12b0
      try clear c12b1
      try clear p13
      try clear q13
      try clear hx13
      try clear qi13
      try clear c14
      try clear c14b0
      try clear c14b1
      try clear c15
      try clear c15b0
      try clear c15b1
      try clear p13
      try clear p2
      try clear p5
      try clear q13
      try clear q5
      obtain ⟨kq, x40_8, rfl, HA, HJ8, ⟨mc8, rfl⟩⟩ := hcut
      cases kq with
      | zero => exact absurd HA.out (by simp [schismaref04_Int.j2])
      | succ kj8 =>
       have H := HA.out
       clear HA
       simp only [schismaref04_Int.j2] at H
       by_cases c16 : x40_8 = true
       ·subst c16
        have H1 : (some (0, false)) = some (r1, r2) := by rw [if_pos rfl] at H; exact H
        clear H
        have H := H1
        clear H1
        simp only [Option.some.injEq, Prod.mk.injEq] at H
        obtain ⟨rfl, rfl⟩ := H
        go_wp2
        repeat (go_quiet (fail); try go_wp2)
        go_ret2
        exact ⟨by first | rfl | (simp; done) | (simp [*]; done), by repeat (first | exact Drawn0.refl _ | apply Drawn0.step)⟩
       ·replace c16 := Bool.eq_false_iff.mpr c16
        subst c16
        have H1 : (schismaref04_Int.l0 kj8 x4_5 x5_5 0 0) = some (r1, r2) := by rw [if_neg (show ¬ (false = true) by decide)] at H; exact H
        clear H
        have H := H1
        clear H1
        have H' := Aside0.mk H
        clear H
        go_wp2
        repeat (go_quiet (fail); try go_wp2)
        go_loopg [6, 7] kj8 (fun kq v6 v7 w' => ∃ (x6_4 : Int) (x7_4 : Int), v6 = .int .i64 x6_4 ∧ v7 = .int .i64 x7_4 ∧ Aside0 (schismaref04_Int.l0 kq x4_5 x5_5 x6_4 x7_4 = some (r1, r2)) ∧ Aside0 (kq ≤ kj8) ∧ Drawn0 w w')
        case atStart => exact ⟨(0), (0), (by first | rfl | (simp; done) | (simp [*]; done)), (by first | rfl | (simp; done) | (simp [*]; done)), H', ⟨Nat.le_refl _⟩, by repeat (first | exact Drawn0.refl _ | apply Drawn0.step)⟩
        case round =>
         clear H'
         try clear c1
         try clear p1
         try clear q1
         try clear hx1
         try clear qi1
         try clear p2
         try clear c3
         try clear c3b0
         try clear c3b1
         try clear c4
         try clear c4b0
         try clear c4b1
         try clear c5
         try clear p5
         try clear q5
         try clear hx5
         try clear qi5
         try clear c7
         try clear c8
         try clear c8b0
         try clear c8b1
         try clear c10
         try clear c10b0
         try clear c10b1
         try clear c11
         try clear c11b0
         try clear c11b1
         try clear c12
         try clear c12b0
         try clear c12b1
         try clear p13
         try clear q13
         try clear hx13
         try clear qi13
         try clear c14
         try clear c14b0
         try clear c14b1
         try clear c15
         try clear c15b0
         try clear c15b1
         try clear c16
         try clear p1
         try clear p13
         try clear p2
         try clear p5
         try clear q1
         try clear q13
         try clear q5
         obtain ⟨x6_4, x7_4, rfl, rfl, HA, HK4, ⟨m4, rfl⟩⟩ := hrel
         cases gk with
         | zero => exact absurd HA.out (by simp [schismaref04_Int.l0])
         | succ k4 =>
          have H := HA.out
          clear HA
          simp only [schismaref04_Int.l0] at H
          by_cases c17 : x7_4 < (x4_5.size : Int)
          ·rw [if_pos c17] at H
           have c17b0 : decide (x7_4 < (x4_5.size : Int)) = true := decide_eq_true c17
           clear c17
           by_cases c18 : 0 ≤ x7_4
           ·rw [if_pos c18] at H
            have c18b0 : decide (0 ≤ x7_4) = true := decide_eq_true c18
            clear c18
            by_cases c20 : (bt x4_5 x7_4) < 48
            ·rw [if_pos c20] at H
             have c20b0 : decide ((bt x4_5 x7_4) < 48) = true := decide_eq_true c20
             clear c20
             simp only [Option.some.injEq, Prod.mk.injEq] at H
             obtain ⟨rfl, rfl⟩ := H
             have p19 : 0 ≤ (x7_4 : Int) := of_decide_eq_true (by first | (with_reducible assumption) | assumption)
             have q19 : x7_4 < (x4_5.size : Int) := of_decide_eq_true (by first | (with_reducible assumption) | assumption)
             have hx19 := bt_at x4_5 x7_4
             replace p19 := eq_true p19
             replace q19 := eq_true q19
             go_wp2
             repeat (go_quiet (fail); try go_wp2)
             go_ret2
             exact ⟨by first | rfl | (simp; done) | (simp [*]; done), by repeat (first | exact Drawn0.refl _ | apply Drawn0.step)⟩
            ·rw [if_neg c20] at H
             have c20b0 : decide ((bt x4_5 x7_4) < 48) = false := decide_eq_false c20
             clear c20
             by_cases c22 : (bt x4_5 x7_4) > 57
             ·rw [if_pos c22] at H
              have c22b0 : decide (57 < (bt x4_5 x7_4)) = true := decide_eq_true c22
              clear c22
              simp only [Option.some.injEq, Prod.mk.injEq] at H
              obtain ⟨rfl, rfl⟩ := H
              have p19 : 0 ≤ (x7_4 : Int) := of_decide_eq_true (by first | (with_reducible assumption) | assumption)
              have q19 : x7_4 < (x4_5.size : Int) := of_decide_eq_true (by first | (with_reducible assumption) | assumption)
              have hx19 := bt_at x4_5 x7_4
              replace p19 := eq_true p19
              replace q19 := eq_true q19
              have p21 : 0 ≤ (x7_4 : Int) := of_decide_eq_true (by first | (with_reducible assumption) | assumption)
              have q21 : x7_4 < (x4_5.size : Int) := of_decide_eq_true (by first | (with_reducible assumption) | assumption)
              have hx21 := bt_at x4_5 x7_4
              replace p21 := eq_true p21
              replace q21 := eq_true q21
              go_wp2
              repeat (go_quiet (fail); try go_wp2)
              go_ret2
              exact ⟨by first | rfl | (simp; done) | (simp [*]; done), by repeat (first | exact Drawn0.refl _ | apply Drawn0.step)⟩
             ·rw [if_neg c22] at H
              have c22b0 : decide (57 < (bt x4_5 x7_4)) = false := decide_eq_false c22
              clear c22
              have H' := Aside0.mk H
              clear H
              have p19 : 0 ≤ (x7_4 : Int) := of_decide_eq_true (by first | (with_reducible assumption) | assumption)
              have q19 : x7_4 < (x4_5.size : Int) := of_decide_eq_true (by first | (with_reducible assumption) | assumption)
              have hx19 := bt_at x4_5 x7_4
              replace p19 := eq_true p19
              replace q19 := eq_true q19
              have p21 : 0 ≤ (x7_4 : Int) := of_decide_eq_true (by first | (with_reducible assumption) | assumption)
              have q21 : x7_4 < (x4_5.size : Int) := of_decide_eq_true (by first | (with_reducible assumption) | assumption)
              have hx21 := bt_at x4_5 x7_4
              replace p21 := eq_true p21
              replace q21 := eq_true q21
              have p23 : 0 ≤ (x7_4 : Int) := of_decide_eq_true (by first | (with_reducible assumption) | assumption)
              have q23 : x7_4 < (x4_5.size : Int) := of_decide_eq_true (by first | (with_reducible assumption) | assumption)
              have hx23 := bt_at x4_5 x7_4
              replace p23 := eq_true p23
              replace q23 := eq_true q23
              go_wp2
              repeat (go_quiet (fail); try go_wp2)
              go_roundg k4
              case measure => have := HJ1.out; have := HJ5.out; have := HJ8.out; have := HK4.out; omega
              case rel => exact ⟨(wrap64 ((wrap64 (10 * x6_4)) + (((bt x4_5 x7_4) - 48) % 256))), (wrap64 (x7_4 + 1)), (by first | rfl | (simp; done) | (simp [*]; done)), (by first | rfl | (simp; done) | (simp [*]; done)), H', ⟨by have := HJ1.out; have := HJ5.out; have := HJ8.out; have := HK4.out; omega⟩, by repeat (first | exact Drawn0.refl _ | apply Drawn0.step)⟩
           ·rw [if_neg c18] at H
            exact absurd H (by simp)
          ·rw [if_neg c17] at H
           have c17b0 : decide (x7_4 < (x4_5.size : Int)) = false := decide_eq_false c17
           clear c17
           simp only [Option.some.injEq, Prod.mk.injEq] at H
           obtain ⟨rfl, rfl⟩ := H
           go_wp2
           repeat (go_quiet (fail); try go_wp2)
           go_ret2
           exact ⟨by first | rfl | (simp; done) | (simp [*]; done), by repeat (first | exact Drawn0.refl _ | apply Drawn0.step)⟩
def schismaref04_Parts.f (k : Nat) (a0_0 : ByteArray) (a0_1 : ByteArray) : Option (Int × Int × Bool) := (schismaref04_Int.f k a0_0).bind fun bt336 => ((schismaref04_Int.f k a0_1).bind fun bt338 => (if bt336.2 = true then (if bt338.2 = true then (if bt338.1 ≤ 0 then (some (0, 0, false)) else ((schismaref04_Gcd.f k bt336.1 bt338.1).bind fun t340 => (if t340 = 1 then (some (bt336.1, bt338.1, true)) else (some (0, 0, false))))) else (some (0, 0, false))) else (some (0, 0, false))))
set_option maxHeartbeats 8000000 in
set_option maxRecDepth 100000 in
theorem schismaref04_Parts.calls (k : Nat) (a0_0 : ByteArray) (a0_1 : ByteArray) (r1 : Int) (r2 : Int) (r3 : Bool) (w : World) (h : schismaref04_Parts.f k a0_0 a0_1 = some (r1, r2, r3)) :
  Calls Tryz.prog 15 #[.agg #[.string a0_0, .string a0_1]] w fun e w' => e = .returned (.tuple #[.int .i64 r1, .int .i64 r2, .bool r3]) ∧ Below w.heap.size w w' := by
 have hu24 := Tryz.underlying24
 have HB := Aside0.mk (Below.refl w.heap.size w)
 have H : ((schismaref04_Int.f k a0_0).bind fun bt336 => ((schismaref04_Int.f k a0_1).bind fun bt338 => (if bt336.2 = true then (if bt338.2 = true then (if bt338.1 ≤ 0 then (some (0, 0, false)) else ((schismaref04_Gcd.f k bt336.1 bt338.1).bind fun t340 => (if t340 = 1 then (some (bt336.1, bt338.1, true)) else (some (0, 0, false))))) else (some (0, 0, false))) else (some (0, 0, false))))) = some (r1, r2, r3) := h
 clear h
 replace H := Option.bind_eq_some_iff.mp H
 obtain ⟨⟨t336, t337⟩, A20, H⟩ := H
 replace H : ((schismaref04_Int.f k a0_1).bind fun bt338 => (if t337 = true then (if bt338.2 = true then (if bt338.1 ≤ 0 then (some (0, 0, false)) else ((schismaref04_Gcd.f k t336 bt338.1).bind fun t340 => (if t340 = 1 then (some (t336, bt338.1, true)) else (some (0, 0, false))))) else (some (0, 0, false))) else (some (0, 0, false)))) = some (r1, r2, r3) := H
 have A2 := Aside0.mk A20
 clear A20
 replace H := Option.bind_eq_some_iff.mp H
 obtain ⟨⟨t338, t339⟩, A30, H⟩ := H
 replace H : (if t337 = true then (if t339 = true then (if t338 ≤ 0 then (some (0, 0, false)) else ((schismaref04_Gcd.f k t336 t338).bind fun t340 => (if t340 = 1 then (some (t336, t338, true)) else (some (0, 0, false))))) else (some (0, 0, false))) else (some (0, 0, false))) = some (r1, r2, r3) := H
 have A3 := Aside0.mk A30
 clear A30
 by_cases c4 : t337 = true
 ·subst c4
  have H1 : (if t339 = true then (if t338 ≤ 0 then (some (0, 0, false)) else ((schismaref04_Gcd.f k t336 t338).bind fun t340 => (if t340 = 1 then (some (t336, t338, true)) else (some (0, 0, false))))) else (some (0, 0, false))) = some (r1, r2, r3) := by rw [if_pos rfl] at H; exact H
  clear H
  have H := H1
  clear H1
  by_cases c5 : t339 = true
  ·subst c5
   have H1 : (if t338 ≤ 0 then (some (0, 0, false)) else ((schismaref04_Gcd.f k t336 t338).bind fun t340 => (if t340 = 1 then (some (t336, t338, true)) else (some (0, 0, false))))) = some (r1, r2, r3) := by rw [if_pos rfl] at H; exact H
   clear H
   have H := H1
   clear H1
   by_cases c6 : t338 ≤ 0
   ·rw [if_pos c6] at H
    have c6b0 : decide (t338 ≤ 0) = true := decide_eq_true c6
    clear c6
    simp only [Option.some.injEq, Prod.mk.injEq] at H
    obtain ⟨rfl, rfl, rfl⟩ := H
    go_enter Tryz.func15, Tryz.ntmps15
    go_wp2_with (first | ((with_reducible refine gate_dst (N := 1) rfl ?_); refine bx_ 1 #[.string a0_0, .string a0_1] 24 ?_; clear HB; intro gb335 w7 BK335 GW335 HB; have GE335 := GW335; obtain ⟨hcz8_0, hcz8_1, hfz8_0, hfz8_1⟩ := c2_ BK335) | ((with_reducible refine gate_callee (f := 43) rfl ?_); refine goesL_ (some 12) rfl rfl Tryz.func43 (by kernel_rfl) rfl #[.string a0_0] rfl mp_ ?_; (with_reducible refine (schismaref04_Int.calls k a0_0 t336 true _ A2.out).mono ?_); rintro e w' ⟨rfl, ⟨nd, rfl⟩⟩; refine ⟨_, rfl, ?_⟩) | ((with_reducible refine gate_callee (f := 43) rfl ?_); refine goesL_ (some 18) rfl rfl Tryz.func43 (by kernel_rfl) rfl #[.string a0_1] rfl mp_ ?_; (with_reducible refine (schismaref04_Int.calls k a0_1 t338 true _ A3.out).mono ?_); rintro e w' ⟨rfl, ⟨nd, rfl⟩⟩; refine ⟨_, rfl, ?_⟩))
    go_ret3
    exact ⟨er_, bl_⟩
   ·rw [if_neg c6] at H
    have c6b0 : decide (t338 ≤ 0) = false := decide_eq_false c6
    clear c6
    replace H := Option.bind_eq_some_iff.mp H
    obtain ⟨t340, A90, H⟩ := H
    replace H : (if t340 = 1 then (some (t336, t338, true)) else (some (0, 0, false))) = some (r1, r2, r3) := H
    have A9 := Aside0.mk A90
    clear A90
    by_cases c10 : t340 = 1
    ·rw [if_pos c10] at H
     have c10b0 : (t340 == 1) = true := beq_iff_eq.mpr c10
     have c10b1 : (t340 != 1) = false := bne_eq_false_iff_eq.mpr c10
     clear c10
     simp only [Option.some.injEq, Prod.mk.injEq] at H
     obtain ⟨rfl, rfl, rfl⟩ := H
     go_enter Tryz.func15, Tryz.ntmps15
     go_wp2_with (first | ((with_reducible refine gate_dst (N := 1) rfl ?_); refine bx_ 1 #[.string a0_0, .string a0_1] 24 ?_; clear HB; intro gb335 w11 BK335 GW335 HB; have GE335 := GW335; obtain ⟨hcz12_0, hcz12_1, hfz12_0, hfz12_1⟩ := c2_ BK335) | ((with_reducible refine gate_callee (f := 43) rfl ?_); refine goesL_ (some 12) rfl rfl Tryz.func43 (by kernel_rfl) rfl #[.string a0_0] rfl mp_ ?_; (with_reducible refine (schismaref04_Int.calls k a0_0 t336 true _ A2.out).mono ?_); rintro e w' ⟨rfl, ⟨nd, rfl⟩⟩; refine ⟨_, rfl, ?_⟩) | ((with_reducible refine gate_callee (f := 43) rfl ?_); refine goesL_ (some 18) rfl rfl Tryz.func43 (by kernel_rfl) rfl #[.string a0_1] rfl mp_ ?_; (with_reducible refine (schismaref04_Int.calls k a0_1 t338 true _ A3.out).mono ?_); rintro e w' ⟨rfl, ⟨nd, rfl⟩⟩; refine ⟨_, rfl, ?_⟩) | (go_at_call 44; (with_reducible refine (schismaref04_Gcd.calls k t336 t338 t340 _ A9.out).mono ?_); rintro e w' ⟨rfl, ⟨nd, rfl⟩⟩))
     go_ret3
     exact ⟨er_, bl_⟩
    ·rw [if_neg c10] at H
     have c10b0 : (t340 == 1) = false := beq_eq_false_iff_ne.mpr c10
     have c10b1 : (t340 != 1) = true := bne_iff_ne.mpr c10
     simp only [Option.some.injEq, Prod.mk.injEq] at H
     obtain ⟨rfl, rfl, rfl⟩ := H
     go_enter Tryz.func15, Tryz.ntmps15
     go_wp2_with (first | ((with_reducible refine gate_dst (N := 1) rfl ?_); refine bx_ 1 #[.string a0_0, .string a0_1] 24 ?_; clear HB; intro gb335 w13 BK335 GW335 HB; have GE335 := GW335; obtain ⟨hcz14_0, hcz14_1, hfz14_0, hfz14_1⟩ := c2_ BK335) | ((with_reducible refine gate_callee (f := 43) rfl ?_); refine goesL_ (some 12) rfl rfl Tryz.func43 (by kernel_rfl) rfl #[.string a0_0] rfl mp_ ?_; (with_reducible refine (schismaref04_Int.calls k a0_0 t336 true _ A2.out).mono ?_); rintro e w' ⟨rfl, ⟨nd, rfl⟩⟩; refine ⟨_, rfl, ?_⟩) | ((with_reducible refine gate_callee (f := 43) rfl ?_); refine goesL_ (some 18) rfl rfl Tryz.func43 (by kernel_rfl) rfl #[.string a0_1] rfl mp_ ?_; (with_reducible refine (schismaref04_Int.calls k a0_1 t338 true _ A3.out).mono ?_); rintro e w' ⟨rfl, ⟨nd, rfl⟩⟩; refine ⟨_, rfl, ?_⟩) | (go_at_call 44; (with_reducible refine (schismaref04_Gcd.calls k t336 t338 t340 _ A9.out).mono ?_); rintro e w' ⟨rfl, ⟨nd, rfl⟩⟩))
     go_ret3
     exact ⟨er_, bl_⟩
  ·replace c5 := Bool.eq_false_iff.mpr c5
   subst c5
   have H1 : (some (0, 0, false)) = some (r1, r2, r3) := by rw [if_neg (show ¬ (false = true) by decide)] at H; exact H
   clear H
   have H := H1
   clear H1
   simp only [Option.some.injEq, Prod.mk.injEq] at H
   obtain ⟨rfl, rfl, rfl⟩ := H
   go_enter Tryz.func15, Tryz.ntmps15
   go_wp2_with (first | ((with_reducible refine gate_dst (N := 1) rfl ?_); refine bx_ 1 #[.string a0_0, .string a0_1] 24 ?_; clear HB; intro gb335 w15 BK335 GW335 HB; have GE335 := GW335; obtain ⟨hcz16_0, hcz16_1, hfz16_0, hfz16_1⟩ := c2_ BK335) | ((with_reducible refine gate_callee (f := 43) rfl ?_); refine goesL_ (some 12) rfl rfl Tryz.func43 (by kernel_rfl) rfl #[.string a0_0] rfl mp_ ?_; (with_reducible refine (schismaref04_Int.calls k a0_0 t336 true _ A2.out).mono ?_); rintro e w' ⟨rfl, ⟨nd, rfl⟩⟩; refine ⟨_, rfl, ?_⟩) | ((with_reducible refine gate_callee (f := 43) rfl ?_); refine goesL_ (some 18) rfl rfl Tryz.func43 (by kernel_rfl) rfl #[.string a0_1] rfl mp_ ?_; (with_reducible refine (schismaref04_Int.calls k a0_1 t338 false _ A3.out).mono ?_); rintro e w' ⟨rfl, ⟨nd, rfl⟩⟩; refine ⟨_, rfl, ?_⟩))
   go_ret3
   exact ⟨er_, bl_⟩
 ·replace c4 := Bool.eq_false_iff.mpr c4
  subst c4
  have H1 : (some (0, 0, false)) = some (r1, r2, r3) := by rw [if_neg (show ¬ (false = true) by decide)] at H; exact H
  clear H
  have H := H1
  clear H1
  simp only [Option.some.injEq, Prod.mk.injEq] at H
  obtain ⟨rfl, rfl, rfl⟩ := H
  go_enter Tryz.func15, Tryz.ntmps15
  go_wp2_with (first | ((with_reducible refine gate_dst (N := 1) rfl ?_); refine bx_ 1 #[.string a0_0, .string a0_1] 24 ?_; clear HB; intro gb335 w17 BK335 GW335 HB; have GE335 := GW335; obtain ⟨hcz18_0, hcz18_1, hfz18_0, hfz18_1⟩ := c2_ BK335) | ((with_reducible refine gate_callee (f := 43) rfl ?_); refine goesL_ (some 12) rfl rfl Tryz.func43 (by kernel_rfl) rfl #[.string a0_0] rfl mp_ ?_; (with_reducible refine (schismaref04_Int.calls k a0_0 t336 false _ A2.out).mono ?_); rintro e w' ⟨rfl, ⟨nd, rfl⟩⟩; refine ⟨_, rfl, ?_⟩) | ((with_reducible refine gate_callee (f := 43) rfl ?_); refine goesL_ (some 18) rfl rfl Tryz.func43 (by kernel_rfl) rfl #[.string a0_1] rfl mp_ ?_; (with_reducible refine (schismaref04_Int.calls k a0_1 t338 t339 _ A3.out).mono ?_); rintro e w' ⟨rfl, ⟨nd, rfl⟩⟩; refine ⟨_, rfl, ?_⟩))
  go_ret3
  exact ⟨er_, bl_⟩
def convergent_begin.f  : Option (ByteArray × ByteArray × ByteArray × ByteArray) := some ((⟨#[49]⟩ : ByteArray), (⟨#[48]⟩ : ByteArray), (⟨#[48]⟩ : ByteArray), (⟨#[49]⟩ : ByteArray))
set_option maxHeartbeats 8000000 in
set_option maxRecDepth 100000 in
theorem convergent_begin.calls  (r1 : ByteArray) (r2 : ByteArray) (r3 : ByteArray) (r4 : ByteArray) (w : World) (h : convergent_begin.f  = some (r1, r2, r3, r4)) :
  Calls Tryz.prog 47 #[] w fun e w' => e = .returned (.agg #[.string r1, .string r2, .string r3, .string r4]) ∧ Below w.heap.size w w' := by
 have hu71 := Tryz.underlying71
 have HB := Aside0.mk (Below.refl w.heap.size w)
 have H : (some ((⟨#[49]⟩ : ByteArray), (⟨#[48]⟩ : ByteArray), (⟨#[48]⟩ : ByteArray), (⟨#[49]⟩ : ByteArray))) = some (r1, r2, r3, r4) := h
 clear h
 simp only [Option.some.injEq, Prod.mk.injEq] at H
 obtain ⟨rfl, rfl, rfl, rfl⟩ := H
 go_enter Tryz.func47, Tryz.ntmps47
 go_wp2_with (first | ((with_reducible refine gate_dst (N := 0) rfl ?_); refine bx_ 0 #[.string (⟨#[]⟩ : ByteArray), .string (⟨#[]⟩ : ByteArray), .string (⟨#[]⟩ : ByteArray), .string (⟨#[]⟩ : ByteArray)] 71 ?_; clear HB; intro gb345 w1 BK345 GW345 HB; have GE345 := GW345; obtain ⟨hcz2_0, hcz2_1, hcz2_2, hcz2_3, hfz2_0, hfz2_1, hfz2_2, hfz2_3⟩ := c4_ BK345))
 refine bodyPost_ret (results_cell_row rfl _ _ gb345 71 #[.string (⟨#[49]⟩ : ByteArray), .string (⟨#[48]⟩ : ByteArray), .string (⟨#[48]⟩ : ByteArray), .string (⟨#[49]⟩ : ByteArray)] (0, 0) _ rfl (by (with_reducible repeat (first | refine blk_drewN ?_ _ | refine blk_drew ?_ | refine blk_alloc ?_ _)); refine blk_put (cs := #[.string (⟨#[49]⟩ : ByteArray), .string (⟨#[48]⟩ : ByteArray), .string (⟨#[48]⟩ : ByteArray), .string (⟨#[]⟩ : ByteArray)]) ?_ 3 _ rfl; (with_reducible repeat (first | refine blk_drewN ?_ _ | refine blk_drew ?_ | refine blk_alloc ?_ _)); refine blk_put (cs := #[.string (⟨#[49]⟩ : ByteArray), .string (⟨#[48]⟩ : ByteArray), .string (⟨#[]⟩ : ByteArray), .string (⟨#[]⟩ : ByteArray)]) ?_ 2 _ rfl; (with_reducible repeat (first | refine blk_drewN ?_ _ | refine blk_drew ?_ | refine blk_alloc ?_ _)); refine blk_put (cs := #[.string (⟨#[49]⟩ : ByteArray), .string (⟨#[]⟩ : ByteArray), .string (⟨#[]⟩ : ByteArray), .string (⟨#[]⟩ : ByteArray)]) ?_ 1 _ rfl; (with_reducible repeat (first | refine blk_drewN ?_ _ | refine blk_drew ?_ | refine blk_alloc ?_ _)); refine blk_put (cs := #[.string (⟨#[]⟩ : ByteArray), .string (⟨#[]⟩ : ByteArray), .string (⟨#[]⟩ : ByteArray), .string (⟨#[]⟩ : ByteArray)]) ?_ 0 _ rfl; (with_reducible repeat (first | refine blk_drewN ?_ _ | refine blk_drew ?_ | refine blk_alloc ?_ _)); exact BK345.out) Tryz.underlying71 rfl (by kernel_rfl)) rfl ?_
 exact ⟨er_, bl_⟩
end Go.Proofs.YtidajgkepdkcbaaGreatDoor.PF
end
section
namespace Go.Proofs.YtidajgkepdkcbaaGreatDoor.PF
open Go.RowKit Go.Proofs.YtidajgkepdkcbaaGreatDoorW.PrintWords Go.Proofs.YtidajgkepdkcbaaGreatDoorW.PrintLast Go.Proofs.YtidajgkepdkcbaaGreatDoorW.PrintMore
attribute [local go_sem] max2_int min2_int max_two min_two max_three min_three max_four min_four
def convergent_pair_step.f (k : Nat) (a0_0 : ByteArray) (a0_1 : ByteArray) (a0_2 : ByteArray) (a0_3 : ByteArray) (a1 : ByteArray) : Option (ByteArray × ByteArray) := (whole_Mul.f k a1 a0_0).bind fun t347 => ((whole_Add.f k a0_2 t347).bind fun t348 => ((whole_Mul.f k a1 a0_1).bind fun t349 => ((whole_Add.f k a0_3 t349).bind fun t350 => (some (t348, t350)))))
def convergent_pair_step.T1 : Bool × List (List Nat × List Nat) := (true, [([], []), ([0], [0]), ([], []), ([], []), ([3], [3]), ([2, 4], [2, 4]), ([1, 5, 5], [1, 5]), ([], []), ([7], [7]), ([], []), ([], []), ([10], [10]), ([9, 11, 6], [9, 11]), ([8, 12, 12], [8, 12]), ([6, 13, 0, 1, 2, 3, 4, 5, 6], [6]), ([13, 14, 0, 1, 2, 3, 4, 5, 6, 7, 8, 9, 10, 11, 12, 13, 14], [13])])
def convergent_pair_step.B1 : List Nat := [0, 1, 0, 0, 8, 28, 63, 0, 128, 0, 0, 1024, 3711, 8191, 16383, 32767]
theorem convergent_pair_step.tab1 : rtab .any (opsOf Tryz.f83 1) = convergent_pair_step.T1 := by kernel_rfl
theorem convergent_pair_step.bits1 : waitsOk convergent_pair_step.T1.2 convergent_pair_step.B1 = true := by kernel_rfl
set_option maxHeartbeats 8000000 in
set_option maxRecDepth 100000 in
theorem convergent_pair_step.calls (k : Nat) (a0_0 : ByteArray) (a0_1 : ByteArray) (a0_2 : ByteArray) (a0_3 : ByteArray) (a1 : ByteArray) (r1 : ByteArray) (r2 : ByteArray) (w : World) (hG_ : GWorld w) (h : convergent_pair_step.f k a0_0 a0_1 a0_2 a0_3 a1 = some (r1, r2)) :
  Calls Tryz.prog 83 #[.agg #[.string a0_0, .string a0_1, .string a0_2, .string a0_3], .string a1] w fun e w' => e = .returned (.tuple #[.string r1, .string r2]) ∧ Below w.heap.size w w' := by
 have hu71 := Tryz.underlying71
 have HB := Aside0.mk (Below.refl w.heap.size w)
 have HG := Aside0.mk hG_
 clear hG_
 have H : ((whole_Mul.f k a1 a0_0).bind fun t347 => ((whole_Add.f k a0_2 t347).bind fun t348 => ((whole_Mul.f k a1 a0_1).bind fun t349 => ((whole_Add.f k a0_3 t349).bind fun t350 => (some (t348, t350)))))) = some (r1, r2) := h
 clear h
 replace H := Option.bind_eq_some_iff.mp H
 obtain ⟨t347, A30, H⟩ := H
 replace H : ((whole_Add.f k a0_2 t347).bind fun t348 => ((whole_Mul.f k a1 a0_1).bind fun t349 => ((whole_Add.f k a0_3 t349).bind fun t350 => (some (t348, t350))))) = some (r1, r2) := H
 have A3 := Aside0.mk A30
 clear A30
 replace H := Option.bind_eq_some_iff.mp H
 obtain ⟨t348, A40, H⟩ := H
 replace H : ((whole_Mul.f k a1 a0_1).bind fun t349 => ((whole_Add.f k a0_3 t349).bind fun t350 => (some (t348, t350)))) = some (r1, r2) := H
 have A4 := Aside0.mk A40
 clear A40
 replace H := Option.bind_eq_some_iff.mp H
 obtain ⟨t349, A50, H⟩ := H
 replace H : ((whole_Add.f k a0_3 t349).bind fun t350 => (some (t348, t350))) = some (r1, r2) := H
 have A5 := Aside0.mk A50
 clear A50
 replace H := Option.bind_eq_some_iff.mp H
 obtain ⟨t350, A60, H⟩ := H
 replace H : (some (t348, t350)) = some (r1, r2) := H
 have A6 := Aside0.mk A60
 clear A60
 simp only [Option.some.injEq, Prod.mk.injEq] at H
 obtain ⟨rfl, rfl⟩ := H
 go_enter Tryz.func83, Tryz.ntmps83
 try go_wp2_with (first | ((with_reducible refine gate_dst (N := 2) rfl ?_); refine bx_ 2 #[.string a0_0, .string a0_1, .string a0_2, .string a0_3] 71 ?_; clear HB; intro gb346 w7 BK346 GW346 HB; have GE346 := GW346))
 have n0_ := Aside0.mk (blk_drew BK346.out)
 have n1_ := Aside0.mk (below_drew1 HB.out)
 clear BK346
 clear HB
 have BK346 := n0_
 have HB := n1_
 clear n0_ n1_
 refine start_ (n := 16) (S := fun w' => w'.cell? ⟨gb346, 0, none⟩ = some (.string a0_0) ∧ w'.cell? ⟨gb346, 1, none⟩ = some (.string a0_1) ∧ w'.cell? ⟨gb346, 2, none⟩ = some (.string a0_2) ∧ w'.cell? ⟨gb346, 3, none⟩ = some (.string a0_3)) (ds := []) #[false, false, false, false, false, false, false, false, false, false, false, false, false, false, false, false] (by kernel_rfl) rfl rfl ⟨(blk_cell BK346.out 0).trans rfl, (blk_cell BK346.out 1).trans rfl, (blk_cell BK346.out 2).trans rfl, (blk_cell BK346.out 3).trans rfl⟩ (fun hHeld => ?_); refine with_tabW convergent_pair_step.tab1 convergent_pair_step.bits1 (fun HT_ HW_ => ?_)
 generalize w7.drew = w8 at BK346 HB hHeld ⊢
 refine pure_ (i := 0) (N := some 6) (v := ?_) (a' := ?_) #[true, false, false, false, false, false, false, false, false, false, false, false, false, false, false, false] rfl rfl (any_of HT_.out (by kernel_rfl)) (fun _ _ _ h => h) (Or.inl ⟨by rfl, ?_⟩) ?_ ?_
 rotate_left
 ·intro w'
  go_simp
  with_reducible rfl
 rotate_left
 ·simp only [Act.put, List.setIfInBounds_toArray, List.set_cons_zero, List.set_cons_succ, i64_w, i32_w]
  rfl
 refine pure_ (i := 2) (N := some 8) (v := ?_) (a' := ?_) #[true, false, true, false, false, false, false, false, false, false, false, false, false, false, false, false] rfl rfl (any_of HT_.out (by kernel_rfl)) (fun _ _ _ h => h) (Or.inl ⟨by rfl, ?_⟩) ?_ ?_
 rotate_left
 ·intro w'
  go_simp
  with_reducible rfl
 rotate_left
 ·simp only [Act.put, List.setIfInBounds_toArray, List.set_cons_zero, List.set_cons_succ, i64_w, i32_w]
  rfl
 refine pure_ (i := 3) (N := some 9) (v := ?_) (a' := ?_) #[true, false, true, true, false, false, false, false, false, false, false, false, false, false, false, false] rfl rfl (any_of HT_.out (by kernel_rfl)) (fun _ _ _ h => h) (Or.inl ⟨by rfl, ?_⟩) ?_ ?_
 rotate_left
 ·intro w'
  go_simp
  with_reducible rfl
 rotate_left
 ·simp only [Act.put, List.setIfInBounds_toArray, List.set_cons_zero, List.set_cons_succ, i64_w, i32_w]
  rfl
 refine pure_ (i := 7) (N := some 13) (v := ?_) (a' := ?_) #[true, false, true, true, false, false, false, true, false, false, false, false, false, false, false, false] rfl rfl (any_of HT_.out (by kernel_rfl)) (fun _ _ _ h => h) (Or.inl ⟨by rfl, ?_⟩) ?_ ?_
 rotate_left
 ·intro w'
  go_simp
  with_reducible rfl
 rotate_left
 ·simp only [Act.put, List.setIfInBounds_toArray, List.set_cons_zero, List.set_cons_succ, i64_w, i32_w]
  rfl
 refine pure_ (i := 9) (N := some 15) (v := ?_) (a' := ?_) #[true, false, true, true, false, false, false, true, false, true, false, false, false, false, false, false] rfl rfl (any_of HT_.out (by kernel_rfl)) (fun _ _ _ h => h) (Or.inl ⟨by rfl, ?_⟩) ?_ ?_
 rotate_left
 ·intro w'
  go_simp
  with_reducible rfl
 rotate_left
 ·simp only [Act.put, List.setIfInBounds_toArray, List.set_cons_zero, List.set_cons_succ, i64_w, i32_w]
  rfl
 refine pure_ (i := 10) (N := some 16) (v := ?_) (a' := ?_) #[true, false, true, true, false, false, false, true, false, true, true, false, false, false, false, false] rfl rfl (any_of HT_.out (by kernel_rfl)) (fun _ _ _ h => h) (Or.inl ⟨by rfl, ?_⟩) ?_ ?_
 rotate_left
 ·intro w'
  go_simp
  with_reducible rfl
 rotate_left
 ·simp only [Act.put, List.setIfInBounds_toArray, List.set_cons_zero, List.set_cons_succ, i64_w, i32_w]
  rfl
 refine take_ (i := 1) (N := some 7) (v := ?_) (a' := ?_) #[true, true, true, true, false, false, false, true, false, true, true, false, false, false, false, false] rfl rfl (take_ofW HT_.out HW_.out (by kernel_rfl)) (fun _ _ _ h => h) (Or.inl ⟨by rfl, ?_⟩) hHeld ?_ ?_
 rotate_left
 ·rintro w' ⟨s0, s1, s2, s3⟩
  go_simp
  with_reducible rfl
 rotate_left
 ·simp only [Act.put, List.setIfInBounds_toArray, List.set_cons_zero, List.set_cons_succ, i64_w, i32_w]
  rfl
 refine take_ (i := 4) (N := some 10) (v := ?_) (a' := ?_) #[true, true, true, true, true, false, false, true, false, true, true, false, false, false, false, false] rfl rfl (take_ofW HT_.out HW_.out (by kernel_rfl)) (fun _ _ _ h => h) (Or.inl ⟨by rfl, ?_⟩) hHeld ?_ ?_
 rotate_left
 ·rintro w' ⟨s0, s1, s2, s3⟩
  go_simp
  with_reducible rfl
 rotate_left
 ·simp only [Act.put, List.setIfInBounds_toArray, List.set_cons_zero, List.set_cons_succ, i64_w, i32_w]
  rfl
 refine take_ (i := 8) (N := some 14) (v := ?_) (a' := ?_) #[true, true, true, true, true, false, false, true, true, true, true, false, false, false, false, false] rfl rfl (take_ofW HT_.out HW_.out (by kernel_rfl)) (fun _ _ _ h => h) (Or.inl ⟨by rfl, ?_⟩) hHeld ?_ ?_
 rotate_left
 ·rintro w' ⟨s0, s1, s2, s3⟩
  go_simp
  with_reducible rfl
 rotate_left
 ·simp only [Act.put, List.setIfInBounds_toArray, List.set_cons_zero, List.set_cons_succ, i64_w, i32_w]
  rfl
 refine take_ (i := 11) (N := some 17) (v := ?_) (a' := ?_) #[true, true, true, true, true, false, false, true, true, true, true, true, false, false, false, false] rfl rfl (take_ofW HT_.out HW_.out (by kernel_rfl)) (fun _ _ _ h => h) (Or.inl ⟨by rfl, ?_⟩) hHeld ?_ ?_
 rotate_left
 ·rintro w' ⟨s0, s1, s2, s3⟩
  go_simp
  with_reducible rfl
 rotate_left
 ·simp only [Act.put, List.setIfInBounds_toArray, List.set_cons_zero, List.set_cons_succ, i64_w, i32_w]
  rfl
 refine one_ (i := 5) (N := some 11) #[true, true, true, true, true, true, false, true, true, true, true, true, false, false, false, false] rfl rfl (one_of HT_.out (by kernel_rfl)) (by decide) (fun K hK => ?_)
 refine goes_ Tryz.func88 (by kernel_rfl) rfl #[.string a1, .string a0_0] (by rfl) rfl rfl mp_ ?_
 with_reducible refine (whole_Mul.calls k a1 a0_0 t347 _ ?side1 A3.out).mono ?_
 (case side1 => exact gw_ HG)
 rintro e w9 ⟨rfl, hb⟩
 refine ⟨_, rfl, ?_⟩
 have n0_ := kb_ BK346 hb
 have n1_ := bs_ hb
 clear BK346
 clear HB
 have BK346 := n0_
 have HB := n1_
 clear n0_ n1_
 (try clear hb); (try clear hb2); (try clear hk); (try clear hi)
 refine hK.out _ _ ⟨(blk_cell BK346.out 0).trans rfl, (blk_cell BK346.out 1).trans rfl, (blk_cell BK346.out 2).trans rfl, (blk_cell BK346.out 3).trans rfl⟩ (fun hHeld => ?_)
 clear hK K
 refine norm_ (a' := ?_) ?_ ?_
 rotate_left
 ·show Act.put _ (some 11) _ = _
  simp only [Act.put, List.setIfInBounds_toArray, List.set_cons_zero, List.set_cons_succ, i64_w, i32_w]
  rfl
 refine one_ (i := 6) (N := some 12) #[true, true, true, true, true, true, true, true, true, true, true, true, false, false, false, false] rfl rfl (one_of HT_.out (by kernel_rfl)) (by decide) (fun K hK => ?_)
 refine goes_ Tryz.func42 (by kernel_rfl) rfl #[.string a0_2, .string t347] (by rfl) rfl rfl mp_ ?_
 with_reducible refine (whole_Add.calls k a0_2 t347 t348 _ ?side1 A4.out).mono ?_
 (case side1 => exact gw_ HG)
 rintro e w10 ⟨rfl, hb⟩
 refine ⟨_, rfl, ?_⟩
 have n0_ := kb_ BK346 hb
 have n1_ := bs_ hb
 clear BK346
 clear HB
 have BK346 := n0_
 have HB := n1_
 clear n0_ n1_
 (try clear hb); (try clear hb2); (try clear hk); (try clear hi)
 refine hK.out _ _ ⟨(blk_cell BK346.out 0).trans rfl, (blk_cell BK346.out 1).trans rfl, (blk_cell BK346.out 2).trans rfl, (blk_cell BK346.out 3).trans rfl⟩ (fun hHeld => ?_)
 clear hK K
 refine norm_ (a' := ?_) ?_ ?_
 rotate_left
 ·show Act.put _ (some 12) _ = _
  simp only [Act.put, List.setIfInBounds_toArray, List.set_cons_zero, List.set_cons_succ, i64_w, i32_w]
  rfl
 refine one_ (i := 12) (N := some 18) #[true, true, true, true, true, true, true, true, true, true, true, true, true, false, false, false] rfl rfl (one_of HT_.out (by kernel_rfl)) (by decide) (fun K hK => ?_)
 refine goes_ Tryz.func88 (by kernel_rfl) rfl #[.string a1, .string a0_1] (by rfl) rfl rfl mp_ ?_
 with_reducible refine (whole_Mul.calls k a1 a0_1 t349 _ ?side1 A5.out).mono ?_
 (case side1 => exact gw_ HG)
 rintro e w11 ⟨rfl, hb⟩
 refine ⟨_, rfl, ?_⟩
 have n0_ := kb_ BK346 hb
 have n1_ := bs_ hb
 clear BK346
 clear HB
 have BK346 := n0_
 have HB := n1_
 clear n0_ n1_
 (try clear hb); (try clear hb2); (try clear hk); (try clear hi)
 refine hK.out _ _ ⟨(blk_cell BK346.out 0).trans rfl, (blk_cell BK346.out 1).trans rfl, (blk_cell BK346.out 2).trans rfl, (blk_cell BK346.out 3).trans rfl⟩ (fun hHeld => ?_)
 clear hK K
 refine norm_ (a' := ?_) ?_ ?_
 rotate_left
 ·show Act.put _ (some 18) _ = _
  simp only [Act.put, List.setIfInBounds_toArray, List.set_cons_zero, List.set_cons_succ, i64_w, i32_w]
  rfl
 refine one_ (i := 13) (N := some 19) #[true, true, true, true, true, true, true, true, true, true, true, true, true, true, false, false] rfl rfl (one_of HT_.out (by kernel_rfl)) (by decide) (fun K hK => ?_)
 refine goes_ Tryz.func42 (by kernel_rfl) rfl #[.string a0_3, .string t349] (by rfl) rfl rfl mp_ ?_
 with_reducible refine (whole_Add.calls k a0_3 t349 t350 _ ?side1 A6.out).mono ?_
 (case side1 => exact gw_ HG)
 rintro e w12 ⟨rfl, hb⟩
 refine ⟨_, rfl, ?_⟩
 have n0_ := kb_ BK346 hb
 have n1_ := bs_ hb
 clear BK346
 clear HB
 have BK346 := n0_
 have HB := n1_
 clear n0_ n1_
 (try clear hb); (try clear hb2); (try clear hk); (try clear hi)
 refine hK.out _ _ ⟨(blk_cell BK346.out 0).trans rfl, (blk_cell BK346.out 1).trans rfl, (blk_cell BK346.out 2).trans rfl, (blk_cell BK346.out 3).trans rfl⟩ (fun hHeld => ?_)
 clear hK K
 refine norm_ (a' := ?_) ?_ ?_
 rotate_left
 ·show Act.put _ (some 19) _ = _
  simp only [Act.put, List.setIfInBounds_toArray, List.set_cons_zero, List.set_cons_succ, i64_w, i32_w]
  rfl
 refine pure_ (i := 14) (N := some 4) (v := ?_) (a' := ?_) #[true, true, true, true, true, true, true, true, true, true, true, true, true, true, true, false] rfl rfl (any_of HT_.out (by kernel_rfl)) (fun _ _ _ h => h) (Or.inl ⟨by rfl, ?_⟩) ?_ ?_
 rotate_left
 ·intro w'
  go_simp
  with_reducible rfl
 rotate_left
 ·simp only [Act.put, List.setIfInBounds_toArray, List.set_cons_zero, List.set_cons_succ, i64_w, i32_w]
  rfl
 refine pure_ (i := 15) (N := some 5) (v := ?_) (a' := ?_) #[true, true, true, true, true, true, true, true, true, true, true, true, true, true, true, true] rfl rfl (any_of HT_.out (by kernel_rfl)) (fun _ _ _ h => h) (Or.inl ⟨by rfl, ?_⟩) ?_ ?_
 rotate_left
 ·intro w'
  go_simp
  with_reducible rfl
 rotate_left
 ·simp only [Act.put, List.setIfInBounds_toArray, List.set_cons_zero, List.set_cons_succ, i64_w, i32_w]
  rfl
 refine done_ (done_of HT_.out (by kernel_rfl)) ?_
 try go_wp2
 go_ret2
 exact ⟨er_, bl_⟩
def convergent_pair_next.f (k : Nat) (a0_0 : ByteArray) (a0_1 : ByteArray) (a0_2 : ByteArray) (a0_3 : ByteArray) (a1 : ByteArray) : Option (ByteArray × ByteArray × ByteArray × ByteArray) := (convergent_pair_step.f k a0_0 a0_1 a0_2 a0_3 a1).bind fun bt353 => (some (bt353.1, bt353.2, a0_0, a0_1))
set_option maxHeartbeats 8000000 in
set_option maxRecDepth 100000 in
theorem convergent_pair_next.calls (k : Nat) (a0_0 : ByteArray) (a0_1 : ByteArray) (a0_2 : ByteArray) (a0_3 : ByteArray) (a1 : ByteArray) (r1 : ByteArray) (r2 : ByteArray) (r3 : ByteArray) (r4 : ByteArray) (w : World) (hG_ : GWorld w) (h : convergent_pair_next.f k a0_0 a0_1 a0_2 a0_3 a1 = some (r1, r2, r3, r4)) :
  Calls Tryz.prog 48 #[.agg #[.string a0_0, .string a0_1, .string a0_2, .string a0_3], .string a1] w fun e w' => e = .returned (.agg #[.string r1, .string r2, .string r3, .string r4]) ∧ Below w.heap.size w w' := by
 have hu71 := Tryz.underlying71
 have HB := Aside0.mk (Below.refl w.heap.size w)
 have HG := Aside0.mk hG_
 clear hG_
 have H : ((convergent_pair_step.f k a0_0 a0_1 a0_2 a0_3 a1).bind fun bt353 => (some (bt353.1, bt353.2, a0_0, a0_1))) = some (r1, r2, r3, r4) := h
 clear h
 replace H := Option.bind_eq_some_iff.mp H
 obtain ⟨⟨t353, t354⟩, A30, H⟩ := H
 replace H : (some (t353, t354, a0_0, a0_1)) = some (r1, r2, r3, r4) := H
 have A3 := Aside0.mk A30
 clear A30
 simp only [Option.some.injEq, Prod.mk.injEq] at H
 obtain ⟨rfl, rfl, rfl, rfl⟩ := H
 go_enter Tryz.func48, Tryz.ntmps48
 go_wp2_with (first | ((with_reducible refine gate_dst (N := 2) rfl ?_); refine bx_ 2 #[.string a0_0, .string a0_1, .string a0_2, .string a0_3] 71 ?_; clear HB; intro gb351 w4 BK351 GW351 HB; have GE351 := GW351) | ((with_reducible refine gate_dst (N := 4) rfl ?_); refine box_event ?hg (N := 4) ?hd (cs := #[.string (⟨#[]⟩ : ByteArray), .string (⟨#[]⟩ : ByteArray), .string (⟨#[]⟩ : ByteArray), .string (⟨#[]⟩ : ByteArray)]) (t := 71) ?hr ?_; (case hd => rfl); (case hg => rfl); (case hr => first | (go_simp; done) | (go_simp; rfl)); intro gb352 hg w5 hbox hb; have BK352 := Aside0.mk (hbox); have GW352 := ge_ (w := w) hg; have GE352 := ge_ (w := w) hg; replace HB := bs_ hb; have NB351_352 := nl_ hg BK351; have NB352_351 := ng_ hg BK351; replace BK351 := kb_ BK351 hb; clear hb hbox hg; have hnb6 := NB351_352.out; have hnc6 := NB352_351.out; obtain ⟨hcz7_0, hcz7_1, hcz7_2, hcz7_3, hfz7_0, hfz7_1, hfz7_2, hfz7_3⟩ := c4_ BK351) | ((with_reducible refine gate_callee (f := 83) rfl ?_); refine goesL_ (some 10) rfl rfl Tryz.func83 (by kernel_rfl) rfl #[.agg #[.string a0_0, .string a0_1, .string a0_2, .string a0_3], .string a1] rfl mp_ ?_; (with_reducible refine (convergent_pair_step.calls k a0_0 a0_1 a0_2 a0_3 a1 t353 t354 _ ?side1 A3.out).mono ?_); (case side1 => exact gw_ HG); rintro e w8 ⟨rfl, hb⟩; refine ⟨_, rfl, ?_⟩; replace BK351 := kb_ BK351 hb; replace BK352 := kb_ BK352 hb; replace HB := bs_ hb; (try clear hb); (try clear hb2); (try clear hk); (try clear hi); obtain ⟨hcz9_0, hcz9_1, hcz9_2, hcz9_3, hfz9_0, hfz9_1, hfz9_2, hfz9_3⟩ := c4_ BK351; obtain ⟨hcz10_0, hcz10_1, hcz10_2, hcz10_3, hfz10_0, hfz10_1, hfz10_2, hfz10_3⟩ := c4_ BK352))
 refine bodyPost_ret (results_cell_row rfl _ _ gb352 71 #[.string t353, .string t354, .string a0_0, .string a0_1] (0, 0) _ rfl (by (with_reducible repeat (first | refine blk_drewN ?_ _ | refine blk_drew ?_ | refine blk_alloc ?_ _)); refine blk_put (cs := #[.string t353, .string t354, .string a0_0, .string (⟨#[]⟩ : ByteArray)]) ?_ 3 _ rfl; (with_reducible repeat (first | refine blk_drewN ?_ _ | refine blk_drew ?_ | refine blk_alloc ?_ _)); refine blk_put (cs := #[.string t353, .string t354, .string (⟨#[]⟩ : ByteArray), .string (⟨#[]⟩ : ByteArray)]) ?_ 2 _ rfl; (with_reducible repeat (first | refine blk_drewN ?_ _ | refine blk_drew ?_ | refine blk_alloc ?_ _)); refine blk_put (cs := #[.string t353, .string (⟨#[]⟩ : ByteArray), .string (⟨#[]⟩ : ByteArray), .string (⟨#[]⟩ : ByteArray)]) ?_ 1 _ rfl; (with_reducible repeat (first | refine blk_drewN ?_ _ | refine blk_drew ?_ | refine blk_alloc ?_ _)); refine blk_put (cs := #[.string (⟨#[]⟩ : ByteArray), .string (⟨#[]⟩ : ByteArray), .string (⟨#[]⟩ : ByteArray), .string (⟨#[]⟩ : ByteArray)]) ?_ 0 _ rfl; (with_reducible repeat (first | refine blk_drewN ?_ _ | refine blk_drew ?_ | refine blk_alloc ?_ _)); exact BK352.out) Tryz.underlying71 rfl (by kernel_rfl)) rfl ?_
 exact ⟨er_, bl_⟩
end Go.Proofs.YtidajgkepdkcbaaGreatDoor.PF
end
section
namespace Go.Proofs.YtidajgkepdkcbaaGreatDoor.PF
open Go.RowKit Go.Proofs.YtidajgkepdkcbaaGreatDoorW.PrintWords Go.Proofs.YtidajgkepdkcbaaGreatDoorW.PrintLast Go.Proofs.YtidajgkepdkcbaaGreatDoorW.PrintMore
attribute [local go_sem] max2_int min2_int max_two min_two max_three min_three max_four min_four
mutual
def convergent_beside.j1 : Nat → Int → Int → ByteArray → ByteArray → Option (ByteArray × ByteArray)
 | 0, _, _, _, _ => none
 | k + 1, x2, x14, x467000, x467001 => (whole_Of.f x14).bind fun t475 => ((whole_Mul.f k x467000 t475).bind fun t476 => ((whole_Of.f x2).bind fun t477 => ((whole_Sub.f k t476 t477).bind fun t478 => ((whole_DivMod.f k t478 x467001).bind fun bt479 => ((whole_Of.f x14).bind fun t482 => ((convergent_over.f k bt479.1 t482).bind fun bt483 => (some (bt483.1, bt483.2))))))))
def convergent_beside.l0 : Nat → Int → Int → Int → Int → Int → ByteArray → ByteArray → Option (ByteArray × ByteArray)
 | 0, _, _, _, _, _, _, _ => none
 | k + 1, x1, x2, x7, x12, x14, x467000, x467001 => if x14 > (wrap64 (x1 - x7)) then (if x7 = 0 then (none) else (if (Int.tmod (wrap64 ((wrap64 (x12 * (Int.tmod x14 x7))) - x2)) x7) = 0 then (convergent_beside.j1 k x2 x14 x467000 x467001) else (convergent_beside.l0 k x1 x2 x7 x12 (wrap64 (x14 - 1)) x467000 x467001))) else (convergent_beside.j1 k x2 x14 x467000 x467001)
end
def convergent_beside.f (k : Nat) (a0_0 : ByteArray) (a0_1 : ByteArray) (a1 : Int) (a2 : Int) : Option (ByteArray × ByteArray) := (whole_Small.f a0_1).bind fun bt468 => ((whole_DivMod.f k a0_0 a0_1).bind fun bt470 => ((whole_Small.f bt470.2.1).bind fun bt473 => (convergent_beside.l0 k a1 a2 bt468.1 bt473.1 a1 a0_0 a0_1)))
def convergent_beside.T7 : Bool × List (List Nat × List Nat) := (true, [([], []), ([0], [0]), ([], []), ([2], [2]), ([1, 3, 3], [1, 3]), ([], []), ([5, 4], [5]), ([4, 6, 6], [4, 6]), ([], []), ([8], [8]), ([7, 9, 7], [7, 9]), ([10], [10]), ([11], [11]), ([11], [11]), ([11], [11]), ([12, 10, 0, 1, 2, 3, 4, 5, 6, 7, 8, 9, 10, 11, 12], [12]), ([13, 15, 0, 1, 2, 3, 4, 5, 6, 7, 8, 9, 10, 11, 12, 13, 15], [13]), ([14, 16, 0, 1, 2, 3, 4, 5, 6, 7, 8, 9, 10, 11, 12, 13, 14, 15, 16], [14])])
def convergent_beside.B7 : List Nat := [0, 1, 0, 4, 15, 0, 63, 127, 0, 256, 1023, 2047, 4095, 4095, 4095, 8191, 49151, 131071]
theorem convergent_beside.tab7 : rtab .any (opsOf Tryz.f72 7) = convergent_beside.T7 := by kernel_rfl
theorem convergent_beside.bits7 : waitsOk convergent_beside.T7.2 convergent_beside.B7 = true := by kernel_rfl
set_option maxHeartbeats 8000000 in
set_option maxRecDepth 100000 in
theorem convergent_beside.calls (k : Nat) (a0_0 : ByteArray) (a0_1 : ByteArray) (a1 : Int) (a2 : Int) (r1 : ByteArray) (r2 : ByteArray) (w : World) (hG_ : GWorld w) (h : convergent_beside.f k a0_0 a0_1 a1 a2 = some (r1, r2)) :
  Calls Tryz.prog 72 #[.agg #[.string a0_0, .string a0_1], .int .i64 a1, .int .i64 a2] w fun e w' => e = .returned (.agg #[.string r1, .string r2]) ∧ Below w.heap.size w w' := by
 have hu24 := Tryz.underlying24
 have HB := Aside0.mk (Below.refl w.heap.size w)
 have HG := Aside0.mk hG_
 clear hG_
 have H : ((whole_Small.f a0_1).bind fun bt468 => ((whole_DivMod.f k a0_0 a0_1).bind fun bt470 => ((whole_Small.f bt470.2.1).bind fun bt473 => (convergent_beside.l0 k a1 a2 bt468.1 bt473.1 a1 a0_0 a0_1)))) = some (r1, r2) := h
 clear h
 replace H := Option.bind_eq_some_iff.mp H
 obtain ⟨⟨t468, t469⟩, A40, H⟩ := H
 replace H : ((whole_DivMod.f k a0_0 a0_1).bind fun bt470 => ((whole_Small.f bt470.2.1).bind fun bt473 => (convergent_beside.l0 k a1 a2 t468 bt473.1 a1 a0_0 a0_1))) = some (r1, r2) := H
 have A4 := Aside0.mk A40
 clear A40
 replace H := Option.bind_eq_some_iff.mp H
 obtain ⟨⟨t470, t471, t472⟩, A50, H⟩ := H
 replace H : ((whole_Small.f t471).bind fun bt473 => (convergent_beside.l0 k a1 a2 t468 bt473.1 a1 a0_0 a0_1)) = some (r1, r2) := H
 have A5 := Aside0.mk A50
 clear A50
 replace H := Option.bind_eq_some_iff.mp H
 obtain ⟨⟨t473, t474⟩, A60, H⟩ := H
 replace H : (convergent_beside.l0 k a1 a2 t468 t473 a1 a0_0 a0_1) = some (r1, r2) := H
 have A6 := Aside0.mk A60
 clear A60
 have HC7 := Aside0.mk H
 clear H
 go_enter Tryz.func72, Tryz.ntmps72
 go_upto_block 0 with (first | ((with_reducible refine gate_dst (N := 3) rfl ?_); refine bx_ 3 #[.string a0_0, .string a0_1] 24 ?_; clear HB; intro gb466 w8 BK466 GW466 HB; have GE466 := GW466) | ((with_reducible refine gate_dst (N := 6) rfl ?_); refine box_event ?hg (N := 6) ?hd (cs := #[.string (⟨#[]⟩ : ByteArray), .string (⟨#[]⟩ : ByteArray)]) (t := 24) ?hr ?_; (case hd => rfl); (case hg => rfl); (case hr => first | (go_simp; done) | (go_simp; rfl)); intro gb467 hg w9 hbox hb; have BK467 := Aside0.mk (hbox); have GW467 := ge_ (w := w) hg; have GE467 := ge_ (w := w) hg; replace HB := bs_ hb; have NB466_467 := nl_ hg BK466; have NB467_466 := ng_ hg BK466; replace BK466 := kb_ BK466 hb; clear hb hbox hg; have hnb10 := NB466_467.out; have hnc10 := NB467_466.out; obtain ⟨hcz11_0, hcz11_1, hfz11_0, hfz11_1⟩ := c2_ BK466) | ((with_reducible refine gate_callee (f := 66) rfl ?_); refine goesL_ (some 21) rfl rfl Tryz.func66 (by kernel_rfl) rfl #[.string a0_1] rfl mp_ ?_; (with_reducible refine (whole_Small.calls a0_1 t468 t469 _ A4.out).mono ?_); rintro e w12 ⟨rfl, hb⟩; refine ⟨_, rfl, ?_⟩; replace BK466 := kb_ BK466 hb; replace BK467 := kb_ BK467 hb; replace HB := bs_ hb; (try clear hb); (try clear hb2); (try clear hk); (try clear hi); obtain ⟨hcz13_0, hcz13_1, hfz13_0, hfz13_1⟩ := c2_ BK466) | ((with_reducible refine gate_callee (f := 55) rfl ?_); refine goesL_ (some 29) rfl rfl Tryz.func55 (by kernel_rfl) rfl #[.string a0_0, .string a0_1] rfl mp_ ?_; (with_reducible refine (whole_DivMod.calls k a0_0 a0_1 t470 t471 t472 _ ?side1 A5.out).mono ?_); (case side1 => exact gw_ HG); rintro e w14 ⟨rfl, hb⟩; refine ⟨_, rfl, ?_⟩; replace BK466 := kb_ BK466 hb; replace BK467 := kb_ BK467 hb; replace HB := bs_ hb; (try clear hb); (try clear hb2); (try clear hk); (try clear hi)) | ((with_reducible refine gate_callee (f := 66) rfl ?_); refine goesL_ (some 35) rfl rfl Tryz.func66 (by kernel_rfl) rfl #[.string t471] rfl mp_ ?_; (with_reducible refine (whole_Small.calls t471 t473 t474 _ A6.out).mono ?_); rintro e w15 ⟨rfl, hb⟩; refine ⟨_, rfl, ?_⟩; replace BK466 := kb_ BK466 hb; replace BK467 := kb_ BK467 hb; replace HB := bs_ hb; (try clear hb); (try clear hb2); (try clear hk); (try clear hi)))
 (try simp only [Act.put, List.setIfInBounds_toArray, List.set_cons_zero, List.set_cons_succ])
 go_cut [14] (fun v14 wc => ∃ (kq : Nat) (x14_6 : Int), v14 = .int .i64 x14_6 ∧ Aside0 (convergent_beside.j1 kq a2 x14_6 a0_0 a0_1 = some (r1, r2)) ∧ Aside0 (kq ≤ k) ∧ Aside0 (wc.heap[gb466]? = some (.cells #[.string a0_0, .string a0_1] 24 (0, 0))) ∧ Aside0 (wc.heap[gb467]? = some (.cells #[.string (⟨#[]⟩ : ByteArray), .string (⟨#[]⟩ : ByteArray)] 24 (0, 0))) ∧ Aside0 (Below w.heap.size w wc))
 case first =>
  have H := HC7.out
  clear HC7
  have H' := Aside0.mk H
  clear H
  go_wp2
  go_loopg [14] k (fun kq v14 w' => ∃ (x14_1 : Int), v14 = .int .i64 x14_1 ∧ Aside0 (convergent_beside.l0 kq a1 a2 t468 t473 x14_1 a0_0 a0_1 = some (r1, r2)) ∧ Aside0 (kq ≤ k) ∧ Aside0 (w'.heap[gb466]? = some (.cells #[.string a0_0, .string a0_1] 24 (0, 0))) ∧ Aside0 (w'.heap[gb467]? = some (.cells #[.string (⟨#[]⟩ : ByteArray), .string (⟨#[]⟩ : ByteArray)] 24 (0, 0))) ∧ Aside0 (Below w.heap.size w w'))
  case atStart => exact ⟨(a1), (by first | rfl | (simp; done) | (simp [*]; done)), H', ⟨Nat.le_refl _⟩, ⟨bk_⟩, ⟨bk_⟩, ⟨bl_⟩⟩
  case round =>
   clear H'
   try clear c1
   try clear p2
   try clear c5
   try clear c6
   try clear c7
   try clear c10
   try clear hcz11_0
   try clear hcz11_1
   try clear hcz13_0
   try clear hcz13_1
   try clear hfz11_0
   try clear hfz11_1
   try clear hfz13_0
   try clear hfz13_1
   obtain ⟨x14_1, rfl, HA, HK1, BK466, BK467, HB⟩ := hrel
   cases gk with
   | zero => exact absurd HA.out (by simp [convergent_beside.l0])
   | succ k1 =>
    have H := HA.out
    clear HA
    simp only [convergent_beside.l0] at H
    by_cases c16 : x14_1 > (wrap64 (a1 - t468))
    ·rw [if_pos c16] at H
     have c16b0 : decide ((wrap64 (a1 - t468)) < x14_1) = true := decide_eq_true c16
     clear c16
     (first | rw [c16b0] | (simp only [i64_w, i32_w]; rw [c16b0]) | skip)
     by_cases c17 : t468 = 0
     ·rw [if_pos c17] at H
      exact absurd H (by simp)
     ·rw [if_neg c17] at H
      have c17b0 : (t468 == 0) = false := beq_eq_false_iff_ne.mpr c17
      have c17b1 : (t468 != 0) = true := bne_iff_ne.mpr c17
      by_cases c18 : (Int.tmod (wrap64 ((wrap64 (t473 * (Int.tmod x14_1 t468))) - a2)) t468) = 0
      ·rw [if_pos c18] at H
       have c18b0 : ((Int.tmod (wrap64 ((wrap64 (t473 * (Int.tmod x14_1 t468))) - a2)) t468) == 0) = true := beq_iff_eq.mpr c18
       have c18b1 : ((Int.tmod (wrap64 ((wrap64 (t473 * (Int.tmod x14_1 t468))) - a2)) t468) != 0) = false := bne_eq_false_iff_eq.mpr c18
       clear c18
       have H' := Aside0.mk H
       clear H
       go_wp2
       go_meet
       case rel => exact ⟨_, (x14_1), (by first | rfl | (simp; done) | (simp [*]; done)), H', ⟨by have := HK1.out; first | omega | exact Nat.le_refl _⟩, ⟨bk_⟩, ⟨bk_⟩, ⟨bl_⟩⟩
      ·rw [if_neg c18] at H
       have c18b0 : ((Int.tmod (wrap64 ((wrap64 (t473 * (Int.tmod x14_1 t468))) - a2)) t468) == 0) = false := beq_eq_false_iff_ne.mpr c18
       have c18b1 : ((Int.tmod (wrap64 ((wrap64 (t473 * (Int.tmod x14_1 t468))) - a2)) t468) != 0) = true := bne_iff_ne.mpr c18
       have H' := Aside0.mk H
       clear H
       go_wp2
       go_roundg k1
       case measure => have := HK1.out; omega
       case rel => exact ⟨(wrap64 (x14_1 - 1)), (by first | rfl | (simp; done) | (simp [*]; done)), H', ⟨by have := HK1.out; omega⟩, ⟨bk_⟩, ⟨bk_⟩, ⟨bl_⟩⟩
    ·rw [if_neg c16] at H
     have c16b0 : decide ((wrap64 (a1 - t468)) < x14_1) = false := decide_eq_false c16
     clear c16
     (first | rw [c16b0] | (simp only [i64_w, i32_w]; rw [c16b0]) | skip)
     have H' := Aside0.mk H
     clear H
     go_wp2
     go_meet
     case rel => exact ⟨_, (x14_1), (by first | rfl | (simp; done) | (simp [*]; done)), H', ⟨by have := HK1.out; first | omega | exact Nat.le_refl _⟩, ⟨bk_⟩, ⟨bk_⟩, ⟨bl_⟩⟩
 case rest =>
  clear HC7
  try clear c1
  try clear p2
  try clear c5
  try clear c6
  try clear p6
  try clear c7
  try clear c10
  try clear c16
  try clear c16b0
  try clear c17
  try clear c17b0
  try clear c17b1
  try clear c18
  try clear c18b0
  try clear c18b1
  try clear hcz11_0
  try clear hcz11_1
  try clear hcz13_0
  try clear hcz13_1
  try clear hfz11_0
  try clear hfz11_1
  try clear hfz13_0
  try clear hfz13_1
  try clear p2
  obtain ⟨kq, x14_6, rfl, HA, HJ6, BK466, BK467, HB⟩ := hcut
  cases kq with
  | zero => exact absurd HA.out (by simp [convergent_beside.j1])
  | succ kj6 =>
   have H := HA.out
   clear HA
   simp only [convergent_beside.j1] at H
   replace H := Option.bind_eq_some_iff.mp H
   obtain ⟨t475, A190, H⟩ := H
   replace H : ((whole_Mul.f kj6 a0_0 t475).bind fun t476 => ((whole_Of.f a2).bind fun t477 => ((whole_Sub.f kj6 t476 t477).bind fun t478 => ((whole_DivMod.f kj6 t478 a0_1).bind fun bt479 => ((whole_Of.f x14_6).bind fun t482 => ((convergent_over.f kj6 bt479.1 t482).bind fun bt483 => (some (bt483.1, bt483.2)))))))) = some (r1, r2) := H
   have A19 := Aside0.mk A190
   clear A190
   replace H := Option.bind_eq_some_iff.mp H
   obtain ⟨t476, A200, H⟩ := H
   replace H : ((whole_Of.f a2).bind fun t477 => ((whole_Sub.f kj6 t476 t477).bind fun t478 => ((whole_DivMod.f kj6 t478 a0_1).bind fun bt479 => ((whole_Of.f x14_6).bind fun t482 => ((convergent_over.f kj6 bt479.1 t482).bind fun bt483 => (some (bt483.1, bt483.2))))))) = some (r1, r2) := H
   have A20 := Aside0.mk A200
   clear A200
   replace H := Option.bind_eq_some_iff.mp H
   obtain ⟨t477, A210, H⟩ := H
   replace H : ((whole_Sub.f kj6 t476 t477).bind fun t478 => ((whole_DivMod.f kj6 t478 a0_1).bind fun bt479 => ((whole_Of.f x14_6).bind fun t482 => ((convergent_over.f kj6 bt479.1 t482).bind fun bt483 => (some (bt483.1, bt483.2)))))) = some (r1, r2) := H
   have A21 := Aside0.mk A210
   clear A210
   replace H := Option.bind_eq_some_iff.mp H
   obtain ⟨t478, A220, H⟩ := H
   replace H : ((whole_DivMod.f kj6 t478 a0_1).bind fun bt479 => ((whole_Of.f x14_6).bind fun t482 => ((convergent_over.f kj6 bt479.1 t482).bind fun bt483 => (some (bt483.1, bt483.2))))) = some (r1, r2) := H
   have A22 := Aside0.mk A220
   clear A220
   replace H := Option.bind_eq_some_iff.mp H
   obtain ⟨⟨t479, t480, t481⟩, A230, H⟩ := H
   replace H : ((whole_Of.f x14_6).bind fun t482 => ((convergent_over.f kj6 t479 t482).bind fun bt483 => (some (bt483.1, bt483.2)))) = some (r1, r2) := H
   have A23 := Aside0.mk A230
   clear A230
   replace H := Option.bind_eq_some_iff.mp H
   obtain ⟨t482, A240, H⟩ := H
   replace H : ((convergent_over.f kj6 t479 t482).bind fun bt483 => (some (bt483.1, bt483.2))) = some (r1, r2) := H
   have A24 := Aside0.mk A240
   clear A240
   replace H := Option.bind_eq_some_iff.mp H
   obtain ⟨⟨t483, t484⟩, A250, H⟩ := H
   replace H : (some (t483, t484)) = some (r1, r2) := H
   have A25 := Aside0.mk A250
   clear A250
   simp only [Option.some.injEq, Prod.mk.injEq] at H
   obtain ⟨rfl, rfl⟩ := H
   try go_wp2
   have n0_ := Aside0.mk (blk_drew BK466.out)
   have n1_ := Aside0.mk (blk_drew BK467.out)
   have n2_ := Aside0.mk (below_drew1 HB.out)
   clear BK466
   clear BK467
   clear HB
   have BK466 := n0_
   have BK467 := n1_
   have HB := n2_
   clear n0_ n1_ n2_
   refine start_ (n := 18) (S := fun w' => w'.cell? ⟨gb466, 0, none⟩ = some (.string a0_0) ∧ w'.cell? ⟨gb466, 1, none⟩ = some (.string a0_1)) (ds := []) #[false, false, false, false, false, false, false, false, false, false, false, false, false, false, false, false, false, false] (by kernel_rfl) rfl rfl ⟨(blk_cell BK466.out 0).trans rfl, (blk_cell BK466.out 1).trans rfl⟩ (fun hHeld => ?_); refine with_tabW convergent_beside.tab7 convergent_beside.bits7 (fun HT_ HW_ => ?_)
   generalize wc.drew = w26 at BK466 BK467 HB hHeld ⊢
   refine pure_ (i := 0) (N := some 59) (v := ?_) (a' := ?_) #[true, false, false, false, false, false, false, false, false, false, false, false, false, false, false, false, false, false] rfl rfl (any_of HT_.out (by kernel_rfl)) (fun _ _ _ h => h) (Or.inl ⟨by rfl, ?_⟩) ?_ ?_
   rotate_left
   ·intro w'
    go_simp
    with_reducible rfl
   rotate_left
   ·simp only [Act.put, List.setIfInBounds_toArray, List.set_cons_zero, List.set_cons_succ, i64_w, i32_w]
    rfl
   refine pure_ (i := 2) (N := some 61) (v := ?_) (a' := ?_) #[true, false, true, false, false, false, false, false, false, false, false, false, false, false, false, false, false, false] rfl rfl (any_of HT_.out (by kernel_rfl)) (fun _ _ _ h => h) (Or.inl ⟨by rfl, ?_⟩) ?_ ?_
   rotate_left
   ·intro w'
    go_simp
    with_reducible rfl
   rotate_left
   ·simp only [Act.put, List.setIfInBounds_toArray, List.set_cons_zero, List.set_cons_succ, i64_w, i32_w]
    rfl
   refine pure_ (i := 5) (N := some 64) (v := ?_) (a' := ?_) #[true, false, true, false, false, true, false, false, false, false, false, false, false, false, false, false, false, false] rfl rfl (any_of HT_.out (by kernel_rfl)) (fun _ _ _ h => h) (Or.inl ⟨by rfl, ?_⟩) ?_ ?_
   rotate_left
   ·intro w'
    go_simp
    with_reducible rfl
   rotate_left
   ·simp only [Act.put, List.setIfInBounds_toArray, List.set_cons_zero, List.set_cons_succ, i64_w, i32_w]
    rfl
   refine pure_ (i := 8) (N := some 67) (v := ?_) (a' := ?_) #[true, false, true, false, false, true, false, false, true, false, false, false, false, false, false, false, false, false] rfl rfl (any_of HT_.out (by kernel_rfl)) (fun _ _ _ h => h) (Or.inl ⟨by rfl, ?_⟩) ?_ ?_
   rotate_left
   ·intro w'
    go_simp
    with_reducible rfl
   rotate_left
   ·simp only [Act.put, List.setIfInBounds_toArray, List.set_cons_zero, List.set_cons_succ, i64_w, i32_w]
    rfl
   refine take_ (i := 1) (N := some 60) (v := ?_) (a' := ?_) #[true, true, true, false, false, true, false, false, true, false, false, false, false, false, false, false, false, false] rfl rfl (take_ofW HT_.out HW_.out (by kernel_rfl)) (fun _ _ _ h => h) (Or.inl ⟨by rfl, ?_⟩) hHeld ?_ ?_
   rotate_left
   ·rintro w' ⟨s0, s1⟩
    go_simp
    with_reducible rfl
   rotate_left
   ·simp only [Act.put, List.setIfInBounds_toArray, List.set_cons_zero, List.set_cons_succ, i64_w, i32_w]
    rfl
   refine take_ (i := 9) (N := some 68) (v := ?_) (a' := ?_) #[true, true, true, false, false, true, false, false, true, true, false, false, false, false, false, false, false, false] rfl rfl (take_ofW HT_.out HW_.out (by kernel_rfl)) (fun _ _ _ h => h) (Or.inl ⟨by rfl, ?_⟩) hHeld ?_ ?_
   rotate_left
   ·rintro w' ⟨s0, s1⟩
    go_simp
    with_reducible rfl
   rotate_left
   ·simp only [Act.put, List.setIfInBounds_toArray, List.set_cons_zero, List.set_cons_succ, i64_w, i32_w]
    rfl
   refine one_ (i := 3) (N := some 62) #[true, true, true, true, false, true, false, false, true, true, false, false, false, false, false, false, false, false] rfl rfl (one_of HT_.out (by kernel_rfl)) (by decide) (fun K hK => ?_)
   refine goes_ Tryz.func59 (by kernel_rfl) rfl #[.int .i64 x14_6] (by rfl) rfl rfl mp_ ?_
   with_reducible refine (whole_Of.calls x14_6 t475 _ ?side1 A19.out).mono ?_
   (case side1 => exact gw_ HG)
   rintro e w27 ⟨rfl, hb⟩
   refine ⟨_, rfl, ?_⟩
   have n0_ := kb_ BK466 hb
   have n1_ := kb_ BK467 hb
   have n2_ := bs_ hb
   clear BK466
   clear BK467
   clear HB
   have BK466 := n0_
   have BK467 := n1_
   have HB := n2_
   clear n0_ n1_ n2_
   (try clear hb); (try clear hb2); (try clear hk); (try clear hi)
   refine hK.out _ _ ⟨(blk_cell BK466.out 0).trans rfl, (blk_cell BK466.out 1).trans rfl⟩ (fun hHeld => ?_)
   clear hK K
   refine norm_ (a' := ?_) ?_ ?_
   rotate_left
   ·show Act.put _ (some 62) _ = _
    simp only [Act.put, List.setIfInBounds_toArray, List.set_cons_zero, List.set_cons_succ, i64_w, i32_w]
    rfl
   refine one_ (i := 4) (N := some 63) #[true, true, true, true, true, true, false, false, true, true, false, false, false, false, false, false, false, false] rfl rfl (one_of HT_.out (by kernel_rfl)) (by decide) (fun K hK => ?_)
   refine goes_ Tryz.func88 (by kernel_rfl) rfl #[.string a0_0, .string t475] (by rfl) rfl rfl mp_ ?_
   with_reducible refine (whole_Mul.calls kj6 a0_0 t475 t476 _ ?side1 A20.out).mono ?_
   (case side1 => exact gw_ HG)
   rintro e w28 ⟨rfl, hb⟩
   refine ⟨_, rfl, ?_⟩
   have n0_ := kb_ BK466 hb
   have n1_ := kb_ BK467 hb
   have n2_ := bs_ hb
   clear BK466
   clear BK467
   clear HB
   have BK466 := n0_
   have BK467 := n1_
   have HB := n2_
   clear n0_ n1_ n2_
   (try clear hb); (try clear hb2); (try clear hk); (try clear hi)
   refine hK.out _ _ ⟨(blk_cell BK466.out 0).trans rfl, (blk_cell BK466.out 1).trans rfl⟩ (fun hHeld => ?_)
   clear hK K
   refine norm_ (a' := ?_) ?_ ?_
   rotate_left
   ·show Act.put _ (some 63) _ = _
    simp only [Act.put, List.setIfInBounds_toArray, List.set_cons_zero, List.set_cons_succ, i64_w, i32_w]
    rfl
   refine one_ (i := 6) (N := some 65) #[true, true, true, true, true, true, true, false, true, true, false, false, false, false, false, false, false, false] rfl rfl (one_of HT_.out (by kernel_rfl)) (by decide) (fun K hK => ?_)
   refine goes_ Tryz.func59 (by kernel_rfl) rfl #[.int .i64 a2] (by rfl) rfl rfl mp_ ?_
   with_reducible refine (whole_Of.calls a2 t477 _ ?side1 A21.out).mono ?_
   (case side1 => exact gw_ HG)
   rintro e w29 ⟨rfl, hb⟩
   refine ⟨_, rfl, ?_⟩
   have n0_ := kb_ BK466 hb
   have n1_ := kb_ BK467 hb
   have n2_ := bs_ hb
   clear BK466
   clear BK467
   clear HB
   have BK466 := n0_
   have BK467 := n1_
   have HB := n2_
   clear n0_ n1_ n2_
   (try clear hb); (try clear hb2); (try clear hk); (try clear hi)
   refine hK.out _ _ ⟨(blk_cell BK466.out 0).trans rfl, (blk_cell BK466.out 1).trans rfl⟩ (fun hHeld => ?_)
   clear hK K
   refine norm_ (a' := ?_) ?_ ?_
   rotate_left
   ·show Act.put _ (some 65) _ = _
    simp only [Act.put, List.setIfInBounds_toArray, List.set_cons_zero, List.set_cons_succ, i64_w, i32_w]
    rfl
   refine one_ (i := 7) (N := some 66) #[true, true, true, true, true, true, true, true, true, true, false, false, false, false, false, false, false, false] rfl rfl (one_of HT_.out (by kernel_rfl)) (by decide) (fun K hK => ?_)
   refine goes_ Tryz.func65 (by kernel_rfl) rfl #[.string t476, .string t477] (by rfl) rfl rfl mp_ ?_
   with_reducible refine (whole_Sub.calls kj6 t476 t477 t478 _ ?side1 A22.out).mono ?_
   (case side1 => exact gw_ HG)
   rintro e w30 ⟨rfl, hb⟩
   refine ⟨_, rfl, ?_⟩
   have n0_ := kb_ BK466 hb
   have n1_ := kb_ BK467 hb
   have n2_ := bs_ hb
   clear BK466
   clear BK467
   clear HB
   have BK466 := n0_
   have BK467 := n1_
   have HB := n2_
   clear n0_ n1_ n2_
   (try clear hb); (try clear hb2); (try clear hk); (try clear hi)
   refine hK.out _ _ ⟨(blk_cell BK466.out 0).trans rfl, (blk_cell BK466.out 1).trans rfl⟩ (fun hHeld => ?_)
   clear hK K
   refine norm_ (a' := ?_) ?_ ?_
   rotate_left
   ·show Act.put _ (some 66) _ = _
    simp only [Act.put, List.setIfInBounds_toArray, List.set_cons_zero, List.set_cons_succ, i64_w, i32_w]
    rfl
   refine one_ (i := 10) (N := some 69) #[true, true, true, true, true, true, true, true, true, true, true, false, false, false, false, false, false, false] rfl rfl (one_of HT_.out (by kernel_rfl)) (by decide) (fun K hK => ?_)
   refine goes_ Tryz.func55 (by kernel_rfl) rfl #[.string t478, .string a0_1] (by rfl) rfl rfl mp_ ?_
   with_reducible refine (whole_DivMod.calls kj6 t478 a0_1 t479 t480 t481 _ ?side1 A23.out).mono ?_
   (case side1 => exact gw_ HG)
   rintro e w31 ⟨rfl, hb⟩
   refine ⟨_, rfl, ?_⟩
   have n0_ := kb_ BK466 hb
   have n1_ := kb_ BK467 hb
   have n2_ := bs_ hb
   clear BK466
   clear BK467
   clear HB
   have BK466 := n0_
   have BK467 := n1_
   have HB := n2_
   clear n0_ n1_ n2_
   (try clear hb); (try clear hb2); (try clear hk); (try clear hi)
   refine hK.out _ _ ⟨(blk_cell BK466.out 0).trans rfl, (blk_cell BK466.out 1).trans rfl⟩ (fun hHeld => ?_)
   clear hK K
   refine norm_ (a' := ?_) ?_ ?_
   rotate_left
   ·show Act.put _ (some 69) _ = _
    simp only [Act.put, List.setIfInBounds_toArray, List.set_cons_zero, List.set_cons_succ, i64_w, i32_w]
    rfl
   refine pure_ (i := 11) (N := some 58) (v := ?_) (a' := ?_) #[true, true, true, true, true, true, true, true, true, true, true, true, false, false, false, false, false, false] rfl rfl (any_of HT_.out (by kernel_rfl)) (fun _ _ _ h => h) (Or.inl ⟨by rfl, ?_⟩) ?_ ?_
   rotate_left
   ·intro w'
    go_simp
    with_reducible rfl
   rotate_left
   ·simp only [Act.put, List.setIfInBounds_toArray, List.set_cons_zero, List.set_cons_succ, i64_w, i32_w]
    rfl
   refine pure_ (i := 12) (N := some 70) (v := ?_) (a' := ?_) #[true, true, true, true, true, true, true, true, true, true, true, true, true, false, false, false, false, false] rfl rfl (any_of HT_.out (by kernel_rfl)) (fun _ _ _ h => h) (Or.inl ⟨by rfl, ?_⟩) ?_ ?_
   rotate_left
   ·intro w'
    go_simp
    with_reducible rfl
   rotate_left
   ·simp only [Act.put, List.setIfInBounds_toArray, List.set_cons_zero, List.set_cons_succ, i64_w, i32_w]
    rfl
   refine pure_ (i := 13) (N := some 71) (v := ?_) (a' := ?_) #[true, true, true, true, true, true, true, true, true, true, true, true, true, true, false, false, false, false] rfl rfl (any_of HT_.out (by kernel_rfl)) (fun _ _ _ h => h) (Or.inl ⟨by rfl, ?_⟩) ?_ ?_
   rotate_left
   ·intro w'
    go_simp
    with_reducible rfl
   rotate_left
   ·simp only [Act.put, List.setIfInBounds_toArray, List.set_cons_zero, List.set_cons_succ, i64_w, i32_w]
    rfl
   refine pure_ (i := 14) (N := some 72) (v := ?_) (a' := ?_) #[true, true, true, true, true, true, true, true, true, true, true, true, true, true, true, false, false, false] rfl rfl (any_of HT_.out (by kernel_rfl)) (fun _ _ _ h => h) (Or.inl ⟨by rfl, ?_⟩) ?_ ?_
   rotate_left
   ·intro w'
    go_simp
    with_reducible rfl
   rotate_left
   ·simp only [Act.put, List.setIfInBounds_toArray, List.set_cons_zero, List.set_cons_succ, i64_w, i32_w]
    rfl
   refine pure_ (i := 15) (N := some 15) (v := ?_) (a' := ?_) #[true, true, true, true, true, true, true, true, true, true, true, true, true, true, true, true, false, false] rfl rfl (any_of HT_.out (by kernel_rfl)) (fun _ _ _ h => h) (Or.inl ⟨by rfl, ?_⟩) ?_ ?_
   rotate_left
   ·intro w'
    go_simp
    with_reducible rfl
   rotate_left
   ·simp only [Act.put, List.setIfInBounds_toArray, List.set_cons_zero, List.set_cons_succ, i64_w, i32_w]
    rfl
   refine pure_ (i := 16) (N := some 16) (v := ?_) (a' := ?_) #[true, true, true, true, true, true, true, true, true, true, true, true, true, true, true, true, true, false] rfl rfl (any_of HT_.out (by kernel_rfl)) (fun _ _ _ h => h) (Or.inl ⟨by rfl, ?_⟩) ?_ ?_
   rotate_left
   ·intro w'
    go_simp
    with_reducible rfl
   rotate_left
   ·simp only [Act.put, List.setIfInBounds_toArray, List.set_cons_zero, List.set_cons_succ, i64_w, i32_w]
    rfl
   refine pure_ (i := 17) (N := some 17) (v := ?_) (a' := ?_) #[true, true, true, true, true, true, true, true, true, true, true, true, true, true, true, true, true, true] rfl rfl (any_of HT_.out (by kernel_rfl)) (fun _ _ _ h => h) (Or.inl ⟨by rfl, ?_⟩) ?_ ?_
   rotate_left
   ·intro w'
    go_simp
    with_reducible rfl
   rotate_left
   ·simp only [Act.put, List.setIfInBounds_toArray, List.set_cons_zero, List.set_cons_succ, i64_w, i32_w]
    rfl
   refine done_ (done_of HT_.out (by kernel_rfl)) ?_
   try go_wp2_with (first | ((with_reducible refine gate_callee (f := 59) rfl ?_); refine goesL_ (some 75) rfl rfl Tryz.func59 (by kernel_rfl) rfl #[.int .i64 x14_6] rfl mp_ ?_; (with_reducible refine (whole_Of.calls x14_6 t482 _ ?side1 A24.out).mono ?_); (case side1 => exact gw_ HG); rintro e w32 ⟨rfl, hb⟩; refine ⟨_, rfl, ?_⟩; replace BK466 := kb_ BK466 hb; replace BK467 := kb_ BK467 hb; replace HB := bs_ hb; (try clear hb); (try clear hb2); (try clear hk); (try clear hi)) | ((with_reducible refine gate_callee (f := 41) rfl ?_); refine goesL_ (some 76) rfl rfl Tryz.func41 (by kernel_rfl) rfl #[.string t479, .string t482] rfl mp_ ?_; (with_reducible refine (convergent_over.calls kj6 t479 t482 t483 t484 _ ?side1 A25.out).mono ?_); (case side1 => exact gw_ HG); rintro e w33 ⟨rfl, hb⟩; refine ⟨_, rfl, ?_⟩; replace BK466 := kb_ BK466 hb; replace BK467 := kb_ BK467 hb; replace HB := bs_ hb; (try clear hb); (try clear hb2); (try clear hk); (try clear hi); have hnb34 := NB467_466.out; have hnc34 := NB466_467.out; obtain ⟨hcz35_0, hcz35_1, hfz35_0, hfz35_1⟩ := c2_ BK467))
   refine bodyPost_ret (results_cell_row rfl _ _ gb467 24 #[.string t483, .string t484] (0, 0) _ rfl (by (with_reducible repeat (first | refine blk_drewN ?_ _ | refine blk_drew ?_ | refine blk_alloc ?_ _)); refine blk_put (cs := #[.string t483, .string (⟨#[]⟩ : ByteArray)]) ?_ 1 _ rfl; (with_reducible repeat (first | refine blk_drewN ?_ _ | refine blk_drew ?_ | refine blk_alloc ?_ _)); refine blk_put (cs := #[.string (⟨#[]⟩ : ByteArray), .string (⟨#[]⟩ : ByteArray)]) ?_ 0 _ rfl; (with_reducible repeat (first | refine blk_drewN ?_ _ | refine blk_drew ?_ | refine blk_alloc ?_ _)); exact BK467.out) Tryz.underlying24 rfl (by kernel_rfl)) rfl ?_
   exact ⟨er_, bl_⟩
end Go.Proofs.YtidajgkepdkcbaaGreatDoor.PF
end
section
namespace Go.Proofs.YtidajgkepdkcbaaGreatDoor.PF
open Go.RowKit Go.Proofs.YtidajgkepdkcbaaGreatDoorW.PrintWords Go.Proofs.YtidajgkepdkcbaaGreatDoorW.PrintLast Go.Proofs.YtidajgkepdkcbaaGreatDoorW.PrintMore
attribute [local go_sem] max2_int min2_int max_two min_two max_three min_three max_four min_four
def fraction_Div.T3 : Bool × List (List Nat × List Nat) := (true, [([], []), ([0], [0]), ([], []), ([2], [2]), ([1, 3], [1, 3]), ([], []), ([5], [5]), ([], []), ([7], [7]), ([6, 8, 4], [6, 8]), ([4, 9, 9], [4, 9]), ([10, 10, 0, 1, 2, 3, 4, 5, 6, 7, 8, 9, 10], [10]), ([11, 0, 1, 2, 3, 4, 5, 6, 7, 8, 9, 10, 11], [])])
def fraction_Div.B3 : List Nat := [0, 1, 0, 4, 15, 0, 32, 0, 128, 511, 1023, 2047, 4095]
theorem fraction_Div.tab3 : rtab .any (opsOf Tryz.f109 3) = fraction_Div.T3 := by kernel_rfl
theorem fraction_Div.bits3 : waitsOk fraction_Div.T3.2 fraction_Div.B3 = true := by kernel_rfl
end Go.Proofs.YtidajgkepdkcbaaGreatDoor.PF
end
section
namespace Go.Proofs.YtidajgkepdkcbaaGreatDoor.PF
open Go.RowKit Go.Proofs.YtidajgkepdkcbaaGreatDoorW.PrintWords Go.Proofs.YtidajgkepdkcbaaGreatDoorW.PrintLast Go.Proofs.YtidajgkepdkcbaaGreatDoorW.PrintMore
attribute [local go_sem] max2_int min2_int max_two min_two max_three min_three max_four min_four
def convergent_simplest.T8 : Bool × List (List Nat × List Nat) := (true, [([], []), ([], []), ([], []), ([1, 2, 0], [1, 2]), ([0, 3, 3], [0, 3]), ([4], [4]), ([5], [5]), ([5], [5]), ([], []), ([8, 6, 4, 0, 1, 2, 3, 4, 5, 6, 8], [6, 8]), ([7, 9, 0, 1, 2, 3, 4, 5, 6, 7, 8, 9], [7])])
def convergent_simplest.B8 : List Nat := [0, 0, 0, 7, 15, 31, 63, 63, 0, 383, 1023]
theorem convergent_simplest.tab8 : rtab .any (opsOf Tryz.f74 8) = convergent_simplest.T8 := by kernel_rfl
theorem convergent_simplest.bits8 : waitsOk convergent_simplest.T8.2 convergent_simplest.B8 = true := by kernel_rfl
end Go.Proofs.YtidajgkepdkcbaaGreatDoor.PF
end
section
namespace Go.Proofs.YtidajgkepdkcbaaGreatDoor.PF
open Go.RowKit Go.Proofs.YtidajgkepdkcbaaGreatDoorW.PrintWords Go.Proofs.YtidajgkepdkcbaaGreatDoorW.PrintLast Go.Proofs.YtidajgkepdkcbaaGreatDoorW.PrintMore
attribute [local go_sem] max2_int min2_int max_two min_two max_three min_three max_four min_four
def convergent_Simplest.T8 : Bool × List (List Nat × List Nat) := (true, [([], []), ([0], [0]), ([], []), ([2, 1], [2]), ([1, 3, 3], [1, 3]), ([4, 4], [4]), ([5, 5, 0, 1, 2, 3, 4, 5], [5]), ([6, 0, 1, 2, 3, 4, 5, 6], [])])
def convergent_Simplest.B8 : List Nat := [0, 1, 0, 7, 15, 31, 63, 127]
theorem convergent_Simplest.tab8 : rtab .any (opsOf Tryz.f38 8) = convergent_Simplest.T8 := by kernel_rfl
theorem convergent_Simplest.bits8 : waitsOk convergent_Simplest.T8.2 convergent_Simplest.B8 = true := by kernel_rfl
end Go.Proofs.YtidajgkepdkcbaaGreatDoor.PF
end
section
namespace Go.Proofs.YtidajgkepdkcbaaGreatDoor.PF
open Go.RowKit Go.Proofs.YtidajgkepdkcbaaGreatDoorW.PrintWords Go.Proofs.YtidajgkepdkcbaaGreatDoorW.PrintLast Go.Proofs.YtidajgkepdkcbaaGreatDoorW.PrintMore
attribute [local go_sem] max2_int min2_int max_two min_two max_three min_three max_four min_four
def convergent_pair_most.f (k : Nat) (a0_0 : ByteArray) (a0_1 : ByteArray) (a0_2 : ByteArray) (a0_3 : ByteArray) (a1 : ByteArray) (a2 : Int) : Option (ByteArray) := if a0_1.toList = ([48] : List UInt8) then (some a1) else ((whole_Of.f a2).bind fun t594 => ((whole_Sub.f k t594 a0_3).bind fun t595 => ((whole_DivMod.f k t595 a0_1).bind fun bt596 => ((whole_Compare.f bt596.1 a1).bind fun t599 => (if t599 < 0 then (some bt596.1) else (some a1))))))
def convergent_pair_most.T3 : Bool × List (List Nat × List Nat) := (true, [([], []), ([0], [0]), ([], []), ([2], [2]), ([1, 3, 1], [1, 3]), ([], []), ([5], [5]), ([4, 6, 4], [4, 6]), ([7], [7]), ([8], [8]), ([8], [8]), ([8], [8]), ([9, 7, 0, 1, 2, 3, 4, 5, 6, 7, 8, 9], [9]), ([10, 12, 0, 1, 2, 3, 4, 5, 6, 7, 8, 9, 10, 12], [10]), ([11, 13, 0, 1, 2, 3, 4, 5, 6, 7, 8, 9, 10, 11, 12, 13], [11])])
def convergent_pair_most.B3 : List Nat := [0, 1, 0, 4, 15, 0, 32, 127, 255, 511, 511, 511, 1023, 6143, 16383]
theorem convergent_pair_most.tab3 : rtab .any (opsOf Tryz.f85 3) = convergent_pair_most.T3 := by kernel_rfl
theorem convergent_pair_most.bits3 : waitsOk convergent_pair_most.T3.2 convergent_pair_most.B3 = true := by kernel_rfl
set_option maxHeartbeats 8000000 in
set_option maxRecDepth 100000 in
theorem convergent_pair_most.calls (k : Nat) (a0_0 : ByteArray) (a0_1 : ByteArray) (a0_2 : ByteArray) (a0_3 : ByteArray) (a1 : ByteArray) (a2 : Int) (r : ByteArray) (w : World) (hG_ : GWorld w) (h : convergent_pair_most.f k a0_0 a0_1 a0_2 a0_3 a1 a2 = some r) :
  Calls Tryz.prog 85 #[.agg #[.string a0_0, .string a0_1, .string a0_2, .string a0_3], .string a1, .int .i64 a2] w fun e w' => e = .returned (.string r) ∧ Below w.heap.size w w' := by
 have hu71 := Tryz.underlying71
 have HB := Aside0.mk (Below.refl w.heap.size w)
 have HG := Aside0.mk hG_
 clear hG_
 have H : (if a0_1.toList = ([48] : List UInt8) then (some a1) else ((whole_Of.f a2).bind fun t594 => ((whole_Sub.f k t594 a0_3).bind fun t595 => ((whole_DivMod.f k t595 a0_1).bind fun bt596 => ((whole_Compare.f bt596.1 a1).bind fun t599 => (if t599 < 0 then (some bt596.1) else (some a1))))))) = some r := h
 clear h
 by_cases c4 : a0_1.toList = ([48] : List UInt8)
 ·rw [if_pos c4] at H
  have c4b0 : (a0_1.toList == ([48] : List UInt8)) = true := beq_iff_eq.mpr c4
  have c4b1 : (a0_1.toList != ([48] : List UInt8)) = false := bne_eq_false_iff_eq.mpr c4
  clear c4
  obtain rfl := Option.some.inj H
  go_enter Tryz.func85, Tryz.ntmps85
  go_wp2_with (first | ((with_reducible refine gate_dst (N := 3) rfl ?_); refine bx_ 3 #[.string a0_0, .string a0_1, .string a0_2, .string a0_3] 71 ?_; clear HB; intro gb593 w5 BK593 GW593 HB; have GE593 := GW593; obtain ⟨hcz6_0, hcz6_1, hcz6_2, hcz6_3, hfz6_0, hfz6_1, hfz6_2, hfz6_3⟩ := c4_ BK593))
  go_ret
  exact ⟨er_, bl_⟩
 ·rw [if_neg c4] at H
  have c4b0 : (a0_1.toList == ([48] : List UInt8)) = false := beq_eq_false_iff_ne.mpr c4
  have c4b1 : (a0_1.toList != ([48] : List UInt8)) = true := bne_iff_ne.mpr c4
  replace H := Option.bind_eq_some_iff.mp H
  obtain ⟨t594, A70, H⟩ := H
  replace H : ((whole_Sub.f k t594 a0_3).bind fun t595 => ((whole_DivMod.f k t595 a0_1).bind fun bt596 => ((whole_Compare.f bt596.1 a1).bind fun t599 => (if t599 < 0 then (some bt596.1) else (some a1))))) = some r := H
  have A7 := Aside0.mk A70
  clear A70
  replace H := Option.bind_eq_some_iff.mp H
  obtain ⟨t595, A80, H⟩ := H
  replace H : ((whole_DivMod.f k t595 a0_1).bind fun bt596 => ((whole_Compare.f bt596.1 a1).bind fun t599 => (if t599 < 0 then (some bt596.1) else (some a1)))) = some r := H
  have A8 := Aside0.mk A80
  clear A80
  replace H := Option.bind_eq_some_iff.mp H
  obtain ⟨⟨t596, t597, t598⟩, A90, H⟩ := H
  replace H : ((whole_Compare.f t596 a1).bind fun t599 => (if t599 < 0 then (some t596) else (some a1))) = some r := H
  have A9 := Aside0.mk A90
  clear A90
  replace H := Option.bind_eq_some_iff.mp H
  obtain ⟨t599, A100, H⟩ := H
  replace H : (if t599 < 0 then (some t596) else (some a1)) = some r := H
  have A10 := Aside0.mk A100
  clear A100
  by_cases c11 : t599 < 0
  ·rw [if_pos c11] at H
   have c11b0 : decide (t599 < 0) = true := decide_eq_true c11
   clear c11
   obtain rfl := Option.some.inj H
   go_enter Tryz.func85, Tryz.ntmps85
   try go_wp2_with (first | ((with_reducible refine gate_dst (N := 3) rfl ?_); refine bx_ 3 #[.string a0_0, .string a0_1, .string a0_2, .string a0_3] 71 ?_; clear HB; intro gb593 w12 BK593 GW593 HB; have GE593 := GW593; obtain ⟨hcz13_0, hcz13_1, hcz13_2, hcz13_3, hfz13_0, hfz13_1, hfz13_2, hfz13_3⟩ := c4_ BK593))
   have n0_ := Aside0.mk (blk_drew BK593.out)
   have n1_ := Aside0.mk (below_drew1 HB.out)
   clear BK593
   clear HB
   have BK593 := n0_
   have HB := n1_
   clear n0_ n1_
   refine start_ (n := 15) (S := fun w' => w'.cell? ⟨gb593, 0, none⟩ = some (.string a0_0) ∧ w'.cell? ⟨gb593, 1, none⟩ = some (.string a0_1) ∧ w'.cell? ⟨gb593, 2, none⟩ = some (.string a0_2) ∧ w'.cell? ⟨gb593, 3, none⟩ = some (.string a0_3)) (ds := []) #[false, false, false, false, false, false, false, false, false, false, false, false, false, false, false] (by kernel_rfl) rfl rfl ⟨(blk_cell BK593.out 0).trans rfl, (blk_cell BK593.out 1).trans rfl, (blk_cell BK593.out 2).trans rfl, (blk_cell BK593.out 3).trans rfl⟩ (fun hHeld => ?_); refine with_tabW convergent_pair_most.tab3 convergent_pair_most.bits3 (fun HT_ HW_ => ?_)
   generalize w12.drew = w14 at BK593 HB hHeld ⊢
   refine pure_ (i := 0) (N := some 15) (v := ?_) (a' := ?_) #[true, false, false, false, false, false, false, false, false, false, false, false, false, false, false] rfl rfl (any_of HT_.out (by kernel_rfl)) (fun _ _ _ h => h) (Or.inl ⟨by rfl, ?_⟩) ?_ ?_
   rotate_left
   ·intro w'
    go_simp
    with_reducible rfl
   rotate_left
   ·simp only [Act.put, List.setIfInBounds_toArray, List.set_cons_zero, List.set_cons_succ, i64_w, i32_w]
    rfl
   refine pure_ (i := 2) (N := some 17) (v := ?_) (a' := ?_) #[true, false, true, false, false, false, false, false, false, false, false, false, false, false, false] rfl rfl (any_of HT_.out (by kernel_rfl)) (fun _ _ _ h => h) (Or.inl ⟨by rfl, ?_⟩) ?_ ?_
   rotate_left
   ·intro w'
    go_simp
    with_reducible rfl
   rotate_left
   ·simp only [Act.put, List.setIfInBounds_toArray, List.set_cons_zero, List.set_cons_succ, i64_w, i32_w]
    rfl
   refine pure_ (i := 5) (N := some 20) (v := ?_) (a' := ?_) #[true, false, true, false, false, true, false, false, false, false, false, false, false, false, false] rfl rfl (any_of HT_.out (by kernel_rfl)) (fun _ _ _ h => h) (Or.inl ⟨by rfl, ?_⟩) ?_ ?_
   rotate_left
   ·intro w'
    go_simp
    with_reducible rfl
   rotate_left
   ·simp only [Act.put, List.setIfInBounds_toArray, List.set_cons_zero, List.set_cons_succ, i64_w, i32_w]
    rfl
   refine take_ (i := 3) (N := some 18) (v := ?_) (a' := ?_) #[true, false, true, true, false, true, false, false, false, false, false, false, false, false, false] rfl rfl (take_ofW HT_.out HW_.out (by kernel_rfl)) (fun _ _ _ h => h) (Or.inl ⟨by rfl, ?_⟩) hHeld ?_ ?_
   rotate_left
   ·rintro w' ⟨s0, s1, s2, s3⟩
    go_simp
    with_reducible rfl
   rotate_left
   ·simp only [Act.put, List.setIfInBounds_toArray, List.set_cons_zero, List.set_cons_succ, i64_w, i32_w]
    rfl
   refine take_ (i := 6) (N := some 21) (v := ?_) (a' := ?_) #[true, false, true, true, false, true, true, false, false, false, false, false, false, false, false] rfl rfl (take_ofW HT_.out HW_.out (by kernel_rfl)) (fun _ _ _ h => h) (Or.inl ⟨by rfl, ?_⟩) hHeld ?_ ?_
   rotate_left
   ·rintro w' ⟨s0, s1, s2, s3⟩
    go_simp
    with_reducible rfl
   rotate_left
   ·simp only [Act.put, List.setIfInBounds_toArray, List.set_cons_zero, List.set_cons_succ, i64_w, i32_w]
    rfl
   refine one_ (i := 1) (N := some 16) #[true, true, true, true, false, true, true, false, false, false, false, false, false, false, false] rfl rfl (one_of HT_.out (by kernel_rfl)) (by decide) (fun K hK => ?_)
   refine goes_ Tryz.func59 (by kernel_rfl) rfl #[.int .i64 a2] (by rfl) rfl rfl mp_ ?_
   with_reducible refine (whole_Of.calls a2 t594 _ ?side1 A7.out).mono ?_
   (case side1 => exact gw_ HG)
   rintro e w15 ⟨rfl, hb⟩
   refine ⟨_, rfl, ?_⟩
   have n0_ := kb_ BK593 hb
   have n1_ := bs_ hb
   clear BK593
   clear HB
   have BK593 := n0_
   have HB := n1_
   clear n0_ n1_
   (try clear hb); (try clear hb2); (try clear hk); (try clear hi)
   refine hK.out _ _ ⟨(blk_cell BK593.out 0).trans rfl, (blk_cell BK593.out 1).trans rfl, (blk_cell BK593.out 2).trans rfl, (blk_cell BK593.out 3).trans rfl⟩ (fun hHeld => ?_)
   clear hK K
   refine norm_ (a' := ?_) ?_ ?_
   rotate_left
   ·show Act.put _ (some 16) _ = _
    simp only [Act.put, List.setIfInBounds_toArray, List.set_cons_zero, List.set_cons_succ, i64_w, i32_w]
    rfl
   refine one_ (i := 4) (N := some 19) #[true, true, true, true, true, true, true, false, false, false, false, false, false, false, false] rfl rfl (one_of HT_.out (by kernel_rfl)) (by decide) (fun K hK => ?_)
   refine goes_ Tryz.func65 (by kernel_rfl) rfl #[.string t594, .string a0_3] (by rfl) rfl rfl mp_ ?_
   with_reducible refine (whole_Sub.calls k t594 a0_3 t595 _ ?side1 A8.out).mono ?_
   (case side1 => exact gw_ HG)
   rintro e w16 ⟨rfl, hb⟩
   refine ⟨_, rfl, ?_⟩
   have n0_ := kb_ BK593 hb
   have n1_ := bs_ hb
   clear BK593
   clear HB
   have BK593 := n0_
   have HB := n1_
   clear n0_ n1_
   (try clear hb); (try clear hb2); (try clear hk); (try clear hi)
   refine hK.out _ _ ⟨(blk_cell BK593.out 0).trans rfl, (blk_cell BK593.out 1).trans rfl, (blk_cell BK593.out 2).trans rfl, (blk_cell BK593.out 3).trans rfl⟩ (fun hHeld => ?_)
   clear hK K
   refine norm_ (a' := ?_) ?_ ?_
   rotate_left
   ·show Act.put _ (some 19) _ = _
    simp only [Act.put, List.setIfInBounds_toArray, List.set_cons_zero, List.set_cons_succ, i64_w, i32_w]
    rfl
   refine one_ (i := 7) (N := some 22) #[true, true, true, true, true, true, true, true, false, false, false, false, false, false, false] rfl rfl (one_of HT_.out (by kernel_rfl)) (by decide) (fun K hK => ?_)
   refine goes_ Tryz.func55 (by kernel_rfl) rfl #[.string t595, .string a0_1] (by rfl) rfl rfl mp_ ?_
   with_reducible refine (whole_DivMod.calls k t595 a0_1 t596 t597 t598 _ ?side1 A9.out).mono ?_
   (case side1 => exact gw_ HG)
   rintro e w17 ⟨rfl, hb⟩
   refine ⟨_, rfl, ?_⟩
   have n0_ := kb_ BK593 hb
   have n1_ := bs_ hb
   clear BK593
   clear HB
   have BK593 := n0_
   have HB := n1_
   clear n0_ n1_
   (try clear hb); (try clear hb2); (try clear hk); (try clear hi)
   refine hK.out _ _ ⟨(blk_cell BK593.out 0).trans rfl, (blk_cell BK593.out 1).trans rfl, (blk_cell BK593.out 2).trans rfl, (blk_cell BK593.out 3).trans rfl⟩ (fun hHeld => ?_)
   clear hK K
   refine norm_ (a' := ?_) ?_ ?_
   rotate_left
   ·show Act.put _ (some 22) _ = _
    simp only [Act.put, List.setIfInBounds_toArray, List.set_cons_zero, List.set_cons_succ, i64_w, i32_w]
    rfl
   refine pure_ (i := 8) (N := some 14) (v := ?_) (a' := ?_) #[true, true, true, true, true, true, true, true, true, false, false, false, false, false, false] rfl rfl (any_of HT_.out (by kernel_rfl)) (fun _ _ _ h => h) (Or.inl ⟨by rfl, ?_⟩) ?_ ?_
   rotate_left
   ·intro w'
    go_simp
    with_reducible rfl
   rotate_left
   ·simp only [Act.put, List.setIfInBounds_toArray, List.set_cons_zero, List.set_cons_succ, i64_w, i32_w]
    rfl
   refine pure_ (i := 9) (N := some 23) (v := ?_) (a' := ?_) #[true, true, true, true, true, true, true, true, true, true, false, false, false, false, false] rfl rfl (any_of HT_.out (by kernel_rfl)) (fun _ _ _ h => h) (Or.inl ⟨by rfl, ?_⟩) ?_ ?_
   rotate_left
   ·intro w'
    go_simp
    with_reducible rfl
   rotate_left
   ·simp only [Act.put, List.setIfInBounds_toArray, List.set_cons_zero, List.set_cons_succ, i64_w, i32_w]
    rfl
   refine pure_ (i := 10) (N := some 24) (v := ?_) (a' := ?_) #[true, true, true, true, true, true, true, true, true, true, true, false, false, false, false] rfl rfl (any_of HT_.out (by kernel_rfl)) (fun _ _ _ h => h) (Or.inl ⟨by rfl, ?_⟩) ?_ ?_
   rotate_left
   ·intro w'
    go_simp
    with_reducible rfl
   rotate_left
   ·simp only [Act.put, List.setIfInBounds_toArray, List.set_cons_zero, List.set_cons_succ, i64_w, i32_w]
    rfl
   refine pure_ (i := 11) (N := some 25) (v := ?_) (a' := ?_) #[true, true, true, true, true, true, true, true, true, true, true, true, false, false, false] rfl rfl (any_of HT_.out (by kernel_rfl)) (fun _ _ _ h => h) (Or.inl ⟨by rfl, ?_⟩) ?_ ?_
   rotate_left
   ·intro w'
    go_simp
    with_reducible rfl
   rotate_left
   ·simp only [Act.put, List.setIfInBounds_toArray, List.set_cons_zero, List.set_cons_succ, i64_w, i32_w]
    rfl
   refine pure_ (i := 12) (N := some 7) (v := ?_) (a' := ?_) #[true, true, true, true, true, true, true, true, true, true, true, true, true, false, false] rfl rfl (any_of HT_.out (by kernel_rfl)) (fun _ _ _ h => h) (Or.inl ⟨by rfl, ?_⟩) ?_ ?_
   rotate_left
   ·intro w'
    go_simp
    with_reducible rfl
   rotate_left
   ·simp only [Act.put, List.setIfInBounds_toArray, List.set_cons_zero, List.set_cons_succ, i64_w, i32_w]
    rfl
   refine pure_ (i := 13) (N := some 8) (v := ?_) (a' := ?_) #[true, true, true, true, true, true, true, true, true, true, true, true, true, true, false] rfl rfl (any_of HT_.out (by kernel_rfl)) (fun _ _ _ h => h) (Or.inl ⟨by rfl, ?_⟩) ?_ ?_
   rotate_left
   ·intro w'
    go_simp
    with_reducible rfl
   rotate_left
   ·simp only [Act.put, List.setIfInBounds_toArray, List.set_cons_zero, List.set_cons_succ, i64_w, i32_w]
    rfl
   refine pure_ (i := 14) (N := some 9) (v := ?_) (a' := ?_) #[true, true, true, true, true, true, true, true, true, true, true, true, true, true, true] rfl rfl (any_of HT_.out (by kernel_rfl)) (fun _ _ _ h => h) (Or.inl ⟨by rfl, ?_⟩) ?_ ?_
   rotate_left
   ·intro w'
    go_simp
    with_reducible rfl
   rotate_left
   ·simp only [Act.put, List.setIfInBounds_toArray, List.set_cons_zero, List.set_cons_succ, i64_w, i32_w]
    rfl
   refine done_ (done_of HT_.out (by kernel_rfl)) ?_
   try go_wp2_with (first | ((with_reducible refine gate_callee (f := 58) rfl ?_); refine goesL_ (some 28) rfl rfl Tryz.func58 (by kernel_rfl) rfl #[.string t596, .string a1] rfl mp_ ?_; (with_reducible refine (whole_Compare.calls t596 a1 t599 _ A10.out).mono ?_); rintro e w18 ⟨rfl, hb⟩; refine ⟨_, rfl, ?_⟩; replace BK593 := kb_ BK593 hb; replace HB := bs_ hb; (try clear hb); (try clear hb2); (try clear hk); (try clear hi)))
   go_ret
   exact ⟨er_, bl_⟩
  ·rw [if_neg c11] at H
   have c11b0 : decide (t599 < 0) = false := decide_eq_false c11
   clear c11
   obtain rfl := Option.some.inj H
   go_enter Tryz.func85, Tryz.ntmps85
   try go_wp2_with (first | ((with_reducible refine gate_dst (N := 3) rfl ?_); refine bx_ 3 #[.string a0_0, .string a0_1, .string a0_2, .string a0_3] 71 ?_; clear HB; intro gb593 w19 BK593 GW593 HB; have GE593 := GW593; obtain ⟨hcz20_0, hcz20_1, hcz20_2, hcz20_3, hfz20_0, hfz20_1, hfz20_2, hfz20_3⟩ := c4_ BK593))
   have n0_ := Aside0.mk (blk_drew BK593.out)
   have n1_ := Aside0.mk (below_drew1 HB.out)
   clear BK593
   clear HB
   have BK593 := n0_
   have HB := n1_
   clear n0_ n1_
   refine start_ (n := 15) (S := fun w' => w'.cell? ⟨gb593, 0, none⟩ = some (.string a0_0) ∧ w'.cell? ⟨gb593, 1, none⟩ = some (.string a0_1) ∧ w'.cell? ⟨gb593, 2, none⟩ = some (.string a0_2) ∧ w'.cell? ⟨gb593, 3, none⟩ = some (.string a0_3)) (ds := []) #[false, false, false, false, false, false, false, false, false, false, false, false, false, false, false] (by kernel_rfl) rfl rfl ⟨(blk_cell BK593.out 0).trans rfl, (blk_cell BK593.out 1).trans rfl, (blk_cell BK593.out 2).trans rfl, (blk_cell BK593.out 3).trans rfl⟩ (fun hHeld => ?_); refine with_tabW convergent_pair_most.tab3 convergent_pair_most.bits3 (fun HT_ HW_ => ?_)
   generalize w19.drew = w21 at BK593 HB hHeld ⊢
   refine pure_ (i := 0) (N := some 15) (v := ?_) (a' := ?_) #[true, false, false, false, false, false, false, false, false, false, false, false, false, false, false] rfl rfl (any_of HT_.out (by kernel_rfl)) (fun _ _ _ h => h) (Or.inl ⟨by rfl, ?_⟩) ?_ ?_
   rotate_left
   ·intro w'
    go_simp
    with_reducible rfl
   rotate_left
   ·simp only [Act.put, List.setIfInBounds_toArray, List.set_cons_zero, List.set_cons_succ, i64_w, i32_w]
    rfl
   refine pure_ (i := 2) (N := some 17) (v := ?_) (a' := ?_) #[true, false, true, false, false, false, false, false, false, false, false, false, false, false, false] rfl rfl (any_of HT_.out (by kernel_rfl)) (fun _ _ _ h => h) (Or.inl ⟨by rfl, ?_⟩) ?_ ?_
   rotate_left
   ·intro w'
    go_simp
    with_reducible rfl
   rotate_left
   ·simp only [Act.put, List.setIfInBounds_toArray, List.set_cons_zero, List.set_cons_succ, i64_w, i32_w]
    rfl
   refine pure_ (i := 5) (N := some 20) (v := ?_) (a' := ?_) #[true, false, true, false, false, true, false, false, false, false, false, false, false, false, false] rfl rfl (any_of HT_.out (by kernel_rfl)) (fun _ _ _ h => h) (Or.inl ⟨by rfl, ?_⟩) ?_ ?_
   rotate_left
   ·intro w'
    go_simp
    with_reducible rfl
   rotate_left
   ·simp only [Act.put, List.setIfInBounds_toArray, List.set_cons_zero, List.set_cons_succ, i64_w, i32_w]
    rfl
   refine take_ (i := 3) (N := some 18) (v := ?_) (a' := ?_) #[true, false, true, true, false, true, false, false, false, false, false, false, false, false, false] rfl rfl (take_ofW HT_.out HW_.out (by kernel_rfl)) (fun _ _ _ h => h) (Or.inl ⟨by rfl, ?_⟩) hHeld ?_ ?_
   rotate_left
   ·rintro w' ⟨s0, s1, s2, s3⟩
    go_simp
    with_reducible rfl
   rotate_left
   ·simp only [Act.put, List.setIfInBounds_toArray, List.set_cons_zero, List.set_cons_succ, i64_w, i32_w]
    rfl
   refine take_ (i := 6) (N := some 21) (v := ?_) (a' := ?_) #[true, false, true, true, false, true, true, false, false, false, false, false, false, false, false] rfl rfl (take_ofW HT_.out HW_.out (by kernel_rfl)) (fun _ _ _ h => h) (Or.inl ⟨by rfl, ?_⟩) hHeld ?_ ?_
   rotate_left
   ·rintro w' ⟨s0, s1, s2, s3⟩
    go_simp
    with_reducible rfl
   rotate_left
   ·simp only [Act.put, List.setIfInBounds_toArray, List.set_cons_zero, List.set_cons_succ, i64_w, i32_w]
    rfl
   refine one_ (i := 1) (N := some 16) #[true, true, true, true, false, true, true, false, false, false, false, false, false, false, false] rfl rfl (one_of HT_.out (by kernel_rfl)) (by decide) (fun K hK => ?_)
   refine goes_ Tryz.func59 (by kernel_rfl) rfl #[.int .i64 a2] (by rfl) rfl rfl mp_ ?_
   with_reducible refine (whole_Of.calls a2 t594 _ ?side1 A7.out).mono ?_
   (case side1 => exact gw_ HG)
   rintro e w22 ⟨rfl, hb⟩
   refine ⟨_, rfl, ?_⟩
   have n0_ := kb_ BK593 hb
   have n1_ := bs_ hb
   clear BK593
   clear HB
   have BK593 := n0_
   have HB := n1_
   clear n0_ n1_
   (try clear hb); (try clear hb2); (try clear hk); (try clear hi)
   refine hK.out _ _ ⟨(blk_cell BK593.out 0).trans rfl, (blk_cell BK593.out 1).trans rfl, (blk_cell BK593.out 2).trans rfl, (blk_cell BK593.out 3).trans rfl⟩ (fun hHeld => ?_)
   clear hK K
   refine norm_ (a' := ?_) ?_ ?_
   rotate_left
   ·show Act.put _ (some 16) _ = _
    simp only [Act.put, List.setIfInBounds_toArray, List.set_cons_zero, List.set_cons_succ, i64_w, i32_w]
    rfl
   refine one_ (i := 4) (N := some 19) #[true, true, true, true, true, true, true, false, false, false, false, false, false, false, false] rfl rfl (one_of HT_.out (by kernel_rfl)) (by decide) (fun K hK => ?_)
   refine goes_ Tryz.func65 (by kernel_rfl) rfl #[.string t594, .string a0_3] (by rfl) rfl rfl mp_ ?_
   with_reducible refine (whole_Sub.calls k t594 a0_3 t595 _ ?side1 A8.out).mono ?_
   (case side1 => exact gw_ HG)
   rintro e w23 ⟨rfl, hb⟩
   refine ⟨_, rfl, ?_⟩
   have n0_ := kb_ BK593 hb
   have n1_ := bs_ hb
   clear BK593
   clear HB
   have BK593 := n0_
   have HB := n1_
   clear n0_ n1_
   (try clear hb); (try clear hb2); (try clear hk); (try clear hi)
   refine hK.out _ _ ⟨(blk_cell BK593.out 0).trans rfl, (blk_cell BK593.out 1).trans rfl, (blk_cell BK593.out 2).trans rfl, (blk_cell BK593.out 3).trans rfl⟩ (fun hHeld => ?_)
   clear hK K
   refine norm_ (a' := ?_) ?_ ?_
   rotate_left
   ·show Act.put _ (some 19) _ = _
    simp only [Act.put, List.setIfInBounds_toArray, List.set_cons_zero, List.set_cons_succ, i64_w, i32_w]
    rfl
   refine one_ (i := 7) (N := some 22) #[true, true, true, true, true, true, true, true, false, false, false, false, false, false, false] rfl rfl (one_of HT_.out (by kernel_rfl)) (by decide) (fun K hK => ?_)
   refine goes_ Tryz.func55 (by kernel_rfl) rfl #[.string t595, .string a0_1] (by rfl) rfl rfl mp_ ?_
   with_reducible refine (whole_DivMod.calls k t595 a0_1 t596 t597 t598 _ ?side1 A9.out).mono ?_
   (case side1 => exact gw_ HG)
   rintro e w24 ⟨rfl, hb⟩
   refine ⟨_, rfl, ?_⟩
   have n0_ := kb_ BK593 hb
   have n1_ := bs_ hb
   clear BK593
   clear HB
   have BK593 := n0_
   have HB := n1_
   clear n0_ n1_
   (try clear hb); (try clear hb2); (try clear hk); (try clear hi)
   refine hK.out _ _ ⟨(blk_cell BK593.out 0).trans rfl, (blk_cell BK593.out 1).trans rfl, (blk_cell BK593.out 2).trans rfl, (blk_cell BK593.out 3).trans rfl⟩ (fun hHeld => ?_)
   clear hK K
   refine norm_ (a' := ?_) ?_ ?_
   rotate_left
   ·show Act.put _ (some 22) _ = _
    simp only [Act.put, List.setIfInBounds_toArray, List.set_cons_zero, List.set_cons_succ, i64_w, i32_w]
    rfl
   refine pure_ (i := 8) (N := some 14) (v := ?_) (a' := ?_) #[true, true, true, true, true, true, true, true, true, false, false, false, false, false, false] rfl rfl (any_of HT_.out (by kernel_rfl)) (fun _ _ _ h => h) (Or.inl ⟨by rfl, ?_⟩) ?_ ?_
   rotate_left
   ·intro w'
    go_simp
    with_reducible rfl
   rotate_left
   ·simp only [Act.put, List.setIfInBounds_toArray, List.set_cons_zero, List.set_cons_succ, i64_w, i32_w]
    rfl
   refine pure_ (i := 9) (N := some 23) (v := ?_) (a' := ?_) #[true, true, true, true, true, true, true, true, true, true, false, false, false, false, false] rfl rfl (any_of HT_.out (by kernel_rfl)) (fun _ _ _ h => h) (Or.inl ⟨by rfl, ?_⟩) ?_ ?_
   rotate_left
   ·intro w'
    go_simp
    with_reducible rfl
   rotate_left
   ·simp only [Act.put, List.setIfInBounds_toArray, List.set_cons_zero, List.set_cons_succ, i64_w, i32_w]
    rfl
   refine pure_ (i := 10) (N := some 24) (v := ?_) (a' := ?_) #[true, true, true, true, true, true, true, true, true, true, true, false, false, false, false] rfl rfl (any_of HT_.out (by kernel_rfl)) (fun _ _ _ h => h) (Or.inl ⟨by rfl, ?_⟩) ?_ ?_
   rotate_left
   ·intro w'
    go_simp
    with_reducible rfl
   rotate_left
   ·simp only [Act.put, List.setIfInBounds_toArray, List.set_cons_zero, List.set_cons_succ, i64_w, i32_w]
    rfl
   refine pure_ (i := 11) (N := some 25) (v := ?_) (a' := ?_) #[true, true, true, true, true, true, true, true, true, true, true, true, false, false, false] rfl rfl (any_of HT_.out (by kernel_rfl)) (fun _ _ _ h => h) (Or.inl ⟨by rfl, ?_⟩) ?_ ?_
   rotate_left
   ·intro w'
    go_simp
    with_reducible rfl
   rotate_left
   ·simp only [Act.put, List.setIfInBounds_toArray, List.set_cons_zero, List.set_cons_succ, i64_w, i32_w]
    rfl
   refine pure_ (i := 12) (N := some 7) (v := ?_) (a' := ?_) #[true, true, true, true, true, true, true, true, true, true, true, true, true, false, false] rfl rfl (any_of HT_.out (by kernel_rfl)) (fun _ _ _ h => h) (Or.inl ⟨by rfl, ?_⟩) ?_ ?_
   rotate_left
   ·intro w'
    go_simp
    with_reducible rfl
   rotate_left
   ·simp only [Act.put, List.setIfInBounds_toArray, List.set_cons_zero, List.set_cons_succ, i64_w, i32_w]
    rfl
   refine pure_ (i := 13) (N := some 8) (v := ?_) (a' := ?_) #[true, true, true, true, true, true, true, true, true, true, true, true, true, true, false] rfl rfl (any_of HT_.out (by kernel_rfl)) (fun _ _ _ h => h) (Or.inl ⟨by rfl, ?_⟩) ?_ ?_
   rotate_left
   ·intro w'
    go_simp
    with_reducible rfl
   rotate_left
   ·simp only [Act.put, List.setIfInBounds_toArray, List.set_cons_zero, List.set_cons_succ, i64_w, i32_w]
    rfl
   refine pure_ (i := 14) (N := some 9) (v := ?_) (a' := ?_) #[true, true, true, true, true, true, true, true, true, true, true, true, true, true, true] rfl rfl (any_of HT_.out (by kernel_rfl)) (fun _ _ _ h => h) (Or.inl ⟨by rfl, ?_⟩) ?_ ?_
   rotate_left
   ·intro w'
    go_simp
    with_reducible rfl
   rotate_left
   ·simp only [Act.put, List.setIfInBounds_toArray, List.set_cons_zero, List.set_cons_succ, i64_w, i32_w]
    rfl
   refine done_ (done_of HT_.out (by kernel_rfl)) ?_
   try go_wp2_with (first | ((with_reducible refine gate_callee (f := 58) rfl ?_); refine goesL_ (some 28) rfl rfl Tryz.func58 (by kernel_rfl) rfl #[.string t596, .string a1] rfl mp_ ?_; (with_reducible refine (whole_Compare.calls t596 a1 t599 _ A10.out).mono ?_); rintro e w25 ⟨rfl, hb⟩; refine ⟨_, rfl, ?_⟩; replace BK593 := kb_ BK593 hb; replace HB := bs_ hb; (try clear hb); (try clear hb2); (try clear hk); (try clear hi)))
   go_ret
   exact ⟨er_, bl_⟩
end Go.Proofs.YtidajgkepdkcbaaGreatDoor.PF
end
section
namespace Go.Proofs.YtidajgkepdkcbaaGreatDoor
open Go.RowKit Go.Lib Go.Proofs.YtidajgkepdkcbaaGreatDoorW.PrintWords Go.Proofs.YtidajgkepdkcbaaGreatDoorW.PrintLast Go.Proofs.YtidajgkepdkcbaaGreatDoorW.PrintMore PF
theorem bt0_of {s : ByteArray} {c : UInt8} {r : List UInt8} (h : s.data.toList = c :: r) : bt s 0 = c.toNat := by
 rw [← rd_bytesOf]
 unfold rd bytesOf
 rw [h]
 rfl
theorem bt0_T (i : Int) : bt (T i) 0 = 45 ↔ i < 0 := by
 rcases int_form i with ⟨n, rfl⟩ | ⟨n, hn, rfl⟩
 ·obtain ⟨c, r, e, h1, h2⟩ := dig_head n
  rw [bt0_of (c := c) (r := r) (by rw [T_dataList, itoa_nat, e])]
  omega
 ·rw [bt0_of (c := 45) (r := decDigits n) (by rw [T_dataList, itoa_negS n hn])]
  constructor
  ·intro _; omega
  ·intro _; rfl
def sg (i : Int) : Int := if i = 0 then 0 else if i < 0 then -1 else 1
theorem whole_Sign_T (i : Int) : whole_Sign.f (T i) = some (sg i) := by
 unfold whole_Sign.f sg
 rw [T_toList]
 by_cases h : i = 0
 ·rw [if_pos ((itoa_zero_iff i).2 h), if_pos h]
 ·rw [if_neg (fun hh => h ((itoa_zero_iff i).1 hh)), if_neg h, if_pos (by have := T_size_pos i; omega)]
  by_cases h2 : i < 0
  ·rw [if_pos ((bt0_T i).2 h2), if_pos h2]
  ·rw [if_neg (fun hh => h2 ((bt0_T i).1 hh)), if_neg h2]
theorem extract_T {n : Nat} (h : 1 ≤ n) : (T (-(n : Int))).extract 1 (T (-(n : Int))).size = U n := by
 apply ba_ext
 rw [ByteArray.toList_eq, Lib.extract_to_end, T_dataList, itoa_negS n h, U_toList]
 rfl
theorem whole_split_T (i : Int) : whole_split.f (T i) = some (decide (i < 0), U i.natAbs) := by
 unfold whole_split.f
 have hp := T_size_pos i
 rw [if_pos (by omega), if_pos (by omega)]
 rcases int_form i with ⟨n, rfl⟩ | ⟨n, hn, rfl⟩
 ·rw [if_neg (fun hh => by have := (bt0_T _).1 hh; omega), T_nat]
  simp
 ·rw [if_pos ((bt0_T _).2 (by omega)), if_pos (by omega), extract_T hn]
  simp; omega
theorem whole_join_U (b : Bool) (n : Nat) (h : (U n).size ≤ 9223372036854775806) : whole_join.f b (U n) = some (T (if b then -(n : Int) else n)) := by
 unfold whole_join.f
 rw [U_toList]
 cases b with
 | false => simp [T_nat]
 | true =>
  rw [if_pos rfl]
  by_cases h0 : n = 0
  ·subst h0
   rw [if_pos ((digs_zero_iff 0).2 rfl)]
   simp [← T_nat]
  ·rw [if_neg (fun hh => h0 ((digs_zero_iff n).1 hh)), if_pos (by omega)]
   simp only [if_true]
   congr 1
   apply ba_ext
   rw [T_toList, itoa_negS n (by omega), ByteArray.toList_eq]
   simp [U]
theorem U_size_T (i : Int) : (U i.natAbs).size ≤ (T i).size := by
 rw [U_size, T_size]
 rcases int_form i with ⟨n, rfl⟩ | ⟨n, hn, rfl⟩
 ·rw [itoa_nat]; simp
 ·rw [itoa_negS n hn]; simp
theorem whole_Neg_T (i : Int) (h : (T i).size ≤ 9223372036854775806) : whole_Neg.f (T i) = some (T (-i)) := by
 unfold whole_Neg.f
 rw [whole_split_T]
 simp only [Option.bind_some]
 rw [whole_join_U _ _ (by have := U_size_T i; omega)]
 simp only [Option.bind_some]
 congr 2
 by_cases h : i < 0
 ·simp [h]; omega
 ·simp [h]; omega
theorem whole_Abs_T (i : Int) : whole_Abs.f (T i) = some (U i.natAbs) := by
 unfold whole_Abs.f
 rw [whole_split_T]
 rfl
theorem Itoa_T {i : Int} (h0 : -9223372036854775808 ≤ i) (h1 : i ≤ 9223372036854775807) : strconv_Itoa.f i = some (T i) := by
 unfold strconv_Itoa.f; rw [if_pos ⟨h0, h1⟩]; rfl
theorem whole_Of_T {i : Int} (h0 : -9223372036854775808 ≤ i) (h1 : i ≤ 9223372036854775807) : whole_Of.f i = some (T i) := by
 unfold whole_Of.f; rw [Itoa_T h0 h1]; rfl
theorem Atoi_T {i : Int} (h0 : -9223372036854775808 ≤ i) (h1 : i ≤ 9223372036854775807) : strconv_Atoi.f (T i) = some (i, none) := by
 unfold strconv_Atoi.f
 have hs : (T i).size ≤ 19 + 1 := T_size_le (by omega) (by omega)
 rw [if_pos (by omega), T_dataList, atoiAll_itoa h0 h1]
theorem whole_little_yes {i m : Int} (h : ((T i).size : Int) ≤ m) (hm : m ≤ 18) : whole_little.f (T i) m = some (i, true) := by
 unfold whole_little.f
 have hs := lt_of_T_size (i := i) (k := 17) (by omega)
 rw [if_neg (by omega), Atoi_T (by omega) (by omega)]
 rfl
theorem whole_little_no {i m : Int} (h : m < ((T i).size : Int)) : whole_little.f (T i) m = some (0, false) := by
 unfold whole_little.f
 rw [if_pos (by omega)]
theorem U_eq_T (n : Nat) : U n = T (n : Int) := (T_nat n).symm
theorem w64 {x : Int} (h0 : -9223372036854775808 ≤ x) (h1 : x ≤ 9223372036854775807) : wrap64 x = x := by unfold wrap64; omega
theorem whole_Add_short {a b : Int} (ha : (T a).size ≤ 18) (hb : (T b).size ≤ 18) (k : Nat) : whole_Add.f k (T a) (T b) = some (T (a + b)) := by
 have h1 := lt_of_T_size (i := a) (k := 17) (by omega)
 have h2 := lt_of_T_size (i := b) (k := 17) (by omega)
 unfold whole_Add.f
 rw [whole_little_yes (by omega) (by omega)]
 simp only [Option.bind_some, if_true]
 rw [whole_little_yes (by omega) (by omega)]
 simp only [Option.bind_some, if_true]
 rw [w64 (by omega) (by omega), whole_Of_T (by omega) (by omega)]
 rfl
end Go.Proofs.YtidajgkepdkcbaaGreatDoor
end
section
namespace Go.Proofs.YtidajgkepdkcbaaGreatDoor
open Go.RowKit Go.Lib Go.Proofs.YtidajgkepdkcbaaGreatDoorW.PrintWords Go.Proofs.YtidajgkepdkcbaaGreatDoorW.PrintLast Go.Proofs.YtidajgkepdkcbaaGreatDoorW.PrintMore PF
theorem ev_here {α : Type} {g : Nat → Option α} {r : α} (n : Nat) (h : ∀ k, g (k + n) = some r) : Ev g r := ⟨n, fun k hk => by have := h (k - n); rwa [Nat.sub_add_cancel hk] at this⟩
theorem ev_const {α : Type} {g : Nat → Option α} {r : α} (h : ∀ k, g k = some r) : Ev g r := ⟨0, fun k _ => h k⟩
def S17 (i : Int) : Prop := -100000000000000000 < i ∧ i < 100000000000000000
theorem S17.size {i : Int} (h : S17 i) : (T i).size ≤ 18 := T_size_le (k := 17) (by have := h.2; omega) (by have := h.1; omega)
theorem S17.neg {i : Int} (h : S17 i) : S17 (-i) := by unfold S17 at *; omega
theorem S17.abs {i : Int} (h : S17 i) : S17 (i.natAbs : Int) := by unfold S17 at *; omega
theorem Add_T {a b : Int} (ha : S17 a) (hb : S17 b) (k : Nat) : whole_Add.f k (T a) (T b) = some (T (a + b)) := whole_Add_short ha.size hb.size k
theorem Neg_T {a : Int} (ha : S17 a) : whole_Neg.f (T a) = some (T (-a)) := whole_Neg_T a (by have := ha.size; omega)
theorem Sub_T {a b : Int} (ha : S17 a) (hb : S17 b) (k : Nat) : whole_Sub.f k (T a) (T b) = some (T (a - b)) := by
 unfold whole_Sub.f
 rw [Neg_T hb]
 simp only [Option.bind_some]
 rw [Add_T ha hb.neg, Int.sub_eq_add_neg]
 rfl
theorem U_size_le {n k : Nat} (h : n < 10 ^ (k + 1)) : (U n).size ≤ k + 1 := by rw [U_size]; exact (len_le_iff n k).2 h
theorem pow_le_of_size {n : Nat} (h : 1 ≤ n) : 10 ^ ((U n).size - 1) ≤ n := by
 rw [U_size]
 have hp := len_pos n
 rcases Nat.lt_or_ge n (10 ^ ((decDigits n).length - 1)) with h1 | h1
 ·exfalso
  rcases Nat.lt_or_ge (decDigits n).length 2 with h2 | h2
  ·have : (decDigits n).length - 1 = 0 := by omega
   rw [this] at h1; simp at h1; omega
  ·have e : (decDigits n).length - 1 = ((decDigits n).length - 2) + 1 := by omega
   rw [e] at h1
   have := (len_le_iff n ((decDigits n).length - 2)).2 h1
   omega
 ·exact h1
theorem mul_sizes {m n : Nat} (hm : m < 100000000000000000) (hn : n < 100000000000000000) (h : m * n < 10000000000000000) : (U m).size + (U n).size ≤ 18 := by
 have um : (U m).size ≤ 17 := U_size_le (k := 16) (by omega)
 have un : (U n).size ≤ 17 := U_size_le (k := 16) (by omega)
 rcases Nat.eq_zero_or_pos m with rfl | h1
 ·have : (U 0).size ≤ 1 := U_size_le (k := 0) (by omega)
  omega
 rcases Nat.eq_zero_or_pos n with rfl | h2
 ·have : (U 0).size ≤ 1 := U_size_le (k := 0) (by omega)
  omega
 have h3 := Nat.mul_le_mul (pow_le_of_size h1) (pow_le_of_size h2)
 rw [← Nat.pow_add] at h3
 have h4 : 10 ^ ((U m).size - 1 + ((U n).size - 1)) < 10 ^ 16 := by omega
 have h5 := (Nat.pow_lt_pow_iff_right (by omega : 1 < 10)).1 h4
 omega
theorem join_T {b : Bool} {n : Nat} (h : (U n).size ≤ 100) : whole_join.f b (T (n : Int)) = some (T (if b then -(n : Int) else n)) := by
 rw [T_nat]; exact whole_join_U b n (by omega)
theorem natAbs_mul_sign (a b : Int) : (if (decide (a < 0) != decide (b < 0)) = true then -((a.natAbs * b.natAbs : Nat) : Int) else ((a.natAbs * b.natAbs : Nat) : Int)) = a * b := by
 rcases Int.natAbs_eq a with ha | ha <;> rcases Int.natAbs_eq b with hb | hb
 all_goals
  generalize hm : a.natAbs = m at *
  generalize hn : b.natAbs = n at *
  subst ha hb
 ·rw [if_neg (by simp; omega)]; simp
 ·by_cases h0 : n = 0
  ·subst h0; simp
  ·rw [if_pos (by simp; omega)]; simp [Int.mul_neg]
 ·by_cases h0 : m = 0
  ·subst h0; simp
  ·rw [if_pos (by simp; omega)]; simp [Int.neg_mul]
 ·by_cases h0 : m = 0
  ·subst h0; simp
  by_cases h1 : n = 0
  ·subst h1; simp
  rw [if_neg (by simp; omega)]; simp [Int.neg_mul_neg]
theorem Mul_T {a b : Int} (ha : S17 a) (hb : S17 b) (h : a.natAbs * b.natAbs < 10000000000000000) : Ev (fun k => whole_Mul.f k (T a) (T b)) (T (a * b)) := by
 have hs := mul_sizes (m := a.natAbs) (n := b.natAbs) (by unfold S17 at ha; omega) (by unfold S17 at hb; omega) h
 have hab : (a * b).natAbs < 10000000000000000 := by rw [Int.natAbs_mul]; exact h
 have long : ∀ k, whole_Mul.j0 (k + 1) (T a) (T b) = some (T (a * b)) := by
  intro k
  rw [whole_Mul.j0, whole_split_T, whole_split_T]
  simp only [Option.bind_some]
  have hm : decimal_Mul.f (U a.natAbs) (U b.natAbs) = some (T ((a.natAbs * b.natAbs : Nat) : Int)) := by
   unfold decimal_Mul.f
   rw [if_pos hs]
   have e1 : parseUintB 64 (U a.natAbs).data.toList = .ok a.natAbs := by
    have : (U a.natAbs).data.toList = decDigits a.natAbs := by simp [U]
    rw [this]; exact parseUintB_U (by unfold S17 at ha; omega)
   have e2 : parseUintB 64 (U b.natAbs).data.toList = .ok b.natAbs := by
    have : (U b.natAbs).data.toList = decDigits b.natAbs := by simp [U]
    rw [this]; exact parseUintB_U (by unfold S17 at hb; omega)
   rw [e1, e2]
   simp only
   rw [if_pos (by omega)]
   rfl
  rw [hm]
  simp only [Option.bind_some]
  rw [join_T (by have := U_size_le (n := a.natAbs * b.natAbs) (k := 15) (by omega); omega), natAbs_mul_sign]
  rfl
 refine ev_here 1 fun k => ?_
 unfold whole_Mul.f
 by_cases h1 : ((T a).size : Int) ≤ 9
 ·rw [whole_little_yes h1 (by omega)]
  simp only [Option.bind_some, if_true]
  by_cases h2 : ((T b).size : Int) ≤ 9
  ·rw [whole_little_yes h2 (by omega)]
   simp only [Option.bind_some, if_true]
   rw [w64 (by omega) (by omega), whole_Of_T (by omega) (by omega)]
   rfl
  ·rw [whole_little_no (by omega)]
   simp only [Option.bind_some, Bool.false_eq_true, if_false]
   exact long k
 ·rw [whole_little_no (by omega)]
  simp only [Option.bind_some, Bool.false_eq_true, if_false]
  exact long k
theorem DivMod_T {a b : Int} (ha : S17 a) (hb : S17 b) (h0 : 0 < b) : Ev (fun k => whole_DivMod.f k (T a) (T b)) (T (a / b), T (a % b), 0) := by
 refine ev_here 1 fun k => ?_
 unfold whole_DivMod.f
 rw [if_neg (by rw [T_toList]; intro h; have := (itoa_zero_iff b).1 h; omega), whole_little_yes (by have := ha.size; omega) (by omega)]
 simp only [Option.bind_some, if_true]
 rw [whole_little_yes (by have := hb.size; omega) (by omega)]
 simp only [Option.bind_some, if_true]
 rw [if_neg (by omega)]
 have q1 : (Int.tdiv a b).natAbs ≤ a.natAbs := Int.natAbs_tdiv_le_natAbs a b
 have r1 : (Int.tmod a b).natAbs < b.natAbs := by rw [Int.natAbs_tmod]; exact Nat.mod_lt _ (by omega)
 have hS : ∀ {i : Int}, -9223372036854775808 ≤ i ∧ i ≤ 9223372036854775807 → whole_Of.f i = some (T i) := fun h => whole_Of_T h.1 h.2
 unfold S17 at ha hb
 have e1 := Int.mul_tdiv_add_tmod a b
 have hq := Int.emod_add_mul_ediv a b
 have hr0 := Int.emod_nonneg a (b := b) (by omega)
 have hr1 := Int.emod_lt_of_pos a h0
 have key : (Int.tmod a b < 0 ∧ a / b = Int.tdiv a b - 1 ∧ a % b = Int.tmod a b + b) ∨ (0 ≤ Int.tmod a b ∧ a / b = Int.tdiv a b ∧ a % b = Int.tmod a b) := by
  rcases Int.lt_or_le (Int.tmod a b) 0 with hl | hl
  ·left
   exact ⟨hl, (Int.ediv_emod_unique h0).2 ⟨by rw [Int.mul_sub]; omega, by omega, by omega⟩⟩
  ·right
   exact ⟨hl, (Int.ediv_emod_unique h0).2 ⟨by omega, by omega, by omega⟩⟩
 rw [w64 (x := Int.tdiv a b) (by omega) (by omega)]
 rcases key with ⟨hl, e2, e3⟩ | ⟨hl, e2, e3⟩
 ·rw [if_neg (by omega)]
  have : (decide (Int.tmod a b < 0) != decide (b < 0)) = true := by simp [hl]; omega
  rw [this, whole_DivMod.j0, if_pos rfl, w64 (by omega) (by omega), w64 (by omega) (by omega), ← e2, ← e3, hS (by omega)]
  simp only [Option.bind_some]
  rw [hS (by omega)]
  rfl
 ·have fin : whole_DivMod.j0 (k + 1) b (Int.tdiv a b) (Int.tmod a b) false = some (T (a / b), T (a % b), 0) := by
   rw [whole_DivMod.j0, if_neg (by simp), ← e2, ← e3, hS (by omega)]
   simp only [Option.bind_some]
   rw [hS (by omega)]
   rfl
  split
  ·exact fin
  ·have : (decide (Int.tmod a b < 0) != decide (b < 0)) = false := by simp; omega
   rw [this]; exact fin
theorem gcdN : ∀ (n m : Nat), Ev (fun k => whole_gcd.l0 k (m : Int) (n : Int)) ((Nat.gcd m n : Nat) : Int) := by
 intro n
 induction n using Nat.strongRecOn with
 | _ n ih =>
  intro m
  rcases Nat.eq_zero_or_pos n with rfl | hn
  ·refine ev_here 1 fun k => ?_
   rw [whole_gcd.l0, if_pos (by simp), Nat.gcd_zero_right]
  ·refine Ev.step (f := fun k => whole_gcd.l0 k (n : Int) ((m % n : Nat) : Int)) (fun k => ?_) ?_
   ·rw [whole_gcd.l0, if_neg (by omega)]; rfl
   ·have := ih (m % n) (Nat.mod_lt _ hn) n
    rwa [Nat.gcd_comm n, ← Nat.gcd_rec, Nat.gcd_comm n] at this
theorem Gcd_T {a b : Int} (ha : S17 a) (hb : S17 b) : Ev (fun k => whole_Gcd.f k (T a) (T b)) (T (Int.gcd a b : Int)) := by
 have h1 := ha.abs.size
 have h2 := hb.abs.size
 refine Ev.congr (f := fun k => (whole_gcd.f k (a.natAbs : Int) (b.natAbs : Int)).bind fun t => (whole_Of.f t).bind fun t => some t) (fun k => ?_) ?_
 ·unfold whole_Gcd.f
  rw [whole_Abs_T, whole_Abs_T]
  simp only [Option.bind_some]
  rw [U_eq_T, U_eq_T, whole_little_yes (by omega) (by omega)]
  simp only [Option.bind_some, if_true]
  rw [whole_little_yes (by omega) (by omega)]
  simp only [Option.bind_some, if_true]
 ·refine Ev.bind (gcdN _ _) (ev_const fun k => ?_)
  have e : ((Nat.gcd a.natAbs b.natAbs : Nat) : Int) = (Int.gcd a b : Int) := rfl
  have hg : Int.gcd a b ≤ 9223372036854775807 := by
   by_cases h0 : b = 0
   ·subst h0; rw [Int.gcd_zero_right]; unfold S17 at ha; omega
   ·have := Nat.le_of_dvd (by omega) (Int.gcd_dvd_natAbs_right a b)
    unfold S17 at hb; omega
  rw [e, whole_Of_T (by omega) (by omega)]
  rfl
end Go.Proofs.YtidajgkepdkcbaaGreatDoor
end
section
namespace Go.Proofs.YtidajgkepdkcbaaGreatDoor
open Go.RowKit Go.Lib Go.Proofs.YtidajgkepdkcbaaGreatDoorW.PrintWords Go.Proofs.YtidajgkepdkcbaaGreatDoorW.PrintLast Go.Proofs.YtidajgkepdkcbaaGreatDoorW.PrintMore PF
theorem bt_of_get {s : ByteArray} {j : Nat} {c : UInt8} (h : s.data.toList[j]? = some c) : bt s (j : Int) = c.toNat := by
 rw [← rd_bytesOf]
 unfold rd bytesOf
 simp [h]
def canEnd (a : ByteArray) : Bool := if (a.size : Int) = 1 then true else if (a.size : Int) > 1 then bt a 0 != 48 else false
theorem can_yes (a : ByteArray) (ha : a.size ≤ 1000000) : ∀ (m j : Nat), a.size = j + m → (∀ c ∈ a.data.toList.drop j, 48 ≤ c.toNat ∧ c.toNat ≤ 57) →
  Ev (fun k => decimal_Canonical.l0 k a (bytesOf a) ((bytesOf a).length : Int) (j : Int)) (canEnd a)
 | 0, j, hm, _ => by
  refine ev_here 1 fun k => ?_
  rw [decimal_Canonical.l0, if_neg (by rw [bytesOf_length]; omega)]
  unfold canEnd
  split
  ·rfl
  ·split
   ·rw [if_pos (by omega)]
   ·rfl
 | m + 1, j, hm, hd => by
  have hj : j < a.data.toList.length := by rw [data_length]; omega
  have hg : a.data.toList[j]? = some (a.data.toList[j]) := List.getElem?_eq_getElem hj
  have hc := hd (a.data.toList[j]) (by rw [List.drop_eq_getElem_cons hj]; exact List.mem_cons_self)
  refine Ev.step (f := fun k => decimal_Canonical.l0 k a (bytesOf a) ((bytesOf a).length : Int) ((j + 1 : Nat) : Int)) (fun k => ?_) (can_yes a ha m (j + 1) (by omega) fun c hc => hd c ?_)
  ·rw [decimal_Canonical.l0, if_pos (by rw [bytesOf_length]; omega), if_pos (by omega), if_pos (by rw [bytesOf_length]; omega), rd_bytesOf, bt_of_get hg, if_neg (by omega), if_neg (by omega), w64 (by omega) (by omega)]
   rfl
  ·rw [← List.drop_drop (i := 1) (j := j)] at hc
   exact List.mem_of_mem_drop hc
theorem size_list (a : ByteArray) : a.size = a.data.toList.length := (data_length a).symm
theorem canEnd_iff (a : ByteArray) (hd : AllDig a.data.toList) : canEnd a = true ↔ ∃ n, a.data.toList = decDigits n := by
 unfold canEnd
 rw [size_list]
 rcases e : a.data.toList with _ | ⟨c, r⟩
 ·simp only [List.length_nil]
  constructor
  ·intro h; simp at h
  ·rintro ⟨n, h⟩; exact absurd h.symm (decDigits_ne_nil n)
 ·rw [e] at hd
  have hb : bt a 0 = c.toNat := bt0_of e
  rw [hb]
  have hc := hd c (by simp)
  constructor
  ·intro h
   refine ⟨_, canon _ hd (by simp) ?_⟩
   by_cases h1 : r = []
   ·left; simp [h1]
   ·right
    have : 0 < r.length := List.length_pos_iff.2 h1
    rw [if_neg (by simp; omega), if_pos (by simp; omega)] at h
    simp at h ⊢
    omega
  ·rintro ⟨n, h⟩
   have := head_decDigits n
   rw [← h] at this
   by_cases h1 : r = []
   ·subst h1; simp
   ·have : 0 < r.length := List.length_pos_iff.2 h1
    rw [if_neg (by simp; omega), if_pos (by simp; omega)]
    rcases head_decDigits n with h2 | h2
    ·rw [← h] at h2; simp at h2; exact absurd h2 h1
    ·rw [← h] at h2; simp at h2 ⊢; omega
theorem canonical_yes {a : ByteArray} (ha : a.size ≤ 1000000) {n : Nat} (h : a.data.toList = decDigits n) : Ev (fun k => decimal_Canonical.f k a) true := by
 have hd : AllDig a.data.toList := by rw [h]; exact allDig_decDigits n
 have h1 := can_yes a ha a.size 0 (by omega) (fun c hc => hd c (List.mem_of_mem_drop hc))
 rw [(canEnd_iff a hd).2 ⟨n, h⟩] at h1
 refine Ev.congr (fun k => ?_) h1
 unfold decimal_Canonical.f
 rw [if_pos (by omega)]
 rfl
theorem split_dash {s : ByteArray} {r : List UInt8} (h : s.data.toList = 45 :: r) : ∃ t : ByteArray, whole_split.f s = some (true, t) ∧ t.data.toList = r := by
 have hs : s.size = r.length + 1 := by rw [size_list, h]; rfl
 refine ⟨s.extract 1 s.size, ?_, ?_⟩
 ·unfold whole_split.f
  rw [if_pos (by omega), if_pos (by omega), if_pos (by rw [bt0_of h]; rfl), if_pos (by omega)]
 ·rw [Lib.extract_to_end, h]; rfl
theorem split_else {s : ByteArray} (h : ∀ r, s.data.toList ≠ 45 :: r) : whole_split.f s = some (false, s) := by
 unfold whole_split.f
 rcases e : s.data.toList with _ | ⟨c, r⟩
 ·have : s.size = 0 := by rw [size_list, e]; rfl
  rw [if_neg (by omega)]
 ·have : s.size = r.length + 1 := by rw [size_list, e]; rfl
  rw [if_pos (by omega), if_pos (by omega), if_neg ?_]
  rw [bt0_of e]
  intro hh
  have : c = 45 := byte_ext (by show c.toNat = 45; omega)
  subst this
  exact h r e
theorem dash_no_digits {r : List UInt8} {n : Nat} (h : 45 :: r = decDigits n) : False := by
 have := allDig_decDigits n 45 (by rw [← h]; simp)
 have e45 : UInt8.toNat 45 = 45 := rfl
 omega
theorem DCheck_yes {a : ByteArray} (ha : a.size ≤ 400) {n : Nat} (h : a.data.toList = decDigits n) : Ev (fun k => decimal_Check.f k a) 0 := by
 unfold decimal_Check.f
 exact Ev.bind (canonical_yes (by omega) h) (ev_const fun k => by rw [if_pos rfl, if_neg (by omega)])
theorem ba_ext' {a b : ByteArray} (h : a.data.toList = b.data.toList) : a = b := ba_ext (by rw [ByteArray.toList_eq, ByteArray.toList_eq, h])
theorem Check_yes {i : Int} (h : (T i).size ≤ 400) : Ev (fun k => whole_Check.f k (T i)) 0 := by
 unfold whole_Check.f
 rcases int_form i with ⟨n, rfl⟩ | ⟨n, hn, rfl⟩
 ·have e : (T (n : Int)).data.toList = decDigits n := by rw [T_dataList, itoa_nat]
  refine Ev.congr (fun k => by rw [split_else (fun r hr => dash_no_digits (hr.symm.trans e))]) ?_
  simp only [Option.bind_some, Bool.false_eq_true, if_false]
  exact Ev.bind (DCheck_yes h e) (ev_const fun k => by rw [if_pos rfl])
 ·obtain ⟨t, h1, h2⟩ := split_dash (s := T (-(n : Int))) (r := decDigits n) (by rw [T_dataList, itoa_negS n hn])
  have hs : t.size ≤ 400 := by
   rw [size_list, h2]; rw [T_size, itoa_negS n hn] at h; simp at h; omega
  refine Ev.congr (fun k => by rw [h1]) ?_
  simp only [Option.bind_some, if_true]
  have hz : t.toList ≠ [48] := by rw [ByteArray.toList_eq, h2]; intro hh; have := (digs_zero_iff n).1 hh; omega
  refine Ev.congr (fun k => if_neg hz) ?_
  exact Ev.bind (DCheck_yes hs h2) (ev_const fun k => by rw [if_pos rfl])
end Go.Proofs.YtidajgkepdkcbaaGreatDoor
end
section
namespace Go.Proofs.YtidajgkepdkcbaaGreatDoor
open Go.RowKit Go.Lib Go.Proofs.YtidajgkepdkcbaaGreatDoorW.PrintWords Go.Proofs.YtidajgkepdkcbaaGreatDoorW.PrintLast Go.Proofs.YtidajgkepdkcbaaGreatDoorW.PrintMore PF
theorem val_take_succ {l : List UInt8} {j : Nat} {c : UInt8} (h : l[j]? = some c) : val (l.take (j + 1)) = val (l.take j) * 10 + (c.toNat - 48) := by
 rw [List.take_add_one, h]
 exact val_snoc _ _
theorem int_yes (t : ByteArray) (hs : t.size ≤ 17) (s : Int) (hs1 : s = 1 ∨ s = -1) (hd : AllDig t.data.toList) : ∀ (m j : Nat), t.size = j + m →
  Ev (fun k => schismaref04_Int.l0 k t s (val (t.data.toList.take j) : Int) (j : Int)) (s * (val t.data.toList : Int), true)
 | 0, j, hm => by
  refine ev_here 1 fun k => ?_
  have e : t.data.toList.take j = t.data.toList := List.take_of_length_le (by rw [data_length]; omega)
  rw [schismaref04_Int.l0, if_neg (by omega), e]
  have h1 := val_lt_pow t.data.toList hd
  have h2 : 10 ^ t.data.toList.length ≤ 10 ^ 17 := Nat.pow_le_pow_right (by omega) (by rw [data_length]; omega)
  rw [w64]
  ·rcases hs1 with rfl | rfl <;> omega
  ·rcases hs1 with rfl | rfl <;> omega
 | m + 1, j, hm => by
  have hj : j < t.data.toList.length := by rw [data_length]; omega
  have hg : t.data.toList[j]? = some (t.data.toList[j]) := List.getElem?_eq_getElem hj
  have hc := hd (t.data.toList[j]) (List.getElem_mem hj)
  have h1 := val_lt_pow (t.data.toList.take j) (fun c hc => hd c (List.mem_of_mem_take hc))
  have h2 : 10 ^ (t.data.toList.take j).length ≤ 10 ^ 16 := Nat.pow_le_pow_right (by omega) (by rw [List.length_take]; omega)
  refine Ev.step (fun k => ?_) (int_yes t hs s hs1 hd m (j + 1) (by omega))
  rw [schismaref04_Int.l0, if_pos (by omega), if_pos (by omega), bt_of_get hg, if_neg (by omega), if_neg (by omega), w64 (x := (j : Int) + 1) (by omega) (by omega), w64 (x := 10 * _) (by omega) (by omega), w64 (by omega) (by omega), val_take_succ hg]
  congr 1
  omega
theorem int_no (t : ByteArray) (hs : t.size ≤ 17) (s : Int) : ∀ (m j : Nat) (acc : Int), t.size = j + m → (∃ c ∈ t.data.toList.drop j, ¬(48 ≤ c.toNat ∧ c.toNat ≤ 57)) →
  Ev (fun k => schismaref04_Int.l0 k t s acc (j : Int)) (0, false)
 | 0, j, _, hm, h => by
  obtain ⟨c, hc, _⟩ := h
  rw [List.drop_eq_nil_of_le (by rw [data_length]; omega)] at hc
  cases hc
 | m + 1, j, acc, hm, h => by
  have hj : j < t.data.toList.length := by rw [data_length]; omega
  have hg : t.data.toList[j]? = some (t.data.toList[j]) := List.getElem?_eq_getElem hj
  by_cases hc : 48 ≤ (t.data.toList[j]).toNat ∧ (t.data.toList[j]).toNat ≤ 57
  ·refine Ev.step (fun k => ?_) (int_no t hs s m (j + 1) (wrap64 (wrap64 (10 * acc) + ((((t.data.toList[j]).toNat : Int) - 48) % 256))) (by omega) ?_)
   ·rw [schismaref04_Int.l0, if_pos (by omega), if_pos (by omega), bt_of_get hg, if_neg (by omega), if_neg (by omega), w64 (x := (j : Int) + 1) (by omega) (by omega)]
    rfl
   ·obtain ⟨c, hc1, hc2⟩ := h
    rw [List.drop_eq_getElem_cons hj] at hc1
    rcases List.mem_cons.1 hc1 with rfl | hc1
    ·exact absurd hc hc2
    ·exact ⟨c, hc1, hc2⟩
  ·refine ev_here 1 fun k => ?_
   rw [schismaref04_Int.l0, if_pos (by omega), if_pos (by omega), bt_of_get hg]
   by_cases h1 : ((t.data.toList[j]).toNat : Int) < 48
   ·rw [if_pos h1]
   ·rw [if_neg h1, if_pos (by omega)]
theorem int_core_yes {t : ByteArray} (hs : t.size ≤ 17) {n : Nat} (h : t.data.toList = decDigits n) {s : Int} (hs1 : s = 1 ∨ s = -1 ∧ n ≠ 0) : Ev (fun k => schismaref04_Int.j1 k t s) (s * (n : Int), true) := by
 have hd : AllDig t.data.toList := by rw [h]; exact allDig_decDigits n
 have hv : val t.data.toList = n := by rw [h, val_decDigits]
 have hp : 0 < t.size := by rw [size_list, h]; exact len_pos n
 have main := int_yes t hs s (hs1.imp id (fun h => h.1)) hd t.size 0 (by omega)
 rw [hv] at main
 have j2 : Ev (fun k => schismaref04_Int.j2 k t s false) (s * (n : Int), true) := Ev.step (fun k => by rw [schismaref04_Int.j2, if_neg (by simp)]; rfl) main
 refine Ev.step (fun k => ?_) j2
 rw [schismaref04_Int.j1, if_neg (by omega), if_neg (by omega), if_pos (by omega)]
 rcases head_decDigits n with hh | hh
 ·rw [← h, data_length] at hh
  rcases e : t.data.toList with _ | ⟨c, r⟩
  ·rw [size_list, e] at hp; simp at hp
  ·rw [bt0_of e]
   by_cases hc : (c.toNat : Int) = 48
   ·rw [if_pos hc, if_neg (by omega)]
    rcases hs1 with rfl | ⟨rfl, h0⟩
    ·rfl
    ·exfalso
     rw [size_list, e] at hh
     have hr : r = [] := by simpa using hh
     subst hr
     have hc' : c = 48 := byte_ext (by show c.toNat = 48; omega)
     subst hc'
     rw [e] at h
     exact h0 ((digs_zero_iff n).1 h.symm)
   ·rw [if_neg hc]
 ·rcases e : t.data.toList with _ | ⟨c, r⟩
  ·rw [size_list, e] at hp; simp at hp
  ·rw [bt0_of e]
   rw [← h, e] at hh
   simp at hh
   rw [if_neg (by omega)]
theorem int_core_no {t : ByteArray} {s : Int} (hs1 : s = 1 ∨ s = -1) (h : ∀ n, t.data.toList = decDigits n → s = -1 ∧ n = 0) : Ev (fun k => schismaref04_Int.j1 k t s) (0, false) := by
 have j2 : Ev (fun k => schismaref04_Int.j2 k t s true) (0, false) := ev_here 1 fun k => by rw [schismaref04_Int.j2, if_pos rfl]
 rcases e : t.data.toList with _ | ⟨c, r⟩
 ·have : t.size = 0 := by rw [size_list, e]; rfl
  exact Ev.step (fun k => by rw [schismaref04_Int.j1, if_pos (by omega)]) j2
 ·have hsz : t.size = r.length + 1 := by rw [size_list, e]; rfl
  by_cases h17 : t.size ≤ 17
  ·by_cases hc : (c.toNat : Int) = 48
   ·by_cases h1 : t.size = 1
    ·have hr : r = [] := List.length_eq_zero_iff.1 (by omega)
     subst hr
     have hc' : c = 48 := byte_ext (by show c.toNat = 48; omega)
     subst hc'
     obtain ⟨rfl, _⟩ := h 0 (by rw [e]; exact ((digs_zero_iff 0).2 rfl).symm)
     exact Ev.step (fun k => by rw [schismaref04_Int.j1, if_neg (by omega), if_neg (by omega), if_pos (by omega), bt0_of e, if_pos (by omega), if_neg (by omega)]; rfl) j2
    ·exact Ev.step (fun k => by rw [schismaref04_Int.j1, if_neg (by omega), if_neg (by omega), if_pos (by omega), bt0_of e, if_pos (by omega), if_pos (by omega)]) j2
   ·have hnd : ∃ c ∈ t.data.toList.drop 0, ¬(48 ≤ c.toNat ∧ c.toNat ≤ 57) := by
     refine Classical.byContradiction fun hh => ?_
     have hd : AllDig t.data.toList := fun c hc => Classical.byContradiction fun hx => hh ⟨c, by simpa using hc, hx⟩
     have := canon _ hd (by rw [e]; simp) (.inr (by rw [e]; simp; omega))
     have h0 := (h _ this).2
     rw [h0] at this
     rw [e, (digs_zero_iff 0).2 rfl] at this
     obtain ⟨rfl, _⟩ := List.cons.inj this
     exact hc rfl
    have l := int_no t h17 s t.size 0 0 (by omega) hnd
    have j2' : Ev (fun k => schismaref04_Int.j2 k t s false) (0, false) := Ev.step (fun k => by rw [schismaref04_Int.j2, if_neg (by simp)]; rfl) l
    exact Ev.step (fun k => by rw [schismaref04_Int.j1, if_neg (by omega), if_neg (by omega), if_pos (by omega), bt0_of e, if_neg (by omega)]) j2'
  ·exact Ev.step (fun k => by rw [schismaref04_Int.j1, if_neg (by omega), if_pos (by omega)]) j2
theorem int_open {s : ByteArray} {r : List UInt8} (h : s.data.toList = 45 :: r) : ∃ t : ByteArray, t.data.toList = r ∧ ∀ k, schismaref04_Int.f (k + 1) s = schismaref04_Int.j1 k t (-1) := by
 have hs : s.size = r.length + 1 := by rw [size_list, h]; rfl
 refine ⟨s.extract 1 s.size, ?_, fun k => ?_⟩
 ·rw [Lib.extract_to_end, h]; rfl
 ·unfold schismaref04_Int.f
  have e : (bt s 0 == 45) = true := by rw [bt0_of h]; rfl
  rw [if_pos (by omega), if_pos (by omega), e, schismaref04_Int.j0, if_pos rfl, if_pos (by omega)]
theorem int_else {s : ByteArray} (h : ∀ r, s.data.toList ≠ 45 :: r) (k : Nat) : schismaref04_Int.f (k + 1) s = schismaref04_Int.j1 k s 1 := by
 unfold schismaref04_Int.f
 rcases e : s.data.toList with _ | ⟨c, r⟩
 ·have : s.size = 0 := by rw [size_list, e]; rfl
  rw [if_neg (by omega), schismaref04_Int.j0, if_neg (by simp)]
 ·have : s.size = r.length + 1 := by rw [size_list, e]; rfl
  have e2 : (bt s 0 == 45) = false := by
   rw [bt0_of e]
   refine beq_eq_false_iff_ne.2 fun hh => ?_
   have : c = 45 := byte_ext (by show c.toNat = 45; omega)
   subst this
   exact h r e
  rw [if_pos (by omega), if_pos (by omega), e2, schismaref04_Int.j0, if_neg (by simp)]
theorem Int_yes {i : Int} (h : (T i).size ≤ 17) : Ev (fun k => schismaref04_Int.f k (T i)) (i, true) := by
 rcases int_form i with ⟨n, rfl⟩ | ⟨n, hn, rfl⟩
 ·have e : (T (n : Int)).data.toList = decDigits n := by rw [T_dataList, itoa_nat]
  refine Ev.step (fun k => int_else (fun r hr => dash_no_digits (hr.symm.trans e)) k) ?_
  have := int_core_yes h e (s := 1) (.inl rfl)
  rwa [Int.one_mul] at this
 ·have e : (T (-(n : Int))).data.toList = 45 :: decDigits n := by rw [T_dataList, itoa_negS n hn]
  obtain ⟨t, h1, h2⟩ := int_open e
  refine Ev.step h2 ?_
  have hs : t.size ≤ 17 := by rw [size_list, h1]; rw [size_list, e] at h; simp at h; omega
  have := int_core_yes hs h1 (s := -1) (.inr ⟨rfl, by omega⟩)
  rwa [Int.neg_mul, Int.one_mul] at this
theorem Int_no {s : ByteArray} (h : ∀ i, s ≠ T i) : Ev (fun k => schismaref04_Int.f k s) (0, false) := by
 by_cases hd : ∃ r, s.data.toList = 45 :: r
 ·obtain ⟨r, hr⟩ := hd
  obtain ⟨t, h1, h2⟩ := int_open hr
  refine Ev.step h2 (int_core_no (.inr rfl) fun n hn => ⟨rfl, ?_⟩)
  refine Classical.byContradiction fun h0 => h (-(n : Int)) (ba_ext' (by rw [T_dataList, itoa_negS n (by omega), hr, ← h1, hn]))
 ·refine Ev.step (fun k => int_else (fun r hr => hd ⟨r, hr⟩) k) (int_core_no (.inl rfl) fun n hn => ?_)
  exact absurd (ba_ext' (by rw [T_dataList, itoa_nat, hn])) (h (n : Int))
theorem rgcd : ∀ (N : Nat) (a b : Int), b.natAbs = N → a.natAbs < 9223372036854775808 → b.natAbs < 9223372036854775808 → Ev (fun k => schismaref04_Gcd.l0 k a b) (Int.gcd a b : Int) := by
 intro N
 induction N using Nat.strongRecOn with
 | _ N ih =>
  intro a b hb ha hbig
  by_cases h0 : b = 0
  ·subst h0
   refine ev_here 1 fun k => ?_
   rw [schismaref04_Gcd.l0, if_pos rfl, Int.gcd_zero_right]
   split
   ·rw [w64 (by omega) (by omega)]; congr 1; omega
   ·congr 1; omega
  ·refine Ev.step (f := fun k => schismaref04_Gcd.l0 k b (Int.tmod a b)) (fun k => by rw [schismaref04_Gcd.l0, if_neg h0]) ?_
   have h1 : (Int.tmod a b).natAbs < N := by rw [Int.natAbs_tmod, ← hb]; exact Nat.mod_lt _ (by omega)
   have := ih _ h1 b (Int.tmod a b) rfl hbig (by omega)
   have e : Int.gcd b (Int.tmod a b) = Int.gcd a b := by
    show Nat.gcd b.natAbs (Int.tmod a b).natAbs = Nat.gcd a.natAbs b.natAbs
    rw [Int.natAbs_tmod, Nat.gcd_comm b.natAbs, ← Nat.gcd_rec, Nat.gcd_comm]
   rwa [e] at this
theorem RGcd {a b : Int} (ha : a.natAbs < 9223372036854775808) (hb : b.natAbs < 9223372036854775808) : Ev (fun k => schismaref04_Gcd.f k a b) (Int.gcd a b : Int) := rgcd _ a b rfl ha hb
theorem strOfNums_one (n : Nat) (h : n < 10) : strOfNums [wrap64 (48 + (n : Int)) % 256] = ⟨#[UInt8.ofNat (48 + n)]⟩ := by
 have : wrap64 (48 + (n : Int)) % 256 = ((UInt8.ofNat (48 + n)).toNat : Int) := by
  rw [w64 (by omega) (by omega), toNat_digit h]; omega
 rw [this]
 generalize UInt8.ofNat (48 + n) = c
 unfold strOfNums
 simp
theorem of_loop (pre : ByteArray) (hpre : pre.size ≤ 100) : ∀ (n : Nat) (acc : ByteArray), 1 ≤ n → n < 9223372036854775808 → acc.size ≤ 100 + (19 - (decDigits n).length) →
  Ev (fun k => schismaref04_Of.l0 k (n : Int) pre acc) (pre ++ (U n ++ acc)) := by
 intro n
 induction n using Nat.strongRecOn with
 | _ n ih =>
  intro acc h1 h2 hacc
  have hlen : (decDigits n).length ≤ 19 := (len_le_iff n 18).2 (by omega)
  have e1 : Int.tmod (n : Int) 10 = ((n % 10 : Nat) : Int) := by rw [Int.tmod_eq_emod_of_nonneg (by omega)]; omega
  have e2 : wrap64 (Int.tdiv (n : Int) 10) = ((n / 10 : Nat) : Int) := by rw [Int.tdiv_eq_ediv_of_nonneg (by omega), w64 (by omega) (by omega)]; omega
  have e3 : strOfNums [wrap64 (48 + ((n % 10 : Nat) : Int)) % 256] = ⟨#[UInt8.ofNat (48 + n % 10)]⟩ := strOfNums_one _ (by omega)
  have e4 : (⟨#[UInt8.ofNat (48 + n % 10)]⟩ : ByteArray).size = 1 := rfl
  have st : ∀ k, schismaref04_Of.l0 (k + 1) (n : Int) pre acc = schismaref04_Of.l0 k ((n / 10 : Nat) : Int) pre (⟨#[UInt8.ofNat (48 + n % 10)]⟩ ++ acc) := by
   intro k
   rw [schismaref04_Of.l0, if_pos (by omega), e1, e2]
   simp only [Option.bind_some]
   rw [e3, if_pos (by omega)]
  refine Ev.step st ?_
  by_cases h10 : n < 10
  ·have : n / 10 = 0 := by omega
   rw [this]
   refine ev_here 1 fun k => ?_
   have hsz : (⟨#[UInt8.ofNat (48 + n % 10)]⟩ ++ acc : ByteArray).size = 1 + acc.size := by rw [ByteArray.size_append]; rfl
   rw [schismaref04_Of.l0, if_neg (by omega), if_pos (by omega)]
   have : U n = ⟨#[UInt8.ofNat (48 + n % 10)]⟩ := by unfold U; rw [decDigits_small h10, Nat.mod_eq_of_lt h10]
   rw [this]
  ·have hl : (decDigits n).length = (decDigits (n / 10)).length + 1 := by rw [decDigits_big h10]; simp
   have hsz : (⟨#[UInt8.ofNat (48 + n % 10)]⟩ ++ acc : ByteArray).size = 1 + acc.size := by rw [ByteArray.size_append]; rfl
   have := ih (n / 10) (by omega) (⟨#[UInt8.ofNat (48 + n % 10)]⟩ ++ acc) (by omega) (by omega) (by omega)
   have e : U n ++ acc = U (n / 10) ++ (⟨#[UInt8.ofNat (48 + n % 10)]⟩ ++ acc) := by
    apply ba_ext'
    simp [U, decDigits_big h10]
   rw [e]; exact this
theorem ROf {i : Int} (h0 : -9223372036854775808 < i) (h1 : i < 9223372036854775808) : Ev (fun k => schismaref04_Of.f k i) (T i) := by
 have hj : ∀ (pre : ByteArray) (n : Nat), pre.size ≤ 1 → 1 ≤ n → n < 9223372036854775808 → Ev (fun k => schismaref04_Of.j0 k (n : Int) pre) (pre ++ U n) := by
  intro pre n hp h1 h2
  have := of_loop pre (by omega) n ⟨#[]⟩ h1 h2 (by show 0 ≤ _; omega)
  have e : U n ++ (⟨#[]⟩ : ByteArray) = U n := by apply ba_ext'; simp
  rw [e] at this
  exact Ev.step (fun k => by rw [schismaref04_Of.j0]) this
 unfold schismaref04_Of.f
 by_cases hz : i = 0
 ·subst hz
  exact ev_const fun _ => by rw [if_pos rfl]; congr 1; apply ba_ext'; rw [T_dataList]; exact ((itoa_zero_iff 0).2 rfl).symm
 rcases int_form i with ⟨n, rfl⟩ | ⟨n, hn, rfl⟩
 ·refine Ev.congr (fun k => by rw [if_neg hz, if_neg (by omega)]) ?_
  have := hj ⟨#[]⟩ n (by show 0 ≤ 1; omega) (by omega) (by omega)
  have e : (⟨#[]⟩ : ByteArray) ++ U n = T (n : Int) := by rw [T_nat]; apply ba_ext'; simp
  rwa [e] at this
 ·refine Ev.congr (fun k => by rw [if_neg hz, if_pos (by omega), w64 (by omega) (by omega), Int.neg_neg]) ?_
  have := hj ⟨#[45]⟩ n (by show 1 ≤ 1; omega) (by omega) (by omega)
  have e : (⟨#[45]⟩ : ByteArray) ++ U n = T (-(n : Int)) := by
   apply ba_ext'
   rw [T_dataList, itoa_negS n hn]
   simp [U]
  rwa [e] at this
def fr (n d : Int) : ByteArray × ByteArray := (T (n / (Int.gcd n d : Int)), T (d / (Int.gcd n d : Int)))
theorem gcd_le {n d : Int} (hd : 0 < d) : (0 : Int) < (Int.gcd n d : Int) ∧ (Int.gcd n d : Int) ≤ d := by
 have h1 : 0 < Int.gcd n d := Int.gcd_pos_of_ne_zero_right _ (by omega)
 have h2 : Int.gcd n d ≤ d.natAbs := Nat.le_of_dvd (by omega) (Int.gcd_dvd_natAbs_right n d)
 omega
theorem RMake {n d : Int} (hn : n.natAbs < 9223372036854775808) (hd : 0 < d) (hd2 : d < 9223372036854775808) : Ev (fun k => schismaref04_Make.f k n d) (fr n d) := by
 obtain ⟨g0, g1⟩ := gcd_le (n := n) hd
 have d1 : (Int.gcd n d : Int) ∣ n := Int.gcd_dvd_left ..
 have d2 : (Int.gcd n d : Int) ∣ d := Int.gcd_dvd_right ..
 have e1 : Int.tdiv n (Int.gcd n d : Int) = n / (Int.gcd n d : Int) := Int.tdiv_eq_ediv_of_dvd d1
 have e2 : Int.tdiv d (Int.gcd n d : Int) = d / (Int.gcd n d : Int) := Int.tdiv_eq_ediv_of_dvd d2
 have q1 : (Int.tdiv n (Int.gcd n d : Int)).natAbs ≤ n.natAbs := Int.natAbs_tdiv_le_natAbs ..
 have q2 : (Int.tdiv d (Int.gcd n d : Int)).natAbs ≤ d.natAbs := Int.natAbs_tdiv_le_natAbs ..
 refine Ev.bind (RGcd hn (by omega)) ?_
 refine Ev.congr (fun k => by rw [if_neg (by omega), w64 (x := Int.tdiv n _) (by omega) (by omega), w64 (x := Int.tdiv d _) (by omega) (by omega), e1, e2]) ?_
 rw [e1] at q1; rw [e2] at q2
 refine Ev.bind (ROf (by omega) (by omega)) ?_
 refine Ev.bind (ROf (by omega) (by omega)) ?_
 exact ev_const fun _ => rfl
end Go.Proofs.YtidajgkepdkcbaaGreatDoor
end
section
namespace Go.Proofs.YtidajgkepdkcbaaGreatDoor
open Go.RowKit Go.Lib Go.Proofs.YtidajgkepdkcbaaGreatDoorW.PrintWords Go.Proofs.YtidajgkepdkcbaaGreatDoorW.PrintLast Go.Proofs.YtidajgkepdkcbaaGreatDoorW.PrintMore PF
def Fr (n d : Int) : Prop := 0 < d ∧ Int.gcd n d = 1
instance (n d : Int) : Decidable (Fr n d) := by unfold Fr; exact inferInstance
theorem S17_of {i : Int} (h : (T i).size ≤ 17) : S17 i := by
 have := lt_of_T_size (i := i) (k := 16) (by omega)
 unfold S17; omega
theorem T_one_iff (i : Int) : (T i).toList = [49] ↔ i = 1 := by rw [T_toList]; exact itoa_one_iff i
theorem T_zero_iff (i : Int) : (T i).toList = [48] ↔ i = 0 := by rw [T_toList]; exact itoa_zero_iff i
theorem lit0 : (⟨#[48]⟩ : ByteArray) = T 0 := ba_ext (by rw [T_toList, (itoa_zero_iff 0).2 rfl]; simp [ByteArray.toList_eq])
theorem lit1 : (⟨#[49]⟩ : ByteArray) = T 1 := ba_ext (by rw [T_toList, (itoa_one_iff 1).2 rfl]; simp [ByteArray.toList_eq])
theorem check_j0 {n d : Int} (hn : S17 n) (hd : S17 d) : Ev (fun k => fraction_Check.j0 k false (T n) (T d)) (if Fr n d then 0 else 2) := by
 have e : ∀ k, fraction_Check.j0 (k + 1) false (T n) (T d) = (if sg d ≤ 0 then (some 2) else ((whole_Gcd.f k (T n) (T d)).bind fun t => if t.toList = [49] then some 0 else some 2)) := by
  intro k
  rw [fraction_Check.j0, if_neg (by simp), whole_Sign_T]
  rfl
 refine Ev.step e ?_
 by_cases h : 0 < d
 ·have : ¬ sg d ≤ 0 := by unfold sg; rw [if_neg (by omega), if_neg (by omega)]; omega
  refine Ev.congr (fun k => if_neg this) (Ev.bind (Gcd_T hn hd) (ev_const fun _ => ?_))
  by_cases hg : Int.gcd n d = 1
  ·rw [if_pos ((T_one_iff _).2 (by omega)), if_pos ⟨h, hg⟩]
  ·rw [if_neg (fun hh => hg (by have := (T_one_iff _).1 hh; omega)), if_neg (fun hh => hg hh.2)]
 ·have : sg d ≤ 0 := by unfold sg; split; omega; rw [if_pos (by omega)]; omega
  rw [if_neg (fun hh => h hh.1)]
  exact ev_const fun _ => if_pos this
theorem FCheck_T {n d : Int} (hn : S17 n) (hd : S17 d) : Ev (fun k => fraction_Check.f k (T n) (T d)) (if Fr n d then 0 else 2) := by
 unfold fraction_Check.f
 refine Ev.bind (Check_yes (by have := hn.size; omega)) ?_
 refine Ev.congr (fun k => if_pos rfl) (Ev.bind (Check_yes (by have := hd.size; omega)) ?_)
 exact check_j0 hn hd
inductive Said (a b : ByteArray) : Prop
 | right (n d : Int) (ha : a = T n) (hb : b = T d) (h : Fr n d)
 | wrong (h : ∀ n d, a = T n → b = T d → ¬ Fr n d)
theorem said (a b : ByteArray) : Said a b := by
 by_cases h : ∃ n d, a = T n ∧ b = T d ∧ Fr n d
 ·obtain ⟨n, d, h1, h2, h3⟩ := h
  exact .right n d h1 h2 h3
 ·exact .wrong fun n d h1 h2 h3 => h ⟨n, d, h1, h2, h3⟩
theorem Wrong_no {n d : Int} (hn : S17 n) (hd : S17 d) (h : Fr n d) : Ev (fun k => convergent_wrong.f k (T n) (T d)) false := by
 have := FCheck_T hn hd
 rw [if_pos h] at this
 unfold convergent_wrong.f
 exact Ev.bind this (ev_const fun _ => rfl)
theorem Parts_yes {n d : Int} (hn : (T n).size ≤ 17) (hd : (T d).size ≤ 17) (h : Fr n d) : Ev (fun k => schismaref04_Parts.f k (T n) (T d)) (n, d, true) := by
 have h1 := S17_of hn
 have h2 := S17_of hd
 unfold S17 at h1 h2
 unfold schismaref04_Parts.f
 refine Ev.bind (Int_yes hn) (Ev.bind (Int_yes hd) ?_)
 simp only [if_true]
 refine Ev.congr (fun k => if_neg (by have := h.1; omega)) (Ev.bind (RGcd (by omega) (by omega)) (ev_const fun _ => ?_))
 rw [if_pos (by have := h.2; omega)]
theorem Parts_no {a b : ByteArray} (ha : a.size ≤ 17) (hb : b.size ≤ 17) (h : ∀ n d, a = T n → b = T d → ¬ Fr n d) : Ev (fun k => schismaref04_Parts.f k a b) (0, 0, false) := by
 unfold schismaref04_Parts.f
 have hI : ∀ s : ByteArray, s.size ≤ 17 → ∃ i b', Ev (fun k => schismaref04_Int.f k s) (i, b') ∧ (b' = true → s = T i) := by
  intro s hs
  by_cases h1 : ∃ i, s = T i
  ·obtain ⟨i, rfl⟩ := h1
   exact ⟨i, true, Int_yes hs, fun _ => rfl⟩
  ·exact ⟨0, false, Int_no fun i hi => h1 ⟨i, hi⟩, fun h => by cases h⟩
 obtain ⟨n, x, e1, f1⟩ := hI a ha
 obtain ⟨d, y, e2, f2⟩ := hI b hb
 refine Ev.bind e1 (Ev.bind e2 ?_)
 cases x with
 | false => exact ev_const fun _ => if_neg (by simp)
 | true =>
  cases y with
  | false => refine Ev.congr (fun k => if_pos rfl) (ev_const fun _ => if_neg (by simp))
  | true =>
   obtain rfl := f1 rfl
   obtain rfl := f2 rfl
   have h1 := S17_of ha
   have h2 := S17_of hb
   unfold S17 at h1 h2
   refine Ev.congr (fun k => if_pos rfl) (Ev.congr (fun k => if_pos rfl) ?_)
   by_cases hd : d ≤ 0
   ·exact ev_const fun _ => if_pos hd
   ·refine Ev.congr (fun k => if_neg hd) (Ev.bind (RGcd (by omega) (by omega)) (ev_const fun _ => ?_))
    have hg : ¬ ((Int.gcd n d : Int) = 1) := fun hh => h n d rfl rfl ⟨by omega, by omega⟩
    exact if_neg hg
theorem sg_pos {d : Int} (h : 0 < d) : sg d = 1 := by unfold sg; rw [if_neg (by omega), if_neg (by omega)]
theorem fr_self {n d : Int} (h : Fr n d) : fr n d = (T n, T d) := by unfold fr; rw [h.2]; simp
theorem Lowest_T {n d : Int} (hn : S17 n) (hd : S17 d) (h0 : 0 < d) : Ev (fun k => fraction_lowest.f k (T n) (T d)) (fr n d) := by
 obtain ⟨g0, g1⟩ := gcd_le (n := n) h0
 have hg : S17 (Int.gcd n d : Int) := by unfold S17 at hd ⊢; omega
 refine Ev.congr (f := fun k => fraction_lowest.j0 k (T n) (T d)) (fun k => ?_) ?_
 ·unfold fraction_lowest.f
  rw [whole_Sign_T, sg_pos h0]
  simp only [Option.bind_some]
  rw [if_neg (by omega)]
 ·refine Ev.step (fun k => by rw [fraction_lowest.j0]) (Ev.bind (Gcd_T hn hd) ?_)
  by_cases h1 : (Int.gcd n d : Int) = 1
  ·refine ev_const fun _ => ?_
   rw [if_pos ((T_one_iff _).2 h1), fr_self ⟨h0, by omega⟩]
  ·refine Ev.congr (fun k => if_neg (fun hh => h1 ((T_one_iff _).1 hh))) ?_
   refine Ev.bind (DivMod_T hn hg g0) (Ev.bind (DivMod_T hd hg g0) (ev_const fun _ => rfl))
theorem New_T {n d : Int} (hn : S17 n) (hd : S17 d) (h0 : 0 < d) : Ev (fun k => fraction_New.f k (T n) (T d)) ((fr n d).1, (fr n d).2, 0) := by
 unfold fraction_New.f
 rw [whole_Sign_T, sg_pos h0]
 simp only [Option.bind_some]
 exact Ev.congr (fun k => if_neg (by omega)) (Ev.bind (Lowest_T hn hd h0) (ev_const fun _ => rfl))
theorem Over_T {n d : Int} (hn : S17 n) (hd : S17 d) (h0 : 0 < d) : Ev (fun k => convergent_over.f k (T n) (T d)) (fr n d) := by
 unfold convergent_over.f
 exact Ev.bind (New_T hn hd h0) (ev_const fun _ => rfl)
end Go.Proofs.YtidajgkepdkcbaaGreatDoor
end
section
namespace Go.Proofs.YtidajgkepdkcbaaGreatDoor
def isCf : List Int → Int → Int → Prop
 | [], _, _ => False
 | a :: l, n, d => a = n / d ∧ ((n % d = 0 ∧ l = []) ∨ (n % d ≠ 0 ∧ isCf l d (n % d)))
theorem isCf.ne_nil {l : List Int} {n d : Int} (h : isCf l n d) : l ≠ [] := by
 cases l with
 | nil => exact h.elim
 | cons a l => simp
theorem isCf.unique : ∀ {l m : List Int} {n d : Int}, isCf l n d → isCf m n d → l = m
 | [], _, _, _, h, _ => h.elim
 | _ :: _, [], _, _, _, h => h.elim
 | a :: l, b :: m, n, d, ⟨h1, h2⟩, ⟨g1, g2⟩ => by
  have e : a = b := by rw [h1, g1]
  subst e
  rcases h2 with ⟨h2, h3⟩ | ⟨h2, h3⟩ <;> rcases g2 with ⟨g2, g3⟩ | ⟨g2, g3⟩
  ·rw [h3, g3]
  ·exact absurd h2 g2
  ·exact absurd g2 h2
  ·rw [isCf.unique h3 g3]
theorem isCf_exists : ∀ (k : Nat) (n d : Int), 0 < d → d < 2 ^ k → ∃ l, isCf l n d ∧ l.length ≤ 2 * k
 | 0, n, d, h1, h2 => by simp at h2; omega
 | k + 1, n, d, h1, h2 => by
  rw [Int.pow_succ] at h2
  by_cases hr : n % d = 0
  ·exact ⟨[n / d], ⟨rfl, .inl ⟨hr, rfl⟩⟩, by simp; omega⟩
  ·have r0 := Int.emod_nonneg n (b := d) (by omega)
   have r1 := Int.emod_lt_of_pos n h1
   generalize e1 : n % d = d1 at *
   by_cases hr2 : d % d1 = 0
   ·exact ⟨[n / d, d / d1], ⟨rfl, .inr ⟨by rw [e1]; exact hr, by rw [e1]; exact ⟨rfl, .inl ⟨hr2, rfl⟩⟩⟩⟩, by simp; omega⟩
   ·have s0 := Int.emod_nonneg d (b := d1) (by omega)
    have s1 := Int.emod_lt_of_pos d (b := d1) (by omega)
    have s2 := Int.mul_ediv_add_emod d d1
    have s3 : 1 ≤ d / d1 := (Int.le_ediv_iff_mul_le (by omega)).2 (by omega)
    have s4 : d1 * 1 ≤ d1 * (d / d1) := Int.mul_le_mul_of_nonneg_left s3 (by omega)
    obtain ⟨l, hl, hk⟩ := isCf_exists k d1 (d % d1) (by omega) (by omega)
    exact ⟨n / d :: d / d1 :: l, ⟨rfl, .inr ⟨by rw [e1]; exact hr, by rw [e1]; exact ⟨rfl, .inr ⟨hr2, hl⟩⟩⟩⟩, by simp; omega⟩
theorem isCf.pos : ∀ {l : List Int} {n d : Int}, isCf l n d → 0 < d → d ≤ n → ∀ a ∈ l, 1 ≤ a
 | [], _, _, h, _, _ => h.elim
 | a :: l, n, d, ⟨h1, h2⟩, hd, hn => by
  intro x hx
  have ha : 1 ≤ a := by rw [h1]; exact (Int.le_ediv_iff_mul_le hd).2 (by omega)
  rcases List.mem_cons.1 hx with rfl | hx
  ·exact ha
  ·rcases h2 with ⟨_, rfl⟩ | ⟨h2, h3⟩
   ·exact absurd hx List.not_mem_nil
   ·have r0 := Int.emod_nonneg n (b := d) (by omega)
    have r1 := Int.emod_lt_of_pos n hd
    exact isCf.pos h3 (by omega) (by omega) x hx
structure CS where
 p : Int
 q : Int
 b : Int
 u : Int
deriving DecidableEq
def CS.begin : CS := ⟨1, 0, 0, 1⟩
def CS.next (c : CS) (a : Int) : CS := ⟨c.b + a * c.p, c.u + a * c.q, c.p, c.q⟩
structure CS.At (n d : Int) (c : CS) (N D s : Int) : Prop where
 hn : n = c.b * D + c.p * N
 hd : d = c.u * D + c.q * N
 det : c.p * c.u - c.b * c.q = s
 hs : s = 1 ∨ s = -1
 hD : 0 < D
theorem CS.At.start (n d : Int) (hd : 0 < d) : CS.At n d CS.begin n d 1 where
 hn := by simp [CS.begin]
 hd := by simp [CS.begin]
 det := by simp [CS.begin]
 hs := .inl rfl
 hD := hd
theorem CS.At.step {n d : Int} {c : CS} {N D s : Int} (h : c.At n d N D s) (hr : N % D ≠ 0) : (c.next (N / D)).At n d D (N % D) (-s) where
 hn := by
  have e := Int.mul_ediv_add_emod N D
  have := h.hn
  simp only [CS.next]
  grind
 hd := by
  have e := Int.mul_ediv_add_emod N D
  have := h.hd
  simp only [CS.next]
  grind
 det := by
  have := h.det
  simp only [CS.next]
  grind
 hs := by rcases h.hs with h | h <;> omega
 hD := by have := Int.emod_nonneg N (Int.ne_of_gt h.hD); omega
theorem CS.At.last {n d : Int} {c : CS} {N D s : Int} (h : c.At n d N D s) (hr : N % D = 0) : n = (c.next (N / D)).p * D ∧ d = (c.next (N / D)).q * D := by
 have e := Int.mul_ediv_add_emod N D
 rw [hr, Int.add_zero] at e
 have e1 := h.hn
 have e2 := h.hd
 simp only [CS.next]
 constructor <;> grind
theorem CS.At.semi {n d : Int} {c : CS} {N D s : Int} (h : c.At n d N D s) (j : Int) : n * (c.u + j * c.q) - d * (c.b + j * c.p) = s * (N - j * D) := by
 have := h.hn; have := h.hd; have := h.det
 grind
theorem CS.At.conv {n d : Int} {c : CS} {N D s : Int} (h : c.At n d N D s) : n * c.q - d * c.p = -(s * D) := by
 have := h.hn; have := h.hd; have := h.det
 grind
theorem between {A B C E P Q : Int} (hB : 0 ≤ B) (hE : 0 ≤ E) (det : B * C - A * E = 1) (h1 : A * Q < P * B) (h2 : P * E < C * Q) : B + E ≤ Q := by
 have e : Q = B * (C * Q - P * E) + E * (P * B - A * Q) := by grind
 have f1 : B * 1 ≤ B * (C * Q - P * E) := Int.mul_le_mul_of_nonneg_left (by omega) hB
 have f2 : E * 1 ≤ E * (P * B - A * Q) := Int.mul_le_mul_of_nonneg_left (by omega) hE
 omega
end Go.Proofs.YtidajgkepdkcbaaGreatDoor
end
section
namespace Go.Proofs.YtidajgkepdkcbaaGreatDoor
def er (n d : Int) (y : Int × Int) : Int := ((n * y.2 - d * y.1).natAbs : Int)
def nearer (n d : Int) (y z : Int × Int) : Prop := er n d y * z.2 < er n d z * y.2
instance (n d : Int) (y z : Int × Int) : Decidable (nearer n d y z) := by unfold nearer; infer_instance
def CS.most (c : CS) (a bound : Int) : Int := if c.q = 0 then a else if (bound - c.u) / c.q < a then (bound - c.u) / c.q else a
def js (j last : Int) : List Int := (List.range (last - j + 1).toNat).map fun i : Nat => j + (i : Int)
theorem mem_js {j last x : Int} : x ∈ js j last ↔ j ≤ x ∧ x ≤ last := by
 unfold js
 simp only [List.mem_map, List.mem_range]
 constructor
 ·rintro ⟨i, hi, rfl⟩; omega
 ·intro h; exact ⟨(x - j).toNat, by omega, by omega⟩
def semis (from_ : Int → Int → Int) (bound : Int) : Bool → CS → List Int → List (Int × Int)
 | _, _, [] => []
 | first, c, a :: l =>
  ((js (if first then a else from_ a (c.most a bound)) (c.most a bound)).filter fun j => first || decide (0 < j)).map (fun j => (c.b + j * c.p, c.u + j * c.q))
   ++ (if c.most a bound < a then [] else semis from_ bound false (c.next a) l)
def half (a _ : Int) : Int := a / 2
theorem CS.most_eq {c : CS} {a bound : Int} (hq : 1 ≤ c.q) (h : c.u + a * c.q ≤ bound) : c.most a bound = a := by
 unfold CS.most
 rw [if_neg (by omega), if_neg]
 have : a ≤ (bound - c.u) / c.q := (Int.le_ediv_iff_mul_le (by omega)).2 (by omega)
 omega
theorem CS.most_le {c : CS} {a bound : Int} : c.most a bound ≤ a := by
 unfold CS.most
 split
 ·omega
 ·split <;> omega
theorem CS.most_bound {c : CS} {a j bound : Int} (hq : 1 ≤ c.q) (h : j ≤ c.most a bound) : c.u + j * c.q ≤ bound := by
 have h1 : c.most a bound ≤ (bound - c.u) / c.q := by
  unfold CS.most
  rw [if_neg (by omega)]
  split <;> omega
 have h2 : j ≤ (bound - c.u) / c.q := by omega
 have := (Int.le_ediv_iff_mul_le (by omega)).1 h2
 omega
def near (n d q : Int) : Int := if d < 2 * (n * q % d) then n * q / d + 1 else n * q / d
theorem near_same {n d : Int} (hd : 0 < d) (q R : Int) : er n d (near n d q, q) ≤ er n d (R, q) := by
 have e0 := Int.mul_ediv_add_emod (n * q) d
 have r0 := Int.emod_nonneg (n * q) (b := d) (by omega)
 have r1 := Int.emod_lt_of_pos (n * q) hd
 unfold er near
 simp only
 generalize n * q / d = k at *
 generalize n * q % d = m at *
 have hk : d * k = k * d := Int.mul_comm _ _
 by_cases hR : R ≤ k
 ·have h1 : d * R ≤ d * k := Int.mul_le_mul_of_nonneg_left hR (by omega)
  split
  ·have : d * (k + 1) = d * k + d := by grind
   omega
  ·omega
 ·have h1 : d * (k + 1) ≤ d * R := Int.mul_le_mul_of_nonneg_left (by omega) (by omega)
  have : d * (k + 1) = d * k + d := by grind
  split <;> omega
def nears (n d : Int) : Int → Nat → List (Int × Int)
 | _, 0 => []
 | q, k + 1 => (near n d q, q) :: nears n d (q + 1) k
end Go.Proofs.YtidajgkepdkcbaaGreatDoor
end
section
namespace Go.Proofs.YtidajgkepdkcbaaGreatDoor
structure LowN (n d bound A B : Int) : Prop where
 b1 : 1 ≤ B
 b2 : B ≤ bound
 lt : 0 < n * B - d * A
 top : ∀ p q, 1 ≤ q → q ≤ bound → 0 < n * q - d * p → p * B ≤ A * q
structure HighN (n d bound C E : Int) : Prop where
 b1 : 1 ≤ E
 b2 : E ≤ bound
 lt : n * E - d * C < 0
 top : ∀ p q, 1 ≤ q → q ≤ bound → n * q - d * p < 0 → C * q ≤ p * E
structure Nb (n d bound A B C E : Int) : Prop where
 det : B * C - A * E = 1
 lo : 0 < n * B - d * A
 hi : n * E - d * C < 0
 b1 : 1 ≤ B
 b2 : B ≤ bound
 e1 : 1 ≤ E
 e2 : E ≤ bound
 sum : bound < B + E
theorem cross_lt {n d A B C E : Int} (hd : 0 < d) (hB : 0 < B) (hE : 0 < E) (h1 : 0 < n * B - d * A) (h2 : n * E - d * C < 0) : A * E < C * B := by
 have k1 : d * A * E < n * B * E := Int.mul_lt_mul_of_pos_right (by omega) hE
 have k2 : n * E * B < d * C * B := Int.mul_lt_mul_of_pos_right (by omega) hB
 have k3 : d * (A * E) < d * (C * B) := by grind
 exact Int.lt_of_mul_lt_mul_left k3 (by omega)
theorem Nb.low {n d bound A B C E : Int} (hd : 0 < d) (h : Nb n d bound A B C E) : LowN n d bound A B where
 b1 := h.b1
 b2 := h.b2
 lt := h.lo
 top := fun p q h1 h2 h3 => by
  apply Int.not_lt.1
  intro hlt
  have := between (by have := h.b1; omega) (by have := h.e1; omega) h.det (P := p) (Q := q) hlt (cross_lt hd (by omega) (by have := h.e1; omega) h3 h.hi)
  have := h.sum
  omega
theorem Nb.high {n d bound A B C E : Int} (hd : 0 < d) (h : Nb n d bound A B C E) : HighN n d bound C E where
 b1 := h.e1
 b2 := h.e2
 lt := h.hi
 top := fun p q h1 h2 h3 => by
  apply Int.not_lt.1
  intro hlt
  have := between (by have := h.b1; omega) (by have := h.e1; omega) h.det (P := p) (Q := q) (cross_lt hd (by have := h.b1; omega) (by omega) h.lo h3) hlt
  have := h.sum
  omega
theorem beside_low {n d bound c e : Int} (_hd : 0 < d) (h1 : n * e - d * c = 1) (he : 1 ≤ e) (h2 : e ≤ bound) (h3 : bound < e + d) : LowN n d bound c e where
 b1 := he
 b2 := h2
 lt := by omega
 top := fun p q g1 g2 g3 => by
  apply Int.not_lt.1
  intro hlt
  have := between (A := c) (B := e) (C := n) (E := d) (P := p) (Q := q) (by omega) (by omega) (by grind) hlt (by grind)
  omega
theorem beside_high {n d bound c e : Int} (_hd : 0 < d) (h1 : n * e - d * c = -1) (he : 1 ≤ e) (h2 : e ≤ bound) (h3 : bound < e + d) : HighN n d bound c e where
 b1 := he
 b2 := h2
 lt := by omega
 top := fun p q g1 g2 g3 => by
  apply Int.not_lt.1
  intro hlt
  have := between (A := n) (B := d) (C := c) (E := e) (P := p) (Q := q) (by omega) (by omega) (by grind) (by grind) hlt
  omega
theorem LowN.same {n d bound A B A' B' : Int} (h : LowN n d bound A B) (h' : LowN n d bound A' B') : A * B' = A' * B := by
 have := h.top A' B' h'.b1 h'.b2 h'.lt
 have := h'.top A B h.b1 h.b2 h.lt
 omega
theorem HighN.same {n d bound A B A' B' : Int} (h : HighN n d bound A B) (h' : HighN n d bound A' B') : A * B' = A' * B := by
 have := h.top A' B' h'.b1 h'.b2 h'.lt
 have := h'.top A B h.b1 h.b2 h.lt
 omega
def lastF (_ last : Int) : Int := last
def foldAr (n d : Int) : Option (Int × Int) → Option (Int × Int) → List (Int × Int) → Option (Int × Int) × Option (Int × Int)
 | lo, hi, [] => (lo, hi)
 | lo, hi, y :: ys => if y.1 * d < n * y.2 then foldAr n d (some y) hi ys else foldAr n d lo (some y) ys
theorem js_self (j : Int) : js j j = [j] := by
 unfold js
 rw [show (j - j + 1).toNat = 1 by omega]
 simp
theorem semis_last_pos {bound : Int} {c : CS} {a : Int} {l : List Int} (h : 0 < c.most a bound) :
  semis lastF bound false c (a :: l) = (c.b + c.most a bound * c.p, c.u + c.most a bound * c.q) :: (if c.most a bound < a then [] else semis lastF bound false (c.next a) l) := by
 rw [semis]
 simp only [Bool.false_eq_true, if_false, lastF, js_self, Bool.false_or]
 rw [List.filter_cons_of_pos (by simpa using h)]
 rfl
theorem semis_last_zero {bound : Int} {c : CS} {a : Int} {l : List Int} (h : c.most a bound = 0) (ha : 0 < a) : semis lastF bound false c (a :: l) = [] := by
 rw [semis]
 simp only [Bool.false_eq_true, if_false, lastF, js_self, Bool.false_or, h]
 rw [if_pos ha]
 rfl
theorem around_nb {n d bound : Int} (hd : 0 < d) (hb : bound < d) (hg : ∀ t p q, 0 < t → n = p * t → d = q * t → t = 1) :
  ∀ (l : List Int) (c : CS) (N D s : Int) (lo hi : Option (Int × Int)), c.At n d N D s → isCf l N D → D ≤ N → 0 ≤ c.u → c.u ≤ c.q → 1 ≤ c.q → c.q ≤ bound → (1 ≤ c.u ∨ c.u + c.q ≤ bound) →
   (s = 1 → hi = some (c.p, c.q) ∧ (1 ≤ c.u → lo = some (c.b, c.u))) → (s = -1 → lo = some (c.p, c.q) ∧ (1 ≤ c.u → hi = some (c.b, c.u))) →
   ∃ A B C E, foldAr n d lo hi (semis lastF bound false c l) = (some (A, B), some (C, E)) ∧ Nb n d bound A B C E
 | [], _, _, _, _, _, _, _, h, _, _, _, _, _, _, _, _ => h.elim
 | a :: l, c, N, D, s, lo, hi, hc, ⟨ha, hl⟩, hDN, hu0, huq, hq1, hqb, hor, hs1, hs2 => by
  have hD := hc.hD
  have e0 := Int.mul_ediv_add_emod N D
  have r0 := Int.emod_nonneg N (b := D) (by omega)
  have r1 := Int.emod_lt_of_pos N hD
  rw [← ha] at e0
  have hDa : D * a = a * D := Int.mul_comm _ _
  have ha1 : 1 ≤ a := by rw [ha]; exact (Int.le_ediv_iff_mul_le hD).2 (by omega)
  have hdet := hc.det
  have hconv := hc.conv
  by_cases hfit : c.u + a * c.q ≤ bound
  ·have hm : c.most a bound = a := CS.most_eq hq1 hfit
   have aq : 1 * c.q ≤ a * c.q := Int.mul_le_mul_of_nonneg_right ha1 (by omega)
   have hr : N % D ≠ 0 := by
    intro hr
    have hlast := hc.last hr
    rw [← ha] at hlast
    have := hg D _ _ hD hlast.1 hlast.2
    subst this
    simp only [CS.next] at hlast
    omega
   have hl : isCf l D (N % D) := by
    rcases hl with ⟨h, _⟩ | ⟨_, h⟩
    ·exact absurd h hr
    ·exact h
   have hsemi := hc.semi a
   have hstep := hc.step hr
   rw [← ha] at hstep
   rw [semis_last_pos (by omega), hm, if_neg (by omega)]
   simp only [foldAr]
   rcases hc.hs with hs | hs
   ·rw [if_pos (by rw [hs] at hsemi; have := Int.mul_comm d (c.b + a * c.p); omega)]
    refine around_nb hd hb hg l (c.next a) D (N % D) (-s) _ _ hstep hl (by omega) ?_ ?_ ?_ ?_ ?_ ?_ ?_
    ·simp only [CS.next]; omega
    ·simp only [CS.next]; omega
    ·simp only [CS.next]; omega
    ·simp only [CS.next]; omega
    ·left; simp only [CS.next]; omega
    ·intro h; omega
    ·intro _; exact ⟨rfl, fun _ => (hs1 hs).1⟩
   ·rw [if_neg (by rw [hs] at hsemi; have := Int.mul_comm d (c.b + a * c.p); omega)]
    refine around_nb hd hb hg l (c.next a) D (N % D) (-s) _ _ hstep hl (by omega) ?_ ?_ ?_ ?_ ?_ ?_ ?_
    ·simp only [CS.next]; omega
    ·simp only [CS.next]; omega
    ·simp only [CS.next]; omega
    ·simp only [CS.next]; omega
    ·left; simp only [CS.next]; omega
    ·intro _; exact ⟨rfl, fun _ => (hs2 hs).1⟩
    ·intro h; omega
  ·
   obtain ⟨j, hj⟩ : ∃ j, j = (bound - c.u) / c.q := ⟨_, rfl⟩
   have j0 := Int.mul_ediv_add_emod (bound - c.u) c.q
   have j1 := Int.emod_nonneg (bound - c.u) (b := c.q) (by omega)
   have j2 := Int.emod_lt_of_pos (bound - c.u) (b := c.q) (by omega)
   rw [← hj] at j0
   have jc : c.q * j = j * c.q := Int.mul_comm _ _
   have jc1 : (j + 1) * c.q = j * c.q + c.q := by grind
   have hja : j < a := by
    apply Int.not_le.1; intro h
    have : a * c.q ≤ j * c.q := Int.mul_le_mul_of_nonneg_right h (by omega)
    omega
   have hjn : 0 ≤ j := by rw [hj]; exact Int.ediv_nonneg (by omega) (by omega)
   have hm : c.most a bound = j := by unfold CS.most; rw [if_neg (by omega), ← hj, if_pos hja]
   have hjD : j * D + D ≤ a * D := by
    have : (j + 1) * D ≤ a * D := Int.mul_le_mul_of_nonneg_right (by omega) (by omega)
    have : (j + 1) * D = j * D + D := by grind
    omega
   have hsemi := hc.semi j
   have key : ∀ lo' hi', (s = 1 → lo' = some (c.b + j * c.p, c.u + j * c.q) ∧ hi' = some (c.p, c.q)) → (s = -1 → hi' = some (c.b + j * c.p, c.u + j * c.q) ∧ lo' = some (c.p, c.q)) → 1 ≤ c.u + j * c.q →
     ∃ A B C E, ((lo', hi') : Option (Int × Int) × Option (Int × Int)) = (some (A, B), some (C, E)) ∧ Nb n d bound A B C E := by
    intro lo' hi' k1 k2 k3
    rcases hc.hs with hs | hs
    ·obtain ⟨rfl, rfl⟩ := k1 hs
     rw [hs] at hdet hconv hsemi
     exact ⟨_, _, _, _, rfl, by grind, by omega, by omega, k3, by omega, by omega, by omega, by omega⟩
    ·obtain ⟨rfl, rfl⟩ := k2 hs
     rw [hs] at hdet hconv hsemi
     exact ⟨_, _, _, _, rfl, by grind, by omega, by omega, by omega, by omega, k3, by omega, by omega⟩
   by_cases hjz : j = 0
   ·have hu1 : 1 ≤ c.u := by
     rcases hor with h | h
     ·exact h
     ·exfalso; have hz : j * c.q = 0 := by rw [hjz, Int.zero_mul]
      omega
    rw [semis_last_zero (by omega) (by omega)]
    simp only [foldAr]
    refine key lo hi ?_ ?_ ?_
    ·intro hs; rw [hjz]; simp only [Int.zero_mul, Int.add_zero]; exact ⟨(hs1 hs).2 hu1, (hs1 hs).1⟩
    ·intro hs; rw [hjz]; simp only [Int.zero_mul, Int.add_zero]; exact ⟨(hs2 hs).2 hu1, (hs2 hs).1⟩
    ·rw [hjz]; omega
   ·have jq : 1 * c.q ≤ j * c.q := Int.mul_le_mul_of_nonneg_right (by omega) (by omega)
    rw [semis_last_pos (by omega), hm, if_pos hja]
    simp only [foldAr]
    rcases hc.hs with hs | hs
    ·rw [if_pos (by rw [hs] at hsemi; have := Int.mul_comm d (c.b + j * c.p); omega)]
     refine key _ _ (fun _ => ⟨rfl, (hs1 hs).1⟩) (fun h => absurd (hs.symm.trans h) (by decide)) (by omega)
    ·rw [if_neg (by rw [hs] at hsemi; have := Int.mul_comm d (c.b + j * c.p); omega)]
     refine key _ _ (fun h => absurd (hs.symm.trans h) (by decide)) (fun _ => ⟨rfl, (hs2 hs).1⟩) (by omega)
end Go.Proofs.YtidajgkepdkcbaaGreatDoor
end
section
namespace Go.Proofs.YtidajgkepdkcbaaGreatDoor
theorem js_sorted (j last : Int) : (js j last).Pairwise (· < ·) := by
 unfold js
 rw [List.pairwise_map]
 exact List.pairwise_lt_range.imp (fun {a b} h => by omega)
theorem semis_sorted {f : Int → Int → Int} {bound : Int} : ∀ (l : List Int) (c : CS), (∀ a ∈ l, 1 ≤ a) → 0 ≤ c.u → c.u ≤ c.q → 1 ≤ c.q →
  (semis f bound false c l).Pairwise (fun a b => a.2 < b.2) ∧ ∀ y ∈ semis f bound false c l, c.u + c.q ≤ y.2 ∧ y.2 ≤ bound
 | [], c, _, _, _, _ => by simp [semis]
 | a :: l, c, ha, h0, h1, h2 => by
  have ha1 := ha a (by simp)
  have aq : 1 * c.q ≤ a * c.q := Int.mul_le_mul_of_nonneg_right ha1 (by omega)
  obtain ⟨s1, s2⟩ := semis_sorted (f := f) (bound := bound) l (c.next a) (fun x hx => ha x (by simp [hx])) (by simp only [CS.next]; omega) (by simp only [CS.next]; omega) (by simp only [CS.next]; omega)
  have hmem : ∀ j ∈ (js (f a (c.most a bound)) (c.most a bound)).filter (fun j => false || decide (0 < j)), 0 < j ∧ j ≤ c.most a bound := by
   intro j hj
   obtain ⟨h3, h4⟩ := List.mem_filter.1 hj
   exact ⟨by simpa using h4, (mem_js.1 h3).2⟩
  have hlow : ∀ j, 0 < j → c.u + c.q ≤ c.u + j * c.q := by
   intro j hj
   have : 1 * c.q ≤ j * c.q := Int.mul_le_mul_of_nonneg_right (by omega) (by omega)
   omega
  have hlt : ∀ i j : Int, i < j → c.u + i * c.q < c.u + j * c.q := by
   intro i j hij
   have : i * c.q < j * c.q := Int.mul_lt_mul_of_pos_right hij (by omega)
   omega
  unfold semis
  simp only [Bool.false_eq_true, if_false]
  refine ⟨List.pairwise_append.2 ⟨?_, ?_, ?_⟩, ?_⟩
  ·rw [List.pairwise_map]
   exact ((js_sorted _ _).filter _).imp (fun {i j} h => hlt i j h)
  ·split
   ·exact List.Pairwise.nil
   ·exact s1
  ·intro x hx y hy
   obtain ⟨j, hj, rfl⟩ := List.mem_map.1 hx
   obtain ⟨h3, h4⟩ := hmem j hj
   split at hy
   ·exact absurd hy List.not_mem_nil
   ·have h5 := (s2 y hy).1
    have h6 : c.most a bound ≤ a := CS.most_le
    have h7 : j * c.q ≤ a * c.q := Int.mul_le_mul_of_nonneg_right (by omega) (by omega)
    simp only [CS.next] at h5
    simp only
    omega
  ·intro y hy
   rcases List.mem_append.1 hy with hy | hy
   ·obtain ⟨j, hj, rfl⟩ := List.mem_map.1 hy
    obtain ⟨h3, h4⟩ := hmem j hj
    exact ⟨hlow j h3, CS.most_bound h2 h4⟩
   ·split at hy
    ·exact absurd hy List.not_mem_nil
    ·have h5 := s2 y hy
     simp only [CS.next] at h5
     exact ⟨by omega, h5.2⟩
theorem semis_first {f : Int → Int → Int} {bound a : Int} {l : List Int} : semis f bound true CS.begin (a :: l) = (a, 1) :: semis f bound false (CS.begin.next a) l := by
 have hm : CS.begin.most a bound = a := by simp [CS.most, CS.begin]
 rw [semis, hm]
 simp only [if_true, js_self]
 rw [if_neg (by omega)]
 simp [CS.begin]
theorem next_begin (a : Int) : CS.begin.next a = ⟨a, 1, 1, 0⟩ := by simp [CS.begin, CS.next]
end Go.Proofs.YtidajgkepdkcbaaGreatDoor
end
section
namespace Go.Proofs.YtidajgkepdkcbaaGreatDoor
def cl (n d : Int) : Int := -((-n) / d)
theorem cl_spec {n d : Int} (hd : 0 < d) : n ≤ d * cl n d ∧ ∀ k, n ≤ d * k → cl n d ≤ k := by
 unfold cl
 have e0 := Int.mul_ediv_add_emod (-n) d
 have r0 := Int.emod_nonneg (-n) (b := d) (by omega)
 have r1 := Int.emod_lt_of_pos (-n) hd
 generalize (-n) / d = k at *
 have : d * -k = -(d * k) := Int.mul_neg _ _
 refine ⟨by omega, fun m hm => ?_⟩
 have hm1 : d * (m + 1) = d * m + d := by grind
 have : d * (-k) < d * (m + 1) := by omega
 have := Int.lt_of_mul_lt_mul_left this (by omega)
 omega
theorem fl_spec {n d : Int} (hd : 0 < d) : d * (n / d) ≤ n ∧ ∀ k, d * k ≤ n → k ≤ n / d := by
 have e0 := Int.mul_ediv_add_emod n d
 have r0 := Int.emod_nonneg n (b := d) (by omega)
 have r1 := Int.emod_lt_of_pos n hd
 generalize n / d = k at *
 refine ⟨by omega, fun m hm => ?_⟩
 have hk1 : d * (k + 1) = d * k + d := by grind
 have : d * m < d * (k + 1) := by omega
 have := Int.lt_of_mul_lt_mul_left this (by omega)
 omega
structure Simp (ln ld hn hd P Q : Int) : Prop where
 q1 : 1 ≤ Q
 lo : ln * Q ≤ P * ld
 hi : P * hd ≤ hn * Q
 min : ∀ u v, 1 ≤ v → ln * v ≤ u * ld → u * hd ≤ hn * v → P ≤ u ∧ Q ≤ v
theorem Simp.base {ln ld hn hd : Int} (h0 : 0 < ln) (h1 : 0 < ld) (h2 : 0 < hd) (h : cl ln ld ≤ hn / hd) : Simp ln ld hn hd (cl ln ld) 1 := by
 obtain ⟨c1, c2⟩ := cl_spec (n := ln) h1
 obtain ⟨f1, f2⟩ := fl_spec (n := hn) h2
 refine ⟨by omega, by have := Int.mul_comm ld (cl ln ld); omega, ?_, fun u v hv g1 g2 => ⟨c2 u ?_, hv⟩⟩
 ·have : hd * cl ln ld ≤ hd * (hn / hd) := Int.mul_le_mul_of_nonneg_left h (by omega)
  have := Int.mul_comm hd (cl ln ld); omega
 ·have : ln * 1 ≤ ln * v := Int.mul_le_mul_of_nonneg_left hv (by omega)
  have := Int.mul_comm ld u; omega
theorem Simp.step {ln ld hn hd a P Q : Int} (h1 : 0 < ld) (ha : 0 ≤ a) (hl : 0 < ln - a * ld) (hP : 0 < P)
  (h : Simp hd (hn - a * hd) ld (ln - a * ld) P Q) : Simp ln ld hn hd (a * P + Q) P := by
 have k1 := h.lo
 have k2 := h.hi
 have hq := h.q1
 refine ⟨by omega, by grind, by grind, fun u v hv g1 g2 => ?_⟩
 have m1 : 0 < u - a * v := by
  have e : (ln - a * ld) * v ≤ (u - a * v) * ld := by grind
  have : 0 < (ln - a * ld) * v := Int.mul_pos hl (by omega)
  apply Int.not_le.1
  intro hle
  have := Int.mul_nonneg (a := -(u - a * v)) (b := ld) (by omega) (by omega)
  rw [Int.neg_mul] at this
  omega
 have := h.min v (u - a * v) (by omega) (by grind) (by grind)
 have e : a * P ≤ a * v := Int.mul_le_mul_of_nonneg_left this.1 ha
 omega
theorem Simp.first {ln ld hn hd P Q : Int} (h1 : 0 < ld) (h2 : 0 < hd) (h : Simp ln ld hn hd P Q) : cl (ln * Q) ld = P ∧ P ≤ hn * Q / hd ∧ ∀ q, 1 ≤ q → cl (ln * q) ld ≤ hn * q / hd → Q ≤ q := by
 obtain ⟨c1, c2⟩ := cl_spec (n := ln * Q) h1
 have hP : cl (ln * Q) ld ≤ P := c2 P (by have := h.lo; have := Int.mul_comm P ld; omega)
 have hhi : cl (ln * Q) ld * hd ≤ hn * Q := by
  have : cl (ln * Q) ld * hd ≤ P * hd := Int.mul_le_mul_of_nonneg_right hP (by omega)
  have := h.hi
  omega
 have hm := h.min (cl (ln * Q) ld) Q h.q1 (by have := Int.mul_comm ld (cl (ln * Q) ld); omega) hhi
 refine ⟨by omega, (fl_spec h2).2 P (by have := h.hi; have := Int.mul_comm P hd; omega), fun q hq hle => ?_⟩
 obtain ⟨d1, _⟩ := cl_spec (n := ln * q) h1
 obtain ⟨f1, _⟩ := fl_spec (n := hn * q) h2
 refine (h.min (cl (ln * q) ld) q hq (by have := Int.mul_comm ld (cl (ln * q) ld); omega) ?_).2
 have : hd * cl (ln * q) ld ≤ hd * (hn * q / hd) := Int.mul_le_mul_of_nonneg_left hle (by omega)
 have := Int.mul_comm hd (cl (ln * q) ld)
 omega
structure Nd where
 a : Int
 b : Int
 x : Int
 y : Int
deriving DecidableEq
end Go.Proofs.YtidajgkepdkcbaaGreatDoor
end
section
namespace Go.Proofs.YtidajgkepdkcbaaGreatDoor
open Go.RowKit Go.Lib Go.Proofs.YtidajgkepdkcbaaGreatDoorW.PrintWords Go.Proofs.YtidajgkepdkcbaaGreatDoorW.PrintLast Go.Proofs.YtidajgkepdkcbaaGreatDoorW.PrintMore PF
def cmp (a b : Int) : Int := if a < b then -1 else if b < a then 1 else 0
theorem bytesLess_val : ∀ (a b : List UInt8), AllDig a → AllDig b → a.length = b.length → (Op.bytesLess a b = true ↔ val a < val b)
 | [], [], _, _, _ => by simp [Op.bytesLess]
 | [], _ :: _, _, _, h => by simp at h
 | _ :: _, [], _, _, h => by simp at h
 | x :: a, y :: b, ha, hb, h => by
  have hl : a.length = b.length := by simpa using h
  have ih := bytesLess_val a b (fun c hc => ha c (by simp [hc])) (fun c hc => hb c (by simp [hc])) hl
  have va := val_lt_pow a (fun c hc => ha c (by simp [hc]))
  have vb := val_lt_pow b (fun c hc => hb c (by simp [hc]))
  have hx := ha x (by simp)
  have hy := hb y (by simp)
  rw [val_cons, val_cons, ← hl]
  rw [← hl] at vb
  unfold Op.bytesLess
  simp only [Bool.or_eq_true, Bool.and_eq_true, decide_eq_true_eq, beq_iff_eq]
  rw [ih]
  have hp : 0 < 10 ^ a.length := Nat.pow_pos (by omega)
  constructor
  ·rintro (h1 | ⟨rfl, h1⟩)
   ·have h1' : x.toNat < y.toNat := h1
    have := Nat.mul_le_mul_right (10 ^ a.length) (show (x.toNat - 48) + 1 ≤ y.toNat - 48 by omega)
    rw [Nat.add_mul, Nat.one_mul] at this
    omega
   ·omega
  ·intro h1
   rcases Nat.lt_trichotomy x.toNat y.toNat with h2 | h2 | h2
   ·exact .inl h2
   ·have := byte_ext h2
    subst this
    exact .inr ⟨rfl, by omega⟩
   ·exfalso
    have := Nat.mul_le_mul_right (10 ^ a.length) (show (y.toNat - 48) + 1 ≤ x.toNat - 48 by omega)
    rw [Nat.add_mul, Nat.one_mul] at this
    omega
theorem len_mono {m n : Nat} (h : (decDigits m).length < (decDigits n).length) : m < n := by
 rcases Nat.lt_or_ge m n with h1 | h1
 ·exact h1
 ·exfalso
  have hp := len_pos m
  have e : (decDigits m).length = ((decDigits m).length - 1) + 1 := by omega
  have h2 := (len_le_iff m ((decDigits m).length - 1)).1 (by omega)
  have h3 := (len_le_iff n ((decDigits m).length - 1)).2 (by omega)
  omega
theorem DCompare_U {m n : Nat} (hm : (U m).size ≤ 1000) (hn : (U n).size ≤ 1000) : decimal_Compare.f (U m) (U n) = some (cmp m n) := by
 unfold decimal_Compare.f
 rw [if_pos ⟨by omega, by omega⟩, U_toList, U_toList]
 congr 1
 rw [U_size, U_size]
 unfold cmp
 by_cases h1 : (decDigits m).length < (decDigits n).length
 ·rw [if_pos h1, if_pos (by have := len_mono h1; omega)]
 rw [if_neg h1]
 by_cases h2 : (decDigits n).length < (decDigits m).length
 ·have := len_mono h2
  rw [if_pos h2, if_neg (by omega), if_pos (by omega)]
 rw [if_neg h2]
 have hb := bytesLess_val (decDigits m) (decDigits n) (allDig_decDigits m) (allDig_decDigits n) (by omega)
 rw [val_decDigits, val_decDigits] at hb
 by_cases h3 : m < n
 ·rw [if_pos (hb.2 h3), if_pos (by omega)]
 rw [if_neg (fun h => h3 (hb.1 h))]
 by_cases h4 : m = n
 ·subst h4; simp
 ·rw [if_neg (fun h => h4 (decDigits_inj h)), if_neg (by omega : ¬ (m : Int) < (n : Int)), if_pos (by omega)]
theorem sg_lt (a : Int) : (sg a = -1 ∧ a < 0) ∨ (sg a = 0 ∧ a = 0) ∨ (sg a = 1 ∧ 0 < a) := by
 unfold sg; by_cases h : a = 0
 ·simp [h]
 ·by_cases h2 : a < 0
  ·simp [h, h2]
  ·simp [h, h2]; omega
theorem Compare_T {a b : Int} (ha : (T a).size ≤ 1000) (hb : (T b).size ≤ 1000) : whole_Compare.f (T a) (T b) = some (cmp a b) := by
 have ua := U_size_T a
 have ub := U_size_T b
 unfold whole_Compare.f
 rw [whole_Sign_T, whole_Sign_T]
 simp only [Option.bind_some]
 by_cases h : sg a = sg b
 ·rw [if_pos h, whole_split_T, whole_split_T]
  simp only [Option.bind_some]
  by_cases h1 : a < 0
  ·have h2 : b < 0 := by rcases sg_lt a with x | x | x <;> rcases sg_lt b with y | y | y <;> omega
   rw [if_pos (by simp [h1]), DCompare_U (by omega) (by omega)]
   simp only [Option.bind_some]
   congr 1
   unfold cmp
   by_cases h3 : a < b
   ·rw [if_pos (by omega), if_pos h3]
   ·rw [if_neg (by omega), if_neg h3]
    by_cases h4 : b < a
    ·rw [if_pos (by omega), if_pos h4]
    ·rw [if_neg (by omega), if_neg h4]
  ·have h2 : ¬ b < 0 := by rcases sg_lt a with x | x | x <;> rcases sg_lt b with y | y | y <;> omega
   rw [if_neg (by simp [h1]), DCompare_U (by omega) (by omega)]
   simp only [Option.bind_some]
   congr 1
   unfold cmp
   by_cases h3 : a < b
   ·rw [if_pos (by omega), if_pos h3]
   ·rw [if_neg (by omega), if_neg h3]
    by_cases h4 : b < a
    ·rw [if_pos (by omega), if_pos h4]
    ·rw [if_neg (by omega), if_neg h4]
 ·rw [if_neg h]
  unfold cmp
  by_cases h1 : sg a < sg b
  ·rw [if_pos h1, if_pos (by rcases sg_lt a with x | x | x <;> rcases sg_lt b with y | y | y <;> omega)]
  ·rw [if_neg h1, if_neg (by rcases sg_lt a with x | x | x <;> rcases sg_lt b with y | y | y <;> omega), if_pos (by rcases sg_lt a with x | x | x <;> rcases sg_lt b with y | y | y <;> omega)]
def S15 (i : Int) : Prop := -1000000000000000 < i ∧ i < 1000000000000000
theorem S15.S17 {i : Int} (h : S15 i) : S17 i := by unfold S15 at h; unfold Go.Proofs.YtidajgkepdkcbaaGreatDoor.S17; omega
theorem S15.size {i : Int} (h : S15 i) : (T i).size ≤ 1000 := by have := h.S17.size; omega
section
variable (w : World) (hG : GWorld w)
include hG
theorem cAdd {a b : Int} (ha : S17 a) (hb : S17 b) : Calls Tryz.prog 42 #[.string (T a), .string (T b)] w fun e w' => e = .returned (.string (T (a + b))) ∧ Below w.heap.size w w' :=
 whole_Add.calls 0 _ _ _ w hG (Add_T ha hb 0)
theorem cDivMod {a b : Int} (ha : S17 a) (hb : S17 b) (h0 : 0 < b) : Calls Tryz.prog 55 #[.string (T a), .string (T b)] w fun e w' => e = .returned (.tuple #[.string (T (a / b)), .string (T (a % b)), .int .i64 0]) ∧ Below w.heap.size w w' := by
 obtain ⟨k, hk⟩ := (DivMod_T ha hb h0).rounds
 exact whole_DivMod.calls k _ _ _ _ _ w hG hk
theorem cOver {n d : Int} (hn : S17 n) (hd : S17 d) (h0 : 0 < d) : Calls Tryz.prog 41 #[.string (T n), .string (T d)] w fun e w' => e = .returned (.agg #[.string (fr n d).1, .string (fr n d).2]) ∧ Below w.heap.size w w' := by
 obtain ⟨k, hk⟩ := (Over_T hn hd h0).rounds
 exact convergent_over.calls k _ _ _ _ w hG hk
end
theorem cCompare {a b : Int} (ha : S17 a) (hb : S17 b) (w : World) : Calls Tryz.prog 58 #[.string (T a), .string (T b)] w fun e w' => e = .returned (.int .i64 (cmp a b)) ∧ Below w.heap.size w w' :=
 whole_Compare.calls _ _ _ w (Compare_T (by have := ha.size; omega) (by have := hb.size; omega))
end Go.Proofs.YtidajgkepdkcbaaGreatDoor
end
section
namespace Go.Proofs.YtidajgkepdkcbaaGreatDoor
open Go.RowKit
def ofT (ts : List Nat) : Obj → Bool
 | .cells _ t _ => ts.contains t
 | _ => false
structure Kept (s : Obj → Bool) (b : Nat) (A B : World) : Prop where
 os : B.os = A.os
 tape : B.tape = A.tape
 output : B.output = A.output
 size : A.heap.size ≤ B.heap.size
 block : ∀ (k : Nat) (o : Obj), A.heap[k]? = some o → (k < b ∨ s o = false) → B.heap[k]? = some o
theorem Kept.refl (s : Obj → Bool) (b : Nat) (A : World) : Kept s b A A := ⟨rfl, rfl, rfl, Nat.le_refl _, fun _ _ h _ => h⟩
theorem Kept.trans {s : Obj → Bool} {b : Nat} {A B C : World} (h : Kept s b A B) (k : Kept s b B C) : Kept s b A C :=
 ⟨k.os.trans h.os, k.tape.trans h.tape, k.output.trans h.output, Nat.le_trans h.size k.size, fun i o ho hs => k.block i o (h.block i o ho hs) hs⟩
theorem Kept.mono {s : Obj → Bool} {b b' : Nat} {A B : World} (h : Kept s b' A B) (hb : b ≤ b') : Kept s b A B :=
 ⟨h.os, h.tape, h.output, h.size, fun i o ho hs => h.block i o ho (hs.imp (fun h => Nat.lt_of_lt_of_le h hb) id)⟩
theorem Kept.of_below {s : Obj → Bool} {b : Nat} {A B : World} (h : Below A.heap.size A B) : Kept s b A B :=
 ⟨h.os, h.tape, h.output, h.size, fun i _ ho _ => (h.block i (Array.getElem?_eq_some_iff.1 ho).1).trans ho⟩
theorem Kept.below {s : Obj → Bool} {b n : Nat} {w A B : World} (hk : Kept s b A B) (h : Below n w A) (hn : n ≤ b) (hw : n ≤ w.heap.size) : Below n w B :=
 ⟨hk.os.trans h.os, hk.tape.trans h.tape, hk.output.trans h.output, Nat.le_trans h.size hk.size, fun k hk' => by
  have h1 := h.block k hk'
  have h2 : A.heap[k]? = some (w.heap[k]'(by omega)) := by rw [h1]; exact Array.getElem?_eq_getElem _
  rw [hk.block k _ h2 (.inl (by omega)), ← h2, h1]⟩
theorem Kept.alloc {s : Obj → Bool} {b : Nat} {A B : World} (h : Kept s b A B) (o : Obj) : Kept s b A (B.alloc o) :=
 h.trans (.of_below ((Below.refl _ _).alloc (Nat.le_refl _) o))
theorem Kept.setCell {s : Obj → Bool} {b : Nat} {A B : World} (h : Kept s b A B) {p : Addr} {o : Obj} (ho : B.heap[p.block]? = some o) (hb : b ≤ p.block) (hs : s o = true) (v : Value) : Kept s b A (B.setCell p v) :=
 h.trans ⟨rfl, rfl, rfl, by simp, fun k o' ho' hk => by
  have : k ≠ p.block := by
   rintro rfl
   rw [ho] at ho'
   obtain rfl := Option.some.inj ho'
   rcases hk with hk | hk
   ·omega
   ·rw [hs] at hk; cases hk
  rw [Below.heap_setCell _ _ _ _ this]; exact ho'⟩
def SeqKept {α : Type} (P : Program) (gf : Nat) (lb : Array Value) (encs : α → Array Value) (s1 s2 : Obj → Bool) (Inv : World → Prop) (ys : List α) (w : World) : Prop :=
 ∀ (n l : Nat) (J : Nat → World → Prop) (W : World), Kept (fun _ => false) 0 w W → (∀ i A, J i A → Inv A) → (∀ i A B, J i A → Kept s1 W.heap.size A B → J i B) →
  (∀ i x W1, ys[i]? = some x → J i W1 → YieldAt Fence.wide (n - 1) P l (encs x) W1 fun e W' => e = .returned (.bool true) ∧ J (i + 1) W' ∧ Kept s2 0 W1 W') →
  J 0 W →
  CallsIn Fence.wide n P gf (#[.func (.yield l) #[] #[]] ++ lb) W fun e W' => (∃ v, e = .returned v) ∧ J ys.length W'
theorem putObj_kept {s : Obj → Bool} {b : Nat} {A B : World} {l : Nat} {o o' : Obj} (h : Kept s b (A.putObj l o) B) (hl : A.heap[l]? = some o') (ho : s o = false) : Kept s b A (B.putObj l o') := by
 have hlt := (Array.getElem?_eq_some_iff.1 hl).1
 have hB : B.heap[l]? = some o := h.block l o (World.putObj_heap_same hlt) (.inr ho)
 refine ⟨h.os, h.tape, h.output, by have := h.size; simp at this ⊢; exact this, fun k o1 ho1 hk => ?_⟩
 by_cases e : k = l
 ·subst e
  rw [World.putObj_heap_same (Array.getElem?_eq_some_iff.1 hB).1, ← hl, ho1]
 ·rw [World.putObj_heap_other e]
  exact h.block k o1 ((World.putObj_heap_other e).trans ho1) hk
variable {P : Program}
theorem wpIn_range_kept {α : Type} {g : Operand} {ps : Array Tmp} {assign body : Code} {Q : Exit → Act → World → Prop} {a : Act} {w : World} {n : Nat}
  {gf : Nat} {lb : Array Value} (hg : a.eval g = .func (.func gf) #[] lb) (eg : ∀ args w, (callFunc gf args).run P w = .ok (.enter gf args) w)
  {encs : α → Array Value} {ys : List α} {s1 s2 : Obj → Bool} (hs2 : ∀ o : Obj, o.isCells = false → s2 o = false)
  {Inv : World → Prop} (hseq : SeqKept P gf lb encs s1 s2 Inv ys w) (hps : ∀ x, (encs x).size = ps.size)
  (I : Nat → World → Prop) (I1 : Nat → α → Act → World → Prop)
  (hInv : ∀ i A, I i A → Inv A)
  (hI : ∀ i A B, I i A → Kept s1 w.heap.size A B → I i B)
  (hIp : ∀ i A l o o', I i A → w.heap.size ≤ l → A.heap[l]? = some o → o.isCells = false → I i (A.putObj l o'))
  (hI1p : ∀ i x a A l o o', I1 i x a A → w.heap.size ≤ l → A.heap[l]? = some o → o.isCells = false → I1 i x a (A.putObj l o'))
  (h0 : I 0 w)
  (hassign : ∀ (m l i : Nat) (x : α) (W : World), ys[i]? = some x → I i W → assign.wpIn (Fence.wide.inRound l) m P (Exit.then (fun a₁ W₁ => Kept s2 0 W W₁ ∧ I1 i x a₁ W₁) (fun _ _ _ => False)) { tmps := (ps.zip (encs x)).foldl (fun t (p, v) => t.setIfInBounds p v) a.tmps, defers := [] } W)
  (hbody : ∀ (m l i : Nat) (x : α) (a₁ : Act) (W : World), ys[i]? = some x → I1 i x a₁ W → body.wpIn (Fence.wide.inRound l) m P (fun e _ W' => e = .normal ∧ Kept s2 0 W W' ∧ I (i + 1) W') a₁ W)
  (hdone : ∀ (D : Nat) (W : World), I ys.length W → W.heap[D]? = some (.deferred (some [])) → w.heap.size ≤ D → Q .normal { a with defers := { target := .collected D, args := #[] } :: a.defers } W) :
  (Code.rangeFunc g ps assign body).wpIn Fence.wide n P Q a w := by
 refine wpIn_rangeFunc ?_
 intro fn hfn
 obtain ⟨rec, hrec⟩ : ∃ rec : LoopState → Loop, rec = fun st => { state := st, pending := none, fn, tmps := a.tmps, params := ps, assign, body, defers := w.heap.size } := ⟨_, rfl⟩
 obtain ⟨W1, hW1⟩ : ∃ W1, (w.alloc (.deferred (some []))).alloc (.loop (rec .ready)) = W1 := ⟨_, rfl⟩
 have hL1 : W1.heap[w.heap.size + 1]? = some (.loop (rec .ready)) := by
  rw [← hW1]; have := World.alloc_heap_new (w.alloc (.deferred (some []))) (.loop (rec .ready)); rwa [World.size_alloc] at this
 have hK1 : W1.heap[w.heap.size]? = some (.deferred (some [])) := by
  rw [← hW1]; exact (Below.heap_alloc _ _ _ (by simp)).trans (World.alloc_heap_new w _)
 have hkw : ∀ s b, Kept s b w W1 := fun s b => by rw [← hW1]; exact ((Kept.refl s b w).alloc _).alloc _
 have hsz : W1.heap.size = w.heap.size + 2 := by rw [← hW1]; simp
 refine ⟨w.heap.size + 1, [{ target := .collected w.heap.size, args := #[] }], W1, { target := .fn (.func gf) lb, args := #[.func (.yield (w.heap.size + 1)) #[] #[]] }, W1, gf,
  #[.func (.yield (w.heap.size + 1)) #[] #[]] ++ lb, W1, ?_, ?_, fun _ _ => trivial, ?_, fun h => by simp [Fence.wide] at h, ?_⟩
 ·rw [← hW1, hrec]; exact run_enterLoop_outer _ _ _ _ _
 ·simp only [resolve, hg]
  simp [go_sem]
 ·simp [invoke, go_sem, eg]
 ·refine (hseq (n - 1) (w.heap.size + 1) (fun i W => I i W ∧ W.heap[w.heap.size + 1]? = some (.loop (rec .ready)) ∧ W.heap[w.heap.size]? = some (.deferred (some []))) W1 (hkw _ _) (fun i A h => hInv i A h.1) ?_ ?_ ⟨hI _ _ _ h0 (hkw _ _), hL1, hK1⟩).mono ?_
  ·rintro i A B ⟨h1, h2, h3⟩ hk
   exact ⟨hI _ _ _ h1 (hk.mono (by omega)), hk.block _ _ h2 (.inl (by omega)), hk.block _ _ h3 (.inl (by omega))⟩
  ·rintro i x W hx ⟨hi, hl, hk⟩
   have hlt : w.heap.size + 1 < W.heap.size := (Array.getElem?_eq_some_iff.1 hl).1
   have hy := run_yield (P := P) (args := encs x) hl (by rw [hrec]; exact hps x)
   rw [hrec] at hy
   refine ⟨fn, _, assign, body, hy, roundIn_of_wpIn hfn (wpIn_mono (hassign _ _ i x W hx hi) ?_)⟩
   rintro e a3 W3 hp
   cases e with
   | normal =>
    obtain ⟨hk3, hi3⟩ := hp
    have hl3 := hk3.block _ _ hl (.inr (hs2 _ rfl))
    have hlt3 := (Array.getElem?_eq_some_iff.1 hl3).1
    have hd3 := hk3.block _ _ hk (.inr (hs2 _ rfl))
    have hbr := run_beginRound hl3 (by rw [hrec]) (P := P)
    rw [hrec] at hbr
    refine ⟨_, hbr, wpIn_mono (hbody _ _ i x a3 _ hx (hI1p _ _ _ _ _ _ _ hi3 (by omega) hl3 rfl)) ?_⟩
    rintro e a4 W4 ⟨rfl, hk4, hi4⟩
    have hl4 := hk4.block _ _ (World.putObj_heap_same hlt3) (.inr (hs2 _ rfl))
    have hlt4 := (Array.getElem?_eq_some_iff.1 hl4).1
    have her := run_endRound (P := P) none hl4
    refine ⟨_, _, her, rfl, ⟨hIp _ _ _ _ _ hi4 (by omega) hl4 rfl, ?_, ?_⟩, hk3.trans ?_⟩
    ·rw [World.putObj_heap_same hlt4, hrec]; rfl
    ·rw [World.putObj_heap_other (by omega)]
     refine hk4.block _ _ ?_ (.inr (hs2 _ rfl))
     rw [World.putObj_heap_other (by omega)]; exact hd3
    ·have := putObj_kept (o' := .loop (rec .ready)) hk4 hl3 (hs2 _ rfl)
     rw [hrec] at this
     exact this
   | ret => exact hp.elim
   | exit id => exact hp.elim
   | goto t => exact hp.elim
   | panic ch => exact hp.elim
   | outgrown => exact hp.elim
  ·rintro e W2 ⟨⟨v, rfl⟩, hi, hl, hk⟩
   refine ⟨none, _, by have := run_endLoop (P := P) hl (by rw [hrec]; simp); rw [hrec] at this; exact this, hdone _ _ (hIp _ _ _ _ _ hi (by omega) hl rfl) ?_ (Nat.le_refl _)⟩
   rw [World.putObj_heap_other (by omega)]; exact hk
theorem wpIn_range_kept' {α : Type} {g : Operand} {ps : Array Tmp} {assign body : Code} {Q : Exit → Act → World → Prop} {a : Act} {w : World} {n : Nat}
  {gf : Nat} {lb : Array Value} (hg : a.eval g = .func (.func gf) #[] lb) (eg : ∀ args w, (callFunc gf args).run P w = .ok (.enter gf args) w)
  {encs : α → Array Value} {ys : List α} {s1 s2 : Obj → Bool} (hs2 : ∀ o : Obj, o.isCells = false → s2 o = false)
  {Inv : World → Prop} (hseq : SeqKept P gf lb encs s1 s2 Inv ys w) (hps : ∀ x, (encs x).size = ps.size)
  (I : Nat → World → Prop) (aFr : Nat → α → Act) (I2 : Nat → α → Nat → World → Prop)
  (hInv : ∀ i A, I i A → Inv A)
  (hI : ∀ i A B, I i A → Kept s1 w.heap.size A B → I i B)
  (hIp : ∀ i A l o o', I i A → w.heap.size ≤ l → A.heap[l]? = some o → o.isCells = false → I i (A.putObj l o'))
  (hI2p : ∀ i x b A l o o', I2 i x b A → w.heap.size ≤ l → A.heap[l]? = some o → o.isCells = false → I2 i x b (A.putObj l o'))
  (h0 : I 0 w)
  (hassign : ∀ (m l i : Nat) (x : α) (W : World), ys[i]? = some x → I i W → assign.wpIn (Fence.wide.inRound l) m P (Exit.then (fun a₁ W₁ => Kept s2 0 W W₁ ∧ ∃ b, a₁ = aFr b x ∧ I2 i x b W₁) (fun _ _ _ => False)) { tmps := (ps.zip (encs x)).foldl (fun t (p, v) => t.setIfInBounds p v) a.tmps, defers := [] } W)
  (hbody : ∀ (m l i : Nat) (x : α) (b : Nat) (W : World), ys[i]? = some x → I2 i x b W → body.wpIn (Fence.wide.inRound l) m P (fun e _ W' => e = .normal ∧ Kept s2 0 W W' ∧ I (i + 1) W') (aFr b x) W)
  (hdone : ∀ (D : Nat) (W : World), I ys.length W → W.heap[D]? = some (.deferred (some [])) → w.heap.size ≤ D → Q .normal { a with defers := { target := .collected D, args := #[] } :: a.defers } W) :
  (Code.rangeFunc g ps assign body).wpIn Fence.wide n P Q a w :=
 wpIn_range_kept hg eg hs2 hseq hps I (fun i x a W => ∃ b, a = aFr b x ∧ I2 i x b W) hInv hI hIp
  (fun i x a A l o o' h hl hA ho => by obtain ⟨b, rfl, h⟩ := h; exact ⟨b, rfl, hI2p _ _ _ _ _ _ _ h hl hA ho⟩) h0 hassign
  (fun m l i x a₁ W hx h => by obtain ⟨b, rfl, h⟩ := h; exact hbody m l i x b W hx h) hdone
end Go.Proofs.YtidajgkepdkcbaaGreatDoor
end
section
namespace Go.Proofs.YtidajgkepdkcbaaGreatDoor
open Go.RowKit Go.Lib Go.Proofs.YtidajgkepdkcbaaGreatDoorW.PrintWords Go.Proofs.YtidajgkepdkcbaaGreatDoorW.PrintLast Go.Proofs.YtidajgkepdkcbaaGreatDoorW.PrintMore PF
def pvs (c : CS) : Array Value := #[.string (T c.p), .string (T c.q), .string (T c.b), .string (T c.u)]
structure CS.Ok (c : CS) : Prop where
 p : S15 c.p
 q : S15 c.q
 b : S15 c.b
 u : S15 c.u
 q0 : 0 ≤ c.q
 u0 : 0 ≤ c.u
structure CS.StepOk (c : CS) (j : Int) : Prop where
 ok : c.Ok
 hj : S15 j
 jp : j.natAbs * c.p.natAbs < 10000000000000000
 jq : j.natAbs * c.q.natAbs < 10000000000000000
theorem Most_T {c : CS} {a bound : Int} (hc : c.Ok) (ha : S15 a) (hb : 1 ≤ bound) (hb2 : bound ≤ 1000000) :
  Ev (fun k => convergent_pair_most.f k (T c.p) (T c.q) (T c.b) (T c.u) (T a) bound) (T (c.most a bound)) := by
 have hu1 := hc.u
 have hbS : S17 bound := by unfold S17; omega
 unfold convergent_pair_most.f
 by_cases h0 : c.q = 0
 ·refine ev_const fun k => ?_
  rw [if_pos ((T_zero_iff _).2 h0)]
  unfold CS.most
  rw [if_pos h0]
 ·refine Ev.congr (fun k => if_neg (fun h => h0 ((T_zero_iff _).1 h))) ?_
  have hq1 : 0 < c.q := by have := hc.q0; omega
  have hsub : S17 (bound - c.u) := by unfold S15 at hu1; unfold S17; omega
  have hj15 : S15 ((bound - c.u) / c.q) := by
   have hu0 := hc.u0
   have h1 : ((bound - c.u) / c.q).natAbs ≤ (bound - c.u).natAbs := Int.natAbs_ediv_le_natAbs ..
   unfold S15 at hu1 ⊢; omega
  refine Ev.bind (ev_const fun _ => whole_Of_T (by omega) (by omega)) (Ev.bind (ev_const fun k => Sub_T hbS hc.u.S17 k) (Ev.bind (DivMod_T hsub hc.q.S17 hq1) (Ev.bind (ev_const fun _ => Compare_T hj15.size ha.size) (ev_const fun _ => ?_))))
  unfold CS.most cmp
  rw [if_neg h0]
  by_cases hl : (bound - c.u) / c.q < a
  ·rw [if_pos hl, if_pos hl, if_pos (by omega)]
  ·rw [if_neg hl, if_neg hl]
   split
   ·rw [if_neg (by omega)]
   ·rw [if_neg (by omega)]
theorem Step_T {c : CS} {j : Int} (h : c.StepOk j) : Ev (fun k => convergent_pair_step.f k (T c.p) (T c.q) (T c.b) (T c.u) (T j)) (T (c.b + j * c.p), T (c.u + j * c.q)) := by
 have e1 : S17 (j * c.p) := by
  have := h.jp
  rw [← Int.natAbs_mul] at this
  unfold S17; omega
 have e2 : S17 (j * c.q) := by
  have := h.jq
  rw [← Int.natAbs_mul] at this
  unfold S17; omega
 unfold convergent_pair_step.f
 exact Ev.bind (Mul_T h.hj.S17 h.ok.p.S17 h.jp) (Ev.bind (ev_const fun k => Add_T h.ok.b.S17 e1 k) (Ev.bind (Mul_T h.hj.S17 h.ok.q.S17 h.jq) (Ev.bind (ev_const fun k => Add_T h.ok.u.S17 e2 k) (ev_const fun _ => rfl))))
theorem Next_T {c : CS} {a : Int} (h : c.StepOk a) : Ev (fun k => convergent_pair_next.f k (T c.p) (T c.q) (T c.b) (T c.u) (T a)) (T (c.next a).p, T (c.next a).q, T (c.next a).b, T (c.next a).u) := by
 unfold convergent_pair_next.f
 exact Ev.bind (Step_T h) (ev_const fun _ => rfl)
section
variable (w : World) (hG : GWorld w)
include hG
theorem cMost {c : CS} {a bound : Int} (hc : c.Ok) (ha : S15 a) (hb : 1 ≤ bound) (hb2 : bound ≤ 1000000) :
  Calls Tryz.prog 85 #[.agg (pvs c), .string (T a), .int .i64 bound] w fun e w' => e = .returned (.string (T (c.most a bound))) ∧ Below w.heap.size w w' := by
 obtain ⟨k, hk⟩ := (Most_T hc ha hb hb2).rounds
 exact convergent_pair_most.calls k _ _ _ _ _ _ _ w hG hk
theorem cStep {c : CS} {j : Int} (h : c.StepOk j) :
  Calls Tryz.prog 83 #[.agg (pvs c), .string (T j)] w fun e w' => e = .returned (.tuple #[.string (T (c.b + j * c.p)), .string (T (c.u + j * c.q))]) ∧ Below w.heap.size w w' := by
 obtain ⟨k, hk⟩ := (Step_T h).rounds
 exact convergent_pair_step.calls k _ _ _ _ _ _ _ w hG hk
theorem cNext {c : CS} {a : Int} (h : c.StepOk a) :
  Calls Tryz.prog 48 #[.agg (pvs c), .string (T a)] w fun e w' => e = .returned (.agg (pvs (c.next a))) ∧ Below w.heap.size w w' := by
 obtain ⟨k, hk⟩ := (Next_T h).rounds
 exact convergent_pair_next.calls k _ _ _ _ _ _ _ _ _ w hG hk
end
theorem cBegin (w : World) : Calls Tryz.prog 47 #[] w fun e w' => e = .returned (.agg (pvs CS.begin)) ∧ Below w.heap.size w w' := by
 refine (convergent_begin.calls _ _ _ _ w rfl).mono ?_
 rintro e w' ⟨rfl, h⟩
 refine ⟨by unfold pvs CS.begin; rw [lit0, lit1], ?_⟩
 first | exact h | exact h.below
theorem cSign (a : Int) (w : World) : Calls Tryz.prog 63 #[.string (T a)] w fun e w' => e = .returned (.int .i64 (sg a)) ∧ Below w.heap.size w w' := by
 refine (whole_Sign.calls _ _ w (whole_Sign_T a)).mono ?_
 rintro e w' ⟨rfl, h⟩
 exact ⟨rfl, by first | exact h | exact h.below⟩
end Go.Proofs.YtidajgkepdkcbaaGreatDoor
end
section
namespace Go.Proofs.YtidajgkepdkcbaaGreatDoor
open Go.RowKit Go.Lib Go.Proofs.YtidajgkepdkcbaaGreatDoorW.PrintWords Go.Proofs.YtidajgkepdkcbaaGreatDoorW.PrintLast Go.Proofs.YtidajgkepdkcbaaGreatDoorW.PrintMore PF
theorem wide_fn (f : Nat) : Fence.wide.fn f = True := rfl
theorem wide_depth : Fence.wide.depth = none := rfl
attribute [local go_sem] Oper.semAt_some wide_fn wide_depth
structure Reads (ts : List Int) (bound : Int) (fv : Value) (gl gb gf g cap : Nat) (cur : Array Value) (w : World) : Prop where
 l : w.heap[gl]? = some (.cells #[.slice (some ⟨g, 0, none⟩) ts.length cap] 34 (0, 0))
 b : w.heap[gb]? = some (.cells #[.int .i64 bound] 3 (0, 0))
 f : w.heap[gf]? = some (.cells #[fv] 79 (0, 0))
 d : w.heap[g]? = some (.cells cur 22 (0, 0))
 at_ : ∀ (k : Nat) (a : Int), ts[k]? = some a → cur[k]? = some (.string (T a))
def encF (y : Int × Int) : Array Value := #[.agg #[.string (fr y.1 y.2).1, .string (fr y.1 y.2).2]]
abbrev softI : Obj → Bool := ofT [71]
abbrev softB : Obj → Bool := ofT [24, 37]
theorem st71 {W : World} {b : Nat} {old : Array Value} (c : CS) (h : W.heap[b]? = some (.cells old 71 (0, 0))) (hs : old.size = 4) :
  Sem.run Tryz.prog (storeCells ⟨b, 0, none⟩ (pvs c).toList) W = .ok () (W.setRow b (pvs c)) := by
 have := run_storeCells_from (P := Tryz.prog) b 71 (pvs c).toList 0 old W h (by simp [pvs, hs]) (by simp [pvs, Value.oneCell'])
 simpa using this
theorem cell0 {W : World} {b : Nat} {v : Value} {t : Nat} (h : W.heap[b]? = some (.cells #[v] t (0, 0))) : W.cell? ⟨b, 0, none⟩ = some v := by rw [cell_of_row W b 0 _ _ _ h]; rfl
noncomputable def unT (v : Value) : Int := match v with
 | .string s => by classical exact if h : ∃ i, s = T i then h.choose else 0
 | _ => 0
theorem unT_T (i : Int) : unT (.string (T i)) = i := by
 unfold unT
 have h : ∃ j, T i = T j := ⟨i, rfl⟩
 simp only [h, dif_pos]
 exact (T_inj h.choose_spec).symm
theorem below_row {B g : Nat} {w0 w : World} (hb : Below B w0 w) (hg : B ≤ g) (cs : Array Value) : Below B w0 (w.setRow g cs) :=
 ⟨hb.os, hb.tape, hb.output, by rw [setRow_size]; exact hb.size, fun k hk => by rw [setRow_other _ _ _ _ (by omega)]; exact hb.block k hk⟩
theorem Kept.row {s : Obj → Bool} {b g : Nat} {A B : World} (h : Kept s b A B) {old : Array Value} {t : Nat} (hg : B.heap[g]? = some (.cells old t (0, 0))) (hb : b ≤ g) (hs : s (.cells old t (0, 0)) = true) (cs : Array Value) : Kept s b A (B.setRow g cs) :=
 h.trans ⟨rfl, rfl, rfl, by rw [setRow_size]; exact Nat.le_refl _, fun k o ho hk => by
  have : k ≠ g := by
   rintro rfl
   rw [hg] at ho
   obtain rfl := Option.some.inj ho
   rcases hk with hk | hk
   ·omega
   ·rw [hs] at hk; cases hk
  rw [setRow_other _ _ _ _ this]; exact ho⟩
theorem alloc71 {W W1 : World} (H : Below W.heap.size W W1) (old : Array Value) (hs : old.size = 4) (c : CS) :
  ∃ W2, Sem.run Tryz.prog (storeCells ⟨W1.heap.size, 0, none⟩ (pvs c).toList) (W1.alloc (.cells old 71)) = .ok () W2 ∧ W2.heap[W1.heap.size]? = some (.cells (pvs c) 71 (0, 0)) ∧ Below W.heap.size W W2 := by
 refine ⟨_, st71 c (World.alloc_heap_new _ _) hs, setRow_heap _ _ _ _ _ _ (World.alloc_heap_new _ _), ?_⟩
 exact below_row (H.alloc H.size _) H.size _
structure TermOk (f : Int → Int → Int) (bound : Int) (k : Nat) (c : CS) (a : Int) : Prop where
 ok : c.Ok
 ha : S15 a
 start : S15 (if k = 0 then a else f a (c.most a bound))
 last : S15 (c.most a bound)
 steps : ∀ j, (if k = 0 then a else f a (c.most a bound)) ≤ j → j ≤ c.most a bound → (k = 0 ∨ 0 < j) → c.StepOk j ∧ S17 (c.b + j * c.p) ∧ S17 (c.u + j * c.q) ∧ 0 < c.u + j * c.q
 next : c.most a bound = a → c.StepOk a
theorem Reads.below {ts : List Int} {bound : Int} {fv : Value} {gl gb gf g cap : Nat} {cur : Array Value} {w w' : World} (h : Reads ts bound fv gl gb gf g cap cur w) (hb : Below w.heap.size w w') : Reads ts bound fv gl gb gf g cap cur w' :=
 ⟨(hb.block _ (Array.getElem?_eq_some_iff.1 h.l).1).trans h.l, (hb.block _ (Array.getElem?_eq_some_iff.1 h.b).1).trans h.b, (hb.block _ (Array.getElem?_eq_some_iff.1 h.f).1).trans h.f, (hb.block _ (Array.getElem?_eq_some_iff.1 h.d).1).trans h.d, h.at_⟩
theorem Reads.kept {ts : List Int} {bound : Int} {fv : Value} {gl gb gf g cap : Nat} {cur : Array Value} {w w' : World} {s : Obj → Bool} (h : Reads ts bound fv gl gb gf g cap cur w) (hk : Kept s 0 w w')
  (h1 : ∀ x, s (.cells x 34 (0, 0)) = false) (h2 : ∀ x, s (.cells x 3 (0, 0)) = false) (h3 : ∀ x, s (.cells x 79 (0, 0)) = false) (h4 : ∀ x, s (.cells x 22 (0, 0)) = false) : Reads ts bound fv gl gb gf g cap cur w' :=
 ⟨hk.block _ _ h.l (.inr (h1 _)), hk.block _ _ h.b (.inr (h2 _)), hk.block _ _ h.f (.inr (h3 _)), hk.block _ _ h.d (.inr (h4 _)), h.at_⟩
theorem Reads.row {ts : List Int} {bound : Int} {fv : Value} {gl gb gf g cap : Nat} {cur : Array Value} {w : World} (h : Reads ts bound fv gl gb gf g cap cur w) {b t : Nat} {old : Array Value} (hb : w.heap[b]? = some (.cells old t (0, 0))) (cs : Array Value)
  (h1 : t ≠ 34) (h2 : t ≠ 3) (h3 : t ≠ 79) (h4 : t ≠ 22) : Reads ts bound fv gl gb gf g cap cur (w.setRow b cs) := by
 have ne : ∀ {k : Nat} {x : Array Value} {u : Nat}, w.heap[k]? = some (.cells x u (0, 0)) → t ≠ u → (w.setRow b cs).heap[k]? = some (.cells x u (0, 0)) := by
  intro k x u hk hu
  rw [setRow_other]
  ·exact hk
  ·rintro rfl
   rw [hb] at hk
   exact hu (by injection Option.some.inj hk)
 exact ⟨ne h.l h1, ne h.b h2, ne h.f h3, ne h.d h4, h.at_⟩
def OuterR (ts : List Int) (bound : Int) (fv : Value) (gl gb gf g cap : Nat) (cur : Array Value) (f : Int → Int → Int) (G : Nat → CS → Prop) (J : Nat → World → Prop) (ys : List (Int × Int)) (bc : Nat) (v : Value) (wr : World) : Prop :=
 ∃ (k i : Nat) (c : CS), v = .int .i64 (k : Int) ∧ k ≤ ts.length ∧ i ≤ ys.length ∧ ys.drop i = semis f bound (decide (k = 0)) c (ts.drop k) ∧ G k c ∧ wr.heap[bc]? = some (.cells (pvs c) 71 (0, 0)) ∧ J i wr ∧ Reads ts bound fv gl gb gf g cap cur wr
def OuterM (ts : List Int) (v : Value) : Nat := ts.length - (match v with | .int _ k => k.toNat | _ => 0)
def InnerR (ts : List Int) (bound : Int) (fv : Value) (gl gb gf g cap : Nat) (cur : Array Value) (J : Nat → World → Prop) (ys : List (Int × Int)) (bc : Nat) (c : CS) (first : Bool) (start last : Int) (rest : List (Int × Int)) (v : Value) (wr : World) : Prop :=
 ∃ (j : Int) (i : Nat), v = .string (T j) ∧ start ≤ j ∧ (j ≤ last + 1 ∨ j = start) ∧ i ≤ ys.length ∧ ys.drop i = ((js j last).filter fun j => first || decide (0 < j)).map (fun j => (c.b + j * c.p, c.u + j * c.q)) ++ rest ∧ wr.heap[bc]? = some (.cells (pvs c) 71 (0, 0)) ∧ J i wr ∧ Reads ts bound fv gl gb gf g cap cur wr
noncomputable def InnerM (last : Int) (v : Value) : Nat := (last + 1 - unT v).toNat
theorem js_cons {j last : Int} (h : j ≤ last) : js j last = j :: js (j + 1) last := by
 unfold js
 have e : (last - j + 1).toNat = (last - (j + 1) + 1).toNat + 1 := by omega
 rw [e, List.range_succ_eq_map, List.map_cons, List.map_map]
 congr 1
 ·simp
 ·apply List.map_congr_left
  intro x _
  simp only [Function.comp_apply, Nat.succ_eq_add_one]
  omega
theorem js_nil {j last : Int} (h : last < j) : js j last = [] := by
 unfold js
 rw [show (last - j + 1).toNat = 0 by omega]
 rfl
theorem pcells {W : World} {b : Nat} {c : CS} {t : Nat} (h : W.heap[b]? = some (.cells (pvs c) t (0, 0))) :
  W.cell? ⟨b, 0, none⟩ = some (.string (T c.p)) ∧ W.cell? ⟨b, 1, none⟩ = some (.string (T c.q)) ∧ W.cell? ⟨b, 2, none⟩ = some (.string (T c.b)) ∧ W.cell? ⟨b, 3, none⟩ = some (.string (T c.u)) := by
 refine ⟨?_, ?_, ?_, ?_⟩ <;> (rw [cell_of_row W b _ _ _ _ h]; rfl)
set_option maxRecDepth 100000 in
set_option maxHeartbeats 4000000 in
theorem semi_seq {ts : List Int} {bound : Int} (hb : 1 ≤ bound) (hb2 : bound ≤ 1000000) (hlen : ts.length ≤ 1000000) {fno gl gb gf g cap : Nat} {cur : Array Value} {f : Int → Int → Int} {w : World}
  (heg : ∀ args w, (callFunc fno args).run Tryz.prog w = .ok (.enter fno args) w) (hf : ∀ (k : Nat) (a last : Int) (w : World), GWorld w → S15 a → S15 last → Calls Tryz.prog fno #[.int .i64 k, .string (T a), .string (T last)] w fun e w' => e = .returned (.string (T (f a last))) ∧ Below w.heap.size w w')
  (G : Nat → CS → Prop) (g0 : G 0 CS.begin) (gs : ∀ k c a, G k c → ts[k]? = some a → TermOk f bound k c a ∧ (c.most a bound = a → G (k + 1) (c.next a)))
  (hR : Reads ts bound (.func (.func fno) #[] #[]) gl gb gf g cap cur w) :
  SeqKept Tryz.prog 84 #[.pointer (some ⟨gl, 0, none⟩), .pointer (some ⟨gb, 0, none⟩), .pointer (some ⟨gf, 0, none⟩)] encF softI softB GWorld (semis f bound true CS.begin ts) w := by
 intro n l J W hw hInv hJ hY h0
 refine callsIn_of_wp Tryz.func84 rfl trivial ?_ rfl
 simp only [Tryz.ntmps84, List.size_toArray, List.length_cons, List.length_nil, Nat.reduceAdd, Nat.reduceSub, Array.replicate_succ, Array.replicate_zero, List.push_toArray, List.append_toArray, List.nil_append, List.cons_append]
 have hRW := hR.kept hw (fun _ => rfl) (fun _ => rfl) (fun _ => rfl) (fun _ => rfl)
 clear hR hw
 obtain ⟨ys, hys⟩ : ∃ ys, ys = semis f bound true CS.begin ts := ⟨_, rfl⟩
 rw [← hys] at hY ⊢
 replace hys := Lib.hid hys
 gi_wp2_with (gi_at_call 47; refine (callsIn_wide.2 (cBegin _)).mono ?_; rintro e W1 ⟨rfl, H1⟩; obtain ⟨W2, hst, hc2, H2⟩ := alloc71 H1 #[.string ⟨#[]⟩, .string ⟨#[]⟩, .string ⟨#[]⟩, .string ⟨#[]⟩] rfl CS.begin; have hbc := H1.size; replace hbc := Lib.hid hbc; replace H2 := Lib.hid H2; clear H1; have hll := cell0 (hRW.below H2.out).l)
 gi_loopw [13] (fun v wr => OuterR ts bound (.func (.func fno) #[] #[]) gl gb gf g cap cur f G J ys W1.heap.size v wr) (fun v _ => OuterM ts v)
 case atStart =>
  exact ⟨0, 0, CS.begin, rfl, Nat.zero_le _, Nat.zero_le _, by simp [hys.out], g0, hc2, hJ _ _ _ h0 (.of_below (H2.out.mono (Nat.le_refl _))), hRW.below H2.out⟩
 case round =>
  clear hst hc2 hll H2 h0 hRW
  obtain ⟨k, i, c, rfl, hk, hi, hd, hg, hc, hJi, hRr⟩ := hrel
  rcases Nat.lt_or_ge k ts.length with hlt | hge
  ·obtain ⟨a, ha⟩ : ∃ a, ts[k]? = some a := ⟨ts[k], List.getElem?_eq_getElem hlt⟩
   obtain ⟨ht, hn⟩ := gs k c a hg ha
   have hGW := hInv _ _ hJi
   have f1 : wr.cell? ⟨g, k, none⟩ = some (.string (T a)) := by rw [cell_of_row wr g k _ _ _ hRr.d]; exact hRr.at_ k a ha
   have f2 := cell0 hRr.b
   obtain ⟨p0, p1, p2, p3⟩ := pcells hc
   have f4 := cMost wr hGW ht.ok ht.ha hb hb2
   simp only [pvs] at f4
   have hdd : ys.drop i = ((js (if k = 0 then a else f a (c.most a bound)) (c.most a bound)).filter fun j => decide (k = 0) || decide (0 < j)).map (fun j => (c.b + j * c.p, c.u + j * c.q)) ++ (if c.most a bound < a then [] else semis f bound false (c.next a) (ts.drop (k + 1))) := by
    rw [hd, List.drop_eq_getElem_cons hlt, semis]
    have : ts[k] = a := by rw [List.getElem?_eq_getElem hlt] at ha; exact Option.some.inj ha
    rw [this]
    by_cases h : k = 0 <;> simp [h]
   have hlti : (k : Int) < (ts.length : Int) := by omega
   replace hdd := Lib.hid hdd
   replace hd := Lib.hid hd
   replace ht := Lib.hid ht
   replace hn := Lib.hid hn
   replace hRr := Lib.hid hRr
   replace hc := Lib.hid hc
   replace hk := Lib.hid hk
   replace hi := Lib.hid hi
   replace ha := Lib.hid ha
   replace hlt := Lib.hid hlt
   replace hg := Lib.hid hg
   rcases Nat.eq_zero_or_pos k with rfl | hk0
   ·gi_wp2_with (gi_at_call 85; refine (callsIn_wide.2 f4).mono ?_; rintro e W3 ⟨rfl, H3⟩; have f5 := cell0 (hRr.out.below H3).f; replace H3 := Lib.hid H3)
    have H4 := H3
    clear f1 f2 f4 f5 p0 p1 p2 p3
    gi_loopw [9] (fun v wr => InnerR ts bound (.func (.func fno) #[] #[]) gl gb gf g cap cur J ys W1.heap.size c true a (c.most a bound) (if c.most a bound < a then [] else semis f bound false (c.next a) (ts.drop (0 + 1))) v wr) (fun v _ => InnerM (c.most a bound) v)
    case atStart =>
     refine ⟨_, i, rfl, Int.le_refl _, .inr rfl, hi.out, ?_, (H4.out.block _ (Array.getElem?_eq_some_iff.1 hc.out).1).trans hc.out, hJ _ _ _ hJi (.of_below H4.out), hRr.out.below H4.out⟩
     have := hdd.out
     simpa using this
    case round =>
     obtain ⟨j, i', rfl, hj0, hj1, hi', hd', hc', hJ', hR'⟩ := hrel
     clear hdd hd hRr hc hJi hGW H3 H4
     have hGW' := hInv _ _ hJ'
     have hS := ht.out
     have hst : S15 a := hS.ha
     have hj17 : S17 j := by have h1 := hS.last; unfold S15 at h1 hst; unfold S17; omega
     have q1 := fun W => cCompare hj17 hS.last.S17 W
     by_cases hle : j ≤ c.most a bound
     ·have hcmp : cmp j (c.most a bound) ≤ 0 := by unfold cmp; split; omega; rw [if_neg (by omega)]; omega
      have q2 := fun W => cSign j W
      rw [js_cons hle] at hd'
      by_cases hpos : 0 < j
      ·have hx : ys[i']? = some (c.b + j * c.p, c.u + j * c.q) ∧ ys.drop (i' + 1) = ((js (j + 1) (c.most a bound)).filter fun j => true || decide (0 < j)).map (fun j => (c.b + j * c.p, c.u + j * c.q)) ++ (if c.most a bound < a then [] else semis f bound false (c.next a) (ts.drop (0 + 1))) := by
        rw [List.filter_cons_of_pos (by simp [])] at hd'
        simp only [List.map_cons, List.cons_append] at hd'
        constructor
        ·rw [← List.head?_drop, hd']; rfl
        ·rw [← List.drop_drop (i := 1), hd']; rfl
       obtain ⟨s1, s2, s3, s4⟩ := hS.steps j (by first | (rw [if_neg hk1]; exact hj0) | (rw [if_pos rfl]; exact hj0)) hle (by first | exact .inl rfl | exact .inl rfl)
       obtain ⟨p0, p1, p2, p3⟩ := pcells hc'
       have q4 := fun W hG => cStep W hG s1
       simp only [pvs] at q4
       have q5 := fun W hG => cOver W hG s2 s3 s4
       have q6 := fun W hG => cAdd W hG hj17 (b := 1) (by unfold S17; omega)
       rw [← lit1] at q6
       have hY' := fun W hJ => hY i' _ W hx.1 hJ
       have hlt' : i' < ys.length := (List.getElem?_eq_some_iff.1 hx.1).1
       replace hx := Lib.hid hx
       replace hd' := Lib.hid hd'
       replace hj0 := Lib.hid hj0
       replace hj1 := Lib.hid hj1
       replace hi' := Lib.hid hi'
       replace hlt' := Lib.hid hlt'
       replace hR' := Lib.hid hR'
       replace hc' := Lib.hid hc'
       replace hle := Lib.hid hle
       replace hS := Lib.hid hS
       replace hY' := Lib.hid hY'
       have hsg : 0 < sg j := by rw [sg_pos hpos]; omega
       replace hpos := Lib.hid hpos
       gi_wp2_with (first
        | (gi_at_call 58; with_reducible refine (callsIn_wide.2 (q1 _)).mono ?_; rintro e W5 ⟨rfl, H5⟩; obtain ⟨p0, p1, p2, p3⟩ := pcells ((H5.block _ (Array.getElem?_eq_some_iff.1 hc'.out).1).trans hc'.out); replace H5 := Lib.hid H5)
        | (gi_at_call 63; with_reducible refine (callsIn_wide.2 (q2 _)).mono ?_; rintro e W6 ⟨rfl, H6⟩; replace H6 := below_step H5.out H6; obtain ⟨p0, p1, p2, p3⟩ := pcells ((H6.block _ (Array.getElem?_eq_some_iff.1 hc'.out).1).trans hc'.out); replace H6 := Lib.hid H6)
        | (gi_at_call 83; with_reducible refine (callsIn_wide.2 (q4 _ (hGW'.below H6.out))).mono ?_; rintro e W7 ⟨rfl, H7⟩; replace H7 := Lib.hid (below_step H6.out H7)))
       refine (callsIn_wide.2 (q5 _ (hGW'.below H7.out))).mono ?_
       rintro e W8 ⟨rfl, H8⟩
       replace H8 := Lib.hid (below_step H7.out H8)
       obtain ⟨fn_, tmps_, assign_, body_, hy, hR1⟩ := hY'.out W8 (hJ _ _ _ hJ' (.of_below H8.out))
       simp only [encF] at hy
       replace hR1 := Lib.hid hR1
       gi_wp2
       refine hR1.out.mono ?_
       rintro e W9 ⟨rfl, hJ9, hk9⟩
       have hG9 := hInv _ _ hJ9
       have hc9 := hk9.block _ _ ((H8.out.block _ (Array.getElem?_eq_some_iff.1 hc'.out).1).trans hc'.out) (.inr rfl)
       have hR9 := (hR'.out.below H8.out).kept hk9 (fun _ => rfl) (fun _ => rfl) (fun _ => rfl) (fun _ => rfl)
       replace hk9 := Lib.hid hk9
       replace hc9 := Lib.hid hc9
       replace hR9 := Lib.hid hR9
       clear hy
       gi_wp2_with (gi_at_call 42; with_reducible refine (callsIn_wide.2 (q6 _ hG9)).mono ?_; rintro e W10 ⟨rfl, H10⟩; replace H10 := Lib.hid H10)
       refine ⟨⟨j + 1, i' + 1, rfl, by have := hj0.out; omega, .inl (by have := hle.out; omega), hlt'.out, hx.out.2, (H10.out.block _ (Array.getElem?_eq_some_iff.1 hc9.out).1).trans hc9.out, hJ _ _ _ hJ9 (.of_below H10.out), hR9.out.below H10.out⟩, ?_⟩
       unfold InnerM
       rw [unT_T, unT_T]
       have := hle.out
       omega
      ·have hx : ys[i']? = some (c.b + j * c.p, c.u + j * c.q) ∧ ys.drop (i' + 1) = ((js (j + 1) (c.most a bound)).filter fun j => true || decide (0 < j)).map (fun j => (c.b + j * c.p, c.u + j * c.q)) ++ (if c.most a bound < a then [] else semis f bound false (c.next a) (ts.drop (0 + 1))) := by
        rw [List.filter_cons_of_pos (by simp [])] at hd'
        simp only [List.map_cons, List.cons_append] at hd'
        constructor
        ·rw [← List.head?_drop, hd']; rfl
        ·rw [← List.drop_drop (i := 1), hd']; rfl
       obtain ⟨s1, s2, s3, s4⟩ := hS.steps j (by first | (rw [if_neg hk1]; exact hj0) | (rw [if_pos rfl]; exact hj0)) hle (by first | exact .inl rfl | exact .inl rfl)
       obtain ⟨p0, p1, p2, p3⟩ := pcells hc'
       have q4 := fun W hG => cStep W hG s1
       simp only [pvs] at q4
       have q5 := fun W hG => cOver W hG s2 s3 s4
       have q6 := fun W hG => cAdd W hG hj17 (b := 1) (by unfold S17; omega)
       rw [← lit1] at q6
       have hY' := fun W hJ => hY i' _ W hx.1 hJ
       have hlt' : i' < ys.length := (List.getElem?_eq_some_iff.1 hx.1).1
       replace hx := Lib.hid hx
       replace hd' := Lib.hid hd'
       replace hj0 := Lib.hid hj0
       replace hj1 := Lib.hid hj1
       replace hi' := Lib.hid hi'
       replace hlt' := Lib.hid hlt'
       replace hR' := Lib.hid hR'
       replace hc' := Lib.hid hc'
       replace hle := Lib.hid hle
       replace hS := Lib.hid hS
       replace hY' := Lib.hid hY'
       have hsg : sg j ≤ 0 := by rcases sg_lt j with x | x | x <;> omega
       replace hpos := Lib.hid hpos
       gi_wp2_with (first
        | (gi_at_call 58; with_reducible refine (callsIn_wide.2 (q1 _)).mono ?_; rintro e W5 ⟨rfl, H5⟩; obtain ⟨p0, p1, p2, p3⟩ := pcells ((H5.block _ (Array.getElem?_eq_some_iff.1 hc'.out).1).trans hc'.out); replace H5 := Lib.hid H5)
        | (gi_at_call 63; with_reducible refine (callsIn_wide.2 (q2 _)).mono ?_; rintro e W6 ⟨rfl, H6⟩; replace H6 := below_step H5.out H6; obtain ⟨p0, p1, p2, p3⟩ := pcells ((H6.block _ (Array.getElem?_eq_some_iff.1 hc'.out).1).trans hc'.out); replace H6 := Lib.hid H6)
        | (gi_at_call 83; with_reducible refine (callsIn_wide.2 (q4 _ (hGW'.below H6.out))).mono ?_; rintro e W7 ⟨rfl, H7⟩; replace H7 := Lib.hid (below_step H6.out H7)))
       refine (callsIn_wide.2 (q5 _ (hGW'.below H7.out))).mono ?_
       rintro e W8 ⟨rfl, H8⟩
       replace H8 := Lib.hid (below_step H7.out H8)
       obtain ⟨fn_, tmps_, assign_, body_, hy, hR1⟩ := hY'.out W8 (hJ _ _ _ hJ' (.of_below H8.out))
       simp only [encF] at hy
       replace hR1 := Lib.hid hR1
       gi_wp2
       refine hR1.out.mono ?_
       rintro e W9 ⟨rfl, hJ9, hk9⟩
       have hG9 := hInv _ _ hJ9
       have hc9 := hk9.block _ _ ((H8.out.block _ (Array.getElem?_eq_some_iff.1 hc'.out).1).trans hc'.out) (.inr rfl)
       have hR9 := (hR'.out.below H8.out).kept hk9 (fun _ => rfl) (fun _ => rfl) (fun _ => rfl) (fun _ => rfl)
       replace hk9 := Lib.hid hk9
       replace hc9 := Lib.hid hc9
       replace hR9 := Lib.hid hR9
       clear hy
       gi_wp2_with (gi_at_call 42; with_reducible refine (callsIn_wide.2 (q6 _ hG9)).mono ?_; rintro e W10 ⟨rfl, H10⟩; replace H10 := Lib.hid H10)
       refine ⟨⟨j + 1, i' + 1, rfl, by have := hj0.out; omega, .inl (by have := hle.out; omega), hlt'.out, hx.out.2, (H10.out.block _ (Array.getElem?_eq_some_iff.1 hc9.out).1).trans hc9.out, hJ _ _ _ hJ9 (.of_below H10.out), hR9.out.below H10.out⟩, ?_⟩
       unfold InnerM
       rw [unT_T, unT_T]
       have := hle.out
       omega
     ·have hcmp : 0 < cmp j (c.most a bound) := by unfold cmp; rw [if_neg (by omega), if_pos (by omega)]; omega
      rw [js_nil (by omega)] at hd'
      simp only [List.filter_nil, List.map_nil, List.nil_append] at hd'
      have q3 := fun W => cCompare hS.last.S17 hS.ha.S17 W
      have hml : c.most a bound ≤ a := CS.most_le
      replace hj0 := Lib.hid hj0
      replace hj1 := Lib.hid hj1
      replace hi' := Lib.hid hi'
      replace hc' := Lib.hid hc'
      replace hR' := Lib.hid hR'
      replace hle := Lib.hid hle
      replace hS := Lib.hid hS
      by_cases hla : c.most a bound < a
      ·have hcmp2 : cmp (c.most a bound) a < 0 := by unfold cmp; rw [if_pos hla]; omega
       rw [if_pos hla] at hd'
       replace hd' := Lib.hid hd'
       replace hla := Lib.hid hla
       replace hml := Lib.hid hml
       gi_wp2_with (gi_at_call 58; first | (with_reducible refine (callsIn_wide.2 (q1 _)).mono ?_; rintro e W5 ⟨rfl, H5⟩; replace H5 := Lib.hid H5) | (with_reducible refine (callsIn_wide.2 (q3 _)).mono ?_; rintro e W6 ⟨rfl, H6⟩; replace H6 := Lib.hid (below_step H5.out H6)))
       refine bodyPost_ret (results_none rfl _ _ _) rfl ?_
       have : i' = ys.length := by
        have h1 := List.drop_eq_nil_iff.1 hd'.out
        have h2 := hi'.out
        omega
       exact ⟨⟨_, rfl⟩, this ▸ hJ _ _ _ hJ' (.of_below H6.out)⟩
      ·have hcmp2 : 0 ≤ cmp (c.most a bound) a := by unfold cmp; rw [if_neg hla]; split <;> omega
       have hma : c.most a bound = a := by omega
       have q7 := fun W hG => cNext W hG (hS.out.next hma)
       have hG1 := hn.out hma
       rw [if_neg hla] at hd'
       replace hd' := Lib.hid hd'
       replace hla := Lib.hid hla
       replace hml := Lib.hid hml
       replace hma := Lib.hid hma
       replace hG1 := Lib.hid hG1
       have q7' : ∀ W, GWorld W → Calls Tryz.prog 48 #[.agg #[.string (T c.p), .string (T c.q), .string (T c.b), .string (T c.u)], .string (T a)] W fun e w' => e = .returned (.agg (pvs (c.next a))) ∧ Below W.heap.size W w' := q7
       clear q7
       gi_wp2_with (first
        | (gi_at_call 58; first | (with_reducible refine (callsIn_wide.2 (q1 _)).mono ?_; rintro e W5 ⟨rfl, H5⟩; replace H5 := Lib.hid H5) | (with_reducible refine (callsIn_wide.2 (q3 _)).mono ?_; rintro e W6 ⟨rfl, H6⟩; replace H6 := below_step H5.out H6; obtain ⟨p0, p1, p2, p3⟩ := pcells ((H6.block _ (Array.getElem?_eq_some_iff.1 hc'.out).1).trans hc'.out); replace H6 := Lib.hid H6))
        | (gi_at_call 48; with_reducible refine (callsIn_wide.2 (q7' _ (hGW'.below H6.out))).mono ?_; rintro e W7 ⟨rfl, H7⟩; replace H7 := below_step H6.out H7; have hst7 := st71 (c.next a) ((H7.block _ (Array.getElem?_eq_some_iff.1 hc'.out).1).trans hc'.out) rfl; replace H7 := Lib.hid H7))
       refine ⟨⟨0 + 1, i', c.next a, ?_, hlt.out, hi'.out, ?_, hG1.out, setRow_heap _ _ _ _ _ _ ((H7.out.block _ (Array.getElem?_eq_some_iff.1 hc'.out).1).trans hc'.out), hJ _ _ _ hJ' ((Kept.of_below H7.out).row ((H7.out.block _ (Array.getElem?_eq_some_iff.1 hc'.out).1).trans hc'.out) hbc.out rfl _), (hR'.out.below H7.out).row ((H7.out.block _ (Array.getElem?_eq_some_iff.1 hc'.out).1).trans hc'.out) _ (by decide) (by decide) (by decide) (by decide)⟩, ?_⟩
       ·first | rfl | (simp; done)
       ·simpa using hd'.out
       ·have := hlt.out
        unfold OuterM
        simp only
        omega
   ·have hkp : (0 : Int) < (k : Int) := by omega
    replace hk0 := Lib.hid hk0
    gi_wp2_with (gi_at_call 85; refine (callsIn_wide.2 f4).mono ?_; rintro e W3 ⟨rfl, H3⟩; have f5 := cell0 (hRr.out.below H3).f; replace H3 := Lib.hid H3)
    refine (callsIn_wide.2 (hf k a _ W3 (hGW.below H3.out) ht.out.ha ht.out.last)).mono ?_
    rintro e W4 ⟨rfl, H4⟩
    replace H4 := Lib.hid (below_step H3.out H4)
    clear f1 f2 f4 f5 p0 p1 p2 p3
    gi_wp2
    gi_loopw [9] (fun v wr => InnerR ts bound (.func (.func fno) #[] #[]) gl gb gf g cap cur J ys W1.heap.size c false (f a (c.most a bound)) (c.most a bound) (if c.most a bound < a then [] else semis f bound false (c.next a) (ts.drop (k + 1))) v wr) (fun v _ => InnerM (c.most a bound) v)
    case atStart =>
     refine ⟨_, i, rfl, Int.le_refl _, .inr rfl, hi.out, ?_, (H4.out.block _ (Array.getElem?_eq_some_iff.1 hc.out).1).trans hc.out, hJ _ _ _ hJi (.of_below H4.out), hRr.out.below H4.out⟩
     have := hdd.out
     have hk1 : ¬ k = 0 := by have := hk0.out; omega
     simpa [hk1] using this
    case round =>
     obtain ⟨j, i', rfl, hj0, hj1, hi', hd', hc', hJ', hR'⟩ := hrel
     clear hdd hd hRr hc hJi hGW H3 H4
     have hGW' := hInv _ _ hJ'
     have hS := ht.out
     have hk1 : ¬ k = 0 := by have := hk0.out; omega
     have hst : S15 (f a (c.most a bound)) := by have := hS.start; rwa [if_neg hk1] at this
     have hj17 : S17 j := by have h1 := hS.last; unfold S15 at h1 hst; unfold S17; omega
     have q1 := fun W => cCompare hj17 hS.last.S17 W
     by_cases hle : j ≤ c.most a bound
     ·have hcmp : cmp j (c.most a bound) ≤ 0 := by unfold cmp; split; omega; rw [if_neg (by omega)]; omega
      have q2 := fun W => cSign j W
      rw [js_cons hle] at hd'
      by_cases hpos : 0 < j
      ·have hx : ys[i']? = some (c.b + j * c.p, c.u + j * c.q) ∧ ys.drop (i' + 1) = ((js (j + 1) (c.most a bound)).filter fun j => false || decide (0 < j)).map (fun j => (c.b + j * c.p, c.u + j * c.q)) ++ (if c.most a bound < a then [] else semis f bound false (c.next a) (ts.drop (k + 1))) := by
        rw [List.filter_cons_of_pos (by simp [hpos])] at hd'
        simp only [List.map_cons, List.cons_append] at hd'
        constructor
        ·rw [← List.head?_drop, hd']; rfl
        ·rw [← List.drop_drop (i := 1), hd']; rfl
       obtain ⟨s1, s2, s3, s4⟩ := hS.steps j (by first | (rw [if_neg hk1]; exact hj0) | (rw [if_pos rfl]; exact hj0)) hle (by first | exact .inl rfl | exact .inr hpos)
       obtain ⟨p0, p1, p2, p3⟩ := pcells hc'
       have q4 := fun W hG => cStep W hG s1
       simp only [pvs] at q4
       have q5 := fun W hG => cOver W hG s2 s3 s4
       have q6 := fun W hG => cAdd W hG hj17 (b := 1) (by unfold S17; omega)
       rw [← lit1] at q6
       have hY' := fun W hJ => hY i' _ W hx.1 hJ
       have hlt' : i' < ys.length := (List.getElem?_eq_some_iff.1 hx.1).1
       replace hx := Lib.hid hx
       replace hd' := Lib.hid hd'
       replace hj0 := Lib.hid hj0
       replace hj1 := Lib.hid hj1
       replace hi' := Lib.hid hi'
       replace hlt' := Lib.hid hlt'
       replace hR' := Lib.hid hR'
       replace hc' := Lib.hid hc'
       replace hle := Lib.hid hle
       replace hS := Lib.hid hS
       replace hY' := Lib.hid hY'
       have hsg : 0 < sg j := by rw [sg_pos hpos]; omega
       replace hpos := Lib.hid hpos
       gi_wp2_with (first
        | (gi_at_call 58; with_reducible refine (callsIn_wide.2 (q1 _)).mono ?_; rintro e W5 ⟨rfl, H5⟩; obtain ⟨p0, p1, p2, p3⟩ := pcells ((H5.block _ (Array.getElem?_eq_some_iff.1 hc'.out).1).trans hc'.out); replace H5 := Lib.hid H5)
        | (gi_at_call 63; with_reducible refine (callsIn_wide.2 (q2 _)).mono ?_; rintro e W6 ⟨rfl, H6⟩; replace H6 := below_step H5.out H6; obtain ⟨p0, p1, p2, p3⟩ := pcells ((H6.block _ (Array.getElem?_eq_some_iff.1 hc'.out).1).trans hc'.out); replace H6 := Lib.hid H6)
        | (gi_at_call 83; with_reducible refine (callsIn_wide.2 (q4 _ (hGW'.below H6.out))).mono ?_; rintro e W7 ⟨rfl, H7⟩; replace H7 := Lib.hid (below_step H6.out H7)))
       refine (callsIn_wide.2 (q5 _ (hGW'.below H7.out))).mono ?_
       rintro e W8 ⟨rfl, H8⟩
       replace H8 := Lib.hid (below_step H7.out H8)
       obtain ⟨fn_, tmps_, assign_, body_, hy, hR1⟩ := hY'.out W8 (hJ _ _ _ hJ' (.of_below H8.out))
       simp only [encF] at hy
       replace hR1 := Lib.hid hR1
       gi_wp2
       refine hR1.out.mono ?_
       rintro e W9 ⟨rfl, hJ9, hk9⟩
       have hG9 := hInv _ _ hJ9
       have hc9 := hk9.block _ _ ((H8.out.block _ (Array.getElem?_eq_some_iff.1 hc'.out).1).trans hc'.out) (.inr rfl)
       have hR9 := (hR'.out.below H8.out).kept hk9 (fun _ => rfl) (fun _ => rfl) (fun _ => rfl) (fun _ => rfl)
       replace hk9 := Lib.hid hk9
       replace hc9 := Lib.hid hc9
       replace hR9 := Lib.hid hR9
       clear hy
       gi_wp2_with (gi_at_call 42; with_reducible refine (callsIn_wide.2 (q6 _ hG9)).mono ?_; rintro e W10 ⟨rfl, H10⟩; replace H10 := Lib.hid H10)
       refine ⟨⟨j + 1, i' + 1, rfl, by have := hj0.out; omega, .inl (by have := hle.out; omega), hlt'.out, hx.out.2, (H10.out.block _ (Array.getElem?_eq_some_iff.1 hc9.out).1).trans hc9.out, hJ _ _ _ hJ9 (.of_below H10.out), hR9.out.below H10.out⟩, ?_⟩
       unfold InnerM
       rw [unT_T, unT_T]
       have := hle.out
       omega
      ·have hsg : sg j ≤ 0 := by rcases sg_lt j with x | x | x <;> omega
       have q6 := fun W hG => cAdd W hG hj17 (b := 1) (by unfold S17; omega)
       rw [← lit1] at q6
       rw [List.filter_cons_of_neg (by simp; omega)] at hd'
       replace hd' := Lib.hid hd'
       replace hj0 := Lib.hid hj0
       replace hj1 := Lib.hid hj1
       replace hi' := Lib.hid hi'
       replace hR' := Lib.hid hR'
       replace hc' := Lib.hid hc'
       replace hle := Lib.hid hle
       replace hS := Lib.hid hS
       replace hpos := Lib.hid hpos
       gi_wp2_with (first
        | (gi_at_call 58; with_reducible refine (callsIn_wide.2 (q1 _)).mono ?_; rintro e W5 ⟨rfl, H5⟩; replace H5 := Lib.hid H5)
        | (gi_at_call 63; with_reducible refine (callsIn_wide.2 (q2 _)).mono ?_; rintro e W6 ⟨rfl, H6⟩; replace H6 := Lib.hid (below_step H5.out H6))
        | (gi_at_call 42; with_reducible refine (callsIn_wide.2 (q6 _ (hGW'.below H6.out))).mono ?_; rintro e W7 ⟨rfl, H7⟩; replace H7 := Lib.hid (below_step H6.out H7)))
       refine ⟨⟨j + 1, i', rfl, by have := hj0.out; omega, .inl (by have := hle.out; omega), hi'.out, hd'.out, (H7.out.block _ (Array.getElem?_eq_some_iff.1 hc'.out).1).trans hc'.out, hJ _ _ _ hJ' (.of_below H7.out), hR'.out.below H7.out⟩, ?_⟩
       unfold InnerM
       rw [unT_T, unT_T]
       have := hle.out
       omega
     ·have hcmp : 0 < cmp j (c.most a bound) := by unfold cmp; rw [if_neg (by omega), if_pos (by omega)]; omega
      rw [js_nil (by omega)] at hd'
      simp only [List.filter_nil, List.map_nil, List.nil_append] at hd'
      have q3 := fun W => cCompare hS.last.S17 hS.ha.S17 W
      have hml : c.most a bound ≤ a := CS.most_le
      replace hj0 := Lib.hid hj0
      replace hj1 := Lib.hid hj1
      replace hi' := Lib.hid hi'
      replace hc' := Lib.hid hc'
      replace hR' := Lib.hid hR'
      replace hle := Lib.hid hle
      replace hS := Lib.hid hS
      by_cases hla : c.most a bound < a
      ·have hcmp2 : cmp (c.most a bound) a < 0 := by unfold cmp; rw [if_pos hla]; omega
       rw [if_pos hla] at hd'
       replace hd' := Lib.hid hd'
       replace hla := Lib.hid hla
       replace hml := Lib.hid hml
       gi_wp2_with (gi_at_call 58; first | (with_reducible refine (callsIn_wide.2 (q1 _)).mono ?_; rintro e W5 ⟨rfl, H5⟩; replace H5 := Lib.hid H5) | (with_reducible refine (callsIn_wide.2 (q3 _)).mono ?_; rintro e W6 ⟨rfl, H6⟩; replace H6 := Lib.hid (below_step H5.out H6)))
       refine bodyPost_ret (results_none rfl _ _ _) rfl ?_
       have : i' = ys.length := by
        have h1 := List.drop_eq_nil_iff.1 hd'.out
        have h2 := hi'.out
        omega
       exact ⟨⟨_, rfl⟩, this ▸ hJ _ _ _ hJ' (.of_below H6.out)⟩
      ·have hcmp2 : 0 ≤ cmp (c.most a bound) a := by unfold cmp; rw [if_neg hla]; split <;> omega
       have hma : c.most a bound = a := by omega
       have q7 := fun W hG => cNext W hG (hS.out.next hma)
       have hG1 := hn.out hma
       rw [if_neg hla] at hd'
       replace hd' := Lib.hid hd'
       replace hla := Lib.hid hla
       replace hml := Lib.hid hml
       replace hma := Lib.hid hma
       replace hG1 := Lib.hid hG1
       have q7' : ∀ W, GWorld W → Calls Tryz.prog 48 #[.agg #[.string (T c.p), .string (T c.q), .string (T c.b), .string (T c.u)], .string (T a)] W fun e w' => e = .returned (.agg (pvs (c.next a))) ∧ Below W.heap.size W w' := q7
       clear q7
       gi_wp2_with (first
        | (gi_at_call 58; first | (with_reducible refine (callsIn_wide.2 (q1 _)).mono ?_; rintro e W5 ⟨rfl, H5⟩; replace H5 := Lib.hid H5) | (with_reducible refine (callsIn_wide.2 (q3 _)).mono ?_; rintro e W6 ⟨rfl, H6⟩; replace H6 := below_step H5.out H6; obtain ⟨p0, p1, p2, p3⟩ := pcells ((H6.block _ (Array.getElem?_eq_some_iff.1 hc'.out).1).trans hc'.out); replace H6 := Lib.hid H6))
        | (gi_at_call 48; with_reducible refine (callsIn_wide.2 (q7' _ (hGW'.below H6.out))).mono ?_; rintro e W7 ⟨rfl, H7⟩; replace H7 := below_step H6.out H7; have hst7 := st71 (c.next a) ((H7.block _ (Array.getElem?_eq_some_iff.1 hc'.out).1).trans hc'.out) rfl; replace H7 := Lib.hid H7))
       refine ⟨⟨k + 1, i', c.next a, ?_, hlt.out, hi'.out, ?_, hG1.out, setRow_heap _ _ _ _ _ _ ((H7.out.block _ (Array.getElem?_eq_some_iff.1 hc'.out).1).trans hc'.out), hJ _ _ _ hJ' ((Kept.of_below H7.out).row ((H7.out.block _ (Array.getElem?_eq_some_iff.1 hc'.out).1).trans hc'.out) hbc.out rfl _), (hR'.out.below H7.out).row ((H7.out.block _ (Array.getElem?_eq_some_iff.1 hc'.out).1).trans hc'.out) _ (by decide) (by decide) (by decide) (by decide)⟩, ?_⟩
       ·first | rfl | (simp; done)
       ·simpa using hd'.out
       ·have := hlt.out
        unfold OuterM
        simp only
        omega
  ·have hke : k = ts.length := by omega
   have hie : i = ys.length := by
    rw [hke, List.drop_eq_nil_of_le (Nat.le_refl _)] at hd
    simp only [semis] at hd
    have := List.drop_eq_nil_iff.1 hd
    omega
   have hlti : ¬ (k : Int) < (ts.length : Int) := by omega
   replace hie := Lib.hid hie
   replace hd := Lib.hid hd
   replace hge := Lib.hid hge
   replace hke := Lib.hid hke
   replace hk := Lib.hid hk
   replace hi := Lib.hid hi
   replace hc := Lib.hid hc
   replace hRr := Lib.hid hRr
   gi_wp2
   first | go_end0 | (refine bodyPost_ret (results_none rfl _ _ _) rfl ?_)
   exact ⟨⟨_, rfl⟩, hie.out ▸ hJi⟩
end Go.Proofs.YtidajgkepdkcbaaGreatDoor
end
section
namespace Go.Proofs.YtidajgkepdkcbaaGreatDoor
open Go.RowKit Go.Lib Go.Proofs.YtidajgkepdkcbaaGreatDoorW.PrintWords Go.Proofs.YtidajgkepdkcbaaGreatDoorW.PrintLast Go.Proofs.YtidajgkepdkcbaaGreatDoorW.PrintMore PF
theorem terms_l0 : ∀ (ts : List Int) (a b : Int) (acc : List ByteArray), isCf ts a b → S17 a → S17 b → 0 < b → acc.length + ts.length ≤ 1001 →
  Ev (fun k => convergent_terms.l0 k (T a) (T b) acc) (acc ++ ts.map T)
 | [], a, b, acc, h, _, _, _, _ => h.elim
 | q :: l, a, b, acc, h, ha, hb, h0, hlen => by
  obtain ⟨hq, h⟩ := h
  simp only [List.length_cons] at hlen
  have hr0 := Int.emod_nonneg a (b := b) (by omega)
  have hr1 := Int.emod_lt_of_pos a h0
  have hr : S17 (a % b) := by unfold S17 at hb ⊢; omega
  refine Ev.step (f := fun k => (whole_DivMod.f k (T a) (T b)).bind fun bt163 => (if acc.length < 8796093022208 then ((some (acc ++ [bt163.1] : List ByteArray)).bind fun y166 => (if bt163.2.1.toList = ([48] : List UInt8) then (some y166) else (convergent_terms.l0 k (T b) bt163.2.1 y166))) else none)) (fun k => by rw [convergent_terms.l0, if_pos (by omega)]) ?_
  refine Ev.bind (DivMod_T ha hb h0) ?_
  refine Ev.congr (fun k => if_pos (by omega)) ?_
  simp only [Option.bind_some]
  rw [← hq]
  rcases h with ⟨hz, rfl⟩ | ⟨hz, h⟩
  ·exact ev_const fun _ => if_pos ((T_zero_iff _).2 hz)
  ·refine Ev.congr (fun k => if_neg (fun hh => hz ((T_zero_iff _).1 hh))) ?_
   have := terms_l0 l b (a % b) (acc ++ [T q]) h hb hr (by omega) (by simp; omega)
   simpa using this
theorem Terms_T {ts : List Int} {n d : Int} (h : isCf ts n d) (hn : S17 n) (hd : S17 d) (h0 : 0 < d) (hl : ts.length ≤ 1000) : Ev (fun k => convergent_terms.f k (T n) (T d)) (ts.map T) := by
 have := terms_l0 ts n d [] h hn hd h0 (by simp; omega)
 simpa [convergent_terms.f] using this
theorem ints_go (ts : List Int) (hl : ts.length ≤ 1000000) (hS : ∀ a ∈ ts, S17 a) : ∀ (m j : Nat), ts.length = j + m →
  Ev (fun k => schismalaw04_ints.l0 k (ts.map T) ts (j : Int)) true
 | 0, j, hm => ev_here 1 fun k => by rw [schismalaw04_ints.l0, if_neg (by simp; omega)]
 | m + 1, j, hm => by
  have hj : j < ts.length := by omega
  have ha := hS ts[j] (List.getElem_mem hj)
  have e1 : rd ts (j : Int) = ts[j] := by unfold rd; simp [hj]
  have e2 : rdOf ByteArray.empty (ts.map T) (j : Int) = T ts[j] := by unfold rdOf; simp [hj]
  refine Ev.step (f := fun k => (schismaref04_Of.f k ts[j]).bind fun t => if (T ts[j]).toList = t.toList then schismalaw04_ints.l0 k (ts.map T) ts ((j + 1 : Nat) : Int) else some false) (fun k => ?_) ?_
  ·rw [schismalaw04_ints.l0, if_pos (by simp; omega), if_pos (by omega), if_pos (by omega), e1, e2, w64 (by omega) (by omega)]
   rfl
  ·refine Ev.bind (ROf (by unfold S17 at ha; omega) (by unfold S17 at ha; omega)) (Ev.congr (fun k => if_pos rfl) ?_)
   exact ints_go ts hl hS m (j + 1) (by omega)
theorem Ints_T {ts : List Int} (hl : ts.length ≤ 1000000) (hS : ∀ a ∈ ts, S17 a) : Ev (fun k => schismalaw04_ints.f k (ts.map T) ts) true := by
 unfold schismalaw04_ints.f
 exact Ev.congr (fun k => if_pos (by simp)) (ints_go ts hl hS ts.length 0 (by omega))
end Go.Proofs.YtidajgkepdkcbaaGreatDoor
end
section
namespace Go.Proofs.YtidajgkepdkcbaaGreatDoor
open Go.RowKit Go.Lib
theorem bnd {x y n d r M : Int} (h : x * d - n * y = r) (hy : 0 ≤ y) (hyd : y ≤ d) (hr1 : -d ≤ r) (hr2 : r ≤ d) (hd : 0 < d) (hn1 : -M ≤ n) (hn2 : n ≤ M) : -(M + 1) ≤ x ∧ x ≤ M + 1 := by
 have m1 : n * y ≤ M * y := Int.mul_le_mul_of_nonneg_right hn2 hy
 have m2 : -M * y ≤ n * y := Int.mul_le_mul_of_nonneg_right hn1 hy
 have m3 : M * y ≤ M * d := Int.mul_le_mul_of_nonneg_left hyd (by omega)
 have e1 : -M * y = -(M * y) := by rw [Int.neg_mul]
 have e2 : (M + 1) * d = M * d + d := by rw [Int.add_mul, Int.one_mul]
 have e3 : -(M + 1) * d = -(M * d + d) := by rw [Int.neg_mul, e2]
 constructor
 ·exact Int.le_of_mul_le_mul_right (by rw [e3]; omega) hd
 ·exact Int.le_of_mul_le_mul_right (by rw [e2]; omega) hd
structure Mid (n d bound : Int) (c : CS) (N D s : Int) : Prop where
 at_ : c.At n d N D s
 u0 : 0 ≤ c.u
 uq : c.u ≤ c.q
 q1 : 1 ≤ c.q
 qb : c.q ≤ bound
 DN : D ≤ N
 Nd : N ≤ d
theorem Mid.bounds {n d bound M : Int} {c : CS} {N D s : Int} (h : Mid n d bound c N D s) (hn1 : -M ≤ n) (hn2 : n ≤ M) (hd : 0 < d) :
  c.q ≤ d ∧ c.u ≤ d ∧ (-(M + 1) ≤ c.p ∧ c.p ≤ M + 1) ∧ (-(M + 1) ≤ c.b ∧ c.b ≤ M + 1) := by
 have hD := h.at_.hD
 have ed := h.at_.hd
 have en := h.at_.hn
 have det := h.at_.det
 have x1 : 0 ≤ c.u * D := Int.mul_nonneg h.u0 (by omega)
 have x2 : c.q * 1 ≤ c.q * N := Int.mul_le_mul_of_nonneg_left (by have := h.DN; omega) (by have := h.q1; omega)
 have hq : c.q ≤ d := by omega
 have hu : c.u ≤ d := by have := h.uq; omega
 have e1 : c.p * d - n * c.q = s * D := by rw [ed, en, ← det]; grind
 have e2 : c.b * d - n * c.u = -(s * N) := by rw [ed, en, ← det]; grind
 have hDd : D ≤ d := Int.le_trans h.DN h.Nd
 have s1 : -d ≤ s * D ∧ s * D ≤ d := by rcases h.at_.hs with x | x <;> rw [x] <;> constructor <;> omega
 have s2 : -d ≤ -(s * N) ∧ -(s * N) ≤ d := by have := h.Nd; have := h.DN; rcases h.at_.hs with x | x <;> rw [x] <;> constructor <;> omega
 exact ⟨hq, hu, bnd e1 (by have := h.q1; omega) hq s1.1 s1.2 hd hn1 hn2, bnd e2 h.u0 hu s2.1 s2.2 hd hn1 hn2⟩
theorem Mid.semi {n d bound M : Int} {c : CS} {N D s j : Int} (h : Mid n d bound c N D s) (hn1 : -M ≤ n) (hn2 : n ≤ M) (hd : 0 < d) (hj : 0 ≤ j) (hja : j ≤ N / D) :
  (c.u + j * c.q ≤ d ∧ 0 ≤ j * c.q) ∧ (-(M + 1) ≤ c.b + j * c.p ∧ c.b + j * c.p ≤ M + 1) := by
 have hD := h.at_.hD
 have ed := h.at_.hd
 have en := h.at_.hn
 have det := h.at_.det
 have q1 := h.q1
 have jD : j * D ≤ N := by
  have := Int.mul_le_mul_of_nonneg_right hja (by omega : 0 ≤ D)
  have := Int.ediv_mul_le N (by omega : D ≠ 0)
  omega
 have jq0 : 0 ≤ j * c.q := Int.mul_nonneg hj (by omega)
 have y1 : (j * D) * c.q ≤ N * c.q := Int.mul_le_mul_of_nonneg_right jD (by omega)
 have y2 : (c.u + j * c.q) * D ≤ d := by
  have : (c.u + j * c.q) * D = c.u * D + j * D * c.q := by grind
  have : N * c.q = c.q * N := Int.mul_comm ..
  omega
 have y3 : (c.u + j * c.q) * 1 ≤ (c.u + j * c.q) * D := Int.mul_le_mul_of_nonneg_left (by omega) (by have := h.u0; omega)
 have hQ : c.u + j * c.q ≤ d := by omega
 have e1 : (c.b + j * c.p) * d - n * (c.u + j * c.q) = -(s * (N - j * D)) := by rw [ed, en, ← det]; grind
 have jD0 : 0 ≤ j * D := Int.mul_nonneg hj (by omega)
 have s2 : -d ≤ -(s * (N - j * D)) ∧ -(s * (N - j * D)) ≤ d := by have := h.Nd; rcases h.at_.hs with x | x <;> rw [x] <;> constructor <;> omega
 exact ⟨⟨hQ, jq0⟩, bnd e1 (by have := h.u0; omega) hQ s2.1 s2.2 hd hn1 hn2⟩
def FromOk (f : Int → Int → Int) : Prop := ∀ a last, 1 ≤ a → 0 ≤ last → last ≤ a → 0 ≤ f a last ∧ f a last ≤ a
theorem natAbs_mul_lt {x y : Int} {B : Nat} (h1 : -(B : Int) < x * y) (h2 : x * y < B) : x.natAbs * y.natAbs < B := by rw [← Int.natAbs_mul]; omega
theorem Mid.term {n d bound : Int} {c : CS} {N D s : Int} (h : Mid n d bound c N D s) (hn1 : -10000000000000 < n) (hn2 : n < 10000000000000) (hd : 0 < d) (hd2 : d < 10000000000000) {f : Int → Int → Int} (hf : FromOk f) {k : Nat} (hk : k ≠ 0) :
  TermOk f bound k c (N / D) := by
 have hD := h.at_.hD
 obtain ⟨b1, b2, b3, b4⟩ := h.bounds (M := 10000000000000) (by omega) (by omega) hd
 have ha1 : 1 ≤ N / D := (Int.le_ediv_iff_mul_le (by omega)).2 (by have := h.DN; omega)
 have ha2 : N / D ≤ N := Int.ediv_le_self _ (by have := h.DN; omega)
 have hNd := h.Nd
 have q1 := h.q1
 have hml : c.most (N / D) bound ≤ N / D := CS.most_le
 have hm0 : 0 ≤ c.most (N / D) bound := by
  unfold CS.most
  rw [if_neg (by omega)]
  split
  ·exact Int.ediv_nonneg (by have := h.uq; have := h.qb; omega) (by omega)
  ·omega
 obtain ⟨f1, f2⟩ := hf _ _ ha1 hm0 hml
 have ok : c.Ok := ⟨by unfold S15; omega, by unfold S15; omega, by unfold S15; omega, by have := h.u0; unfold S15; omega, by omega, h.u0⟩
 have st : ∀ j, 0 ≤ j → j ≤ N / D → c.StepOk j ∧ S17 (c.b + j * c.p) ∧ S17 (c.u + j * c.q) ∧ 0 < c.u + j * c.q ∨ j = 0 := by
  intro j hj hja
  by_cases h0 : j = 0
  ·exact .inr h0
  ·left
   obtain ⟨⟨c1, c2⟩, c3⟩ := h.semi (M := 10000000000000) (by omega) (by omega) hd hj hja
   have c4 : 1 * c.q ≤ j * c.q := Int.mul_le_mul_of_nonneg_right (by omega) (by omega)
   have hu := h.u0
   refine ⟨⟨ok, by unfold S15; omega, natAbs_mul_lt (B := 10000000000000000) (by omega) (by omega), natAbs_mul_lt (B := 10000000000000000) (by omega) (by omega)⟩, by unfold S17; omega, by unfold S17; omega, by omega⟩
 refine ⟨ok, by unfold S15; omega, ?_, by unfold S15; omega, ?_, ?_⟩
 ·rw [if_neg hk]; unfold S15; omega
 ·rw [if_neg hk]
  intro j h1 h2 h3
  have h4 : 0 < j := by rcases h3 with h3 | h3 <;> omega
  rcases st j (by omega) (by omega) with x | x
  ·exact x
  ·omega
 ·intro _
  rcases st (N / D) (by omega) (Int.le_refl _) with x | x
  ·exact x.1
  ·omega
theorem search_G {n d bound : Int} (hn1 : -10000000000000 < n) (hn2 : n < 10000000000000) (hd : 0 < d) (hd2 : d < 10000000000000) (hb : 1 ≤ bound) {f : Int → Int → Int} (hf : FromOk f) {ts : List Int} (hts : isCf ts n d) :
  ∃ G : Nat → CS → Prop, G 0 CS.begin ∧ ∀ k c a, G k c → ts[k]? = some a → TermOk f bound k c a ∧ (c.most a bound = a → G (k + 1) (c.next a)) := by
 refine ⟨fun k c => (k = 0 ∧ c = CS.begin) ∨ (k ≠ 0 ∧ (ts.length ≤ k ∨ ∃ N D s, Mid n d bound c N D s ∧ isCf (ts.drop k) N D)), .inl ⟨rfl, rfl⟩, ?_⟩
 intro k c a hG ha
 have hk : k < ts.length := (List.getElem?_eq_some_iff.1 ha).1
 have hdr : ts.drop k = a :: ts.drop (k + 1) := by
  rw [List.drop_eq_getElem_cons hk]
  congr 1
  rw [List.getElem?_eq_getElem hk] at ha
  exact Option.some.inj ha
 rcases hG with ⟨rfl, rfl⟩ | ⟨hk0, hG⟩
 ·rw [List.drop_zero] at hdr
  rw [hdr] at hts
  obtain ⟨haq, hrest⟩ := hts
  have hq : a.natAbs ≤ n.natAbs := by rw [haq]; exact Int.natAbs_ediv_le_natAbs ..
  have hm : CS.begin.most a bound = a := by simp [CS.most, CS.begin]
  have ok : CS.begin.Ok := by constructor <;> simp [CS.begin, S15]
  have so : CS.begin.StepOk a := ⟨ok, by unfold S15; omega, by simp [CS.begin]; omega, by simp [CS.begin]⟩
  refine ⟨⟨ok, by unfold S15; omega, by rw [if_pos rfl]; unfold S15; omega, by rw [hm]; unfold S15; omega, ?_, fun _ => so⟩, fun _ => .inr ⟨by omega, ?_⟩⟩
  ·rw [hm, if_pos rfl]
   intro j h1 h2 _
   have : j = a := by omega
   subst this
   refine ⟨so, ?_, ?_, ?_⟩ <;> simp [CS.begin, S17] <;> omega
  ·rcases hrest with ⟨_, hnil⟩ | ⟨hr, hl⟩
   ·left
    have := List.drop_eq_nil_iff.1 hnil
    omega
   ·right
    have hat := (CS.At.start n d hd).step hr
    rw [← haq] at hat
    have e0 := Int.emod_nonneg n (b := d) (by omega)
    have e1 := Int.emod_lt_of_pos n hd
    exact ⟨d, n % d, -1, ⟨hat, by simp [CS.next, CS.begin], by simp [CS.next, CS.begin], by simp [CS.next, CS.begin], by simp [CS.next, CS.begin]; omega, by omega, Int.le_refl _⟩, hl⟩
 ·rcases hG with hG | ⟨N, D, s, hM, hcf⟩
  ·omega
  ·rw [hdr] at hcf
   obtain ⟨haq, hrest⟩ := hcf
   subst haq
   refine ⟨hM.term hn1 hn2 hd hd2 hf hk0, fun hma => .inr ⟨by omega, ?_⟩⟩
   rcases hrest with ⟨_, hnil⟩ | ⟨hr, hl⟩
   ·left
    have := List.drop_eq_nil_iff.1 hnil
    omega
   ·right
    have hD := hM.at_.hD
    have ha1 : 1 ≤ N / D := (Int.le_ediv_iff_mul_le (by omega)).2 (by have := hM.DN; omega)
    have hq1 := hM.q1
    have aq : 1 * c.q ≤ N / D * c.q := Int.mul_le_mul_of_nonneg_right ha1 (by omega)
    have e1 := Int.emod_lt_of_pos N hD
    have hqb := CS.most_bound (c := c) (a := N / D) (j := N / D) (bound := bound) hq1 (by omega)
    have hu := hM.u0
    refine ⟨D, N % D, -s, ⟨hM.at_.step hr, ?_, ?_, ?_, ?_, by omega, by have := hM.DN; have := hM.Nd; omega⟩, hl⟩ <;> simp only [CS.next] <;> omega
end Go.Proofs.YtidajgkepdkcbaaGreatDoor
end
section
namespace Go.Proofs.YtidajgkepdkcbaaGreatDoor
open Go.RowKit Go.Lib Go.Proofs.YtidajgkepdkcbaaGreatDoorW.PrintWords Go.Proofs.YtidajgkepdkcbaaGreatDoorW.PrintLast Go.Proofs.YtidajgkepdkcbaaGreatDoorW.PrintMore PF
theorem FNeg_T {n d : Int} (hn : S17 n) : fraction_Neg.f (T n) (T d) = some (T (-n), T d) := by
 unfold fraction_Neg.f
 rw [Neg_T hn]
 rfl
theorem FAbs_T (n d : Int) : fraction_Abs.f (T n) (T d) = some (T (n.natAbs : Int), T d) := by
 unfold fraction_Abs.f
 rw [whole_Abs_T, U_eq_T]
 rfl
theorem flittle_yes {i : Int} (h : ((T i).size : Int) ≤ 9) : fraction_little.f (T i) = some (i, true) := by
 unfold fraction_little.f
 have hs := lt_of_T_size (i := i) (k := 8) (by omega)
 rw [if_neg (by omega), Atoi_T (by omega) (by omega)]
 rfl
theorem flittle_no {i : Int} (h : (9 : Int) < ((T i).size : Int)) : fraction_little.f (T i) = some (0, false) := by
 unfold fraction_little.f
 rw [if_pos (by omega)]
theorem both_T (n d : Int) : (fraction_both.f (T n) (T d) = some (n, d, true) ∧ -100000000 < n ∧ n < 1000000000 ∧ -100000000 < d ∧ d < 1000000000) ∨ ∃ x y, fraction_both.f (T n) (T d) = some (x, y, false) := by
 unfold fraction_both.f
 by_cases h1 : ((T n).size : Int) ≤ 9
 ·by_cases h2 : ((T d).size : Int) ≤ 9
  ·left
   have a1 := lt_of_T_size (i := n) (k := 8) (by omega)
   have a2 := lt_of_T_size (i := d) (k := 8) (by omega)
   rw [flittle_yes h1, flittle_yes h2]
   exact ⟨rfl, by omega, by omega, by omega, by omega⟩
  ·right
   rw [flittle_yes h1, flittle_no (by omega)]
   exact ⟨_, _, rfl⟩
 ·right
  rw [flittle_no (by omega)]
  by_cases h2 : ((T d).size : Int) ≤ 9
  ·rw [flittle_yes h2]; exact ⟨_, _, rfl⟩
  ·rw [flittle_no (by omega)]; exact ⟨_, _, rfl⟩
theorem of_go {n d : Int} (hn : n.natAbs < 4611686018427387904) (hd : 0 < d) (hd2 : d < 4611686018427387904) : ∀ (N : Nat) (a b : Int), b.natAbs = N → a.natAbs < 4611686018427387904 → b.natAbs < 4611686018427387904 → Int.gcd a b = Int.gcd n d →
  Ev (fun k => fraction_of.l0 k n d a b) (fr n d) := by
 obtain ⟨g0, g1⟩ := gcd_le (n := n) hd
 have e1 : Int.tdiv n (Int.gcd n d : Int) = n / (Int.gcd n d : Int) := Int.tdiv_eq_ediv_of_dvd (Int.gcd_dvd_left ..)
 have e2 : Int.tdiv d (Int.gcd n d : Int) = d / (Int.gcd n d : Int) := Int.tdiv_eq_ediv_of_dvd (Int.gcd_dvd_right ..)
 have q1 : (n / (Int.gcd n d : Int)).natAbs ≤ n.natAbs := Int.natAbs_ediv_le_natAbs ..
 have q2 : (d / (Int.gcd n d : Int)).natAbs ≤ d.natAbs := Int.natAbs_ediv_le_natAbs ..
 intro N
 induction N using Nat.strongRecOn with
 | _ N ih =>
  intro a b hb ha hbig hg
  by_cases h0 : b = 0
  ·subst h0
   rw [Int.gcd_zero_right] at hg
   refine ev_here 1 fun k => ?_
   rw [fraction_of.l0, if_pos rfl]
   by_cases hneg : a < 0
   ·have ea : wrap64 (-a) = (Int.gcd n d : Int) := by rw [w64 (by omega) (by omega)]; omega
    rw [if_pos hneg, ea, if_neg (by omega), e1, e2, w64 (by omega) (by omega), Itoa_T (by omega) (by omega)]
    simp only [Option.bind_some]
    rw [w64 (by omega) (by omega), Itoa_T (by omega) (by omega)]
    rfl
   ·have ea : a = (Int.gcd n d : Int) := by omega
    rw [if_neg hneg, if_neg (by omega), ea, e1, e2, w64 (by omega) (by omega), Itoa_T (by omega) (by omega)]
    simp only [Option.bind_some]
    rw [w64 (by omega) (by omega), Itoa_T (by omega) (by omega)]
    rfl
  ·refine Ev.step (f := fun k => fraction_of.l0 k n d b (Int.tmod a b)) (fun k => by rw [fraction_of.l0, if_neg h0]) ?_
   have h1 : (Int.tmod a b).natAbs < N := by rw [Int.natAbs_tmod, ← hb]; exact Nat.mod_lt _ (by omega)
   refine ih _ h1 b (Int.tmod a b) rfl hbig (by omega) ?_
   rw [← hg]
   show Nat.gcd b.natAbs (Int.tmod a b).natAbs = Nat.gcd a.natAbs b.natAbs
   rw [Int.natAbs_tmod, Nat.gcd_comm b.natAbs, ← Nat.gcd_rec, Nat.gcd_comm]
theorem Of_T {n d : Int} (hn : n.natAbs < 4611686018427387904) (hd : 0 < d) (hd2 : d < 4611686018427387904) : Ev (fun k => fraction_of.f k n d) (fr n d) :=
 of_go hn hd hd2 _ n d rfl hn (by omega) rfl
structure SumOk (a b c e : Int) : Prop where
 sa : S17 a
 sb : S17 b
 sc : S17 c
 se : S17 e
 b0 : 0 < b
 e0 : 0 < e
 ae : a.natAbs * e.natAbs < 10000000000000000
 cb : c.natAbs * b.natAbs < 10000000000000000
 be : b.natAbs * e.natAbs < 10000000000000000
theorem FAdd_T {a b c e : Int} (h : SumOk a b c e) : Ev (fun k => fraction_Add.f k (T a) (T b) (T c) (T e)) (fr (a * e + c * b) (b * e)) := by
 have hbe : 0 < b * e := Int.mul_pos h.b0 h.e0
 have m1 : (a * e).natAbs < 10000000000000000 := by rw [Int.natAbs_mul]; exact h.ae
 have m2 : (c * b).natAbs < 10000000000000000 := by rw [Int.natAbs_mul]; exact h.cb
 have m3 : (b * e).natAbs < 10000000000000000 := by rw [Int.natAbs_mul]; exact h.be
 have j1 : Ev (fun k => fraction_Add.j1 k (T a) (T b) (T c) (T e)) (fr (a * e + c * b) (b * e)) := by
  refine Ev.step (fun k => by rw [fraction_Add.j1]) ?_
  refine Ev.bind (Mul_T h.sa h.se h.ae) (Ev.bind (Mul_T h.sc h.sb h.cb) (Ev.bind (ev_const fun k => Add_T (by unfold S17; omega) (by unfold S17; omega) k) (Ev.bind (Mul_T h.sb h.se h.be) (Ev.bind (Lowest_T (by unfold S17; omega) (by unfold S17; omega) hbe) (ev_const fun _ => rfl)))))
 have j0 : Ev (fun k => fraction_Add.j0 k false (T a) (T b) (T c) (T e)) (fr (a * e + c * b) (b * e)) := by
  rcases both_T a b with ⟨e1, l1, l2, l3, l4⟩ | ⟨x, y, e1⟩
  ·rcases both_T c e with ⟨e2, l5, l6, l7, l8⟩ | ⟨x, y, e2⟩
   ·refine Ev.step (f := fun k => (fraction_of.f k (a * e + c * b) (b * e)).bind fun bt => some (bt.1, bt.2)) (fun k => ?_) (Ev.bind (Of_T (by omega) hbe (by omega)) (ev_const fun _ => rfl))
    rw [fraction_Add.j0, if_neg (by simp), e1]
    simp only [Option.bind_some, if_true]
    rw [e2]
    simp only [Option.bind_some, if_true]
    rw [w64 (x := a * e) (by omega) (by omega), w64 (x := c * b) (by omega) (by omega), w64 (x := b * e) (by omega) (by omega), w64 (by omega) (by omega)]
   ·refine Ev.step (fun k => ?_) j1
    rw [fraction_Add.j0, if_neg (by simp), e1]
    simp only [Option.bind_some, if_true]
    rw [e2]
    simp
  ·refine Ev.step (fun k => ?_) j1
   rw [fraction_Add.j0, if_neg (by simp), e1]
   simp
 unfold fraction_Add.f
 by_cases hb1 : b = 1
 ·by_cases he1 : e = 1
  ·subst hb1 he1
   refine Ev.congr (f := fun k => fraction_Add.j0 k true (T a) (T 1) (T c) (T 1)) (fun k => ?_) ?_
   ·rw [if_pos ((T_one_iff 1).2 rfl)]
    have : ((T 1).toList == [49]) = true := beq_iff_eq.2 ((T_one_iff 1).2 rfl)
    rw [this]
   ·refine ev_here 1 fun k => ?_
    rw [fraction_Add.j0, if_pos rfl, Add_T h.sa h.sc]
    simp only [Option.bind_some]
    rw [lit1]
    unfold fr
    simp
  ·refine Ev.congr (fun k => ?_) j0
   rw [if_pos ((T_one_iff _).2 hb1)]
   have : ((T e).toList == [49]) = false := beq_eq_false_iff_ne.2 (fun hh => he1 ((T_one_iff _).1 hh))
   rw [this]
 ·exact Ev.congr (fun k => if_neg (fun hh => hb1 ((T_one_iff _).1 hh))) j0
theorem FSub_T {a b c e : Int} (h : SumOk a b c e) : Ev (fun k => fraction_Sub.f k (T a) (T b) (T c) (T e)) (fr (a * e - c * b) (b * e)) := by
 unfold fraction_Sub.f
 rw [FNeg_T h.sc]
 simp only [Option.bind_some]
 have h' : SumOk a b (-c) e := ⟨h.sa, h.sb, h.sc.neg, h.se, h.b0, h.e0, h.ae, by rw [Int.natAbs_neg]; exact h.cb, h.be⟩
 have := FAdd_T h'
 have e1 : a * e + -c * b = a * e - c * b := by rw [Int.neg_mul, Int.sub_eq_add_neg]
 rw [e1] at this
 exact Ev.bind this (ev_const fun _ => rfl)
def dst (a b c e : Int) : Int × Int := (((a * e - c * b) / (Int.gcd (a * e - c * b) (b * e) : Int)).natAbs, (b * e) / (Int.gcd (a * e - c * b) (b * e) : Int))
theorem Dist_T {a b c e : Int} (h : SumOk a b c e) : Ev (fun k => convergent_distance.f k (T a) (T b) (T c) (T e)) (T (dst a b c e).1, T (dst a b c e).2) := by
 unfold convergent_distance.f
 refine Ev.bind (FSub_T h) ?_
 unfold fr
 simp only
 rw [FAbs_T]
 exact ev_const fun _ => rfl
theorem dst_spec {a b c e : Int} (hb : 0 < b) (he : 0 < e) : 0 < (dst a b c e).2 ∧ 0 ≤ (dst a b c e).1 ∧ (dst a b c e).1 * (b * e) = ((a * e - c * b).natAbs : Int) * (dst a b c e).2 ∧ (dst a b c e).2 ≤ b * e ∧ (dst a b c e).1 ≤ (a * e - c * b).natAbs := by
 have hbe : 0 < b * e := Int.mul_pos hb he
 obtain ⟨g0, g1⟩ := gcd_le (n := a * e - c * b) hbe
 have d1 : (Int.gcd (a * e - c * b) (b * e) : Int) ∣ a * e - c * b := Int.gcd_dvd_left ..
 have d2 : (Int.gcd (a * e - c * b) (b * e) : Int) ∣ b * e := Int.gcd_dvd_right ..
 unfold dst
 simp only
 generalize (a * e - c * b) = x at *
 generalize (b * e) = y at *
 generalize hg : (Int.gcd x y : Int) = g at *
 obtain ⟨u, rfl⟩ := d1
 obtain ⟨v, rfl⟩ := d2
 rw [Int.mul_ediv_cancel_left _ (by omega), Int.mul_ediv_cancel_left _ (by omega)]
 have hv : 0 < v := by
  rcases Int.lt_or_le 0 v with h | h
  ·exact h
  ·have := Int.mul_le_mul_of_nonneg_left h (by omega : 0 ≤ g)
   omega
 have hu : ((g * u).natAbs : Int) = g * (u.natAbs : Int) := by
  rw [Int.natAbs_mul]
  have : ((g.natAbs : Nat) : Int) = g := by omega
  rw [Int.natCast_mul, this]
 refine ⟨hv, by omega, ?_, ?_, ?_⟩
 ·rw [hu]; grind
 ·have := Int.mul_le_mul_of_nonneg_right (by omega : 1 ≤ g) (by omega : 0 ≤ v)
  omega
 ·rw [hu]
  have := Int.mul_le_mul_of_nonneg_right (by omega : 1 ≤ g) (by omega : (0 : Int) ≤ (u.natAbs : Int))
  omega
theorem FCompare_T {a b c e : Int} (h : SumOk a b c e) : Ev (fun k => fraction_Compare.f k (T a) (T b) (T c) (T e)) (cmp (a * e) (c * b)) := by
 have m1 : (a * e).natAbs < 10000000000000000 := by rw [Int.natAbs_mul]; exact h.ae
 have m2 : (c * b).natAbs < 10000000000000000 := by rw [Int.natAbs_mul]; exact h.cb
 have s1 : S17 (a * e) := by unfold S17; omega
 have s2 : S17 (c * b) := by unfold S17; omega
 have j0 : Ev (fun k => fraction_Compare.j0 k (T a) (T b) (T c) (T e)) (cmp (a * e) (c * b)) := by
  refine Ev.step (fun k => by rw [fraction_Compare.j0]) ?_
  by_cases hbe : b = e
  ·subst hbe
   refine Ev.congr (fun k => if_pos rfl) (ev_const fun _ => ?_)
   rw [Compare_T (by have := h.sa.size; omega) (by have := h.sc.size; omega)]
   simp only [Option.bind_some]
   congr 1
   unfold cmp
   have hb0 := h.b0
   have lt : ∀ {x y : Int}, x * b < y * b ↔ x < y := fun {x y} => Int.mul_lt_mul_right hb0
   by_cases x1 : a < c
   ·rw [if_pos x1, if_pos (lt.2 x1)]
   ·rw [if_neg x1, if_neg (fun hh => x1 (lt.1 hh))]
    by_cases x2 : c < a
    ·rw [if_pos x2, if_pos (lt.2 x2)]
    ·rw [if_neg x2, if_neg (fun hh => x2 (lt.1 hh))]
  ·have : (T b).toList ≠ (T e).toList := by rw [T_toList, T_toList]; exact fun hh => hbe (itoa_inj hh)
   refine Ev.congr (fun k => if_neg this) (Ev.bind (Mul_T h.sa h.se h.ae) (Ev.bind (Mul_T h.sc h.sb h.cb) (ev_const fun _ => ?_)))
   rw [Compare_T (by have := s1.size; omega) (by have := s2.size; omega)]
   rfl
 unfold fraction_Compare.f
 rcases both_T a b with ⟨e1, l1, l2, l3, l4⟩ | ⟨x, y, e1⟩
 ·rw [e1]
  simp only [Option.bind_some, if_true]
  rcases both_T c e with ⟨e2, l5, l6, l7, l8⟩ | ⟨x, y, e2⟩
  ·rw [e2]
   simp only [Option.bind_some, if_true]
   refine ev_const fun _ => ?_
   rw [w64 (x := a * e) (by omega) (by omega), w64 (x := c * b) (by omega) (by omega)]
   unfold cmp
   by_cases h1 : a * e < c * b
   ·rw [if_pos h1, if_pos h1]
   ·rw [if_neg h1, if_neg h1]
    by_cases h2 : c * b < a * e
    ·rw [if_pos h2, if_pos h2]
    ·rw [if_neg h2, if_neg h2]
  ·rw [e2]
   simpa using j0
 ·rw [e1]
  simpa using j0
theorem both_little {n d : Int} (h1 : 0 ≤ n) (h2 : n < 1000000000) (h3 : 0 ≤ d) (h4 : d < 1000000000) : fraction_both.f (T n) (T d) = some (n, d, true) := by
 unfold fraction_both.f
 have a1 : (T n).size ≤ 8 + 1 := T_size_le (by omega) (by omega)
 have a2 : (T d).size ≤ 8 + 1 := T_size_le (by omega) (by omega)
 rw [flittle_yes (by omega), flittle_yes (by omega)]
 rfl
theorem FCompare_little {a b c e : Int} (h1 : 0 ≤ a ∧ a < 1000000000) (h2 : 0 ≤ b ∧ b < 1000000000) (h3 : 0 ≤ c ∧ c < 1000000000) (h4 : 0 ≤ e ∧ e < 1000000000) (k : Nat) : fraction_Compare.f k (T a) (T b) (T c) (T e) = some (cmp (a * e) (c * b)) := by
 have m : ∀ {x y : Int}, 0 ≤ x ∧ x < 1000000000 → 0 ≤ y ∧ y < 1000000000 → 0 ≤ x * y ∧ x * y ≤ 1000000000 * 1000000000 := fun {x y} hx hy =>
  ⟨Int.mul_nonneg hx.1 hy.1, Int.mul_le_mul (by omega) (by omega) hy.1 (by omega)⟩
 have m1 := m h1 h4
 have m2 := m h3 h2
 unfold fraction_Compare.f
 rw [both_little h1.1 h1.2 h2.1 h2.2]
 simp only [Option.bind_some, if_true]
 rw [both_little h3.1 h3.2 h4.1 h4.2]
 simp only [Option.bind_some, if_true]
 rw [w64 (x := a * e) (by omega) (by omega), w64 (x := c * b) (by omega) (by omega)]
 unfold cmp
 by_cases x1 : a * e < c * b
 ·rw [if_pos x1, if_pos x1]
 ·rw [if_neg x1, if_neg x1]
  by_cases x2 : c * b < a * e
  ·rw [if_pos x2, if_pos x2]
  ·rw [if_neg x2, if_neg x2]
theorem cmp_neg {a b : Int} : cmp a b < 0 ↔ a < b := by
 unfold cmp
 by_cases h : a < b
 ·simp [h]
 ·rw [if_neg h]; split <;> omega
theorem dst_nearer {n d p q r s : Int} (hd : 0 < d) (hq : 0 < q) (hs : 0 < s) :
  (dst n d p q).1 * (dst n d r s).2 < (dst n d r s).1 * (dst n d p q).2 ↔ ((n * q - p * d).natAbs : Int) * s < ((n * s - r * d).natAbs : Int) * q := by
 obtain ⟨b0, a0, e1, _, _⟩ := dst_spec (a := n) (c := p) hd hq
 obtain ⟨d0, c0, e2, _, _⟩ := dst_spec (a := n) (c := r) hd hs
 generalize (dst n d p q).1 = A at *
 generalize (dst n d p q).2 = B at *
 generalize (dst n d r s).1 = C at *
 generalize (dst n d r s).2 = D at *
 generalize ((n * q - p * d).natAbs : Int) = E1 at *
 generalize ((n * s - r * d).natAbs : Int) = E2 at *
 have pos : 0 < (d * q) * (d * s) := Int.mul_pos (Int.mul_pos hd hq) (Int.mul_pos hd hs)
 have pos2 : 0 < (B * D) * d := Int.mul_pos (Int.mul_pos b0 d0) hd
 have f1 : (A * D) * ((d * q) * (d * s)) = (E1 * s) * ((B * D) * d) := by
  have : (A * D) * ((d * q) * (d * s)) = (A * (d * q)) * D * (d * s) := by grind
  rw [this, e1]; grind
 have f2 : (C * B) * ((d * q) * (d * s)) = (E2 * q) * ((B * D) * d) := by
  have : (C * B) * ((d * q) * (d * s)) = (C * (d * s)) * B * (d * q) := by grind
  rw [this, e2]; grind
 constructor
 ·intro h
  have := Int.mul_lt_mul_of_pos_right h pos
  rw [f1, f2] at this
  exact Int.lt_of_mul_lt_mul_right this (by omega)
 ·intro h
  have := Int.mul_lt_mul_of_pos_right h pos2
  rw [← f1, ← f2] at this
  exact Int.lt_of_mul_lt_mul_right this (by omega)
end Go.Proofs.YtidajgkepdkcbaaGreatDoor
end
section
namespace Go.Proofs.YtidajgkepdkcbaaGreatDoor
open Go.RowKit Go.Lib Go.Proofs.YtidajgkepdkcbaaGreatDoorW.PrintWords Go.Proofs.YtidajgkepdkcbaaGreatDoorW.PrintLast Go.Proofs.YtidajgkepdkcbaaGreatDoorW.PrintMore PF
theorem lit2 : (⟨#[50]⟩ : ByteArray) = T 2 := by
 apply ba_ext'
 rw [T_dataList]
 have : itoa 2 = [50] := by
  have h := itoa_nat 2
  rw [decDigits_small (by omega)] at h
  exact h
 rw [this]
theorem cHalf (k : Nat) (a last : Int) (w : World) (hG : GWorld w) (ha : S15 a) :
  Calls Tryz.prog 54 #[.int .i64 k, .string (T a), .string (T last)] w fun e w' => e = .returned (.string (T (half a last))) ∧ Below w.heap.size w w' := by
 have c := cDivMod w hG ha.S17 (b := 2) (by unfold S17; omega) (by omega)
 rw [← lit2] at c
 unfold half
 clear hG ha
 go_enter Tryz.func54, Tryz.ntmps54
 go_wp2_with (go_at_call 55; with_reducible refine c.mono ?_; rintro e w1 ⟨rfl, H1⟩; replace H1 := Lib.hid H1)
 go_ret
 exact ⟨rfl, H1.out⟩
theorem cOne (k : Nat) (a last : Int) (w : World) :
  Calls Tryz.prog 53 #[.int .i64 k, .string (T a), .string (T last)] w fun e w' => e = .returned (.string (T 1)) ∧ Below w.heap.size w w' := by
 rw [← lit1]
 go_enter Tryz.func53, Tryz.ntmps53
 go_wp2
 go_ret
 exact ⟨rfl, Below.refl _ _⟩
theorem cLast (k : Nat) (a last : Int) (w : World) :
  Calls Tryz.prog 92 #[.int .i64 k, .string (T a), .string (T last)] w fun e w' => e = .returned (.string (T last)) ∧ Below w.heap.size w w' := by
 go_enter Tryz.func92, Tryz.ntmps92
 go_wp2
 go_ret
 exact ⟨rfl, Below.refl _ _⟩
end Go.Proofs.YtidajgkepdkcbaaGreatDoor
end
section
namespace Go.Proofs.YtidajgkepdkcbaaGreatDoor
theorem countP_lt {α : Type} {p q : α → Bool} : ∀ (l : List α), (∀ x ∈ l, q x = true → p x = true) → (∃ x ∈ l, p x = true ∧ q x = false) → l.countP q < l.countP p
 | [], _, h => by obtain ⟨x, hx, _⟩ := h; cases hx
 | y :: l, hle, h => by
  have hm : l.countP q ≤ l.countP p := List.countP_mono_left (fun x hx => hle x (List.mem_cons_of_mem _ hx))
  obtain ⟨x, hx, h1, h2⟩ := h
  rcases List.mem_cons.1 hx with rfl | hx
  ·simp only [List.countP_cons, h1, h2, if_true, Bool.false_eq_true, if_false]; omega
  ·have := countP_lt l (fun x hx => hle x (List.mem_cons_of_mem _ hx)) ⟨x, hx, h1, h2⟩
   have hy := hle y List.mem_cons_self
   simp only [List.countP_cons]
   cases hq : q y with
   | false => simp only [Bool.false_eq_true, if_false]; split <;> omega
   | true => simp only [hy hq, if_true]; omega
section
variable {F : Fence} {n : Nat} {P : Program} {ops : Array Oper} {Q : Exit → Act → World → Prop}
def don (L : Array Bool) : Nat → Bool := fun i => L.getD i true
theorem region_go (I : (Nat → Bool) → Act → World → Prop) (hlt : ∀ i o, ops[i]? = some o → ∀ e ∈ o.after, Region.binds .any e = true → e.on < i)
  (hs : ∀ (b : Nat → Bool) (i : Nat) (o : Oper) (a : Act) (w : World), ops[i]? = some o → I b a w → b i = false → (∀ e ∈ o.after, Region.binds .any e = true → b e.on = true) →
   wpOpIn F n P ops Q i (fun a' w' => I (fun j => if j = i then true else b j) a' w') a w)
  (hend : ∀ (b : Nat → Bool) (a : Act) (w : World), (∀ i, i < ops.size → b i = true) → I b a w → Q .normal a w) :
  ∀ (fuel : Nat) (L : Array Bool) (a : Act) (w : World), L.size = ops.size → (List.range ops.size).countP (fun i => !don L i) ≤ fuel → I (don L) a w → wpAnyIn F n P .any ops Q fuel L a w := by
 have hall : ∀ (L : Array Bool), L.size = ops.size → Region.ready .any ops L = [] → ∀ i, i < ops.size → don L i = true := by
  intro L hL hr i
  induction i using Nat.strongRecOn with
  | _ i ih =>
   intro hi
   cases hd : don L i with
   | true => rfl
   | false =>
    exfalso
    have : i ∈ Region.ready .any ops L := by
     unfold Region.ready
     refine List.mem_filter.2 ⟨List.mem_range.2 hi, ?_⟩
     have ho : ops[i]? = some ops[i] := Array.getElem?_eq_getElem hi
     rw [ho]
     simp only [Option.map_some, Option.getD_some, Bool.and_eq_true, Bool.not_eq_true', Array.all_eq_true_iff_forall_mem, Bool.or_eq_true]
     refine ⟨hd, fun e he => ?_⟩
     cases hb : Region.binds .any e with
     | false => exact .inl rfl
     | true =>
      right
      have h1 := hlt i _ ho e he hb
      have h2 := ih e.on h1 (by omega)
      unfold don at h2
      simp only [Array.getD_eq_getD_getElem?] at h2 ⊢
      rw [Array.getElem?_eq_getElem (by omega)] at h2 ⊢
      simpa using h2
    rw [hr] at this
    cases this
 have hmem : ∀ (L : Array Bool) (i : Nat), L.size = ops.size → i ∈ Region.ready .any ops L → i < ops.size ∧ don L i = false ∧ ∀ o, ops[i]? = some o → ∀ e ∈ o.after, Region.binds .any e = true → don L e.on = true := by
  intro L i hL hi
  unfold Region.ready at hi
  obtain ⟨h1, h2⟩ := List.mem_filter.1 hi
  have h1 := List.mem_range.1 h1
  have ho : ops[i]? = some ops[i] := Array.getElem?_eq_getElem h1
  rw [ho] at h2
  simp only [Option.map_some, Option.getD_some, Bool.and_eq_true, Bool.not_eq_true', Array.all_eq_true_iff_forall_mem, Bool.or_eq_true] at h2
  refine ⟨h1, h2.1, fun o ho' e he hb => ?_⟩
  rw [ho] at ho'
  obtain rfl := Option.some.inj ho'
  rcases h2.2 e he with h3 | h3
  ·rw [hb] at h3; cases h3
  ·have h4 := hlt i _ ho e he hb
   unfold don
   simp only [Array.getD_eq_getD_getElem?] at h3 ⊢
   rw [Array.getElem?_eq_getElem (by omega)] at h3 ⊢
   simpa using h3
 intro fuel
 induction fuel with
 | zero =>
  intro L a w hL hc hI
  have h0 : ∀ i, i < ops.size → don L i = true := by
   intro i hi
   have := List.countP_eq_zero.1 (Nat.le_zero.1 hc) i (List.mem_range.2 hi)
   simpa using this
  refine ⟨?_, hend _ a w h0 hI⟩
  rw [List.eq_nil_iff_forall_not_mem]
  intro i hi
  obtain ⟨h1, h2, _⟩ := hmem L i hL hi
  rw [h0 i h1] at h2
  cases h2
 | succ fuel ih =>
  intro L a w hL hc hI
  refine ⟨fun hr => hend _ a w (hall L hL hr) hI, fun i hi => ?_⟩
  obtain ⟨h1, h2, h3⟩ := hmem L i hL hi
  have ho : ops[i]? = some ops[i] := Array.getElem?_eq_getElem h1
  refine wpOpIn_mono (fun a' w' h => ?_) (hs (don L) i _ a w ho hI h2 (h3 _ ho))
  have hd : don (L.setIfInBounds i true) = fun j => if j = i then true else don L j := by
   funext j
   unfold don
   simp only [Array.getD_eq_getD_getElem?, Array.getElem?_setIfInBounds]
   by_cases e : j = i
   ·subst e; simp [hL, h1]
   ·simp [e, Ne.symm e]
  refine ih _ _ _ (by simp [hL]) ?_ (by rw [hd]; exact h)
  have := countP_lt (p := fun j => !don L j) (q := fun j => !don (L.setIfInBounds i true) j) (List.range ops.size) (fun x _ hx => by rw [hd] at hx; simp only at hx; by_cases e : x = i <;> simp_all) ⟨i, List.mem_range.2 h1, by simp [h2], by rw [hd]; simp⟩
  omega
theorem wpIn_region_inv {id : Nat} {a : Act} {w : World} (hm : P.follows .mixedOrders = true) (I : (Nat → Bool) → Act → World → Prop)
  (hlt : ∀ i o, ops[i]? = some o → ∀ e ∈ o.after, Region.binds .any e = true → e.on < i)
  (h0 : I (fun i => !decide (i < ops.size)) a { w with drawn := w.drawn + 1 })
  (hs : ∀ (b : Nat → Bool) (i : Nat) (o : Oper) (a : Act) (w : World), ops[i]? = some o → I b a w → b i = false → (∀ e ∈ o.after, Region.binds .any e = true → b e.on = true) →
   wpOpIn F n P ops Q i (fun a' w' => I (fun j => if j = i then true else b j) a' w') a w)
  (hend : ∀ (b : Nat → Bool) (a : Act) (w : World), (∀ i, i < ops.size → b i = true) → I b a w → Q .normal a w) : (Code.region id ops true).wpIn F n P Q a w := by
 refine wpIn_region_any hm (region_go I hlt hs hend _ _ _ _ (by simp) ?_ ?_)
 ·exact Nat.le_trans (List.countP_le_length) (by simp)
 ·have : don (Array.replicate ops.size false) = fun i => !decide (i < ops.size) := by
   funext i
   unfold don
   simp only [Array.getD_eq_getD_getElem?, Array.getElem?_replicate]
   by_cases h : i < ops.size <;> simp [h]
  rw [this]; exact h0
def sel (c : Bool) (v : Value) : Value := if c then v else undef
theorem sel_true (v : Value) : sel true v = v := rfl
def putV (a : Act) (b : Nat → Bool) (V : List (Nat × Nat × Value)) : Act := { a with tmps := V.foldl (fun t e => t.setIfInBounds e.2.1 (sel (b e.1) e.2.2)) a.tmps }
theorem wpIn_region_vals {id : Nat} {a : Act} {w : World} (hm : P.follows .mixedOrders = true) (V : List (Nat × Nat × Value)) (B : World → Prop)
  (hlt : ∀ i o, ops[i]? = some o → ∀ e ∈ o.after, Region.binds .any e = true → e.on < i)
  (h0 : putV a (fun i => !decide (i < ops.size)) V = a) (hB : B { w with drawn := w.drawn + 1 }) (hV : ∀ e ∈ V, e.1 < ops.size)
  (hs : ∀ (b : Nat → Bool) (i : Nat) (o : Oper) (w' : World), ops[i]? = some o → B w' → b i = false → (∀ e ∈ o.after, Region.binds .any e = true → b e.on = true) →
   wpOpIn F n P ops Q i (fun a' w'' => a' = putV a (fun j => if j = i then true else b j) V ∧ B w'') (putV a b V) w')
  (hend : ∀ w', B w' → Q .normal (putV a (fun _ => true) V) w') : (Code.region id ops true).wpIn F n P Q a w := by
 refine wpIn_region_inv hm (fun b a' w' => a' = putV a b V ∧ B w') hlt ⟨h0.symm, hB⟩ ?_ ?_
 ·rintro b i o a' w' ho ⟨rfl, hb⟩ hi hd
  exact hs b i o w' ho hb hi hd
 ·rintro b a' w' hall ⟨rfl, hb⟩
  have : ∀ (L : List (Nat × Nat × Value)) (t : Array Value), (∀ e ∈ L, e.1 < ops.size) → L.foldl (fun t e => t.setIfInBounds e.2.1 (sel (b e.1) e.2.2)) t = L.foldl (fun t e => t.setIfInBounds e.2.1 (sel true e.2.2)) t := by
   intro L
   induction L with
   | nil => intro t _; rfl
   | cons e L ih =>
    intro t h
    rw [List.foldl_cons, List.foldl_cons, hall e.1 (h e (by simp))]
    exact ih _ (fun e he => h e (by simp [he]))
  have e : putV a b V = putV a (fun _ => true) V := by
   unfold putV
   rw [this V a.tmps hV]
  rw [e]
  exact hend w' hb
end
end Go.Proofs.YtidajgkepdkcbaaGreatDoor
end
section
namespace Go.Proofs.YtidajgkepdkcbaaGreatDoor
def bstep (n d : Int) (out : List (Int × Int)) (y : Int × Int) : List (Int × Int) :=
 match out.getLast? with
 | none => [y]
 | some z => if nearer n d y z then (if y.2 = z.2 then out.dropLast ++ [y] else out ++ [y]) else out
theorem bstep_snoc (n d : Int) (pre : List (Int × Int)) (z y : Int × Int) :
  bstep n d (pre ++ [z]) y = if nearer n d y z then (if y.2 = z.2 then pre ++ [y] else pre ++ [z] ++ [y]) else pre ++ [z] := by
 unfold bstep
 simp [List.getLast?_append, List.dropLast_append_of_ne_nil]
theorem bstep_len (n d : Int) (out : List (Int × Int)) (y : Int × Int) : (bstep n d out y).length ≤ out.length + 1 := by
 unfold bstep
 cases h : out.getLast? with
 | none => simp
 | some z =>
  simp only
  split
  ·split <;> simp <;> omega
  ·omega
theorem fold_len (n d : Int) : ∀ (ys out : List (Int × Int)), (ys.foldl (bstep n d) out).length ≤ out.length + ys.length
 | [], out => by simp
 | y :: ys, out => by
  rw [List.foldl_cons]
  have := fold_len n d ys (bstep n d out y)
  have := bstep_len n d out y
  simp only [List.length_cons]
  omega
end Go.Proofs.YtidajgkepdkcbaaGreatDoor
end
section
namespace Go.Proofs.YtidajgkepdkcbaaGreatDoor
structure Good (n d bound M : Int) (y : Int × Int) : Prop where
 q1 : 1 ≤ y.2
 qd : y.2 ≤ d
 qb : y.2 ≤ bound
 g : Int.gcd y.1 y.2 = 1
 e1 : -d ≤ n * y.2 - y.1 * d
 e2 : n * y.2 - y.1 * d ≤ d
 p1 : -(M + 1) ≤ y.1
 p2 : y.1 ≤ M + 1
theorem gcd_of_det {p q u v : Int} (h : p * v - u * q = 1 ∨ p * v - u * q = -1) : Int.gcd p q = 1 := by
 have h1 : (Int.gcd p q : Int) ∣ p * v - u * q := Int.dvd_sub (Int.dvd_mul_of_dvd_left (Int.gcd_dvd_left ..)) (Int.dvd_mul_of_dvd_right (Int.gcd_dvd_right ..))
 have h2 : (Int.gcd p q : Int) ∣ 1 := by
  rcases h with h | h
  ·rwa [h] at h1
  ·rw [h] at h1; exact (Int.dvd_neg).1 h1
 have := Int.eq_one_of_dvd_one (by omega) h2
 omega
theorem semis_good {n d bound M : Int} (hn1 : -M ≤ n) (hn2 : n ≤ M) (hd : 0 < d) {f : Int → Int → Int} : ∀ (l : List Int) (c : CS) (N D s : Int), Mid n d bound c N D s → isCf l N D → ∀ y ∈ semis f bound false c l, Good n d bound M y
 | [], _, _, _, _, _, h, _, _ => h.elim
 | a :: l, c, N, D, s, hM, hcf, y, hy => by
  obtain ⟨ha, hrest⟩ := hcf
  subst ha
  unfold semis at hy
  simp only [Bool.false_eq_true, if_false, Bool.false_or] at hy
  have hD := hM.at_.hD
  have q1 := hM.q1
  rcases List.mem_append.1 hy with hy | hy
  ·obtain ⟨j, hj, rfl⟩ := List.mem_map.1 hy
   obtain ⟨hj1, hj2⟩ := List.mem_filter.1 hj
   have hj2 : 0 < j := by simpa using hj2
   have hj3 := (mem_js.1 hj1).2
   have hml : c.most (N / D) bound ≤ N / D := CS.most_le
   have hb := CS.most_bound (c := c) (a := N / D) (j := j) (bound := bound) q1 hj3
   obtain ⟨⟨c1, c2⟩, c3⟩ := hM.semi (M := M) hn1 hn2 hd (by omega) (by omega : j ≤ N / D)
   have c4 : 1 * c.q ≤ j * c.q := Int.mul_le_mul_of_nonneg_right (by omega) (by omega)
   have hu := hM.u0
   have jD : j * D ≤ N := by
    have := Int.mul_le_mul_of_nonneg_right (by omega : j ≤ N / D) (by omega : 0 ≤ D)
    have := Int.ediv_mul_le N (by omega : D ≠ 0)
    omega
   have jD0 : 0 ≤ j * D := Int.mul_nonneg (by omega) (by omega)
   have e1 : n * (c.u + j * c.q) - (c.b + j * c.p) * d = s * (N - j * D) := by
    have := hM.at_.det; rw [hM.at_.hd, hM.at_.hn, ← this]; grind
   have hN := hM.Nd
   refine ⟨by simp only; omega, c1, hb, ?_, ?_, ?_, c3.1, c3.2⟩
   ·refine gcd_of_det (u := c.p) (v := c.q) ?_
    have : (c.b + j * c.p) * c.q - c.p * (c.u + j * c.q) = -s := by have := hM.at_.det; rw [← this]; grind
    rw [this]
    rcases hM.at_.hs with x | x <;> rw [x] <;> simp
   ·simp only
    rw [e1]
    rcases hM.at_.hs with x | x <;> rw [x] <;> omega
   ·simp only
    rw [e1]
    rcases hM.at_.hs with x | x <;> rw [x] <;> omega
  ·split at hy
   ·cases hy
   ·rename_i hlt
    have hma : c.most (N / D) bound = N / D := by have := CS.most_le (c := c) (a := N / D) (bound := bound); omega
    rcases hrest with ⟨_, hnil⟩ | ⟨hr, hl⟩
    ·subst hnil; simp [semis] at hy
    ·have ha1 : 1 ≤ N / D := (Int.le_ediv_iff_mul_le (by omega)).2 (by have := hM.DN; omega)
     have aq : 1 * c.q ≤ N / D * c.q := Int.mul_le_mul_of_nonneg_right ha1 (by omega)
     have e1 := Int.emod_lt_of_pos N hD
     have hqb := CS.most_bound (c := c) (a := N / D) (j := N / D) (bound := bound) q1 (by omega)
     have hu := hM.u0
     refine semis_good hn1 hn2 hd l (c.next (N / D)) D (N % D) (-s) ⟨hM.at_.step hr, ?_, ?_, ?_, ?_, by omega, by have := hM.DN; have := hM.Nd; omega⟩ hl y hy <;> simp only [CS.next] <;> omega
theorem semis_all {n d bound M : Int} (hn1 : -M ≤ n) (hn2 : n ≤ M) (hd : 0 < d) (hb : 1 ≤ bound) {f : Int → Int → Int} {ts : List Int} (h : isCf ts n d) : ∀ y ∈ semis f bound true CS.begin ts, Good n d bound M y := by
 cases ts with
 | nil => exact h.elim
 | cons a l =>
  obtain ⟨ha, hrest⟩ := h
  rw [semis_first]
  have e := Int.mul_ediv_add_emod n d
  have r0 := Int.emod_nonneg n (b := d) (by omega)
  have r1 := Int.emod_lt_of_pos n hd
  rw [← ha] at e
  have ead : a * d = d * a := Int.mul_comm ..
  intro y hy
  rcases List.mem_cons.1 hy with rfl | hy
  ·have b := bnd (x := a) (y := 1) (n := n) (d := d) (r := -(n % d)) (M := M) (by omega) (by omega) (by omega) (by omega) (by omega) hd hn1 hn2
   exact ⟨by simp, by simp only; omega, hb, by simp, by simp only; omega, by simp only; omega, b.1, b.2⟩
  ·rcases hrest with ⟨_, hnil⟩ | ⟨hr, hl⟩
   ·subst hnil; simp [semis] at hy
   ·have hat := (CS.At.start n d hd).step hr
    rw [← ha] at hat
    exact semis_good hn1 hn2 hd l _ d (n % d) (-1) ⟨hat, by simp [CS.next, CS.begin], by simp [CS.next, CS.begin], by simp [CS.next, CS.begin], by simp [CS.next, CS.begin]; omega, by omega, Int.le_refl _⟩ hl y hy
end Go.Proofs.YtidajgkepdkcbaaGreatDoor
end
section
namespace Go.Proofs.YtidajgkepdkcbaaGreatDoor
theorem sorted_len {α : Type} (g : α → Int) : ∀ (l : List α) (lo hi : Int), l.Pairwise (fun a b => g a < g b) → (∀ y ∈ l, lo ≤ g y ∧ g y ≤ hi) → l = [] ∨ (l.length : Int) ≤ hi - lo + 1
 | [], _, _, _, _ => .inl rfl
 | x :: l, lo, hi, h, hb => by
  obtain ⟨h1, h2⟩ := List.pairwise_cons.1 h
  have h3 := sorted_len g l (g x + 1) hi h2 (fun y hy => ⟨by have := h1 y hy; omega, (hb y (by simp [hy])).2⟩)
  have h4 := hb x (by simp)
  right
  simp only [List.length_cons]
  rcases h3 with rfl | h3
  ·simp; omega
  ·omega
theorem semis_len {n d bound : Int} (hd : 0 < d) (hb : 1 ≤ bound) {f : Int → Int → Int} {ts : List Int} (h : isCf ts n d) : ((semis f bound true CS.begin ts).length : Int) ≤ bound + 1 := by
 cases ts with
 | nil => exact h.elim
 | cons a l =>
  rw [semis_first]
  have hpos : ∀ x ∈ l, 1 ≤ x := by
   rcases h.2 with ⟨_, rfl⟩ | ⟨h1, h2⟩
   ·simp
   ·have r0 := Int.emod_nonneg n (b := d) (by omega)
    have r1 := Int.emod_lt_of_pos n hd
    exact h2.pos (by omega) (by omega)
  have := sorted_len (fun y : Int × Int => y.2) _ 1 bound (semis_sorted (f := f) (bound := bound) l (CS.begin.next a) hpos (by simp [CS.next, CS.begin]) (by simp [CS.next, CS.begin]) (by simp [CS.next, CS.begin])).1 (fun y hy => by
   have := (semis_sorted (f := f) (bound := bound) l (CS.begin.next a) hpos (by simp [CS.next, CS.begin]) (by simp [CS.next, CS.begin]) (by simp [CS.next, CS.begin])).2 y hy
   simp [CS.next, CS.begin] at this
   omega)
  simp only [List.length_cons]
  rcases this with h3 | h3
  ·rw [h3]; simp; omega
  ·omega
theorem bstep_mem {n d : Int} {out : List (Int × Int)} {y z : Int × Int} (h : z ∈ bstep n d out y) : z ∈ out ∨ z = y := by
 unfold bstep at h
 split at h
 ·exact .inr (by simpa using h)
 ·split at h
  ·split at h
   ·rcases List.mem_append.1 h with h | h
    ·exact .inl (List.dropLast_subset _ h)
    ·exact .inr (by simpa using h)
   ·rcases List.mem_append.1 h with h | h
    ·exact .inl h
    ·exact .inr (by simpa using h)
  ·exact .inl h
theorem fold_mem {n d : Int} {z : Int × Int} : ∀ (ys out : List (Int × Int)), z ∈ ys.foldl (bstep n d) out → z ∈ out ∨ z ∈ ys
 | [], out, h => .inl h
 | y :: ys, out, h => by
  rcases fold_mem ys (bstep n d out y) h with h | h
  ·rcases bstep_mem h with h | rfl
   ·exact .inl h
   ·exact .inr (by simp)
  ·exact .inr (by simp [h])
theorem fold_take {α β : Type} (f : β → α → β) (a : β) (ys : List α) (i : Nat) (y : α) (h : ys[i]? = some y) : (ys.take (i + 1)).foldl f a = f ((ys.take i).foldl f a) y := by
 rw [List.take_add_one, h]
 simp [List.foldl_append]
theorem Good.sumOk {n d bound M : Int} {y : Int × Int} (h : Good n d bound M y) (hn1 : -1000000 < n) (hn2 : n < 10000000) (hF : 0 < d) (hd2 : d < 10000000) (hb2 : bound ≤ 60) (hM : M ≤ 10000000) : SumOk n d y.1 y.2 := by
 have q1 := h.q1
 have qb := h.qb
 have p1 := h.p1
 have p2 := h.p2
 have m1 : n.natAbs * y.2.natAbs ≤ 10000000 * 60 := Nat.mul_le_mul (by omega) (by omega)
 have m2 : y.1.natAbs * d.natAbs ≤ 10000001 * 10000000 := Nat.mul_le_mul (by omega) (by omega)
 have m3 : d.natAbs * y.2.natAbs ≤ 10000000 * 60 := Nat.mul_le_mul (by omega) (by omega)
 refine ⟨?_, ?_, ?_, ?_, hF, by omega, by omega, by omega, by omega⟩ <;> (unfold S17; omega)
theorem Good.dist {n d bound M : Int} {y : Int × Int} (h : Good n d bound M y) (hF : 0 < d) (hd2 : d < 10000000) (hb2 : bound ≤ 60) : (0 ≤ (dst n d y.1 y.2).1 ∧ (dst n d y.1 y.2).1 < 1000000000) ∧ (0 ≤ (dst n d y.1 y.2).2 ∧ (dst n d y.1 y.2).2 < 1000000000) := by
 obtain ⟨b0, a0, _, e2, e3⟩ := dst_spec (a := n) (c := y.1) hF (show 0 < y.2 by have := h.q1; omega)
 have h1 := h.e1
 have h2 := h.e2
 have h3 : d * y.2 ≤ d * 60 := Int.mul_le_mul_of_nonneg_left (by have := h.qb; omega) (by omega)
 refine ⟨⟨a0, by omega⟩, by omega, by omega⟩
theorem Good.fr {n d bound M : Int} {y : Int × Int} (h : Good n d bound M y) : fr y.1 y.2 = (T y.1, T y.2) := by
 unfold Go.Proofs.YtidajgkepdkcbaaGreatDoor.fr
 rw [h.g]
 simp
end Go.Proofs.YtidajgkepdkcbaaGreatDoor
end
