/- A part of the proof in QSp5. -/
import Derived.Test.YtidajgkepdkcbaaGreatDoorQSp1
set_option linter.unusedVariables false
set_option linter.unusedSimpArgs false
section
namespace Go.Proofs.YtidajgkepdkcbaaGreatDoor.PF
open Go.RowKit Go.Proofs.YtidajgkepdkcbaaGreatDoorW.PrintWords Go.Proofs.YtidajgkepdkcbaaGreatDoorW.PrintLast Go.Proofs.YtidajgkepdkcbaaGreatDoorW.PrintMore
attribute [local go_sem] max2_int min2_int max_two min_two max_three min_three max_four min_four
attribute [local go_sem high] eqA24
mutual
def schismaref04_Int.j0 : Nat → ByteArray → Int → Bool → Option (Int × Bool)
 | 0, _, _, _ => none
 | k + 1, x4, x5, x16 => if x16 = true then (if 1 ≤ (x4.size : Int) then (schismaref04_Int.j1 k (x4.extract 1 x4.size) (-1)) else (none)) else (schismaref04_Int.j1 k x4 x5)
def schismaref04_Int.j1 : Nat → ByteArray → Int → Option (Int × Bool)
 | 0, _, _ => none
 | k + 1, x4, x5 => if (x4.size : Int) = 0 then (schismaref04_Int.j2 k x4 x5 true) else (if (x4.size : Int) > 17 then (schismaref04_Int.j2 k x4 x5 true) else (if 0 < (x4.size : Int) then (if (bt x4 0) = 48 then (if (x4.size : Int) > 1 then (schismaref04_Int.j2 k x4 x5 true) else (schismaref04_Int.j2 k x4 x5 (decide (x5 < 0)))) else (schismaref04_Int.j2 k x4 x5 false)) else (none)))
def schismaref04_Int.j2 : Nat → ByteArray → Int → Bool → Option (Int × Bool)
 | 0, _, _, _ => none
 | k + 1, x4, x5, x40 => if x40 = true then (some (0, false)) else (schismaref04_Int.l0 k x4 x5 0 0)
def schismaref04_Int.l0 : Nat → ByteArray → Int → Int → Int → Option (Int × Bool)
 | 0, _, _, _, _ => none
 | k + 1, x4, x5, x6, x7 => if x7 < (x4.size : Int) then (if 0 ≤ x7 then (if (bt x4 x7) < 48 then (some (0, false)) else (if (bt x4 x7) > 57 then (some (0, false)) else (schismaref04_Int.l0 k x4 x5 (wrap64 ((wrap64 (10 * x6)) + (((bt x4 x7) - 48) % 256))) (wrap64 (x7 + 1))))) else (none)) else (some (wrap64 (x5 * x6), true))
end
def schismaref04_Int.f (k : Nat) (a0 : ByteArray) : Option (Int × Bool) := if (a0.size : Int) > 0 then (if 0 < (a0.size : Int) then (schismaref04_Int.j0 k a0 1 ((bt a0 0) == 45)) else (none)) else (schismaref04_Int.j0 k a0 1 false)
set_option maxHeartbeats 8000000 in
set_option maxRecDepth 100000 in
theorem schismaref04_Int.calls (k : Nat) (a0 : ByteArray) (r1 : Int) (r2 : Bool) (w : World) (h : schismaref04_Int.f k a0 = some (r1, r2)) :
  Calls Tryz.prog 43 #[.string a0] w fun e w' => e = .returned (.tuple #[.int .i64 r1, .bool r2]) ∧ Drawn0 w w' := by
 have H : (if (a0.size : Int) > 0 then (if 0 < (a0.size : Int) then (schismaref04_Int.j0 k a0 1 ((bt a0 0) == 45)) else (none)) else (schismaref04_Int.j0 k a0 1 false)) = some (r1, r2) := h
 clear h
 have HC2 := Aside0.mk H
 clear H
 go_enter Tryz.func43, Tryz.ntmps43
 go_upto_region 3 with (fail)
 repeat (go_quiet (fail); go_upto_region 3 with (fail))
 go_cut [16] (fun v16 wc => ∃ (kq : Nat) (x16_1 : Bool), v16 = .bool x16_1 ∧ Aside0 (schismaref04_Int.j0 kq a0 1 x16_1 = some (r1, r2)) ∧ Aside0 (kq ≤ k) ∧ Drawn0 w wc)
 case first =>
  have H := HC2.out
  clear HC2
  by_cases c3 : (a0.size : Int) > 0
  ·rw [if_pos c3] at H
   have c3b0 : decide (0 < (a0.size : Int)) = true := decide_eq_true c3
   have c3b1 : decide (0 < a0.size) = true := decide_eq_true (by omega)
   clear c3
   (first | rw [c3b0] | (simp only [i64_w, i32_w]; rw [c3b0]) | skip)
   by_cases c4 : 0 < (a0.size : Int)
   ·rw [if_pos c4] at H
    have c4b0 : decide (0 < (a0.size : Int)) = true := decide_eq_true c4
    have c4b1 : decide (0 < a0.size) = true := decide_eq_true (by omega)
    clear c4
    have H' := Aside0.mk H
    clear H
    have p5 : 0 ≤ (0 : Int) := (by omega)
    have q5 : 0 < a0.size := (by have : (0 : Int) < (a0.size : Int) := of_decide_eq_true (by first | (with_reducible assumption) | assumption); omega)
    have hx5 : ∀ h : 0 < a0.size, ((a0[0]'h).toNat : Int) = bt a0 0 := bt_at a0 0
    clear p5
    have qi5 : (0 < (a0.size : Int)) = True := eq_true (of_decide_eq_true (by first | (with_reducible assumption) | assumption))
    replace q5 := eq_true q5
    go_wp2
    repeat (go_quiet (fail); try go_wp2)
    go_meet
    case rel => exact ⟨_, (((bt a0 0) == 45)), (by first | rfl | (simp; done) | (simp [*]; done)), H', ⟨by first | omega | exact Nat.le_refl _⟩, by repeat (first | exact Drawn0.refl _ | apply Drawn0.step)⟩
   ·rw [if_neg c4] at H
    exact absurd H (by simp)
  ·rw [if_neg c3] at H
   have c3b0 : decide (0 < (a0.size : Int)) = false := decide_eq_false c3
   have c3b1 : decide (0 < a0.size) = false := decide_eq_false (by omega)
   clear c3
   (first | rw [c3b0] | (simp only [i64_w, i32_w]; rw [c3b0]) | skip)
   have H' := Aside0.mk H
   clear H
   go_wp2
   repeat (go_quiet (fail); try go_wp2)
   go_meet
   case rel => exact ⟨_, (false), (by first | rfl | (simp; done) | (simp [*]; done)), H', ⟨by first | omega | exact Nat.le_refl _⟩, by repeat (first | exact Drawn0.refl _ | apply Drawn0.step)⟩
 case rest =>
  clear HC2
  try clear p2
  try clear c3
  try clear c3b0
  try clear c3b1
  try clear c4
  try clear c4b0
  try clear c4b1
  try clear p5
  try clear q5
  try clear hx5
  try clear qi5
  try clear p5
  try clear q5
  obtain ⟨kq, x16_1, rfl, HA, HJ1, ⟨mc1, rfl⟩⟩ := hcut
  cases kq with
  | zero => exact absurd HA.out (by simp [schismaref04_Int.j0])
  | succ kj1 =>
   have H := HA.out
   clear HA
   simp only [schismaref04_Int.j0] at H
   have HC6 := Aside0.mk H
   clear H
   go_upto_if 16 with (fail)
   repeat (go_quiet (fail); go_upto_if 16 with (fail))
   go_cut [4, 5] (fun v4 v5 wc => ∃ (kq : Nat) (x4_5 : ByteArray) (x5_5 : Int), v4 = .string x4_5 ∧ v5 = .int .i64 x5_5 ∧ Aside0 (schismaref04_Int.j1 kq x4_5 x5_5 = some (r1, r2)) ∧ Aside0 (kq ≤ kj1) ∧ Drawn0 w wc)
   case first =>
    have H := HC6.out
    clear HC6
    by_cases c7 : x16_1 = true
    ·subst c7
     have H1 : (if 1 ≤ (a0.size : Int) then (schismaref04_Int.j1 kj1 (a0.extract 1 a0.size) (-1)) else (none)) = some (r1, r2) := by rw [if_pos rfl] at H; exact H
     clear H
     have H := H1
     clear H1
     by_cases c8 : 1 ≤ (a0.size : Int)
     ·rw [if_pos c8] at H
      have c8b0 := eq_true c8
      have c8b1 : decide (1 ≤ (a0.size : Int)) = true := decide_eq_true c8
      clear c8
      have H' := Aside0.mk H
      clear H
      go_wp2
      repeat (go_quiet (fail); try go_wp2)
      go_meet
      case rel => exact ⟨_, (a0.extract 1 a0.size), ((-1)), (by first | rfl | (simp; done) | (simp [*]; done)), (by first | rfl | (simp; done) | (simp [*]; done)), H', ⟨by have := HJ1.out; first | omega | exact Nat.le_refl _⟩, by repeat (first | exact Drawn0.refl _ | apply Drawn0.step)⟩
     ·rw [if_neg c8] at H
      exact absurd H (by simp)
    ·replace c7 := Bool.eq_false_iff.mpr c7
     subst c7
     have H1 : (schismaref04_Int.j1 kj1 a0 1) = some (r1, r2) := by rw [if_neg (show ¬ (false = true) by decide)] at H; exact H
     clear H
     have H := H1
     clear H1
     have H' := Aside0.mk H
     clear H
     go_wp2
     repeat (go_quiet (fail); try go_wp2)
     go_meet
     case rel => exact ⟨_, (a0), (1), (by first | rfl | (simp; done) | (simp [*]; done)), (by first | rfl | (simp; done) | (simp [*]; done)), H', ⟨by have := HJ1.out; first | omega | exact Nat.le_refl _⟩, by repeat (first | exact Drawn0.refl _ | apply Drawn0.step)⟩
   case rest =>
    clear HC6
    try clear c1
    try clear p2
    try clear c3
    try clear c3b0
    try clear c3b1
    try clear c4
    try clear c4b0
    try clear c4b1
    try clear p5
    try clear q5
    try clear hx5
    try clear qi5
    try clear c7
    try clear c8
    try clear c8b0
    try clear c8b1
    try clear p2
    try clear p5
    try clear q5
    obtain ⟨kq, x4_5, x5_5, rfl, rfl, HA, HJ5, ⟨mc5, rfl⟩⟩ := hcut
    cases kq with
    | zero => exact absurd HA.out (by simp [schismaref04_Int.j1])
    | succ kj5 =>
     have H := HA.out
     clear HA
     simp only [schismaref04_Int.j1] at H
     have HC9 := Aside0.mk H
     clear H
     go_upto_region 5 with (fail)
     repeat (go_quiet (fail); go_upto_region 5 with (fail))
     go_cut [40] (fun v40 wc => ∃ (kq : Nat) (x40_8 : Bool), v40 = .bool x40_8 ∧ Aside0 (schismaref04_Int.j2 kq x4_5 x5_5 x40_8 = some (r1, r2)) ∧ Aside0 (kq ≤ kj5) ∧ Drawn0 w wc)
     case first =>
      have H := HC9.out
      clear HC9
      by_cases c10 : (x4_5.size : Int) = 0
      ·rw [if_pos c10] at H
       have c10b0 : ((x4_5.size : Int) == 0) = true := beq_iff_eq.mpr c10
       have c10b1 : ((x4_5.size : Int) != 0) = false := bne_eq_false_iff_eq.mpr c10
       clear c10
       (first | rw [c10b0] | (simp only [i64_w, i32_w]; rw [c10b0]) | skip)
       have H' := Aside0.mk H
       clear H
       go_wp2
       repeat (go_quiet (fail); try go_wp2)
       go_meet
       case rel => exact ⟨_, (true), (by first | rfl | (simp; done) | (simp [*]; done)), H', ⟨by have := HJ1.out; have := HJ5.out; first | omega | exact Nat.le_refl _⟩, by repeat (first | exact Drawn0.refl _ | apply Drawn0.step)⟩
      ·rw [if_neg c10] at H
       have c10b0 : ((x4_5.size : Int) == 0) = false := beq_eq_false_iff_ne.mpr c10
       have c10b1 : ((x4_5.size : Int) != 0) = true := bne_iff_ne.mpr c10
       (first | rw [c10b0] | (simp only [i64_w, i32_w]; rw [c10b0]) | skip)
       by_cases c11 : (x4_5.size : Int) > 17
       ·rw [if_pos c11] at H
        have c11b0 : decide (17 < (x4_5.size : Int)) = true := decide_eq_true c11
        have c11b1 : decide (17 < x4_5.size) = true := decide_eq_true (by omega)
        clear c11
        have H' := Aside0.mk H
        clear H
        go_wp2
        repeat (go_quiet (fail); try go_wp2)
        go_meet
        case rel => exact ⟨_, (true), (by first | rfl | (simp; done) | (simp [*]; done)), H', ⟨by have := HJ1.out; have := HJ5.out; first | omega | exact Nat.le_refl _⟩, by repeat (first | exact Drawn0.refl _ | apply Drawn0.step)⟩
       ·rw [if_neg c11] at H
        have c11b0 : decide (17 < (x4_5.size : Int)) = false := decide_eq_false c11
        have c11b1 : decide (17 < x4_5.size) = false := decide_eq_false (by omega)
        clear c11
        by_cases c12 : 0 < (x4_5.size : Int)
        ·rw [if_pos c12] at H
         have c12b0 : decide (0 < (x4_5.size : Int)) = true := decide_eq_true c12
         have c12b1 : decide (0 < x4_5.size) = true := decide_eq_true (by omega)
         clear c12
         by_cases c14 : (bt x4_5 0) = 48
         ·rw [if_pos c14] at H
          have c14b0 : ((bt x4_5 0) == 48) = true := beq_iff_eq.mpr c14
          have c14b1 : ((bt x4_5 0) != 48) = false := bne_eq_false_iff_eq.mpr c14
          clear c14
          by_cases c15 : (x4_5.size : Int) > 1
          ·rw [if_pos c15] at H
           have c15b0 : decide (1 < (x4_5.size : Int)) = true := decide_eq_true c15
           have c15b1 : decide (1 < x4_5.size) = true := decide_eq_true (by omega)
           clear c15
           have H' := Aside0.mk H
           clear H
           have p13 : 0 ≤ (0 : Int) := (by omega)
           have q13 : 0 < x4_5.size := (by have : (0 : Int) < (x4_5.size : Int) := of_decide_eq_true (by first | (with_reducible assumption) | assumption); omega)
           have hx13 : ∀ h : 0 < x4_5.size, ((x4_5[0]'h).toNat : Int) = bt x4_5 0 := bt_at x4_5 0
           clear p13
           have qi13 : (0 < (x4_5.size : Int)) = True := eq_true (of_decide_eq_true (by first | (with_reducible assumption) | assumption))
           replace q13 := eq_true q13
           go_wp2
           repeat (go_quiet (fail); try go_wp2)
           go_meet
           case rel => exact ⟨_, (true), (by first | rfl | (simp; done) | (simp [*]; done)), H', ⟨by have := HJ1.out; have := HJ5.out; first | omega | exact Nat.le_refl _⟩, by repeat (first | exact Drawn0.refl _ | apply Drawn0.step)⟩
          ·rw [if_neg c15] at H
           have c15b0 : decide (1 < (x4_5.size : Int)) = false := decide_eq_false c15
           have c15b1 : decide (1 < x4_5.size) = false := decide_eq_false (by omega)
           clear c15
           have H' := Aside0.mk H
           clear H
           have p13 : 0 ≤ (0 : Int) := (by omega)
           have q13 : 0 < x4_5.size := (by have : (0 : Int) < (x4_5.size : Int) := of_decide_eq_true (by first | (with_reducible assumption) | assumption); omega)
           have hx13 : ∀ h : 0 < x4_5.size, ((x4_5[0]'h).toNat : Int) = bt x4_5 0 := bt_at x4_5 0
           clear p13
           have qi13 : (0 < (x4_5.size : Int)) = True := eq_true (of_decide_eq_true (by first | (with_reducible assumption) | assumption))
           replace q13 := eq_true q13
           go_wp2
           repeat (go_quiet (fail); try go_wp2)
           go_meet
           case rel => exact ⟨_, (decide (x5_5 < 0)), (by first | rfl | (simp; done) | (simp [*]; done)), H', ⟨by have := HJ1.out; have := HJ5.out; first | omega | exact Nat.le_refl _⟩, by repeat (first | exact Drawn0.refl _ | apply Drawn0.step)⟩
         ·rw [if_neg c14] at H
          have c14b0 : ((bt x4_5 0) == 48) = false := beq_eq_false_iff_ne.mpr c14
          have c14b1 : ((bt x4_5 0) != 48) = true := bne_iff_ne.mpr c14
          have H' := Aside0.mk H
          clear H
          have p13 : 0 ≤ (0 : Int) := (by omega)
          have q13 : 0 < x4_5.size := (by have : (0 : Int) < (x4_5.size : Int) := of_decide_eq_true (by first | (with_reducible assumption) | assumption); omega)
          have hx13 : ∀ h : 0 < x4_5.size, ((x4_5[0]'h).toNat : Int) = bt x4_5 0 := bt_at x4_5 0
          clear p13
          have qi13 : (0 < (x4_5.size : Int)) = True := eq_true (of_decide_eq_true (by first | (with_reducible assumption) | assumption))
          replace q13 := eq_true q13
          go_wp2
          repeat (go_quiet (fail); try go_wp2)
          go_meet
          case rel => exact ⟨_, (false), (by first | rfl | (simp; done) | (simp [*]; done)), H', ⟨by have := HJ1.out; have := HJ5.out; first | omega | exact Nat.le_refl _⟩, by repeat (first | exact Drawn0.refl _ | apply Drawn0.step)⟩
        ·rw [if_neg c12] at H
         exact absurd H (by simp)
     case rest =>
      clear HC9
      try clear c1
      try clear p1
      try clear q1
      try clear hx1
      try clear qi1
      try clear p2
      try clear c3
      try clear c3b0
      try clear c3b1
      try clear c4
      try clear c4b0
      try clear c4b1
      try clear c5
      try clear p5
      try clear q5
      try clear hx5
      try clear qi5
      try clear c7
      try clear c8
      try clear c8b0
      try clear c8b1
      try clear c10
      try clear c10b0
      try clear c10b1
      try clear c11
      try clear c11b0
      try clear c11b1
      try clear c12
      try clear c12b0
      try clear c12b1
      try clear p13
      try clear q13
      try clear hx13
      try clear qi13
      try clear c14
      try clear c14b0
      try clear c14b1
      try clear c15
      try clear c15b0
      try clear c15b1
      try clear p13
      try clear p2
      try clear p5
      try clear q13
      try clear q5
      obtain ⟨kq, x40_8, rfl, HA, HJ8, ⟨mc8, rfl⟩⟩ := hcut
      cases kq with
      | zero => exact absurd HA.out (by simp [schismaref04_Int.j2])
      | succ kj8 =>
       have H := HA.out
       clear HA
       simp only [schismaref04_Int.j2] at H
       by_cases c16 : x40_8 = true
       ·subst c16
        have H1 : (some (0, false)) = some (r1, r2) := by rw [if_pos rfl] at H; exact H
        clear H
        have H := H1
        clear H1
        simp only [Option.some.injEq, Prod.mk.injEq] at H
        obtain ⟨rfl, rfl⟩ := H
        go_wp2
        repeat (go_quiet (fail); try go_wp2)
        go_ret2
        exact ⟨by first | rfl | (simp; done) | (simp [*]; done), by repeat (first | exact Drawn0.refl _ | apply Drawn0.step)⟩
       ·replace c16 := Bool.eq_false_iff.mpr c16
        subst c16
        have H1 : (schismaref04_Int.l0 kj8 x4_5 x5_5 0 0) = some (r1, r2) := by rw [if_neg (show ¬ (false = true) by decide)] at H; exact H
        clear H
        have H := H1
        clear H1
        have H' := Aside0.mk H
        clear H
        go_wp2
        repeat (go_quiet (fail); try go_wp2)
        go_loopg [6, 7] kj8 (fun kq v6 v7 w' => ∃ (x6_4 : Int) (x7_4 : Int), v6 = .int .i64 x6_4 ∧ v7 = .int .i64 x7_4 ∧ Aside0 (schismaref04_Int.l0 kq x4_5 x5_5 x6_4 x7_4 = some (r1, r2)) ∧ Aside0 (kq ≤ kj8) ∧ Drawn0 w w')
        case atStart => exact ⟨(0), (0), (by first | rfl | (simp; done) | (simp [*]; done)), (by first | rfl | (simp; done) | (simp [*]; done)), H', ⟨Nat.le_refl _⟩, by repeat (first | exact Drawn0.refl _ | apply Drawn0.step)⟩
        case round =>
         clear H'
         try clear c1
         try clear p1
         try clear q1
         try clear hx1
         try clear qi1
         try clear p2
         try clear c3
         try clear c3b0
         try clear c3b1
         try clear c4
         try clear c4b0
         try clear c4b1
         try clear c5
         try clear p5
         try clear q5
         try clear hx5
         try clear qi5
         try clear c7
         try clear c8
         try clear c8b0
         try clear c8b1
         try clear c10
         try clear c10b0
         try clear c10b1
         try clear c11
         try clear c11b0
         try clear c11b1
         try clear c12
         try clear c12b0
         try clear c12b1
         try clear p13
         try clear q13
         try clear hx13
         try clear qi13
         try clear c14
         try clear c14b0
         try clear c14b1
         try clear c15
         try clear c15b0
         try clear c15b1
         try clear c16
         try clear p1
         try clear p13
         try clear p2
         try clear p5
         try clear q1
         try clear q13
         try clear q5
         obtain ⟨x6_4, x7_4, rfl, rfl, HA, HK4, ⟨m4, rfl⟩⟩ := hrel
         cases gk with
         | zero => exact absurd HA.out (by simp [schismaref04_Int.l0])
         | succ k4 =>
          have H := HA.out
          clear HA
          simp only [schismaref04_Int.l0] at H
          by_cases c17 : x7_4 < (x4_5.size : Int)
          ·rw [if_pos c17] at H
           have c17b0 : decide (x7_4 < (x4_5.size : Int)) = true := decide_eq_true c17
           clear c17
           by_cases c18 : 0 ≤ x7_4
           ·rw [if_pos c18] at H
            have c18b0 : decide (0 ≤ x7_4) = true := decide_eq_true c18
            clear c18
            by_cases c20 : (bt x4_5 x7_4) < 48
            ·rw [if_pos c20] at H
             have c20b0 : decide ((bt x4_5 x7_4) < 48) = true := decide_eq_true c20
             clear c20
             simp only [Option.some.injEq, Prod.mk.injEq] at H
             obtain ⟨rfl, rfl⟩ := H
             have p19 : 0 ≤ (x7_4 : Int) := of_decide_eq_true (by first | (with_reducible assumption) | assumption)
             have q19 : x7_4 < (x4_5.size : Int) := of_decide_eq_true (by first | (with_reducible assumption) | assumption)
             have hx19 := bt_at x4_5 x7_4
             replace p19 := eq_true p19
             replace q19 := eq_true q19
             go_wp2
             repeat (go_quiet (fail); try go_wp2)
             go_ret2
             exact ⟨by first | rfl | (simp; done) | (simp [*]; done), by repeat (first | exact Drawn0.refl _ | apply Drawn0.step)⟩
            ·rw [if_neg c20] at H
             have c20b0 : decide ((bt x4_5 x7_4) < 48) = false := decide_eq_false c20
             clear c20
             by_cases c22 : (bt x4_5 x7_4) > 57
             ·rw [if_pos c22] at H
              have c22b0 : decide (57 < (bt x4_5 x7_4)) = true := decide_eq_true c22
              clear c22
              simp only [Option.some.injEq, Prod.mk.injEq] at H
              obtain ⟨rfl, rfl⟩ := H
              have p19 : 0 ≤ (x7_4 : Int) := of_decide_eq_true (by first | (with_reducible assumption) | assumption)
              have q19 : x7_4 < (x4_5.size : Int) := of_decide_eq_true (by first | (with_reducible assumption) | assumption)
              have hx19 := bt_at x4_5 x7_4
              replace p19 := eq_true p19
              replace q19 := eq_true q19
              have p21 : 0 ≤ (x7_4 : Int) := of_decide_eq_true (by first | (with_reducible assumption) | assumption)
              have q21 : x7_4 < (x4_5.size : Int) := of_decide_eq_true (by first | (with_reducible assumption) | assumption)
              have hx21 := bt_at x4_5 x7_4
              replace p21 := eq_true p21
              replace q21 := eq_true q21
              go_wp2
              repeat (go_quiet (fail); try go_wp2)
              go_ret2
              exact ⟨by first | rfl | (simp; done) | (simp [*]; done), by repeat (first | exact Drawn0.refl _ | apply Drawn0.step)⟩
             ·rw [if_neg c22] at H
              have c22b0 : decide (57 < (bt x4_5 x7_4)) = false := decide_eq_false c22
              clear c22
              have H' := Aside0.mk H
              clear H
              have p19 : 0 ≤ (x7_4 : Int) := of_decide_eq_true (by first | (with_reducible assumption) | assumption)
              have q19 : x7_4 < (x4_5.size : Int) := of_decide_eq_true (by first | (with_reducible assumption) | assumption)
              have hx19 := bt_at x4_5 x7_4
              replace p19 := eq_true p19
              replace q19 := eq_true q19
              have p21 : 0 ≤ (x7_4 : Int) := of_decide_eq_true (by first | (with_reducible assumption) | assumption)
              have q21 : x7_4 < (x4_5.size : Int) := of_decide_eq_true (by first | (with_reducible assumption) | assumption)
              have hx21 := bt_at x4_5 x7_4
              replace p21 := eq_true p21
              replace q21 := eq_true q21
              have p23 : 0 ≤ (x7_4 : Int) := of_decide_eq_true (by first | (with_reducible assumption) | assumption)
              have q23 : x7_4 < (x4_5.size : Int) := of_decide_eq_true (by first | (with_reducible assumption) | assumption)
              have hx23 := bt_at x4_5 x7_4
              replace p23 := eq_true p23
              replace q23 := eq_true q23
              go_wp2
              repeat (go_quiet (fail); try go_wp2)
              go_roundg k4
              case measure => have := HJ1.out; have := HJ5.out; have := HJ8.out; have := HK4.out; omega
              case rel => exact ⟨(wrap64 ((wrap64 (10 * x6_4)) + (((bt x4_5 x7_4) - 48) % 256))), (wrap64 (x7_4 + 1)), (by first | rfl | (simp; done) | (simp [*]; done)), (by first | rfl | (simp; done) | (simp [*]; done)), H', ⟨by have := HJ1.out; have := HJ5.out; have := HJ8.out; have := HK4.out; omega⟩, by repeat (first | exact Drawn0.refl _ | apply Drawn0.step)⟩
           ·rw [if_neg c18] at H
            exact absurd H (by simp)
          ·rw [if_neg c17] at H
           have c17b0 : decide (x7_4 < (x4_5.size : Int)) = false := decide_eq_false c17
           clear c17
           simp only [Option.some.injEq, Prod.mk.injEq] at H
           obtain ⟨rfl, rfl⟩ := H
           go_wp2
           repeat (go_quiet (fail); try go_wp2)
           go_ret2
           exact ⟨by first | rfl | (simp; done) | (simp [*]; done), by repeat (first | exact Drawn0.refl _ | apply Drawn0.step)⟩
def schismaref04_Parts.f (k : Nat) (a0_0 : ByteArray) (a0_1 : ByteArray) : Option (Int × Int × Bool) := (schismaref04_Int.f k a0_0).bind fun bt336 => ((schismaref04_Int.f k a0_1).bind fun bt338 => (if bt336.2 = true then (if bt338.2 = true then (if bt338.1 ≤ 0 then (some (0, 0, false)) else ((schismaref04_Gcd.f k bt336.1 bt338.1).bind fun t340 => (if t340 = 1 then (some (bt336.1, bt338.1, true)) else (some (0, 0, false))))) else (some (0, 0, false))) else (some (0, 0, false))))
set_option maxHeartbeats 8000000 in
set_option maxRecDepth 100000 in
theorem schismaref04_Parts.calls (k : Nat) (a0_0 : ByteArray) (a0_1 : ByteArray) (r1 : Int) (r2 : Int) (r3 : Bool) (w : World) (h : schismaref04_Parts.f k a0_0 a0_1 = some (r1, r2, r3)) :
  Calls Tryz.prog 15 #[.agg #[.string a0_0, .string a0_1]] w fun e w' => e = .returned (.tuple #[.int .i64 r1, .int .i64 r2, .bool r3]) ∧ Below w.heap.size w w' := by
 have hu24 := Tryz.underlying24
 have HB := Aside0.mk (Below.refl w.heap.size w)
 have H : ((schismaref04_Int.f k a0_0).bind fun bt336 => ((schismaref04_Int.f k a0_1).bind fun bt338 => (if bt336.2 = true then (if bt338.2 = true then (if bt338.1 ≤ 0 then (some (0, 0, false)) else ((schismaref04_Gcd.f k bt336.1 bt338.1).bind fun t340 => (if t340 = 1 then (some (bt336.1, bt338.1, true)) else (some (0, 0, false))))) else (some (0, 0, false))) else (some (0, 0, false))))) = some (r1, r2, r3) := h
 clear h
 replace H := Option.bind_eq_some_iff.mp H
 obtain ⟨⟨t336, t337⟩, A20, H⟩ := H
 replace H : ((schismaref04_Int.f k a0_1).bind fun bt338 => (if t337 = true then (if bt338.2 = true then (if bt338.1 ≤ 0 then (some (0, 0, false)) else ((schismaref04_Gcd.f k t336 bt338.1).bind fun t340 => (if t340 = 1 then (some (t336, bt338.1, true)) else (some (0, 0, false))))) else (some (0, 0, false))) else (some (0, 0, false)))) = some (r1, r2, r3) := H
 have A2 := Aside0.mk A20
 clear A20
 replace H := Option.bind_eq_some_iff.mp H
 obtain ⟨⟨t338, t339⟩, A30, H⟩ := H
 replace H : (if t337 = true then (if t339 = true then (if t338 ≤ 0 then (some (0, 0, false)) else ((schismaref04_Gcd.f k t336 t338).bind fun t340 => (if t340 = 1 then (some (t336, t338, true)) else (some (0, 0, false))))) else (some (0, 0, false))) else (some (0, 0, false))) = some (r1, r2, r3) := H
 have A3 := Aside0.mk A30
 clear A30
 by_cases c4 : t337 = true
 ·subst c4
  have H1 : (if t339 = true then (if t338 ≤ 0 then (some (0, 0, false)) else ((schismaref04_Gcd.f k t336 t338).bind fun t340 => (if t340 = 1 then (some (t336, t338, true)) else (some (0, 0, false))))) else (some (0, 0, false))) = some (r1, r2, r3) := by rw [if_pos rfl] at H; exact H
  clear H
  have H := H1
  clear H1
  by_cases c5 : t339 = true
  ·subst c5
   have H1 : (if t338 ≤ 0 then (some (0, 0, false)) else ((schismaref04_Gcd.f k t336 t338).bind fun t340 => (if t340 = 1 then (some (t336, t338, true)) else (some (0, 0, false))))) = some (r1, r2, r3) := by rw [if_pos rfl] at H; exact H
   clear H
   have H := H1
   clear H1
   by_cases c6 : t338 ≤ 0
   ·rw [if_pos c6] at H
    have c6b0 : decide (t338 ≤ 0) = true := decide_eq_true c6
    clear c6
    simp only [Option.some.injEq, Prod.mk.injEq] at H
    obtain ⟨rfl, rfl, rfl⟩ := H
    go_enter Tryz.func15, Tryz.ntmps15
    go_wp2_with (first | ((with_reducible refine gate_dst (N := 1) rfl ?_); refine bx_ 1 #[.string a0_0, .string a0_1] 24 ?_; clear HB; intro gb335 w7 BK335 GW335 HB; have GE335 := GW335; obtain ⟨hcz8_0, hcz8_1, hfz8_0, hfz8_1⟩ := c2_ BK335) | ((with_reducible refine gate_callee (f := 43) rfl ?_); refine goesL_ (some 12) rfl rfl Tryz.func43 (by kernel_rfl) rfl #[.string a0_0] rfl mp_ ?_; (with_reducible refine (schismaref04_Int.calls k a0_0 t336 true _ A2.out).mono ?_); rintro e w' ⟨rfl, ⟨nd, rfl⟩⟩; refine ⟨_, rfl, ?_⟩) | ((with_reducible refine gate_callee (f := 43) rfl ?_); refine goesL_ (some 18) rfl rfl Tryz.func43 (by kernel_rfl) rfl #[.string a0_1] rfl mp_ ?_; (with_reducible refine (schismaref04_Int.calls k a0_1 t338 true _ A3.out).mono ?_); rintro e w' ⟨rfl, ⟨nd, rfl⟩⟩; refine ⟨_, rfl, ?_⟩))
    go_ret3
    exact ⟨er_, bl_⟩
   ·rw [if_neg c6] at H
    have c6b0 : decide (t338 ≤ 0) = false := decide_eq_false c6
    clear c6
    replace H := Option.bind_eq_some_iff.mp H
    obtain ⟨t340, A90, H⟩ := H
    replace H : (if t340 = 1 then (some (t336, t338, true)) else (some (0, 0, false))) = some (r1, r2, r3) := H
    have A9 := Aside0.mk A90
    clear A90
    by_cases c10 : t340 = 1
    ·rw [if_pos c10] at H
     have c10b0 : (t340 == 1) = true := beq_iff_eq.mpr c10
     have c10b1 : (t340 != 1) = false := bne_eq_false_iff_eq.mpr c10
     clear c10
     simp only [Option.some.injEq, Prod.mk.injEq] at H
     obtain ⟨rfl, rfl, rfl⟩ := H
     go_enter Tryz.func15, Tryz.ntmps15
     go_wp2_with (first | ((with_reducible refine gate_dst (N := 1) rfl ?_); refine bx_ 1 #[.string a0_0, .string a0_1] 24 ?_; clear HB; intro gb335 w11 BK335 GW335 HB; have GE335 := GW335; obtain ⟨hcz12_0, hcz12_1, hfz12_0, hfz12_1⟩ := c2_ BK335) | ((with_reducible refine gate_callee (f := 43) rfl ?_); refine goesL_ (some 12) rfl rfl Tryz.func43 (by kernel_rfl) rfl #[.string a0_0] rfl mp_ ?_; (with_reducible refine (schismaref04_Int.calls k a0_0 t336 true _ A2.out).mono ?_); rintro e w' ⟨rfl, ⟨nd, rfl⟩⟩; refine ⟨_, rfl, ?_⟩) | ((with_reducible refine gate_callee (f := 43) rfl ?_); refine goesL_ (some 18) rfl rfl Tryz.func43 (by kernel_rfl) rfl #[.string a0_1] rfl mp_ ?_; (with_reducible refine (schismaref04_Int.calls k a0_1 t338 true _ A3.out).mono ?_); rintro e w' ⟨rfl, ⟨nd, rfl⟩⟩; refine ⟨_, rfl, ?_⟩) | (go_at_call 44; (with_reducible refine (schismaref04_Gcd.calls k t336 t338 t340 _ A9.out).mono ?_); rintro e w' ⟨rfl, ⟨nd, rfl⟩⟩))
     go_ret3
     exact ⟨er_, bl_⟩
    ·rw [if_neg c10] at H
     have c10b0 : (t340 == 1) = false := beq_eq_false_iff_ne.mpr c10
     have c10b1 : (t340 != 1) = true := bne_iff_ne.mpr c10
     simp only [Option.some.injEq, Prod.mk.injEq] at H
     obtain ⟨rfl, rfl, rfl⟩ := H
     go_enter Tryz.func15, Tryz.ntmps15
     go_wp2_with (first | ((with_reducible refine gate_dst (N := 1) rfl ?_); refine bx_ 1 #[.string a0_0, .string a0_1] 24 ?_; clear HB; intro gb335 w13 BK335 GW335 HB; have GE335 := GW335; obtain ⟨hcz14_0, hcz14_1, hfz14_0, hfz14_1⟩ := c2_ BK335) | ((with_reducible refine gate_callee (f := 43) rfl ?_); refine goesL_ (some 12) rfl rfl Tryz.func43 (by kernel_rfl) rfl #[.string a0_0] rfl mp_ ?_; (with_reducible refine (schismaref04_Int.calls k a0_0 t336 true _ A2.out).mono ?_); rintro e w' ⟨rfl, ⟨nd, rfl⟩⟩; refine ⟨_, rfl, ?_⟩) | ((with_reducible refine gate_callee (f := 43) rfl ?_); refine goesL_ (some 18) rfl rfl Tryz.func43 (by kernel_rfl) rfl #[.string a0_1] rfl mp_ ?_; (with_reducible refine (schismaref04_Int.calls k a0_1 t338 true _ A3.out).mono ?_); rintro e w' ⟨rfl, ⟨nd, rfl⟩⟩; refine ⟨_, rfl, ?_⟩) | (go_at_call 44; (with_reducible refine (schismaref04_Gcd.calls k t336 t338 t340 _ A9.out).mono ?_); rintro e w' ⟨rfl, ⟨nd, rfl⟩⟩))
     go_ret3
     exact ⟨er_, bl_⟩
  ·replace c5 := Bool.eq_false_iff.mpr c5
   subst c5
   have H1 : (some (0, 0, false)) = some (r1, r2, r3) := by rw [if_neg (show ¬ (false = true) by decide)] at H; exact H
   clear H
   have H := H1
   clear H1
   simp only [Option.some.injEq, Prod.mk.injEq] at H
   obtain ⟨rfl, rfl, rfl⟩ := H
   go_enter Tryz.func15, Tryz.ntmps15
   go_wp2_with (first | ((with_reducible refine gate_dst (N := 1) rfl ?_); refine bx_ 1 #[.string a0_0, .string a0_1] 24 ?_; clear HB; intro gb335 w15 BK335 GW335 HB; have GE335 := GW335; obtain ⟨hcz16_0, hcz16_1, hfz16_0, hfz16_1⟩ := c2_ BK335) | ((with_reducible refine gate_callee (f := 43) rfl ?_); refine goesL_ (some 12) rfl rfl Tryz.func43 (by kernel_rfl) rfl #[.string a0_0] rfl mp_ ?_; (with_reducible refine (schismaref04_Int.calls k a0_0 t336 true _ A2.out).mono ?_); rintro e w' ⟨rfl, ⟨nd, rfl⟩⟩; refine ⟨_, rfl, ?_⟩) | ((with_reducible refine gate_callee (f := 43) rfl ?_); refine goesL_ (some 18) rfl rfl Tryz.func43 (by kernel_rfl) rfl #[.string a0_1] rfl mp_ ?_; (with_reducible refine (schismaref04_Int.calls k a0_1 t338 false _ A3.out).mono ?_); rintro e w' ⟨rfl, ⟨nd, rfl⟩⟩; refine ⟨_, rfl, ?_⟩))
   go_ret3
   exact ⟨er_, bl_⟩
 ·replace c4 := Bool.eq_false_iff.mpr c4
  subst c4
  have H1 : (some (0, 0, false)) = some (r1, r2, r3) := by rw [if_neg (show ¬ (false = true) by decide)] at H; exact H
  clear H
  have H := H1
  clear H1
  simp only [Option.some.injEq, Prod.mk.injEq] at H
  obtain ⟨rfl, rfl, rfl⟩ := H
  go_enter Tryz.func15, Tryz.ntmps15
  go_wp2_with (first | ((with_reducible refine gate_dst (N := 1) rfl ?_); refine bx_ 1 #[.string a0_0, .string a0_1] 24 ?_; clear HB; intro gb335 w17 BK335 GW335 HB; have GE335 := GW335; obtain ⟨hcz18_0, hcz18_1, hfz18_0, hfz18_1⟩ := c2_ BK335) | ((with_reducible refine gate_callee (f := 43) rfl ?_); refine goesL_ (some 12) rfl rfl Tryz.func43 (by kernel_rfl) rfl #[.string a0_0] rfl mp_ ?_; (with_reducible refine (schismaref04_Int.calls k a0_0 t336 false _ A2.out).mono ?_); rintro e w' ⟨rfl, ⟨nd, rfl⟩⟩; refine ⟨_, rfl, ?_⟩) | ((with_reducible refine gate_callee (f := 43) rfl ?_); refine goesL_ (some 18) rfl rfl Tryz.func43 (by kernel_rfl) rfl #[.string a0_1] rfl mp_ ?_; (with_reducible refine (schismaref04_Int.calls k a0_1 t338 t339 _ A3.out).mono ?_); rintro e w' ⟨rfl, ⟨nd, rfl⟩⟩; refine ⟨_, rfl, ?_⟩))
  go_ret3
  exact ⟨er_, bl_⟩
def schismalaw04_none.f (a0_0 : ByteArray) (a0_1 : ByteArray) : Option (Bool) := some (a0_0.toList == ([] : List UInt8) && (a0_1.toList == ([] : List UInt8)))
set_option maxHeartbeats 8000000 in
set_option maxRecDepth 100000 in
theorem schismalaw04_none.calls (a0_0 : ByteArray) (a0_1 : ByteArray) (r : Bool) (w : World) (h : schismalaw04_none.f a0_0 a0_1 = some r) :
  Calls Tryz.prog 16 #[.agg #[.string a0_0, .string a0_1]] w fun e w' => e = .returned (.bool r) ∧ Below w.heap.size w w' := by
 have hu24 := Tryz.underlying24
 have HB := Aside0.mk (Below.refl w.heap.size w)
 have H : (some (a0_0.toList == ([] : List UInt8) && (a0_1.toList == ([] : List UInt8)))) = some r := h
 clear h
 obtain rfl := Option.some.inj H
 go_enter Tryz.func16, Tryz.ntmps16
 go_wp2_with (first | ((with_reducible refine gate_dst (N := 1) rfl ?_); refine bx_ 1 #[.string a0_0, .string a0_1] 24 ?_; clear HB; intro gb341 w2 BK341 GW341 HB; have GE341 := GW341; obtain ⟨hcz3_0, hcz3_1, hfz3_0, hfz3_1⟩ := c2_ BK341))
 go_ret
 exact ⟨er_, bl_⟩
def convergent_begin.f  : Option (ByteArray × ByteArray × ByteArray × ByteArray) := some ((⟨#[49]⟩ : ByteArray), (⟨#[48]⟩ : ByteArray), (⟨#[48]⟩ : ByteArray), (⟨#[49]⟩ : ByteArray))
set_option maxHeartbeats 8000000 in
set_option maxRecDepth 100000 in
theorem convergent_begin.calls  (r1 : ByteArray) (r2 : ByteArray) (r3 : ByteArray) (r4 : ByteArray) (w : World) (h : convergent_begin.f  = some (r1, r2, r3, r4)) :
  Calls Tryz.prog 47 #[] w fun e w' => e = .returned (.agg #[.string r1, .string r2, .string r3, .string r4]) ∧ Below w.heap.size w w' := by
 have hu71 := Tryz.underlying71
 have HB := Aside0.mk (Below.refl w.heap.size w)
 have H : (some ((⟨#[49]⟩ : ByteArray), (⟨#[48]⟩ : ByteArray), (⟨#[48]⟩ : ByteArray), (⟨#[49]⟩ : ByteArray))) = some (r1, r2, r3, r4) := h
 clear h
 simp only [Option.some.injEq, Prod.mk.injEq] at H
 obtain ⟨rfl, rfl, rfl, rfl⟩ := H
 go_enter Tryz.func47, Tryz.ntmps47
 go_wp2_with (first | ((with_reducible refine gate_dst (N := 0) rfl ?_); refine bx_ 0 #[.string (⟨#[]⟩ : ByteArray), .string (⟨#[]⟩ : ByteArray), .string (⟨#[]⟩ : ByteArray), .string (⟨#[]⟩ : ByteArray)] 71 ?_; clear HB; intro gb345 w1 BK345 GW345 HB; have GE345 := GW345; obtain ⟨hcz2_0, hcz2_1, hcz2_2, hcz2_3, hfz2_0, hfz2_1, hfz2_2, hfz2_3⟩ := c4_ BK345))
 refine bodyPost_ret (results_cell_row rfl _ _ gb345 71 #[.string (⟨#[49]⟩ : ByteArray), .string (⟨#[48]⟩ : ByteArray), .string (⟨#[48]⟩ : ByteArray), .string (⟨#[49]⟩ : ByteArray)] (0, 0) _ rfl (by (with_reducible repeat (first | refine blk_drewN ?_ _ | refine blk_drew ?_ | refine blk_alloc ?_ _)); refine blk_put (cs := #[.string (⟨#[49]⟩ : ByteArray), .string (⟨#[48]⟩ : ByteArray), .string (⟨#[48]⟩ : ByteArray), .string (⟨#[]⟩ : ByteArray)]) ?_ 3 _ rfl; (with_reducible repeat (first | refine blk_drewN ?_ _ | refine blk_drew ?_ | refine blk_alloc ?_ _)); refine blk_put (cs := #[.string (⟨#[49]⟩ : ByteArray), .string (⟨#[48]⟩ : ByteArray), .string (⟨#[]⟩ : ByteArray), .string (⟨#[]⟩ : ByteArray)]) ?_ 2 _ rfl; (with_reducible repeat (first | refine blk_drewN ?_ _ | refine blk_drew ?_ | refine blk_alloc ?_ _)); refine blk_put (cs := #[.string (⟨#[49]⟩ : ByteArray), .string (⟨#[]⟩ : ByteArray), .string (⟨#[]⟩ : ByteArray), .string (⟨#[]⟩ : ByteArray)]) ?_ 1 _ rfl; (with_reducible repeat (first | refine blk_drewN ?_ _ | refine blk_drew ?_ | refine blk_alloc ?_ _)); refine blk_put (cs := #[.string (⟨#[]⟩ : ByteArray), .string (⟨#[]⟩ : ByteArray), .string (⟨#[]⟩ : ByteArray), .string (⟨#[]⟩ : ByteArray)]) ?_ 0 _ rfl; (with_reducible repeat (first | refine blk_drewN ?_ _ | refine blk_drew ?_ | refine blk_alloc ?_ _)); exact BK345.out) Tryz.underlying71 rfl (by kernel_rfl)) rfl ?_
 exact ⟨er_, bl_⟩
end Go.Proofs.YtidajgkepdkcbaaGreatDoor.PF
end
section
namespace Go.Proofs.YtidajgkepdkcbaaGreatDoor.PF
open Go.RowKit Go.Proofs.YtidajgkepdkcbaaGreatDoorW.PrintWords Go.Proofs.YtidajgkepdkcbaaGreatDoorW.PrintLast Go.Proofs.YtidajgkepdkcbaaGreatDoorW.PrintMore
attribute [local go_sem] max2_int min2_int max_two min_two max_three min_three max_four min_four
def convergent_pair_step.f (k : Nat) (a0_0 : ByteArray) (a0_1 : ByteArray) (a0_2 : ByteArray) (a0_3 : ByteArray) (a1 : ByteArray) : Option (ByteArray × ByteArray) := (whole_Mul.f k a1 a0_0).bind fun t347 => ((whole_Add.f k a0_2 t347).bind fun t348 => ((whole_Mul.f k a1 a0_1).bind fun t349 => ((whole_Add.f k a0_3 t349).bind fun t350 => (some (t348, t350)))))
def convergent_pair_step.T1 : Bool × List (List Nat × List Nat) := (true, [([], []), ([0], [0]), ([], []), ([], []), ([3], [3]), ([2, 4], [2, 4]), ([1, 5, 5], [1, 5]), ([], []), ([7], [7]), ([], []), ([], []), ([10], [10]), ([9, 11, 6], [9, 11]), ([8, 12, 12], [8, 12]), ([6, 13, 0, 1, 2, 3, 4, 5, 6], [6]), ([13, 14, 0, 1, 2, 3, 4, 5, 6, 7, 8, 9, 10, 11, 12, 13, 14], [13])])
def convergent_pair_step.B1 : List Nat := [0, 1, 0, 0, 8, 28, 63, 0, 128, 0, 0, 1024, 3711, 8191, 16383, 32767]
theorem convergent_pair_step.tab1 : rtab .any (opsOf Tryz.f83 1) = convergent_pair_step.T1 := by kernel_rfl
theorem convergent_pair_step.bits1 : waitsOk convergent_pair_step.T1.2 convergent_pair_step.B1 = true := by kernel_rfl
set_option maxHeartbeats 8000000 in
set_option maxRecDepth 100000 in
theorem convergent_pair_step.calls (k : Nat) (a0_0 : ByteArray) (a0_1 : ByteArray) (a0_2 : ByteArray) (a0_3 : ByteArray) (a1 : ByteArray) (r1 : ByteArray) (r2 : ByteArray) (w : World) (hG_ : GWorld w) (h : convergent_pair_step.f k a0_0 a0_1 a0_2 a0_3 a1 = some (r1, r2)) :
  Calls Tryz.prog 83 #[.agg #[.string a0_0, .string a0_1, .string a0_2, .string a0_3], .string a1] w fun e w' => e = .returned (.tuple #[.string r1, .string r2]) ∧ Below w.heap.size w w' := by
 have hu71 := Tryz.underlying71
 have HB := Aside0.mk (Below.refl w.heap.size w)
 have HG := Aside0.mk hG_
 clear hG_
 have H : ((whole_Mul.f k a1 a0_0).bind fun t347 => ((whole_Add.f k a0_2 t347).bind fun t348 => ((whole_Mul.f k a1 a0_1).bind fun t349 => ((whole_Add.f k a0_3 t349).bind fun t350 => (some (t348, t350)))))) = some (r1, r2) := h
 clear h
 replace H := Option.bind_eq_some_iff.mp H
 obtain ⟨t347, A30, H⟩ := H
 replace H : ((whole_Add.f k a0_2 t347).bind fun t348 => ((whole_Mul.f k a1 a0_1).bind fun t349 => ((whole_Add.f k a0_3 t349).bind fun t350 => (some (t348, t350))))) = some (r1, r2) := H
 have A3 := Aside0.mk A30
 clear A30
 replace H := Option.bind_eq_some_iff.mp H
 obtain ⟨t348, A40, H⟩ := H
 replace H : ((whole_Mul.f k a1 a0_1).bind fun t349 => ((whole_Add.f k a0_3 t349).bind fun t350 => (some (t348, t350)))) = some (r1, r2) := H
 have A4 := Aside0.mk A40
 clear A40
 replace H := Option.bind_eq_some_iff.mp H
 obtain ⟨t349, A50, H⟩ := H
 replace H : ((whole_Add.f k a0_3 t349).bind fun t350 => (some (t348, t350))) = some (r1, r2) := H
 have A5 := Aside0.mk A50
 clear A50
 replace H := Option.bind_eq_some_iff.mp H
 obtain ⟨t350, A60, H⟩ := H
 replace H : (some (t348, t350)) = some (r1, r2) := H
 have A6 := Aside0.mk A60
 clear A60
 simp only [Option.some.injEq, Prod.mk.injEq] at H
 obtain ⟨rfl, rfl⟩ := H
 go_enter Tryz.func83, Tryz.ntmps83
 try go_wp2_with (first | ((with_reducible refine gate_dst (N := 2) rfl ?_); refine bx_ 2 #[.string a0_0, .string a0_1, .string a0_2, .string a0_3] 71 ?_; clear HB; intro gb346 w7 BK346 GW346 HB; have GE346 := GW346))
 have n0_ := Aside0.mk (blk_drew BK346.out)
 have n1_ := Aside0.mk (below_drew1 HB.out)
 clear BK346
 clear HB
 have BK346 := n0_
 have HB := n1_
 clear n0_ n1_
 refine start_ (n := 16) (S := fun w' => w'.cell? ⟨gb346, 0, none⟩ = some (.string a0_0) ∧ w'.cell? ⟨gb346, 1, none⟩ = some (.string a0_1) ∧ w'.cell? ⟨gb346, 2, none⟩ = some (.string a0_2) ∧ w'.cell? ⟨gb346, 3, none⟩ = some (.string a0_3)) (ds := []) #[false, false, false, false, false, false, false, false, false, false, false, false, false, false, false, false] (by kernel_rfl) rfl rfl ⟨(blk_cell BK346.out 0).trans rfl, (blk_cell BK346.out 1).trans rfl, (blk_cell BK346.out 2).trans rfl, (blk_cell BK346.out 3).trans rfl⟩ (fun hHeld => ?_); refine with_tabW convergent_pair_step.tab1 convergent_pair_step.bits1 (fun HT_ HW_ => ?_)
 generalize w7.drew = w8 at BK346 HB hHeld ⊢
 refine pure_ (i := 0) (N := some 6) (v := ?_) (a' := ?_) #[true, false, false, false, false, false, false, false, false, false, false, false, false, false, false, false] rfl rfl (any_of HT_.out (by kernel_rfl)) (fun _ _ _ h => h) (Or.inl ⟨by rfl, ?_⟩) ?_ ?_
 rotate_left
 ·intro w'
  go_simp
  with_reducible rfl
 rotate_left
 ·simp only [Act.put, List.setIfInBounds_toArray, List.set_cons_zero, List.set_cons_succ, i64_w, i32_w]
  rfl
 refine pure_ (i := 2) (N := some 8) (v := ?_) (a' := ?_) #[true, false, true, false, false, false, false, false, false, false, false, false, false, false, false, false] rfl rfl (any_of HT_.out (by kernel_rfl)) (fun _ _ _ h => h) (Or.inl ⟨by rfl, ?_⟩) ?_ ?_
 rotate_left
 ·intro w'
  go_simp
  with_reducible rfl
 rotate_left
 ·simp only [Act.put, List.setIfInBounds_toArray, List.set_cons_zero, List.set_cons_succ, i64_w, i32_w]
  rfl
 refine pure_ (i := 3) (N := some 9) (v := ?_) (a' := ?_) #[true, false, true, true, false, false, false, false, false, false, false, false, false, false, false, false] rfl rfl (any_of HT_.out (by kernel_rfl)) (fun _ _ _ h => h) (Or.inl ⟨by rfl, ?_⟩) ?_ ?_
 rotate_left
 ·intro w'
  go_simp
  with_reducible rfl
 rotate_left
 ·simp only [Act.put, List.setIfInBounds_toArray, List.set_cons_zero, List.set_cons_succ, i64_w, i32_w]
  rfl
 refine pure_ (i := 7) (N := some 13) (v := ?_) (a' := ?_) #[true, false, true, true, false, false, false, true, false, false, false, false, false, false, false, false] rfl rfl (any_of HT_.out (by kernel_rfl)) (fun _ _ _ h => h) (Or.inl ⟨by rfl, ?_⟩) ?_ ?_
 rotate_left
 ·intro w'
  go_simp
  with_reducible rfl
 rotate_left
 ·simp only [Act.put, List.setIfInBounds_toArray, List.set_cons_zero, List.set_cons_succ, i64_w, i32_w]
  rfl
 refine pure_ (i := 9) (N := some 15) (v := ?_) (a' := ?_) #[true, false, true, true, false, false, false, true, false, true, false, false, false, false, false, false] rfl rfl (any_of HT_.out (by kernel_rfl)) (fun _ _ _ h => h) (Or.inl ⟨by rfl, ?_⟩) ?_ ?_
 rotate_left
 ·intro w'
  go_simp
  with_reducible rfl
 rotate_left
 ·simp only [Act.put, List.setIfInBounds_toArray, List.set_cons_zero, List.set_cons_succ, i64_w, i32_w]
  rfl
 refine pure_ (i := 10) (N := some 16) (v := ?_) (a' := ?_) #[true, false, true, true, false, false, false, true, false, true, true, false, false, false, false, false] rfl rfl (any_of HT_.out (by kernel_rfl)) (fun _ _ _ h => h) (Or.inl ⟨by rfl, ?_⟩) ?_ ?_
 rotate_left
 ·intro w'
  go_simp
  with_reducible rfl
 rotate_left
 ·simp only [Act.put, List.setIfInBounds_toArray, List.set_cons_zero, List.set_cons_succ, i64_w, i32_w]
  rfl
 refine take_ (i := 1) (N := some 7) (v := ?_) (a' := ?_) #[true, true, true, true, false, false, false, true, false, true, true, false, false, false, false, false] rfl rfl (take_ofW HT_.out HW_.out (by kernel_rfl)) (fun _ _ _ h => h) (Or.inl ⟨by rfl, ?_⟩) hHeld ?_ ?_
 rotate_left
 ·rintro w' ⟨s0, s1, s2, s3⟩
  go_simp
  with_reducible rfl
 rotate_left
 ·simp only [Act.put, List.setIfInBounds_toArray, List.set_cons_zero, List.set_cons_succ, i64_w, i32_w]
  rfl
 refine take_ (i := 4) (N := some 10) (v := ?_) (a' := ?_) #[true, true, true, true, true, false, false, true, false, true, true, false, false, false, false, false] rfl rfl (take_ofW HT_.out HW_.out (by kernel_rfl)) (fun _ _ _ h => h) (Or.inl ⟨by rfl, ?_⟩) hHeld ?_ ?_
 rotate_left
 ·rintro w' ⟨s0, s1, s2, s3⟩
  go_simp
  with_reducible rfl
 rotate_left
 ·simp only [Act.put, List.setIfInBounds_toArray, List.set_cons_zero, List.set_cons_succ, i64_w, i32_w]
  rfl
 refine take_ (i := 8) (N := some 14) (v := ?_) (a' := ?_) #[true, true, true, true, true, false, false, true, true, true, true, false, false, false, false, false] rfl rfl (take_ofW HT_.out HW_.out (by kernel_rfl)) (fun _ _ _ h => h) (Or.inl ⟨by rfl, ?_⟩) hHeld ?_ ?_
 rotate_left
 ·rintro w' ⟨s0, s1, s2, s3⟩
  go_simp
  with_reducible rfl
 rotate_left
 ·simp only [Act.put, List.setIfInBounds_toArray, List.set_cons_zero, List.set_cons_succ, i64_w, i32_w]
  rfl
 refine take_ (i := 11) (N := some 17) (v := ?_) (a' := ?_) #[true, true, true, true, true, false, false, true, true, true, true, true, false, false, false, false] rfl rfl (take_ofW HT_.out HW_.out (by kernel_rfl)) (fun _ _ _ h => h) (Or.inl ⟨by rfl, ?_⟩) hHeld ?_ ?_
 rotate_left
 ·rintro w' ⟨s0, s1, s2, s3⟩
  go_simp
  with_reducible rfl
 rotate_left
 ·simp only [Act.put, List.setIfInBounds_toArray, List.set_cons_zero, List.set_cons_succ, i64_w, i32_w]
  rfl
 refine one_ (i := 5) (N := some 11) #[true, true, true, true, true, true, false, true, true, true, true, true, false, false, false, false] rfl rfl (one_of HT_.out (by kernel_rfl)) (by decide) (fun K hK => ?_)
 refine goes_ Tryz.func88 (by kernel_rfl) rfl #[.string a1, .string a0_0] (by rfl) rfl rfl mp_ ?_
 with_reducible refine (whole_Mul.calls k a1 a0_0 t347 _ ?side1 A3.out).mono ?_
 (case side1 => exact gw_ HG)
 rintro e w9 ⟨rfl, hb⟩
 refine ⟨_, rfl, ?_⟩
 have n0_ := kb_ BK346 hb
 have n1_ := bs_ hb
 clear BK346
 clear HB
 have BK346 := n0_
 have HB := n1_
 clear n0_ n1_
 (try clear hb); (try clear hb2); (try clear hk); (try clear hi)
 refine hK.out _ _ ⟨(blk_cell BK346.out 0).trans rfl, (blk_cell BK346.out 1).trans rfl, (blk_cell BK346.out 2).trans rfl, (blk_cell BK346.out 3).trans rfl⟩ (fun hHeld => ?_)
 clear hK K
 refine norm_ (a' := ?_) ?_ ?_
 rotate_left
 ·show Act.put _ (some 11) _ = _
  simp only [Act.put, List.setIfInBounds_toArray, List.set_cons_zero, List.set_cons_succ, i64_w, i32_w]
  rfl
 refine one_ (i := 6) (N := some 12) #[true, true, true, true, true, true, true, true, true, true, true, true, false, false, false, false] rfl rfl (one_of HT_.out (by kernel_rfl)) (by decide) (fun K hK => ?_)
 refine goes_ Tryz.func42 (by kernel_rfl) rfl #[.string a0_2, .string t347] (by rfl) rfl rfl mp_ ?_
 with_reducible refine (whole_Add.calls k a0_2 t347 t348 _ ?side1 A4.out).mono ?_
 (case side1 => exact gw_ HG)
 rintro e w10 ⟨rfl, hb⟩
 refine ⟨_, rfl, ?_⟩
 have n0_ := kb_ BK346 hb
 have n1_ := bs_ hb
 clear BK346
 clear HB
 have BK346 := n0_
 have HB := n1_
 clear n0_ n1_
 (try clear hb); (try clear hb2); (try clear hk); (try clear hi)
 refine hK.out _ _ ⟨(blk_cell BK346.out 0).trans rfl, (blk_cell BK346.out 1).trans rfl, (blk_cell BK346.out 2).trans rfl, (blk_cell BK346.out 3).trans rfl⟩ (fun hHeld => ?_)
 clear hK K
 refine norm_ (a' := ?_) ?_ ?_
 rotate_left
 ·show Act.put _ (some 12) _ = _
  simp only [Act.put, List.setIfInBounds_toArray, List.set_cons_zero, List.set_cons_succ, i64_w, i32_w]
  rfl
 refine one_ (i := 12) (N := some 18) #[true, true, true, true, true, true, true, true, true, true, true, true, true, false, false, false] rfl rfl (one_of HT_.out (by kernel_rfl)) (by decide) (fun K hK => ?_)
 refine goes_ Tryz.func88 (by kernel_rfl) rfl #[.string a1, .string a0_1] (by rfl) rfl rfl mp_ ?_
 with_reducible refine (whole_Mul.calls k a1 a0_1 t349 _ ?side1 A5.out).mono ?_
 (case side1 => exact gw_ HG)
 rintro e w11 ⟨rfl, hb⟩
 refine ⟨_, rfl, ?_⟩
 have n0_ := kb_ BK346 hb
 have n1_ := bs_ hb
 clear BK346
 clear HB
 have BK346 := n0_
 have HB := n1_
 clear n0_ n1_
 (try clear hb); (try clear hb2); (try clear hk); (try clear hi)
 refine hK.out _ _ ⟨(blk_cell BK346.out 0).trans rfl, (blk_cell BK346.out 1).trans rfl, (blk_cell BK346.out 2).trans rfl, (blk_cell BK346.out 3).trans rfl⟩ (fun hHeld => ?_)
 clear hK K
 refine norm_ (a' := ?_) ?_ ?_
 rotate_left
 ·show Act.put _ (some 18) _ = _
  simp only [Act.put, List.setIfInBounds_toArray, List.set_cons_zero, List.set_cons_succ, i64_w, i32_w]
  rfl
 refine one_ (i := 13) (N := some 19) #[true, true, true, true, true, true, true, true, true, true, true, true, true, true, false, false] rfl rfl (one_of HT_.out (by kernel_rfl)) (by decide) (fun K hK => ?_)
 refine goes_ Tryz.func42 (by kernel_rfl) rfl #[.string a0_3, .string t349] (by rfl) rfl rfl mp_ ?_
 with_reducible refine (whole_Add.calls k a0_3 t349 t350 _ ?side1 A6.out).mono ?_
 (case side1 => exact gw_ HG)
 rintro e w12 ⟨rfl, hb⟩
 refine ⟨_, rfl, ?_⟩
 have n0_ := kb_ BK346 hb
 have n1_ := bs_ hb
 clear BK346
 clear HB
 have BK346 := n0_
 have HB := n1_
 clear n0_ n1_
 (try clear hb); (try clear hb2); (try clear hk); (try clear hi)
 refine hK.out _ _ ⟨(blk_cell BK346.out 0).trans rfl, (blk_cell BK346.out 1).trans rfl, (blk_cell BK346.out 2).trans rfl, (blk_cell BK346.out 3).trans rfl⟩ (fun hHeld => ?_)
 clear hK K
 refine norm_ (a' := ?_) ?_ ?_
 rotate_left
 ·show Act.put _ (some 19) _ = _
  simp only [Act.put, List.setIfInBounds_toArray, List.set_cons_zero, List.set_cons_succ, i64_w, i32_w]
  rfl
 refine pure_ (i := 14) (N := some 4) (v := ?_) (a' := ?_) #[true, true, true, true, true, true, true, true, true, true, true, true, true, true, true, false] rfl rfl (any_of HT_.out (by kernel_rfl)) (fun _ _ _ h => h) (Or.inl ⟨by rfl, ?_⟩) ?_ ?_
 rotate_left
 ·intro w'
  go_simp
  with_reducible rfl
 rotate_left
 ·simp only [Act.put, List.setIfInBounds_toArray, List.set_cons_zero, List.set_cons_succ, i64_w, i32_w]
  rfl
 refine pure_ (i := 15) (N := some 5) (v := ?_) (a' := ?_) #[true, true, true, true, true, true, true, true, true, true, true, true, true, true, true, true] rfl rfl (any_of HT_.out (by kernel_rfl)) (fun _ _ _ h => h) (Or.inl ⟨by rfl, ?_⟩) ?_ ?_
 rotate_left
 ·intro w'
  go_simp
  with_reducible rfl
 rotate_left
 ·simp only [Act.put, List.setIfInBounds_toArray, List.set_cons_zero, List.set_cons_succ, i64_w, i32_w]
  rfl
 refine done_ (done_of HT_.out (by kernel_rfl)) ?_
 try go_wp2
 go_ret2
 exact ⟨er_, bl_⟩
def convergent_pair_next.f (k : Nat) (a0_0 : ByteArray) (a0_1 : ByteArray) (a0_2 : ByteArray) (a0_3 : ByteArray) (a1 : ByteArray) : Option (ByteArray × ByteArray × ByteArray × ByteArray) := (convergent_pair_step.f k a0_0 a0_1 a0_2 a0_3 a1).bind fun bt353 => (some (bt353.1, bt353.2, a0_0, a0_1))
set_option maxHeartbeats 8000000 in
set_option maxRecDepth 100000 in
theorem convergent_pair_next.calls (k : Nat) (a0_0 : ByteArray) (a0_1 : ByteArray) (a0_2 : ByteArray) (a0_3 : ByteArray) (a1 : ByteArray) (r1 : ByteArray) (r2 : ByteArray) (r3 : ByteArray) (r4 : ByteArray) (w : World) (hG_ : GWorld w) (h : convergent_pair_next.f k a0_0 a0_1 a0_2 a0_3 a1 = some (r1, r2, r3, r4)) :
  Calls Tryz.prog 48 #[.agg #[.string a0_0, .string a0_1, .string a0_2, .string a0_3], .string a1] w fun e w' => e = .returned (.agg #[.string r1, .string r2, .string r3, .string r4]) ∧ Below w.heap.size w w' := by
 have hu71 := Tryz.underlying71
 have HB := Aside0.mk (Below.refl w.heap.size w)
 have HG := Aside0.mk hG_
 clear hG_
 have H : ((convergent_pair_step.f k a0_0 a0_1 a0_2 a0_3 a1).bind fun bt353 => (some (bt353.1, bt353.2, a0_0, a0_1))) = some (r1, r2, r3, r4) := h
 clear h
 replace H := Option.bind_eq_some_iff.mp H
 obtain ⟨⟨t353, t354⟩, A30, H⟩ := H
 replace H : (some (t353, t354, a0_0, a0_1)) = some (r1, r2, r3, r4) := H
 have A3 := Aside0.mk A30
 clear A30
 simp only [Option.some.injEq, Prod.mk.injEq] at H
 obtain ⟨rfl, rfl, rfl, rfl⟩ := H
 go_enter Tryz.func48, Tryz.ntmps48
 go_wp2_with (first | ((with_reducible refine gate_dst (N := 2) rfl ?_); refine bx_ 2 #[.string a0_0, .string a0_1, .string a0_2, .string a0_3] 71 ?_; clear HB; intro gb351 w4 BK351 GW351 HB; have GE351 := GW351) | ((with_reducible refine gate_dst (N := 4) rfl ?_); refine box_event ?hg (N := 4) ?hd (cs := #[.string (⟨#[]⟩ : ByteArray), .string (⟨#[]⟩ : ByteArray), .string (⟨#[]⟩ : ByteArray), .string (⟨#[]⟩ : ByteArray)]) (t := 71) ?hr ?_; (case hd => rfl); (case hg => rfl); (case hr => first | (go_simp; done) | (go_simp; rfl)); intro gb352 hg w5 hbox hb; have BK352 := Aside0.mk (hbox); have GW352 := ge_ (w := w) hg; have GE352 := ge_ (w := w) hg; replace HB := bs_ hb; have NB351_352 := nl_ hg BK351; have NB352_351 := ng_ hg BK351; replace BK351 := kb_ BK351 hb; clear hb hbox hg; have hnb6 := NB351_352.out; have hnc6 := NB352_351.out; obtain ⟨hcz7_0, hcz7_1, hcz7_2, hcz7_3, hfz7_0, hfz7_1, hfz7_2, hfz7_3⟩ := c4_ BK351) | ((with_reducible refine gate_callee (f := 83) rfl ?_); refine goesL_ (some 10) rfl rfl Tryz.func83 (by kernel_rfl) rfl #[.agg #[.string a0_0, .string a0_1, .string a0_2, .string a0_3], .string a1] rfl mp_ ?_; (with_reducible refine (convergent_pair_step.calls k a0_0 a0_1 a0_2 a0_3 a1 t353 t354 _ ?side1 A3.out).mono ?_); (case side1 => exact gw_ HG); rintro e w8 ⟨rfl, hb⟩; refine ⟨_, rfl, ?_⟩; replace BK351 := kb_ BK351 hb; replace BK352 := kb_ BK352 hb; replace HB := bs_ hb; (try clear hb); (try clear hb2); (try clear hk); (try clear hi); obtain ⟨hcz9_0, hcz9_1, hcz9_2, hcz9_3, hfz9_0, hfz9_1, hfz9_2, hfz9_3⟩ := c4_ BK351; obtain ⟨hcz10_0, hcz10_1, hcz10_2, hcz10_3, hfz10_0, hfz10_1, hfz10_2, hfz10_3⟩ := c4_ BK352))
 refine bodyPost_ret (results_cell_row rfl _ _ gb352 71 #[.string t353, .string t354, .string a0_0, .string a0_1] (0, 0) _ rfl (by (with_reducible repeat (first | refine blk_drewN ?_ _ | refine blk_drew ?_ | refine blk_alloc ?_ _)); refine blk_put (cs := #[.string t353, .string t354, .string a0_0, .string (⟨#[]⟩ : ByteArray)]) ?_ 3 _ rfl; (with_reducible repeat (first | refine blk_drewN ?_ _ | refine blk_drew ?_ | refine blk_alloc ?_ _)); refine blk_put (cs := #[.string t353, .string t354, .string (⟨#[]⟩ : ByteArray), .string (⟨#[]⟩ : ByteArray)]) ?_ 2 _ rfl; (with_reducible repeat (first | refine blk_drewN ?_ _ | refine blk_drew ?_ | refine blk_alloc ?_ _)); refine blk_put (cs := #[.string t353, .string (⟨#[]⟩ : ByteArray), .string (⟨#[]⟩ : ByteArray), .string (⟨#[]⟩ : ByteArray)]) ?_ 1 _ rfl; (with_reducible repeat (first | refine blk_drewN ?_ _ | refine blk_drew ?_ | refine blk_alloc ?_ _)); refine blk_put (cs := #[.string (⟨#[]⟩ : ByteArray), .string (⟨#[]⟩ : ByteArray), .string (⟨#[]⟩ : ByteArray), .string (⟨#[]⟩ : ByteArray)]) ?_ 0 _ rfl; (with_reducible repeat (first | refine blk_drewN ?_ _ | refine blk_drew ?_ | refine blk_alloc ?_ _)); exact BK352.out) Tryz.underlying71 rfl (by kernel_rfl)) rfl ?_
 exact ⟨er_, bl_⟩
def schismaref04_Floor.f (a0 : Int) (a1 : Int) : Option (Int) := if a1 = 0 then (none) else (if (Int.tmod a0 a1) < 0 then (some (wrap64 ((wrap64 (Int.tdiv a0 a1)) - 1))) else (some (wrap64 (Int.tdiv a0 a1))))
set_option maxHeartbeats 8000000 in
set_option maxRecDepth 100000 in
theorem schismaref04_Floor.calls (a0 : Int) (a1 : Int) (r : Int) (w : World) (h : schismaref04_Floor.f a0 a1 = some r) :
  Calls Tryz.prog 49 #[.int .i64 a0, .int .i64 a1] w fun e w' => e = .returned (.int .i64 r) ∧ Drawn0 w w' := by
 have H : (if a1 = 0 then (none) else (if (Int.tmod a0 a1) < 0 then (some (wrap64 ((wrap64 (Int.tdiv a0 a1)) - 1))) else (some (wrap64 (Int.tdiv a0 a1))))) = some r := h
 clear h
 by_cases c3 : a1 = 0
 ·rw [if_pos c3] at H
  exact absurd H (by simp)
 ·rw [if_neg c3] at H
  have c3b0 : (a1 == 0) = false := beq_eq_false_iff_ne.mpr c3
  have c3b1 : (a1 != 0) = true := bne_iff_ne.mpr c3
  by_cases c4 : (Int.tmod a0 a1) < 0
  ·rw [if_pos c4] at H
   have c4b0 : decide ((Int.tmod a0 a1) < 0) = true := decide_eq_true c4
   clear c4
   obtain rfl := Option.some.inj H
   go_enter Tryz.func49, Tryz.ntmps49
   go_wp2
   go_ret
   exact ⟨by first | rfl | (simp; done) | (simp [*]; done), by repeat (first | exact Drawn0.refl _ | apply Drawn0.step)⟩
  ·rw [if_neg c4] at H
   have c4b0 : decide ((Int.tmod a0 a1) < 0) = false := decide_eq_false c4
   clear c4
   obtain rfl := Option.some.inj H
   go_enter Tryz.func49, Tryz.ntmps49
   go_wp2
   go_ret
   exact ⟨by first | rfl | (simp; done) | (simp [*]; done), by repeat (first | exact Drawn0.refl _ | apply Drawn0.step)⟩
end Go.Proofs.YtidajgkepdkcbaaGreatDoor.PF
end
section
namespace Go.Proofs.YtidajgkepdkcbaaGreatDoor.PF
open Go.RowKit Go.Proofs.YtidajgkepdkcbaaGreatDoorW.PrintWords Go.Proofs.YtidajgkepdkcbaaGreatDoorW.PrintLast Go.Proofs.YtidajgkepdkcbaaGreatDoorW.PrintMore
attribute [local go_sem] max2_int min2_int max_two min_two max_three min_three max_four min_four
def schismalaw04_small.f (a0_0 : ByteArray) (a0_1 : ByteArray) : Option (Bool) := if (a0_0.size : Int) ≤ 7 then (some (decide ((a0_1.size : Int) ≤ 7))) else (some false)
set_option maxHeartbeats 8000000 in
set_option maxRecDepth 100000 in
theorem schismalaw04_small.calls (a0_0 : ByteArray) (a0_1 : ByteArray) (r : Bool) (w : World) (h : schismalaw04_small.f a0_0 a0_1 = some r) :
  Calls Tryz.prog 27 #[.agg #[.string a0_0, .string a0_1]] w fun e w' => e = .returned (.bool r) ∧ Below w.heap.size w w' := by
 have hu24 := Tryz.underlying24
 have HB := Aside0.mk (Below.refl w.heap.size w)
 have H : (if (a0_0.size : Int) ≤ 7 then (some (decide ((a0_1.size : Int) ≤ 7))) else (some false)) = some r := h
 clear h
 by_cases c2 : (a0_0.size : Int) ≤ 7
 ·rw [if_pos c2] at H
  have c2b0 : decide ((a0_0.size : Int) ≤ 7) = true := decide_eq_true c2
  have c2b1 : decide (a0_0.size ≤ 7) = true := decide_eq_true (by omega)
  clear c2
  obtain rfl := Option.some.inj H
  go_enter Tryz.func27, Tryz.ntmps27
  go_wp2_with (first | ((with_reducible refine gate_dst (N := 1) rfl ?_); (try (refine gate_guard (by rfl) ?_; dsimp only)); refine bx_ 1 #[.string a0_0, .string a0_1] 24 ?_; clear HB; intro gb409 w3 BK409 GW409 HB; have GE409 := GW409; obtain ⟨hcz4_0, hcz4_1, hfz4_0, hfz4_1⟩ := c2_ BK409))
  go_ret
  exact ⟨er_, bl_⟩
 ·rw [if_neg c2] at H
  have c2b0 : decide ((a0_0.size : Int) ≤ 7) = false := decide_eq_false c2
  have c2b1 : decide (a0_0.size ≤ 7) = false := decide_eq_false (by omega)
  clear c2
  obtain rfl := Option.some.inj H
  go_enter Tryz.func27, Tryz.ntmps27
  go_wp2_with (first | ((with_reducible refine gate_dst (N := 1) rfl ?_); (try (refine gate_guard (by rfl) ?_; dsimp only)); refine bx_ 1 #[.string a0_0, .string a0_1] 24 ?_; clear HB; intro gb409 w5 BK409 GW409 HB; have GE409 := GW409; obtain ⟨hcz6_0, hcz6_1, hfz6_0, hfz6_1⟩ := c2_ BK409))
  go_ret
  exact ⟨er_, bl_⟩
def fraction_Floor.f (k : Nat) (a0_0 : ByteArray) (a0_1 : ByteArray) : Option (ByteArray) := (whole_DivMod.f k a0_0 a0_1).bind fun bt411 => (some bt411.1)
set_option maxHeartbeats 8000000 in
set_option maxRecDepth 100000 in
theorem fraction_Floor.calls (k : Nat) (a0_0 : ByteArray) (a0_1 : ByteArray) (r : ByteArray) (w : World) (hG_ : GWorld w) (h : fraction_Floor.f k a0_0 a0_1 = some r) :
  Calls Tryz.prog 93 #[.agg #[.string a0_0, .string a0_1]] w fun e w' => e = .returned (.string r) ∧ Below w.heap.size w w' := by
 have hu24 := Tryz.underlying24
 have HB := Aside0.mk (Below.refl w.heap.size w)
 have HG := Aside0.mk hG_
 clear hG_
 have H : ((whole_DivMod.f k a0_0 a0_1).bind fun bt411 => (some bt411.1)) = some r := h
 clear h
 replace H := Option.bind_eq_some_iff.mp H
 obtain ⟨⟨t411, t412, t413⟩, A20, H⟩ := H
 replace H : (some t411) = some r := H
 have A2 := Aside0.mk A20
 clear A20
 obtain rfl := Option.some.inj H
 go_enter Tryz.func93, Tryz.ntmps93
 go_wp2_with (first | ((with_reducible refine gate_dst (N := 1) rfl ?_); refine bx_ 1 #[.string a0_0, .string a0_1] 24 ?_; clear HB; intro gb410 w3 BK410 GW410 HB; have GE410 := GW410; obtain ⟨hcz4_0, hcz4_1, hfz4_0, hfz4_1⟩ := c2_ BK410) | ((with_reducible refine gate_callee (f := 55) rfl ?_); refine goesL_ (some 11) rfl rfl Tryz.func55 (by kernel_rfl) rfl #[.string a0_0, .string a0_1] rfl mp_ ?_; (with_reducible refine (whole_DivMod.calls k a0_0 a0_1 t411 t412 t413 _ ?side1 A2.out).mono ?_); (case side1 => exact gw_ HG); rintro e w5 ⟨rfl, hb⟩; refine ⟨_, rfl, ?_⟩; replace BK410 := kb_ BK410 hb; replace HB := bs_ hb; (try clear hb); (try clear hb2); (try clear hk); (try clear hi)))
 go_ret
 exact ⟨er_, bl_⟩
end Go.Proofs.YtidajgkepdkcbaaGreatDoor.PF
end
section
namespace Go.Proofs.YtidajgkepdkcbaaGreatDoor.PF
open Go.RowKit Go.Proofs.YtidajgkepdkcbaaGreatDoorW.PrintWords Go.Proofs.YtidajgkepdkcbaaGreatDoorW.PrintLast Go.Proofs.YtidajgkepdkcbaaGreatDoorW.PrintMore
attribute [local go_sem] max2_int min2_int max_two min_two max_three min_three max_four min_four
def fraction_Ceil.f (k : Nat) (a0_0 : ByteArray) (a0_1 : ByteArray) : Option (ByteArray) := (fraction_Neg.f a0_0 a0_1).bind fun bt509 => ((fraction_Floor.f k bt509.1 bt509.2).bind fun t511 => ((whole_Neg.f t511).bind fun t512 => (some t512)))
set_option maxHeartbeats 8000000 in
set_option maxRecDepth 100000 in
theorem fraction_Ceil.calls (k : Nat) (a0_0 : ByteArray) (a0_1 : ByteArray) (r : ByteArray) (w : World) (hG_ : GWorld w) (h : fraction_Ceil.f k a0_0 a0_1 = some r) :
  Calls Tryz.prog 108 #[.agg #[.string a0_0, .string a0_1]] w fun e w' => e = .returned (.string r) ∧ Below w.heap.size w w' := by
 have hu24 := Tryz.underlying24
 have HB := Aside0.mk (Below.refl w.heap.size w)
 have HG := Aside0.mk hG_
 clear hG_
 have H : ((fraction_Neg.f a0_0 a0_1).bind fun bt509 => ((fraction_Floor.f k bt509.1 bt509.2).bind fun t511 => ((whole_Neg.f t511).bind fun t512 => (some t512)))) = some r := h
 clear h
 replace H := Option.bind_eq_some_iff.mp H
 obtain ⟨⟨t509, t510⟩, A20, H⟩ := H
 replace H : ((fraction_Floor.f k t509 t510).bind fun t511 => ((whole_Neg.f t511).bind fun t512 => (some t512))) = some r := H
 have A2 := Aside0.mk A20
 clear A20
 replace H := Option.bind_eq_some_iff.mp H
 obtain ⟨t511, A30, H⟩ := H
 replace H : ((whole_Neg.f t511).bind fun t512 => (some t512)) = some r := H
 have A3 := Aside0.mk A30
 clear A30
 replace H := Option.bind_eq_some_iff.mp H
 obtain ⟨t512, A40, H⟩ := H
 replace H : (some t512) = some r := H
 have A4 := Aside0.mk A40
 clear A40
 obtain rfl := Option.some.inj H
 go_enter Tryz.func108, Tryz.ntmps108
 go_wp2_with (first | ((with_reducible refine gate_dst (N := 1) rfl ?_); refine bx_ 1 #[.string a0_0, .string a0_1] 24 ?_; clear HB; intro gb508 w5 BK508 GW508 HB; have GE508 := GW508; obtain ⟨hcz6_0, hcz6_1, hfz6_0, hfz6_1⟩ := c2_ BK508) | ((with_reducible refine gate_callee (f := 73) rfl ?_); refine goesL_ (some 4) rfl rfl Tryz.func73 (by kernel_rfl) rfl #[.agg #[.string a0_0, .string a0_1]] rfl mp_ ?_; (with_reducible refine (fraction_Neg.calls a0_0 a0_1 t509 t510 _ A2.out).mono ?_); rintro e w7 ⟨rfl, hb⟩; refine ⟨_, rfl, ?_⟩; replace BK508 := kb_ BK508 hb; replace HB := bs_ hb; (try clear hb); (try clear hb2); (try clear hk); (try clear hi)) | ((with_reducible refine gate_callee (f := 93) rfl ?_); refine goesL_ (some 5) rfl rfl Tryz.func93 (by kernel_rfl) rfl #[.agg #[.string t509, .string t510]] rfl mp_ ?_; (with_reducible refine (fraction_Floor.calls k t509 t510 t511 _ ?side1 A3.out).mono ?_); (case side1 => exact gw_ HG); rintro e w8 ⟨rfl, hb⟩; refine ⟨_, rfl, ?_⟩; replace BK508 := kb_ BK508 hb; replace HB := bs_ hb; (try clear hb); (try clear hb2); (try clear hk); (try clear hi)) | ((with_reducible refine gate_callee (f := 95) rfl ?_); refine goesL_ (some 6) rfl rfl Tryz.func95 (by kernel_rfl) rfl #[.string t511] rfl mp_ ?_; (with_reducible refine (whole_Neg.calls t511 t512 _ A4.out).mono ?_); rintro e w' ⟨rfl, ⟨nd, rfl⟩⟩; refine ⟨_, rfl, ?_⟩))
 go_ret
 exact ⟨er_, bl_⟩
def fraction_Div.f (k : Nat) (a0_0 : ByteArray) (a0_1 : ByteArray) (a1_0 : ByteArray) (a1_1 : ByteArray) : Option (ByteArray × ByteArray × Int) := (fraction_Sign.f a1_0 a1_1).bind fun t516 => (if t516 = 0 then (some ((⟨#[]⟩ : ByteArray), (⟨#[]⟩ : ByteArray), 17)) else ((whole_Mul.f k a0_0 a1_1).bind fun t517 => ((whole_Mul.f k a0_1 a1_0).bind fun t518 => ((fraction_lowest.f k t517 t518).bind fun bt519 => (some (bt519.1, bt519.2, 0))))))
def fraction_Div.T3 : Bool × List (List Nat × List Nat) := (true, [([], []), ([0], [0]), ([], []), ([2], [2]), ([1, 3], [1, 3]), ([], []), ([5], [5]), ([], []), ([7], [7]), ([6, 8, 4], [6, 8]), ([4, 9, 9], [4, 9]), ([10, 10, 0, 1, 2, 3, 4, 5, 6, 7, 8, 9, 10], [10]), ([11, 0, 1, 2, 3, 4, 5, 6, 7, 8, 9, 10, 11], [])])
def fraction_Div.B3 : List Nat := [0, 1, 0, 4, 15, 0, 32, 0, 128, 511, 1023, 2047, 4095]
theorem fraction_Div.tab3 : rtab .any (opsOf Tryz.f109 3) = fraction_Div.T3 := by kernel_rfl
theorem fraction_Div.bits3 : waitsOk fraction_Div.T3.2 fraction_Div.B3 = true := by kernel_rfl
set_option maxHeartbeats 8000000 in
set_option maxRecDepth 100000 in
theorem fraction_Div.calls (k : Nat) (a0_0 : ByteArray) (a0_1 : ByteArray) (a1_0 : ByteArray) (a1_1 : ByteArray) (r1 : ByteArray) (r2 : ByteArray) (r3 : Int) (w : World) (hG_ : GWorld w) (h : fraction_Div.f k a0_0 a0_1 a1_0 a1_1 = some (r1, r2, r3)) :
  Calls Tryz.prog 109 #[.agg #[.string a0_0, .string a0_1], .agg #[.string a1_0, .string a1_1]] w fun e w' => e = .returned (.tuple #[.agg #[.string r1, .string r2], .int .i64 r3]) ∧ Below w.heap.size w w' := by
 have hu24 := Tryz.underlying24
 have HB := Aside0.mk (Below.refl w.heap.size w)
 have HG := Aside0.mk hG_
 clear hG_
 have H : ((fraction_Sign.f a1_0 a1_1).bind fun t516 => (if t516 = 0 then (some ((⟨#[]⟩ : ByteArray), (⟨#[]⟩ : ByteArray), 17)) else ((whole_Mul.f k a0_0 a1_1).bind fun t517 => ((whole_Mul.f k a0_1 a1_0).bind fun t518 => ((fraction_lowest.f k t517 t518).bind fun bt519 => (some (bt519.1, bt519.2, 0))))))) = some (r1, r2, r3) := h
 clear h
 replace H := Option.bind_eq_some_iff.mp H
 obtain ⟨t516, A30, H⟩ := H
 replace H : (if t516 = 0 then (some ((⟨#[]⟩ : ByteArray), (⟨#[]⟩ : ByteArray), 17)) else ((whole_Mul.f k a0_0 a1_1).bind fun t517 => ((whole_Mul.f k a0_1 a1_0).bind fun t518 => ((fraction_lowest.f k t517 t518).bind fun bt519 => (some (bt519.1, bt519.2, 0)))))) = some (r1, r2, r3) := H
 have A3 := Aside0.mk A30
 clear A30
 by_cases c4 : t516 = 0
 ·rw [if_pos c4] at H
  have c4b0 : (t516 == 0) = true := beq_iff_eq.mpr c4
  have c4b1 : (t516 != 0) = false := bne_eq_false_iff_eq.mpr c4
  clear c4
  simp only [Option.some.injEq, Prod.mk.injEq] at H
  obtain ⟨rfl, rfl, rfl⟩ := H
  go_enter Tryz.func109, Tryz.ntmps109
  go_wp2_with (first | ((with_reducible refine gate_dst (N := 2) rfl ?_); refine bx_ 2 #[.string a0_0, .string a0_1] 24 ?_; clear HB; intro gb513 w5 BK513 GW513 HB; have GE513 := GW513) | ((with_reducible refine gate_dst (N := 3) rfl ?_); refine box_event ?hg (N := 3) ?hd (cs := #[.string a1_0, .string a1_1]) (t := 24) ?hr ?_; (case hd => rfl); (case hg => rfl); (case hr => first | (go_simp; done) | (go_simp; rfl)); intro gb514 hg w6 hbox hb; have BK514 := Aside0.mk (hbox); have GW514 := ge_ (w := w) hg; have GE514 := ge_ (w := w) hg; replace HB := bs_ hb; have NB513_514 := nl_ hg BK513; have NB514_513 := ng_ hg BK513; replace BK513 := kb_ BK513 hb; clear hb hbox hg) | ((with_reducible refine gate_dst (N := 4) rfl ?_); refine box_event ?hg (N := 4) ?hd (cs := #[.string (⟨#[]⟩ : ByteArray), .string (⟨#[]⟩ : ByteArray)]) (t := 24) ?hr ?_; (case hd => rfl); (case hg => rfl); (case hr => first | (go_simp; done) | (go_simp; rfl)); intro gb515 hg w7 hbox hb; have BK515 := Aside0.mk (hbox); have GW515 := ge_ (w := w) hg; have GE515 := ge_ (w := w) hg; replace HB := bs_ hb; have NB513_515 := nl_ hg BK513; have NB515_513 := ng_ hg BK513; replace BK513 := kb_ BK513 hb; have NB514_515 := nl_ hg BK514; have NB515_514 := ng_ hg BK514; replace BK514 := kb_ BK514 hb; clear hb hbox hg; have hnb8 := NB514_513.out; have hnc8 := NB513_514.out; have hnb9 := NB514_515.out; have hnc9 := NB515_514.out; obtain ⟨hcz10_0, hcz10_1, hfz10_0, hfz10_1⟩ := c2_ BK514) | ((with_reducible refine gate_callee (f := 64) rfl ?_); refine goesL_ (some 7) rfl rfl Tryz.func64 (by kernel_rfl) rfl #[.agg #[.string a1_0, .string a1_1]] rfl mp_ ?_; (with_reducible refine (fraction_Sign.calls a1_0 a1_1 t516 _ A3.out).mono ?_); rintro e w11 ⟨rfl, hb⟩; refine ⟨_, rfl, ?_⟩; replace BK513 := kb_ BK513 hb; replace BK514 := kb_ BK514 hb; replace BK515 := kb_ BK515 hb; replace HB := bs_ hb; (try clear hb); (try clear hb2); (try clear hk); (try clear hi); have hnb12 := NB515_513.out; have hnc12 := NB513_515.out; obtain ⟨hcz13_0, hcz13_1, hfz13_0, hfz13_1⟩ := c2_ BK515))
  refine bodyPost_ret (results_ct rfl _ _ gb515 24 #[.string (⟨#[]⟩ : ByteArray), .string (⟨#[]⟩ : ByteArray)] (0, 0) _ rfl (by (with_reducible repeat (first | refine blk_drewN ?_ _ | refine blk_drew ?_ | refine blk_alloc ?_ _)); refine blk_put (cs := #[.string (⟨#[]⟩ : ByteArray), .string (⟨#[]⟩ : ByteArray)]) ?_ 1 _ rfl; (with_reducible repeat (first | refine blk_drewN ?_ _ | refine blk_drew ?_ | refine blk_alloc ?_ _)); refine blk_put (cs := #[.string (⟨#[]⟩ : ByteArray), .string (⟨#[]⟩ : ByteArray)]) ?_ 0 _ rfl; (with_reducible repeat (first | refine blk_drewN ?_ _ | refine blk_drew ?_ | refine blk_alloc ?_ _)); exact BK515.out) Tryz.underlying24 rfl (by kernel_rfl)) rfl ?_
  exact ⟨er_, bl_⟩
 ·rw [if_neg c4] at H
  have c4b0 : (t516 == 0) = false := beq_eq_false_iff_ne.mpr c4
  have c4b1 : (t516 != 0) = true := bne_iff_ne.mpr c4
  replace H := Option.bind_eq_some_iff.mp H
  obtain ⟨t517, A140, H⟩ := H
  replace H : ((whole_Mul.f k a0_1 a1_0).bind fun t518 => ((fraction_lowest.f k t517 t518).bind fun bt519 => (some (bt519.1, bt519.2, 0)))) = some (r1, r2, r3) := H
  have A14 := Aside0.mk A140
  clear A140
  replace H := Option.bind_eq_some_iff.mp H
  obtain ⟨t518, A150, H⟩ := H
  replace H : ((fraction_lowest.f k t517 t518).bind fun bt519 => (some (bt519.1, bt519.2, 0))) = some (r1, r2, r3) := H
  have A15 := Aside0.mk A150
  clear A150
  replace H := Option.bind_eq_some_iff.mp H
  obtain ⟨⟨t519, t520⟩, A160, H⟩ := H
  replace H : (some (t519, t520, 0)) = some (r1, r2, r3) := H
  have A16 := Aside0.mk A160
  clear A160
  simp only [Option.some.injEq, Prod.mk.injEq] at H
  obtain ⟨rfl, rfl, rfl⟩ := H
  go_enter Tryz.func109, Tryz.ntmps109
  try go_wp2_with (first | ((with_reducible refine gate_dst (N := 2) rfl ?_); refine bx_ 2 #[.string a0_0, .string a0_1] 24 ?_; clear HB; intro gb513 w17 BK513 GW513 HB; have GE513 := GW513) | ((with_reducible refine gate_dst (N := 3) rfl ?_); refine box_event ?hg (N := 3) ?hd (cs := #[.string a1_0, .string a1_1]) (t := 24) ?hr ?_; (case hd => rfl); (case hg => rfl); (case hr => first | (go_simp; done) | (go_simp; rfl)); intro gb514 hg w18 hbox hb; have BK514 := Aside0.mk (hbox); have GW514 := ge_ (w := w) hg; have GE514 := ge_ (w := w) hg; replace HB := bs_ hb; have NB513_514 := nl_ hg BK513; have NB514_513 := ng_ hg BK513; replace BK513 := kb_ BK513 hb; clear hb hbox hg) | ((with_reducible refine gate_dst (N := 4) rfl ?_); refine box_event ?hg (N := 4) ?hd (cs := #[.string (⟨#[]⟩ : ByteArray), .string (⟨#[]⟩ : ByteArray)]) (t := 24) ?hr ?_; (case hd => rfl); (case hg => rfl); (case hr => first | (go_simp; done) | (go_simp; rfl)); intro gb515 hg w19 hbox hb; have BK515 := Aside0.mk (hbox); have GW515 := ge_ (w := w) hg; have GE515 := ge_ (w := w) hg; replace HB := bs_ hb; have NB513_515 := nl_ hg BK513; have NB515_513 := ng_ hg BK513; replace BK513 := kb_ BK513 hb; have NB514_515 := nl_ hg BK514; have NB515_514 := ng_ hg BK514; replace BK514 := kb_ BK514 hb; clear hb hbox hg; have hnb20 := NB514_513.out; have hnc20 := NB513_514.out; have hnb21 := NB514_515.out; have hnc21 := NB515_514.out; obtain ⟨hcz22_0, hcz22_1, hfz22_0, hfz22_1⟩ := c2_ BK514) | ((with_reducible refine gate_callee (f := 64) rfl ?_); refine goesL_ (some 7) rfl rfl Tryz.func64 (by kernel_rfl) rfl #[.agg #[.string a1_0, .string a1_1]] rfl mp_ ?_; (with_reducible refine (fraction_Sign.calls a1_0 a1_1 t516 _ A3.out).mono ?_); rintro e w23 ⟨rfl, hb⟩; refine ⟨_, rfl, ?_⟩; replace BK513 := kb_ BK513 hb; replace BK514 := kb_ BK514 hb; replace BK515 := kb_ BK515 hb; replace HB := bs_ hb; (try clear hb); (try clear hb2); (try clear hk); (try clear hi)))
  have n0_ := Aside0.mk (blk_drew BK513.out)
  have n1_ := Aside0.mk (blk_drew BK514.out)
  have n2_ := Aside0.mk (blk_drew BK515.out)
  have n3_ := Aside0.mk (below_drew1 HB.out)
  clear BK513
  clear BK514
  clear BK515
  clear HB
  have BK513 := n0_
  have BK514 := n1_
  have BK515 := n2_
  have HB := n3_
  clear n0_ n1_ n2_ n3_
  refine start_ (n := 13) (S := fun w' => w'.cell? ⟨gb513, 0, none⟩ = some (.string a0_0) ∧ w'.cell? ⟨gb513, 1, none⟩ = some (.string a0_1) ∧ w'.cell? ⟨gb514, 0, none⟩ = some (.string a1_0) ∧ w'.cell? ⟨gb514, 1, none⟩ = some (.string a1_1)) (ds := []) #[false, false, false, false, false, false, false, false, false, false, false, false, false] (by kernel_rfl) rfl rfl ⟨(blk_cell BK513.out 0).trans rfl, (blk_cell BK513.out 1).trans rfl, (blk_cell BK514.out 0).trans rfl, (blk_cell BK514.out 1).trans rfl⟩ (fun hHeld => ?_); refine with_tabW fraction_Div.tab3 fraction_Div.bits3 (fun HT_ HW_ => ?_)
  generalize w23.drew = w24 at BK513 BK514 BK515 HB hHeld ⊢
  refine pure_ (i := 0) (N := some 10) (v := ?_) (a' := ?_) #[true, false, false, false, false, false, false, false, false, false, false, false, false] rfl rfl (any_of HT_.out (by kernel_rfl)) (fun _ _ _ h => h) (Or.inl ⟨by rfl, ?_⟩) ?_ ?_
  rotate_left
  ·intro w'
   go_simp
   with_reducible rfl
  rotate_left
  ·simp only [Act.put, List.setIfInBounds_toArray, List.set_cons_zero, List.set_cons_succ, i64_w, i32_w]
   rfl
  refine pure_ (i := 2) (N := some 12) (v := ?_) (a' := ?_) #[true, false, true, false, false, false, false, false, false, false, false, false, false] rfl rfl (any_of HT_.out (by kernel_rfl)) (fun _ _ _ h => h) (Or.inl ⟨by rfl, ?_⟩) ?_ ?_
  rotate_left
  ·intro w'
   go_simp
   with_reducible rfl
  rotate_left
  ·simp only [Act.put, List.setIfInBounds_toArray, List.set_cons_zero, List.set_cons_succ, i64_w, i32_w]
   rfl
  refine pure_ (i := 5) (N := some 15) (v := ?_) (a' := ?_) #[true, false, true, false, false, true, false, false, false, false, false, false, false] rfl rfl (any_of HT_.out (by kernel_rfl)) (fun _ _ _ h => h) (Or.inl ⟨by rfl, ?_⟩) ?_ ?_
  rotate_left
  ·intro w'
   go_simp
   with_reducible rfl
  rotate_left
  ·simp only [Act.put, List.setIfInBounds_toArray, List.set_cons_zero, List.set_cons_succ, i64_w, i32_w]
   rfl
  refine pure_ (i := 7) (N := some 17) (v := ?_) (a' := ?_) #[true, false, true, false, false, true, false, true, false, false, false, false, false] rfl rfl (any_of HT_.out (by kernel_rfl)) (fun _ _ _ h => h) (Or.inl ⟨by rfl, ?_⟩) ?_ ?_
  rotate_left
  ·intro w'
   go_simp
   with_reducible rfl
  rotate_left
  ·simp only [Act.put, List.setIfInBounds_toArray, List.set_cons_zero, List.set_cons_succ, i64_w, i32_w]
   rfl
  refine take_ (i := 1) (N := some 11) (v := ?_) (a' := ?_) #[true, true, true, false, false, true, false, true, false, false, false, false, false] rfl rfl (take_ofW HT_.out HW_.out (by kernel_rfl)) (fun _ _ _ h => h) (Or.inl ⟨by rfl, ?_⟩) hHeld ?_ ?_
  rotate_left
  ·rintro w' ⟨s0, s1, s2, s3⟩
   go_simp
   with_reducible rfl
  rotate_left
  ·simp only [Act.put, List.setIfInBounds_toArray, List.set_cons_zero, List.set_cons_succ, i64_w, i32_w]
   rfl
  refine take_ (i := 3) (N := some 13) (v := ?_) (a' := ?_) #[true, true, true, true, false, true, false, true, false, false, false, false, false] rfl rfl (take_ofW HT_.out HW_.out (by kernel_rfl)) (fun _ _ _ h => h) (Or.inl ⟨by rfl, ?_⟩) hHeld ?_ ?_
  rotate_left
  ·rintro w' ⟨s0, s1, s2, s3⟩
   go_simp
   with_reducible rfl
  rotate_left
  ·simp only [Act.put, List.setIfInBounds_toArray, List.set_cons_zero, List.set_cons_succ, i64_w, i32_w]
   rfl
  refine take_ (i := 6) (N := some 16) (v := ?_) (a' := ?_) #[true, true, true, true, false, true, true, true, false, false, false, false, false] rfl rfl (take_ofW HT_.out HW_.out (by kernel_rfl)) (fun _ _ _ h => h) (Or.inl ⟨by rfl, ?_⟩) hHeld ?_ ?_
  rotate_left
  ·rintro w' ⟨s0, s1, s2, s3⟩
   go_simp
   with_reducible rfl
  rotate_left
  ·simp only [Act.put, List.setIfInBounds_toArray, List.set_cons_zero, List.set_cons_succ, i64_w, i32_w]
   rfl
  refine take_ (i := 8) (N := some 18) (v := ?_) (a' := ?_) #[true, true, true, true, false, true, true, true, true, false, false, false, false] rfl rfl (take_ofW HT_.out HW_.out (by kernel_rfl)) (fun _ _ _ h => h) (Or.inl ⟨by rfl, ?_⟩) hHeld ?_ ?_
  rotate_left
  ·rintro w' ⟨s0, s1, s2, s3⟩
   go_simp
   with_reducible rfl
  rotate_left
  ·simp only [Act.put, List.setIfInBounds_toArray, List.set_cons_zero, List.set_cons_succ, i64_w, i32_w]
   rfl
  refine one_ (i := 4) (N := some 14) #[true, true, true, true, true, true, true, true, true, false, false, false, false] rfl rfl (one_of HT_.out (by kernel_rfl)) (by decide) (fun K hK => ?_)
  refine goes_ Tryz.func88 (by kernel_rfl) rfl #[.string a0_0, .string a1_1] (by rfl) rfl rfl mp_ ?_
  with_reducible refine (whole_Mul.calls k a0_0 a1_1 t517 _ ?side1 A14.out).mono ?_
  (case side1 => exact gw_ HG)
  rintro e w25 ⟨rfl, hb⟩
  refine ⟨_, rfl, ?_⟩
  have n0_ := kb_ BK513 hb
  have n1_ := kb_ BK514 hb
  have n2_ := kb_ BK515 hb
  have n3_ := bs_ hb
  clear BK513
  clear BK514
  clear BK515
  clear HB
  have BK513 := n0_
  have BK514 := n1_
  have BK515 := n2_
  have HB := n3_
  clear n0_ n1_ n2_ n3_
  (try clear hb); (try clear hb2); (try clear hk); (try clear hi)
  refine hK.out _ _ ⟨(blk_cell BK513.out 0).trans rfl, (blk_cell BK513.out 1).trans rfl, (blk_cell BK514.out 0).trans rfl, (blk_cell BK514.out 1).trans rfl⟩ (fun hHeld => ?_)
  clear hK K
  refine norm_ (a' := ?_) ?_ ?_
  rotate_left
  ·show Act.put _ (some 14) _ = _
   simp only [Act.put, List.setIfInBounds_toArray, List.set_cons_zero, List.set_cons_succ, i64_w, i32_w]
   rfl
  refine one_ (i := 9) (N := some 19) #[true, true, true, true, true, true, true, true, true, true, false, false, false] rfl rfl (one_of HT_.out (by kernel_rfl)) (by decide) (fun K hK => ?_)
  refine goes_ Tryz.func88 (by kernel_rfl) rfl #[.string a0_1, .string a1_0] (by rfl) rfl rfl mp_ ?_
  with_reducible refine (whole_Mul.calls k a0_1 a1_0 t518 _ ?side1 A15.out).mono ?_
  (case side1 => exact gw_ HG)
  rintro e w26 ⟨rfl, hb⟩
  refine ⟨_, rfl, ?_⟩
  have n0_ := kb_ BK513 hb
  have n1_ := kb_ BK514 hb
  have n2_ := kb_ BK515 hb
  have n3_ := bs_ hb
  clear BK513
  clear BK514
  clear BK515
  clear HB
  have BK513 := n0_
  have BK514 := n1_
  have BK515 := n2_
  have HB := n3_
  clear n0_ n1_ n2_ n3_
  (try clear hb); (try clear hb2); (try clear hk); (try clear hi)
  refine hK.out _ _ ⟨(blk_cell BK513.out 0).trans rfl, (blk_cell BK513.out 1).trans rfl, (blk_cell BK514.out 0).trans rfl, (blk_cell BK514.out 1).trans rfl⟩ (fun hHeld => ?_)
  clear hK K
  refine norm_ (a' := ?_) ?_ ?_
  rotate_left
  ·show Act.put _ (some 19) _ = _
   simp only [Act.put, List.setIfInBounds_toArray, List.set_cons_zero, List.set_cons_succ, i64_w, i32_w]
   rfl
  refine one_ (i := 10) (N := some 20) #[true, true, true, true, true, true, true, true, true, true, true, false, false] rfl rfl (one_of HT_.out (by kernel_rfl)) (by decide) (fun K hK => ?_)
  refine goes_ Tryz.func111 (by kernel_rfl) rfl #[.string t517, .string t518] (by rfl) rfl rfl mp_ ?_
  with_reducible refine (fraction_lowest.calls k t517 t518 t519 t520 _ ?side1 A16.out).mono ?_
  (case side1 => exact gw_ HG)
  rintro e w27 ⟨rfl, hb⟩
  refine ⟨_, rfl, ?_⟩
  have n0_ := kb_ BK513 hb
  have n1_ := kb_ BK514 hb
  have n2_ := kb_ BK515 hb
  have n3_ := bs_ hb
  clear BK513
  clear BK514
  clear BK515
  clear HB
  have BK513 := n0_
  have BK514 := n1_
  have BK515 := n2_
  have HB := n3_
  clear n0_ n1_ n2_ n3_
  (try clear hb); (try clear hb2); (try clear hk); (try clear hi)
  refine hK.out _ _ ⟨(blk_cell BK513.out 0).trans rfl, (blk_cell BK513.out 1).trans rfl, (blk_cell BK514.out 0).trans rfl, (blk_cell BK514.out 1).trans rfl⟩ (fun hHeld => ?_)
  clear hK K
  refine norm_ (a' := ?_) ?_ ?_
  rotate_left
  ·show Act.put _ (some 20) _ = _
   simp only [Act.put, List.setIfInBounds_toArray, List.set_cons_zero, List.set_cons_succ, i64_w, i32_w]
   rfl
  refine one_ (i := 11) (N := none) #[true, true, true, true, true, true, true, true, true, true, true, true, false] rfl rfl (one_of HT_.out (by kernel_rfl)) (by decide) (fun K hK => ?_)
  have hs28 : w27.cell? ⟨gb515, 0, none⟩ = some (.string (⟨#[]⟩ : ByteArray)) := (blk_cell BK515.out 0).trans rfl
  have hfs28 := blk_frozen BK515.out 0
  have hns28_0 := NB513_515.out
  have hns28_1 := NB514_515.out
  have hms28_0 := NB515_513.out
  have hms28_1 := NB515_514.out
  have hs29 : w27.cell? ⟨gb515, 1, none⟩ = some (.string (⟨#[]⟩ : ByteArray)) := (blk_cell BK515.out 1).trans rfl
  have hfs29 := blk_frozen BK515.out 1
  have hns29_0 := NB513_515.out
  have hns29_1 := NB514_515.out
  have hms29_0 := NB515_513.out
  have hms29_1 := NB515_514.out
  refine skip_ (w1 := ?_) (by rfl) rfl ?_ ?_
  rotate_left
  ·go_simp
   rfl
  refine hK.out _ _ ⟨((cell_far (p := ⟨gb515, _, none⟩) NB513_515.out _).trans (((cell_far (p := ⟨gb515, _, none⟩) NB513_515.out _).trans (hHeld.1)))), ((cell_far (p := ⟨gb515, _, none⟩) NB513_515.out _).trans (((cell_far (p := ⟨gb515, _, none⟩) NB513_515.out _).trans (hHeld.2.1)))), ((cell_far (p := ⟨gb515, _, none⟩) NB514_515.out _).trans (((cell_far (p := ⟨gb515, _, none⟩) NB514_515.out _).trans (hHeld.2.2.1)))), ((cell_far (p := ⟨gb515, _, none⟩) NB514_515.out _).trans (((cell_far (p := ⟨gb515, _, none⟩) NB514_515.out _).trans (hHeld.2.2.2))))⟩ (fun hHeld => ?_)
  clear hK K
  refine pure_ (i := 12) (N := some 5) (v := ?_) (a' := ?_) #[true, true, true, true, true, true, true, true, true, true, true, true, true] rfl rfl (any_of HT_.out (by kernel_rfl)) (fun _ _ _ h => h) (Or.inl ⟨by rfl, ?_⟩) ?_ ?_
  rotate_left
  ·intro w'
   go_simp
   with_reducible rfl
  rotate_left
  ·simp only [Act.put, List.setIfInBounds_toArray, List.set_cons_zero, List.set_cons_succ, i64_w, i32_w]
   rfl
  refine done_ (done_of HT_.out (by kernel_rfl)) ?_
  try go_wp2
  refine bodyPost_ret (results_ct rfl _ _ gb515 24 #[.string t519, .string t520] (0, 0) _ rfl (by (with_reducible repeat (first | refine blk_drewN ?_ _ | refine blk_drew ?_ | refine blk_alloc ?_ _)); refine blk_put (cs := #[.string t519, .string (⟨#[]⟩ : ByteArray)]) ?_ 1 _ rfl; (with_reducible repeat (first | refine blk_drewN ?_ _ | refine blk_drew ?_ | refine blk_alloc ?_ _)); refine blk_put (cs := #[.string (⟨#[]⟩ : ByteArray), .string (⟨#[]⟩ : ByteArray)]) ?_ 0 _ rfl; (with_reducible repeat (first | refine blk_drewN ?_ _ | refine blk_drew ?_ | refine blk_alloc ?_ _)); exact BK515.out) Tryz.underlying24 rfl (by kernel_rfl)) rfl ?_
  exact ⟨er_, bl_⟩
end Go.Proofs.YtidajgkepdkcbaaGreatDoor.PF
end
section
namespace Go.Proofs.YtidajgkepdkcbaaGreatDoor.PF
open Go.RowKit Go.Proofs.YtidajgkepdkcbaaGreatDoorW.PrintWords Go.Proofs.YtidajgkepdkcbaaGreatDoorW.PrintLast Go.Proofs.YtidajgkepdkcbaaGreatDoorW.PrintMore
attribute [local go_sem] max2_int min2_int max_two min_two max_three min_three max_four min_four
def convergent_simplest.l0 : Nat → ByteArray → ByteArray → ByteArray → ByteArray → ByteArray → ByteArray → ByteArray → ByteArray → Option (ByteArray × ByteArray)
 | 0, _, _, _, _, _, _, _, _ => none
 | k + 1, x522000, x522001, x523000, x523001, x529000, x529001, x529002, x529003 => (fraction_Ceil.f k x522000 x522001).bind fun t529 => ((fraction_Floor.f k x523000 x523001).bind fun t530 => ((whole_Compare.f t529 t530).bind fun t531 => (if t531 ≤ 0 then ((convergent_pair_step.f k x529000 x529001 x529002 x529003 t529).bind fun bt532 => ((convergent_over.f k bt532.1 bt532.2).bind fun bt534 => (some (bt534.1, bt534.2)))) else ((fraction_Floor.f k x522000 x522001).bind fun t536 => ((convergent_pair_next.f k x529000 x529001 x529002 x529003 t536).bind fun bt537 => ((convergent_over.f k t536 (⟨#[49]⟩ : ByteArray)).bind fun bt541 => ((convergent_over.f k (⟨#[49]⟩ : ByteArray) (⟨#[49]⟩ : ByteArray)).bind fun bt544 => ((fraction_Sub.f k x522000 x522001 bt541.1 bt541.2).bind fun bt546 => ((fraction_Div.f k bt544.1 bt544.2 bt546.1 bt546.2).bind fun bt548 => ((convergent_over.f k (⟨#[49]⟩ : ByteArray) (⟨#[49]⟩ : ByteArray)).bind fun bt552 => ((fraction_Sub.f k x523000 x523001 bt541.1 bt541.2).bind fun bt554 => ((fraction_Div.f k bt552.1 bt552.2 bt554.1 bt554.2).bind fun bt556 => (convergent_simplest.l0 k bt556.1 bt556.2.1 bt548.1 bt548.2.1 bt537.1 bt537.2.1 bt537.2.2.1 bt537.2.2.2)))))))))))))
def convergent_simplest.f (k : Nat) (a0_0 : ByteArray) (a0_1 : ByteArray) (a1_0 : ByteArray) (a1_1 : ByteArray) : Option (ByteArray × ByteArray) := (convergent_begin.f).bind fun bt524 => (convergent_simplest.l0 k a0_0 a0_1 a1_0 a1_1 bt524.1 bt524.2.1 bt524.2.2.1 bt524.2.2.2)
def convergent_simplest.T8 : Bool × List (List Nat × List Nat) := (true, [([], []), ([], []), ([], []), ([1, 2, 0], [1, 2]), ([0, 3, 3], [0, 3]), ([4], [4]), ([5], [5]), ([5], [5]), ([], []), ([8, 6, 4, 0, 1, 2, 3, 4, 5, 6, 8], [6, 8]), ([7, 9, 0, 1, 2, 3, 4, 5, 6, 7, 8, 9], [7])])
def convergent_simplest.B8 : List Nat := [0, 0, 0, 7, 15, 31, 63, 63, 0, 383, 1023]
theorem convergent_simplest.tab8 : rtab .any (opsOf Tryz.f74 8) = convergent_simplest.T8 := by kernel_rfl
theorem convergent_simplest.bits8 : waitsOk convergent_simplest.T8.2 convergent_simplest.B8 = true := by kernel_rfl
def convergent_simplest.T9 : Bool × List (List Nat × List Nat) := (true, [([], []), ([], []), ([], []), ([1, 2, 0], [1, 2]), ([0, 3, 3], [0, 3]), ([4], [4]), ([5], [5]), ([5], [5]), ([], []), ([8, 6, 4, 0, 1, 2, 3, 4, 5, 6, 8], [6, 8]), ([7, 9, 0, 1, 2, 3, 4, 5, 6, 7, 8, 9], [7])])
def convergent_simplest.B9 : List Nat := [0, 0, 0, 7, 15, 31, 63, 63, 0, 383, 1023]
theorem convergent_simplest.tab9 : rtab .any (opsOf Tryz.f74 9) = convergent_simplest.T9 := by kernel_rfl
theorem convergent_simplest.bits9 : waitsOk convergent_simplest.T9.2 convergent_simplest.B9 = true := by kernel_rfl
set_option maxHeartbeats 8000000 in
set_option maxRecDepth 100000 in
theorem convergent_simplest.calls (k : Nat) (a0_0 : ByteArray) (a0_1 : ByteArray) (a1_0 : ByteArray) (a1_1 : ByteArray) (r1 : ByteArray) (r2 : ByteArray) (w : World) (hG_ : GWorld w) (h : convergent_simplest.f k a0_0 a0_1 a1_0 a1_1 = some (r1, r2)) :
  Calls Tryz.prog 74 #[.agg #[.string a0_0, .string a0_1], .agg #[.string a1_0, .string a1_1]] w fun e w' => e = .returned (.agg #[.string r1, .string r2]) ∧ Below w.heap.size w w' := by
 have hu24 := Tryz.underlying24
 have hu71 := Tryz.underlying71
 have HB := Aside0.mk (Below.refl w.heap.size w)
 have HG := Aside0.mk hG_
 clear hG_
 have H : ((convergent_begin.f).bind fun bt524 => (convergent_simplest.l0 k a0_0 a0_1 a1_0 a1_1 bt524.1 bt524.2.1 bt524.2.2.1 bt524.2.2.2)) = some (r1, r2) := h
 clear h
 replace H := Option.bind_eq_some_iff.mp H
 obtain ⟨⟨t524, t525, t526, t527⟩, A30, H⟩ := H
 replace H : (convergent_simplest.l0 k a0_0 a0_1 a1_0 a1_1 t524 t525 t526 t527) = some (r1, r2) := H
 have A3 := Aside0.mk A30
 clear A30
 have H' := Aside0.mk H
 clear H
 go_enter Tryz.func74, Tryz.ntmps74
 go_wp2_with (first | ((with_reducible refine gate_dst (N := 2) rfl ?_); refine bx_ 2 #[.string a0_0, .string a0_1] 24 ?_; clear HB; intro gb521 w4 BK521 GW521 HB; have GE521 := GW521) | ((with_reducible refine gate_dst (N := 3) rfl ?_); refine box_event ?hg (N := 3) ?hd (cs := #[.string a1_0, .string a1_1]) (t := 24) ?hr ?_; (case hd => rfl); (case hg => rfl); (case hr => first | (go_simp; done) | (go_simp; rfl)); intro gb522 hg w5 hbox hb; have BK522 := Aside0.mk (hbox); have GW522 := ge_ (w := w) hg; have GE522 := ge_ (w := w) hg; replace HB := bs_ hb; have NB521_522 := nl_ hg BK521; have NB522_521 := ng_ hg BK521; replace BK521 := kb_ BK521 hb; clear hb hbox hg) | ((with_reducible refine gate_dst (N := 4) rfl ?_); refine box_event ?hg (N := 4) ?hd (cs := #[.string (⟨#[]⟩ : ByteArray), .string (⟨#[]⟩ : ByteArray)]) (t := 24) ?hr ?_; (case hd => rfl); (case hg => rfl); (case hr => first | (go_simp; done) | (go_simp; rfl)); intro gb523 hg w6 hbox hb; have BK523 := Aside0.mk (hbox); have GW523 := ge_ (w := w) hg; have GE523 := ge_ (w := w) hg; replace HB := bs_ hb; have NB521_523 := nl_ hg BK521; have NB523_521 := ng_ hg BK521; replace BK521 := kb_ BK521 hb; have NB522_523 := nl_ hg BK522; have NB523_522 := ng_ hg BK522; replace BK522 := kb_ BK522 hb; clear hb hbox hg) | ((with_reducible refine gate_callee (f := 47) rfl ?_); refine goesL_ (some 13) rfl rfl Tryz.func47 (by kernel_rfl) rfl #[] rfl mp_ ?_; (with_reducible refine (convergent_begin.calls  t524 t525 t526 t527 _ A3.out).mono ?_); rintro e w7 ⟨rfl, hb⟩; refine ⟨_, rfl, ?_⟩; replace BK521 := kb_ BK521 hb; replace BK522 := kb_ BK522 hb; replace BK523 := kb_ BK523 hb; replace HB := bs_ hb; (try clear hb); (try clear hb2); (try clear hk); (try clear hi)) | ((with_reducible refine gate_dst (N := 5) rfl ?_); refine box_event ?hg (N := 5) ?hd (cs := #[.string (⟨#[]⟩ : ByteArray), .string (⟨#[]⟩ : ByteArray), .string (⟨#[]⟩ : ByteArray), .string (⟨#[]⟩ : ByteArray)]) (t := 71) ?hr ?_; (case hd => rfl); (case hg => rfl); (case hr => first | (go_simp; done) | (go_simp; rfl)); intro gb528 hg w8 hbox hb; have BK528 := Aside0.mk (hbox); have GW528 := ge_ (w := w) hg; have GE528 := ge_ (w := w) hg; replace HB := bs_ hb; have NB521_528 := nl_ hg BK521; have NB528_521 := ng_ hg BK521; replace BK521 := kb_ BK521 hb; have NB522_528 := nl_ hg BK522; have NB528_522 := ng_ hg BK522; replace BK522 := kb_ BK522 hb; have NB523_528 := nl_ hg BK523; have NB528_523 := ng_ hg BK523; replace BK523 := kb_ BK523 hb; clear hb hbox hg; have hnb9 := NB528_521.out; have hnc9 := NB521_528.out; have hnb10 := NB528_522.out; have hnc10 := NB522_528.out; have hnb11 := NB528_523.out; have hnc11 := NB523_528.out; obtain ⟨hcz12_0, hcz12_1, hcz12_2, hcz12_3, hfz12_0, hfz12_1, hfz12_2, hfz12_3⟩ := c4_ BK528))
 go_loopg [] k (fun kq w' => ∃ (x522000_1 : ByteArray) (x522001_1 : ByteArray) (x523000_1 : ByteArray) (x523001_1 : ByteArray) (x524000_1 : ByteArray) (x524001_1 : ByteArray) (x529000_1 : ByteArray) (x529001_1 : ByteArray) (x529002_1 : ByteArray) (x529003_1 : ByteArray), Aside0 (convergent_simplest.l0 kq x522000_1 x522001_1 x523000_1 x523001_1 x529000_1 x529001_1 x529002_1 x529003_1 = some (r1, r2)) ∧ Aside0 (kq ≤ k) ∧ Aside0 (w'.heap[gb521]? = some (.cells #[.string x522000_1, .string x522001_1] 24 (0, 0))) ∧ Aside0 (w'.heap[gb522]? = some (.cells #[.string x523000_1, .string x523001_1] 24 (0, 0))) ∧ Aside0 (w'.heap[gb523]? = some (.cells #[.string x524000_1, .string x524001_1] 24 (0, 0))) ∧ Aside0 (w'.heap[gb528]? = some (.cells #[.string x529000_1, .string x529001_1, .string x529002_1, .string x529003_1] 71 (0, 0))) ∧ Aside0 (Below w.heap.size w w'))
 case atStart => exact ⟨(a0_0), (a0_1), (a1_0), (a1_1), ((⟨#[]⟩ : ByteArray)), ((⟨#[]⟩ : ByteArray)), (t524), (t525), (t526), (t527), H', ⟨Nat.le_refl _⟩, ⟨by (with_reducible repeat (first | refine blk_drewN ?_ _ | refine blk_drew ?_ | refine blk_alloc ?_ _)); refine blk_far ?_ NB521_528.out _; (with_reducible repeat (first | refine blk_drewN ?_ _ | refine blk_drew ?_ | refine blk_alloc ?_ _)); refine blk_far ?_ NB521_528.out _; (with_reducible repeat (first | refine blk_drewN ?_ _ | refine blk_drew ?_ | refine blk_alloc ?_ _)); refine blk_far ?_ NB521_528.out _; (with_reducible repeat (first | refine blk_drewN ?_ _ | refine blk_drew ?_ | refine blk_alloc ?_ _)); refine blk_far ?_ NB521_528.out _; (with_reducible repeat (first | refine blk_drewN ?_ _ | refine blk_drew ?_ | refine blk_alloc ?_ _)); exact BK521.out⟩, ⟨by (with_reducible repeat (first | refine blk_drewN ?_ _ | refine blk_drew ?_ | refine blk_alloc ?_ _)); refine blk_far ?_ NB522_528.out _; (with_reducible repeat (first | refine blk_drewN ?_ _ | refine blk_drew ?_ | refine blk_alloc ?_ _)); refine blk_far ?_ NB522_528.out _; (with_reducible repeat (first | refine blk_drewN ?_ _ | refine blk_drew ?_ | refine blk_alloc ?_ _)); refine blk_far ?_ NB522_528.out _; (with_reducible repeat (first | refine blk_drewN ?_ _ | refine blk_drew ?_ | refine blk_alloc ?_ _)); refine blk_far ?_ NB522_528.out _; (with_reducible repeat (first | refine blk_drewN ?_ _ | refine blk_drew ?_ | refine blk_alloc ?_ _)); exact BK522.out⟩, ⟨by (with_reducible repeat (first | refine blk_drewN ?_ _ | refine blk_drew ?_ | refine blk_alloc ?_ _)); refine blk_far ?_ NB523_528.out _; (with_reducible repeat (first | refine blk_drewN ?_ _ | refine blk_drew ?_ | refine blk_alloc ?_ _)); refine blk_far ?_ NB523_528.out _; (with_reducible repeat (first | refine blk_drewN ?_ _ | refine blk_drew ?_ | refine blk_alloc ?_ _)); refine blk_far ?_ NB523_528.out _; (with_reducible repeat (first | refine blk_drewN ?_ _ | refine blk_drew ?_ | refine blk_alloc ?_ _)); refine blk_far ?_ NB523_528.out _; (with_reducible repeat (first | refine blk_drewN ?_ _ | refine blk_drew ?_ | refine blk_alloc ?_ _)); exact BK523.out⟩, ⟨by (with_reducible repeat (first | refine blk_drewN ?_ _ | refine blk_drew ?_ | refine blk_alloc ?_ _)); refine blk_put (cs := #[.string t524, .string t525, .string t526, .string (⟨#[]⟩ : ByteArray)]) ?_ 3 _ rfl; (with_reducible repeat (first | refine blk_drewN ?_ _ | refine blk_drew ?_ | refine blk_alloc ?_ _)); refine blk_put (cs := #[.string t524, .string t525, .string (⟨#[]⟩ : ByteArray), .string (⟨#[]⟩ : ByteArray)]) ?_ 2 _ rfl; (with_reducible repeat (first | refine blk_drewN ?_ _ | refine blk_drew ?_ | refine blk_alloc ?_ _)); refine blk_put (cs := #[.string t524, .string (⟨#[]⟩ : ByteArray), .string (⟨#[]⟩ : ByteArray), .string (⟨#[]⟩ : ByteArray)]) ?_ 1 _ rfl; (with_reducible repeat (first | refine blk_drewN ?_ _ | refine blk_drew ?_ | refine blk_alloc ?_ _)); refine blk_put (cs := #[.string (⟨#[]⟩ : ByteArray), .string (⟨#[]⟩ : ByteArray), .string (⟨#[]⟩ : ByteArray), .string (⟨#[]⟩ : ByteArray)]) ?_ 0 _ rfl; (with_reducible repeat (first | refine blk_drewN ?_ _ | refine blk_drew ?_ | refine blk_alloc ?_ _)); exact BK528.out⟩, ⟨bl_⟩⟩
 case round =>
  clear H'
  try clear c1
  try clear p2
  try clear c4
  try clear c7
  try clear c9
  try clear c10
  try clear c11
  try clear hcz12_0
  try clear hcz12_1
  try clear hcz12_2
  try clear hcz12_3
  try clear hfz12_0
  try clear hfz12_1
  try clear hfz12_2
  try clear hfz12_3
  obtain ⟨x522000_1, x522001_1, x523000_1, x523001_1, x524000_1, x524001_1, x529000_1, x529001_1, x529002_1, x529003_1, HA, HK1, BK521, BK522, BK523, BK528, HB⟩ := hrel
  cases gk with
  | zero => exact absurd HA.out (by simp [convergent_simplest.l0])
  | succ k1 =>
   have H := HA.out
   clear HA
   simp only [convergent_simplest.l0] at H
   replace H := Option.bind_eq_some_iff.mp H
   obtain ⟨t529, A130, H⟩ := H
   replace H : ((fraction_Floor.f k1 x523000_1 x523001_1).bind fun t530 => ((whole_Compare.f t529 t530).bind fun t531 => (if t531 ≤ 0 then ((convergent_pair_step.f k1 x529000_1 x529001_1 x529002_1 x529003_1 t529).bind fun bt532 => ((convergent_over.f k1 bt532.1 bt532.2).bind fun bt534 => (some (bt534.1, bt534.2)))) else ((fraction_Floor.f k1 x522000_1 x522001_1).bind fun t536 => ((convergent_pair_next.f k1 x529000_1 x529001_1 x529002_1 x529003_1 t536).bind fun bt537 => ((convergent_over.f k1 t536 (⟨#[49]⟩ : ByteArray)).bind fun bt541 => ((convergent_over.f k1 (⟨#[49]⟩ : ByteArray) (⟨#[49]⟩ : ByteArray)).bind fun bt544 => ((fraction_Sub.f k1 x522000_1 x522001_1 bt541.1 bt541.2).bind fun bt546 => ((fraction_Div.f k1 bt544.1 bt544.2 bt546.1 bt546.2).bind fun bt548 => ((convergent_over.f k1 (⟨#[49]⟩ : ByteArray) (⟨#[49]⟩ : ByteArray)).bind fun bt552 => ((fraction_Sub.f k1 x523000_1 x523001_1 bt541.1 bt541.2).bind fun bt554 => ((fraction_Div.f k1 bt552.1 bt552.2 bt554.1 bt554.2).bind fun bt556 => (convergent_simplest.l0 k1 bt556.1 bt556.2.1 bt548.1 bt548.2.1 bt537.1 bt537.2.1 bt537.2.2.1 bt537.2.2.2))))))))))))) = some (r1, r2) := H
   have A13 := Aside0.mk A130
   clear A130
   replace H := Option.bind_eq_some_iff.mp H
   obtain ⟨t530, A140, H⟩ := H
   replace H : ((whole_Compare.f t529 t530).bind fun t531 => (if t531 ≤ 0 then ((convergent_pair_step.f k1 x529000_1 x529001_1 x529002_1 x529003_1 t529).bind fun bt532 => ((convergent_over.f k1 bt532.1 bt532.2).bind fun bt534 => (some (bt534.1, bt534.2)))) else ((fraction_Floor.f k1 x522000_1 x522001_1).bind fun t536 => ((convergent_pair_next.f k1 x529000_1 x529001_1 x529002_1 x529003_1 t536).bind fun bt537 => ((convergent_over.f k1 t536 (⟨#[49]⟩ : ByteArray)).bind fun bt541 => ((convergent_over.f k1 (⟨#[49]⟩ : ByteArray) (⟨#[49]⟩ : ByteArray)).bind fun bt544 => ((fraction_Sub.f k1 x522000_1 x522001_1 bt541.1 bt541.2).bind fun bt546 => ((fraction_Div.f k1 bt544.1 bt544.2 bt546.1 bt546.2).bind fun bt548 => ((convergent_over.f k1 (⟨#[49]⟩ : ByteArray) (⟨#[49]⟩ : ByteArray)).bind fun bt552 => ((fraction_Sub.f k1 x523000_1 x523001_1 bt541.1 bt541.2).bind fun bt554 => ((fraction_Div.f k1 bt552.1 bt552.2 bt554.1 bt554.2).bind fun bt556 => (convergent_simplest.l0 k1 bt556.1 bt556.2.1 bt548.1 bt548.2.1 bt537.1 bt537.2.1 bt537.2.2.1 bt537.2.2.2)))))))))))) = some (r1, r2) := H
   have A14 := Aside0.mk A140
   clear A140
   replace H := Option.bind_eq_some_iff.mp H
   obtain ⟨t531, A150, H⟩ := H
   replace H : (if t531 ≤ 0 then ((convergent_pair_step.f k1 x529000_1 x529001_1 x529002_1 x529003_1 t529).bind fun bt532 => ((convergent_over.f k1 bt532.1 bt532.2).bind fun bt534 => (some (bt534.1, bt534.2)))) else ((fraction_Floor.f k1 x522000_1 x522001_1).bind fun t536 => ((convergent_pair_next.f k1 x529000_1 x529001_1 x529002_1 x529003_1 t536).bind fun bt537 => ((convergent_over.f k1 t536 (⟨#[49]⟩ : ByteArray)).bind fun bt541 => ((convergent_over.f k1 (⟨#[49]⟩ : ByteArray) (⟨#[49]⟩ : ByteArray)).bind fun bt544 => ((fraction_Sub.f k1 x522000_1 x522001_1 bt541.1 bt541.2).bind fun bt546 => ((fraction_Div.f k1 bt544.1 bt544.2 bt546.1 bt546.2).bind fun bt548 => ((convergent_over.f k1 (⟨#[49]⟩ : ByteArray) (⟨#[49]⟩ : ByteArray)).bind fun bt552 => ((fraction_Sub.f k1 x523000_1 x523001_1 bt541.1 bt541.2).bind fun bt554 => ((fraction_Div.f k1 bt552.1 bt552.2 bt554.1 bt554.2).bind fun bt556 => (convergent_simplest.l0 k1 bt556.1 bt556.2.1 bt548.1 bt548.2.1 bt537.1 bt537.2.1 bt537.2.2.1 bt537.2.2.2))))))))))) = some (r1, r2) := H
   have A15 := Aside0.mk A150
   clear A150
   by_cases c16 : t531 ≤ 0
   ·rw [if_pos c16] at H
    have c16b0 : decide (t531 ≤ 0) = true := decide_eq_true c16
    clear c16
    replace H := Option.bind_eq_some_iff.mp H
    obtain ⟨⟨t532, t533⟩, A170, H⟩ := H
    replace H : ((convergent_over.f k1 t532 t533).bind fun bt534 => (some (bt534.1, bt534.2))) = some (r1, r2) := H
    have A17 := Aside0.mk A170
    clear A170
    replace H := Option.bind_eq_some_iff.mp H
    obtain ⟨⟨t534, t535⟩, A180, H⟩ := H
    replace H : (some (t534, t535)) = some (r1, r2) := H
    have A18 := Aside0.mk A180
    clear A180
    simp only [Option.some.injEq, Prod.mk.injEq] at H
    obtain ⟨rfl, rfl⟩ := H
    have hnb19 := NB521_522.out
    have hnc19 := NB522_521.out
    have hnb20 := NB521_523.out
    have hnc20 := NB523_521.out
    have hnb21 := NB521_528.out
    have hnc21 := NB528_521.out
    have hcz22_0 : wr.cell? ⟨gb521, 0, none⟩ = some (.string x522000_1) := (blk_cell BK521.out 0).trans rfl
    have hcz22_1 : wr.cell? ⟨gb521, 1, none⟩ = some (.string x522001_1) := (blk_cell BK521.out 1).trans rfl
    have hfz22_0 := blk_frozen BK521.out 0
    have hfz22_1 := blk_frozen BK521.out 1
    go_wp2_with (first | ((with_reducible refine gate_callee (f := 108) rfl ?_); refine goesL_ (some 15) rfl rfl Tryz.func108 (by kernel_rfl) rfl #[.agg #[.string x522000_1, .string x522001_1]] rfl mp_ ?_; (with_reducible refine (fraction_Ceil.calls k1 x522000_1 x522001_1 t529 _ ?side1 A13.out).mono ?_); (case side1 => exact gw_ HG); rintro e w23 ⟨rfl, hb⟩; refine ⟨_, rfl, ?_⟩; replace BK521 := kb_ BK521 hb; replace BK522 := kb_ BK522 hb; replace BK523 := kb_ BK523 hb; replace BK528 := kb_ BK528 hb; replace HB := bs_ hb; (try clear hb); (try clear hb2); (try clear hk); (try clear hi); have hnb24 := NB522_523.out; have hnc24 := NB523_522.out; have hnb25 := NB522_528.out; have hnc25 := NB528_522.out; obtain ⟨hcz26_0, hcz26_1, hfz26_0, hfz26_1⟩ := c2_ BK522) | ((with_reducible refine gate_callee (f := 93) rfl ?_); refine goesL_ (some 18) rfl rfl Tryz.func93 (by kernel_rfl) rfl #[.agg #[.string x523000_1, .string x523001_1]] rfl mp_ ?_; (with_reducible refine (fraction_Floor.calls k1 x523000_1 x523001_1 t530 _ ?side1 A14.out).mono ?_); (case side1 => exact gw_ HG); rintro e w27 ⟨rfl, hb⟩; refine ⟨_, rfl, ?_⟩; replace BK521 := kb_ BK521 hb; replace BK522 := kb_ BK522 hb; replace BK523 := kb_ BK523 hb; replace BK528 := kb_ BK528 hb; replace HB := bs_ hb; (try clear hb); (try clear hb2); (try clear hk); (try clear hi)) | ((with_reducible refine gate_callee (f := 58) rfl ?_); refine goesL_ (some 19) rfl rfl Tryz.func58 (by kernel_rfl) rfl #[.string t529, .string t530] rfl mp_ ?_; (with_reducible refine (whole_Compare.calls t529 t530 t531 _ A15.out).mono ?_); rintro e w28 ⟨rfl, hb⟩; refine ⟨_, rfl, ?_⟩; replace BK521 := kb_ BK521 hb; replace BK522 := kb_ BK522 hb; replace BK523 := kb_ BK523 hb; replace BK528 := kb_ BK528 hb; replace HB := bs_ hb; (try clear hb); (try clear hb2); (try clear hk); (try clear hi); have hnb29 := NB528_523.out; have hnc29 := NB523_528.out; obtain ⟨hcz30_0, hcz30_1, hcz30_2, hcz30_3, hfz30_0, hfz30_1, hfz30_2, hfz30_3⟩ := c4_ BK528) | ((with_reducible refine gate_callee (f := 83) rfl ?_); refine goesL_ (some 23) rfl rfl Tryz.func83 (by kernel_rfl) rfl #[.agg #[.string x529000_1, .string x529001_1, .string x529002_1, .string x529003_1], .string t529] rfl mp_ ?_; (with_reducible refine (convergent_pair_step.calls k1 x529000_1 x529001_1 x529002_1 x529003_1 t529 t532 t533 _ ?side1 A17.out).mono ?_); (case side1 => exact gw_ HG); rintro e w31 ⟨rfl, hb⟩; refine ⟨_, rfl, ?_⟩; replace BK521 := kb_ BK521 hb; replace BK522 := kb_ BK522 hb; replace BK523 := kb_ BK523 hb; replace BK528 := kb_ BK528 hb; replace HB := bs_ hb; (try clear hb); (try clear hb2); (try clear hk); (try clear hi)) | ((with_reducible refine gate_callee (f := 41) rfl ?_); refine goesL_ (some 26) rfl rfl Tryz.func41 (by kernel_rfl) rfl #[.string t532, .string t533] rfl mp_ ?_; (with_reducible refine (convergent_over.calls k1 t532 t533 t534 t535 _ ?side1 A18.out).mono ?_); (case side1 => exact gw_ HG); rintro e w32 ⟨rfl, hb⟩; refine ⟨_, rfl, ?_⟩; replace BK521 := kb_ BK521 hb; replace BK522 := kb_ BK522 hb; replace BK523 := kb_ BK523 hb; replace BK528 := kb_ BK528 hb; replace HB := bs_ hb; (try clear hb); (try clear hb2); (try clear hk); (try clear hi); obtain ⟨hcz33_0, hcz33_1, hfz33_0, hfz33_1⟩ := c2_ BK523))
    refine bodyPost_ret (results_cell_row rfl _ _ gb523 24 #[.string t534, .string t535] (0, 0) _ rfl (by (with_reducible repeat (first | refine blk_drewN ?_ _ | refine blk_drew ?_ | refine blk_alloc ?_ _)); refine blk_put (cs := #[.string t534, .string x524001_1]) ?_ 1 _ rfl; (with_reducible repeat (first | refine blk_drewN ?_ _ | refine blk_drew ?_ | refine blk_alloc ?_ _)); refine blk_put (cs := #[.string x524000_1, .string x524001_1]) ?_ 0 _ rfl; (with_reducible repeat (first | refine blk_drewN ?_ _ | refine blk_drew ?_ | refine blk_alloc ?_ _)); exact BK523.out) Tryz.underlying24 rfl (by kernel_rfl)) rfl ?_
    exact ⟨er_, bl_⟩
   ·rw [if_neg c16] at H
    have c16b0 : decide (t531 ≤ 0) = false := decide_eq_false c16
    clear c16
    replace H := Option.bind_eq_some_iff.mp H
    obtain ⟨t536, A340, H⟩ := H
    replace H : ((convergent_pair_next.f k1 x529000_1 x529001_1 x529002_1 x529003_1 t536).bind fun bt537 => ((convergent_over.f k1 t536 (⟨#[49]⟩ : ByteArray)).bind fun bt541 => ((convergent_over.f k1 (⟨#[49]⟩ : ByteArray) (⟨#[49]⟩ : ByteArray)).bind fun bt544 => ((fraction_Sub.f k1 x522000_1 x522001_1 bt541.1 bt541.2).bind fun bt546 => ((fraction_Div.f k1 bt544.1 bt544.2 bt546.1 bt546.2).bind fun bt548 => ((convergent_over.f k1 (⟨#[49]⟩ : ByteArray) (⟨#[49]⟩ : ByteArray)).bind fun bt552 => ((fraction_Sub.f k1 x523000_1 x523001_1 bt541.1 bt541.2).bind fun bt554 => ((fraction_Div.f k1 bt552.1 bt552.2 bt554.1 bt554.2).bind fun bt556 => (convergent_simplest.l0 k1 bt556.1 bt556.2.1 bt548.1 bt548.2.1 bt537.1 bt537.2.1 bt537.2.2.1 bt537.2.2.2))))))))) = some (r1, r2) := H
    have A34 := Aside0.mk A340
    clear A340
    replace H := Option.bind_eq_some_iff.mp H
    obtain ⟨⟨t537, t538, t539, t540⟩, A350, H⟩ := H
    replace H : ((convergent_over.f k1 t536 (⟨#[49]⟩ : ByteArray)).bind fun bt541 => ((convergent_over.f k1 (⟨#[49]⟩ : ByteArray) (⟨#[49]⟩ : ByteArray)).bind fun bt544 => ((fraction_Sub.f k1 x522000_1 x522001_1 bt541.1 bt541.2).bind fun bt546 => ((fraction_Div.f k1 bt544.1 bt544.2 bt546.1 bt546.2).bind fun bt548 => ((convergent_over.f k1 (⟨#[49]⟩ : ByteArray) (⟨#[49]⟩ : ByteArray)).bind fun bt552 => ((fraction_Sub.f k1 x523000_1 x523001_1 bt541.1 bt541.2).bind fun bt554 => ((fraction_Div.f k1 bt552.1 bt552.2 bt554.1 bt554.2).bind fun bt556 => (convergent_simplest.l0 k1 bt556.1 bt556.2.1 bt548.1 bt548.2.1 t537 t538 t539 t540)))))))) = some (r1, r2) := H
    have A35 := Aside0.mk A350
    clear A350
    replace H := Option.bind_eq_some_iff.mp H
    obtain ⟨⟨t541, t542⟩, A360, H⟩ := H
    replace H : ((convergent_over.f k1 (⟨#[49]⟩ : ByteArray) (⟨#[49]⟩ : ByteArray)).bind fun bt544 => ((fraction_Sub.f k1 x522000_1 x522001_1 t541 t542).bind fun bt546 => ((fraction_Div.f k1 bt544.1 bt544.2 bt546.1 bt546.2).bind fun bt548 => ((convergent_over.f k1 (⟨#[49]⟩ : ByteArray) (⟨#[49]⟩ : ByteArray)).bind fun bt552 => ((fraction_Sub.f k1 x523000_1 x523001_1 t541 t542).bind fun bt554 => ((fraction_Div.f k1 bt552.1 bt552.2 bt554.1 bt554.2).bind fun bt556 => (convergent_simplest.l0 k1 bt556.1 bt556.2.1 bt548.1 bt548.2.1 t537 t538 t539 t540))))))) = some (r1, r2) := H
    have A36 := Aside0.mk A360
    clear A360
    replace H := Option.bind_eq_some_iff.mp H
    obtain ⟨⟨t544, t545⟩, A370, H⟩ := H
    replace H : ((fraction_Sub.f k1 x522000_1 x522001_1 t541 t542).bind fun bt546 => ((fraction_Div.f k1 t544 t545 bt546.1 bt546.2).bind fun bt548 => ((convergent_over.f k1 (⟨#[49]⟩ : ByteArray) (⟨#[49]⟩ : ByteArray)).bind fun bt552 => ((fraction_Sub.f k1 x523000_1 x523001_1 t541 t542).bind fun bt554 => ((fraction_Div.f k1 bt552.1 bt552.2 bt554.1 bt554.2).bind fun bt556 => (convergent_simplest.l0 k1 bt556.1 bt556.2.1 bt548.1 bt548.2.1 t537 t538 t539 t540)))))) = some (r1, r2) := H
    have A37 := Aside0.mk A370
    clear A370
    replace H := Option.bind_eq_some_iff.mp H
    obtain ⟨⟨t546, t547⟩, A380, H⟩ := H
    replace H : ((fraction_Div.f k1 t544 t545 t546 t547).bind fun bt548 => ((convergent_over.f k1 (⟨#[49]⟩ : ByteArray) (⟨#[49]⟩ : ByteArray)).bind fun bt552 => ((fraction_Sub.f k1 x523000_1 x523001_1 t541 t542).bind fun bt554 => ((fraction_Div.f k1 bt552.1 bt552.2 bt554.1 bt554.2).bind fun bt556 => (convergent_simplest.l0 k1 bt556.1 bt556.2.1 bt548.1 bt548.2.1 t537 t538 t539 t540))))) = some (r1, r2) := H
    have A38 := Aside0.mk A380
    clear A380
    replace H := Option.bind_eq_some_iff.mp H
    obtain ⟨⟨t548, t549, t550⟩, A390, H⟩ := H
    replace H : ((convergent_over.f k1 (⟨#[49]⟩ : ByteArray) (⟨#[49]⟩ : ByteArray)).bind fun bt552 => ((fraction_Sub.f k1 x523000_1 x523001_1 t541 t542).bind fun bt554 => ((fraction_Div.f k1 bt552.1 bt552.2 bt554.1 bt554.2).bind fun bt556 => (convergent_simplest.l0 k1 bt556.1 bt556.2.1 t548 t549 t537 t538 t539 t540)))) = some (r1, r2) := H
    have A39 := Aside0.mk A390
    clear A390
    replace H := Option.bind_eq_some_iff.mp H
    obtain ⟨⟨t552, t553⟩, A400, H⟩ := H
    replace H : ((fraction_Sub.f k1 x523000_1 x523001_1 t541 t542).bind fun bt554 => ((fraction_Div.f k1 t552 t553 bt554.1 bt554.2).bind fun bt556 => (convergent_simplest.l0 k1 bt556.1 bt556.2.1 t548 t549 t537 t538 t539 t540))) = some (r1, r2) := H
    have A40 := Aside0.mk A400
    clear A400
    replace H := Option.bind_eq_some_iff.mp H
    obtain ⟨⟨t554, t555⟩, A410, H⟩ := H
    replace H : ((fraction_Div.f k1 t552 t553 t554 t555).bind fun bt556 => (convergent_simplest.l0 k1 bt556.1 bt556.2.1 t548 t549 t537 t538 t539 t540)) = some (r1, r2) := H
    have A41 := Aside0.mk A410
    clear A410
    replace H := Option.bind_eq_some_iff.mp H
    obtain ⟨⟨t556, t557, t558⟩, A420, H⟩ := H
    replace H : (convergent_simplest.l0 k1 t556 t557 t548 t549 t537 t538 t539 t540) = some (r1, r2) := H
    have A42 := Aside0.mk A420
    clear A420
    have H' := Aside0.mk H
    clear H
    have hnb43 := NB521_522.out
    have hnc43 := NB522_521.out
    have hnb44 := NB521_523.out
    have hnc44 := NB523_521.out
    have hnb45 := NB521_528.out
    have hnc45 := NB528_521.out
    have hcz46_0 : wr.cell? ⟨gb521, 0, none⟩ = some (.string x522000_1) := (blk_cell BK521.out 0).trans rfl
    have hcz46_1 : wr.cell? ⟨gb521, 1, none⟩ = some (.string x522001_1) := (blk_cell BK521.out 1).trans rfl
    have hfz46_0 := blk_frozen BK521.out 0
    have hfz46_1 := blk_frozen BK521.out 1
    try go_wp2_with (first | ((with_reducible refine gate_callee (f := 108) rfl ?_); refine goesL_ (some 15) rfl rfl Tryz.func108 (by kernel_rfl) rfl #[.agg #[.string x522000_1, .string x522001_1]] rfl mp_ ?_; (with_reducible refine (fraction_Ceil.calls k1 x522000_1 x522001_1 t529 _ ?side1 A13.out).mono ?_); (case side1 => exact gw_ HG); rintro e w47 ⟨rfl, hb⟩; refine ⟨_, rfl, ?_⟩; replace BK521 := kb_ BK521 hb; replace BK522 := kb_ BK522 hb; replace BK523 := kb_ BK523 hb; replace BK528 := kb_ BK528 hb; replace HB := bs_ hb; (try clear hb); (try clear hb2); (try clear hk); (try clear hi); have hnb48 := NB522_523.out; have hnc48 := NB523_522.out; have hnb49 := NB522_528.out; have hnc49 := NB528_522.out; obtain ⟨hcz50_0, hcz50_1, hfz50_0, hfz50_1⟩ := c2_ BK522) | ((with_reducible refine gate_callee (f := 93) rfl ?_); refine goesL_ (some 18) rfl rfl Tryz.func93 (by kernel_rfl) rfl #[.agg #[.string x523000_1, .string x523001_1]] rfl mp_ ?_; (with_reducible refine (fraction_Floor.calls k1 x523000_1 x523001_1 t530 _ ?side1 A14.out).mono ?_); (case side1 => exact gw_ HG); rintro e w51 ⟨rfl, hb⟩; refine ⟨_, rfl, ?_⟩; replace BK521 := kb_ BK521 hb; replace BK522 := kb_ BK522 hb; replace BK523 := kb_ BK523 hb; replace BK528 := kb_ BK528 hb; replace HB := bs_ hb; (try clear hb); (try clear hb2); (try clear hk); (try clear hi)) | ((with_reducible refine gate_callee (f := 58) rfl ?_); refine goesL_ (some 19) rfl rfl Tryz.func58 (by kernel_rfl) rfl #[.string t529, .string t530] rfl mp_ ?_; (with_reducible refine (whole_Compare.calls t529 t530 t531 _ A15.out).mono ?_); rintro e w52 ⟨rfl, hb⟩; refine ⟨_, rfl, ?_⟩; replace BK521 := kb_ BK521 hb; replace BK522 := kb_ BK522 hb; replace BK523 := kb_ BK523 hb; replace BK528 := kb_ BK528 hb; replace HB := bs_ hb; (try clear hb); (try clear hb2); (try clear hk); (try clear hi); obtain ⟨hcz53_0, hcz53_1, hfz53_0, hfz53_1⟩ := c2_ BK521) | ((with_reducible refine gate_callee (f := 93) rfl ?_); refine goesL_ (some 28) rfl rfl Tryz.func93 (by kernel_rfl) rfl #[.agg #[.string x522000_1, .string x522001_1]] rfl mp_ ?_; (with_reducible refine (fraction_Floor.calls k1 x522000_1 x522001_1 t536 _ ?side1 A34.out).mono ?_); (case side1 => exact gw_ HG); rintro e w54 ⟨rfl, hb⟩; refine ⟨_, rfl, ?_⟩; replace BK521 := kb_ BK521 hb; replace BK522 := kb_ BK522 hb; replace BK523 := kb_ BK523 hb; replace BK528 := kb_ BK528 hb; replace HB := bs_ hb; (try clear hb); (try clear hb2); (try clear hk); (try clear hi); have hnb55 := NB528_523.out; have hnc55 := NB523_528.out; obtain ⟨hcz56_0, hcz56_1, hcz56_2, hcz56_3, hfz56_0, hfz56_1, hfz56_2, hfz56_3⟩ := c4_ BK528) | ((with_reducible refine gate_callee (f := 48) rfl ?_); refine goesL_ (some 31) rfl rfl Tryz.func48 (by kernel_rfl) rfl #[.agg #[.string x529000_1, .string x529001_1, .string x529002_1, .string x529003_1], .string t536] rfl mp_ ?_; (with_reducible refine (convergent_pair_next.calls k1 x529000_1 x529001_1 x529002_1 x529003_1 t536 t537 t538 t539 t540 _ ?side1 A35.out).mono ?_); (case side1 => exact gw_ HG); rintro e w57 ⟨rfl, hb⟩; refine ⟨_, rfl, ?_⟩; replace BK521 := kb_ BK521 hb; replace BK522 := kb_ BK522 hb; replace BK523 := kb_ BK523 hb; replace BK528 := kb_ BK528 hb; replace HB := bs_ hb; (try clear hb); (try clear hb2); (try clear hk); (try clear hi); obtain ⟨hcz58_0, hcz58_1, hcz58_2, hcz58_3, hfz58_0, hfz58_1, hfz58_2, hfz58_3⟩ := c4_ BK528) | ((with_reducible refine gate_callee (f := 41) rfl ?_); refine goesL_ (some 33) rfl rfl Tryz.func41 (by kernel_rfl) rfl #[.string t536, .string (⟨#[49]⟩ : ByteArray)] rfl mp_ ?_; (with_reducible refine (convergent_over.calls k1 t536 (⟨#[49]⟩ : ByteArray) t541 t542 _ ?side1 A36.out).mono ?_); (case side1 => exact gw_ HG); rintro e w59 ⟨rfl, hb⟩; refine ⟨_, rfl, ?_⟩; replace BK521 := Aside0.mk (blk_below (g := gb521) (o := .cells #[.string x522000_1, .string x522001_1] 24 (0, 0)) (by (with_reducible repeat (first | refine blk_drewN ?_ _ | refine blk_drew ?_ | refine blk_alloc ?_ _)); refine blk_far ?_ NB521_528.out _; (with_reducible repeat (first | refine blk_drewN ?_ _ | refine blk_drew ?_ | refine blk_alloc ?_ _)); refine blk_far ?_ NB521_528.out _; (with_reducible repeat (first | refine blk_drewN ?_ _ | refine blk_drew ?_ | refine blk_alloc ?_ _)); refine blk_far ?_ NB521_528.out _; (with_reducible repeat (first | refine blk_drewN ?_ _ | refine blk_drew ?_ | refine blk_alloc ?_ _)); refine blk_far ?_ NB521_528.out _; (with_reducible repeat (first | refine blk_drewN ?_ _ | refine blk_drew ?_ | refine blk_alloc ?_ _)); exact BK521.out) hb); replace BK522 := Aside0.mk (blk_below (g := gb522) (o := .cells #[.string x523000_1, .string x523001_1] 24 (0, 0)) (by (with_reducible repeat (first | refine blk_drewN ?_ _ | refine blk_drew ?_ | refine blk_alloc ?_ _)); refine blk_far ?_ NB522_528.out _; (with_reducible repeat (first | refine blk_drewN ?_ _ | refine blk_drew ?_ | refine blk_alloc ?_ _)); refine blk_far ?_ NB522_528.out _; (with_reducible repeat (first | refine blk_drewN ?_ _ | refine blk_drew ?_ | refine blk_alloc ?_ _)); refine blk_far ?_ NB522_528.out _; (with_reducible repeat (first | refine blk_drewN ?_ _ | refine blk_drew ?_ | refine blk_alloc ?_ _)); refine blk_far ?_ NB522_528.out _; (with_reducible repeat (first | refine blk_drewN ?_ _ | refine blk_drew ?_ | refine blk_alloc ?_ _)); exact BK522.out) hb); replace BK523 := Aside0.mk (blk_below (g := gb523) (o := .cells #[.string x524000_1, .string x524001_1] 24 (0, 0)) (by (with_reducible repeat (first | refine blk_drewN ?_ _ | refine blk_drew ?_ | refine blk_alloc ?_ _)); refine blk_far ?_ NB523_528.out _; (with_reducible repeat (first | refine blk_drewN ?_ _ | refine blk_drew ?_ | refine blk_alloc ?_ _)); refine blk_far ?_ NB523_528.out _; (with_reducible repeat (first | refine blk_drewN ?_ _ | refine blk_drew ?_ | refine blk_alloc ?_ _)); refine blk_far ?_ NB523_528.out _; (with_reducible repeat (first | refine blk_drewN ?_ _ | refine blk_drew ?_ | refine blk_alloc ?_ _)); refine blk_far ?_ NB523_528.out _; (with_reducible repeat (first | refine blk_drewN ?_ _ | refine blk_drew ?_ | refine blk_alloc ?_ _)); exact BK523.out) hb); replace BK528 := Aside0.mk (blk_below (g := gb528) (o := .cells #[.string t537, .string t538, .string t539, .string t540] 71 (0, 0)) (by (with_reducible repeat (first | refine blk_drewN ?_ _ | refine blk_drew ?_ | refine blk_alloc ?_ _)); refine blk_put (cs := #[.string t537, .string t538, .string t539, .string x529003_1]) ?_ 3 _ rfl; (with_reducible repeat (first | refine blk_drewN ?_ _ | refine blk_drew ?_ | refine blk_alloc ?_ _)); refine blk_put (cs := #[.string t537, .string t538, .string x529002_1, .string x529003_1]) ?_ 2 _ rfl; (with_reducible repeat (first | refine blk_drewN ?_ _ | refine blk_drew ?_ | refine blk_alloc ?_ _)); refine blk_put (cs := #[.string t537, .string x529001_1, .string x529002_1, .string x529003_1]) ?_ 1 _ rfl; (with_reducible repeat (first | refine blk_drewN ?_ _ | refine blk_drew ?_ | refine blk_alloc ?_ _)); refine blk_put (cs := #[.string x529000_1, .string x529001_1, .string x529002_1, .string x529003_1]) ?_ 0 _ rfl; (with_reducible repeat (first | refine blk_drewN ?_ _ | refine blk_drew ?_ | refine blk_alloc ?_ _)); exact BK528.out) hb); replace HB := bs_ hb; (try clear hb); (try clear hb2); (try clear hk); (try clear hi)) | ((with_reducible refine gate_dst (N := 8) rfl ?_); refine box_event ?hg (N := 8) ?hd (cs := #[.string (⟨#[]⟩ : ByteArray), .string (⟨#[]⟩ : ByteArray)]) (t := 24) ?hr ?_; (case hd => rfl); (case hg => rfl); (case hr => first | (go_simp; done) | (go_simp; rfl)); intro gb543 hg w60 hbox hb; have BK543 := Aside0.mk (hbox); have GW543 := ge_ (w := w) hg; have GE543 := ge_ (w := w) hg; replace HB := bs_ hb; have NB521_543 := nl_ hg BK521; have NB543_521 := ng_ hg BK521; replace BK521 := kb_ BK521 hb; have NB522_543 := nl_ hg BK522; have NB543_522 := ng_ hg BK522; replace BK522 := kb_ BK522 hb; have NB523_543 := nl_ hg BK523; have NB543_523 := ng_ hg BK523; replace BK523 := kb_ BK523 hb; have NB528_543 := nl_ hg BK528; have NB543_528 := ng_ hg BK528; replace BK528 := kb_ BK528 hb; clear hb hbox hg; have hnb61 := NB543_521.out; have hnc61 := NB521_543.out; have hnb62 := NB543_522.out; have hnc62 := NB522_543.out; have hnb63 := NB543_523.out; have hnc63 := NB523_543.out; have hnb64 := NB543_528.out; have hnc64 := NB528_543.out; obtain ⟨hcz65_0, hcz65_1, hfz65_0, hfz65_1⟩ := c2_ BK543))
    have n0_ : Aside0 (((w60.setCell ⟨gb543, 0, none⟩ (.string t541)).setCell ⟨gb543, 1, none⟩ (.string t542)).heap[gb521]? = some (.cells #[.string x522000_1, .string x522001_1] 24 (0, 0))) := ⟨by (with_reducible repeat (first | refine blk_drewN ?_ _ | refine blk_drew ?_ | refine blk_alloc ?_ _)); refine blk_far ?_ NB521_543.out _; (with_reducible repeat (first | refine blk_drewN ?_ _ | refine blk_drew ?_ | refine blk_alloc ?_ _)); refine blk_far ?_ NB521_543.out _; (with_reducible repeat (first | refine blk_drewN ?_ _ | refine blk_drew ?_ | refine blk_alloc ?_ _)); exact BK521.out⟩
    have n1_ : Aside0 (((w60.setCell ⟨gb543, 0, none⟩ (.string t541)).setCell ⟨gb543, 1, none⟩ (.string t542)).heap[gb522]? = some (.cells #[.string x523000_1, .string x523001_1] 24 (0, 0))) := ⟨by (with_reducible repeat (first | refine blk_drewN ?_ _ | refine blk_drew ?_ | refine blk_alloc ?_ _)); refine blk_far ?_ NB522_543.out _; (with_reducible repeat (first | refine blk_drewN ?_ _ | refine blk_drew ?_ | refine blk_alloc ?_ _)); refine blk_far ?_ NB522_543.out _; (with_reducible repeat (first | refine blk_drewN ?_ _ | refine blk_drew ?_ | refine blk_alloc ?_ _)); exact BK522.out⟩
    have n2_ : Aside0 (((w60.setCell ⟨gb543, 0, none⟩ (.string t541)).setCell ⟨gb543, 1, none⟩ (.string t542)).heap[gb523]? = some (.cells #[.string x524000_1, .string x524001_1] 24 (0, 0))) := ⟨by (with_reducible repeat (first | refine blk_drewN ?_ _ | refine blk_drew ?_ | refine blk_alloc ?_ _)); refine blk_far ?_ NB523_543.out _; (with_reducible repeat (first | refine blk_drewN ?_ _ | refine blk_drew ?_ | refine blk_alloc ?_ _)); refine blk_far ?_ NB523_543.out _; (with_reducible repeat (first | refine blk_drewN ?_ _ | refine blk_drew ?_ | refine blk_alloc ?_ _)); exact BK523.out⟩
    have n3_ : Aside0 (((w60.setCell ⟨gb543, 0, none⟩ (.string t541)).setCell ⟨gb543, 1, none⟩ (.string t542)).heap[gb528]? = some (.cells #[.string t537, .string t538, .string t539, .string t540] 71 (0, 0))) := ⟨by (with_reducible repeat (first | refine blk_drewN ?_ _ | refine blk_drew ?_ | refine blk_alloc ?_ _)); refine blk_far ?_ NB528_543.out _; (with_reducible repeat (first | refine blk_drewN ?_ _ | refine blk_drew ?_ | refine blk_alloc ?_ _)); refine blk_far ?_ NB528_543.out _; (with_reducible repeat (first | refine blk_drewN ?_ _ | refine blk_drew ?_ | refine blk_alloc ?_ _)); exact BK528.out⟩
    have n4_ : Aside0 (((w60.setCell ⟨gb543, 0, none⟩ (.string t541)).setCell ⟨gb543, 1, none⟩ (.string t542)).heap[gb543]? = some (.cells #[.string t541, .string t542] 24 (0, 0))) := ⟨by (with_reducible repeat (first | refine blk_drewN ?_ _ | refine blk_drew ?_ | refine blk_alloc ?_ _)); refine blk_put (cs := #[.string t541, .string (⟨#[]⟩ : ByteArray)]) ?_ 1 _ rfl; (with_reducible repeat (first | refine blk_drewN ?_ _ | refine blk_drew ?_ | refine blk_alloc ?_ _)); refine blk_put (cs := #[.string (⟨#[]⟩ : ByteArray), .string (⟨#[]⟩ : ByteArray)]) ?_ 0 _ rfl; (with_reducible repeat (first | refine blk_drewN ?_ _ | refine blk_drew ?_ | refine blk_alloc ?_ _)); exact BK543.out⟩
    have n5_ : Aside0 (Below w.heap.size w ((w60.setCell ⟨gb543, 0, none⟩ (.string t541)).setCell ⟨gb543, 1, none⟩ (.string t542))) := ⟨bl_⟩
    (try clear BK521); (try clear BK522); (try clear BK523); (try clear BK528); (try clear BK543); (try clear HB)
    generalize ((w60.setCell ⟨gb543, 0, none⟩ (.string t541)).setCell ⟨gb543, 1, none⟩ (.string t542)) = w66 at n0_ n1_ n2_ n3_ n4_ n5_ ⊢
    have BK521 := n0_
    have BK522 := n1_
    have BK523 := n2_
    have BK528 := n3_
    have BK543 := n4_
    have HB := n5_
    clear n0_ n1_ n2_ n3_ n4_ n5_
    have n0_ := Aside0.mk (blk_drew BK521.out)
    have n1_ := Aside0.mk (blk_drew BK522.out)
    have n2_ := Aside0.mk (blk_drew BK523.out)
    have n3_ := Aside0.mk (blk_drew BK528.out)
    have n4_ := Aside0.mk (blk_drew BK543.out)
    have n5_ := Aside0.mk (below_drew1 HB.out)
    clear BK521
    clear BK522
    clear BK523
    clear BK528
    clear BK543
    clear HB
    have BK521 := n0_
    have BK522 := n1_
    have BK523 := n2_
    have BK528 := n3_
    have BK543 := n4_
    have HB := n5_
    clear n0_ n1_ n2_ n3_ n4_ n5_
    refine start_ (n := 11) (S := fun w' => w'.cell? ⟨gb521, 0, none⟩ = some (.string x522000_1) ∧ w'.cell? ⟨gb521, 1, none⟩ = some (.string x522001_1) ∧ w'.cell? ⟨gb543, 0, none⟩ = some (.string t541) ∧ w'.cell? ⟨gb543, 1, none⟩ = some (.string t542)) (ds := []) #[false, false, false, false, false, false, false, false, false, false, false] (by kernel_rfl) rfl rfl ⟨(blk_cell BK521.out 0).trans rfl, (blk_cell BK521.out 1).trans rfl, (blk_cell BK543.out 0).trans rfl, (blk_cell BK543.out 1).trans rfl⟩ (fun hHeld => ?_); refine with_tabW convergent_simplest.tab8 convergent_simplest.bits8 (fun HT_ HW_ => ?_)
    generalize w66.drew = w67 at BK521 BK522 BK523 BK528 BK543 HB hHeld ⊢
    refine take_ (i := 1) (N := some 36) (v := ?_) (a' := ?_) #[false, true, false, false, false, false, false, false, false, false, false] rfl rfl (take_ofW HT_.out HW_.out (by kernel_rfl)) (fun _ _ _ h => h) (Or.inl ⟨by rfl, ?_⟩) hHeld ?_ ?_
    rotate_left
    ·rintro w' ⟨s0, s1, s2, s3⟩
     go_simp
     with_reducible rfl
    rotate_left
    ·simp only [Act.put, List.setIfInBounds_toArray, List.set_cons_zero, List.set_cons_succ, i64_w, i32_w]
     rfl
    refine take_ (i := 2) (N := some 37) (v := ?_) (a' := ?_) #[false, true, true, false, false, false, false, false, false, false, false] rfl rfl (take_ofW HT_.out HW_.out (by kernel_rfl)) (fun _ _ _ h => h) (Or.inl ⟨by rfl, ?_⟩) hHeld ?_ ?_
    rotate_left
    ·rintro w' ⟨s0, s1, s2, s3⟩
     go_simp
     with_reducible rfl
    rotate_left
    ·simp only [Act.put, List.setIfInBounds_toArray, List.set_cons_zero, List.set_cons_succ, i64_w, i32_w]
     rfl
    refine join_ (σ := Nat) 2 #[true, true, true, true, true, true, true, true, true, false, false] (fun s_ => [(35, .agg #[.string t544, .string t545]), (38, .agg #[.string t546, .string t547]), (39, .tuple #[.agg #[.string t548, .string t549], .int .i64 t550]), (9, .pointer (some ⟨s_, 0, none⟩)), (34, .tuple #[.agg #[.string t548, .string t549], .int .i64 t550]), (40, .agg #[.string t548, .string t549]), (41, .int .i64 t550)]) (fun s_ w' => (w'.cell? ⟨gb521, 0, none⟩ = some (.string x522000_1) ∧ w'.cell? ⟨gb521, 1, none⟩ = some (.string x522001_1) ∧ w'.cell? ⟨gb543, 0, none⟩ = some (.string t541) ∧ w'.cell? ⟨gb543, 1, none⟩ = some (.string t542)) ∧ (w'.heap[gb521]? = some (.cells #[.string x522000_1, .string x522001_1] 24 (0, 0))) ∧ (w'.heap[gb522]? = some (.cells #[.string x523000_1, .string x523001_1] 24 (0, 0))) ∧ (w'.heap[gb523]? = some (.cells #[.string x524000_1, .string x524001_1] 24 (0, 0))) ∧ (w'.heap[gb528]? = some (.cells #[.string t537, .string t538, .string t539, .string t540] 71 (0, 0))) ∧ (w'.heap[gb543]? = some (.cells #[.string t541, .string t542] 24 (0, 0))) ∧ (w'.heap[s_]? = some (.cells #[.string (⟨#[]⟩ : ByteArray), .string (⟨#[]⟩ : ByteArray)] 24 (0, 0))) ∧ (w.heap.size ≤ s_) ∧ (w.heap.size ≤ s_) ∧ (gb521 ≠ s_) ∧ (s_ ≠ gb521) ∧ (gb522 ≠ s_) ∧ (s_ ≠ gb522) ∧ (gb523 ≠ s_) ∧ (s_ ≠ gb523) ∧ (gb528 ≠ s_) ∧ (s_ ≠ gb528) ∧ (gb543 ≠ s_) ∧ (s_ ≠ gb543) ∧ (Below w.heap.size w w')) ?_ ?_
    rotate_left
    ·intro hCont
     refine two_ (i := 0) (j := 8) (Ni := some 35) (Nj := some 9) #[true, true, true, false, false, false, false, false, false, false, false] #[false, true, true, false, false, false, false, false, true, false, false] rfl rfl rfl rfl (two_of HT_.out (by kernel_rfl)) (by decide) (by decide) (fun K hK => ?_) (fun K hK => ?_)
     ·skip
      refine goes_ Tryz.func41 (by kernel_rfl) rfl #[.string (⟨#[49]⟩ : ByteArray), .string (⟨#[49]⟩ : ByteArray)] (by rfl) rfl rfl mp_ ?_
      with_reducible refine (convergent_over.calls k1 (⟨#[49]⟩ : ByteArray) (⟨#[49]⟩ : ByteArray) t544 t545 _ ?side1 A37.out).mono ?_
      (case side1 => exact gw_ HG)
      rintro e w68 ⟨rfl, hb⟩
      refine ⟨_, rfl, ?_⟩
      have n0_ := kb_ BK521 hb
      have n1_ := kb_ BK522 hb
      have n2_ := kb_ BK523 hb
      have n3_ := kb_ BK528 hb
      have n4_ := kb_ BK543 hb
      have n5_ := bs_ hb
      clear BK521
      clear BK522
      clear BK523
      clear BK528
      clear BK543
      clear HB
      have BK521 := n0_
      have BK522 := n1_
      have BK523 := n2_
      have BK528 := n3_
      have BK543 := n4_
      have HB := n5_
      clear n0_ n1_ n2_ n3_ n4_ n5_
      (try clear hb); (try clear hb2); (try clear hk); (try clear hi)
      refine hK.out _ _ ⟨(blk_cell BK521.out 0).trans rfl, (blk_cell BK521.out 1).trans rfl, (blk_cell BK543.out 0).trans rfl, (blk_cell BK543.out 1).trans rfl⟩ (fun hHeld => ?_)
      clear hK K
      refine norm_ (a' := ?_) ?_ ?_
      rotate_left
      ·show Act.put _ (some 35) _ = _
       simp only [Act.put, List.setIfInBounds_toArray, List.set_cons_zero, List.set_cons_succ, i64_w, i32_w]
       rfl
      refine two_ (i := 3) (j := 8) (Ni := some 38) (Nj := some 9) #[true, true, true, true, false, false, false, false, false, false, false] #[true, true, true, false, false, false, false, false, true, false, false] rfl rfl rfl rfl (two_of HT_.out (by kernel_rfl)) (by decide) (by decide) (fun K hK => ?_) (fun K hK => ?_)
      ·skip
       refine goes_ Tryz.func90 (by kernel_rfl) rfl #[.agg #[.string x522000_1, .string x522001_1], .agg #[.string t541, .string t542]] (by rfl) rfl rfl mp_ ?_
       with_reducible refine (fraction_Sub.calls k1 x522000_1 x522001_1 t541 t542 t546 t547 _ ?side1 A38.out).mono ?_
       (case side1 => exact gw_ HG)
       rintro e w69 ⟨rfl, hb⟩
       refine ⟨_, rfl, ?_⟩
       have n0_ := kb_ BK521 hb
       have n1_ := kb_ BK522 hb
       have n2_ := kb_ BK523 hb
       have n3_ := kb_ BK528 hb
       have n4_ := kb_ BK543 hb
       have n5_ := bs_ hb
       clear BK521
       clear BK522
       clear BK523
       clear BK528
       clear BK543
       clear HB
       have BK521 := n0_
       have BK522 := n1_
       have BK523 := n2_
       have BK528 := n3_
       have BK543 := n4_
       have HB := n5_
       clear n0_ n1_ n2_ n3_ n4_ n5_
       (try clear hb); (try clear hb2); (try clear hk); (try clear hi)
       refine hK.out _ _ ⟨(blk_cell BK521.out 0).trans rfl, (blk_cell BK521.out 1).trans rfl, (blk_cell BK543.out 0).trans rfl, (blk_cell BK543.out 1).trans rfl⟩ (fun hHeld => ?_)
       clear hK K
       refine norm_ (a' := ?_) ?_ ?_
       rotate_left
       ·show Act.put _ (some 38) _ = _
        simp only [Act.put, List.setIfInBounds_toArray, List.set_cons_zero, List.set_cons_succ, i64_w, i32_w]
        rfl
       refine two_ (i := 4) (j := 8) (Ni := some 39) (Nj := some 9) #[true, true, true, true, true, false, false, false, false, false, false] #[true, true, true, true, false, false, false, false, true, false, false] rfl rfl rfl rfl (two_of HT_.out (by kernel_rfl)) (by decide) (by decide) (fun K hK => ?_) (fun K hK => ?_)
       ·skip
        refine goes_ Tryz.func109 (by kernel_rfl) rfl #[.agg #[.string t544, .string t545], .agg #[.string t546, .string t547]] (by rfl) rfl rfl mp_ ?_
        with_reducible refine (fraction_Div.calls k1 t544 t545 t546 t547 t548 t549 t550 _ ?side1 A39.out).mono ?_
        (case side1 => exact gw_ HG)
        rintro e w70 ⟨rfl, hb⟩
        refine ⟨_, rfl, ?_⟩
        have n0_ := kb_ BK521 hb
        have n1_ := kb_ BK522 hb
        have n2_ := kb_ BK523 hb
        have n3_ := kb_ BK528 hb
        have n4_ := kb_ BK543 hb
        have n5_ := bs_ hb
        clear BK521
        clear BK522
        clear BK523
        clear BK528
        clear BK543
        clear HB
        have BK521 := n0_
        have BK522 := n1_
        have BK523 := n2_
        have BK528 := n3_
        have BK543 := n4_
        have HB := n5_
        clear n0_ n1_ n2_ n3_ n4_ n5_
        (try clear hb); (try clear hb2); (try clear hk); (try clear hi)
        refine hK.out _ _ ⟨(blk_cell BK521.out 0).trans rfl, (blk_cell BK521.out 1).trans rfl, (blk_cell BK543.out 0).trans rfl, (blk_cell BK543.out 1).trans rfl⟩ (fun hHeld => ?_)
        clear hK K
        refine norm_ (a' := ?_) ?_ ?_
        rotate_left
        ·show Act.put _ (some 39) _ = _
         simp only [Act.put, List.setIfInBounds_toArray, List.set_cons_zero, List.set_cons_succ, i64_w, i32_w]
         rfl
        refine pure_ (i := 5) (N := some 34) (v := ?_) (a' := ?_) #[true, true, true, true, true, true, false, false, false, false, false] rfl rfl (any_of HT_.out (by kernel_rfl)) (fun _ _ _ h => h) (Or.inl ⟨by rfl, ?_⟩) ?_ ?_
        rotate_left
        ·intro w'
         go_simp
         with_reducible rfl
        rotate_left
        ·simp only [Act.put, List.setIfInBounds_toArray, List.set_cons_zero, List.set_cons_succ, i64_w, i32_w]
         rfl
        refine pure_ (i := 6) (N := some 40) (v := ?_) (a' := ?_) #[true, true, true, true, true, true, true, false, false, false, false] rfl rfl (any_of HT_.out (by kernel_rfl)) (fun _ _ _ h => h) (Or.inl ⟨by rfl, ?_⟩) ?_ ?_
        rotate_left
        ·intro w'
         go_simp
         with_reducible rfl
        rotate_left
        ·simp only [Act.put, List.setIfInBounds_toArray, List.set_cons_zero, List.set_cons_succ, i64_w, i32_w]
         rfl
        refine pure_ (i := 7) (N := some 41) (v := ?_) (a' := ?_) #[true, true, true, true, true, true, true, true, false, false, false] rfl rfl (any_of HT_.out (by kernel_rfl)) (fun _ _ _ h => h) (Or.inl ⟨by rfl, ?_⟩) ?_ ?_
        rotate_left
        ·intro w'
         go_simp
         with_reducible rfl
        rotate_left
        ·simp only [Act.put, List.setIfInBounds_toArray, List.set_cons_zero, List.set_cons_succ, i64_w, i32_w]
         rfl
        refine one_ (i := 8) (N := some 9) #[true, true, true, true, true, true, true, true, true, false, false] rfl rfl (one_of HT_.out (by kernel_rfl)) (by decide) (fun K hK => ?_)
        refine box_step ?hg (N := 9) ?hd (cs := #[.string (⟨#[]⟩ : ByteArray), .string (⟨#[]⟩ : ByteArray)]) (t := 24) ?hr ?_; (case hd => rfl); (case hg => rfl); (case hr => first | (go_simp; done) | (go_simp; rfl))
        intro gb551 hg w71 hbox hb
        have n0_ := kb_ BK521 hb
        have n1_ := kb_ BK522 hb
        have n2_ := kb_ BK523 hb
        have n3_ := kb_ BK528 hb
        have n4_ := kb_ BK543 hb
        have n5_ := bs_ hb
        have n6_ := Aside0.mk (hbox)
        have n7_ := ge_ (w := w) hg
        have n8_ := ge_ (w := w) hg
        have n9_ := nl_ hg BK521
        have n10_ := ng_ hg BK521
        have n11_ := nl_ hg BK522
        have n12_ := ng_ hg BK522
        have n13_ := nl_ hg BK523
        have n14_ := ng_ hg BK523
        have n15_ := nl_ hg BK528
        have n16_ := ng_ hg BK528
        have n17_ := nl_ hg BK543
        have n18_ := ng_ hg BK543
        clear BK521
        clear BK522
        clear BK523
        clear BK528
        clear BK543
        clear HB
        have BK521 := n0_
        have BK522 := n1_
        have BK523 := n2_
        have BK528 := n3_
        have BK543 := n4_
        have HB := n5_
        have BK551 := n6_
        have GW551 := n7_
        have GE551 := n8_
        have NB521_551 := n9_
        have NB551_521 := n10_
        have NB522_551 := n11_
        have NB551_522 := n12_
        have NB523_551 := n13_
        have NB551_523 := n14_
        have NB528_551 := n15_
        have NB551_528 := n16_
        have NB543_551 := n17_
        have NB551_543 := n18_
        clear n0_ n1_ n2_ n3_ n4_ n5_ n6_ n7_ n8_ n9_ n10_ n11_ n12_ n13_ n14_ n15_ n16_ n17_ n18_
        clear hb hbox hg
        refine hK.out _ _ ⟨(blk_cell BK521.out 0).trans rfl, (blk_cell BK521.out 1).trans rfl, (blk_cell BK543.out 0).trans rfl, (blk_cell BK543.out 1).trans rfl⟩ (fun hHeld => ?_)
        clear hK K
        refine norm_ (a' := ?_) ?_ ?_
        rotate_left
        ·show Act.put _ (some 9) _ = _
         simp only [Act.put, List.setIfInBounds_toArray, List.set_cons_zero, List.set_cons_succ, i64_w, i32_w]
         rfl
        exact norm_ (by simp only [putAll, Act.put, List.setIfInBounds_toArray, List.set_cons_zero, List.set_cons_succ]) (hCont (gb551) _ ⟨hHeld, bk_, bk_, bk_, bk_, bk_, bk_, GW551.out, GE551.out, NB521_551.out, NB551_521.out, NB522_551.out, NB551_522.out, NB523_551.out, NB551_523.out, NB528_551.out, NB551_528.out, NB543_551.out, NB551_543.out, bl_⟩)
       ·skip
        refine box_step ?hg (N := 9) ?hd (cs := #[.string (⟨#[]⟩ : ByteArray), .string (⟨#[]⟩ : ByteArray)]) (t := 24) ?hr ?_; (case hd => rfl); (case hg => rfl); (case hr => first | (go_simp; done) | (go_simp; rfl))
        intro gb551 hg w70 hbox hb
        have n0_ := kb_ BK521 hb
        have n1_ := kb_ BK522 hb
        have n2_ := kb_ BK523 hb
        have n3_ := kb_ BK528 hb
        have n4_ := kb_ BK543 hb
        have n5_ := bs_ hb
        have n6_ := Aside0.mk (hbox)
        have n7_ := ge_ (w := w) hg
        have n8_ := ge_ (w := w) hg
        have n9_ := nl_ hg BK521
        have n10_ := ng_ hg BK521
        have n11_ := nl_ hg BK522
        have n12_ := ng_ hg BK522
        have n13_ := nl_ hg BK523
        have n14_ := ng_ hg BK523
        have n15_ := nl_ hg BK528
        have n16_ := ng_ hg BK528
        have n17_ := nl_ hg BK543
        have n18_ := ng_ hg BK543
        clear BK521
        clear BK522
        clear BK523
        clear BK528
        clear BK543
        clear HB
        have BK521 := n0_
        have BK522 := n1_
        have BK523 := n2_
        have BK528 := n3_
        have BK543 := n4_
        have HB := n5_
        have BK551 := n6_
        have GW551 := n7_
        have GE551 := n8_
        have NB521_551 := n9_
        have NB551_521 := n10_
        have NB522_551 := n11_
        have NB551_522 := n12_
        have NB523_551 := n13_
        have NB551_523 := n14_
        have NB528_551 := n15_
        have NB551_528 := n16_
        have NB543_551 := n17_
        have NB551_543 := n18_
        clear n0_ n1_ n2_ n3_ n4_ n5_ n6_ n7_ n8_ n9_ n10_ n11_ n12_ n13_ n14_ n15_ n16_ n17_ n18_
        clear hb hbox hg
        refine hK.out _ _ ⟨(blk_cell BK521.out 0).trans rfl, (blk_cell BK521.out 1).trans rfl, (blk_cell BK543.out 0).trans rfl, (blk_cell BK543.out 1).trans rfl⟩ (fun hHeld => ?_)
        clear hK K
        refine norm_ (a' := ?_) ?_ ?_
        rotate_left
        ·show Act.put _ (some 9) _ = _
         simp only [Act.put, List.setIfInBounds_toArray, List.set_cons_zero, List.set_cons_succ, i64_w, i32_w]
         rfl
        refine one_ (i := 4) (N := some 39) #[true, true, true, true, true, false, false, false, true, false, false] rfl rfl (one_of HT_.out (by kernel_rfl)) (by decide) (fun K hK => ?_)
        refine goes_ Tryz.func109 (by kernel_rfl) rfl #[.agg #[.string t544, .string t545], .agg #[.string t546, .string t547]] (by rfl) rfl rfl mp_ ?_
        with_reducible refine (fraction_Div.calls k1 t544 t545 t546 t547 t548 t549 t550 _ ?side1 A39.out).mono ?_
        (case side1 => exact gw_ HG)
        rintro e w71 ⟨rfl, hb⟩
        refine ⟨_, rfl, ?_⟩
        have n0_ := kb_ BK521 hb
        have n1_ := kb_ BK522 hb
        have n2_ := kb_ BK523 hb
        have n3_ := kb_ BK528 hb
        have n4_ := kb_ BK543 hb
        have n5_ := kb_ BK551 hb
        have n6_ := bs_ hb
        clear BK521
        clear BK522
        clear BK523
        clear BK528
        clear BK543
        clear BK551
        clear HB
        have BK521 := n0_
        have BK522 := n1_
        have BK523 := n2_
        have BK528 := n3_
        have BK543 := n4_
        have BK551 := n5_
        have HB := n6_
        clear n0_ n1_ n2_ n3_ n4_ n5_ n6_
        (try clear hb); (try clear hb2); (try clear hk); (try clear hi)
        refine hK.out _ _ ⟨(blk_cell BK521.out 0).trans rfl, (blk_cell BK521.out 1).trans rfl, (blk_cell BK543.out 0).trans rfl, (blk_cell BK543.out 1).trans rfl⟩ (fun hHeld => ?_)
        clear hK K
        refine norm_ (a' := ?_) ?_ ?_
        rotate_left
        ·show Act.put _ (some 39) _ = _
         simp only [Act.put, List.setIfInBounds_toArray, List.set_cons_zero, List.set_cons_succ, i64_w, i32_w]
         rfl
        refine pure_ (i := 5) (N := some 34) (v := ?_) (a' := ?_) #[true, true, true, true, true, true, false, false, true, false, false] rfl rfl (any_of HT_.out (by kernel_rfl)) (fun _ _ _ h => h) (Or.inl ⟨by rfl, ?_⟩) ?_ ?_
        rotate_left
        ·intro w'
         go_simp
         with_reducible rfl
        rotate_left
        ·simp only [Act.put, List.setIfInBounds_toArray, List.set_cons_zero, List.set_cons_succ, i64_w, i32_w]
         rfl
        refine pure_ (i := 6) (N := some 40) (v := ?_) (a' := ?_) #[true, true, true, true, true, true, true, false, true, false, false] rfl rfl (any_of HT_.out (by kernel_rfl)) (fun _ _ _ h => h) (Or.inl ⟨by rfl, ?_⟩) ?_ ?_
        rotate_left
        ·intro w'
         go_simp
         with_reducible rfl
        rotate_left
        ·simp only [Act.put, List.setIfInBounds_toArray, List.set_cons_zero, List.set_cons_succ, i64_w, i32_w]
         rfl
        refine pure_ (i := 7) (N := some 41) (v := ?_) (a' := ?_) #[true, true, true, true, true, true, true, true, true, false, false] rfl rfl (any_of HT_.out (by kernel_rfl)) (fun _ _ _ h => h) (Or.inl ⟨by rfl, ?_⟩) ?_ ?_
        rotate_left
        ·intro w'
         go_simp
         with_reducible rfl
        rotate_left
        ·simp only [Act.put, List.setIfInBounds_toArray, List.set_cons_zero, List.set_cons_succ, i64_w, i32_w]
         rfl
        exact norm_ (by simp only [putAll, Act.put, List.setIfInBounds_toArray, List.set_cons_zero, List.set_cons_succ]) (hCont (gb551) _ ⟨hHeld, bk_, bk_, bk_, bk_, bk_, bk_, GW551.out, GE551.out, NB521_551.out, NB551_521.out, NB522_551.out, NB551_522.out, NB523_551.out, NB551_523.out, NB528_551.out, NB551_528.out, NB543_551.out, NB551_543.out, bl_⟩)
      ·skip
       refine box_step ?hg (N := 9) ?hd (cs := #[.string (⟨#[]⟩ : ByteArray), .string (⟨#[]⟩ : ByteArray)]) (t := 24) ?hr ?_; (case hd => rfl); (case hg => rfl); (case hr => first | (go_simp; done) | (go_simp; rfl))
       intro gb551 hg w69 hbox hb
       have n0_ := kb_ BK521 hb
       have n1_ := kb_ BK522 hb
       have n2_ := kb_ BK523 hb
       have n3_ := kb_ BK528 hb
       have n4_ := kb_ BK543 hb
       have n5_ := bs_ hb
       have n6_ := Aside0.mk (hbox)
       have n7_ := ge_ (w := w) hg
       have n8_ := ge_ (w := w) hg
       have n9_ := nl_ hg BK521
       have n10_ := ng_ hg BK521
       have n11_ := nl_ hg BK522
       have n12_ := ng_ hg BK522
       have n13_ := nl_ hg BK523
       have n14_ := ng_ hg BK523
       have n15_ := nl_ hg BK528
       have n16_ := ng_ hg BK528
       have n17_ := nl_ hg BK543
       have n18_ := ng_ hg BK543
       clear BK521
       clear BK522
       clear BK523
       clear BK528
       clear BK543
       clear HB
       have BK521 := n0_
       have BK522 := n1_
       have BK523 := n2_
       have BK528 := n3_
       have BK543 := n4_
       have HB := n5_
       have BK551 := n6_
       have GW551 := n7_
       have GE551 := n8_
       have NB521_551 := n9_
       have NB551_521 := n10_
       have NB522_551 := n11_
       have NB551_522 := n12_
       have NB523_551 := n13_
       have NB551_523 := n14_
       have NB528_551 := n15_
       have NB551_528 := n16_
       have NB543_551 := n17_
       have NB551_543 := n18_
       clear n0_ n1_ n2_ n3_ n4_ n5_ n6_ n7_ n8_ n9_ n10_ n11_ n12_ n13_ n14_ n15_ n16_ n17_ n18_
       clear hb hbox hg
       refine hK.out _ _ ⟨(blk_cell BK521.out 0).trans rfl, (blk_cell BK521.out 1).trans rfl, (blk_cell BK543.out 0).trans rfl, (blk_cell BK543.out 1).trans rfl⟩ (fun hHeld => ?_)
       clear hK K
       refine norm_ (a' := ?_) ?_ ?_
       rotate_left
       ·show Act.put _ (some 9) _ = _
        simp only [Act.put, List.setIfInBounds_toArray, List.set_cons_zero, List.set_cons_succ, i64_w, i32_w]
        rfl
       refine one_ (i := 3) (N := some 38) #[true, true, true, true, false, false, false, false, true, false, false] rfl rfl (one_of HT_.out (by kernel_rfl)) (by decide) (fun K hK => ?_)
       refine goes_ Tryz.func90 (by kernel_rfl) rfl #[.agg #[.string x522000_1, .string x522001_1], .agg #[.string t541, .string t542]] (by rfl) rfl rfl mp_ ?_
       with_reducible refine (fraction_Sub.calls k1 x522000_1 x522001_1 t541 t542 t546 t547 _ ?side1 A38.out).mono ?_
       (case side1 => exact gw_ HG)
       rintro e w70 ⟨rfl, hb⟩
       refine ⟨_, rfl, ?_⟩
       have n0_ := kb_ BK521 hb
       have n1_ := kb_ BK522 hb
       have n2_ := kb_ BK523 hb
       have n3_ := kb_ BK528 hb
       have n4_ := kb_ BK543 hb
       have n5_ := kb_ BK551 hb
       have n6_ := bs_ hb
       clear BK521
       clear BK522
       clear BK523
       clear BK528
       clear BK543
       clear BK551
       clear HB
       have BK521 := n0_
       have BK522 := n1_
       have BK523 := n2_
       have BK528 := n3_
       have BK543 := n4_
       have BK551 := n5_
       have HB := n6_
       clear n0_ n1_ n2_ n3_ n4_ n5_ n6_
       (try clear hb); (try clear hb2); (try clear hk); (try clear hi)
       refine hK.out _ _ ⟨(blk_cell BK521.out 0).trans rfl, (blk_cell BK521.out 1).trans rfl, (blk_cell BK543.out 0).trans rfl, (blk_cell BK543.out 1).trans rfl⟩ (fun hHeld => ?_)
       clear hK K
       refine norm_ (a' := ?_) ?_ ?_
       rotate_left
       ·show Act.put _ (some 38) _ = _
        simp only [Act.put, List.setIfInBounds_toArray, List.set_cons_zero, List.set_cons_succ, i64_w, i32_w]
        rfl
       refine one_ (i := 4) (N := some 39) #[true, true, true, true, true, false, false, false, true, false, false] rfl rfl (one_of HT_.out (by kernel_rfl)) (by decide) (fun K hK => ?_)
       refine goes_ Tryz.func109 (by kernel_rfl) rfl #[.agg #[.string t544, .string t545], .agg #[.string t546, .string t547]] (by rfl) rfl rfl mp_ ?_
       with_reducible refine (fraction_Div.calls k1 t544 t545 t546 t547 t548 t549 t550 _ ?side1 A39.out).mono ?_
       (case side1 => exact gw_ HG)
       rintro e w71 ⟨rfl, hb⟩
       refine ⟨_, rfl, ?_⟩
       have n0_ := kb_ BK521 hb
       have n1_ := kb_ BK522 hb
       have n2_ := kb_ BK523 hb
       have n3_ := kb_ BK528 hb
       have n4_ := kb_ BK543 hb
       have n5_ := kb_ BK551 hb
       have n6_ := bs_ hb
       clear BK521
       clear BK522
       clear BK523
       clear BK528
       clear BK543
       clear BK551
       clear HB
       have BK521 := n0_
       have BK522 := n1_
       have BK523 := n2_
       have BK528 := n3_
       have BK543 := n4_
       have BK551 := n5_
       have HB := n6_
       clear n0_ n1_ n2_ n3_ n4_ n5_ n6_
       (try clear hb); (try clear hb2); (try clear hk); (try clear hi)
       refine hK.out _ _ ⟨(blk_cell BK521.out 0).trans rfl, (blk_cell BK521.out 1).trans rfl, (blk_cell BK543.out 0).trans rfl, (blk_cell BK543.out 1).trans rfl⟩ (fun hHeld => ?_)
       clear hK K
       refine norm_ (a' := ?_) ?_ ?_
       rotate_left
       ·show Act.put _ (some 39) _ = _
        simp only [Act.put, List.setIfInBounds_toArray, List.set_cons_zero, List.set_cons_succ, i64_w, i32_w]
        rfl
       refine pure_ (i := 5) (N := some 34) (v := ?_) (a' := ?_) #[true, true, true, true, true, true, false, false, true, false, false] rfl rfl (any_of HT_.out (by kernel_rfl)) (fun _ _ _ h => h) (Or.inl ⟨by rfl, ?_⟩) ?_ ?_
       rotate_left
       ·intro w'
        go_simp
        with_reducible rfl
       rotate_left
       ·simp only [Act.put, List.setIfInBounds_toArray, List.set_cons_zero, List.set_cons_succ, i64_w, i32_w]
        rfl
       refine pure_ (i := 6) (N := some 40) (v := ?_) (a' := ?_) #[true, true, true, true, true, true, true, false, true, false, false] rfl rfl (any_of HT_.out (by kernel_rfl)) (fun _ _ _ h => h) (Or.inl ⟨by rfl, ?_⟩) ?_ ?_
       rotate_left
       ·intro w'
        go_simp
        with_reducible rfl
       rotate_left
       ·simp only [Act.put, List.setIfInBounds_toArray, List.set_cons_zero, List.set_cons_succ, i64_w, i32_w]
        rfl
       refine pure_ (i := 7) (N := some 41) (v := ?_) (a' := ?_) #[true, true, true, true, true, true, true, true, true, false, false] rfl rfl (any_of HT_.out (by kernel_rfl)) (fun _ _ _ h => h) (Or.inl ⟨by rfl, ?_⟩) ?_ ?_
       rotate_left
       ·intro w'
        go_simp
        with_reducible rfl
       rotate_left
       ·simp only [Act.put, List.setIfInBounds_toArray, List.set_cons_zero, List.set_cons_succ, i64_w, i32_w]
        rfl
       exact norm_ (by simp only [putAll, Act.put, List.setIfInBounds_toArray, List.set_cons_zero, List.set_cons_succ]) (hCont (gb551) _ ⟨hHeld, bk_, bk_, bk_, bk_, bk_, bk_, GW551.out, GE551.out, NB521_551.out, NB551_521.out, NB522_551.out, NB551_522.out, NB523_551.out, NB551_523.out, NB528_551.out, NB551_528.out, NB543_551.out, NB551_543.out, bl_⟩)
     ·skip
      refine box_step ?hg (N := 9) ?hd (cs := #[.string (⟨#[]⟩ : ByteArray), .string (⟨#[]⟩ : ByteArray)]) (t := 24) ?hr ?_; (case hd => rfl); (case hg => rfl); (case hr => first | (go_simp; done) | (go_simp; rfl))
      intro gb551 hg w68 hbox hb
      have n0_ := kb_ BK521 hb
      have n1_ := kb_ BK522 hb
      have n2_ := kb_ BK523 hb
      have n3_ := kb_ BK528 hb
      have n4_ := kb_ BK543 hb
      have n5_ := bs_ hb
      have n6_ := Aside0.mk (hbox)
      have n7_ := ge_ (w := w) hg
      have n8_ := ge_ (w := w) hg
      have n9_ := nl_ hg BK521
      have n10_ := ng_ hg BK521
      have n11_ := nl_ hg BK522
      have n12_ := ng_ hg BK522
      have n13_ := nl_ hg BK523
      have n14_ := ng_ hg BK523
      have n15_ := nl_ hg BK528
      have n16_ := ng_ hg BK528
      have n17_ := nl_ hg BK543
      have n18_ := ng_ hg BK543
      clear BK521
      clear BK522
      clear BK523
      clear BK528
      clear BK543
      clear HB
      have BK521 := n0_
      have BK522 := n1_
      have BK523 := n2_
      have BK528 := n3_
      have BK543 := n4_
      have HB := n5_
      have BK551 := n6_
      have GW551 := n7_
      have GE551 := n8_
      have NB521_551 := n9_
      have NB551_521 := n10_
      have NB522_551 := n11_
      have NB551_522 := n12_
      have NB523_551 := n13_
      have NB551_523 := n14_
      have NB528_551 := n15_
      have NB551_528 := n16_
      have NB543_551 := n17_
      have NB551_543 := n18_
      clear n0_ n1_ n2_ n3_ n4_ n5_ n6_ n7_ n8_ n9_ n10_ n11_ n12_ n13_ n14_ n15_ n16_ n17_ n18_
      clear hb hbox hg
      refine hK.out _ _ ⟨(blk_cell BK521.out 0).trans rfl, (blk_cell BK521.out 1).trans rfl, (blk_cell BK543.out 0).trans rfl, (blk_cell BK543.out 1).trans rfl⟩ (fun hHeld => ?_)
      clear hK K
      refine norm_ (a' := ?_) ?_ ?_
      rotate_left
      ·show Act.put _ (some 9) _ = _
       simp only [Act.put, List.setIfInBounds_toArray, List.set_cons_zero, List.set_cons_succ, i64_w, i32_w]
       rfl
      refine one_ (i := 0) (N := some 35) #[true, true, true, false, false, false, false, false, true, false, false] rfl rfl (one_of HT_.out (by kernel_rfl)) (by decide) (fun K hK => ?_)
      refine goes_ Tryz.func41 (by kernel_rfl) rfl #[.string (⟨#[49]⟩ : ByteArray), .string (⟨#[49]⟩ : ByteArray)] (by rfl) rfl rfl mp_ ?_
      with_reducible refine (convergent_over.calls k1 (⟨#[49]⟩ : ByteArray) (⟨#[49]⟩ : ByteArray) t544 t545 _ ?side1 A37.out).mono ?_
      (case side1 => exact gw_ HG)
      rintro e w69 ⟨rfl, hb⟩
      refine ⟨_, rfl, ?_⟩
      have n0_ := kb_ BK521 hb
      have n1_ := kb_ BK522 hb
      have n2_ := kb_ BK523 hb
      have n3_ := kb_ BK528 hb
      have n4_ := kb_ BK543 hb
      have n5_ := kb_ BK551 hb
      have n6_ := bs_ hb
      clear BK521
      clear BK522
      clear BK523
      clear BK528
      clear BK543
      clear BK551
      clear HB
      have BK521 := n0_
      have BK522 := n1_
      have BK523 := n2_
      have BK528 := n3_
      have BK543 := n4_
      have BK551 := n5_
      have HB := n6_
      clear n0_ n1_ n2_ n3_ n4_ n5_ n6_
      (try clear hb); (try clear hb2); (try clear hk); (try clear hi)
      refine hK.out _ _ ⟨(blk_cell BK521.out 0).trans rfl, (blk_cell BK521.out 1).trans rfl, (blk_cell BK543.out 0).trans rfl, (blk_cell BK543.out 1).trans rfl⟩ (fun hHeld => ?_)
      clear hK K
      refine norm_ (a' := ?_) ?_ ?_
      rotate_left
      ·show Act.put _ (some 35) _ = _
       simp only [Act.put, List.setIfInBounds_toArray, List.set_cons_zero, List.set_cons_succ, i64_w, i32_w]
       rfl
      refine one_ (i := 3) (N := some 38) #[true, true, true, true, false, false, false, false, true, false, false] rfl rfl (one_of HT_.out (by kernel_rfl)) (by decide) (fun K hK => ?_)
      refine goes_ Tryz.func90 (by kernel_rfl) rfl #[.agg #[.string x522000_1, .string x522001_1], .agg #[.string t541, .string t542]] (by rfl) rfl rfl mp_ ?_
      with_reducible refine (fraction_Sub.calls k1 x522000_1 x522001_1 t541 t542 t546 t547 _ ?side1 A38.out).mono ?_
      (case side1 => exact gw_ HG)
      rintro e w70 ⟨rfl, hb⟩
      refine ⟨_, rfl, ?_⟩
      have n0_ := kb_ BK521 hb
      have n1_ := kb_ BK522 hb
      have n2_ := kb_ BK523 hb
      have n3_ := kb_ BK528 hb
      have n4_ := kb_ BK543 hb
      have n5_ := kb_ BK551 hb
      have n6_ := bs_ hb
      clear BK521
      clear BK522
      clear BK523
      clear BK528
      clear BK543
      clear BK551
      clear HB
      have BK521 := n0_
      have BK522 := n1_
      have BK523 := n2_
      have BK528 := n3_
      have BK543 := n4_
      have BK551 := n5_
      have HB := n6_
      clear n0_ n1_ n2_ n3_ n4_ n5_ n6_
      (try clear hb); (try clear hb2); (try clear hk); (try clear hi)
      refine hK.out _ _ ⟨(blk_cell BK521.out 0).trans rfl, (blk_cell BK521.out 1).trans rfl, (blk_cell BK543.out 0).trans rfl, (blk_cell BK543.out 1).trans rfl⟩ (fun hHeld => ?_)
      clear hK K
      refine norm_ (a' := ?_) ?_ ?_
      rotate_left
      ·show Act.put _ (some 38) _ = _
       simp only [Act.put, List.setIfInBounds_toArray, List.set_cons_zero, List.set_cons_succ, i64_w, i32_w]
       rfl
      refine one_ (i := 4) (N := some 39) #[true, true, true, true, true, false, false, false, true, false, false] rfl rfl (one_of HT_.out (by kernel_rfl)) (by decide) (fun K hK => ?_)
      refine goes_ Tryz.func109 (by kernel_rfl) rfl #[.agg #[.string t544, .string t545], .agg #[.string t546, .string t547]] (by rfl) rfl rfl mp_ ?_
      with_reducible refine (fraction_Div.calls k1 t544 t545 t546 t547 t548 t549 t550 _ ?side1 A39.out).mono ?_
      (case side1 => exact gw_ HG)
      rintro e w71 ⟨rfl, hb⟩
      refine ⟨_, rfl, ?_⟩
      have n0_ := kb_ BK521 hb
      have n1_ := kb_ BK522 hb
      have n2_ := kb_ BK523 hb
      have n3_ := kb_ BK528 hb
      have n4_ := kb_ BK543 hb
      have n5_ := kb_ BK551 hb
      have n6_ := bs_ hb
      clear BK521
      clear BK522
      clear BK523
      clear BK528
      clear BK543
      clear BK551
      clear HB
      have BK521 := n0_
      have BK522 := n1_
      have BK523 := n2_
      have BK528 := n3_
      have BK543 := n4_
      have BK551 := n5_
      have HB := n6_
      clear n0_ n1_ n2_ n3_ n4_ n5_ n6_
      (try clear hb); (try clear hb2); (try clear hk); (try clear hi)
      refine hK.out _ _ ⟨(blk_cell BK521.out 0).trans rfl, (blk_cell BK521.out 1).trans rfl, (blk_cell BK543.out 0).trans rfl, (blk_cell BK543.out 1).trans rfl⟩ (fun hHeld => ?_)
      clear hK K
      refine norm_ (a' := ?_) ?_ ?_
      rotate_left
      ·show Act.put _ (some 39) _ = _
       simp only [Act.put, List.setIfInBounds_toArray, List.set_cons_zero, List.set_cons_succ, i64_w, i32_w]
       rfl
      refine pure_ (i := 5) (N := some 34) (v := ?_) (a' := ?_) #[true, true, true, true, true, true, false, false, true, false, false] rfl rfl (any_of HT_.out (by kernel_rfl)) (fun _ _ _ h => h) (Or.inl ⟨by rfl, ?_⟩) ?_ ?_
      rotate_left
      ·intro w'
       go_simp
       with_reducible rfl
      rotate_left
      ·simp only [Act.put, List.setIfInBounds_toArray, List.set_cons_zero, List.set_cons_succ, i64_w, i32_w]
       rfl
      refine pure_ (i := 6) (N := some 40) (v := ?_) (a' := ?_) #[true, true, true, true, true, true, true, false, true, false, false] rfl rfl (any_of HT_.out (by kernel_rfl)) (fun _ _ _ h => h) (Or.inl ⟨by rfl, ?_⟩) ?_ ?_
      rotate_left
      ·intro w'
       go_simp
       with_reducible rfl
      rotate_left
      ·simp only [Act.put, List.setIfInBounds_toArray, List.set_cons_zero, List.set_cons_succ, i64_w, i32_w]
       rfl
      refine pure_ (i := 7) (N := some 41) (v := ?_) (a' := ?_) #[true, true, true, true, true, true, true, true, true, false, false] rfl rfl (any_of HT_.out (by kernel_rfl)) (fun _ _ _ h => h) (Or.inl ⟨by rfl, ?_⟩) ?_ ?_
      rotate_left
      ·intro w'
       go_simp
       with_reducible rfl
      rotate_left
      ·simp only [Act.put, List.setIfInBounds_toArray, List.set_cons_zero, List.set_cons_succ, i64_w, i32_w]
       rfl
      exact norm_ (by simp only [putAll, Act.put, List.setIfInBounds_toArray, List.set_cons_zero, List.set_cons_succ]) (hCont (gb551) _ ⟨hHeld, bk_, bk_, bk_, bk_, bk_, bk_, GW551.out, GE551.out, NB521_551.out, NB551_521.out, NB522_551.out, NB551_522.out, NB523_551.out, NB551_523.out, NB528_551.out, NB551_528.out, NB543_551.out, NB551_543.out, bl_⟩)
    rintro gb551 w72 ⟨hS_, h0_, h1_, h2_, h3_, h4_, h5_, h6_, h7_, h8_, h9_, h10_, h11_, h12_, h13_, h14_, h15_, h16_, h17_, h18_⟩
    have n0_ : Aside0 (w72.heap[gb521]? = some (.cells #[.string x522000_1, .string x522001_1] 24 (0, 0))) := ⟨h0_⟩
    have n1_ : Aside0 (w72.heap[gb522]? = some (.cells #[.string x523000_1, .string x523001_1] 24 (0, 0))) := ⟨h1_⟩
    have n2_ : Aside0 (w72.heap[gb523]? = some (.cells #[.string x524000_1, .string x524001_1] 24 (0, 0))) := ⟨h2_⟩
    have n3_ : Aside0 (w72.heap[gb528]? = some (.cells #[.string t537, .string t538, .string t539, .string t540] 71 (0, 0))) := ⟨h3_⟩
    have n4_ : Aside0 (w72.heap[gb543]? = some (.cells #[.string t541, .string t542] 24 (0, 0))) := ⟨h4_⟩
    have n5_ : Aside0 (w72.heap[gb551]? = some (.cells #[.string (⟨#[]⟩ : ByteArray), .string (⟨#[]⟩ : ByteArray)] 24 (0, 0))) := ⟨h5_⟩
    have n6_ : Aside0 (w.heap.size ≤ gb551) := ⟨h6_⟩
    have n7_ : Aside0 (w.heap.size ≤ gb551) := ⟨h7_⟩
    have n8_ : Aside0 (gb521 ≠ gb551) := ⟨h8_⟩
    have n9_ : Aside0 (gb551 ≠ gb521) := ⟨h9_⟩
    have n10_ : Aside0 (gb522 ≠ gb551) := ⟨h10_⟩
    have n11_ : Aside0 (gb551 ≠ gb522) := ⟨h11_⟩
    have n12_ : Aside0 (gb523 ≠ gb551) := ⟨h12_⟩
    have n13_ : Aside0 (gb551 ≠ gb523) := ⟨h13_⟩
    have n14_ : Aside0 (gb528 ≠ gb551) := ⟨h14_⟩
    have n15_ : Aside0 (gb551 ≠ gb528) := ⟨h15_⟩
    have n16_ : Aside0 (gb543 ≠ gb551) := ⟨h16_⟩
    have n17_ : Aside0 (gb551 ≠ gb543) := ⟨h17_⟩
    have n18_ : Aside0 (Below w.heap.size w w72) := ⟨h18_⟩
    clear BK521
    clear BK522
    clear BK523
    clear BK528
    clear BK543
    clear HB
    clear h0_ h1_ h2_ h3_ h4_ h5_ h6_ h7_ h8_ h9_ h10_ h11_ h12_ h13_ h14_ h15_ h16_ h17_ h18_
    have BK521 := n0_
    have BK522 := n1_
    have BK523 := n2_
    have BK528 := n3_
    have BK543 := n4_
    have BK551 := n5_
    have GW551 := n6_
    have GE551 := n7_
    have NB521_551 := n8_
    have NB551_521 := n9_
    have NB522_551 := n10_
    have NB551_522 := n11_
    have NB523_551 := n12_
    have NB551_523 := n13_
    have NB528_551 := n14_
    have NB551_528 := n15_
    have NB543_551 := n16_
    have NB551_543 := n17_
    have HB := n18_
    clear n0_ n1_ n2_ n3_ n4_ n5_ n6_ n7_ n8_ n9_ n10_ n11_ n12_ n13_ n14_ n15_ n16_ n17_ n18_
    have hHeld : w72.cell? ⟨gb521, 0, none⟩ = some (.string x522000_1) ∧ w72.cell? ⟨gb521, 1, none⟩ = some (.string x522001_1) ∧ w72.cell? ⟨gb543, 0, none⟩ = some (.string t541) ∧ w72.cell? ⟨gb543, 1, none⟩ = some (.string t542) := hS_
    refine norm_ (a' := ?_) ?_ ?_
    rotate_left
    ·simp only [putAll, Act.put, List.setIfInBounds_toArray, List.set_cons_zero, List.set_cons_succ]
     rfl
    refine one_ (i := 9) (N := none) #[true, true, true, true, true, true, true, true, true, true, false] rfl rfl (one_of HT_.out (by kernel_rfl)) (by decide) (fun K hK => ?_)
    have hs73 : w72.cell? ⟨gb551, 0, none⟩ = some (.string (⟨#[]⟩ : ByteArray)) := (blk_cell BK551.out 0).trans rfl
    have hfs73 := blk_frozen BK551.out 0
    have hns73_0 := NB521_551.out
    have hns73_1 := NB522_551.out
    have hns73_2 := NB523_551.out
    have hns73_3 := NB528_551.out
    have hns73_4 := NB543_551.out
    have hms73_0 := NB551_521.out
    have hms73_1 := NB551_522.out
    have hms73_2 := NB551_523.out
    have hms73_3 := NB551_528.out
    have hms73_4 := NB551_543.out
    have hs74 : w72.cell? ⟨gb551, 1, none⟩ = some (.string (⟨#[]⟩ : ByteArray)) := (blk_cell BK551.out 1).trans rfl
    have hfs74 := blk_frozen BK551.out 1
    have hns74_0 := NB521_551.out
    have hns74_1 := NB522_551.out
    have hns74_2 := NB523_551.out
    have hns74_3 := NB528_551.out
    have hns74_4 := NB543_551.out
    have hms74_0 := NB551_521.out
    have hms74_1 := NB551_522.out
    have hms74_2 := NB551_523.out
    have hms74_3 := NB551_528.out
    have hms74_4 := NB551_543.out
    refine skip_ (w1 := ?_) (by rfl) rfl ?_ ?_
    rotate_left
    ·go_simp
     rfl
    refine hK.out _ _ ⟨((cell_far (p := ⟨gb551, _, none⟩) NB521_551.out _).trans (((cell_far (p := ⟨gb551, _, none⟩) NB521_551.out _).trans (hHeld.1)))), ((cell_far (p := ⟨gb551, _, none⟩) NB521_551.out _).trans (((cell_far (p := ⟨gb551, _, none⟩) NB521_551.out _).trans (hHeld.2.1)))), ((cell_far (p := ⟨gb551, _, none⟩) NB543_551.out _).trans (((cell_far (p := ⟨gb551, _, none⟩) NB543_551.out _).trans (hHeld.2.2.1)))), ((cell_far (p := ⟨gb551, _, none⟩) NB543_551.out _).trans (((cell_far (p := ⟨gb551, _, none⟩) NB543_551.out _).trans (hHeld.2.2.2))))⟩ (fun hHeld => ?_)
    clear hK K
    refine pure_ (i := 10) (N := some 10) (v := ?_) (a' := ?_) #[true, true, true, true, true, true, true, true, true, true, true] rfl rfl (any_of HT_.out (by kernel_rfl)) (fun _ _ _ h => h) (Or.inl ⟨by rfl, ?_⟩) ?_ ?_
    rotate_left
    ·intro w'
     go_simp
     with_reducible rfl
    rotate_left
    ·simp only [Act.put, List.setIfInBounds_toArray, List.set_cons_zero, List.set_cons_succ, i64_w, i32_w]
     rfl
    refine done_ (done_of HT_.out (by kernel_rfl)) ?_
    try go_wp2
    have n0_ : Aside0 (((w72.setCell ⟨gb551, 0, none⟩ (.string t548)).setCell ⟨gb551, 1, none⟩ (.string t549)).heap[gb521]? = some (.cells #[.string x522000_1, .string x522001_1] 24 (0, 0))) := ⟨by (with_reducible repeat (first | refine blk_drewN ?_ _ | refine blk_drew ?_ | refine blk_alloc ?_ _)); refine blk_far ?_ NB521_551.out _; (with_reducible repeat (first | refine blk_drewN ?_ _ | refine blk_drew ?_ | refine blk_alloc ?_ _)); refine blk_far ?_ NB521_551.out _; (with_reducible repeat (first | refine blk_drewN ?_ _ | refine blk_drew ?_ | refine blk_alloc ?_ _)); exact BK521.out⟩
    have n1_ : Aside0 (((w72.setCell ⟨gb551, 0, none⟩ (.string t548)).setCell ⟨gb551, 1, none⟩ (.string t549)).heap[gb522]? = some (.cells #[.string x523000_1, .string x523001_1] 24 (0, 0))) := ⟨by (with_reducible repeat (first | refine blk_drewN ?_ _ | refine blk_drew ?_ | refine blk_alloc ?_ _)); refine blk_far ?_ NB522_551.out _; (with_reducible repeat (first | refine blk_drewN ?_ _ | refine blk_drew ?_ | refine blk_alloc ?_ _)); refine blk_far ?_ NB522_551.out _; (with_reducible repeat (first | refine blk_drewN ?_ _ | refine blk_drew ?_ | refine blk_alloc ?_ _)); exact BK522.out⟩
    have n2_ : Aside0 (((w72.setCell ⟨gb551, 0, none⟩ (.string t548)).setCell ⟨gb551, 1, none⟩ (.string t549)).heap[gb523]? = some (.cells #[.string x524000_1, .string x524001_1] 24 (0, 0))) := ⟨by (with_reducible repeat (first | refine blk_drewN ?_ _ | refine blk_drew ?_ | refine blk_alloc ?_ _)); refine blk_far ?_ NB523_551.out _; (with_reducible repeat (first | refine blk_drewN ?_ _ | refine blk_drew ?_ | refine blk_alloc ?_ _)); refine blk_far ?_ NB523_551.out _; (with_reducible repeat (first | refine blk_drewN ?_ _ | refine blk_drew ?_ | refine blk_alloc ?_ _)); exact BK523.out⟩
    have n3_ : Aside0 (((w72.setCell ⟨gb551, 0, none⟩ (.string t548)).setCell ⟨gb551, 1, none⟩ (.string t549)).heap[gb528]? = some (.cells #[.string t537, .string t538, .string t539, .string t540] 71 (0, 0))) := ⟨by (with_reducible repeat (first | refine blk_drewN ?_ _ | refine blk_drew ?_ | refine blk_alloc ?_ _)); refine blk_far ?_ NB528_551.out _; (with_reducible repeat (first | refine blk_drewN ?_ _ | refine blk_drew ?_ | refine blk_alloc ?_ _)); refine blk_far ?_ NB528_551.out _; (with_reducible repeat (first | refine blk_drewN ?_ _ | refine blk_drew ?_ | refine blk_alloc ?_ _)); exact BK528.out⟩
    have n4_ : Aside0 (((w72.setCell ⟨gb551, 0, none⟩ (.string t548)).setCell ⟨gb551, 1, none⟩ (.string t549)).heap[gb543]? = some (.cells #[.string t541, .string t542] 24 (0, 0))) := ⟨by (with_reducible repeat (first | refine blk_drewN ?_ _ | refine blk_drew ?_ | refine blk_alloc ?_ _)); refine blk_far ?_ NB543_551.out _; (with_reducible repeat (first | refine blk_drewN ?_ _ | refine blk_drew ?_ | refine blk_alloc ?_ _)); refine blk_far ?_ NB543_551.out _; (with_reducible repeat (first | refine blk_drewN ?_ _ | refine blk_drew ?_ | refine blk_alloc ?_ _)); exact BK543.out⟩
    have n5_ : Aside0 (((w72.setCell ⟨gb551, 0, none⟩ (.string t548)).setCell ⟨gb551, 1, none⟩ (.string t549)).heap[gb551]? = some (.cells #[.string t548, .string t549] 24 (0, 0))) := ⟨by (with_reducible repeat (first | refine blk_drewN ?_ _ | refine blk_drew ?_ | refine blk_alloc ?_ _)); refine blk_put (cs := #[.string t548, .string (⟨#[]⟩ : ByteArray)]) ?_ 1 _ rfl; (with_reducible repeat (first | refine blk_drewN ?_ _ | refine blk_drew ?_ | refine blk_alloc ?_ _)); refine blk_put (cs := #[.string (⟨#[]⟩ : ByteArray), .string (⟨#[]⟩ : ByteArray)]) ?_ 0 _ rfl; (with_reducible repeat (first | refine blk_drewN ?_ _ | refine blk_drew ?_ | refine blk_alloc ?_ _)); exact BK551.out⟩
    have n6_ : Aside0 (Below w.heap.size w ((w72.setCell ⟨gb551, 0, none⟩ (.string t548)).setCell ⟨gb551, 1, none⟩ (.string t549))) := ⟨bl_⟩
    (try clear BK521); (try clear BK522); (try clear BK523); (try clear BK528); (try clear BK543); (try clear BK551); (try clear HB)
    generalize ((w72.setCell ⟨gb551, 0, none⟩ (.string t548)).setCell ⟨gb551, 1, none⟩ (.string t549)) = w75 at n0_ n1_ n2_ n3_ n4_ n5_ n6_ ⊢
    have BK521 := n0_
    have BK522 := n1_
    have BK523 := n2_
    have BK528 := n3_
    have BK543 := n4_
    have BK551 := n5_
    have HB := n6_
    clear n0_ n1_ n2_ n3_ n4_ n5_ n6_
    have n0_ := Aside0.mk (blk_drew BK521.out)
    have n1_ := Aside0.mk (blk_drew BK522.out)
    have n2_ := Aside0.mk (blk_drew BK523.out)
    have n3_ := Aside0.mk (blk_drew BK528.out)
    have n4_ := Aside0.mk (blk_drew BK543.out)
    have n5_ := Aside0.mk (blk_drew BK551.out)
    have n6_ := Aside0.mk (below_drew1 HB.out)
    clear BK521
    clear BK522
    clear BK523
    clear BK528
    clear BK543
    clear BK551
    clear HB
    have BK521 := n0_
    have BK522 := n1_
    have BK523 := n2_
    have BK528 := n3_
    have BK543 := n4_
    have BK551 := n5_
    have HB := n6_
    clear n0_ n1_ n2_ n3_ n4_ n5_ n6_
    refine start_ (n := 11) (S := fun w' => w'.cell? ⟨gb522, 0, none⟩ = some (.string x523000_1) ∧ w'.cell? ⟨gb522, 1, none⟩ = some (.string x523001_1) ∧ w'.cell? ⟨gb543, 0, none⟩ = some (.string t541) ∧ w'.cell? ⟨gb543, 1, none⟩ = some (.string t542)) (ds := []) #[false, false, false, false, false, false, false, false, false, false, false] (by kernel_rfl) rfl rfl ⟨(blk_cell BK522.out 0).trans rfl, (blk_cell BK522.out 1).trans rfl, (blk_cell BK543.out 0).trans rfl, (blk_cell BK543.out 1).trans rfl⟩ (fun hHeld => ?_); refine with_tabW convergent_simplest.tab9 convergent_simplest.bits9 (fun HT_ HW_ => ?_)
    generalize w75.drew = w76 at BK521 BK522 BK523 BK528 BK543 BK551 HB hHeld ⊢
    refine take_ (i := 1) (N := some 44) (v := ?_) (a' := ?_) #[false, true, false, false, false, false, false, false, false, false, false] rfl rfl (take_ofW HT_.out HW_.out (by kernel_rfl)) (fun _ _ _ h => h) (Or.inl ⟨by rfl, ?_⟩) hHeld ?_ ?_
    rotate_left
    ·rintro w' ⟨s0, s1, s2, s3⟩
     go_simp
     with_reducible rfl
    rotate_left
    ·simp only [Act.put, List.setIfInBounds_toArray, List.set_cons_zero, List.set_cons_succ, i64_w, i32_w]
     rfl
    refine take_ (i := 2) (N := some 45) (v := ?_) (a' := ?_) #[false, true, true, false, false, false, false, false, false, false, false] rfl rfl (take_ofW HT_.out HW_.out (by kernel_rfl)) (fun _ _ _ h => h) (Or.inl ⟨by rfl, ?_⟩) hHeld ?_ ?_
    rotate_left
    ·rintro w' ⟨s0, s1, s2, s3⟩
     go_simp
     with_reducible rfl
    rotate_left
    ·simp only [Act.put, List.setIfInBounds_toArray, List.set_cons_zero, List.set_cons_succ, i64_w, i32_w]
     rfl
    refine join_ (σ := Nat) 2 #[true, true, true, true, true, true, true, true, true, false, false] (fun s_ => [(43, .agg #[.string t552, .string t553]), (46, .agg #[.string t554, .string t555]), (47, .tuple #[.agg #[.string t556, .string t557], .int .i64 t558]), (11, .pointer (some ⟨s_, 0, none⟩)), (42, .tuple #[.agg #[.string t556, .string t557], .int .i64 t558]), (48, .agg #[.string t556, .string t557]), (49, .int .i64 t558)]) (fun s_ w' => (w'.cell? ⟨gb522, 0, none⟩ = some (.string x523000_1) ∧ w'.cell? ⟨gb522, 1, none⟩ = some (.string x523001_1) ∧ w'.cell? ⟨gb543, 0, none⟩ = some (.string t541) ∧ w'.cell? ⟨gb543, 1, none⟩ = some (.string t542)) ∧ (w'.heap[gb521]? = some (.cells #[.string x522000_1, .string x522001_1] 24 (0, 0))) ∧ (w'.heap[gb522]? = some (.cells #[.string x523000_1, .string x523001_1] 24 (0, 0))) ∧ (w'.heap[gb523]? = some (.cells #[.string x524000_1, .string x524001_1] 24 (0, 0))) ∧ (w'.heap[gb528]? = some (.cells #[.string t537, .string t538, .string t539, .string t540] 71 (0, 0))) ∧ (w'.heap[gb543]? = some (.cells #[.string t541, .string t542] 24 (0, 0))) ∧ (w'.heap[gb551]? = some (.cells #[.string t548, .string t549] 24 (0, 0))) ∧ (w'.heap[s_]? = some (.cells #[.string (⟨#[]⟩ : ByteArray), .string (⟨#[]⟩ : ByteArray)] 24 (0, 0))) ∧ (w.heap.size ≤ s_) ∧ (w.heap.size ≤ s_) ∧ (gb521 ≠ s_) ∧ (s_ ≠ gb521) ∧ (gb522 ≠ s_) ∧ (s_ ≠ gb522) ∧ (gb523 ≠ s_) ∧ (s_ ≠ gb523) ∧ (gb528 ≠ s_) ∧ (s_ ≠ gb528) ∧ (gb543 ≠ s_) ∧ (s_ ≠ gb543) ∧ (gb551 ≠ s_) ∧ (s_ ≠ gb551) ∧ (Below w.heap.size w w')) ?_ ?_
    rotate_left
    ·intro hCont
     refine two_ (i := 0) (j := 8) (Ni := some 43) (Nj := some 11) #[true, true, true, false, false, false, false, false, false, false, false] #[false, true, true, false, false, false, false, false, true, false, false] rfl rfl rfl rfl (two_of HT_.out (by kernel_rfl)) (by decide) (by decide) (fun K hK => ?_) (fun K hK => ?_)
     ·skip
      refine goes_ Tryz.func41 (by kernel_rfl) rfl #[.string (⟨#[49]⟩ : ByteArray), .string (⟨#[49]⟩ : ByteArray)] (by rfl) rfl rfl mp_ ?_
      with_reducible refine (convergent_over.calls k1 (⟨#[49]⟩ : ByteArray) (⟨#[49]⟩ : ByteArray) t552 t553 _ ?side1 A40.out).mono ?_
      (case side1 => exact gw_ HG)
      rintro e w77 ⟨rfl, hb⟩
      refine ⟨_, rfl, ?_⟩
      have n0_ := kb_ BK521 hb
      have n1_ := kb_ BK522 hb
      have n2_ := kb_ BK523 hb
      have n3_ := kb_ BK528 hb
      have n4_ := kb_ BK543 hb
      have n5_ := kb_ BK551 hb
      have n6_ := bs_ hb
      clear BK521
      clear BK522
      clear BK523
      clear BK528
      clear BK543
      clear BK551
      clear HB
      have BK521 := n0_
      have BK522 := n1_
      have BK523 := n2_
      have BK528 := n3_
      have BK543 := n4_
      have BK551 := n5_
      have HB := n6_
      clear n0_ n1_ n2_ n3_ n4_ n5_ n6_
      (try clear hb); (try clear hb2); (try clear hk); (try clear hi)
      refine hK.out _ _ ⟨(blk_cell BK522.out 0).trans rfl, (blk_cell BK522.out 1).trans rfl, (blk_cell BK543.out 0).trans rfl, (blk_cell BK543.out 1).trans rfl⟩ (fun hHeld => ?_)
      clear hK K
      refine norm_ (a' := ?_) ?_ ?_
      rotate_left
      ·show Act.put _ (some 43) _ = _
       simp only [Act.put, List.setIfInBounds_toArray, List.set_cons_zero, List.set_cons_succ, i64_w, i32_w]
       rfl
      refine two_ (i := 3) (j := 8) (Ni := some 46) (Nj := some 11) #[true, true, true, true, false, false, false, false, false, false, false] #[true, true, true, false, false, false, false, false, true, false, false] rfl rfl rfl rfl (two_of HT_.out (by kernel_rfl)) (by decide) (by decide) (fun K hK => ?_) (fun K hK => ?_)
      ·skip
       refine goes_ Tryz.func90 (by kernel_rfl) rfl #[.agg #[.string x523000_1, .string x523001_1], .agg #[.string t541, .string t542]] (by rfl) rfl rfl mp_ ?_
       with_reducible refine (fraction_Sub.calls k1 x523000_1 x523001_1 t541 t542 t554 t555 _ ?side1 A41.out).mono ?_
       (case side1 => exact gw_ HG)
       rintro e w78 ⟨rfl, hb⟩
       refine ⟨_, rfl, ?_⟩
       have n0_ := kb_ BK521 hb
       have n1_ := kb_ BK522 hb
       have n2_ := kb_ BK523 hb
       have n3_ := kb_ BK528 hb
       have n4_ := kb_ BK543 hb
       have n5_ := kb_ BK551 hb
       have n6_ := bs_ hb
       clear BK521
       clear BK522
       clear BK523
       clear BK528
       clear BK543
       clear BK551
       clear HB
       have BK521 := n0_
       have BK522 := n1_
       have BK523 := n2_
       have BK528 := n3_
       have BK543 := n4_
       have BK551 := n5_
       have HB := n6_
       clear n0_ n1_ n2_ n3_ n4_ n5_ n6_
       (try clear hb); (try clear hb2); (try clear hk); (try clear hi)
       refine hK.out _ _ ⟨(blk_cell BK522.out 0).trans rfl, (blk_cell BK522.out 1).trans rfl, (blk_cell BK543.out 0).trans rfl, (blk_cell BK543.out 1).trans rfl⟩ (fun hHeld => ?_)
       clear hK K
       refine norm_ (a' := ?_) ?_ ?_
       rotate_left
       ·show Act.put _ (some 46) _ = _
        simp only [Act.put, List.setIfInBounds_toArray, List.set_cons_zero, List.set_cons_succ, i64_w, i32_w]
        rfl
       refine two_ (i := 4) (j := 8) (Ni := some 47) (Nj := some 11) #[true, true, true, true, true, false, false, false, false, false, false] #[true, true, true, true, false, false, false, false, true, false, false] rfl rfl rfl rfl (two_of HT_.out (by kernel_rfl)) (by decide) (by decide) (fun K hK => ?_) (fun K hK => ?_)
       ·skip
        refine goes_ Tryz.func109 (by kernel_rfl) rfl #[.agg #[.string t552, .string t553], .agg #[.string t554, .string t555]] (by rfl) rfl rfl mp_ ?_
        with_reducible refine (fraction_Div.calls k1 t552 t553 t554 t555 t556 t557 t558 _ ?side1 A42.out).mono ?_
        (case side1 => exact gw_ HG)
        rintro e w79 ⟨rfl, hb⟩
        refine ⟨_, rfl, ?_⟩
        have n0_ := kb_ BK521 hb
        have n1_ := kb_ BK522 hb
        have n2_ := kb_ BK523 hb
        have n3_ := kb_ BK528 hb
        have n4_ := kb_ BK543 hb
        have n5_ := kb_ BK551 hb
        have n6_ := bs_ hb
        clear BK521
        clear BK522
        clear BK523
        clear BK528
        clear BK543
        clear BK551
        clear HB
        have BK521 := n0_
        have BK522 := n1_
        have BK523 := n2_
        have BK528 := n3_
        have BK543 := n4_
        have BK551 := n5_
        have HB := n6_
        clear n0_ n1_ n2_ n3_ n4_ n5_ n6_
        (try clear hb); (try clear hb2); (try clear hk); (try clear hi)
        refine hK.out _ _ ⟨(blk_cell BK522.out 0).trans rfl, (blk_cell BK522.out 1).trans rfl, (blk_cell BK543.out 0).trans rfl, (blk_cell BK543.out 1).trans rfl⟩ (fun hHeld => ?_)
        clear hK K
        refine norm_ (a' := ?_) ?_ ?_
        rotate_left
        ·show Act.put _ (some 47) _ = _
         simp only [Act.put, List.setIfInBounds_toArray, List.set_cons_zero, List.set_cons_succ, i64_w, i32_w]
         rfl
        refine pure_ (i := 5) (N := some 42) (v := ?_) (a' := ?_) #[true, true, true, true, true, true, false, false, false, false, false] rfl rfl (any_of HT_.out (by kernel_rfl)) (fun _ _ _ h => h) (Or.inl ⟨by rfl, ?_⟩) ?_ ?_
        rotate_left
        ·intro w'
         go_simp
         with_reducible rfl
        rotate_left
        ·simp only [Act.put, List.setIfInBounds_toArray, List.set_cons_zero, List.set_cons_succ, i64_w, i32_w]
         rfl
        refine pure_ (i := 6) (N := some 48) (v := ?_) (a' := ?_) #[true, true, true, true, true, true, true, false, false, false, false] rfl rfl (any_of HT_.out (by kernel_rfl)) (fun _ _ _ h => h) (Or.inl ⟨by rfl, ?_⟩) ?_ ?_
        rotate_left
        ·intro w'
         go_simp
         with_reducible rfl
        rotate_left
        ·simp only [Act.put, List.setIfInBounds_toArray, List.set_cons_zero, List.set_cons_succ, i64_w, i32_w]
         rfl
        refine pure_ (i := 7) (N := some 49) (v := ?_) (a' := ?_) #[true, true, true, true, true, true, true, true, false, false, false] rfl rfl (any_of HT_.out (by kernel_rfl)) (fun _ _ _ h => h) (Or.inl ⟨by rfl, ?_⟩) ?_ ?_
        rotate_left
        ·intro w'
         go_simp
         with_reducible rfl
        rotate_left
        ·simp only [Act.put, List.setIfInBounds_toArray, List.set_cons_zero, List.set_cons_succ, i64_w, i32_w]
         rfl
        refine one_ (i := 8) (N := some 11) #[true, true, true, true, true, true, true, true, true, false, false] rfl rfl (one_of HT_.out (by kernel_rfl)) (by decide) (fun K hK => ?_)
        refine box_step ?hg (N := 11) ?hd (cs := #[.string (⟨#[]⟩ : ByteArray), .string (⟨#[]⟩ : ByteArray)]) (t := 24) ?hr ?_; (case hd => rfl); (case hg => rfl); (case hr => first | (go_simp; done) | (go_simp; rfl))
        intro gb559 hg w80 hbox hb
        have n0_ := kb_ BK521 hb
        have n1_ := kb_ BK522 hb
        have n2_ := kb_ BK523 hb
        have n3_ := kb_ BK528 hb
        have n4_ := kb_ BK543 hb
        have n5_ := kb_ BK551 hb
        have n6_ := bs_ hb
        have n7_ := Aside0.mk (hbox)
        have n8_ := ge_ (w := w) hg
        have n9_ := ge_ (w := w) hg
        have n10_ := nl_ hg BK521
        have n11_ := ng_ hg BK521
        have n12_ := nl_ hg BK522
        have n13_ := ng_ hg BK522
        have n14_ := nl_ hg BK523
        have n15_ := ng_ hg BK523
        have n16_ := nl_ hg BK528
        have n17_ := ng_ hg BK528
        have n18_ := nl_ hg BK543
        have n19_ := ng_ hg BK543
        have n20_ := nl_ hg BK551
        have n21_ := ng_ hg BK551
        clear BK521
        clear BK522
        clear BK523
        clear BK528
        clear BK543
        clear BK551
        clear HB
        have BK521 := n0_
        have BK522 := n1_
        have BK523 := n2_
        have BK528 := n3_
        have BK543 := n4_
        have BK551 := n5_
        have HB := n6_
        have BK559 := n7_
        have GW559 := n8_
        have GE559 := n9_
        have NB521_559 := n10_
        have NB559_521 := n11_
        have NB522_559 := n12_
        have NB559_522 := n13_
        have NB523_559 := n14_
        have NB559_523 := n15_
        have NB528_559 := n16_
        have NB559_528 := n17_
        have NB543_559 := n18_
        have NB559_543 := n19_
        have NB551_559 := n20_
        have NB559_551 := n21_
        clear n0_ n1_ n2_ n3_ n4_ n5_ n6_ n7_ n8_ n9_ n10_ n11_ n12_ n13_ n14_ n15_ n16_ n17_ n18_ n19_ n20_ n21_
        clear hb hbox hg
        refine hK.out _ _ ⟨(blk_cell BK522.out 0).trans rfl, (blk_cell BK522.out 1).trans rfl, (blk_cell BK543.out 0).trans rfl, (blk_cell BK543.out 1).trans rfl⟩ (fun hHeld => ?_)
        clear hK K
        refine norm_ (a' := ?_) ?_ ?_
        rotate_left
        ·show Act.put _ (some 11) _ = _
         simp only [Act.put, List.setIfInBounds_toArray, List.set_cons_zero, List.set_cons_succ, i64_w, i32_w]
         rfl
        exact norm_ (by simp only [putAll, Act.put, List.setIfInBounds_toArray, List.set_cons_zero, List.set_cons_succ]) (hCont (gb559) _ ⟨hHeld, bk_, bk_, bk_, bk_, bk_, bk_, bk_, GW559.out, GE559.out, NB521_559.out, NB559_521.out, NB522_559.out, NB559_522.out, NB523_559.out, NB559_523.out, NB528_559.out, NB559_528.out, NB543_559.out, NB559_543.out, NB551_559.out, NB559_551.out, bl_⟩)
       ·skip
        refine box_step ?hg (N := 11) ?hd (cs := #[.string (⟨#[]⟩ : ByteArray), .string (⟨#[]⟩ : ByteArray)]) (t := 24) ?hr ?_; (case hd => rfl); (case hg => rfl); (case hr => first | (go_simp; done) | (go_simp; rfl))
        intro gb559 hg w79 hbox hb
        have n0_ := kb_ BK521 hb
        have n1_ := kb_ BK522 hb
        have n2_ := kb_ BK523 hb
        have n3_ := kb_ BK528 hb
        have n4_ := kb_ BK543 hb
        have n5_ := kb_ BK551 hb
        have n6_ := bs_ hb
        have n7_ := Aside0.mk (hbox)
        have n8_ := ge_ (w := w) hg
        have n9_ := ge_ (w := w) hg
        have n10_ := nl_ hg BK521
        have n11_ := ng_ hg BK521
        have n12_ := nl_ hg BK522
        have n13_ := ng_ hg BK522
        have n14_ := nl_ hg BK523
        have n15_ := ng_ hg BK523
        have n16_ := nl_ hg BK528
        have n17_ := ng_ hg BK528
        have n18_ := nl_ hg BK543
        have n19_ := ng_ hg BK543
        have n20_ := nl_ hg BK551
        have n21_ := ng_ hg BK551
        clear BK521
        clear BK522
        clear BK523
        clear BK528
        clear BK543
        clear BK551
        clear HB
        have BK521 := n0_
        have BK522 := n1_
        have BK523 := n2_
        have BK528 := n3_
        have BK543 := n4_
        have BK551 := n5_
        have HB := n6_
        have BK559 := n7_
        have GW559 := n8_
        have GE559 := n9_
        have NB521_559 := n10_
        have NB559_521 := n11_
        have NB522_559 := n12_
        have NB559_522 := n13_
        have NB523_559 := n14_
        have NB559_523 := n15_
        have NB528_559 := n16_
        have NB559_528 := n17_
        have NB543_559 := n18_
        have NB559_543 := n19_
        have NB551_559 := n20_
        have NB559_551 := n21_
        clear n0_ n1_ n2_ n3_ n4_ n5_ n6_ n7_ n8_ n9_ n10_ n11_ n12_ n13_ n14_ n15_ n16_ n17_ n18_ n19_ n20_ n21_
        clear hb hbox hg
        refine hK.out _ _ ⟨(blk_cell BK522.out 0).trans rfl, (blk_cell BK522.out 1).trans rfl, (blk_cell BK543.out 0).trans rfl, (blk_cell BK543.out 1).trans rfl⟩ (fun hHeld => ?_)
        clear hK K
        refine norm_ (a' := ?_) ?_ ?_
        rotate_left
        ·show Act.put _ (some 11) _ = _
         simp only [Act.put, List.setIfInBounds_toArray, List.set_cons_zero, List.set_cons_succ, i64_w, i32_w]
         rfl
        refine one_ (i := 4) (N := some 47) #[true, true, true, true, true, false, false, false, true, false, false] rfl rfl (one_of HT_.out (by kernel_rfl)) (by decide) (fun K hK => ?_)
        refine goes_ Tryz.func109 (by kernel_rfl) rfl #[.agg #[.string t552, .string t553], .agg #[.string t554, .string t555]] (by rfl) rfl rfl mp_ ?_
        with_reducible refine (fraction_Div.calls k1 t552 t553 t554 t555 t556 t557 t558 _ ?side1 A42.out).mono ?_
        (case side1 => exact gw_ HG)
        rintro e w80 ⟨rfl, hb⟩
        refine ⟨_, rfl, ?_⟩
        have n0_ := kb_ BK521 hb
        have n1_ := kb_ BK522 hb
        have n2_ := kb_ BK523 hb
        have n3_ := kb_ BK528 hb
        have n4_ := kb_ BK543 hb
        have n5_ := kb_ BK551 hb
        have n6_ := kb_ BK559 hb
        have n7_ := bs_ hb
        clear BK521
        clear BK522
        clear BK523
        clear BK528
        clear BK543
        clear BK551
        clear BK559
        clear HB
        have BK521 := n0_
        have BK522 := n1_
        have BK523 := n2_
        have BK528 := n3_
        have BK543 := n4_
        have BK551 := n5_
        have BK559 := n6_
        have HB := n7_
        clear n0_ n1_ n2_ n3_ n4_ n5_ n6_ n7_
        (try clear hb); (try clear hb2); (try clear hk); (try clear hi)
        refine hK.out _ _ ⟨(blk_cell BK522.out 0).trans rfl, (blk_cell BK522.out 1).trans rfl, (blk_cell BK543.out 0).trans rfl, (blk_cell BK543.out 1).trans rfl⟩ (fun hHeld => ?_)
        clear hK K
        refine norm_ (a' := ?_) ?_ ?_
        rotate_left
        ·show Act.put _ (some 47) _ = _
         simp only [Act.put, List.setIfInBounds_toArray, List.set_cons_zero, List.set_cons_succ, i64_w, i32_w]
         rfl
        refine pure_ (i := 5) (N := some 42) (v := ?_) (a' := ?_) #[true, true, true, true, true, true, false, false, true, false, false] rfl rfl (any_of HT_.out (by kernel_rfl)) (fun _ _ _ h => h) (Or.inl ⟨by rfl, ?_⟩) ?_ ?_
        rotate_left
        ·intro w'
         go_simp
         with_reducible rfl
        rotate_left
        ·simp only [Act.put, List.setIfInBounds_toArray, List.set_cons_zero, List.set_cons_succ, i64_w, i32_w]
         rfl
        refine pure_ (i := 6) (N := some 48) (v := ?_) (a' := ?_) #[true, true, true, true, true, true, true, false, true, false, false] rfl rfl (any_of HT_.out (by kernel_rfl)) (fun _ _ _ h => h) (Or.inl ⟨by rfl, ?_⟩) ?_ ?_
        rotate_left
        ·intro w'
         go_simp
         with_reducible rfl
        rotate_left
        ·simp only [Act.put, List.setIfInBounds_toArray, List.set_cons_zero, List.set_cons_succ, i64_w, i32_w]
         rfl
        refine pure_ (i := 7) (N := some 49) (v := ?_) (a' := ?_) #[true, true, true, true, true, true, true, true, true, false, false] rfl rfl (any_of HT_.out (by kernel_rfl)) (fun _ _ _ h => h) (Or.inl ⟨by rfl, ?_⟩) ?_ ?_
        rotate_left
        ·intro w'
         go_simp
         with_reducible rfl
        rotate_left
        ·simp only [Act.put, List.setIfInBounds_toArray, List.set_cons_zero, List.set_cons_succ, i64_w, i32_w]
         rfl
        exact norm_ (by simp only [putAll, Act.put, List.setIfInBounds_toArray, List.set_cons_zero, List.set_cons_succ]) (hCont (gb559) _ ⟨hHeld, bk_, bk_, bk_, bk_, bk_, bk_, bk_, GW559.out, GE559.out, NB521_559.out, NB559_521.out, NB522_559.out, NB559_522.out, NB523_559.out, NB559_523.out, NB528_559.out, NB559_528.out, NB543_559.out, NB559_543.out, NB551_559.out, NB559_551.out, bl_⟩)
      ·skip
       refine box_step ?hg (N := 11) ?hd (cs := #[.string (⟨#[]⟩ : ByteArray), .string (⟨#[]⟩ : ByteArray)]) (t := 24) ?hr ?_; (case hd => rfl); (case hg => rfl); (case hr => first | (go_simp; done) | (go_simp; rfl))
       intro gb559 hg w78 hbox hb
       have n0_ := kb_ BK521 hb
       have n1_ := kb_ BK522 hb
       have n2_ := kb_ BK523 hb
       have n3_ := kb_ BK528 hb
       have n4_ := kb_ BK543 hb
       have n5_ := kb_ BK551 hb
       have n6_ := bs_ hb
       have n7_ := Aside0.mk (hbox)
       have n8_ := ge_ (w := w) hg
       have n9_ := ge_ (w := w) hg
       have n10_ := nl_ hg BK521
       have n11_ := ng_ hg BK521
       have n12_ := nl_ hg BK522
       have n13_ := ng_ hg BK522
       have n14_ := nl_ hg BK523
       have n15_ := ng_ hg BK523
       have n16_ := nl_ hg BK528
       have n17_ := ng_ hg BK528
       have n18_ := nl_ hg BK543
       have n19_ := ng_ hg BK543
       have n20_ := nl_ hg BK551
       have n21_ := ng_ hg BK551
       clear BK521
       clear BK522
       clear BK523
       clear BK528
       clear BK543
       clear BK551
       clear HB
       have BK521 := n0_
       have BK522 := n1_
       have BK523 := n2_
       have BK528 := n3_
       have BK543 := n4_
       have BK551 := n5_
       have HB := n6_
       have BK559 := n7_
       have GW559 := n8_
       have GE559 := n9_
       have NB521_559 := n10_
       have NB559_521 := n11_
       have NB522_559 := n12_
       have NB559_522 := n13_
       have NB523_559 := n14_
       have NB559_523 := n15_
       have NB528_559 := n16_
       have NB559_528 := n17_
       have NB543_559 := n18_
       have NB559_543 := n19_
       have NB551_559 := n20_
       have NB559_551 := n21_
       clear n0_ n1_ n2_ n3_ n4_ n5_ n6_ n7_ n8_ n9_ n10_ n11_ n12_ n13_ n14_ n15_ n16_ n17_ n18_ n19_ n20_ n21_
       clear hb hbox hg
       refine hK.out _ _ ⟨(blk_cell BK522.out 0).trans rfl, (blk_cell BK522.out 1).trans rfl, (blk_cell BK543.out 0).trans rfl, (blk_cell BK543.out 1).trans rfl⟩ (fun hHeld => ?_)
       clear hK K
       refine norm_ (a' := ?_) ?_ ?_
       rotate_left
       ·show Act.put _ (some 11) _ = _
        simp only [Act.put, List.setIfInBounds_toArray, List.set_cons_zero, List.set_cons_succ, i64_w, i32_w]
        rfl
       refine one_ (i := 3) (N := some 46) #[true, true, true, true, false, false, false, false, true, false, false] rfl rfl (one_of HT_.out (by kernel_rfl)) (by decide) (fun K hK => ?_)
       refine goes_ Tryz.func90 (by kernel_rfl) rfl #[.agg #[.string x523000_1, .string x523001_1], .agg #[.string t541, .string t542]] (by rfl) rfl rfl mp_ ?_
       with_reducible refine (fraction_Sub.calls k1 x523000_1 x523001_1 t541 t542 t554 t555 _ ?side1 A41.out).mono ?_
       (case side1 => exact gw_ HG)
       rintro e w79 ⟨rfl, hb⟩
       refine ⟨_, rfl, ?_⟩
       have n0_ := kb_ BK521 hb
       have n1_ := kb_ BK522 hb
       have n2_ := kb_ BK523 hb
       have n3_ := kb_ BK528 hb
       have n4_ := kb_ BK543 hb
       have n5_ := kb_ BK551 hb
       have n6_ := kb_ BK559 hb
       have n7_ := bs_ hb
       clear BK521
       clear BK522
       clear BK523
       clear BK528
       clear BK543
       clear BK551
       clear BK559
       clear HB
       have BK521 := n0_
       have BK522 := n1_
       have BK523 := n2_
       have BK528 := n3_
       have BK543 := n4_
       have BK551 := n5_
       have BK559 := n6_
       have HB := n7_
       clear n0_ n1_ n2_ n3_ n4_ n5_ n6_ n7_
       (try clear hb); (try clear hb2); (try clear hk); (try clear hi)
       refine hK.out _ _ ⟨(blk_cell BK522.out 0).trans rfl, (blk_cell BK522.out 1).trans rfl, (blk_cell BK543.out 0).trans rfl, (blk_cell BK543.out 1).trans rfl⟩ (fun hHeld => ?_)
       clear hK K
       refine norm_ (a' := ?_) ?_ ?_
       rotate_left
       ·show Act.put _ (some 46) _ = _
        simp only [Act.put, List.setIfInBounds_toArray, List.set_cons_zero, List.set_cons_succ, i64_w, i32_w]
        rfl
       refine one_ (i := 4) (N := some 47) #[true, true, true, true, true, false, false, false, true, false, false] rfl rfl (one_of HT_.out (by kernel_rfl)) (by decide) (fun K hK => ?_)
       refine goes_ Tryz.func109 (by kernel_rfl) rfl #[.agg #[.string t552, .string t553], .agg #[.string t554, .string t555]] (by rfl) rfl rfl mp_ ?_
       with_reducible refine (fraction_Div.calls k1 t552 t553 t554 t555 t556 t557 t558 _ ?side1 A42.out).mono ?_
       (case side1 => exact gw_ HG)
       rintro e w80 ⟨rfl, hb⟩
       refine ⟨_, rfl, ?_⟩
       have n0_ := kb_ BK521 hb
       have n1_ := kb_ BK522 hb
       have n2_ := kb_ BK523 hb
       have n3_ := kb_ BK528 hb
       have n4_ := kb_ BK543 hb
       have n5_ := kb_ BK551 hb
       have n6_ := kb_ BK559 hb
       have n7_ := bs_ hb
       clear BK521
       clear BK522
       clear BK523
       clear BK528
       clear BK543
       clear BK551
       clear BK559
       clear HB
       have BK521 := n0_
       have BK522 := n1_
       have BK523 := n2_
       have BK528 := n3_
       have BK543 := n4_
       have BK551 := n5_
       have BK559 := n6_
       have HB := n7_
       clear n0_ n1_ n2_ n3_ n4_ n5_ n6_ n7_
       (try clear hb); (try clear hb2); (try clear hk); (try clear hi)
       refine hK.out _ _ ⟨(blk_cell BK522.out 0).trans rfl, (blk_cell BK522.out 1).trans rfl, (blk_cell BK543.out 0).trans rfl, (blk_cell BK543.out 1).trans rfl⟩ (fun hHeld => ?_)
       clear hK K
       refine norm_ (a' := ?_) ?_ ?_
       rotate_left
       ·show Act.put _ (some 47) _ = _
        simp only [Act.put, List.setIfInBounds_toArray, List.set_cons_zero, List.set_cons_succ, i64_w, i32_w]
        rfl
       refine pure_ (i := 5) (N := some 42) (v := ?_) (a' := ?_) #[true, true, true, true, true, true, false, false, true, false, false] rfl rfl (any_of HT_.out (by kernel_rfl)) (fun _ _ _ h => h) (Or.inl ⟨by rfl, ?_⟩) ?_ ?_
       rotate_left
       ·intro w'
        go_simp
        with_reducible rfl
       rotate_left
       ·simp only [Act.put, List.setIfInBounds_toArray, List.set_cons_zero, List.set_cons_succ, i64_w, i32_w]
        rfl
       refine pure_ (i := 6) (N := some 48) (v := ?_) (a' := ?_) #[true, true, true, true, true, true, true, false, true, false, false] rfl rfl (any_of HT_.out (by kernel_rfl)) (fun _ _ _ h => h) (Or.inl ⟨by rfl, ?_⟩) ?_ ?_
       rotate_left
       ·intro w'
        go_simp
        with_reducible rfl
       rotate_left
       ·simp only [Act.put, List.setIfInBounds_toArray, List.set_cons_zero, List.set_cons_succ, i64_w, i32_w]
        rfl
       refine pure_ (i := 7) (N := some 49) (v := ?_) (a' := ?_) #[true, true, true, true, true, true, true, true, true, false, false] rfl rfl (any_of HT_.out (by kernel_rfl)) (fun _ _ _ h => h) (Or.inl ⟨by rfl, ?_⟩) ?_ ?_
       rotate_left
       ·intro w'
        go_simp
        with_reducible rfl
       rotate_left
       ·simp only [Act.put, List.setIfInBounds_toArray, List.set_cons_zero, List.set_cons_succ, i64_w, i32_w]
        rfl
       exact norm_ (by simp only [putAll, Act.put, List.setIfInBounds_toArray, List.set_cons_zero, List.set_cons_succ]) (hCont (gb559) _ ⟨hHeld, bk_, bk_, bk_, bk_, bk_, bk_, bk_, GW559.out, GE559.out, NB521_559.out, NB559_521.out, NB522_559.out, NB559_522.out, NB523_559.out, NB559_523.out, NB528_559.out, NB559_528.out, NB543_559.out, NB559_543.out, NB551_559.out, NB559_551.out, bl_⟩)
     ·skip
      refine box_step ?hg (N := 11) ?hd (cs := #[.string (⟨#[]⟩ : ByteArray), .string (⟨#[]⟩ : ByteArray)]) (t := 24) ?hr ?_; (case hd => rfl); (case hg => rfl); (case hr => first | (go_simp; done) | (go_simp; rfl))
      intro gb559 hg w77 hbox hb
      have n0_ := kb_ BK521 hb
      have n1_ := kb_ BK522 hb
      have n2_ := kb_ BK523 hb
      have n3_ := kb_ BK528 hb
      have n4_ := kb_ BK543 hb
      have n5_ := kb_ BK551 hb
      have n6_ := bs_ hb
      have n7_ := Aside0.mk (hbox)
      have n8_ := ge_ (w := w) hg
      have n9_ := ge_ (w := w) hg
      have n10_ := nl_ hg BK521
      have n11_ := ng_ hg BK521
      have n12_ := nl_ hg BK522
      have n13_ := ng_ hg BK522
      have n14_ := nl_ hg BK523
      have n15_ := ng_ hg BK523
      have n16_ := nl_ hg BK528
      have n17_ := ng_ hg BK528
      have n18_ := nl_ hg BK543
      have n19_ := ng_ hg BK543
      have n20_ := nl_ hg BK551
      have n21_ := ng_ hg BK551
      clear BK521
      clear BK522
      clear BK523
      clear BK528
      clear BK543
      clear BK551
      clear HB
      have BK521 := n0_
      have BK522 := n1_
      have BK523 := n2_
      have BK528 := n3_
      have BK543 := n4_
      have BK551 := n5_
      have HB := n6_
      have BK559 := n7_
      have GW559 := n8_
      have GE559 := n9_
      have NB521_559 := n10_
      have NB559_521 := n11_
      have NB522_559 := n12_
      have NB559_522 := n13_
      have NB523_559 := n14_
      have NB559_523 := n15_
      have NB528_559 := n16_
      have NB559_528 := n17_
      have NB543_559 := n18_
      have NB559_543 := n19_
      have NB551_559 := n20_
      have NB559_551 := n21_
      clear n0_ n1_ n2_ n3_ n4_ n5_ n6_ n7_ n8_ n9_ n10_ n11_ n12_ n13_ n14_ n15_ n16_ n17_ n18_ n19_ n20_ n21_
      clear hb hbox hg
      refine hK.out _ _ ⟨(blk_cell BK522.out 0).trans rfl, (blk_cell BK522.out 1).trans rfl, (blk_cell BK543.out 0).trans rfl, (blk_cell BK543.out 1).trans rfl⟩ (fun hHeld => ?_)
      clear hK K
      refine norm_ (a' := ?_) ?_ ?_
      rotate_left
      ·show Act.put _ (some 11) _ = _
       simp only [Act.put, List.setIfInBounds_toArray, List.set_cons_zero, List.set_cons_succ, i64_w, i32_w]
       rfl
      refine one_ (i := 0) (N := some 43) #[true, true, true, false, false, false, false, false, true, false, false] rfl rfl (one_of HT_.out (by kernel_rfl)) (by decide) (fun K hK => ?_)
      refine goes_ Tryz.func41 (by kernel_rfl) rfl #[.string (⟨#[49]⟩ : ByteArray), .string (⟨#[49]⟩ : ByteArray)] (by rfl) rfl rfl mp_ ?_
      with_reducible refine (convergent_over.calls k1 (⟨#[49]⟩ : ByteArray) (⟨#[49]⟩ : ByteArray) t552 t553 _ ?side1 A40.out).mono ?_
      (case side1 => exact gw_ HG)
      rintro e w78 ⟨rfl, hb⟩
      refine ⟨_, rfl, ?_⟩
      have n0_ := kb_ BK521 hb
      have n1_ := kb_ BK522 hb
      have n2_ := kb_ BK523 hb
      have n3_ := kb_ BK528 hb
      have n4_ := kb_ BK543 hb
      have n5_ := kb_ BK551 hb
      have n6_ := kb_ BK559 hb
      have n7_ := bs_ hb
      clear BK521
      clear BK522
      clear BK523
      clear BK528
      clear BK543
      clear BK551
      clear BK559
      clear HB
      have BK521 := n0_
      have BK522 := n1_
      have BK523 := n2_
      have BK528 := n3_
      have BK543 := n4_
      have BK551 := n5_
      have BK559 := n6_
      have HB := n7_
      clear n0_ n1_ n2_ n3_ n4_ n5_ n6_ n7_
      (try clear hb); (try clear hb2); (try clear hk); (try clear hi)
      refine hK.out _ _ ⟨(blk_cell BK522.out 0).trans rfl, (blk_cell BK522.out 1).trans rfl, (blk_cell BK543.out 0).trans rfl, (blk_cell BK543.out 1).trans rfl⟩ (fun hHeld => ?_)
      clear hK K
      refine norm_ (a' := ?_) ?_ ?_
      rotate_left
      ·show Act.put _ (some 43) _ = _
       simp only [Act.put, List.setIfInBounds_toArray, List.set_cons_zero, List.set_cons_succ, i64_w, i32_w]
       rfl
      refine one_ (i := 3) (N := some 46) #[true, true, true, true, false, false, false, false, true, false, false] rfl rfl (one_of HT_.out (by kernel_rfl)) (by decide) (fun K hK => ?_)
      refine goes_ Tryz.func90 (by kernel_rfl) rfl #[.agg #[.string x523000_1, .string x523001_1], .agg #[.string t541, .string t542]] (by rfl) rfl rfl mp_ ?_
      with_reducible refine (fraction_Sub.calls k1 x523000_1 x523001_1 t541 t542 t554 t555 _ ?side1 A41.out).mono ?_
      (case side1 => exact gw_ HG)
      rintro e w79 ⟨rfl, hb⟩
      refine ⟨_, rfl, ?_⟩
      have n0_ := kb_ BK521 hb
      have n1_ := kb_ BK522 hb
      have n2_ := kb_ BK523 hb
      have n3_ := kb_ BK528 hb
      have n4_ := kb_ BK543 hb
      have n5_ := kb_ BK551 hb
      have n6_ := kb_ BK559 hb
      have n7_ := bs_ hb
      clear BK521
      clear BK522
      clear BK523
      clear BK528
      clear BK543
      clear BK551
      clear BK559
      clear HB
      have BK521 := n0_
      have BK522 := n1_
      have BK523 := n2_
      have BK528 := n3_
      have BK543 := n4_
      have BK551 := n5_
      have BK559 := n6_
      have HB := n7_
      clear n0_ n1_ n2_ n3_ n4_ n5_ n6_ n7_
      (try clear hb); (try clear hb2); (try clear hk); (try clear hi)
      refine hK.out _ _ ⟨(blk_cell BK522.out 0).trans rfl, (blk_cell BK522.out 1).trans rfl, (blk_cell BK543.out 0).trans rfl, (blk_cell BK543.out 1).trans rfl⟩ (fun hHeld => ?_)
      clear hK K
      refine norm_ (a' := ?_) ?_ ?_
      rotate_left
      ·show Act.put _ (some 46) _ = _
       simp only [Act.put, List.setIfInBounds_toArray, List.set_cons_zero, List.set_cons_succ, i64_w, i32_w]
       rfl
      refine one_ (i := 4) (N := some 47) #[true, true, true, true, true, false, false, false, true, false, false] rfl rfl (one_of HT_.out (by kernel_rfl)) (by decide) (fun K hK => ?_)
      refine goes_ Tryz.func109 (by kernel_rfl) rfl #[.agg #[.string t552, .string t553], .agg #[.string t554, .string t555]] (by rfl) rfl rfl mp_ ?_
      with_reducible refine (fraction_Div.calls k1 t552 t553 t554 t555 t556 t557 t558 _ ?side1 A42.out).mono ?_
      (case side1 => exact gw_ HG)
      rintro e w80 ⟨rfl, hb⟩
      refine ⟨_, rfl, ?_⟩
      have n0_ := kb_ BK521 hb
      have n1_ := kb_ BK522 hb
      have n2_ := kb_ BK523 hb
      have n3_ := kb_ BK528 hb
      have n4_ := kb_ BK543 hb
      have n5_ := kb_ BK551 hb
      have n6_ := kb_ BK559 hb
      have n7_ := bs_ hb
      clear BK521
      clear BK522
      clear BK523
      clear BK528
      clear BK543
      clear BK551
      clear BK559
      clear HB
      have BK521 := n0_
      have BK522 := n1_
      have BK523 := n2_
      have BK528 := n3_
      have BK543 := n4_
      have BK551 := n5_
      have BK559 := n6_
      have HB := n7_
      clear n0_ n1_ n2_ n3_ n4_ n5_ n6_ n7_
      (try clear hb); (try clear hb2); (try clear hk); (try clear hi)
      refine hK.out _ _ ⟨(blk_cell BK522.out 0).trans rfl, (blk_cell BK522.out 1).trans rfl, (blk_cell BK543.out 0).trans rfl, (blk_cell BK543.out 1).trans rfl⟩ (fun hHeld => ?_)
      clear hK K
      refine norm_ (a' := ?_) ?_ ?_
      rotate_left
      ·show Act.put _ (some 47) _ = _
       simp only [Act.put, List.setIfInBounds_toArray, List.set_cons_zero, List.set_cons_succ, i64_w, i32_w]
       rfl
      refine pure_ (i := 5) (N := some 42) (v := ?_) (a' := ?_) #[true, true, true, true, true, true, false, false, true, false, false] rfl rfl (any_of HT_.out (by kernel_rfl)) (fun _ _ _ h => h) (Or.inl ⟨by rfl, ?_⟩) ?_ ?_
      rotate_left
      ·intro w'
       go_simp
       with_reducible rfl
      rotate_left
      ·simp only [Act.put, List.setIfInBounds_toArray, List.set_cons_zero, List.set_cons_succ, i64_w, i32_w]
       rfl
      refine pure_ (i := 6) (N := some 48) (v := ?_) (a' := ?_) #[true, true, true, true, true, true, true, false, true, false, false] rfl rfl (any_of HT_.out (by kernel_rfl)) (fun _ _ _ h => h) (Or.inl ⟨by rfl, ?_⟩) ?_ ?_
      rotate_left
      ·intro w'
       go_simp
       with_reducible rfl
      rotate_left
      ·simp only [Act.put, List.setIfInBounds_toArray, List.set_cons_zero, List.set_cons_succ, i64_w, i32_w]
       rfl
      refine pure_ (i := 7) (N := some 49) (v := ?_) (a' := ?_) #[true, true, true, true, true, true, true, true, true, false, false] rfl rfl (any_of HT_.out (by kernel_rfl)) (fun _ _ _ h => h) (Or.inl ⟨by rfl, ?_⟩) ?_ ?_
      rotate_left
      ·intro w'
       go_simp
       with_reducible rfl
      rotate_left
      ·simp only [Act.put, List.setIfInBounds_toArray, List.set_cons_zero, List.set_cons_succ, i64_w, i32_w]
       rfl
      exact norm_ (by simp only [putAll, Act.put, List.setIfInBounds_toArray, List.set_cons_zero, List.set_cons_succ]) (hCont (gb559) _ ⟨hHeld, bk_, bk_, bk_, bk_, bk_, bk_, bk_, GW559.out, GE559.out, NB521_559.out, NB559_521.out, NB522_559.out, NB559_522.out, NB523_559.out, NB559_523.out, NB528_559.out, NB559_528.out, NB543_559.out, NB559_543.out, NB551_559.out, NB559_551.out, bl_⟩)
    rintro gb559 w81 ⟨hS_, h0_, h1_, h2_, h3_, h4_, h5_, h6_, h7_, h8_, h9_, h10_, h11_, h12_, h13_, h14_, h15_, h16_, h17_, h18_, h19_, h20_, h21_⟩
    have n0_ : Aside0 (w81.heap[gb521]? = some (.cells #[.string x522000_1, .string x522001_1] 24 (0, 0))) := ⟨h0_⟩
    have n1_ : Aside0 (w81.heap[gb522]? = some (.cells #[.string x523000_1, .string x523001_1] 24 (0, 0))) := ⟨h1_⟩
    have n2_ : Aside0 (w81.heap[gb523]? = some (.cells #[.string x524000_1, .string x524001_1] 24 (0, 0))) := ⟨h2_⟩
    have n3_ : Aside0 (w81.heap[gb528]? = some (.cells #[.string t537, .string t538, .string t539, .string t540] 71 (0, 0))) := ⟨h3_⟩
    have n4_ : Aside0 (w81.heap[gb543]? = some (.cells #[.string t541, .string t542] 24 (0, 0))) := ⟨h4_⟩
    have n5_ : Aside0 (w81.heap[gb551]? = some (.cells #[.string t548, .string t549] 24 (0, 0))) := ⟨h5_⟩
    have n6_ : Aside0 (w81.heap[gb559]? = some (.cells #[.string (⟨#[]⟩ : ByteArray), .string (⟨#[]⟩ : ByteArray)] 24 (0, 0))) := ⟨h6_⟩
    have n7_ : Aside0 (w.heap.size ≤ gb559) := ⟨h7_⟩
    have n8_ : Aside0 (w.heap.size ≤ gb559) := ⟨h8_⟩
    have n9_ : Aside0 (gb521 ≠ gb559) := ⟨h9_⟩
    have n10_ : Aside0 (gb559 ≠ gb521) := ⟨h10_⟩
    have n11_ : Aside0 (gb522 ≠ gb559) := ⟨h11_⟩
    have n12_ : Aside0 (gb559 ≠ gb522) := ⟨h12_⟩
    have n13_ : Aside0 (gb523 ≠ gb559) := ⟨h13_⟩
    have n14_ : Aside0 (gb559 ≠ gb523) := ⟨h14_⟩
    have n15_ : Aside0 (gb528 ≠ gb559) := ⟨h15_⟩
    have n16_ : Aside0 (gb559 ≠ gb528) := ⟨h16_⟩
    have n17_ : Aside0 (gb543 ≠ gb559) := ⟨h17_⟩
    have n18_ : Aside0 (gb559 ≠ gb543) := ⟨h18_⟩
    have n19_ : Aside0 (gb551 ≠ gb559) := ⟨h19_⟩
    have n20_ : Aside0 (gb559 ≠ gb551) := ⟨h20_⟩
    have n21_ : Aside0 (Below w.heap.size w w81) := ⟨h21_⟩
    clear BK521
    clear BK522
    clear BK523
    clear BK528
    clear BK543
    clear BK551
    clear HB
    clear h0_ h1_ h2_ h3_ h4_ h5_ h6_ h7_ h8_ h9_ h10_ h11_ h12_ h13_ h14_ h15_ h16_ h17_ h18_ h19_ h20_ h21_
    have BK521 := n0_
    have BK522 := n1_
    have BK523 := n2_
    have BK528 := n3_
    have BK543 := n4_
    have BK551 := n5_
    have BK559 := n6_
    have GW559 := n7_
    have GE559 := n8_
    have NB521_559 := n9_
    have NB559_521 := n10_
    have NB522_559 := n11_
    have NB559_522 := n12_
    have NB523_559 := n13_
    have NB559_523 := n14_
    have NB528_559 := n15_
    have NB559_528 := n16_
    have NB543_559 := n17_
    have NB559_543 := n18_
    have NB551_559 := n19_
    have NB559_551 := n20_
    have HB := n21_
    clear n0_ n1_ n2_ n3_ n4_ n5_ n6_ n7_ n8_ n9_ n10_ n11_ n12_ n13_ n14_ n15_ n16_ n17_ n18_ n19_ n20_ n21_
    have hHeld : w81.cell? ⟨gb522, 0, none⟩ = some (.string x523000_1) ∧ w81.cell? ⟨gb522, 1, none⟩ = some (.string x523001_1) ∧ w81.cell? ⟨gb543, 0, none⟩ = some (.string t541) ∧ w81.cell? ⟨gb543, 1, none⟩ = some (.string t542) := hS_
    refine norm_ (a' := ?_) ?_ ?_
    rotate_left
    ·simp only [putAll, Act.put, List.setIfInBounds_toArray, List.set_cons_zero, List.set_cons_succ]
     rfl
    refine one_ (i := 9) (N := none) #[true, true, true, true, true, true, true, true, true, true, false] rfl rfl (one_of HT_.out (by kernel_rfl)) (by decide) (fun K hK => ?_)
    have hs82 : w81.cell? ⟨gb559, 0, none⟩ = some (.string (⟨#[]⟩ : ByteArray)) := (blk_cell BK559.out 0).trans rfl
    have hfs82 := blk_frozen BK559.out 0
    have hns82_0 := NB521_559.out
    have hns82_1 := NB522_559.out
    have hns82_2 := NB523_559.out
    have hns82_3 := NB528_559.out
    have hns82_4 := NB543_559.out
    have hns82_5 := NB551_559.out
    have hms82_0 := NB559_521.out
    have hms82_1 := NB559_522.out
    have hms82_2 := NB559_523.out
    have hms82_3 := NB559_528.out
    have hms82_4 := NB559_543.out
    have hms82_5 := NB559_551.out
    have hs83 : w81.cell? ⟨gb559, 1, none⟩ = some (.string (⟨#[]⟩ : ByteArray)) := (blk_cell BK559.out 1).trans rfl
    have hfs83 := blk_frozen BK559.out 1
    have hns83_0 := NB521_559.out
    have hns83_1 := NB522_559.out
    have hns83_2 := NB523_559.out
    have hns83_3 := NB528_559.out
    have hns83_4 := NB543_559.out
    have hns83_5 := NB551_559.out
    have hms83_0 := NB559_521.out
    have hms83_1 := NB559_522.out
    have hms83_2 := NB559_523.out
    have hms83_3 := NB559_528.out
    have hms83_4 := NB559_543.out
    have hms83_5 := NB559_551.out
    refine skip_ (w1 := ?_) (by rfl) rfl ?_ ?_
    rotate_left
    ·go_simp
     rfl
    refine hK.out _ _ ⟨((cell_far (p := ⟨gb559, _, none⟩) NB522_559.out _).trans (((cell_far (p := ⟨gb559, _, none⟩) NB522_559.out _).trans (hHeld.1)))), ((cell_far (p := ⟨gb559, _, none⟩) NB522_559.out _).trans (((cell_far (p := ⟨gb559, _, none⟩) NB522_559.out _).trans (hHeld.2.1)))), ((cell_far (p := ⟨gb559, _, none⟩) NB543_559.out _).trans (((cell_far (p := ⟨gb559, _, none⟩) NB543_559.out _).trans (hHeld.2.2.1)))), ((cell_far (p := ⟨gb559, _, none⟩) NB543_559.out _).trans (((cell_far (p := ⟨gb559, _, none⟩) NB543_559.out _).trans (hHeld.2.2.2))))⟩ (fun hHeld => ?_)
    clear hK K
    refine pure_ (i := 10) (N := some 12) (v := ?_) (a' := ?_) #[true, true, true, true, true, true, true, true, true, true, true] rfl rfl (any_of HT_.out (by kernel_rfl)) (fun _ _ _ h => h) (Or.inl ⟨by rfl, ?_⟩) ?_ ?_
    rotate_left
    ·intro w'
     go_simp
     with_reducible rfl
    rotate_left
    ·simp only [Act.put, List.setIfInBounds_toArray, List.set_cons_zero, List.set_cons_succ, i64_w, i32_w]
     rfl
    refine done_ (done_of HT_.out (by kernel_rfl)) ?_
    try go_wp2
    have n0_ : Aside0 (((w81.setCell ⟨gb559, 0, none⟩ (.string t556)).setCell ⟨gb559, 1, none⟩ (.string t557)).heap[gb521]? = some (.cells #[.string x522000_1, .string x522001_1] 24 (0, 0))) := ⟨by (with_reducible repeat (first | refine blk_drewN ?_ _ | refine blk_drew ?_ | refine blk_alloc ?_ _)); refine blk_far ?_ NB521_559.out _; (with_reducible repeat (first | refine blk_drewN ?_ _ | refine blk_drew ?_ | refine blk_alloc ?_ _)); refine blk_far ?_ NB521_559.out _; (with_reducible repeat (first | refine blk_drewN ?_ _ | refine blk_drew ?_ | refine blk_alloc ?_ _)); exact BK521.out⟩
    have n1_ : Aside0 (((w81.setCell ⟨gb559, 0, none⟩ (.string t556)).setCell ⟨gb559, 1, none⟩ (.string t557)).heap[gb522]? = some (.cells #[.string x523000_1, .string x523001_1] 24 (0, 0))) := ⟨by (with_reducible repeat (first | refine blk_drewN ?_ _ | refine blk_drew ?_ | refine blk_alloc ?_ _)); refine blk_far ?_ NB522_559.out _; (with_reducible repeat (first | refine blk_drewN ?_ _ | refine blk_drew ?_ | refine blk_alloc ?_ _)); refine blk_far ?_ NB522_559.out _; (with_reducible repeat (first | refine blk_drewN ?_ _ | refine blk_drew ?_ | refine blk_alloc ?_ _)); exact BK522.out⟩
    have n2_ : Aside0 (((w81.setCell ⟨gb559, 0, none⟩ (.string t556)).setCell ⟨gb559, 1, none⟩ (.string t557)).heap[gb523]? = some (.cells #[.string x524000_1, .string x524001_1] 24 (0, 0))) := ⟨by (with_reducible repeat (first | refine blk_drewN ?_ _ | refine blk_drew ?_ | refine blk_alloc ?_ _)); refine blk_far ?_ NB523_559.out _; (with_reducible repeat (first | refine blk_drewN ?_ _ | refine blk_drew ?_ | refine blk_alloc ?_ _)); refine blk_far ?_ NB523_559.out _; (with_reducible repeat (first | refine blk_drewN ?_ _ | refine blk_drew ?_ | refine blk_alloc ?_ _)); exact BK523.out⟩
    have n3_ : Aside0 (((w81.setCell ⟨gb559, 0, none⟩ (.string t556)).setCell ⟨gb559, 1, none⟩ (.string t557)).heap[gb528]? = some (.cells #[.string t537, .string t538, .string t539, .string t540] 71 (0, 0))) := ⟨by (with_reducible repeat (first | refine blk_drewN ?_ _ | refine blk_drew ?_ | refine blk_alloc ?_ _)); refine blk_far ?_ NB528_559.out _; (with_reducible repeat (first | refine blk_drewN ?_ _ | refine blk_drew ?_ | refine blk_alloc ?_ _)); refine blk_far ?_ NB528_559.out _; (with_reducible repeat (first | refine blk_drewN ?_ _ | refine blk_drew ?_ | refine blk_alloc ?_ _)); exact BK528.out⟩
    have n4_ : Aside0 (((w81.setCell ⟨gb559, 0, none⟩ (.string t556)).setCell ⟨gb559, 1, none⟩ (.string t557)).heap[gb543]? = some (.cells #[.string t541, .string t542] 24 (0, 0))) := ⟨by (with_reducible repeat (first | refine blk_drewN ?_ _ | refine blk_drew ?_ | refine blk_alloc ?_ _)); refine blk_far ?_ NB543_559.out _; (with_reducible repeat (first | refine blk_drewN ?_ _ | refine blk_drew ?_ | refine blk_alloc ?_ _)); refine blk_far ?_ NB543_559.out _; (with_reducible repeat (first | refine blk_drewN ?_ _ | refine blk_drew ?_ | refine blk_alloc ?_ _)); exact BK543.out⟩
    have n5_ : Aside0 (((w81.setCell ⟨gb559, 0, none⟩ (.string t556)).setCell ⟨gb559, 1, none⟩ (.string t557)).heap[gb551]? = some (.cells #[.string t548, .string t549] 24 (0, 0))) := ⟨by (with_reducible repeat (first | refine blk_drewN ?_ _ | refine blk_drew ?_ | refine blk_alloc ?_ _)); refine blk_far ?_ NB551_559.out _; (with_reducible repeat (first | refine blk_drewN ?_ _ | refine blk_drew ?_ | refine blk_alloc ?_ _)); refine blk_far ?_ NB551_559.out _; (with_reducible repeat (first | refine blk_drewN ?_ _ | refine blk_drew ?_ | refine blk_alloc ?_ _)); exact BK551.out⟩
    have n6_ : Aside0 (((w81.setCell ⟨gb559, 0, none⟩ (.string t556)).setCell ⟨gb559, 1, none⟩ (.string t557)).heap[gb559]? = some (.cells #[.string t556, .string t557] 24 (0, 0))) := ⟨by (with_reducible repeat (first | refine blk_drewN ?_ _ | refine blk_drew ?_ | refine blk_alloc ?_ _)); refine blk_put (cs := #[.string t556, .string (⟨#[]⟩ : ByteArray)]) ?_ 1 _ rfl; (with_reducible repeat (first | refine blk_drewN ?_ _ | refine blk_drew ?_ | refine blk_alloc ?_ _)); refine blk_put (cs := #[.string (⟨#[]⟩ : ByteArray), .string (⟨#[]⟩ : ByteArray)]) ?_ 0 _ rfl; (with_reducible repeat (first | refine blk_drewN ?_ _ | refine blk_drew ?_ | refine blk_alloc ?_ _)); exact BK559.out⟩
    have n7_ : Aside0 (Below w.heap.size w ((w81.setCell ⟨gb559, 0, none⟩ (.string t556)).setCell ⟨gb559, 1, none⟩ (.string t557))) := ⟨bl_⟩
    (try clear BK521); (try clear BK522); (try clear BK523); (try clear BK528); (try clear BK543); (try clear BK551); (try clear BK559); (try clear HB)
    generalize ((w81.setCell ⟨gb559, 0, none⟩ (.string t556)).setCell ⟨gb559, 1, none⟩ (.string t557)) = w84 at n0_ n1_ n2_ n3_ n4_ n5_ n6_ n7_ ⊢
    have BK521 := n0_
    have BK522 := n1_
    have BK523 := n2_
    have BK528 := n3_
    have BK543 := n4_
    have BK551 := n5_
    have BK559 := n6_
    have HB := n7_
    clear n0_ n1_ n2_ n3_ n4_ n5_ n6_ n7_
    have n0_ := Aside0.mk (blk_drew BK521.out)
    have n1_ := Aside0.mk (blk_drew BK522.out)
    have n2_ := Aside0.mk (blk_drew BK523.out)
    have n3_ := Aside0.mk (blk_drew BK528.out)
    have n4_ := Aside0.mk (blk_drew BK543.out)
    have n5_ := Aside0.mk (blk_drew BK551.out)
    have n6_ := Aside0.mk (blk_drew BK559.out)
    have n7_ := Aside0.mk (below_drew1 HB.out)
    clear BK521
    clear BK522
    clear BK523
    clear BK528
    clear BK543
    clear BK551
    clear BK559
    clear HB
    have BK521 := n0_
    have BK522 := n1_
    have BK523 := n2_
    have BK528 := n3_
    have BK543 := n4_
    have BK551 := n5_
    have BK559 := n6_
    have HB := n7_
    clear n0_ n1_ n2_ n3_ n4_ n5_ n6_ n7_
    refine start_ (n := 4) (S := fun w' => w'.cell? ⟨gb559, 0, none⟩ = some (.string t556) ∧ w'.cell? ⟨gb559, 1, none⟩ = some (.string t557) ∧ w'.cell? ⟨gb551, 0, none⟩ = some (.string t548) ∧ w'.cell? ⟨gb551, 1, none⟩ = some (.string t549)) (ds := []) #[false, false, false, false] (by kernel_rfl) rfl rfl ⟨(blk_cell BK559.out 0).trans rfl, (blk_cell BK559.out 1).trans rfl, (blk_cell BK551.out 0).trans rfl, (blk_cell BK551.out 1).trans rfl⟩ (fun hHeld => ?_)
    generalize w84.drew = w85 at BK521 BK522 BK523 BK528 BK543 BK551 BK559 HB hHeld ⊢
    refine take_ (i := 0) (N := some 50) (v := ?_) (a' := ?_) #[true, false, false, false] rfl rfl (by kernel_rfl) (fun _ _ _ h => h) (Or.inl ⟨by rfl, ?_⟩) hHeld ?_ ?_
    rotate_left
    ·rintro w' ⟨s0, s1, s2, s3⟩
     go_simp
     with_reducible rfl
    rotate_left
    ·simp only [Act.put, List.setIfInBounds_toArray, List.set_cons_zero, List.set_cons_succ, i64_w, i32_w]
     rfl
    refine take_ (i := 1) (N := some 51) (v := ?_) (a' := ?_) #[true, true, false, false] rfl rfl (by kernel_rfl) (fun _ _ _ h => h) (Or.inl ⟨by rfl, ?_⟩) hHeld ?_ ?_
    rotate_left
    ·rintro w' ⟨s0, s1, s2, s3⟩
     go_simp
     with_reducible rfl
    rotate_left
    ·simp only [Act.put, List.setIfInBounds_toArray, List.set_cons_zero, List.set_cons_succ, i64_w, i32_w]
     rfl
    refine one_ (i := 2) (N := none) #[true, true, true, false] rfl rfl (by kernel_rfl) (by decide) (fun K hK => ?_)
    have hs86 : w85.cell? ⟨gb521, 0, none⟩ = some (.string x522000_1) := (blk_cell BK521.out 0).trans rfl
    have hfs86 := blk_frozen BK521.out 0
    have hns86_1 := NB522_521.out
    have hns86_2 := NB523_521.out
    have hns86_3 := NB528_521.out
    have hns86_4 := NB543_521.out
    have hns86_5 := NB551_521.out
    have hns86_6 := NB559_521.out
    have hms86_1 := NB521_522.out
    have hms86_2 := NB521_523.out
    have hms86_3 := NB521_528.out
    have hms86_4 := NB521_543.out
    have hms86_5 := NB521_551.out
    have hms86_6 := NB521_559.out
    have hs87 : w85.cell? ⟨gb521, 1, none⟩ = some (.string x522001_1) := (blk_cell BK521.out 1).trans rfl
    have hfs87 := blk_frozen BK521.out 1
    have hns87_1 := NB522_521.out
    have hns87_2 := NB523_521.out
    have hns87_3 := NB528_521.out
    have hns87_4 := NB543_521.out
    have hns87_5 := NB551_521.out
    have hns87_6 := NB559_521.out
    have hms87_1 := NB521_522.out
    have hms87_2 := NB521_523.out
    have hms87_3 := NB521_528.out
    have hms87_4 := NB521_543.out
    have hms87_5 := NB521_551.out
    have hms87_6 := NB521_559.out
    refine skip_ (w1 := ?_) (by rfl) rfl ?_ ?_
    rotate_left
    ·go_simp
     rfl
    refine hK.out _ _ ⟨((cell_far (p := ⟨gb521, _, none⟩) NB559_521.out _).trans (((cell_far (p := ⟨gb521, _, none⟩) NB559_521.out _).trans (hHeld.1)))), ((cell_far (p := ⟨gb521, _, none⟩) NB559_521.out _).trans (((cell_far (p := ⟨gb521, _, none⟩) NB559_521.out _).trans (hHeld.2.1)))), ((cell_far (p := ⟨gb521, _, none⟩) NB551_521.out _).trans (((cell_far (p := ⟨gb521, _, none⟩) NB551_521.out _).trans (hHeld.2.2.1)))), ((cell_far (p := ⟨gb521, _, none⟩) NB551_521.out _).trans (((cell_far (p := ⟨gb521, _, none⟩) NB551_521.out _).trans (hHeld.2.2.2))))⟩ (fun hHeld => ?_)
    clear hK K
    refine one_ (i := 3) (N := none) #[true, true, true, true] rfl rfl (by kernel_rfl) (by decide) (fun K hK => ?_)
    have hs88 : w85.cell? ⟨gb522, 0, none⟩ = some (.string x523000_1) := (blk_cell BK522.out 0).trans rfl
    have hfs88 := blk_frozen BK522.out 0
    have hns88_0 := NB521_522.out
    have hns88_2 := NB523_522.out
    have hns88_3 := NB528_522.out
    have hns88_4 := NB543_522.out
    have hns88_5 := NB551_522.out
    have hns88_6 := NB559_522.out
    have hms88_0 := NB522_521.out
    have hms88_2 := NB522_523.out
    have hms88_3 := NB522_528.out
    have hms88_4 := NB522_543.out
    have hms88_5 := NB522_551.out
    have hms88_6 := NB522_559.out
    have hs89 : w85.cell? ⟨gb522, 1, none⟩ = some (.string x523001_1) := (blk_cell BK522.out 1).trans rfl
    have hfs89 := blk_frozen BK522.out 1
    have hns89_0 := NB521_522.out
    have hns89_2 := NB523_522.out
    have hns89_3 := NB528_522.out
    have hns89_4 := NB543_522.out
    have hns89_5 := NB551_522.out
    have hns89_6 := NB559_522.out
    have hms89_0 := NB522_521.out
    have hms89_2 := NB522_523.out
    have hms89_3 := NB522_528.out
    have hms89_4 := NB522_543.out
    have hms89_5 := NB522_551.out
    have hms89_6 := NB522_559.out
    refine skip_ (w1 := ?_) (by rfl) rfl ?_ ?_
    rotate_left
    ·go_simp
     rfl
    refine hK.out _ _ ⟨((cell_far (p := ⟨gb522, _, none⟩) NB559_522.out _).trans (((cell_far (p := ⟨gb522, _, none⟩) NB559_522.out _).trans (hHeld.1)))), ((cell_far (p := ⟨gb522, _, none⟩) NB559_522.out _).trans (((cell_far (p := ⟨gb522, _, none⟩) NB559_522.out _).trans (hHeld.2.1)))), ((cell_far (p := ⟨gb522, _, none⟩) NB551_522.out _).trans (((cell_far (p := ⟨gb522, _, none⟩) NB551_522.out _).trans (hHeld.2.2.1)))), ((cell_far (p := ⟨gb522, _, none⟩) NB551_522.out _).trans (((cell_far (p := ⟨gb522, _, none⟩) NB551_522.out _).trans (hHeld.2.2.2))))⟩ (fun hHeld => ?_)
    clear hK K
    refine done_ (by kernel_rfl) ?_
    try go_wp2
    go_roundg k1
    case measure => have := HK1.out; omega
    case rel => exact ⟨(t556), (t557), (t548), (t549), (x524000_1), (x524001_1), (t537), (t538), (t539), (t540), H', ⟨by have := HK1.out; omega⟩, ⟨by (with_reducible repeat (first | refine blk_drewN ?_ _ | refine blk_drew ?_ | refine blk_alloc ?_ _)); refine blk_far ?_ NB521_522.out _; (with_reducible repeat (first | refine blk_drewN ?_ _ | refine blk_drew ?_ | refine blk_alloc ?_ _)); refine blk_far ?_ NB521_522.out _; (with_reducible repeat (first | refine blk_drewN ?_ _ | refine blk_drew ?_ | refine blk_alloc ?_ _)); refine blk_put (cs := #[.string t556, .string x522001_1]) ?_ 1 _ rfl; (with_reducible repeat (first | refine blk_drewN ?_ _ | refine blk_drew ?_ | refine blk_alloc ?_ _)); refine blk_put (cs := #[.string x522000_1, .string x522001_1]) ?_ 0 _ rfl; (with_reducible repeat (first | refine blk_drewN ?_ _ | refine blk_drew ?_ | refine blk_alloc ?_ _)); exact BK521.out⟩, ⟨by (with_reducible repeat (first | refine blk_drewN ?_ _ | refine blk_drew ?_ | refine blk_alloc ?_ _)); refine blk_put (cs := #[.string t548, .string x523001_1]) ?_ 1 _ rfl; (with_reducible repeat (first | refine blk_drewN ?_ _ | refine blk_drew ?_ | refine blk_alloc ?_ _)); refine blk_put (cs := #[.string x523000_1, .string x523001_1]) ?_ 0 _ rfl; (with_reducible repeat (first | refine blk_drewN ?_ _ | refine blk_drew ?_ | refine blk_alloc ?_ _)); refine blk_far ?_ NB522_521.out _; (with_reducible repeat (first | refine blk_drewN ?_ _ | refine blk_drew ?_ | refine blk_alloc ?_ _)); refine blk_far ?_ NB522_521.out _; (with_reducible repeat (first | refine blk_drewN ?_ _ | refine blk_drew ?_ | refine blk_alloc ?_ _)); exact BK522.out⟩, ⟨by (with_reducible repeat (first | refine blk_drewN ?_ _ | refine blk_drew ?_ | refine blk_alloc ?_ _)); refine blk_far ?_ NB523_522.out _; (with_reducible repeat (first | refine blk_drewN ?_ _ | refine blk_drew ?_ | refine blk_alloc ?_ _)); refine blk_far ?_ NB523_522.out _; (with_reducible repeat (first | refine blk_drewN ?_ _ | refine blk_drew ?_ | refine blk_alloc ?_ _)); refine blk_far ?_ NB523_521.out _; (with_reducible repeat (first | refine blk_drewN ?_ _ | refine blk_drew ?_ | refine blk_alloc ?_ _)); refine blk_far ?_ NB523_521.out _; (with_reducible repeat (first | refine blk_drewN ?_ _ | refine blk_drew ?_ | refine blk_alloc ?_ _)); exact BK523.out⟩, ⟨by (with_reducible repeat (first | refine blk_drewN ?_ _ | refine blk_drew ?_ | refine blk_alloc ?_ _)); refine blk_far ?_ NB528_522.out _; (with_reducible repeat (first | refine blk_drewN ?_ _ | refine blk_drew ?_ | refine blk_alloc ?_ _)); refine blk_far ?_ NB528_522.out _; (with_reducible repeat (first | refine blk_drewN ?_ _ | refine blk_drew ?_ | refine blk_alloc ?_ _)); refine blk_far ?_ NB528_521.out _; (with_reducible repeat (first | refine blk_drewN ?_ _ | refine blk_drew ?_ | refine blk_alloc ?_ _)); refine blk_far ?_ NB528_521.out _; (with_reducible repeat (first | refine blk_drewN ?_ _ | refine blk_drew ?_ | refine blk_alloc ?_ _)); exact BK528.out⟩, ⟨bl_⟩⟩
end Go.Proofs.YtidajgkepdkcbaaGreatDoor.PF
end
section
namespace Go.Proofs.YtidajgkepdkcbaaGreatDoor.PF
open Go.RowKit Go.Proofs.YtidajgkepdkcbaaGreatDoorW.PrintWords Go.Proofs.YtidajgkepdkcbaaGreatDoorW.PrintLast Go.Proofs.YtidajgkepdkcbaaGreatDoorW.PrintMore
attribute [local go_sem] max2_int min2_int max_two min_two max_three min_three max_four min_four
mutual
def convergent_Simplest.j0 : Nat → Bool → ByteArray → ByteArray → ByteArray → ByteArray → Option (ByteArray × ByteArray × Int)
 | 0, _, _, _, _, _ => none
 | k + 1, x6, x561000, x561001, x562000, x562001 => if x6 = true then (some ((⟨#[]⟩ : ByteArray), (⟨#[]⟩ : ByteArray), 2)) else ((fraction_Compare.f k x561000 x561001 x562000 x562001).bind fun t565 => (if t565 > 0 then (some ((⟨#[]⟩ : ByteArray), (⟨#[]⟩ : ByteArray), 6)) else ((fraction_Sign.f x561000 x561001).bind fun t566 => (if t566 ≤ 0 then ((fraction_Sign.f x562000 x562001).bind fun t567 => (convergent_Simplest.j1 k (decide (t567 ≥ 0)) x561000 x561001 x562000 x562001)) else (convergent_Simplest.j1 k false x561000 x561001 x562000 x562001)))))
def convergent_Simplest.j1 : Nat → Bool → ByteArray → ByteArray → ByteArray → ByteArray → Option (ByteArray × ByteArray × Int)
 | 0, _, _, _, _, _ => none
 | k + 1, x20, x561000, x561001, x562000, x562001 => if x20 = true then ((convergent_over.f k (⟨#[48]⟩ : ByteArray) (⟨#[49]⟩ : ByteArray)).bind fun bt568 => (some (bt568.1, bt568.2, 0))) else ((fraction_Sign.f x562000 x562001).bind fun t570 => (if t570 < 0 then ((fraction_Neg.f x562000 x562001).bind fun bt571 => ((fraction_Neg.f x561000 x561001).bind fun bt573 => ((convergent_simplest.f k bt571.1 bt571.2 bt573.1 bt573.2).bind fun bt575 => ((fraction_Neg.f bt575.1 bt575.2).bind fun bt577 => (some (bt577.1, bt577.2, 0)))))) else ((convergent_simplest.f k x561000 x561001 x562000 x562001).bind fun bt579 => (some (bt579.1, bt579.2, 0)))))
end
def convergent_Simplest.f (k : Nat) (a0_0 : ByteArray) (a0_1 : ByteArray) (a1_0 : ByteArray) (a1_1 : ByteArray) : Option (ByteArray × ByteArray × Int) := (convergent_wrong.f k a0_0 a0_1).bind fun t563 => (if t563 = true then (convergent_Simplest.j0 k true a0_0 a0_1 a1_0 a1_1) else ((convergent_wrong.f k a1_0 a1_1).bind fun t564 => (convergent_Simplest.j0 k t564 a0_0 a0_1 a1_0 a1_1)))
def convergent_Simplest.T8 : Bool × List (List Nat × List Nat) := (true, [([], []), ([0], [0]), ([], []), ([2, 1], [2]), ([1, 3, 3], [1, 3]), ([4, 4], [4]), ([5, 5, 0, 1, 2, 3, 4, 5], [5]), ([6, 0, 1, 2, 3, 4, 5, 6], [])])
def convergent_Simplest.B8 : List Nat := [0, 1, 0, 7, 15, 31, 63, 127]
theorem convergent_Simplest.tab8 : rtab .any (opsOf Tryz.f38 8) = convergent_Simplest.T8 := by kernel_rfl
theorem convergent_Simplest.bits8 : waitsOk convergent_Simplest.T8.2 convergent_Simplest.B8 = true := by kernel_rfl
set_option maxHeartbeats 8000000 in
set_option maxRecDepth 100000 in
theorem convergent_Simplest.calls (k : Nat) (a0_0 : ByteArray) (a0_1 : ByteArray) (a1_0 : ByteArray) (a1_1 : ByteArray) (r1 : ByteArray) (r2 : ByteArray) (r3 : Int) (w : World) (hG_ : GWorld w) (h : convergent_Simplest.f k a0_0 a0_1 a1_0 a1_1 = some (r1, r2, r3)) :
  Calls Tryz.prog 38 #[.agg #[.string a0_0, .string a0_1], .agg #[.string a1_0, .string a1_1]] w fun e w' => e = .returned (.tuple #[.agg #[.string r1, .string r2], .int .i64 r3]) ∧ Below w.heap.size w w' := by
 have hu24 := Tryz.underlying24
 have HB := Aside0.mk (Below.refl w.heap.size w)
 have HG := Aside0.mk hG_
 clear hG_
 have H : ((convergent_wrong.f k a0_0 a0_1).bind fun t563 => (if t563 = true then (convergent_Simplest.j0 k true a0_0 a0_1 a1_0 a1_1) else ((convergent_wrong.f k a1_0 a1_1).bind fun t564 => (convergent_Simplest.j0 k t564 a0_0 a0_1 a1_0 a1_1)))) = some (r1, r2, r3) := h
 clear h
 have HC3 := Aside0.mk H
 clear H
 go_enter Tryz.func38, Tryz.ntmps38
 go_upto_region 1 with (first | ((with_reducible refine gate_dst (N := 2) rfl ?_); refine bx_ 2 #[.string a0_0, .string a0_1] 24 ?_; clear HB; intro gb560 w4 BK560 GW560 HB; have GE560 := GW560) | ((with_reducible refine gate_dst (N := 3) rfl ?_); refine box_event ?hg (N := 3) ?hd (cs := #[.string a1_0, .string a1_1]) (t := 24) ?hr ?_; (case hd => rfl); (case hg => rfl); (case hr => first | (go_simp; done) | (go_simp; rfl)); intro gb561 hg w5 hbox hb; have BK561 := Aside0.mk (hbox); have GW561 := ge_ (w := w) hg; have GE561 := ge_ (w := w) hg; replace HB := bs_ hb; have NB560_561 := nl_ hg BK560; have NB561_560 := ng_ hg BK560; replace BK560 := kb_ BK560 hb; clear hb hbox hg) | ((with_reducible refine gate_dst (N := 4) rfl ?_); refine box_event ?hg (N := 4) ?hd (cs := #[.string (⟨#[]⟩ : ByteArray), .string (⟨#[]⟩ : ByteArray)]) (t := 24) ?hr ?_; (case hd => rfl); (case hg => rfl); (case hr => first | (go_simp; done) | (go_simp; rfl)); intro gb562 hg w6 hbox hb; have BK562 := Aside0.mk (hbox); have GW562 := ge_ (w := w) hg; have GE562 := ge_ (w := w) hg; replace HB := bs_ hb; have NB560_562 := nl_ hg BK560; have NB562_560 := ng_ hg BK560; replace BK560 := kb_ BK560 hb; have NB561_562 := nl_ hg BK561; have NB562_561 := ng_ hg BK561; replace BK561 := kb_ BK561 hb; clear hb hbox hg))
 (try simp only [Act.put, List.setIfInBounds_toArray, List.set_cons_zero, List.set_cons_succ])
 go_cut [6] (fun v6 wc => ∃ (kq : Nat) (x6_2 : Bool), v6 = .bool x6_2 ∧ Aside0 (convergent_Simplest.j0 kq x6_2 a0_0 a0_1 a1_0 a1_1 = some (r1, r2, r3)) ∧ Aside0 (kq ≤ k) ∧ Aside0 (wc.heap[gb560]? = some (.cells #[.string a0_0, .string a0_1] 24 (0, 0))) ∧ Aside0 (wc.heap[gb561]? = some (.cells #[.string a1_0, .string a1_1] 24 (0, 0))) ∧ Aside0 (wc.heap[gb562]? = some (.cells #[.string (⟨#[]⟩ : ByteArray), .string (⟨#[]⟩ : ByteArray)] 24 (0, 0))) ∧ Aside0 (Below w.heap.size w wc))
 case first =>
  have H := HC3.out
  clear HC3
  replace H := Option.bind_eq_some_iff.mp H
  obtain ⟨t563, A70, H⟩ := H
  replace H : (if t563 = true then (convergent_Simplest.j0 k true a0_0 a0_1 a1_0 a1_1) else ((convergent_wrong.f k a1_0 a1_1).bind fun t564 => (convergent_Simplest.j0 k t564 a0_0 a0_1 a1_0 a1_1))) = some (r1, r2, r3) := H
  have A7 := Aside0.mk A70
  clear A70
  by_cases c8 : t563 = true
  ·subst c8
   have H1 : (convergent_Simplest.j0 k true a0_0 a0_1 a1_0 a1_1) = some (r1, r2, r3) := by rw [if_pos rfl] at H; exact H
   clear H
   have H := H1
   clear H1
   have H' := Aside0.mk H
   clear H
   have hnb9 := NB560_561.out
   have hnc9 := NB561_560.out
   have hnb10 := NB560_562.out
   have hnc10 := NB562_560.out
   have hcz11_0 : w6.cell? ⟨gb560, 0, none⟩ = some (.string a0_0) := (blk_cell BK560.out 0).trans rfl
   have hcz11_1 : w6.cell? ⟨gb560, 1, none⟩ = some (.string a0_1) := (blk_cell BK560.out 1).trans rfl
   have hfz11_0 := blk_frozen BK560.out 0
   have hfz11_1 := blk_frozen BK560.out 1
   go_wp2_with (first | ((with_reducible refine gate_callee (f := 40) rfl ?_); refine goesL_ (some 8) rfl rfl Tryz.func40 (by kernel_rfl) rfl #[.agg #[.string a0_0, .string a0_1]] rfl mp_ ?_; (with_reducible refine (convergent_wrong.calls k a0_0 a0_1 true _ ?side1 A7.out).mono ?_); (case side1 => exact gw_ HG); rintro e w12 ⟨rfl, hb⟩; refine ⟨_, rfl, ?_⟩; replace BK560 := kb_ BK560 hb; replace BK561 := kb_ BK561 hb; replace BK562 := kb_ BK562 hb; replace HB := bs_ hb; (try clear hb); (try clear hb2); (try clear hk); (try clear hi)))
   go_meet
   case rel => exact ⟨_, (true), (by first | rfl | (simp; done) | (simp [*]; done)), H', ⟨by first | omega | exact Nat.le_refl _⟩, ⟨bk_⟩, ⟨bk_⟩, ⟨bk_⟩, ⟨bl_⟩⟩
  ·replace c8 := Bool.eq_false_iff.mpr c8
   subst c8
   have H1 : ((convergent_wrong.f k a1_0 a1_1).bind fun t564 => (convergent_Simplest.j0 k t564 a0_0 a0_1 a1_0 a1_1)) = some (r1, r2, r3) := by rw [if_neg (show ¬ (false = true) by decide)] at H; exact H
   clear H
   have H := H1
   clear H1
   replace H := Option.bind_eq_some_iff.mp H
   obtain ⟨t564, A130, H⟩ := H
   replace H : (convergent_Simplest.j0 k t564 a0_0 a0_1 a1_0 a1_1) = some (r1, r2, r3) := H
   have A13 := Aside0.mk A130
   clear A130
   have H' := Aside0.mk H
   clear H
   have hnb14 := NB560_561.out
   have hnc14 := NB561_560.out
   have hnb15 := NB560_562.out
   have hnc15 := NB562_560.out
   have hcz16_0 : w6.cell? ⟨gb560, 0, none⟩ = some (.string a0_0) := (blk_cell BK560.out 0).trans rfl
   have hcz16_1 : w6.cell? ⟨gb560, 1, none⟩ = some (.string a0_1) := (blk_cell BK560.out 1).trans rfl
   have hfz16_0 := blk_frozen BK560.out 0
   have hfz16_1 := blk_frozen BK560.out 1
   go_wp2_with (first | ((with_reducible refine gate_callee (f := 40) rfl ?_); refine goesL_ (some 8) rfl rfl Tryz.func40 (by kernel_rfl) rfl #[.agg #[.string a0_0, .string a0_1]] rfl mp_ ?_; (with_reducible refine (convergent_wrong.calls k a0_0 a0_1 false _ ?side1 A7.out).mono ?_); (case side1 => exact gw_ HG); rintro e w17 ⟨rfl, hb⟩; refine ⟨_, rfl, ?_⟩; replace BK560 := kb_ BK560 hb; replace BK561 := kb_ BK561 hb; replace BK562 := kb_ BK562 hb; replace HB := bs_ hb; (try clear hb); (try clear hb2); (try clear hk); (try clear hi); have hnb18 := NB561_562.out; have hnc18 := NB562_561.out; obtain ⟨hcz19_0, hcz19_1, hfz19_0, hfz19_1⟩ := c2_ BK561) | (go_at_call 40; (with_reducible refine (convergent_wrong.calls k a1_0 a1_1 t564 _ ?side1 A13.out).mono ?_); (case side1 => exact gw_ HG); rintro e w20 ⟨rfl, hb⟩; replace BK560 := kb_ BK560 hb; replace BK561 := kb_ BK561 hb; replace BK562 := kb_ BK562 hb; replace HB := bs_ hb; (try clear hb); (try clear hb2); (try clear hk); (try clear hi)))
   go_meet
   case rel => exact ⟨_, (t564), (by first | rfl | (simp; done) | (simp [*]; done)), H', ⟨by first | omega | exact Nat.le_refl _⟩, ⟨bk_⟩, ⟨bk_⟩, ⟨bk_⟩, ⟨bl_⟩⟩
 case rest =>
  clear HC3
  try clear c1
  try clear p2
  try clear c3
  try clear c4
  try clear c8
  try clear c9
  try clear c10
  try clear c14
  try clear c15
  try clear c18
  try clear hcz11_0
  try clear hcz11_1
  try clear hcz16_0
  try clear hcz16_1
  try clear hcz19_0
  try clear hcz19_1
  try clear hfz11_0
  try clear hfz11_1
  try clear hfz16_0
  try clear hfz16_1
  try clear hfz19_0
  try clear hfz19_1
  obtain ⟨kq, x6_2, rfl, HA, HJ2, BK560, BK561, BK562, HB⟩ := hcut
  cases kq with
  | zero => exact absurd HA.out (by simp [convergent_Simplest.j0])
  | succ kj2 =>
   have H := HA.out
   clear HA
   simp only [convergent_Simplest.j0] at H
   by_cases c21 : x6_2 = true
   ·subst c21
    have H1 : (some ((⟨#[]⟩ : ByteArray), (⟨#[]⟩ : ByteArray), 2)) = some (r1, r2, r3) := by rw [if_pos rfl] at H; exact H
    clear H
    have H := H1
    clear H1
    simp only [Option.some.injEq, Prod.mk.injEq] at H
    obtain ⟨rfl, rfl, rfl⟩ := H
    have hnb22 := NB562_560.out
    have hnc22 := NB560_562.out
    have hnb23 := NB562_561.out
    have hnc23 := NB561_562.out
    have hcz24_0 : wc.cell? ⟨gb562, 0, none⟩ = some (.string (⟨#[]⟩ : ByteArray)) := (blk_cell BK562.out 0).trans rfl
    have hcz24_1 : wc.cell? ⟨gb562, 1, none⟩ = some (.string (⟨#[]⟩ : ByteArray)) := (blk_cell BK562.out 1).trans rfl
    have hfz24_0 := blk_frozen BK562.out 0
    have hfz24_1 := blk_frozen BK562.out 1
    go_wp2
    refine bodyPost_ret (results_ct rfl _ _ gb562 24 #[.string (⟨#[]⟩ : ByteArray), .string (⟨#[]⟩ : ByteArray)] (0, 0) _ rfl (by (with_reducible repeat (first | refine blk_drewN ?_ _ | refine blk_drew ?_ | refine blk_alloc ?_ _)); refine blk_put (cs := #[.string (⟨#[]⟩ : ByteArray), .string (⟨#[]⟩ : ByteArray)]) ?_ 1 _ rfl; (with_reducible repeat (first | refine blk_drewN ?_ _ | refine blk_drew ?_ | refine blk_alloc ?_ _)); refine blk_put (cs := #[.string (⟨#[]⟩ : ByteArray), .string (⟨#[]⟩ : ByteArray)]) ?_ 0 _ rfl; (with_reducible repeat (first | refine blk_drewN ?_ _ | refine blk_drew ?_ | refine blk_alloc ?_ _)); exact BK562.out) Tryz.underlying24 rfl (by kernel_rfl)) rfl ?_
    exact ⟨er_, bl_⟩
   ·replace c21 := Bool.eq_false_iff.mpr c21
    subst c21
    have H1 : ((fraction_Compare.f kj2 a0_0 a0_1 a1_0 a1_1).bind fun t565 => (if t565 > 0 then (some ((⟨#[]⟩ : ByteArray), (⟨#[]⟩ : ByteArray), 6)) else ((fraction_Sign.f a0_0 a0_1).bind fun t566 => (if t566 ≤ 0 then ((fraction_Sign.f a1_0 a1_1).bind fun t567 => (convergent_Simplest.j1 kj2 (decide (t567 ≥ 0)) a0_0 a0_1 a1_0 a1_1)) else (convergent_Simplest.j1 kj2 false a0_0 a0_1 a1_0 a1_1))))) = some (r1, r2, r3) := by rw [if_neg (show ¬ (false = true) by decide)] at H; exact H
    clear H
    have H := H1
    clear H1
    replace H := Option.bind_eq_some_iff.mp H
    obtain ⟨t565, A250, H⟩ := H
    replace H : (if t565 > 0 then (some ((⟨#[]⟩ : ByteArray), (⟨#[]⟩ : ByteArray), 6)) else ((fraction_Sign.f a0_0 a0_1).bind fun t566 => (if t566 ≤ 0 then ((fraction_Sign.f a1_0 a1_1).bind fun t567 => (convergent_Simplest.j1 kj2 (decide (t567 ≥ 0)) a0_0 a0_1 a1_0 a1_1)) else (convergent_Simplest.j1 kj2 false a0_0 a0_1 a1_0 a1_1)))) = some (r1, r2, r3) := H
    have A25 := Aside0.mk A250
    clear A250
    by_cases c26 : t565 > 0
    ·rw [if_pos c26] at H
     have c26b0 : decide (0 < t565) = true := decide_eq_true c26
     clear c26
     simp only [Option.some.injEq, Prod.mk.injEq] at H
     obtain ⟨rfl, rfl, rfl⟩ := H
     have hnb27 := NB560_561.out
     have hnc27 := NB561_560.out
     have hnb28 := NB560_562.out
     have hnc28 := NB562_560.out
     have hcz29_0 : wc.cell? ⟨gb560, 0, none⟩ = some (.string a0_0) := (blk_cell BK560.out 0).trans rfl
     have hcz29_1 : wc.cell? ⟨gb560, 1, none⟩ = some (.string a0_1) := (blk_cell BK560.out 1).trans rfl
     have hfz29_0 := blk_frozen BK560.out 0
     have hfz29_1 := blk_frozen BK560.out 1
     have hnb30 := NB561_562.out
     have hnc30 := NB562_561.out
     have hcz31_0 : wc.cell? ⟨gb561, 0, none⟩ = some (.string a1_0) := (blk_cell BK561.out 0).trans rfl
     have hcz31_1 : wc.cell? ⟨gb561, 1, none⟩ = some (.string a1_1) := (blk_cell BK561.out 1).trans rfl
     have hfz31_0 := blk_frozen BK561.out 0
     have hfz31_1 := blk_frozen BK561.out 1
     go_wp2_with (first | ((with_reducible refine gate_callee (f := 56) rfl ?_); refine goesL_ (some 17) rfl rfl Tryz.func56 (by kernel_rfl) rfl #[.agg #[.string a0_0, .string a0_1], .agg #[.string a1_0, .string a1_1]] rfl mp_ ?_; (with_reducible refine (fraction_Compare.calls kj2 a0_0 a0_1 a1_0 a1_1 t565 _ ?side1 A25.out).mono ?_); (case side1 => exact gw_ HG); rintro e w32 ⟨rfl, hb⟩; refine ⟨_, rfl, ?_⟩; replace BK560 := kb_ BK560 hb; replace BK561 := kb_ BK561 hb; replace BK562 := kb_ BK562 hb; replace HB := bs_ hb; (try clear hb); (try clear hb2); (try clear hk); (try clear hi); obtain ⟨hcz33_0, hcz33_1, hfz33_0, hfz33_1⟩ := c2_ BK562))
     refine bodyPost_ret (results_ct rfl _ _ gb562 24 #[.string (⟨#[]⟩ : ByteArray), .string (⟨#[]⟩ : ByteArray)] (0, 0) _ rfl (by (with_reducible repeat (first | refine blk_drewN ?_ _ | refine blk_drew ?_ | refine blk_alloc ?_ _)); refine blk_put (cs := #[.string (⟨#[]⟩ : ByteArray), .string (⟨#[]⟩ : ByteArray)]) ?_ 1 _ rfl; (with_reducible repeat (first | refine blk_drewN ?_ _ | refine blk_drew ?_ | refine blk_alloc ?_ _)); refine blk_put (cs := #[.string (⟨#[]⟩ : ByteArray), .string (⟨#[]⟩ : ByteArray)]) ?_ 0 _ rfl; (with_reducible repeat (first | refine blk_drewN ?_ _ | refine blk_drew ?_ | refine blk_alloc ?_ _)); exact BK562.out) Tryz.underlying24 rfl (by kernel_rfl)) rfl ?_
     exact ⟨er_, bl_⟩
    ·rw [if_neg c26] at H
     have c26b0 : decide (0 < t565) = false := decide_eq_false c26
     clear c26
     have HC34 := Aside0.mk H
     clear H
     have hnb35 := NB560_561.out
     have hnc35 := NB561_560.out
     have hnb36 := NB560_562.out
     have hnc36 := NB562_560.out
     have hcz37_0 : wc.cell? ⟨gb560, 0, none⟩ = some (.string a0_0) := (blk_cell BK560.out 0).trans rfl
     have hcz37_1 : wc.cell? ⟨gb560, 1, none⟩ = some (.string a0_1) := (blk_cell BK560.out 1).trans rfl
     have hfz37_0 := blk_frozen BK560.out 0
     have hfz37_1 := blk_frozen BK560.out 1
     have hnb38 := NB561_562.out
     have hnc38 := NB562_561.out
     have hcz39_0 : wc.cell? ⟨gb561, 0, none⟩ = some (.string a1_0) := (blk_cell BK561.out 0).trans rfl
     have hcz39_1 : wc.cell? ⟨gb561, 1, none⟩ = some (.string a1_1) := (blk_cell BK561.out 1).trans rfl
     have hfz39_0 := blk_frozen BK561.out 0
     have hfz39_1 := blk_frozen BK561.out 1
     go_upto_region 5 with (first | ((with_reducible refine gate_callee (f := 56) rfl ?_); refine goesL_ (some 17) rfl rfl Tryz.func56 (by kernel_rfl) rfl #[.agg #[.string a0_0, .string a0_1], .agg #[.string a1_0, .string a1_1]] rfl mp_ ?_; (with_reducible refine (fraction_Compare.calls kj2 a0_0 a0_1 a1_0 a1_1 t565 _ ?side1 A25.out).mono ?_); (case side1 => exact gw_ HG); rintro e w40 ⟨rfl, hb⟩; refine ⟨_, rfl, ?_⟩; replace BK560 := kb_ BK560 hb; replace BK561 := kb_ BK561 hb; replace BK562 := kb_ BK562 hb; replace HB := bs_ hb; (try clear hb); (try clear hb2); (try clear hk); (try clear hi)))
     (try simp only [Act.put, List.setIfInBounds_toArray, List.set_cons_zero, List.set_cons_succ])
     go_cut [20] (fun v20 wc => ∃ (kq : Nat) (x20_33 : Bool), v20 = .bool x20_33 ∧ Aside0 (convergent_Simplest.j1 kq x20_33 a0_0 a0_1 a1_0 a1_1 = some (r1, r2, r3)) ∧ Aside0 (kq ≤ kj2) ∧ Aside0 (wc.heap[gb560]? = some (.cells #[.string a0_0, .string a0_1] 24 (0, 0))) ∧ Aside0 (wc.heap[gb561]? = some (.cells #[.string a1_0, .string a1_1] 24 (0, 0))) ∧ Aside0 (wc.heap[gb562]? = some (.cells #[.string (⟨#[]⟩ : ByteArray), .string (⟨#[]⟩ : ByteArray)] 24 (0, 0))) ∧ Aside0 (Below w.heap.size w wc))
     case first =>
      have H := HC34.out
      clear HC34
      replace H := Option.bind_eq_some_iff.mp H
      obtain ⟨t566, A410, H⟩ := H
      replace H : (if t566 ≤ 0 then ((fraction_Sign.f a1_0 a1_1).bind fun t567 => (convergent_Simplest.j1 kj2 (decide (t567 ≥ 0)) a0_0 a0_1 a1_0 a1_1)) else (convergent_Simplest.j1 kj2 false a0_0 a0_1 a1_0 a1_1)) = some (r1, r2, r3) := H
      have A41 := Aside0.mk A410
      clear A410
      by_cases c42 : t566 ≤ 0
      ·rw [if_pos c42] at H
       have c42b0 : decide (t566 ≤ 0) = true := decide_eq_true c42
       clear c42
       (first | rw [c42b0] | (simp only [i64_w, i32_w]; rw [c42b0]) | skip)
       replace H := Option.bind_eq_some_iff.mp H
       obtain ⟨t567, A430, H⟩ := H
       replace H : (convergent_Simplest.j1 kj2 (decide (t567 ≥ 0)) a0_0 a0_1 a1_0 a1_1) = some (r1, r2, r3) := H
       have A43 := Aside0.mk A430
       clear A430
       have H' := Aside0.mk H
       clear H
       have hnb44 := NB560_561.out
       have hnc44 := NB561_560.out
       have hnb45 := NB560_562.out
       have hnc45 := NB562_560.out
       have hcz46_0 : w40.cell? ⟨gb560, 0, none⟩ = some (.string a0_0) := (blk_cell BK560.out 0).trans rfl
       have hcz46_1 : w40.cell? ⟨gb560, 1, none⟩ = some (.string a0_1) := (blk_cell BK560.out 1).trans rfl
       have hfz46_0 := blk_frozen BK560.out 0
       have hfz46_1 := blk_frozen BK560.out 1
       go_wp2_with (first | ((with_reducible refine gate_callee (f := 64) rfl ?_); refine goesL_ (some 22) rfl rfl Tryz.func64 (by kernel_rfl) rfl #[.agg #[.string a0_0, .string a0_1]] rfl mp_ ?_; (with_reducible refine (fraction_Sign.calls a0_0 a0_1 t566 _ A41.out).mono ?_); rintro e w47 ⟨rfl, hb⟩; refine ⟨_, rfl, ?_⟩; replace BK560 := kb_ BK560 hb; replace BK561 := kb_ BK561 hb; replace BK562 := kb_ BK562 hb; replace HB := bs_ hb; (try clear hb); (try clear hb2); (try clear hk); (try clear hi); have hnb48 := NB561_562.out; have hnc48 := NB562_561.out; obtain ⟨hcz49_0, hcz49_1, hfz49_0, hfz49_1⟩ := c2_ BK561) | (go_at_call 64; (with_reducible refine (fraction_Sign.calls a1_0 a1_1 t567 _ A43.out).mono ?_); rintro e w50 ⟨rfl, hb⟩; replace BK560 := kb_ BK560 hb; replace BK561 := kb_ BK561 hb; replace BK562 := kb_ BK562 hb; replace HB := bs_ hb; (try clear hb); (try clear hb2); (try clear hk); (try clear hi)))
       go_meet
       case rel => exact ⟨_, (decide (t567 ≥ 0)), (by first | rfl | (simp; done) | (simp [*]; done)), H', ⟨by have := HJ2.out; first | omega | exact Nat.le_refl _⟩, ⟨bk_⟩, ⟨bk_⟩, ⟨bk_⟩, ⟨bl_⟩⟩
      ·rw [if_neg c42] at H
       have c42b0 : decide (t566 ≤ 0) = false := decide_eq_false c42
       clear c42
       (first | rw [c42b0] | (simp only [i64_w, i32_w]; rw [c42b0]) | skip)
       have H' := Aside0.mk H
       clear H
       have hnb51 := NB560_561.out
       have hnc51 := NB561_560.out
       have hnb52 := NB560_562.out
       have hnc52 := NB562_560.out
       have hcz53_0 : w40.cell? ⟨gb560, 0, none⟩ = some (.string a0_0) := (blk_cell BK560.out 0).trans rfl
       have hcz53_1 : w40.cell? ⟨gb560, 1, none⟩ = some (.string a0_1) := (blk_cell BK560.out 1).trans rfl
       have hfz53_0 := blk_frozen BK560.out 0
       have hfz53_1 := blk_frozen BK560.out 1
       go_wp2_with (first | ((with_reducible refine gate_callee (f := 64) rfl ?_); refine goesL_ (some 22) rfl rfl Tryz.func64 (by kernel_rfl) rfl #[.agg #[.string a0_0, .string a0_1]] rfl mp_ ?_; (with_reducible refine (fraction_Sign.calls a0_0 a0_1 t566 _ A41.out).mono ?_); rintro e w54 ⟨rfl, hb⟩; refine ⟨_, rfl, ?_⟩; replace BK560 := kb_ BK560 hb; replace BK561 := kb_ BK561 hb; replace BK562 := kb_ BK562 hb; replace HB := bs_ hb; (try clear hb); (try clear hb2); (try clear hk); (try clear hi)))
       go_meet
       case rel => exact ⟨_, (false), (by first | rfl | (simp; done) | (simp [*]; done)), H', ⟨by have := HJ2.out; first | omega | exact Nat.le_refl _⟩, ⟨bk_⟩, ⟨bk_⟩, ⟨bk_⟩, ⟨bl_⟩⟩
     case rest =>
      clear HC34
      try clear c1
      try clear c2
      try clear p2
      try clear c3
      try clear c4
      try clear c5
      try clear c6
      try clear c8
      try clear c9
      try clear c10
      try clear c14
      try clear c15
      try clear c18
      try clear c21
      try clear c22
      try clear c23
      try clear c26
      try clear c26b0
      try clear c27
      try clear c28
      try clear c30
      try clear c35
      try clear c36
      try clear c38
      try clear c40
      try clear c42
      try clear c42b0
      try clear c44
      try clear c45
      try clear c48
      try clear c51
      try clear c52
      try clear hcz11_0
      try clear hcz11_1
      try clear hcz16_0
      try clear hcz16_1
      try clear hcz19_0
      try clear hcz19_1
      try clear hcz24_0
      try clear hcz24_1
      try clear hcz29_0
      try clear hcz29_1
      try clear hcz31_0
      try clear hcz31_1
      try clear hcz33_0
      try clear hcz33_1
      try clear hcz37_0
      try clear hcz37_1
      try clear hcz39_0
      try clear hcz39_1
      try clear hcz46_0
      try clear hcz46_1
      try clear hcz49_0
      try clear hcz49_1
      try clear hcz53_0
      try clear hcz53_1
      try clear hfz11_0
      try clear hfz11_1
      try clear hfz16_0
      try clear hfz16_1
      try clear hfz19_0
      try clear hfz19_1
      try clear hfz24_0
      try clear hfz24_1
      try clear hfz29_0
      try clear hfz29_1
      try clear hfz31_0
      try clear hfz31_1
      try clear hfz33_0
      try clear hfz33_1
      try clear hfz37_0
      try clear hfz37_1
      try clear hfz39_0
      try clear hfz39_1
      try clear hfz46_0
      try clear hfz46_1
      try clear hfz49_0
      try clear hfz49_1
      try clear hfz53_0
      try clear hfz53_1
      try clear p2
      obtain ⟨kq, x20_33, rfl, HA, HJ33, BK560, BK561, BK562, HB⟩ := hcut
      cases kq with
      | zero => exact absurd HA.out (by simp [convergent_Simplest.j1])
      | succ kj33 =>
       have H := HA.out
       clear HA
       simp only [convergent_Simplest.j1] at H
       by_cases c55 : x20_33 = true
       ·subst c55
        have H1 : ((convergent_over.f kj33 (⟨#[48]⟩ : ByteArray) (⟨#[49]⟩ : ByteArray)).bind fun bt568 => (some (bt568.1, bt568.2, 0))) = some (r1, r2, r3) := by rw [if_pos rfl] at H; exact H
        clear H
        have H := H1
        clear H1
        replace H := Option.bind_eq_some_iff.mp H
        obtain ⟨⟨t568, t569⟩, A560, H⟩ := H
        replace H : (some (t568, t569, 0)) = some (r1, r2, r3) := H
        have A56 := Aside0.mk A560
        clear A560
        simp only [Option.some.injEq, Prod.mk.injEq] at H
        obtain ⟨rfl, rfl, rfl⟩ := H
        go_wp2_with (first | ((with_reducible refine gate_callee (f := 41) rfl ?_); refine goesL_ (some 29) rfl rfl Tryz.func41 (by kernel_rfl) rfl #[.string (⟨#[48]⟩ : ByteArray), .string (⟨#[49]⟩ : ByteArray)] rfl mp_ ?_; (with_reducible refine (convergent_over.calls kj33 (⟨#[48]⟩ : ByteArray) (⟨#[49]⟩ : ByteArray) t568 t569 _ ?side1 A56.out).mono ?_); (case side1 => exact gw_ HG); rintro e w57 ⟨rfl, hb⟩; refine ⟨_, rfl, ?_⟩; replace BK560 := kb_ BK560 hb; replace BK561 := kb_ BK561 hb; replace BK562 := kb_ BK562 hb; replace HB := bs_ hb; (try clear hb); (try clear hb2); (try clear hk); (try clear hi); have hnb58 := NB562_560.out; have hnc58 := NB560_562.out; have hnb59 := NB562_561.out; have hnc59 := NB561_562.out; obtain ⟨hcz60_0, hcz60_1, hfz60_0, hfz60_1⟩ := c2_ BK562))
        refine bodyPost_ret (results_ct rfl _ _ gb562 24 #[.string t568, .string t569] (0, 0) _ rfl (by (with_reducible repeat (first | refine blk_drewN ?_ _ | refine blk_drew ?_ | refine blk_alloc ?_ _)); refine blk_put (cs := #[.string t568, .string (⟨#[]⟩ : ByteArray)]) ?_ 1 _ rfl; (with_reducible repeat (first | refine blk_drewN ?_ _ | refine blk_drew ?_ | refine blk_alloc ?_ _)); refine blk_put (cs := #[.string (⟨#[]⟩ : ByteArray), .string (⟨#[]⟩ : ByteArray)]) ?_ 0 _ rfl; (with_reducible repeat (first | refine blk_drewN ?_ _ | refine blk_drew ?_ | refine blk_alloc ?_ _)); exact BK562.out) Tryz.underlying24 rfl (by kernel_rfl)) rfl ?_
        exact ⟨er_, bl_⟩
       ·replace c55 := Bool.eq_false_iff.mpr c55
        subst c55
        have H1 : ((fraction_Sign.f a1_0 a1_1).bind fun t570 => (if t570 < 0 then ((fraction_Neg.f a1_0 a1_1).bind fun bt571 => ((fraction_Neg.f a0_0 a0_1).bind fun bt573 => ((convergent_simplest.f kj33 bt571.1 bt571.2 bt573.1 bt573.2).bind fun bt575 => ((fraction_Neg.f bt575.1 bt575.2).bind fun bt577 => (some (bt577.1, bt577.2, 0)))))) else ((convergent_simplest.f kj33 a0_0 a0_1 a1_0 a1_1).bind fun bt579 => (some (bt579.1, bt579.2, 0))))) = some (r1, r2, r3) := by rw [if_neg (show ¬ (false = true) by decide)] at H; exact H
        clear H
        have H := H1
        clear H1
        replace H := Option.bind_eq_some_iff.mp H
        obtain ⟨t570, A610, H⟩ := H
        replace H : (if t570 < 0 then ((fraction_Neg.f a1_0 a1_1).bind fun bt571 => ((fraction_Neg.f a0_0 a0_1).bind fun bt573 => ((convergent_simplest.f kj33 bt571.1 bt571.2 bt573.1 bt573.2).bind fun bt575 => ((fraction_Neg.f bt575.1 bt575.2).bind fun bt577 => (some (bt577.1, bt577.2, 0)))))) else ((convergent_simplest.f kj33 a0_0 a0_1 a1_0 a1_1).bind fun bt579 => (some (bt579.1, bt579.2, 0)))) = some (r1, r2, r3) := H
        have A61 := Aside0.mk A610
        clear A610
        by_cases c62 : t570 < 0
        ·rw [if_pos c62] at H
         have c62b0 : decide (t570 < 0) = true := decide_eq_true c62
         clear c62
         replace H := Option.bind_eq_some_iff.mp H
         obtain ⟨⟨t571, t572⟩, A630, H⟩ := H
         replace H : ((fraction_Neg.f a0_0 a0_1).bind fun bt573 => ((convergent_simplest.f kj33 t571 t572 bt573.1 bt573.2).bind fun bt575 => ((fraction_Neg.f bt575.1 bt575.2).bind fun bt577 => (some (bt577.1, bt577.2, 0))))) = some (r1, r2, r3) := H
         have A63 := Aside0.mk A630
         clear A630
         replace H := Option.bind_eq_some_iff.mp H
         obtain ⟨⟨t573, t574⟩, A640, H⟩ := H
         replace H : ((convergent_simplest.f kj33 t571 t572 t573 t574).bind fun bt575 => ((fraction_Neg.f bt575.1 bt575.2).bind fun bt577 => (some (bt577.1, bt577.2, 0)))) = some (r1, r2, r3) := H
         have A64 := Aside0.mk A640
         clear A640
         replace H := Option.bind_eq_some_iff.mp H
         obtain ⟨⟨t575, t576⟩, A650, H⟩ := H
         replace H : ((fraction_Neg.f t575 t576).bind fun bt577 => (some (bt577.1, bt577.2, 0))) = some (r1, r2, r3) := H
         have A65 := Aside0.mk A650
         clear A650
         replace H := Option.bind_eq_some_iff.mp H
         obtain ⟨⟨t577, t578⟩, A660, H⟩ := H
         replace H : (some (t577, t578, 0)) = some (r1, r2, r3) := H
         have A66 := Aside0.mk A660
         clear A660
         simp only [Option.some.injEq, Prod.mk.injEq] at H
         obtain ⟨rfl, rfl, rfl⟩ := H
         have hnb67 := NB561_560.out
         have hnc67 := NB560_561.out
         have hnb68 := NB561_562.out
         have hnc68 := NB562_561.out
         have hcz69_0 : wc.cell? ⟨gb561, 0, none⟩ = some (.string a1_0) := (blk_cell BK561.out 0).trans rfl
         have hcz69_1 : wc.cell? ⟨gb561, 1, none⟩ = some (.string a1_1) := (blk_cell BK561.out 1).trans rfl
         have hfz69_0 := blk_frozen BK561.out 0
         have hfz69_1 := blk_frozen BK561.out 1
         try go_wp2_with (first | ((with_reducible refine gate_callee (f := 64) rfl ?_); refine goesL_ (some 32) rfl rfl Tryz.func64 (by kernel_rfl) rfl #[.agg #[.string a1_0, .string a1_1]] rfl mp_ ?_; (with_reducible refine (fraction_Sign.calls a1_0 a1_1 t570 _ A61.out).mono ?_); rintro e w70 ⟨rfl, hb⟩; refine ⟨_, rfl, ?_⟩; replace BK560 := kb_ BK560 hb; replace BK561 := kb_ BK561 hb; replace BK562 := kb_ BK562 hb; replace HB := bs_ hb; (try clear hb); (try clear hb2); (try clear hk); (try clear hi)))
         have n0_ := Aside0.mk (blk_drew BK560.out)
         have n1_ := Aside0.mk (blk_drew BK561.out)
         have n2_ := Aside0.mk (blk_drew BK562.out)
         have n3_ := Aside0.mk (below_drew1 HB.out)
         clear BK560
         clear BK561
         clear BK562
         clear HB
         have BK560 := n0_
         have BK561 := n1_
         have BK562 := n2_
         have HB := n3_
         clear n0_ n1_ n2_ n3_
         refine start_ (n := 8) (S := fun w' => w'.cell? ⟨gb561, 0, none⟩ = some (.string a1_0) ∧ w'.cell? ⟨gb561, 1, none⟩ = some (.string a1_1) ∧ w'.cell? ⟨gb560, 0, none⟩ = some (.string a0_0) ∧ w'.cell? ⟨gb560, 1, none⟩ = some (.string a0_1)) (ds := []) #[false, false, false, false, false, false, false, false] (by kernel_rfl) rfl rfl ⟨(blk_cell BK561.out 0).trans rfl, (blk_cell BK561.out 1).trans rfl, (blk_cell BK560.out 0).trans rfl, (blk_cell BK560.out 1).trans rfl⟩ (fun hHeld => ?_); refine with_tabW convergent_Simplest.tab8 convergent_Simplest.bits8 (fun HT_ HW_ => ?_)
         generalize w70.drew = w71 at BK560 BK561 BK562 HB hHeld ⊢
         refine take_ (i := 0) (N := some 34) (v := ?_) (a' := ?_) #[true, false, false, false, false, false, false, false] rfl rfl (take_ofW HT_.out HW_.out (by kernel_rfl)) (fun _ _ _ h => h) (Or.inl ⟨by rfl, ?_⟩) hHeld ?_ ?_
         rotate_left
         ·rintro w' ⟨s0, s1, s2, s3⟩
          go_simp
          with_reducible rfl
         rotate_left
         ·simp only [Act.put, List.setIfInBounds_toArray, List.set_cons_zero, List.set_cons_succ, i64_w, i32_w]
          rfl
         refine take_ (i := 2) (N := some 36) (v := ?_) (a' := ?_) #[true, false, true, false, false, false, false, false] rfl rfl (take_ofW HT_.out HW_.out (by kernel_rfl)) (fun _ _ _ h => h) (Or.inl ⟨by rfl, ?_⟩) hHeld ?_ ?_
         rotate_left
         ·rintro w' ⟨s0, s1, s2, s3⟩
          go_simp
          with_reducible rfl
         rotate_left
         ·simp only [Act.put, List.setIfInBounds_toArray, List.set_cons_zero, List.set_cons_succ, i64_w, i32_w]
          rfl
         refine one_ (i := 1) (N := some 35) #[true, true, true, false, false, false, false, false] rfl rfl (one_of HT_.out (by kernel_rfl)) (by decide) (fun K hK => ?_)
         refine goes_ Tryz.func73 (by kernel_rfl) rfl #[.agg #[.string a1_0, .string a1_1]] (by rfl) rfl rfl mp_ ?_
         with_reducible refine (fraction_Neg.calls a1_0 a1_1 t571 t572 _ A63.out).mono ?_
         rintro e w72 ⟨rfl, hb⟩
         refine ⟨_, rfl, ?_⟩
         have n0_ := kb_ BK560 hb
         have n1_ := kb_ BK561 hb
         have n2_ := kb_ BK562 hb
         have n3_ := bs_ hb
         clear BK560
         clear BK561
         clear BK562
         clear HB
         have BK560 := n0_
         have BK561 := n1_
         have BK562 := n2_
         have HB := n3_
         clear n0_ n1_ n2_ n3_
         (try clear hb); (try clear hb2); (try clear hk); (try clear hi)
         refine hK.out _ _ ⟨(blk_cell BK561.out 0).trans rfl, (blk_cell BK561.out 1).trans rfl, (blk_cell BK560.out 0).trans rfl, (blk_cell BK560.out 1).trans rfl⟩ (fun hHeld => ?_)
         clear hK K
         refine norm_ (a' := ?_) ?_ ?_
         rotate_left
         ·show Act.put _ (some 35) _ = _
          simp only [Act.put, List.setIfInBounds_toArray, List.set_cons_zero, List.set_cons_succ, i64_w, i32_w]
          rfl
         refine one_ (i := 3) (N := some 37) #[true, true, true, true, false, false, false, false] rfl rfl (one_of HT_.out (by kernel_rfl)) (by decide) (fun K hK => ?_)
         refine goes_ Tryz.func73 (by kernel_rfl) rfl #[.agg #[.string a0_0, .string a0_1]] (by rfl) rfl rfl mp_ ?_
         with_reducible refine (fraction_Neg.calls a0_0 a0_1 t573 t574 _ A64.out).mono ?_
         rintro e w73 ⟨rfl, hb⟩
         refine ⟨_, rfl, ?_⟩
         have n0_ := kb_ BK560 hb
         have n1_ := kb_ BK561 hb
         have n2_ := kb_ BK562 hb
         have n3_ := bs_ hb
         clear BK560
         clear BK561
         clear BK562
         clear HB
         have BK560 := n0_
         have BK561 := n1_
         have BK562 := n2_
         have HB := n3_
         clear n0_ n1_ n2_ n3_
         (try clear hb); (try clear hb2); (try clear hk); (try clear hi)
         refine hK.out _ _ ⟨(blk_cell BK561.out 0).trans rfl, (blk_cell BK561.out 1).trans rfl, (blk_cell BK560.out 0).trans rfl, (blk_cell BK560.out 1).trans rfl⟩ (fun hHeld => ?_)
         clear hK K
         refine norm_ (a' := ?_) ?_ ?_
         rotate_left
         ·show Act.put _ (some 37) _ = _
          simp only [Act.put, List.setIfInBounds_toArray, List.set_cons_zero, List.set_cons_succ, i64_w, i32_w]
          rfl
         refine one_ (i := 4) (N := some 38) #[true, true, true, true, true, false, false, false] rfl rfl (one_of HT_.out (by kernel_rfl)) (by decide) (fun K hK => ?_)
         refine goes_ Tryz.func74 (by kernel_rfl) rfl #[.agg #[.string t571, .string t572], .agg #[.string t573, .string t574]] (by rfl) rfl rfl mp_ ?_
         with_reducible refine (convergent_simplest.calls kj33 t571 t572 t573 t574 t575 t576 _ ?side1 A65.out).mono ?_
         (case side1 => exact gw_ HG)
         rintro e w74 ⟨rfl, hb⟩
         refine ⟨_, rfl, ?_⟩
         have n0_ := kb_ BK560 hb
         have n1_ := kb_ BK561 hb
         have n2_ := kb_ BK562 hb
         have n3_ := bs_ hb
         clear BK560
         clear BK561
         clear BK562
         clear HB
         have BK560 := n0_
         have BK561 := n1_
         have BK562 := n2_
         have HB := n3_
         clear n0_ n1_ n2_ n3_
         (try clear hb); (try clear hb2); (try clear hk); (try clear hi)
         refine hK.out _ _ ⟨(blk_cell BK561.out 0).trans rfl, (blk_cell BK561.out 1).trans rfl, (blk_cell BK560.out 0).trans rfl, (blk_cell BK560.out 1).trans rfl⟩ (fun hHeld => ?_)
         clear hK K
         refine norm_ (a' := ?_) ?_ ?_
         rotate_left
         ·show Act.put _ (some 38) _ = _
          simp only [Act.put, List.setIfInBounds_toArray, List.set_cons_zero, List.set_cons_succ, i64_w, i32_w]
          rfl
         refine one_ (i := 5) (N := some 39) #[true, true, true, true, true, true, false, false] rfl rfl (one_of HT_.out (by kernel_rfl)) (by decide) (fun K hK => ?_)
         refine goes_ Tryz.func73 (by kernel_rfl) rfl #[.agg #[.string t575, .string t576]] (by rfl) rfl rfl mp_ ?_
         with_reducible refine (fraction_Neg.calls t575 t576 t577 t578 _ A66.out).mono ?_
         rintro e w75 ⟨rfl, hb⟩
         refine ⟨_, rfl, ?_⟩
         have n0_ := kb_ BK560 hb
         have n1_ := kb_ BK561 hb
         have n2_ := kb_ BK562 hb
         have n3_ := bs_ hb
         clear BK560
         clear BK561
         clear BK562
         clear HB
         have BK560 := n0_
         have BK561 := n1_
         have BK562 := n2_
         have HB := n3_
         clear n0_ n1_ n2_ n3_
         (try clear hb); (try clear hb2); (try clear hk); (try clear hi)
         refine hK.out _ _ ⟨(blk_cell BK561.out 0).trans rfl, (blk_cell BK561.out 1).trans rfl, (blk_cell BK560.out 0).trans rfl, (blk_cell BK560.out 1).trans rfl⟩ (fun hHeld => ?_)
         clear hK K
         refine norm_ (a' := ?_) ?_ ?_
         rotate_left
         ·show Act.put _ (some 39) _ = _
          simp only [Act.put, List.setIfInBounds_toArray, List.set_cons_zero, List.set_cons_succ, i64_w, i32_w]
          rfl
         refine one_ (i := 6) (N := none) #[true, true, true, true, true, true, true, false] rfl rfl (one_of HT_.out (by kernel_rfl)) (by decide) (fun K hK => ?_)
         have hs76 : w75.cell? ⟨gb562, 0, none⟩ = some (.string (⟨#[]⟩ : ByteArray)) := (blk_cell BK562.out 0).trans rfl
         have hfs76 := blk_frozen BK562.out 0
         have hns76_0 := NB560_562.out
         have hns76_1 := NB561_562.out
         have hms76_0 := NB562_560.out
         have hms76_1 := NB562_561.out
         have hs77 : w75.cell? ⟨gb562, 1, none⟩ = some (.string (⟨#[]⟩ : ByteArray)) := (blk_cell BK562.out 1).trans rfl
         have hfs77 := blk_frozen BK562.out 1
         have hns77_0 := NB560_562.out
         have hns77_1 := NB561_562.out
         have hms77_0 := NB562_560.out
         have hms77_1 := NB562_561.out
         refine skip_ (w1 := ?_) (by rfl) rfl ?_ ?_
         rotate_left
         ·go_simp
          rfl
         refine hK.out _ _ ⟨((cell_far (p := ⟨gb562, _, none⟩) NB561_562.out _).trans (((cell_far (p := ⟨gb562, _, none⟩) NB561_562.out _).trans (hHeld.1)))), ((cell_far (p := ⟨gb562, _, none⟩) NB561_562.out _).trans (((cell_far (p := ⟨gb562, _, none⟩) NB561_562.out _).trans (hHeld.2.1)))), ((cell_far (p := ⟨gb562, _, none⟩) NB560_562.out _).trans (((cell_far (p := ⟨gb562, _, none⟩) NB560_562.out _).trans (hHeld.2.2.1)))), ((cell_far (p := ⟨gb562, _, none⟩) NB560_562.out _).trans (((cell_far (p := ⟨gb562, _, none⟩) NB560_562.out _).trans (hHeld.2.2.2))))⟩ (fun hHeld => ?_)
         clear hK K
         refine pure_ (i := 7) (N := some 5) (v := ?_) (a' := ?_) #[true, true, true, true, true, true, true, true] rfl rfl (any_of HT_.out (by kernel_rfl)) (fun _ _ _ h => h) (Or.inl ⟨by rfl, ?_⟩) ?_ ?_
         rotate_left
         ·intro w'
          go_simp
          with_reducible rfl
         rotate_left
         ·simp only [Act.put, List.setIfInBounds_toArray, List.set_cons_zero, List.set_cons_succ, i64_w, i32_w]
          rfl
         refine done_ (done_of HT_.out (by kernel_rfl)) ?_
         try go_wp2
         refine bodyPost_ret (results_ct rfl _ _ gb562 24 #[.string t577, .string t578] (0, 0) _ rfl (by (with_reducible repeat (first | refine blk_drewN ?_ _ | refine blk_drew ?_ | refine blk_alloc ?_ _)); refine blk_put (cs := #[.string t577, .string (⟨#[]⟩ : ByteArray)]) ?_ 1 _ rfl; (with_reducible repeat (first | refine blk_drewN ?_ _ | refine blk_drew ?_ | refine blk_alloc ?_ _)); refine blk_put (cs := #[.string (⟨#[]⟩ : ByteArray), .string (⟨#[]⟩ : ByteArray)]) ?_ 0 _ rfl; (with_reducible repeat (first | refine blk_drewN ?_ _ | refine blk_drew ?_ | refine blk_alloc ?_ _)); exact BK562.out) Tryz.underlying24 rfl (by kernel_rfl)) rfl ?_
         exact ⟨er_, bl_⟩
        ·rw [if_neg c62] at H
         have c62b0 : decide (t570 < 0) = false := decide_eq_false c62
         clear c62
         replace H := Option.bind_eq_some_iff.mp H
         obtain ⟨⟨t579, t580⟩, A780, H⟩ := H
         replace H : (some (t579, t580, 0)) = some (r1, r2, r3) := H
         have A78 := Aside0.mk A780
         clear A780
         simp only [Option.some.injEq, Prod.mk.injEq] at H
         obtain ⟨rfl, rfl, rfl⟩ := H
         have hnb79 := NB561_560.out
         have hnc79 := NB560_561.out
         have hnb80 := NB561_562.out
         have hnc80 := NB562_561.out
         have hcz81_0 : wc.cell? ⟨gb561, 0, none⟩ = some (.string a1_0) := (blk_cell BK561.out 0).trans rfl
         have hcz81_1 : wc.cell? ⟨gb561, 1, none⟩ = some (.string a1_1) := (blk_cell BK561.out 1).trans rfl
         have hfz81_0 := blk_frozen BK561.out 0
         have hfz81_1 := blk_frozen BK561.out 1
         go_wp2_with (first | ((with_reducible refine gate_callee (f := 64) rfl ?_); refine goesL_ (some 32) rfl rfl Tryz.func64 (by kernel_rfl) rfl #[.agg #[.string a1_0, .string a1_1]] rfl mp_ ?_; (with_reducible refine (fraction_Sign.calls a1_0 a1_1 t570 _ A61.out).mono ?_); rintro e w82 ⟨rfl, hb⟩; refine ⟨_, rfl, ?_⟩; replace BK560 := kb_ BK560 hb; replace BK561 := kb_ BK561 hb; replace BK562 := kb_ BK562 hb; replace HB := bs_ hb; (try clear hb); (try clear hb2); (try clear hk); (try clear hi); have hnb83 := NB560_562.out; have hnc83 := NB562_560.out; obtain ⟨hcz84_0, hcz84_1, hfz84_0, hfz84_1⟩ := c2_ BK560; obtain ⟨hcz85_0, hcz85_1, hfz85_0, hfz85_1⟩ := c2_ BK561) | ((with_reducible refine gate_callee (f := 74) rfl ?_); refine goesL_ (some 42) rfl rfl Tryz.func74 (by kernel_rfl) rfl #[.agg #[.string a0_0, .string a0_1], .agg #[.string a1_0, .string a1_1]] rfl mp_ ?_; (with_reducible refine (convergent_simplest.calls kj33 a0_0 a0_1 a1_0 a1_1 t579 t580 _ ?side1 A78.out).mono ?_); (case side1 => exact gw_ HG); rintro e w86 ⟨rfl, hb⟩; refine ⟨_, rfl, ?_⟩; replace BK560 := kb_ BK560 hb; replace BK561 := kb_ BK561 hb; replace BK562 := kb_ BK562 hb; replace HB := bs_ hb; (try clear hb); (try clear hb2); (try clear hk); (try clear hi); obtain ⟨hcz87_0, hcz87_1, hfz87_0, hfz87_1⟩ := c2_ BK562))
         refine bodyPost_ret (results_ct rfl _ _ gb562 24 #[.string t579, .string t580] (0, 0) _ rfl (by (with_reducible repeat (first | refine blk_drewN ?_ _ | refine blk_drew ?_ | refine blk_alloc ?_ _)); refine blk_put (cs := #[.string t579, .string (⟨#[]⟩ : ByteArray)]) ?_ 1 _ rfl; (with_reducible repeat (first | refine blk_drewN ?_ _ | refine blk_drew ?_ | refine blk_alloc ?_ _)); refine blk_put (cs := #[.string (⟨#[]⟩ : ByteArray), .string (⟨#[]⟩ : ByteArray)]) ?_ 0 _ rfl; (with_reducible repeat (first | refine blk_drewN ?_ _ | refine blk_drew ?_ | refine blk_alloc ?_ _)); exact BK562.out) Tryz.underlying24 rfl (by kernel_rfl)) rfl ?_
         exact ⟨er_, bl_⟩
mutual
def schismaref04_Simplest.l0 : Nat → Int → Int → Int → Int → Int → Option (ByteArray × ByteArray)
 | 0, _, _, _, _, _ => none
 | k + 1, x0, x1, x2, x3, x9 => (schismaref04_Floor.f (wrap64 (-(wrap64 (x0 * x9)))) x1).bind fun t582 => ((schismaref04_Floor.f (wrap64 (x2 * x9)) x3).bind fun t583 => (if (wrap64 (-t582)) > t583 then (schismaref04_Simplest.l0 k x0 x1 x2 x3 (wrap64 (x9 + 1))) else (if (wrap64 (-t582)) ≤ 0 then (schismaref04_Simplest.j1 k x9 (wrap64 (-t582)) t583 (decide (t583 ≥ 0))) else (schismaref04_Simplest.j1 k x9 (wrap64 (-t582)) t583 false))))
def schismaref04_Simplest.j1 : Nat → Int → Int → Int → Bool → Option (ByteArray × ByteArray)
 | 0, _, _, _, _ => none
 | k + 1, x9, x10, x11, x34 => if x34 = true then ((schismaref04_Make.f k 0 1).bind fun bt584 => (some (bt584.1, bt584.2))) else (if x11 < 0 then ((schismaref04_Make.f k x11 x9).bind fun bt586 => (some (bt586.1, bt586.2))) else ((schismaref04_Make.f k x10 x9).bind fun bt588 => (some (bt588.1, bt588.2))))
end
def schismaref04_Simplest.f (k : Nat) (a0 : Int) (a1 : Int) (a2 : Int) (a3 : Int) : Option (ByteArray × ByteArray) := schismaref04_Simplest.l0 k a0 a1 a2 a3 1
set_option maxHeartbeats 8000000 in
set_option maxRecDepth 100000 in
theorem schismaref04_Simplest.calls (k : Nat) (a0 : Int) (a1 : Int) (a2 : Int) (a3 : Int) (r1 : ByteArray) (r2 : ByteArray) (w : World) (h : schismaref04_Simplest.f k a0 a1 a2 a3 = some (r1, r2)) :
  Calls Tryz.prog 39 #[.int .i64 a0, .int .i64 a1, .int .i64 a2, .int .i64 a3] w fun e w' => e = .returned (.agg #[.string r1, .string r2]) ∧ Below w.heap.size w w' := by
 have hu24 := Tryz.underlying24
 have HB := Aside0.mk (Below.refl w.heap.size w)
 have H : (schismaref04_Simplest.l0 k a0 a1 a2 a3 1) = some (r1, r2) := h
 clear h
 have H' := Aside0.mk H
 clear H
 go_enter Tryz.func39, Tryz.ntmps39
 go_wp2_with (first | ((with_reducible refine gate_dst (N := 8) rfl ?_); refine bx_ 8 #[.string (⟨#[]⟩ : ByteArray), .string (⟨#[]⟩ : ByteArray)] 24 ?_; clear HB; intro gb581 w5 BK581 GW581 HB; have GE581 := GW581))
 go_loopg [9] k (fun kq v9 w' => ∃ (x9_1 : Int) (x582000_1 : ByteArray) (x582001_1 : ByteArray), v9 = .int .i64 x9_1 ∧ Aside0 (schismaref04_Simplest.l0 kq a0 a1 a2 a3 x9_1 = some (r1, r2)) ∧ Aside0 (kq ≤ k) ∧ Aside0 (w'.heap[gb581]? = some (.cells #[.string x582000_1, .string x582001_1] 24 (0, 0))) ∧ Aside0 (Below w.heap.size w w'))
 case atStart => exact ⟨(1), ((⟨#[]⟩ : ByteArray)), ((⟨#[]⟩ : ByteArray)), (by first | rfl | (simp; done) | (simp [*]; done)), H', ⟨Nat.le_refl _⟩, ⟨bk_⟩, ⟨bl_⟩⟩
 case round =>
  clear H'
  try clear p2
  try clear c3
  obtain ⟨x9_1, x582000_1, x582001_1, rfl, HA, HK1, BK581, HB⟩ := hrel
  cases gk with
  | zero => exact absurd HA.out (by simp [schismaref04_Simplest.l0])
  | succ k1 =>
   have H := HA.out
   clear HA
   simp only [schismaref04_Simplest.l0] at H
   replace H := Option.bind_eq_some_iff.mp H
   obtain ⟨t582, A60, H⟩ := H
   replace H : ((schismaref04_Floor.f (wrap64 (a2 * x9_1)) a3).bind fun t583 => (if (wrap64 (-t582)) > t583 then (schismaref04_Simplest.l0 k1 a0 a1 a2 a3 (wrap64 (x9_1 + 1))) else (if (wrap64 (-t582)) ≤ 0 then (schismaref04_Simplest.j1 k1 x9_1 (wrap64 (-t582)) t583 (decide (t583 ≥ 0))) else (schismaref04_Simplest.j1 k1 x9_1 (wrap64 (-t582)) t583 false)))) = some (r1, r2) := H
   have A6 := Aside0.mk A60
   clear A60
   replace H := Option.bind_eq_some_iff.mp H
   obtain ⟨t583, A70, H⟩ := H
   replace H : (if (wrap64 (-t582)) > t583 then (schismaref04_Simplest.l0 k1 a0 a1 a2 a3 (wrap64 (x9_1 + 1))) else (if (wrap64 (-t582)) ≤ 0 then (schismaref04_Simplest.j1 k1 x9_1 (wrap64 (-t582)) t583 (decide (t583 ≥ 0))) else (schismaref04_Simplest.j1 k1 x9_1 (wrap64 (-t582)) t583 false))) = some (r1, r2) := H
   have A7 := Aside0.mk A70
   clear A70
   by_cases c8 : (wrap64 (-t582)) > t583
   ·rw [if_pos c8] at H
    have c8b0 : decide (t583 < (wrap64 (-t582))) = true := decide_eq_true c8
    clear c8
    have H' := Aside0.mk H
    clear H
    go_wp2_with (first | ((with_reducible refine gate_callee (f := 49) rfl ?_); refine goesL_ (some 19) rfl rfl Tryz.func49 (by kernel_rfl) rfl #[.int .i64 (wrap64 (-(wrap64 (a0 * x9_1)))), .int .i64 a1] rfl mp_ ?_; (with_reducible refine (schismaref04_Floor.calls (wrap64 (-(wrap64 (a0 * x9_1)))) a1 t582 _ A6.out).mono ?_); rintro e w' ⟨rfl, ⟨nd, rfl⟩⟩; refine ⟨_, rfl, ?_⟩) | ((with_reducible refine gate_callee (f := 49) rfl ?_); refine goesL_ (some 25) rfl rfl Tryz.func49 (by kernel_rfl) rfl #[.int .i64 (wrap64 (a2 * x9_1)), .int .i64 a3] rfl mp_ ?_; (with_reducible refine (schismaref04_Floor.calls (wrap64 (a2 * x9_1)) a3 t583 _ A7.out).mono ?_); rintro e w' ⟨rfl, ⟨nd, rfl⟩⟩; refine ⟨_, rfl, ?_⟩))
    go_roundg k1
    case measure => have := HK1.out; omega
    case rel => exact ⟨(wrap64 (x9_1 + 1)), (x582000_1), (x582001_1), (by first | rfl | (simp; done) | (simp [*]; done)), H', ⟨by have := HK1.out; omega⟩, ⟨bk_⟩, ⟨bl_⟩⟩
   ·rw [if_neg c8] at H
    have c8b0 : decide (t583 < (wrap64 (-t582))) = false := decide_eq_false c8
    clear c8
    have HC9 := Aside0.mk H
    clear H
    go_upto_region 6 with (first | ((with_reducible refine gate_callee (f := 49) rfl ?_); refine goesL_ (some 19) rfl rfl Tryz.func49 (by kernel_rfl) rfl #[.int .i64 (wrap64 (-(wrap64 (a0 * x9_1)))), .int .i64 a1] rfl mp_ ?_; (with_reducible refine (schismaref04_Floor.calls (wrap64 (-(wrap64 (a0 * x9_1)))) a1 t582 _ A6.out).mono ?_); rintro e w' ⟨rfl, ⟨nd, rfl⟩⟩; refine ⟨_, rfl, ?_⟩) | ((with_reducible refine gate_callee (f := 49) rfl ?_); refine goesL_ (some 25) rfl rfl Tryz.func49 (by kernel_rfl) rfl #[.int .i64 (wrap64 (a2 * x9_1)), .int .i64 a3] rfl mp_ ?_; (with_reducible refine (schismaref04_Floor.calls (wrap64 (a2 * x9_1)) a3 t583 _ A7.out).mono ?_); rintro e w' ⟨rfl, ⟨nd, rfl⟩⟩; refine ⟨_, rfl, ?_⟩))
    (try simp only [Act.put, List.setIfInBounds_toArray, List.set_cons_zero, List.set_cons_succ])
    go_cut [34] (fun v34 wc => ∃ (kq : Nat) (x34_8 : Bool), v34 = .bool x34_8 ∧ Aside0 (schismaref04_Simplest.j1 kq x9_1 (wrap64 (-t582)) t583 x34_8 = some (r1, r2)) ∧ Aside0 (kq ≤ k1) ∧ Aside0 (wc.heap[gb581]? = some (.cells #[.string x582000_1, .string x582001_1] 24 (0, 0))) ∧ Aside0 (Below w.heap.size w wc))
    case first =>
     have H := HC9.out
     clear HC9
     by_cases c10 : (wrap64 (-t582)) ≤ 0
     ·rw [if_pos c10] at H
      have c10b0 : decide ((wrap64 (-t582)) ≤ 0) = true := decide_eq_true c10
      clear c10
      (first | rw [c10b0] | (simp only [i64_w, i32_w]; rw [c10b0]) | skip)
      have H' := Aside0.mk H
      clear H
      go_wp2
      go_meet
      case rel => exact ⟨_, (decide (t583 ≥ 0)), (by first | rfl | (simp; done) | (simp [*]; done)), H', ⟨by have := HK1.out; first | omega | exact Nat.le_refl _⟩, ⟨bk_⟩, ⟨bl_⟩⟩
     ·rw [if_neg c10] at H
      have c10b0 : decide ((wrap64 (-t582)) ≤ 0) = false := decide_eq_false c10
      clear c10
      (first | rw [c10b0] | (simp only [i64_w, i32_w]; rw [c10b0]) | skip)
      have H' := Aside0.mk H
      clear H
      go_wp2
      go_meet
      case rel => exact ⟨_, (false), (by first | rfl | (simp; done) | (simp [*]; done)), H', ⟨by have := HK1.out; first | omega | exact Nat.le_refl _⟩, ⟨bk_⟩, ⟨bl_⟩⟩
    case rest =>
     clear HC9
     try clear c1
     try clear p2
     try clear c3
     try clear c4
     try clear p6
     try clear c8
     try clear c8b0
     try clear c10
     try clear c10b0
     try clear p2
     obtain ⟨kq, x34_8, rfl, HA, HJ8, BK581, HB⟩ := hcut
     cases kq with
     | zero => exact absurd HA.out (by simp [schismaref04_Simplest.j1])
     | succ kj8 =>
      have H := HA.out
      clear HA
      simp only [schismaref04_Simplest.j1] at H
      by_cases c11 : x34_8 = true
      ·subst c11
       have H1 : ((schismaref04_Make.f kj8 0 1).bind fun bt584 => (some (bt584.1, bt584.2))) = some (r1, r2) := by rw [if_pos rfl] at H; exact H
       clear H
       have H := H1
       clear H1
       replace H := Option.bind_eq_some_iff.mp H
       obtain ⟨⟨t584, t585⟩, A120, H⟩ := H
       replace H : (some (t584, t585)) = some (r1, r2) := H
       have A12 := Aside0.mk A120
       clear A120
       simp only [Option.some.injEq, Prod.mk.injEq] at H
       obtain ⟨rfl, rfl⟩ := H
       go_wp2_with (first | ((with_reducible refine gate_callee (f := 17) rfl ?_); refine goesL_ (some 35) rfl rfl Tryz.func17 (by kernel_rfl) rfl #[.int .i64 0, .int .i64 1] rfl mp_ ?_; (with_reducible refine (schismaref04_Make.calls kj8 0 1 t584 t585 _ A12.out).mono ?_); rintro e w13 ⟨rfl, hb⟩; refine ⟨_, rfl, ?_⟩; replace BK581 := kb_ BK581 hb; replace HB := bs_ hb; (try clear hb); (try clear hb2); (try clear hk); (try clear hi); obtain ⟨hcz14_0, hcz14_1, hfz14_0, hfz14_1⟩ := c2_ BK581))
       refine bodyPost_ret (results_cell_row rfl _ _ gb581 24 #[.string t584, .string t585] (0, 0) _ rfl (by (with_reducible repeat (first | refine blk_drewN ?_ _ | refine blk_drew ?_ | refine blk_alloc ?_ _)); refine blk_put (cs := #[.string t584, .string x582001_1]) ?_ 1 _ rfl; (with_reducible repeat (first | refine blk_drewN ?_ _ | refine blk_drew ?_ | refine blk_alloc ?_ _)); refine blk_put (cs := #[.string x582000_1, .string x582001_1]) ?_ 0 _ rfl; (with_reducible repeat (first | refine blk_drewN ?_ _ | refine blk_drew ?_ | refine blk_alloc ?_ _)); exact BK581.out) Tryz.underlying24 rfl (by kernel_rfl)) rfl ?_
       exact ⟨er_, bl_⟩
      ·replace c11 := Bool.eq_false_iff.mpr c11
       subst c11
       have H1 : (if t583 < 0 then ((schismaref04_Make.f kj8 t583 x9_1).bind fun bt586 => (some (bt586.1, bt586.2))) else ((schismaref04_Make.f kj8 (wrap64 (-t582)) x9_1).bind fun bt588 => (some (bt588.1, bt588.2)))) = some (r1, r2) := by rw [if_neg (show ¬ (false = true) by decide)] at H; exact H
       clear H
       have H := H1
       clear H1
       by_cases c15 : t583 < 0
       ·rw [if_pos c15] at H
        have c15b0 : decide (t583 < 0) = true := decide_eq_true c15
        clear c15
        replace H := Option.bind_eq_some_iff.mp H
        obtain ⟨⟨t586, t587⟩, A160, H⟩ := H
        replace H : (some (t586, t587)) = some (r1, r2) := H
        have A16 := Aside0.mk A160
        clear A160
        simp only [Option.some.injEq, Prod.mk.injEq] at H
        obtain ⟨rfl, rfl⟩ := H
        go_wp2_with (first | ((with_reducible refine gate_callee (f := 17) rfl ?_); refine goesL_ (some 41) rfl rfl Tryz.func17 (by kernel_rfl) rfl #[.int .i64 t583, .int .i64 x9_1] rfl mp_ ?_; (with_reducible refine (schismaref04_Make.calls kj8 t583 x9_1 t586 t587 _ A16.out).mono ?_); rintro e w17 ⟨rfl, hb⟩; refine ⟨_, rfl, ?_⟩; replace BK581 := kb_ BK581 hb; replace HB := bs_ hb; (try clear hb); (try clear hb2); (try clear hk); (try clear hi); obtain ⟨hcz18_0, hcz18_1, hfz18_0, hfz18_1⟩ := c2_ BK581))
        refine bodyPost_ret (results_cell_row rfl _ _ gb581 24 #[.string t586, .string t587] (0, 0) _ rfl (by (with_reducible repeat (first | refine blk_drewN ?_ _ | refine blk_drew ?_ | refine blk_alloc ?_ _)); refine blk_put (cs := #[.string t586, .string x582001_1]) ?_ 1 _ rfl; (with_reducible repeat (first | refine blk_drewN ?_ _ | refine blk_drew ?_ | refine blk_alloc ?_ _)); refine blk_put (cs := #[.string x582000_1, .string x582001_1]) ?_ 0 _ rfl; (with_reducible repeat (first | refine blk_drewN ?_ _ | refine blk_drew ?_ | refine blk_alloc ?_ _)); exact BK581.out) Tryz.underlying24 rfl (by kernel_rfl)) rfl ?_
        exact ⟨er_, bl_⟩
       ·rw [if_neg c15] at H
        have c15b0 : decide (t583 < 0) = false := decide_eq_false c15
        clear c15
        replace H := Option.bind_eq_some_iff.mp H
        obtain ⟨⟨t588, t589⟩, A190, H⟩ := H
        replace H : (some (t588, t589)) = some (r1, r2) := H
        have A19 := Aside0.mk A190
        clear A190
        simp only [Option.some.injEq, Prod.mk.injEq] at H
        obtain ⟨rfl, rfl⟩ := H
        go_wp2_with (first | ((with_reducible refine gate_callee (f := 17) rfl ?_); refine goesL_ (some 41) rfl rfl Tryz.func17 (by kernel_rfl) rfl #[.int .i64 (wrap64 (-t582)), .int .i64 x9_1] rfl mp_ ?_; (with_reducible refine (schismaref04_Make.calls kj8 (wrap64 (-t582)) x9_1 t588 t589 _ A19.out).mono ?_); rintro e w20 ⟨rfl, hb⟩; refine ⟨_, rfl, ?_⟩; replace BK581 := kb_ BK581 hb; replace HB := bs_ hb; (try clear hb); (try clear hb2); (try clear hk); (try clear hi); obtain ⟨hcz21_0, hcz21_1, hfz21_0, hfz21_1⟩ := c2_ BK581))
        refine bodyPost_ret (results_cell_row rfl _ _ gb581 24 #[.string t588, .string t589] (0, 0) _ rfl (by (with_reducible repeat (first | refine blk_drewN ?_ _ | refine blk_drew ?_ | refine blk_alloc ?_ _)); refine blk_put (cs := #[.string t588, .string x582001_1]) ?_ 1 _ rfl; (with_reducible repeat (first | refine blk_drewN ?_ _ | refine blk_drew ?_ | refine blk_alloc ?_ _)); refine blk_put (cs := #[.string x582000_1, .string x582001_1]) ?_ 0 _ rfl; (with_reducible repeat (first | refine blk_drewN ?_ _ | refine blk_drew ?_ | refine blk_alloc ?_ _)); exact BK581.out) Tryz.underlying24 rfl (by kernel_rfl)) rfl ?_
        exact ⟨er_, bl_⟩
end Go.Proofs.YtidajgkepdkcbaaGreatDoor.PF
end
