/- A part of the proof in QBw5. -/
import Derived.Test.YtidajgkepdkcbaaGreatDoorQBw3
set_option linter.unusedVariables false
set_option linter.unusedSimpArgs false
section
namespace Go.Proofs.YtidajgkepdkcbaaGreatDoor.PL
open Go.RowKit Go.Proofs.YtidajgkepdkcbaaGreatDoorW.PrintWords Go.Proofs.YtidajgkepdkcbaaGreatDoorW.PrintLast Go.Proofs.YtidajgkepdkcbaaGreatDoorW.PrintMore Go.Proofs.YtidajgkepdkcbaaGreatDoor.PF
attribute [local go_sem] max2_int min2_int max_two min_two max_three min_three max_four min_four
attribute [local go_sem high] eqA24
mutual
noncomputable def schismalaw04_ConvergentBetween.j0 : Nat → Int → Bool → ByteArray → ByteArray → Option (Bool)
 | 0, _, _, _, _ => none
 | k + 1, x1, x38, x132000, x132001 => if x38 = true then ((schismalaw04_known.f k).bind fun t133 => (some t133)) else ((schismaref04_Parts.f k x132000 x132001).bind fun bt134 => (if bt134.2.2 = true then ((convergent_Best.f k x132000 x132001 (wrap64 (1 + (wrap64 (Int.tmod x1 50))))).bind fun bt137 => ((convergent_Semiconvergents.f k x132000 x132001 (wrap64 (1 + (wrap64 (Int.tmod x1 50))))).bind fun bt141 => ((convergent_Neighbours.f k x132000 x132001 (wrap64 (1 + (wrap64 (Int.tmod x1 50))))).bind fun bt145 => (if bt137.2 = 0 then (if bt141.2 = 0 then (schismalaw04_ConvergentBetween.j1 k bt134.2.1 (wrap64 (1 + (wrap64 (Int.tmod x1 50)))) bt137.1 bt141.1 (bt145.2.2.2.2 != 0) bt145.1 bt145.2.1 bt145.2.2.1 bt145.2.2.2.1) else (schismalaw04_ConvergentBetween.j1 k bt134.2.1 (wrap64 (1 + (wrap64 (Int.tmod x1 50)))) bt137.1 bt141.1 true bt145.1 bt145.2.1 bt145.2.2.1 bt145.2.2.2.1)) else (schismalaw04_ConvergentBetween.j1 k bt134.2.1 (wrap64 (1 + (wrap64 (Int.tmod x1 50)))) bt137.1 bt141.1 true bt145.1 bt145.2.1 bt145.2.2.1 bt145.2.2.2.1))))) else (some true)))
noncomputable def schismalaw04_ConvergentBetween.j1 : Nat → Int → Int → List (S24) → List (S24) → Bool → ByteArray → ByteArray → ByteArray → ByteArray → Option (Bool)
 | 0, _, _, _, _, _, _, _, _, _ => none
 | k + 1, x6, x8, x9, x11, x80, x151000, x151001, x152000, x152001 => if x80 = true then (some false) else (schismalaw04_ConvergentBetween.l0 k x6 x8 x9 x11 0 x151000 x151001 x152000 x152001)
noncomputable def schismalaw04_ConvergentBetween.l0 : Nat → Int → Int → List (S24) → List (S24) → Int → ByteArray → ByteArray → ByteArray → ByteArray → Option (Bool)
 | 0, _, _, _, _, _, _, _, _, _ => none
 | k + 1, x6, x8, x9, x11, x16, x151000, x151001, x152000, x152001 => if x16 < (x9.length : Int) then (schismalaw04_ConvergentBetween.l1 k x6 x8 x9 x11 x16 false 0 x151000 x151001 x152000 x152001) else ((schismaref04_Parts.f k x151000 x151001).bind fun bt152 => ((schismaref04_Parts.f k x152000 x152001).bind fun bt155 => (if x6 ≤ x8 then (some true) else (if x6 ≥ (wrap64 (bt152.2.1 + bt155.2.1)) then (some (decide ((wrap64 (bt152.2.1 + bt155.2.1)) > x8))) else (some false)))))
noncomputable def schismalaw04_ConvergentBetween.l1 : Nat → Int → Int → List (S24) → List (S24) → Int → Bool → Int → ByteArray → ByteArray → ByteArray → ByteArray → Option (Bool)
 | 0, _, _, _, _, _, _, _, _, _, _, _ => none
 | k + 1, x6, x8, x9, x11, x16, x17, x18, x151000, x151001, x152000, x152001 => if x18 < (x11.length : Int) then (if x17 = true then (schismalaw04_ConvergentBetween.l1 k x6 x8 x9 x11 x16 true (wrap64 (x18 + 1)) x151000 x151001 x152000 x152001) else (if 0 ≤ x16 then (if x16 < (x9.length : Int) then (if 0 ≤ x18 then (schismalaw04_ConvergentBetween.l1 k x6 x8 x9 x11 x16 ((((rd_T24 x9 x16).f0).toList) == (((rd_T24 x11 x18).f0).toList) && ((((rd_T24 x9 x16).f1).toList) == (((rd_T24 x11 x18).f1).toList))) (wrap64 (x18 + 1)) x151000 x151001 x152000 x152001) else (none)) else (none)) else (none))) else (if x17 = true then (schismalaw04_ConvergentBetween.l0 k x6 x8 x9 x11 (wrap64 (x16 + 1)) x151000 x151001 x152000 x152001) else (some false))
end
noncomputable def schismalaw04_ConvergentBetween.f (k : Nat) (a0_0 : ByteArray) (a0_1 : ByteArray) (a1 : Int) : Option (Bool) := (schismalaw04_known.f k).bind fun t132 => (if t132 = true then (if (a0_0.size : Int) > 5 then (schismalaw04_ConvergentBetween.j0 k a1 true a0_0 a0_1) else (schismalaw04_ConvergentBetween.j0 k a1 (decide ((a0_1.size : Int) > 5)) a0_0 a0_1)) else (schismalaw04_ConvergentBetween.j0 k a1 true a0_0 a0_1))
set_option maxHeartbeats 8000000 in
set_option maxRecDepth 100000 in
theorem schismalaw04_ConvergentBetween.calls (k : Nat) (a0_0 : ByteArray) (a0_1 : ByteArray) (a1 : Int) (r : Bool) (w : World) (hG_ : GWorld w) (h : schismalaw04_ConvergentBetween.f k a0_0 a0_1 a1 = some r) :
  Calls Tryz.prog 12 #[.agg #[.string a0_0, .string a0_1], .int .u8 a1] w fun e w' => e = .returned (.bool r) ∧ Below w.heap.size w w' := by
 have hu24 := Tryz.underlying24
 have HB := Aside0.mk (Below.refl w.heap.size w)
 have HG := Aside0.mk hG_
 clear hG_
 have H : ((schismalaw04_known.f k).bind fun t132 => (if t132 = true then (if (a0_0.size : Int) > 5 then (schismalaw04_ConvergentBetween.j0 k a1 true a0_0 a0_1) else (schismalaw04_ConvergentBetween.j0 k a1 (decide ((a0_1.size : Int) > 5)) a0_0 a0_1)) else (schismalaw04_ConvergentBetween.j0 k a1 true a0_0 a0_1))) = some r := h
 clear h
 have HC3 := Aside0.mk H
 clear H
 go_enter Tryz.func12, Tryz.ntmps12
 go_upto_region 1 with (first | ((with_reducible refine gate_dst (N := 2) rfl ?_); (try (refine gate_guard (by rfl) ?_; dsimp only)); refine bx_ 2 #[.string a0_0, .string a0_1] 24 ?_; clear HB; intro gb131 w4 BK131 GW131 HB; have GE131 := GW131))
 repeat (go_quiet (first | ((with_reducible refine gate_dst (N := 2) rfl ?_); (try (refine gate_guard (by rfl) ?_; dsimp only)); refine bx_ 2 #[.string a0_0, .string a0_1] 24 ?_; clear HB; intro gb131 w4 BK131 GW131 HB; have GE131 := GW131)); go_upto_region 1 with (first | ((with_reducible refine gate_dst (N := 2) rfl ?_); (try (refine gate_guard (by rfl) ?_; dsimp only)); refine bx_ 2 #[.string a0_0, .string a0_1] 24 ?_; clear HB; intro gb131 w4 BK131 GW131 HB; have GE131 := GW131)))
 (try simp only [Act.put, List.setIfInBounds_toArray, List.set_cons_zero, List.set_cons_succ])
 go_cut [38] (fun v38 wc => ∃ (kq : Nat) (x38_2 : Bool), v38 = .bool x38_2 ∧ Aside0 (schismalaw04_ConvergentBetween.j0 kq a1 x38_2 a0_0 a0_1 = some r) ∧ Aside0 (kq ≤ k) ∧ Aside0 (wc.heap[gb131]? = some (.cells #[.string a0_0, .string a0_1] 24 (0, 0))) ∧ Aside0 (Below w.heap.size w wc))
 case first =>
  have H := HC3.out
  clear HC3
  replace H := Option.bind_eq_some_iff.mp H
  obtain ⟨t132, A50, H⟩ := H
  replace H : (if t132 = true then (if (a0_0.size : Int) > 5 then (schismalaw04_ConvergentBetween.j0 k a1 true a0_0 a0_1) else (schismalaw04_ConvergentBetween.j0 k a1 (decide ((a0_1.size : Int) > 5)) a0_0 a0_1)) else (schismalaw04_ConvergentBetween.j0 k a1 true a0_0 a0_1)) = some r := H
  have A5 := Aside0.mk A50
  clear A50
  by_cases c6 : t132 = true
  ·subst c6
   have H1 : (if (a0_0.size : Int) > 5 then (schismalaw04_ConvergentBetween.j0 k a1 true a0_0 a0_1) else (schismalaw04_ConvergentBetween.j0 k a1 (decide ((a0_1.size : Int) > 5)) a0_0 a0_1)) = some r := by rw [if_pos rfl] at H; exact H
   clear H
   have H := H1
   clear H1
   by_cases c7 : (a0_0.size : Int) > 5
   ·rw [if_pos c7] at H
    have c7b0 : decide (5 < (a0_0.size : Int)) = true := decide_eq_true c7
    have c7b1 : decide (5 < a0_0.size) = true := decide_eq_true (by omega)
    clear c7
    (first | rw [c7b0] | (simp only [i64_w, i32_w]; rw [c7b0]) | skip)
    have H' := Aside0.mk H
    clear H
    go_wp2_with (first | (go_at_call 13; (with_reducible refine (schismalaw04_known.calls k  true _ ?side1 A5.out).mono ?_); (case side1 => exact gw_ HG); rintro e w8 ⟨rfl, hb⟩; replace BK131 := kb_ BK131 hb; replace HB := bs_ hb; (try clear hb); (try clear hb2); (try clear hk); (try clear hi); obtain ⟨hcz9_0, hcz9_1, hfz9_0, hfz9_1⟩ := c2_ BK131))
    repeat (go_quiet (first | (go_at_call 13; (with_reducible refine (schismalaw04_known.calls k  true _ ?side1 A5.out).mono ?_); (case side1 => exact gw_ HG); rintro e w8 ⟨rfl, hb⟩; replace BK131 := kb_ BK131 hb; replace HB := bs_ hb; (try clear hb); (try clear hb2); (try clear hk); (try clear hi); obtain ⟨hcz9_0, hcz9_1, hfz9_0, hfz9_1⟩ := c2_ BK131)); try go_wp2_with (first | (go_at_call 13; (with_reducible refine (schismalaw04_known.calls k  true _ ?side1 A5.out).mono ?_); (case side1 => exact gw_ HG); rintro e w8 ⟨rfl, hb⟩; replace BK131 := kb_ BK131 hb; replace HB := bs_ hb; (try clear hb); (try clear hb2); (try clear hk); (try clear hi); obtain ⟨hcz9_0, hcz9_1, hfz9_0, hfz9_1⟩ := c2_ BK131)))
    go_meet
    case rel => exact ⟨_, (true), (by first | rfl | (simp; done) | (simp [*]; done)), H', ⟨by first | omega | exact Nat.le_refl _⟩, ⟨bk_⟩, ⟨bl_⟩⟩
   ·rw [if_neg c7] at H
    have c7b0 : decide (5 < (a0_0.size : Int)) = false := decide_eq_false c7
    have c7b1 : decide (5 < a0_0.size) = false := decide_eq_false (by omega)
    clear c7
    (first | rw [c7b0] | (simp only [i64_w, i32_w]; rw [c7b0]) | skip)
    have H' := Aside0.mk H
    clear H
    go_wp2_with (first | (go_at_call 13; (with_reducible refine (schismalaw04_known.calls k  true _ ?side1 A5.out).mono ?_); (case side1 => exact gw_ HG); rintro e w10 ⟨rfl, hb⟩; replace BK131 := kb_ BK131 hb; replace HB := bs_ hb; (try clear hb); (try clear hb2); (try clear hk); (try clear hi); obtain ⟨hcz11_0, hcz11_1, hfz11_0, hfz11_1⟩ := c2_ BK131))
    repeat (go_quiet (first | (go_at_call 13; (with_reducible refine (schismalaw04_known.calls k  true _ ?side1 A5.out).mono ?_); (case side1 => exact gw_ HG); rintro e w10 ⟨rfl, hb⟩; replace BK131 := kb_ BK131 hb; replace HB := bs_ hb; (try clear hb); (try clear hb2); (try clear hk); (try clear hi); obtain ⟨hcz11_0, hcz11_1, hfz11_0, hfz11_1⟩ := c2_ BK131)); try go_wp2_with (first | (go_at_call 13; (with_reducible refine (schismalaw04_known.calls k  true _ ?side1 A5.out).mono ?_); (case side1 => exact gw_ HG); rintro e w10 ⟨rfl, hb⟩; replace BK131 := kb_ BK131 hb; replace HB := bs_ hb; (try clear hb); (try clear hb2); (try clear hk); (try clear hi); obtain ⟨hcz11_0, hcz11_1, hfz11_0, hfz11_1⟩ := c2_ BK131)))
    go_meet
    case rel => exact ⟨_, (decide ((a0_1.size : Int) > 5)), (by first | rfl | (simp; done) | (simp [*]; done)), H', ⟨by first | omega | exact Nat.le_refl _⟩, ⟨bk_⟩, ⟨bl_⟩⟩
  ·replace c6 := Bool.eq_false_iff.mpr c6
   subst c6
   have H1 : (schismalaw04_ConvergentBetween.j0 k a1 true a0_0 a0_1) = some r := by rw [if_neg (show ¬ (false = true) by decide)] at H; exact H
   clear H
   have H := H1
   clear H1
   have H' := Aside0.mk H
   clear H
   go_wp2_with (first | (go_at_call 13; (with_reducible refine (schismalaw04_known.calls k  false _ ?side1 A5.out).mono ?_); (case side1 => exact gw_ HG); rintro e w12 ⟨rfl, hb⟩; replace BK131 := kb_ BK131 hb; replace HB := bs_ hb; (try clear hb); (try clear hb2); (try clear hk); (try clear hi)))
   repeat (go_quiet (first | (go_at_call 13; (with_reducible refine (schismalaw04_known.calls k  false _ ?side1 A5.out).mono ?_); (case side1 => exact gw_ HG); rintro e w12 ⟨rfl, hb⟩; replace BK131 := kb_ BK131 hb; replace HB := bs_ hb; (try clear hb); (try clear hb2); (try clear hk); (try clear hi))); try go_wp2_with (first | (go_at_call 13; (with_reducible refine (schismalaw04_known.calls k  false _ ?side1 A5.out).mono ?_); (case side1 => exact gw_ HG); rintro e w12 ⟨rfl, hb⟩; replace BK131 := kb_ BK131 hb; replace HB := bs_ hb; (try clear hb); (try clear hb2); (try clear hk); (try clear hi))))
   go_meet
   case rel => exact ⟨_, (true), (by first | rfl | (simp; done) | (simp [*]; done)), H', ⟨by first | omega | exact Nat.le_refl _⟩, ⟨bk_⟩, ⟨bl_⟩⟩
 case rest =>
  clear HC3
  try clear c1
  try clear p2
  try clear c6
  try clear c7
  try clear c7b0
  try clear c7b1
  try clear c12
  try clear hcz11_0
  try clear hcz11_1
  try clear hcz9_0
  try clear hcz9_1
  try clear hfz11_0
  try clear hfz11_1
  try clear hfz9_0
  try clear hfz9_1
  obtain ⟨kq, x38_2, rfl, HA, HJ2, BK131, HB⟩ := hcut
  cases kq with
  | zero => exact absurd HA.out (by simp [schismalaw04_ConvergentBetween.j0])
  | succ kj2 =>
   have H := HA.out
   clear HA
   simp only [schismalaw04_ConvergentBetween.j0] at H
   by_cases c13 : x38_2 = true
   ·subst c13
    have H1 : ((schismalaw04_known.f kj2).bind fun t133 => (some t133)) = some r := by rw [if_pos rfl] at H; exact H
    clear H
    have H := H1
    clear H1
    replace H := Option.bind_eq_some_iff.mp H
    obtain ⟨t133, A140, H⟩ := H
    replace H : (some t133) = some r := H
    have A14 := Aside0.mk A140
    clear A140
    obtain rfl := Option.some.inj H
    go_wp2_with (first | (go_at_call 13; (with_reducible refine (schismalaw04_known.calls kj2  t133 _ ?side1 A14.out).mono ?_); (case side1 => exact gw_ HG); rintro e w15 ⟨rfl, hb⟩; replace BK131 := kb_ BK131 hb; replace HB := bs_ hb; (try clear hb); (try clear hb2); (try clear hk); (try clear hi)))
    repeat (go_quiet (first | (go_at_call 13; (with_reducible refine (schismalaw04_known.calls kj2  t133 _ ?side1 A14.out).mono ?_); (case side1 => exact gw_ HG); rintro e w15 ⟨rfl, hb⟩; replace BK131 := kb_ BK131 hb; replace HB := bs_ hb; (try clear hb); (try clear hb2); (try clear hk); (try clear hi))); try go_wp2_with (first | (go_at_call 13; (with_reducible refine (schismalaw04_known.calls kj2  t133 _ ?side1 A14.out).mono ?_); (case side1 => exact gw_ HG); rintro e w15 ⟨rfl, hb⟩; replace BK131 := kb_ BK131 hb; replace HB := bs_ hb; (try clear hb); (try clear hb2); (try clear hk); (try clear hi))))
    go_ret
    exact ⟨er_, bl_⟩
   ·replace c13 := Bool.eq_false_iff.mpr c13
    subst c13
    have H1 : ((schismaref04_Parts.f kj2 a0_0 a0_1).bind fun bt134 => (if bt134.2.2 = true then ((convergent_Best.f kj2 a0_0 a0_1 (wrap64 (1 + (wrap64 (Int.tmod a1 50))))).bind fun bt137 => ((convergent_Semiconvergents.f kj2 a0_0 a0_1 (wrap64 (1 + (wrap64 (Int.tmod a1 50))))).bind fun bt141 => ((convergent_Neighbours.f kj2 a0_0 a0_1 (wrap64 (1 + (wrap64 (Int.tmod a1 50))))).bind fun bt145 => (if bt137.2 = 0 then (if bt141.2 = 0 then (schismalaw04_ConvergentBetween.j1 kj2 bt134.2.1 (wrap64 (1 + (wrap64 (Int.tmod a1 50)))) bt137.1 bt141.1 (bt145.2.2.2.2 != 0) bt145.1 bt145.2.1 bt145.2.2.1 bt145.2.2.2.1) else (schismalaw04_ConvergentBetween.j1 kj2 bt134.2.1 (wrap64 (1 + (wrap64 (Int.tmod a1 50)))) bt137.1 bt141.1 true bt145.1 bt145.2.1 bt145.2.2.1 bt145.2.2.2.1)) else (schismalaw04_ConvergentBetween.j1 kj2 bt134.2.1 (wrap64 (1 + (wrap64 (Int.tmod a1 50)))) bt137.1 bt141.1 true bt145.1 bt145.2.1 bt145.2.2.1 bt145.2.2.2.1))))) else (some true))) = some r := by rw [if_neg (show ¬ (false = true) by decide)] at H; exact H
    clear H
    have H := H1
    clear H1
    replace H := Option.bind_eq_some_iff.mp H
    obtain ⟨⟨t134, t135, t136⟩, A160, H⟩ := H
    replace H : (if t136 = true then ((convergent_Best.f kj2 a0_0 a0_1 (wrap64 (1 + (wrap64 (Int.tmod a1 50))))).bind fun bt137 => ((convergent_Semiconvergents.f kj2 a0_0 a0_1 (wrap64 (1 + (wrap64 (Int.tmod a1 50))))).bind fun bt141 => ((convergent_Neighbours.f kj2 a0_0 a0_1 (wrap64 (1 + (wrap64 (Int.tmod a1 50))))).bind fun bt145 => (if bt137.2 = 0 then (if bt141.2 = 0 then (schismalaw04_ConvergentBetween.j1 kj2 t135 (wrap64 (1 + (wrap64 (Int.tmod a1 50)))) bt137.1 bt141.1 (bt145.2.2.2.2 != 0) bt145.1 bt145.2.1 bt145.2.2.1 bt145.2.2.2.1) else (schismalaw04_ConvergentBetween.j1 kj2 t135 (wrap64 (1 + (wrap64 (Int.tmod a1 50)))) bt137.1 bt141.1 true bt145.1 bt145.2.1 bt145.2.2.1 bt145.2.2.2.1)) else (schismalaw04_ConvergentBetween.j1 kj2 t135 (wrap64 (1 + (wrap64 (Int.tmod a1 50)))) bt137.1 bt141.1 true bt145.1 bt145.2.1 bt145.2.2.1 bt145.2.2.2.1))))) else (some true)) = some r := H
    have A16 := Aside0.mk A160
    clear A160
    by_cases c17 : t136 = true
    ·subst c17
     have H1 : ((convergent_Best.f kj2 a0_0 a0_1 (wrap64 (1 + (wrap64 (Int.tmod a1 50))))).bind fun bt137 => ((convergent_Semiconvergents.f kj2 a0_0 a0_1 (wrap64 (1 + (wrap64 (Int.tmod a1 50))))).bind fun bt141 => ((convergent_Neighbours.f kj2 a0_0 a0_1 (wrap64 (1 + (wrap64 (Int.tmod a1 50))))).bind fun bt145 => (if bt137.2 = 0 then (if bt141.2 = 0 then (schismalaw04_ConvergentBetween.j1 kj2 t135 (wrap64 (1 + (wrap64 (Int.tmod a1 50)))) bt137.1 bt141.1 (bt145.2.2.2.2 != 0) bt145.1 bt145.2.1 bt145.2.2.1 bt145.2.2.2.1) else (schismalaw04_ConvergentBetween.j1 kj2 t135 (wrap64 (1 + (wrap64 (Int.tmod a1 50)))) bt137.1 bt141.1 true bt145.1 bt145.2.1 bt145.2.2.1 bt145.2.2.2.1)) else (schismalaw04_ConvergentBetween.j1 kj2 t135 (wrap64 (1 + (wrap64 (Int.tmod a1 50)))) bt137.1 bt141.1 true bt145.1 bt145.2.1 bt145.2.2.1 bt145.2.2.2.1))))) = some r := by rw [if_pos rfl] at H; exact H
     clear H
     have H := H1
     clear H1
     replace H := Option.bind_eq_some_iff.mp H
     obtain ⟨⟨t137, t140⟩, A180, H⟩ := H
     replace H : ((convergent_Semiconvergents.f kj2 a0_0 a0_1 (wrap64 (1 + (wrap64 (Int.tmod a1 50))))).bind fun bt141 => ((convergent_Neighbours.f kj2 a0_0 a0_1 (wrap64 (1 + (wrap64 (Int.tmod a1 50))))).bind fun bt145 => (if t140 = 0 then (if bt141.2 = 0 then (schismalaw04_ConvergentBetween.j1 kj2 t135 (wrap64 (1 + (wrap64 (Int.tmod a1 50)))) t137 bt141.1 (bt145.2.2.2.2 != 0) bt145.1 bt145.2.1 bt145.2.2.1 bt145.2.2.2.1) else (schismalaw04_ConvergentBetween.j1 kj2 t135 (wrap64 (1 + (wrap64 (Int.tmod a1 50)))) t137 bt141.1 true bt145.1 bt145.2.1 bt145.2.2.1 bt145.2.2.2.1)) else (schismalaw04_ConvergentBetween.j1 kj2 t135 (wrap64 (1 + (wrap64 (Int.tmod a1 50)))) t137 bt141.1 true bt145.1 bt145.2.1 bt145.2.2.1 bt145.2.2.2.1)))) = some r := H
     have A18 := Aside0.mk A180
     clear A180
     replace H := Option.bind_eq_some_iff.mp H
     obtain ⟨⟨t141, t144⟩, A190, H⟩ := H
     replace H : ((convergent_Neighbours.f kj2 a0_0 a0_1 (wrap64 (1 + (wrap64 (Int.tmod a1 50))))).bind fun bt145 => (if t140 = 0 then (if t144 = 0 then (schismalaw04_ConvergentBetween.j1 kj2 t135 (wrap64 (1 + (wrap64 (Int.tmod a1 50)))) t137 t141 (bt145.2.2.2.2 != 0) bt145.1 bt145.2.1 bt145.2.2.1 bt145.2.2.2.1) else (schismalaw04_ConvergentBetween.j1 kj2 t135 (wrap64 (1 + (wrap64 (Int.tmod a1 50)))) t137 t141 true bt145.1 bt145.2.1 bt145.2.2.1 bt145.2.2.2.1)) else (schismalaw04_ConvergentBetween.j1 kj2 t135 (wrap64 (1 + (wrap64 (Int.tmod a1 50)))) t137 t141 true bt145.1 bt145.2.1 bt145.2.2.1 bt145.2.2.2.1))) = some r := H
     have A19 := Aside0.mk A190
     clear A190
     replace H := Option.bind_eq_some_iff.mp H
     obtain ⟨⟨t145, t146, t147, t148, t149⟩, A200, H⟩ := H
     replace H : (if t140 = 0 then (if t144 = 0 then (schismalaw04_ConvergentBetween.j1 kj2 t135 (wrap64 (1 + (wrap64 (Int.tmod a1 50)))) t137 t141 (t149 != 0) t145 t146 t147 t148) else (schismalaw04_ConvergentBetween.j1 kj2 t135 (wrap64 (1 + (wrap64 (Int.tmod a1 50)))) t137 t141 true t145 t146 t147 t148)) else (schismalaw04_ConvergentBetween.j1 kj2 t135 (wrap64 (1 + (wrap64 (Int.tmod a1 50)))) t137 t141 true t145 t146 t147 t148)) = some r := H
     have A20 := Aside0.mk A200
     clear A200
     have HC21 := Aside0.mk H
     clear H
     have hcz22_0 : wc.cell? ⟨gb131, 0, none⟩ = some (.string a0_0) := (blk_cell BK131.out 0).trans rfl
     have hcz22_1 : wc.cell? ⟨gb131, 1, none⟩ = some (.string a0_1) := (blk_cell BK131.out 1).trans rfl
     have hfz22_0 := blk_frozen BK131.out 0
     have hfz22_1 := blk_frozen BK131.out 1
     go_upto_region 10 with (first | (go_at_call 15; (with_reducible refine (schismaref04_Parts.calls kj2 a0_0 a0_1 t134 t135 true _ A16.out).mono ?_); rintro e w23 ⟨rfl, hb⟩; replace BK131 := kb_ BK131 hb; replace HB := bs_ hb; (try clear hb); (try clear hb2); (try clear hk); (try clear hi); obtain ⟨hcz24_0, hcz24_1, hfz24_0, hfz24_1⟩ := c2_ BK131) | (go_at_call 28; (with_reducible refine (convergent_Best.calls kj2 a0_0 a0_1 (wrap64 (1 + (wrap64 (Int.tmod a1 50)))) t137 t140 _ ?side1 A18.out).mono ?_); (case side1 => exact gw_ HG); rintro e w25 ⟨v138, rfl, ho0, hb⟩; have HO139 := Aside0.mk (Kd.R_lower (Kd.R_newB ho0 (g := gb131) (o := .cells #[.string a0_0, .string a0_1] 24 (0, 0)) bk_) (below_size bl_)); replace BK131 := kb_ BK131 hb; replace HB := bs_ hb; (try clear hb); (try clear hb2); (try clear hk); (try clear hi); (try clear ho0); obtain ⟨hcz26_0, hcz26_1, hfz26_0, hfz26_1⟩ := c2_ BK131) | (go_at_call 25; (with_reducible refine (convergent_Semiconvergents.calls kj2 a0_0 a0_1 (wrap64 (1 + (wrap64 (Int.tmod a1 50)))) t141 t144 _ ?side1 A19.out).mono ?_); (case side1 => exact gw_ HG); rintro e w27 ⟨v142, rfl, ho0, hb⟩; have HO143 := Aside0.mk (Kd.R_lower (Kd.R_newB (Kd.R_new' ho0 (Kd.R_lt (by (with_reducible repeat (first | apply Kd.R_alloc | apply Kd.R_drewN | apply Kd.R_drew)); exact HO139.out))) (g := gb131) (o := .cells #[.string a0_0, .string a0_1] 24 (0, 0)) bk_) (below_size bl_)); replace HO139 := Aside0.mk (Kd.R_elder' (by (with_reducible repeat (first | apply Kd.R_alloc | apply Kd.R_drewN | apply Kd.R_drew)); exact HO139.out) (Kd.R_base ho0) hb); replace BK131 := kb_ BK131 hb; replace HB := bs_ hb; (try clear hb); (try clear hb2); (try clear hk); (try clear hi); (try clear ho0); obtain ⟨hcz28_0, hcz28_1, hfz28_0, hfz28_1⟩ := c2_ BK131) | (go_at_call 35; (with_reducible refine (convergent_Neighbours.calls kj2 a0_0 a0_1 (wrap64 (1 + (wrap64 (Int.tmod a1 50)))) t145 t146 t147 t148 t149 _ ?side1 A20.out).mono ?_); (case side1 => exact gw_ HG); rintro e w29 ⟨rfl, hb⟩; replace HO139 := rb_ HO139 hb; replace HO143 := rb_ HO143 hb; replace BK131 := kb_ BK131 hb; replace HB := bs_ hb; (try clear hb); (try clear hb2); (try clear hk); (try clear hi)) | ((with_reducible refine gate_dst (N := 13) rfl ?_); (try (refine gate_guard (by rfl) ?_; dsimp only)); refine box_event ?hg (N := 13) ?hd (cs := #[.string (⟨#[]⟩ : ByteArray), .string (⟨#[]⟩ : ByteArray)]) (t := 24) ?hr ?_; (case hd => rfl); (case hg => rfl); (case hr => first | (go_simp; done) | (go_simp; rfl)); intro gb150 hg w30 hbox hb; replace HO139 := Aside0.mk (Kd.R_below (Kd.R_elderB (by (with_reducible repeat (first | apply Kd.R_alloc | apply Kd.R_drewN | apply Kd.R_drew)); exact HO139.out) gb150 (Nat.le_of_eq hg.symm)) hb); replace HO143 := Aside0.mk (Kd.R_below (Kd.R_elderB (by (with_reducible repeat (first | apply Kd.R_alloc | apply Kd.R_drewN | apply Kd.R_drew)); exact HO143.out) gb150 (Nat.le_of_eq hg.symm)) hb); have BK150 := Aside0.mk (hbox); have GW150 := ge_ (w := w) hg; have GE150 := ge_ (w := w) hg; replace HB := bs_ hb; have NB131_150 := nl_ hg BK131; have NB150_131 := ng_ hg BK131; replace BK131 := kb_ BK131 hb; clear hb hbox hg) | ((with_reducible refine gate_dst (N := 14) rfl ?_); (try (refine gate_guard (by rfl) ?_; dsimp only)); refine box_event ?hg (N := 14) ?hd (cs := #[.string (⟨#[]⟩ : ByteArray), .string (⟨#[]⟩ : ByteArray)]) (t := 24) ?hr ?_; (case hd => rfl); (case hg => rfl); (case hr => first | (go_simp; done) | (go_simp; rfl)); intro gb151 hg w31 hbox hb; replace HO139 := Aside0.mk (Kd.R_below (Kd.R_elderB (by (with_reducible repeat (first | apply Kd.R_alloc | apply Kd.R_drewN | apply Kd.R_drew)); exact HO139.out) gb151 (Nat.le_of_eq hg.symm)) hb); replace HO143 := Aside0.mk (Kd.R_below (Kd.R_elderB (by (with_reducible repeat (first | apply Kd.R_alloc | apply Kd.R_drewN | apply Kd.R_drew)); exact HO143.out) gb151 (Nat.le_of_eq hg.symm)) hb); have BK151 := Aside0.mk (hbox); have GW151 := ge_ (w := w) hg; have GE151 := ge_ (w := w) hg; replace HB := bs_ hb; have NB131_151 := nl_ hg BK131; have NB151_131 := ng_ hg BK131; replace BK131 := kb_ BK131 hb; have NB150_151 := nl_ hg BK150; have NB151_150 := ng_ hg BK150; replace BK150 := kb_ BK150 hb; clear hb hbox hg; have hnb32 := NB150_131.out; have hnc32 := NB131_150.out; have hnb33 := NB150_151.out; have hnc33 := NB151_150.out; obtain ⟨hcz34_0, hcz34_1, hfz34_0, hfz34_1⟩ := c2_ BK150; have hnb35 := NB151_131.out; have hnc35 := NB131_151.out; obtain ⟨hcz36_0, hcz36_1, hfz36_0, hfz36_1⟩ := c2_ BK151))
     repeat (go_quiet (first | (go_at_call 15; (with_reducible refine (schismaref04_Parts.calls kj2 a0_0 a0_1 t134 t135 true _ A16.out).mono ?_); rintro e w23 ⟨rfl, hb⟩; replace BK131 := kb_ BK131 hb; replace HB := bs_ hb; (try clear hb); (try clear hb2); (try clear hk); (try clear hi); obtain ⟨hcz24_0, hcz24_1, hfz24_0, hfz24_1⟩ := c2_ BK131) | (go_at_call 28; (with_reducible refine (convergent_Best.calls kj2 a0_0 a0_1 (wrap64 (1 + (wrap64 (Int.tmod a1 50)))) t137 t140 _ ?side1 A18.out).mono ?_); (case side1 => exact gw_ HG); rintro e w25 ⟨v138, rfl, ho0, hb⟩; have HO139 := Aside0.mk (Kd.R_lower (Kd.R_newB ho0 (g := gb131) (o := .cells #[.string a0_0, .string a0_1] 24 (0, 0)) bk_) (below_size bl_)); replace BK131 := kb_ BK131 hb; replace HB := bs_ hb; (try clear hb); (try clear hb2); (try clear hk); (try clear hi); (try clear ho0); obtain ⟨hcz26_0, hcz26_1, hfz26_0, hfz26_1⟩ := c2_ BK131) | (go_at_call 25; (with_reducible refine (convergent_Semiconvergents.calls kj2 a0_0 a0_1 (wrap64 (1 + (wrap64 (Int.tmod a1 50)))) t141 t144 _ ?side1 A19.out).mono ?_); (case side1 => exact gw_ HG); rintro e w27 ⟨v142, rfl, ho0, hb⟩; have HO143 := Aside0.mk (Kd.R_lower (Kd.R_newB (Kd.R_new' ho0 (Kd.R_lt (by (with_reducible repeat (first | apply Kd.R_alloc | apply Kd.R_drewN | apply Kd.R_drew)); exact HO139.out))) (g := gb131) (o := .cells #[.string a0_0, .string a0_1] 24 (0, 0)) bk_) (below_size bl_)); replace HO139 := Aside0.mk (Kd.R_elder' (by (with_reducible repeat (first | apply Kd.R_alloc | apply Kd.R_drewN | apply Kd.R_drew)); exact HO139.out) (Kd.R_base ho0) hb); replace BK131 := kb_ BK131 hb; replace HB := bs_ hb; (try clear hb); (try clear hb2); (try clear hk); (try clear hi); (try clear ho0); obtain ⟨hcz28_0, hcz28_1, hfz28_0, hfz28_1⟩ := c2_ BK131) | (go_at_call 35; (with_reducible refine (convergent_Neighbours.calls kj2 a0_0 a0_1 (wrap64 (1 + (wrap64 (Int.tmod a1 50)))) t145 t146 t147 t148 t149 _ ?side1 A20.out).mono ?_); (case side1 => exact gw_ HG); rintro e w29 ⟨rfl, hb⟩; replace HO139 := rb_ HO139 hb; replace HO143 := rb_ HO143 hb; replace BK131 := kb_ BK131 hb; replace HB := bs_ hb; (try clear hb); (try clear hb2); (try clear hk); (try clear hi)) | ((with_reducible refine gate_dst (N := 13) rfl ?_); (try (refine gate_guard (by rfl) ?_; dsimp only)); refine box_event ?hg (N := 13) ?hd (cs := #[.string (⟨#[]⟩ : ByteArray), .string (⟨#[]⟩ : ByteArray)]) (t := 24) ?hr ?_; (case hd => rfl); (case hg => rfl); (case hr => first | (go_simp; done) | (go_simp; rfl)); intro gb150 hg w30 hbox hb; replace HO139 := Aside0.mk (Kd.R_below (Kd.R_elderB (by (with_reducible repeat (first | apply Kd.R_alloc | apply Kd.R_drewN | apply Kd.R_drew)); exact HO139.out) gb150 (Nat.le_of_eq hg.symm)) hb); replace HO143 := Aside0.mk (Kd.R_below (Kd.R_elderB (by (with_reducible repeat (first | apply Kd.R_alloc | apply Kd.R_drewN | apply Kd.R_drew)); exact HO143.out) gb150 (Nat.le_of_eq hg.symm)) hb); have BK150 := Aside0.mk (hbox); have GW150 := ge_ (w := w) hg; have GE150 := ge_ (w := w) hg; replace HB := bs_ hb; have NB131_150 := nl_ hg BK131; have NB150_131 := ng_ hg BK131; replace BK131 := kb_ BK131 hb; clear hb hbox hg) | ((with_reducible refine gate_dst (N := 14) rfl ?_); (try (refine gate_guard (by rfl) ?_; dsimp only)); refine box_event ?hg (N := 14) ?hd (cs := #[.string (⟨#[]⟩ : ByteArray), .string (⟨#[]⟩ : ByteArray)]) (t := 24) ?hr ?_; (case hd => rfl); (case hg => rfl); (case hr => first | (go_simp; done) | (go_simp; rfl)); intro gb151 hg w31 hbox hb; replace HO139 := Aside0.mk (Kd.R_below (Kd.R_elderB (by (with_reducible repeat (first | apply Kd.R_alloc | apply Kd.R_drewN | apply Kd.R_drew)); exact HO139.out) gb151 (Nat.le_of_eq hg.symm)) hb); replace HO143 := Aside0.mk (Kd.R_below (Kd.R_elderB (by (with_reducible repeat (first | apply Kd.R_alloc | apply Kd.R_drewN | apply Kd.R_drew)); exact HO143.out) gb151 (Nat.le_of_eq hg.symm)) hb); have BK151 := Aside0.mk (hbox); have GW151 := ge_ (w := w) hg; have GE151 := ge_ (w := w) hg; replace HB := bs_ hb; have NB131_151 := nl_ hg BK131; have NB151_131 := ng_ hg BK131; replace BK131 := kb_ BK131 hb; have NB150_151 := nl_ hg BK150; have NB151_150 := ng_ hg BK150; replace BK150 := kb_ BK150 hb; clear hb hbox hg; have hnb32 := NB150_131.out; have hnc32 := NB131_150.out; have hnb33 := NB150_151.out; have hnc33 := NB151_150.out; obtain ⟨hcz34_0, hcz34_1, hfz34_0, hfz34_1⟩ := c2_ BK150; have hnb35 := NB151_131.out; have hnc35 := NB131_151.out; obtain ⟨hcz36_0, hcz36_1, hfz36_0, hfz36_1⟩ := c2_ BK151)); go_upto_region 10 with (first | (go_at_call 15; (with_reducible refine (schismaref04_Parts.calls kj2 a0_0 a0_1 t134 t135 true _ A16.out).mono ?_); rintro e w23 ⟨rfl, hb⟩; replace BK131 := kb_ BK131 hb; replace HB := bs_ hb; (try clear hb); (try clear hb2); (try clear hk); (try clear hi); obtain ⟨hcz24_0, hcz24_1, hfz24_0, hfz24_1⟩ := c2_ BK131) | (go_at_call 28; (with_reducible refine (convergent_Best.calls kj2 a0_0 a0_1 (wrap64 (1 + (wrap64 (Int.tmod a1 50)))) t137 t140 _ ?side1 A18.out).mono ?_); (case side1 => exact gw_ HG); rintro e w25 ⟨v138, rfl, ho0, hb⟩; have HO139 := Aside0.mk (Kd.R_lower (Kd.R_newB ho0 (g := gb131) (o := .cells #[.string a0_0, .string a0_1] 24 (0, 0)) bk_) (below_size bl_)); replace BK131 := kb_ BK131 hb; replace HB := bs_ hb; (try clear hb); (try clear hb2); (try clear hk); (try clear hi); (try clear ho0); obtain ⟨hcz26_0, hcz26_1, hfz26_0, hfz26_1⟩ := c2_ BK131) | (go_at_call 25; (with_reducible refine (convergent_Semiconvergents.calls kj2 a0_0 a0_1 (wrap64 (1 + (wrap64 (Int.tmod a1 50)))) t141 t144 _ ?side1 A19.out).mono ?_); (case side1 => exact gw_ HG); rintro e w27 ⟨v142, rfl, ho0, hb⟩; have HO143 := Aside0.mk (Kd.R_lower (Kd.R_newB (Kd.R_new' ho0 (Kd.R_lt (by (with_reducible repeat (first | apply Kd.R_alloc | apply Kd.R_drewN | apply Kd.R_drew)); exact HO139.out))) (g := gb131) (o := .cells #[.string a0_0, .string a0_1] 24 (0, 0)) bk_) (below_size bl_)); replace HO139 := Aside0.mk (Kd.R_elder' (by (with_reducible repeat (first | apply Kd.R_alloc | apply Kd.R_drewN | apply Kd.R_drew)); exact HO139.out) (Kd.R_base ho0) hb); replace BK131 := kb_ BK131 hb; replace HB := bs_ hb; (try clear hb); (try clear hb2); (try clear hk); (try clear hi); (try clear ho0); obtain ⟨hcz28_0, hcz28_1, hfz28_0, hfz28_1⟩ := c2_ BK131) | (go_at_call 35; (with_reducible refine (convergent_Neighbours.calls kj2 a0_0 a0_1 (wrap64 (1 + (wrap64 (Int.tmod a1 50)))) t145 t146 t147 t148 t149 _ ?side1 A20.out).mono ?_); (case side1 => exact gw_ HG); rintro e w29 ⟨rfl, hb⟩; replace HO139 := rb_ HO139 hb; replace HO143 := rb_ HO143 hb; replace BK131 := kb_ BK131 hb; replace HB := bs_ hb; (try clear hb); (try clear hb2); (try clear hk); (try clear hi)) | ((with_reducible refine gate_dst (N := 13) rfl ?_); (try (refine gate_guard (by rfl) ?_; dsimp only)); refine box_event ?hg (N := 13) ?hd (cs := #[.string (⟨#[]⟩ : ByteArray), .string (⟨#[]⟩ : ByteArray)]) (t := 24) ?hr ?_; (case hd => rfl); (case hg => rfl); (case hr => first | (go_simp; done) | (go_simp; rfl)); intro gb150 hg w30 hbox hb; replace HO139 := Aside0.mk (Kd.R_below (Kd.R_elderB (by (with_reducible repeat (first | apply Kd.R_alloc | apply Kd.R_drewN | apply Kd.R_drew)); exact HO139.out) gb150 (Nat.le_of_eq hg.symm)) hb); replace HO143 := Aside0.mk (Kd.R_below (Kd.R_elderB (by (with_reducible repeat (first | apply Kd.R_alloc | apply Kd.R_drewN | apply Kd.R_drew)); exact HO143.out) gb150 (Nat.le_of_eq hg.symm)) hb); have BK150 := Aside0.mk (hbox); have GW150 := ge_ (w := w) hg; have GE150 := ge_ (w := w) hg; replace HB := bs_ hb; have NB131_150 := nl_ hg BK131; have NB150_131 := ng_ hg BK131; replace BK131 := kb_ BK131 hb; clear hb hbox hg) | ((with_reducible refine gate_dst (N := 14) rfl ?_); (try (refine gate_guard (by rfl) ?_; dsimp only)); refine box_event ?hg (N := 14) ?hd (cs := #[.string (⟨#[]⟩ : ByteArray), .string (⟨#[]⟩ : ByteArray)]) (t := 24) ?hr ?_; (case hd => rfl); (case hg => rfl); (case hr => first | (go_simp; done) | (go_simp; rfl)); intro gb151 hg w31 hbox hb; replace HO139 := Aside0.mk (Kd.R_below (Kd.R_elderB (by (with_reducible repeat (first | apply Kd.R_alloc | apply Kd.R_drewN | apply Kd.R_drew)); exact HO139.out) gb151 (Nat.le_of_eq hg.symm)) hb); replace HO143 := Aside0.mk (Kd.R_below (Kd.R_elderB (by (with_reducible repeat (first | apply Kd.R_alloc | apply Kd.R_drewN | apply Kd.R_drew)); exact HO143.out) gb151 (Nat.le_of_eq hg.symm)) hb); have BK151 := Aside0.mk (hbox); have GW151 := ge_ (w := w) hg; have GE151 := ge_ (w := w) hg; replace HB := bs_ hb; have NB131_151 := nl_ hg BK131; have NB151_131 := ng_ hg BK131; replace BK131 := kb_ BK131 hb; have NB150_151 := nl_ hg BK150; have NB151_150 := ng_ hg BK150; replace BK150 := kb_ BK150 hb; clear hb hbox hg; have hnb32 := NB150_131.out; have hnc32 := NB131_150.out; have hnb33 := NB150_151.out; have hnc33 := NB151_150.out; obtain ⟨hcz34_0, hcz34_1, hfz34_0, hfz34_1⟩ := c2_ BK150; have hnb35 := NB151_131.out; have hnc35 := NB131_151.out; obtain ⟨hcz36_0, hcz36_1, hfz36_0, hfz36_1⟩ := c2_ BK151)))
     (try simp only [Act.put, List.setIfInBounds_toArray, List.set_cons_zero, List.set_cons_succ])
     go_cut [80] (fun v80 wc => ∃ (kq : Nat) (x80_20 : Bool), v80 = .bool x80_20 ∧ Aside0 (schismalaw04_ConvergentBetween.j1 kq t135 (wrap64 (1 + (wrap64 (Int.tmod a1 50)))) t137 t141 x80_20 t145 t146 t147 t148 = some r) ∧ Aside0 (kq ≤ kj2) ∧ Aside0 (Kd.R k24 24 wc w.heap.size (fun k_ => some k_ ≠ (v142 : Value).ownBlock ∧ k_ ≠ gb131 ∧ k_ ≠ gb150 ∧ k_ ≠ gb151) v138 t137) ∧ Aside0 (Kd.R k24 24 wc w.heap.size (fun k_ => some k_ ≠ (v138 : Value).ownBlock ∧ k_ ≠ gb131 ∧ k_ ≠ gb150 ∧ k_ ≠ gb151) v142 t141) ∧ Aside0 (wc.heap[gb131]? = some (.cells #[.string a0_0, .string a0_1] 24 (0, 0))) ∧ Aside0 (wc.heap[gb150]? = some (.cells #[.string t145, .string t146] 24 (0, 0))) ∧ Aside0 (wc.heap[gb151]? = some (.cells #[.string t147, .string t148] 24 (0, 0))) ∧ Aside0 (Below w.heap.size w wc))
     case first =>
      have H := HC21.out
      clear HC21
      by_cases c37 : t140 = 0
      ·rw [if_pos c37] at H
       have c37b0 : (t140 == 0) = true := beq_iff_eq.mpr c37
       have c37b1 : (t140 != 0) = false := bne_eq_false_iff_eq.mpr c37
       clear c37
       (first | rw [c37b0] | (simp only [i64_w, i32_w]; rw [c37b0]) | skip)
       by_cases c38 : t144 = 0
       ·rw [if_pos c38] at H
        have c38b0 : (t144 == 0) = true := beq_iff_eq.mpr c38
        have c38b1 : (t144 != 0) = false := bne_eq_false_iff_eq.mpr c38
        clear c38
        have H' := Aside0.mk H
        clear H
        go_wp2
        repeat (go_quiet (fail); try go_wp2)
        go_meet
        case rel => exact ⟨_, ((t149 != 0)), (by first | rfl | (simp; done) | (simp [*]; done)), H', ⟨by have := HJ2.out; first | omega | exact Nat.le_refl _⟩, ⟨by (with_reducible repeat (first | apply Kd.R_alloc | apply Kd.R_drewN | apply Kd.R_drew)); exact Kd.R_mono (Kd.R_far (p := ⟨gb151, 1, none⟩) (Kd.R_far (p := ⟨gb151, 0, none⟩) (Kd.R_far (p := ⟨gb150, 1, none⟩) (Kd.R_far (p := ⟨gb150, 0, none⟩) (Kd.R_mono (Kd.R_mono HO139.out (fun k_ hk => (⟨hk, hk.1.2⟩ : _ ∧ k_ ≠ gb150))) (fun k_ hk => (⟨hk, hk.1.2⟩ : _ ∧ k_ ≠ gb151))) (fun _ hk => hk.1.2) (.string t145)) (fun _ hk => hk.1.2) (.string t146)) (fun _ hk => hk.2) (.string t147)) (fun _ hk => hk.2) (.string t148)) (fun _ hk => ⟨hk.1.1.1.1.2, ⟨hk.1.1.1.1.1.2, ⟨hk.1.1.1.2, hk.1.1.2⟩⟩⟩)⟩, ⟨by (with_reducible repeat (first | apply Kd.R_alloc | apply Kd.R_drewN | apply Kd.R_drew)); exact Kd.R_mono (Kd.R_far (p := ⟨gb151, 1, none⟩) (Kd.R_far (p := ⟨gb151, 0, none⟩) (Kd.R_far (p := ⟨gb150, 1, none⟩) (Kd.R_far (p := ⟨gb150, 0, none⟩) (Kd.R_mono (Kd.R_mono HO143.out (fun k_ hk => (⟨hk, hk.1.2⟩ : _ ∧ k_ ≠ gb150))) (fun k_ hk => (⟨hk, hk.1.2⟩ : _ ∧ k_ ≠ gb151))) (fun _ hk => hk.1.2) (.string t145)) (fun _ hk => hk.1.2) (.string t146)) (fun _ hk => hk.2) (.string t147)) (fun _ hk => hk.2) (.string t148)) (fun _ hk => ⟨hk.1.1.1.1.1.2, ⟨hk.1.1.1.1.2, ⟨hk.1.1.1.2, hk.1.1.2⟩⟩⟩)⟩, ⟨by (with_reducible repeat (first | refine blk_drewN ?_ _ | refine blk_drew ?_ | refine blk_alloc ?_ _)); refine blk_far ?_ NB131_151.out _; (with_reducible repeat (first | refine blk_drewN ?_ _ | refine blk_drew ?_ | refine blk_alloc ?_ _)); refine blk_far ?_ NB131_151.out _; (with_reducible repeat (first | refine blk_drewN ?_ _ | refine blk_drew ?_ | refine blk_alloc ?_ _)); refine blk_far ?_ NB131_150.out _; (with_reducible repeat (first | refine blk_drewN ?_ _ | refine blk_drew ?_ | refine blk_alloc ?_ _)); refine blk_far ?_ NB131_150.out _; (with_reducible repeat (first | refine blk_drewN ?_ _ | refine blk_drew ?_ | refine blk_alloc ?_ _)); exact BK131.out⟩, ⟨by (with_reducible repeat (first | refine blk_drewN ?_ _ | refine blk_drew ?_ | refine blk_alloc ?_ _)); refine blk_far ?_ NB150_151.out _; (with_reducible repeat (first | refine blk_drewN ?_ _ | refine blk_drew ?_ | refine blk_alloc ?_ _)); refine blk_far ?_ NB150_151.out _; (with_reducible repeat (first | refine blk_drewN ?_ _ | refine blk_drew ?_ | refine blk_alloc ?_ _)); refine blk_put (cs := #[.string t145, .string (⟨#[]⟩ : ByteArray)]) ?_ 1 _ rfl; (with_reducible repeat (first | refine blk_drewN ?_ _ | refine blk_drew ?_ | refine blk_alloc ?_ _)); refine blk_put (cs := #[.string (⟨#[]⟩ : ByteArray), .string (⟨#[]⟩ : ByteArray)]) ?_ 0 _ rfl; (with_reducible repeat (first | refine blk_drewN ?_ _ | refine blk_drew ?_ | refine blk_alloc ?_ _)); exact BK150.out⟩, ⟨by (with_reducible repeat (first | refine blk_drewN ?_ _ | refine blk_drew ?_ | refine blk_alloc ?_ _)); refine blk_put (cs := #[.string t147, .string (⟨#[]⟩ : ByteArray)]) ?_ 1 _ rfl; (with_reducible repeat (first | refine blk_drewN ?_ _ | refine blk_drew ?_ | refine blk_alloc ?_ _)); refine blk_put (cs := #[.string (⟨#[]⟩ : ByteArray), .string (⟨#[]⟩ : ByteArray)]) ?_ 0 _ rfl; (with_reducible repeat (first | refine blk_drewN ?_ _ | refine blk_drew ?_ | refine blk_alloc ?_ _)); refine blk_far ?_ NB151_150.out _; (with_reducible repeat (first | refine blk_drewN ?_ _ | refine blk_drew ?_ | refine blk_alloc ?_ _)); refine blk_far ?_ NB151_150.out _; (with_reducible repeat (first | refine blk_drewN ?_ _ | refine blk_drew ?_ | refine blk_alloc ?_ _)); exact BK151.out⟩, ⟨bl_⟩⟩
       ·rw [if_neg c38] at H
        have c38b0 : (t144 == 0) = false := beq_eq_false_iff_ne.mpr c38
        have c38b1 : (t144 != 0) = true := bne_iff_ne.mpr c38
        have H' := Aside0.mk H
        clear H
        go_wp2
        repeat (go_quiet (fail); try go_wp2)
        go_meet
        case rel => exact ⟨_, (true), (by first | rfl | (simp; done) | (simp [*]; done)), H', ⟨by have := HJ2.out; first | omega | exact Nat.le_refl _⟩, ⟨by (with_reducible repeat (first | apply Kd.R_alloc | apply Kd.R_drewN | apply Kd.R_drew)); exact Kd.R_mono (Kd.R_far (p := ⟨gb151, 1, none⟩) (Kd.R_far (p := ⟨gb151, 0, none⟩) (Kd.R_far (p := ⟨gb150, 1, none⟩) (Kd.R_far (p := ⟨gb150, 0, none⟩) (Kd.R_mono (Kd.R_mono HO139.out (fun k_ hk => (⟨hk, hk.1.2⟩ : _ ∧ k_ ≠ gb150))) (fun k_ hk => (⟨hk, hk.1.2⟩ : _ ∧ k_ ≠ gb151))) (fun _ hk => hk.1.2) (.string t145)) (fun _ hk => hk.1.2) (.string t146)) (fun _ hk => hk.2) (.string t147)) (fun _ hk => hk.2) (.string t148)) (fun _ hk => ⟨hk.1.1.1.1.2, ⟨hk.1.1.1.1.1.2, ⟨hk.1.1.1.2, hk.1.1.2⟩⟩⟩)⟩, ⟨by (with_reducible repeat (first | apply Kd.R_alloc | apply Kd.R_drewN | apply Kd.R_drew)); exact Kd.R_mono (Kd.R_far (p := ⟨gb151, 1, none⟩) (Kd.R_far (p := ⟨gb151, 0, none⟩) (Kd.R_far (p := ⟨gb150, 1, none⟩) (Kd.R_far (p := ⟨gb150, 0, none⟩) (Kd.R_mono (Kd.R_mono HO143.out (fun k_ hk => (⟨hk, hk.1.2⟩ : _ ∧ k_ ≠ gb150))) (fun k_ hk => (⟨hk, hk.1.2⟩ : _ ∧ k_ ≠ gb151))) (fun _ hk => hk.1.2) (.string t145)) (fun _ hk => hk.1.2) (.string t146)) (fun _ hk => hk.2) (.string t147)) (fun _ hk => hk.2) (.string t148)) (fun _ hk => ⟨hk.1.1.1.1.1.2, ⟨hk.1.1.1.1.2, ⟨hk.1.1.1.2, hk.1.1.2⟩⟩⟩)⟩, ⟨by (with_reducible repeat (first | refine blk_drewN ?_ _ | refine blk_drew ?_ | refine blk_alloc ?_ _)); refine blk_far ?_ NB131_151.out _; (with_reducible repeat (first | refine blk_drewN ?_ _ | refine blk_drew ?_ | refine blk_alloc ?_ _)); refine blk_far ?_ NB131_151.out _; (with_reducible repeat (first | refine blk_drewN ?_ _ | refine blk_drew ?_ | refine blk_alloc ?_ _)); refine blk_far ?_ NB131_150.out _; (with_reducible repeat (first | refine blk_drewN ?_ _ | refine blk_drew ?_ | refine blk_alloc ?_ _)); refine blk_far ?_ NB131_150.out _; (with_reducible repeat (first | refine blk_drewN ?_ _ | refine blk_drew ?_ | refine blk_alloc ?_ _)); exact BK131.out⟩, ⟨by (with_reducible repeat (first | refine blk_drewN ?_ _ | refine blk_drew ?_ | refine blk_alloc ?_ _)); refine blk_far ?_ NB150_151.out _; (with_reducible repeat (first | refine blk_drewN ?_ _ | refine blk_drew ?_ | refine blk_alloc ?_ _)); refine blk_far ?_ NB150_151.out _; (with_reducible repeat (first | refine blk_drewN ?_ _ | refine blk_drew ?_ | refine blk_alloc ?_ _)); refine blk_put (cs := #[.string t145, .string (⟨#[]⟩ : ByteArray)]) ?_ 1 _ rfl; (with_reducible repeat (first | refine blk_drewN ?_ _ | refine blk_drew ?_ | refine blk_alloc ?_ _)); refine blk_put (cs := #[.string (⟨#[]⟩ : ByteArray), .string (⟨#[]⟩ : ByteArray)]) ?_ 0 _ rfl; (with_reducible repeat (first | refine blk_drewN ?_ _ | refine blk_drew ?_ | refine blk_alloc ?_ _)); exact BK150.out⟩, ⟨by (with_reducible repeat (first | refine blk_drewN ?_ _ | refine blk_drew ?_ | refine blk_alloc ?_ _)); refine blk_put (cs := #[.string t147, .string (⟨#[]⟩ : ByteArray)]) ?_ 1 _ rfl; (with_reducible repeat (first | refine blk_drewN ?_ _ | refine blk_drew ?_ | refine blk_alloc ?_ _)); refine blk_put (cs := #[.string (⟨#[]⟩ : ByteArray), .string (⟨#[]⟩ : ByteArray)]) ?_ 0 _ rfl; (with_reducible repeat (first | refine blk_drewN ?_ _ | refine blk_drew ?_ | refine blk_alloc ?_ _)); refine blk_far ?_ NB151_150.out _; (with_reducible repeat (first | refine blk_drewN ?_ _ | refine blk_drew ?_ | refine blk_alloc ?_ _)); refine blk_far ?_ NB151_150.out _; (with_reducible repeat (first | refine blk_drewN ?_ _ | refine blk_drew ?_ | refine blk_alloc ?_ _)); exact BK151.out⟩, ⟨bl_⟩⟩
      ·rw [if_neg c37] at H
       have c37b0 : (t140 == 0) = false := beq_eq_false_iff_ne.mpr c37
       have c37b1 : (t140 != 0) = true := bne_iff_ne.mpr c37
       (first | rw [c37b0] | (simp only [i64_w, i32_w]; rw [c37b0]) | skip)
       have H' := Aside0.mk H
       clear H
       go_wp2
       repeat (go_quiet (fail); try go_wp2)
       go_meet
       case rel => exact ⟨_, (true), (by first | rfl | (simp; done) | (simp [*]; done)), H', ⟨by have := HJ2.out; first | omega | exact Nat.le_refl _⟩, ⟨by (with_reducible repeat (first | apply Kd.R_alloc | apply Kd.R_drewN | apply Kd.R_drew)); exact Kd.R_mono (Kd.R_far (p := ⟨gb151, 1, none⟩) (Kd.R_far (p := ⟨gb151, 0, none⟩) (Kd.R_far (p := ⟨gb150, 1, none⟩) (Kd.R_far (p := ⟨gb150, 0, none⟩) (Kd.R_mono (Kd.R_mono HO139.out (fun k_ hk => (⟨hk, hk.1.2⟩ : _ ∧ k_ ≠ gb150))) (fun k_ hk => (⟨hk, hk.1.2⟩ : _ ∧ k_ ≠ gb151))) (fun _ hk => hk.1.2) (.string t145)) (fun _ hk => hk.1.2) (.string t146)) (fun _ hk => hk.2) (.string t147)) (fun _ hk => hk.2) (.string t148)) (fun _ hk => ⟨hk.1.1.1.1.2, ⟨hk.1.1.1.1.1.2, ⟨hk.1.1.1.2, hk.1.1.2⟩⟩⟩)⟩, ⟨by (with_reducible repeat (first | apply Kd.R_alloc | apply Kd.R_drewN | apply Kd.R_drew)); exact Kd.R_mono (Kd.R_far (p := ⟨gb151, 1, none⟩) (Kd.R_far (p := ⟨gb151, 0, none⟩) (Kd.R_far (p := ⟨gb150, 1, none⟩) (Kd.R_far (p := ⟨gb150, 0, none⟩) (Kd.R_mono (Kd.R_mono HO143.out (fun k_ hk => (⟨hk, hk.1.2⟩ : _ ∧ k_ ≠ gb150))) (fun k_ hk => (⟨hk, hk.1.2⟩ : _ ∧ k_ ≠ gb151))) (fun _ hk => hk.1.2) (.string t145)) (fun _ hk => hk.1.2) (.string t146)) (fun _ hk => hk.2) (.string t147)) (fun _ hk => hk.2) (.string t148)) (fun _ hk => ⟨hk.1.1.1.1.1.2, ⟨hk.1.1.1.1.2, ⟨hk.1.1.1.2, hk.1.1.2⟩⟩⟩)⟩, ⟨by (with_reducible repeat (first | refine blk_drewN ?_ _ | refine blk_drew ?_ | refine blk_alloc ?_ _)); refine blk_far ?_ NB131_151.out _; (with_reducible repeat (first | refine blk_drewN ?_ _ | refine blk_drew ?_ | refine blk_alloc ?_ _)); refine blk_far ?_ NB131_151.out _; (with_reducible repeat (first | refine blk_drewN ?_ _ | refine blk_drew ?_ | refine blk_alloc ?_ _)); refine blk_far ?_ NB131_150.out _; (with_reducible repeat (first | refine blk_drewN ?_ _ | refine blk_drew ?_ | refine blk_alloc ?_ _)); refine blk_far ?_ NB131_150.out _; (with_reducible repeat (first | refine blk_drewN ?_ _ | refine blk_drew ?_ | refine blk_alloc ?_ _)); exact BK131.out⟩, ⟨by (with_reducible repeat (first | refine blk_drewN ?_ _ | refine blk_drew ?_ | refine blk_alloc ?_ _)); refine blk_far ?_ NB150_151.out _; (with_reducible repeat (first | refine blk_drewN ?_ _ | refine blk_drew ?_ | refine blk_alloc ?_ _)); refine blk_far ?_ NB150_151.out _; (with_reducible repeat (first | refine blk_drewN ?_ _ | refine blk_drew ?_ | refine blk_alloc ?_ _)); refine blk_put (cs := #[.string t145, .string (⟨#[]⟩ : ByteArray)]) ?_ 1 _ rfl; (with_reducible repeat (first | refine blk_drewN ?_ _ | refine blk_drew ?_ | refine blk_alloc ?_ _)); refine blk_put (cs := #[.string (⟨#[]⟩ : ByteArray), .string (⟨#[]⟩ : ByteArray)]) ?_ 0 _ rfl; (with_reducible repeat (first | refine blk_drewN ?_ _ | refine blk_drew ?_ | refine blk_alloc ?_ _)); exact BK150.out⟩, ⟨by (with_reducible repeat (first | refine blk_drewN ?_ _ | refine blk_drew ?_ | refine blk_alloc ?_ _)); refine blk_put (cs := #[.string t147, .string (⟨#[]⟩ : ByteArray)]) ?_ 1 _ rfl; (with_reducible repeat (first | refine blk_drewN ?_ _ | refine blk_drew ?_ | refine blk_alloc ?_ _)); refine blk_put (cs := #[.string (⟨#[]⟩ : ByteArray), .string (⟨#[]⟩ : ByteArray)]) ?_ 0 _ rfl; (with_reducible repeat (first | refine blk_drewN ?_ _ | refine blk_drew ?_ | refine blk_alloc ?_ _)); refine blk_far ?_ NB151_150.out _; (with_reducible repeat (first | refine blk_drewN ?_ _ | refine blk_drew ?_ | refine blk_alloc ?_ _)); refine blk_far ?_ NB151_150.out _; (with_reducible repeat (first | refine blk_drewN ?_ _ | refine blk_drew ?_ | refine blk_alloc ?_ _)); exact BK151.out⟩, ⟨bl_⟩⟩
     case rest =>
      clear HC21
      try clear c1
      try clear p2
      try clear c3
      try clear c6
      try clear p6
      try clear c7
      try clear c7b0
      try clear c7b1
      try clear c12
      try clear c13
      try clear c17
      try clear c32
      try clear c33
      try clear c35
      try clear c37
      try clear c37b0
      try clear c37b1
      try clear c38
      try clear c38b0
      try clear c38b1
      try clear hcz11_0
      try clear hcz11_1
      try clear hcz22_0
      try clear hcz22_1
      try clear hcz24_0
      try clear hcz24_1
      try clear hcz26_0
      try clear hcz26_1
      try clear hcz28_0
      try clear hcz28_1
      try clear hcz34_0
      try clear hcz34_1
      try clear hcz36_0
      try clear hcz36_1
      try clear hcz9_0
      try clear hcz9_1
      try clear hfz11_0
      try clear hfz11_1
      try clear hfz22_0
      try clear hfz22_1
      try clear hfz24_0
      try clear hfz24_1
      try clear hfz26_0
      try clear hfz26_1
      try clear hfz28_0
      try clear hfz28_1
      try clear hfz34_0
      try clear hfz34_1
      try clear hfz36_0
      try clear hfz36_1
      try clear hfz9_0
      try clear hfz9_1
      try clear p2
      obtain ⟨kq, x80_20, rfl, HA, HJ20, HO_9, HO_11, BK131, BK150, BK151, HB⟩ := hcut
      cases kq with
      | zero => exact absurd HA.out (by simp [schismalaw04_ConvergentBetween.j1])
      | succ kj20 =>
       have H := HA.out
       clear HA
       simp only [schismalaw04_ConvergentBetween.j1] at H
       by_cases c39 : x80_20 = true
       ·subst c39
        have H1 : (some false) = some r := by rw [if_pos rfl] at H; exact H
        clear H
        have H := H1
        clear H1
        obtain rfl := Option.some.inj H
        go_wp2
        repeat (go_quiet (fail); try go_wp2)
        go_ret
        exact ⟨er_, bl_⟩
       ·replace c39 := Bool.eq_false_iff.mpr c39
        subst c39
        have H1 : (schismalaw04_ConvergentBetween.l0 kj20 t135 (wrap64 (1 + (wrap64 (Int.tmod a1 50)))) t137 t141 0 t145 t146 t147 t148) = some r := by rw [if_neg (show ¬ (false = true) by decide)] at H; exact H
        clear H
        have H := H1
        clear H1
        have H' := Aside0.mk H
        clear H
        go_wp2
        repeat (go_quiet (fail); try go_wp2)
        go_loopg [16] kj20 (fun kq v16 w' => ∃ (x16_3 : Int), v16 = .int .i64 x16_3 ∧ Aside0 (schismalaw04_ConvergentBetween.l0 kq t135 (wrap64 (1 + (wrap64 (Int.tmod a1 50)))) t137 t141 x16_3 t145 t146 t147 t148 = some r) ∧ Aside0 (kq ≤ kj20) ∧ Aside0 (Kd.R k24 24 w' w.heap.size (fun k_ => some k_ ≠ (v142 : Value).ownBlock ∧ k_ ≠ gb131 ∧ k_ ≠ gb150 ∧ k_ ≠ gb151) v138 t137) ∧ Aside0 (Kd.R k24 24 w' w.heap.size (fun k_ => some k_ ≠ (v138 : Value).ownBlock ∧ k_ ≠ gb131 ∧ k_ ≠ gb150 ∧ k_ ≠ gb151) v142 t141) ∧ Aside0 (w'.heap[gb131]? = some (.cells #[.string a0_0, .string a0_1] 24 (0, 0))) ∧ Aside0 (w'.heap[gb150]? = some (.cells #[.string t145, .string t146] 24 (0, 0))) ∧ Aside0 (w'.heap[gb151]? = some (.cells #[.string t147, .string t148] 24 (0, 0))) ∧ Aside0 (Below w.heap.size w w'))
        case atStart => exact ⟨(0), (by first | rfl | (simp; done) | (simp [*]; done)), H', ⟨Nat.le_refl _⟩, ⟨by (with_reducible repeat (first | apply Kd.R_alloc | apply Kd.R_drewN | apply Kd.R_drew)); exact HO_9.out⟩, ⟨by (with_reducible repeat (first | apply Kd.R_alloc | apply Kd.R_drewN | apply Kd.R_drew)); exact HO_11.out⟩, ⟨bk_⟩, ⟨bk_⟩, ⟨bk_⟩, ⟨bl_⟩⟩
        case round =>
         clear H'
         try clear c1
         try clear p2
         try clear c3
         try clear c6
         try clear p6
         try clear c7
         try clear c7b0
         try clear c7b1
         try clear c12
         try clear c13
         try clear c17
         try clear c32
         try clear c33
         try clear c35
         try clear c37
         try clear c37b0
         try clear c37b1
         try clear c38
         try clear c38b0
         try clear c38b1
         try clear c39
         try clear hcz11_0
         try clear hcz11_1
         try clear hcz22_0
         try clear hcz22_1
         try clear hcz24_0
         try clear hcz24_1
         try clear hcz26_0
         try clear hcz26_1
         try clear hcz28_0
         try clear hcz28_1
         try clear hcz34_0
         try clear hcz34_1
         try clear hcz36_0
         try clear hcz36_1
         try clear hcz9_0
         try clear hcz9_1
         try clear hfz11_0
         try clear hfz11_1
         try clear hfz22_0
         try clear hfz22_1
         try clear hfz24_0
         try clear hfz24_1
         try clear hfz26_0
         try clear hfz26_1
         try clear hfz28_0
         try clear hfz28_1
         try clear hfz34_0
         try clear hfz34_1
         try clear hfz36_0
         try clear hfz36_1
         try clear hfz9_0
         try clear hfz9_1
         try clear p2
         try clear p6
         obtain ⟨x16_3, rfl, HA, HK3, HO_9, HO_11, BK131, BK150, BK151, HB⟩ := hrel
         cases gk with
         | zero => exact absurd HA.out (by simp [schismalaw04_ConvergentBetween.l0])
         | succ k3 =>
          have H := HA.out
          clear HA
          simp only [schismalaw04_ConvergentBetween.l0] at H
          by_cases c40 : x16_3 < (t137.length : Int)
          ·rw [if_pos c40] at H
           have c40b0 : decide (x16_3 < (t137.length : Int)) = true := decide_eq_true c40
           clear c40
           have H' := Aside0.mk H
           clear H
           obtain ⟨Ao41, co41, eo41⟩ := Kd.R_slice HO_9.out
           subst eo41
           go_wp2
           repeat (go_quiet (fail); try go_wp2)
           go_loopg [17, 18] k3 (fun kq v17 v18 w' => ∃ (x17_4 : Bool) (x18_4 : Int), v17 = .bool x17_4 ∧ v18 = .int .i64 x18_4 ∧ Aside0 (schismalaw04_ConvergentBetween.l1 kq t135 (wrap64 (1 + (wrap64 (Int.tmod a1 50)))) t137 t141 x16_3 x17_4 x18_4 t145 t146 t147 t148 = some r) ∧ Aside0 (kq ≤ k3) ∧ Aside0 (Kd.R k24 24 w' w.heap.size (fun k_ => some k_ ≠ (v142 : Value).ownBlock ∧ k_ ≠ gb131 ∧ k_ ≠ gb150 ∧ k_ ≠ gb151) (.slice Ao41 t137.length co41) t137) ∧ Aside0 (Kd.R k24 24 w' w.heap.size (fun k_ => some k_ ≠ ((.slice Ao41 t137.length co41) : Value).ownBlock ∧ k_ ≠ gb131 ∧ k_ ≠ gb150 ∧ k_ ≠ gb151) v142 t141) ∧ Aside0 (w'.heap[gb131]? = some (.cells #[.string a0_0, .string a0_1] 24 (0, 0))) ∧ Aside0 (w'.heap[gb150]? = some (.cells #[.string t145, .string t146] 24 (0, 0))) ∧ Aside0 (w'.heap[gb151]? = some (.cells #[.string t147, .string t148] 24 (0, 0))) ∧ Aside0 (Below w.heap.size w w'))
           case atStart => exact ⟨(false), (0), (by first | rfl | (simp; done) | (simp [*]; done)), (by first | rfl | (simp; done) | (simp [*]; done)), H', ⟨Nat.le_refl _⟩, ⟨by (with_reducible repeat (first | apply Kd.R_alloc | apply Kd.R_drewN | apply Kd.R_drew)); exact HO_9.out⟩, ⟨by (with_reducible repeat (first | apply Kd.R_alloc | apply Kd.R_drewN | apply Kd.R_drew)); exact HO_11.out⟩, ⟨bk_⟩, ⟨bk_⟩, ⟨bk_⟩, ⟨bl_⟩⟩
           case round =>
            clear H'
            try clear c1
            try clear p2
            try clear c3
            try clear c4
            try clear c6
            try clear p6
            try clear c7
            try clear c7b0
            try clear c7b1
            try clear c12
            try clear c13
            try clear c17
            try clear c32
            try clear c33
            try clear c35
            try clear c37
            try clear c37b0
            try clear c37b1
            try clear c38
            try clear c38b0
            try clear c38b1
            try clear c39
            try clear c40
            try clear c40b0
            try clear hcz11_0
            try clear hcz11_1
            try clear hcz22_0
            try clear hcz22_1
            try clear hcz24_0
            try clear hcz24_1
            try clear hcz26_0
            try clear hcz26_1
            try clear hcz28_0
            try clear hcz28_1
            try clear hcz34_0
            try clear hcz34_1
            try clear hcz36_0
            try clear hcz36_1
            try clear hcz9_0
            try clear hcz9_1
            try clear hfz11_0
            try clear hfz11_1
            try clear hfz22_0
            try clear hfz22_1
            try clear hfz24_0
            try clear hfz24_1
            try clear hfz26_0
            try clear hfz26_1
            try clear hfz28_0
            try clear hfz28_1
            try clear hfz34_0
            try clear hfz34_1
            try clear hfz36_0
            try clear hfz36_1
            try clear hfz9_0
            try clear hfz9_1
            try clear p2
            try clear p6
            obtain ⟨x17_4, x18_4, rfl, rfl, HA, HK4, HO_9, HO_11, BK131, BK150, BK151, HB⟩ := hrel
            cases gk with
            | zero => exact absurd HA.out (by simp [schismalaw04_ConvergentBetween.l1])
            | succ k4 =>
             have H := HA.out
             clear HA
             simp only [schismalaw04_ConvergentBetween.l1] at H
             by_cases c42 : x18_4 < (t141.length : Int)
             ·rw [if_pos c42] at H
              have c42b0 : decide (x18_4 < (t141.length : Int)) = true := decide_eq_true c42
              clear c42
              by_cases c43 : x17_4 = true
              ·subst c43
               have H1 : (schismalaw04_ConvergentBetween.l1 k4 t135 (wrap64 (1 + (wrap64 (Int.tmod a1 50)))) t137 t141 x16_3 true (wrap64 (x18_4 + 1)) t145 t146 t147 t148) = some r := by rw [if_pos rfl] at H; exact H
               clear H
               have H := H1
               clear H1
               have H' := Aside0.mk H
               clear H
               obtain ⟨Ao44, co44, eo44⟩ := Kd.R_slice HO_11.out
               subst eo44
               go_wp2
               repeat (go_quiet (fail); try go_wp2)
               go_roundg k4
               case measure => have := HJ2.out; have := HJ20.out; have := HK3.out; have := HK4.out; omega
               case rel => exact ⟨(true), (wrap64 (x18_4 + 1)), (by first | rfl | (simp; done) | (simp [*]; done)), (by first | rfl | (simp; done) | (simp [*]; done)), H', ⟨by have := HJ2.out; have := HJ20.out; have := HK3.out; have := HK4.out; omega⟩, ⟨by (with_reducible repeat (first | apply Kd.R_alloc | apply Kd.R_drewN | apply Kd.R_drew)); exact HO_9.out⟩, ⟨by (with_reducible repeat (first | apply Kd.R_alloc | apply Kd.R_drewN | apply Kd.R_drew)); exact HO_11.out⟩, ⟨bk_⟩, ⟨bk_⟩, ⟨bk_⟩, ⟨bl_⟩⟩
              ·replace c43 := Bool.eq_false_iff.mpr c43
               subst c43
               have H1 : (if 0 ≤ x16_3 then (if x16_3 < (t137.length : Int) then (if 0 ≤ x18_4 then (schismalaw04_ConvergentBetween.l1 k4 t135 (wrap64 (1 + (wrap64 (Int.tmod a1 50)))) t137 t141 x16_3 ((((rd_T24 t137 x16_3).f0).toList) == (((rd_T24 t141 x18_4).f0).toList) && ((((rd_T24 t137 x16_3).f1).toList) == (((rd_T24 t141 x18_4).f1).toList))) (wrap64 (x18_4 + 1)) t145 t146 t147 t148) else (none)) else (none)) else (none)) = some r := by rw [if_neg (show ¬ (false = true) by decide)] at H; exact H
               clear H
               have H := H1
               clear H1
               by_cases c45 : 0 ≤ x16_3
               ·rw [if_pos c45] at H
                have c45b0 : decide (0 ≤ x16_3) = true := decide_eq_true c45
                clear c45
                by_cases c46 : x16_3 < (t137.length : Int)
                ·rw [if_pos c46] at H
                 have c46b0 : decide (x16_3 < (t137.length : Int)) = true := decide_eq_true c46
                 clear c46
                 by_cases c47 : 0 ≤ x18_4
                 ·rw [if_pos c47] at H
                  have c47b0 : decide (0 ≤ x18_4) = true := decide_eq_true c47
                  clear c47
                  have H' := Aside0.mk H
                  clear H
                  obtain ⟨Ao48, co48, eo48⟩ := Kd.R_slice HO_11.out
                  subst eo48
                  have p158 : 0 ≤ (x16_3 : Int) := of_decide_eq_true (by first | (with_reducible assumption) | assumption)
                  have q158 : x16_3 < (t137.length : Int) := of_decide_eq_true (by first | (with_reducible assumption) | assumption)
                  obtain ⟨ad158, e158, hx158_0, hx158_1⟩ := at_T24 (Kd.R_reads' HO_9.out).2.2 x16_3 p158 q158
                  cases e158
                  replace p158 := eq_true p158
                  replace q158 := eq_true q158
                  have p159 : 0 ≤ (x18_4 : Int) := of_decide_eq_true (by first | (with_reducible assumption) | assumption)
                  have q159 : x18_4 < (t141.length : Int) := of_decide_eq_true (by first | (with_reducible assumption) | assumption)
                  obtain ⟨ad159, e159, hx159_0, hx159_1⟩ := at_T24 (Kd.R_reads' HO_11.out).2.2 x18_4 p159 q159
                  cases e159
                  replace p159 := eq_true p159
                  replace q159 := eq_true q159
                  go_wp2
                  repeat (go_quiet (fail); try go_wp2)
                  go_roundg k4
                  case measure => have := HJ2.out; have := HJ20.out; have := HK3.out; have := HK4.out; omega
                  case rel => exact ⟨(((((rd_T24 t137 x16_3).f0).toList) == (((rd_T24 t141 x18_4).f0).toList) && ((((rd_T24 t137 x16_3).f1).toList) == (((rd_T24 t141 x18_4).f1).toList)))), (wrap64 (x18_4 + 1)), (by first | rfl | (simp; done) | (simp [*]; done)), (by first | rfl | (simp; done) | (simp [*]; done)), H', ⟨by have := HJ2.out; have := HJ20.out; have := HK3.out; have := HK4.out; omega⟩, ⟨by (with_reducible repeat (first | apply Kd.R_alloc | apply Kd.R_drewN | apply Kd.R_drew)); exact HO_9.out⟩, ⟨by (with_reducible repeat (first | apply Kd.R_alloc | apply Kd.R_drewN | apply Kd.R_drew)); exact HO_11.out⟩, ⟨bk_⟩, ⟨bk_⟩, ⟨bk_⟩, ⟨bl_⟩⟩
                 ·rw [if_neg c47] at H
                  exact absurd H (by simp)
                ·rw [if_neg c46] at H
                 exact absurd H (by simp)
               ·rw [if_neg c45] at H
                exact absurd H (by simp)
             ·rw [if_neg c42] at H
              have c42b0 : decide (x18_4 < (t141.length : Int)) = false := decide_eq_false c42
              clear c42
              by_cases c49 : x17_4 = true
              ·subst c49
               have H1 : (schismalaw04_ConvergentBetween.l0 k4 t135 (wrap64 (1 + (wrap64 (Int.tmod a1 50)))) t137 t141 (wrap64 (x16_3 + 1)) t145 t146 t147 t148) = some r := by rw [if_pos rfl] at H; exact H
               clear H
               have H := H1
               clear H1
               have H' := Aside0.mk H
               clear H
               obtain ⟨Ao50, co50, eo50⟩ := Kd.R_slice HO_11.out
               subst eo50
               go_wp2
               repeat (go_quiet (fail); try go_wp2)
               go_roundg k4
               case measure => have := HJ2.out; have := HJ20.out; have := HK3.out; have := HK4.out; omega
               case rel => exact ⟨(wrap64 (x16_3 + 1)), (by first | rfl | (simp; done) | (simp [*]; done)), H', ⟨by have := HJ2.out; have := HJ20.out; have := HK3.out; have := HK4.out; omega⟩, ⟨by (with_reducible repeat (first | apply Kd.R_alloc | apply Kd.R_drewN | apply Kd.R_drew)); exact HO_9.out⟩, ⟨by (with_reducible repeat (first | apply Kd.R_alloc | apply Kd.R_drewN | apply Kd.R_drew)); exact HO_11.out⟩, ⟨bk_⟩, ⟨bk_⟩, ⟨bk_⟩, ⟨bl_⟩⟩
              ·replace c49 := Bool.eq_false_iff.mpr c49
               subst c49
               have H1 : (some false) = some r := by rw [if_neg (show ¬ (false = true) by decide)] at H; exact H
               clear H
               have H := H1
               clear H1
               obtain rfl := Option.some.inj H
               obtain ⟨Ao51, co51, eo51⟩ := Kd.R_slice HO_11.out
               subst eo51
               go_wp2
               repeat (go_quiet (fail); try go_wp2)
               go_ret
               exact ⟨er_, bl_⟩
          ·rw [if_neg c40] at H
           have c40b0 : decide (x16_3 < (t137.length : Int)) = false := decide_eq_false c40
           clear c40
           replace H := Option.bind_eq_some_iff.mp H
           obtain ⟨⟨t152, t153, t154⟩, A520, H⟩ := H
           replace H : ((schismaref04_Parts.f k3 t147 t148).bind fun bt155 => (if t135 ≤ (wrap64 (1 + (wrap64 (Int.tmod a1 50)))) then (some true) else (if t135 ≥ (wrap64 (t153 + bt155.2.1)) then (some (decide ((wrap64 (t153 + bt155.2.1)) > (wrap64 (1 + (wrap64 (Int.tmod a1 50))))))) else (some false)))) = some r := H
           have A52 := Aside0.mk A520
           clear A520
           replace H := Option.bind_eq_some_iff.mp H
           obtain ⟨⟨t155, t156, t157⟩, A530, H⟩ := H
           replace H : (if t135 ≤ (wrap64 (1 + (wrap64 (Int.tmod a1 50)))) then (some true) else (if t135 ≥ (wrap64 (t153 + t156)) then (some (decide ((wrap64 (t153 + t156)) > (wrap64 (1 + (wrap64 (Int.tmod a1 50))))))) else (some false))) = some r := H
           have A53 := Aside0.mk A530
           clear A530
           by_cases c54 : t135 ≤ (wrap64 (1 + (wrap64 (Int.tmod a1 50))))
           ·rw [if_pos c54] at H
            have c54b0 : decide (t135 ≤ (wrap64 (1 + (wrap64 (Int.tmod a1 50))))) = true := decide_eq_true c54
            clear c54
            obtain rfl := Option.some.inj H
            obtain ⟨Ao55, co55, eo55⟩ := Kd.R_slice HO_9.out
            subst eo55
            have hnb56 := NB150_131.out
            have hnc56 := NB131_150.out
            have hnb57 := NB150_151.out
            have hnc57 := NB151_150.out
            have hcz58_0 : wr.cell? ⟨gb150, 0, none⟩ = some (.string t145) := (blk_cell BK150.out 0).trans rfl
            have hcz58_1 : wr.cell? ⟨gb150, 1, none⟩ = some (.string t146) := (blk_cell BK150.out 1).trans rfl
            have hfz58_0 := blk_frozen BK150.out 0
            have hfz58_1 := blk_frozen BK150.out 1
            go_wp2_with (first | (go_at_call 15; (with_reducible refine (schismaref04_Parts.calls k3 t145 t146 t152 t153 t154 _ A52.out).mono ?_); rintro e w59 ⟨rfl, hb⟩; replace HO_9 := rb_ HO_9 hb; replace HO_11 := rb_ HO_11 hb; replace BK131 := kb_ BK131 hb; replace BK150 := kb_ BK150 hb; replace BK151 := kb_ BK151 hb; replace HB := bs_ hb; (try clear hb); (try clear hb2); (try clear hk); (try clear hi); have hnb60 := NB151_131.out; have hnc60 := NB131_151.out; obtain ⟨hcz61_0, hcz61_1, hfz61_0, hfz61_1⟩ := c2_ BK151) | (go_at_call 15; (with_reducible refine (schismaref04_Parts.calls k3 t147 t148 t155 t156 t157 _ A53.out).mono ?_); rintro e w62 ⟨rfl, hb⟩; replace HO_9 := rb_ HO_9 hb; replace HO_11 := rb_ HO_11 hb; replace BK131 := kb_ BK131 hb; replace BK150 := kb_ BK150 hb; replace BK151 := kb_ BK151 hb; replace HB := bs_ hb; (try clear hb); (try clear hb2); (try clear hk); (try clear hi)))
            repeat (go_quiet (first | (go_at_call 15; (with_reducible refine (schismaref04_Parts.calls k3 t145 t146 t152 t153 t154 _ A52.out).mono ?_); rintro e w59 ⟨rfl, hb⟩; replace HO_9 := rb_ HO_9 hb; replace HO_11 := rb_ HO_11 hb; replace BK131 := kb_ BK131 hb; replace BK150 := kb_ BK150 hb; replace BK151 := kb_ BK151 hb; replace HB := bs_ hb; (try clear hb); (try clear hb2); (try clear hk); (try clear hi); have hnb60 := NB151_131.out; have hnc60 := NB131_151.out; obtain ⟨hcz61_0, hcz61_1, hfz61_0, hfz61_1⟩ := c2_ BK151) | (go_at_call 15; (with_reducible refine (schismaref04_Parts.calls k3 t147 t148 t155 t156 t157 _ A53.out).mono ?_); rintro e w62 ⟨rfl, hb⟩; replace HO_9 := rb_ HO_9 hb; replace HO_11 := rb_ HO_11 hb; replace BK131 := kb_ BK131 hb; replace BK150 := kb_ BK150 hb; replace BK151 := kb_ BK151 hb; replace HB := bs_ hb; (try clear hb); (try clear hb2); (try clear hk); (try clear hi))); try go_wp2_with (first | (go_at_call 15; (with_reducible refine (schismaref04_Parts.calls k3 t145 t146 t152 t153 t154 _ A52.out).mono ?_); rintro e w59 ⟨rfl, hb⟩; replace HO_9 := rb_ HO_9 hb; replace HO_11 := rb_ HO_11 hb; replace BK131 := kb_ BK131 hb; replace BK150 := kb_ BK150 hb; replace BK151 := kb_ BK151 hb; replace HB := bs_ hb; (try clear hb); (try clear hb2); (try clear hk); (try clear hi); have hnb60 := NB151_131.out; have hnc60 := NB131_151.out; obtain ⟨hcz61_0, hcz61_1, hfz61_0, hfz61_1⟩ := c2_ BK151) | (go_at_call 15; (with_reducible refine (schismaref04_Parts.calls k3 t147 t148 t155 t156 t157 _ A53.out).mono ?_); rintro e w62 ⟨rfl, hb⟩; replace HO_9 := rb_ HO_9 hb; replace HO_11 := rb_ HO_11 hb; replace BK131 := kb_ BK131 hb; replace BK150 := kb_ BK150 hb; replace BK151 := kb_ BK151 hb; replace HB := bs_ hb; (try clear hb); (try clear hb2); (try clear hk); (try clear hi))))
            go_ret
            exact ⟨er_, bl_⟩
           ·rw [if_neg c54] at H
            have c54b0 : decide (t135 ≤ (wrap64 (1 + (wrap64 (Int.tmod a1 50))))) = false := decide_eq_false c54
            clear c54
            by_cases c63 : t135 ≥ (wrap64 (t153 + t156))
            ·rw [if_pos c63] at H
             have c63b0 : decide ((wrap64 (t153 + t156)) ≤ t135) = true := decide_eq_true c63
             clear c63
             obtain rfl := Option.some.inj H
             obtain ⟨Ao64, co64, eo64⟩ := Kd.R_slice HO_9.out
             subst eo64
             have hnb65 := NB150_131.out
             have hnc65 := NB131_150.out
             have hnb66 := NB150_151.out
             have hnc66 := NB151_150.out
             have hcz67_0 : wr.cell? ⟨gb150, 0, none⟩ = some (.string t145) := (blk_cell BK150.out 0).trans rfl
             have hcz67_1 : wr.cell? ⟨gb150, 1, none⟩ = some (.string t146) := (blk_cell BK150.out 1).trans rfl
             have hfz67_0 := blk_frozen BK150.out 0
             have hfz67_1 := blk_frozen BK150.out 1
             go_wp2_with (first | (go_at_call 15; (with_reducible refine (schismaref04_Parts.calls k3 t145 t146 t152 t153 t154 _ A52.out).mono ?_); rintro e w68 ⟨rfl, hb⟩; replace HO_9 := rb_ HO_9 hb; replace HO_11 := rb_ HO_11 hb; replace BK131 := kb_ BK131 hb; replace BK150 := kb_ BK150 hb; replace BK151 := kb_ BK151 hb; replace HB := bs_ hb; (try clear hb); (try clear hb2); (try clear hk); (try clear hi); have hnb69 := NB151_131.out; have hnc69 := NB131_151.out; obtain ⟨hcz70_0, hcz70_1, hfz70_0, hfz70_1⟩ := c2_ BK151) | (go_at_call 15; (with_reducible refine (schismaref04_Parts.calls k3 t147 t148 t155 t156 t157 _ A53.out).mono ?_); rintro e w71 ⟨rfl, hb⟩; replace HO_9 := rb_ HO_9 hb; replace HO_11 := rb_ HO_11 hb; replace BK131 := kb_ BK131 hb; replace BK150 := kb_ BK150 hb; replace BK151 := kb_ BK151 hb; replace HB := bs_ hb; (try clear hb); (try clear hb2); (try clear hk); (try clear hi)))
             repeat (go_quiet (first | (go_at_call 15; (with_reducible refine (schismaref04_Parts.calls k3 t145 t146 t152 t153 t154 _ A52.out).mono ?_); rintro e w68 ⟨rfl, hb⟩; replace HO_9 := rb_ HO_9 hb; replace HO_11 := rb_ HO_11 hb; replace BK131 := kb_ BK131 hb; replace BK150 := kb_ BK150 hb; replace BK151 := kb_ BK151 hb; replace HB := bs_ hb; (try clear hb); (try clear hb2); (try clear hk); (try clear hi); have hnb69 := NB151_131.out; have hnc69 := NB131_151.out; obtain ⟨hcz70_0, hcz70_1, hfz70_0, hfz70_1⟩ := c2_ BK151) | (go_at_call 15; (with_reducible refine (schismaref04_Parts.calls k3 t147 t148 t155 t156 t157 _ A53.out).mono ?_); rintro e w71 ⟨rfl, hb⟩; replace HO_9 := rb_ HO_9 hb; replace HO_11 := rb_ HO_11 hb; replace BK131 := kb_ BK131 hb; replace BK150 := kb_ BK150 hb; replace BK151 := kb_ BK151 hb; replace HB := bs_ hb; (try clear hb); (try clear hb2); (try clear hk); (try clear hi))); try go_wp2_with (first | (go_at_call 15; (with_reducible refine (schismaref04_Parts.calls k3 t145 t146 t152 t153 t154 _ A52.out).mono ?_); rintro e w68 ⟨rfl, hb⟩; replace HO_9 := rb_ HO_9 hb; replace HO_11 := rb_ HO_11 hb; replace BK131 := kb_ BK131 hb; replace BK150 := kb_ BK150 hb; replace BK151 := kb_ BK151 hb; replace HB := bs_ hb; (try clear hb); (try clear hb2); (try clear hk); (try clear hi); have hnb69 := NB151_131.out; have hnc69 := NB131_151.out; obtain ⟨hcz70_0, hcz70_1, hfz70_0, hfz70_1⟩ := c2_ BK151) | (go_at_call 15; (with_reducible refine (schismaref04_Parts.calls k3 t147 t148 t155 t156 t157 _ A53.out).mono ?_); rintro e w71 ⟨rfl, hb⟩; replace HO_9 := rb_ HO_9 hb; replace HO_11 := rb_ HO_11 hb; replace BK131 := kb_ BK131 hb; replace BK150 := kb_ BK150 hb; replace BK151 := kb_ BK151 hb; replace HB := bs_ hb; (try clear hb); (try clear hb2); (try clear hk); (try clear hi))))
             go_ret
             exact ⟨er_, bl_⟩
            ·rw [if_neg c63] at H
             have c63b0 : decide ((wrap64 (t153 + t156)) ≤ t135) = false := decide_eq_false c63
             clear c63
             obtain rfl := Option.some.inj H
             obtain ⟨Ao72, co72, eo72⟩ := Kd.R_slice HO_9.out
             subst eo72
             have hnb73 := NB150_131.out
             have hnc73 := NB131_150.out
             have hnb74 := NB150_151.out
             have hnc74 := NB151_150.out
             have hcz75_0 : wr.cell? ⟨gb150, 0, none⟩ = some (.string t145) := (blk_cell BK150.out 0).trans rfl
             have hcz75_1 : wr.cell? ⟨gb150, 1, none⟩ = some (.string t146) := (blk_cell BK150.out 1).trans rfl
             have hfz75_0 := blk_frozen BK150.out 0
             have hfz75_1 := blk_frozen BK150.out 1
             go_wp2_with (first | (go_at_call 15; (with_reducible refine (schismaref04_Parts.calls k3 t145 t146 t152 t153 t154 _ A52.out).mono ?_); rintro e w76 ⟨rfl, hb⟩; replace HO_9 := rb_ HO_9 hb; replace HO_11 := rb_ HO_11 hb; replace BK131 := kb_ BK131 hb; replace BK150 := kb_ BK150 hb; replace BK151 := kb_ BK151 hb; replace HB := bs_ hb; (try clear hb); (try clear hb2); (try clear hk); (try clear hi); have hnb77 := NB151_131.out; have hnc77 := NB131_151.out; obtain ⟨hcz78_0, hcz78_1, hfz78_0, hfz78_1⟩ := c2_ BK151) | (go_at_call 15; (with_reducible refine (schismaref04_Parts.calls k3 t147 t148 t155 t156 t157 _ A53.out).mono ?_); rintro e w79 ⟨rfl, hb⟩; replace HO_9 := rb_ HO_9 hb; replace HO_11 := rb_ HO_11 hb; replace BK131 := kb_ BK131 hb; replace BK150 := kb_ BK150 hb; replace BK151 := kb_ BK151 hb; replace HB := bs_ hb; (try clear hb); (try clear hb2); (try clear hk); (try clear hi)))
             repeat (go_quiet (first | (go_at_call 15; (with_reducible refine (schismaref04_Parts.calls k3 t145 t146 t152 t153 t154 _ A52.out).mono ?_); rintro e w76 ⟨rfl, hb⟩; replace HO_9 := rb_ HO_9 hb; replace HO_11 := rb_ HO_11 hb; replace BK131 := kb_ BK131 hb; replace BK150 := kb_ BK150 hb; replace BK151 := kb_ BK151 hb; replace HB := bs_ hb; (try clear hb); (try clear hb2); (try clear hk); (try clear hi); have hnb77 := NB151_131.out; have hnc77 := NB131_151.out; obtain ⟨hcz78_0, hcz78_1, hfz78_0, hfz78_1⟩ := c2_ BK151) | (go_at_call 15; (with_reducible refine (schismaref04_Parts.calls k3 t147 t148 t155 t156 t157 _ A53.out).mono ?_); rintro e w79 ⟨rfl, hb⟩; replace HO_9 := rb_ HO_9 hb; replace HO_11 := rb_ HO_11 hb; replace BK131 := kb_ BK131 hb; replace BK150 := kb_ BK150 hb; replace BK151 := kb_ BK151 hb; replace HB := bs_ hb; (try clear hb); (try clear hb2); (try clear hk); (try clear hi))); try go_wp2_with (first | (go_at_call 15; (with_reducible refine (schismaref04_Parts.calls k3 t145 t146 t152 t153 t154 _ A52.out).mono ?_); rintro e w76 ⟨rfl, hb⟩; replace HO_9 := rb_ HO_9 hb; replace HO_11 := rb_ HO_11 hb; replace BK131 := kb_ BK131 hb; replace BK150 := kb_ BK150 hb; replace BK151 := kb_ BK151 hb; replace HB := bs_ hb; (try clear hb); (try clear hb2); (try clear hk); (try clear hi); have hnb77 := NB151_131.out; have hnc77 := NB131_151.out; obtain ⟨hcz78_0, hcz78_1, hfz78_0, hfz78_1⟩ := c2_ BK151) | (go_at_call 15; (with_reducible refine (schismaref04_Parts.calls k3 t147 t148 t155 t156 t157 _ A53.out).mono ?_); rintro e w79 ⟨rfl, hb⟩; replace HO_9 := rb_ HO_9 hb; replace HO_11 := rb_ HO_11 hb; replace BK131 := kb_ BK131 hb; replace BK150 := kb_ BK150 hb; replace BK151 := kb_ BK151 hb; replace HB := bs_ hb; (try clear hb); (try clear hb2); (try clear hk); (try clear hi))))
             go_ret
             exact ⟨er_, bl_⟩
    ·replace c17 := Bool.eq_false_iff.mpr c17
     subst c17
     have H1 : (some true) = some r := by rw [if_neg (show ¬ (false = true) by decide)] at H; exact H
     clear H
     have H := H1
     clear H1
     obtain rfl := Option.some.inj H
     have hcz80_0 : wc.cell? ⟨gb131, 0, none⟩ = some (.string a0_0) := (blk_cell BK131.out 0).trans rfl
     have hcz80_1 : wc.cell? ⟨gb131, 1, none⟩ = some (.string a0_1) := (blk_cell BK131.out 1).trans rfl
     have hfz80_0 := blk_frozen BK131.out 0
     have hfz80_1 := blk_frozen BK131.out 1
     go_wp2_with (first | (go_at_call 15; (with_reducible refine (schismaref04_Parts.calls kj2 a0_0 a0_1 t134 t135 false _ A16.out).mono ?_); rintro e w81 ⟨rfl, hb⟩; replace BK131 := kb_ BK131 hb; replace HB := bs_ hb; (try clear hb); (try clear hb2); (try clear hk); (try clear hi)))
     repeat (go_quiet (first | (go_at_call 15; (with_reducible refine (schismaref04_Parts.calls kj2 a0_0 a0_1 t134 t135 false _ A16.out).mono ?_); rintro e w81 ⟨rfl, hb⟩; replace BK131 := kb_ BK131 hb; replace HB := bs_ hb; (try clear hb); (try clear hb2); (try clear hk); (try clear hi))); try go_wp2_with (first | (go_at_call 15; (with_reducible refine (schismaref04_Parts.calls kj2 a0_0 a0_1 t134 t135 false _ A16.out).mono ?_); rintro e w81 ⟨rfl, hb⟩; replace BK131 := kb_ BK131 hb; replace HB := bs_ hb; (try clear hb); (try clear hb2); (try clear hk); (try clear hi))))
     go_ret
     exact ⟨er_, bl_⟩
end Go.Proofs.YtidajgkepdkcbaaGreatDoor.PL
end
section
namespace Go.Proofs.YtidajgkepdkcbaaGreatDoor
open Go.RowKit Go.Lib Go.Proofs.YtidajgkepdkcbaaGreatDoorW.PrintWords Go.Proofs.YtidajgkepdkcbaaGreatDoorW.PrintLast Go.Proofs.YtidajgkepdkcbaaGreatDoorW.PrintMore PF PL
theorem semis_sub {bound : Int} : ∀ (l : List Int) (first : Bool) (c : CS) (y : Int × Int), y ∈ semis half bound first c l → y ∈ semis one bound first c l
 | [], _, _, _, h => by simp [semis] at h
 | a :: l, first, c, y, h => by
  rw [semis] at h ⊢
  rcases List.mem_append.1 h with h | h
  ·refine List.mem_append.2 (.inl ?_)
   obtain ⟨j, h1, rfl⟩ := List.mem_map.1 h
   obtain ⟨h2, h3⟩ := List.mem_filter.1 h1
   refine List.mem_map.2 ⟨j, List.mem_filter.2 ⟨?_, h3⟩, rfl⟩
   cases first
   ·simp only [Bool.false_eq_true, if_false] at h2 ⊢
    simp at h3
    exact mem_js.2 ⟨by unfold one; omega, (mem_js.1 h2).2⟩
   ·simpa using h2
  ·refine List.mem_append.2 (.inr ?_)
   split at h
   ·simp at h
   ·rename_i hc
    rw [if_neg hc]
    exact semis_sub l false _ y h
theorem best_sub {n d bound : Int} {ts : List Int} {y : Int × Int} (h : y ∈ bestRow n d bound ts) : y ∈ semiRow n d bound ts := by
 refine semis_sub ts true CS.begin y ?_
 rcases fold_mem _ _ h with h | h
 ·exact absurd h List.not_mem_nil
 ·exact h
theorem bw_true {n d : Int} {L S : List S24} {i : Int} {a b c e : ByteArray} (hS : S.length ≤ 1000000) {r : Bool} (h : Ev (fun k => schismalaw04_ConvergentBetween.l0 k n d L S (wrap64 (i + 1)) a b c e) r) :
  ∀ (m : Nat) (j : Int), 0 ≤ j → j + m = S.length → Ev (fun k => schismalaw04_ConvergentBetween.l1 k n d L S i true j a b c e) r
 | 0, j, _, hj => Ev.step (fun k => by rw [schismalaw04_ConvergentBetween.l1, if_neg (by omega), if_pos rfl]) h
 | m + 1, j, h0, hj => Ev.step (fun k => by rw [schismalaw04_ConvergentBetween.l1, if_pos (by omega), if_pos rfl, w64 (by omega) (by omega)]) (bw_true hS h m (j + 1) (by omega) (by omega))
theorem bw_find {n d : Int} {L S : List S24} {i : Nat} {a b c e : ByteArray} (hS : S.length ≤ 1000000) (hi : i < L.length) {r : Bool} (h : Ev (fun k => schismalaw04_ConvergentBetween.l0 k n d L S (wrap64 ((i : Int) + 1)) a b c e) r) :
  ∀ (m : Nat) (j : Nat), j + m = S.length → (∃ j', j ≤ j' ∧ ∃ hj : j' < S.length, S[j'] = L[i]) → Ev (fun k => schismalaw04_ConvergentBetween.l1 k n d L S i false j a b c e) r
 | 0, j, hj, ⟨j', h1, h2, _⟩ => by omega
 | m + 1, j, hj, ⟨j', h1, h2, h3⟩ => by
  have e1 : rd_T24 L (i : Int) = L[i] := by unfold rd_T24; simp [hi]
  have hjl : j < S.length := by omega
  have e2 : rd_T24 S (j : Int) = S[j] := by unfold rd_T24; simp [hjl]
  obtain ⟨B, hB⟩ : ∃ B : Bool, B = (((rd_T24 L (i : Int)).f0.toList == (rd_T24 S (j : Int)).f0.toList) && ((rd_T24 L (i : Int)).f1.toList == (rd_T24 S (j : Int)).f1.toList)) := ⟨_, rfl⟩
  refine Ev.step (f := fun k => schismalaw04_ConvergentBetween.l1 k n d L S i B ((j : Int) + 1) a b c e) (fun k => ?_) ?_
  ·rw [schismalaw04_ConvergentBetween.l1, if_pos (by omega), if_neg (by simp), if_pos (by omega), if_pos (by omega), if_pos (by omega), w64 (by omega) (by omega), hB]
  ·cases B with
   | true => exact bw_true hS h m ((j : Int) + 1) (by omega) (by omega)
   | false =>
    have := bw_find hS hi h m (j + 1) (by omega) ⟨j', ?_, h2, h3⟩
    ·exact this
    ·rcases Nat.lt_or_ge j j' with h4 | h4
     ·exact h4
     ·exfalso
      obtain rfl : j' = j := by omega
      rw [e1, e2, h3] at hB
      simp at hB
theorem bw_go {n d : Int} {L S : List S24} {a b c e : ByteArray} (hS : S.length ≤ 1000000) (hL : L.length ≤ 1000000) (hsub : ∀ y ∈ L, y ∈ S) {r : Bool} (hend : Ev (fun k => schismalaw04_ConvergentBetween.l0 k n d L S (L.length : Int) a b c e) r) :
    ∀ (m : Nat) (i : Nat), i + m = L.length → Ev (fun k => schismalaw04_ConvergentBetween.l0 k n d L S i a b c e) r
  | 0, i, hi => by obtain rfl : i = L.length := by omega
                   exact hend
  | m + 1, i, hi => by
    have ih := bw_go hS hL hsub hend m (i + 1) (by omega)
    have hil : i < L.length := by omega
    refine Ev.step (fun k => by rw [schismalaw04_ConvergentBetween.l0, if_pos (by omega)]) ?_
    obtain ⟨j, hj, hj2⟩ := List.mem_iff_getElem.1 (hsub L[i] (List.getElem_mem hil))
    refine bw_find (i := i) (r := r) hS hil ?_ S.length 0 (by omega) ⟨j, by omega, hj, hj2⟩
    rw [w64 (by omega) (by omega)]
    exact ih
theorem bw_true' (a b : ByteArray) (x : Int) : Ev (fun k => schismalaw04_ConvergentBetween.j0 k x true a b) true := by
 refine Ev.step (fun k => by rw [schismalaw04_ConvergentBetween.j0, if_pos rfl]) ?_
 exact Ev.bind Known (ev_const fun _ => rfl)
theorem Nb.far {n d bound A B C E : Int} (h : Nb n d bound A B C E) : B + E ≤ d := by
 have h1 := h.lo
 have h2 := h.hi
 have h3 := h.b1
 have h4 := h.e1
 have e : d * (B * C - A * E) = B * (d * C - n * E) + E * (n * B - d * A) := by grind
 rw [h.det] at e
 have k1 : B * 1 ≤ B * (d * C - n * E) := Int.mul_le_mul_of_nonneg_left (by omega) (by omega)
 have k2 : E * 1 ≤ E * (n * B - d * A) := Int.mul_le_mul_of_nonneg_left (by omega) (by omega)
 omega
theorem bw_false (a b : ByteArray) (x : Int) (hx0 : 0 ≤ x) (hx1 : x < 256) (ha : a.size ≤ 7) (hb : b.size ≤ 7) : Ev (fun k => schismalaw04_ConvergentBetween.j0 k x false a b) true := by
 refine Ev.step (fun k => by rw [schismalaw04_ConvergentBetween.j0, if_neg (by simp)]) ?_
 rcases said a b with ⟨n, d, rfl, rfl, hF⟩ | h
 ·have hn := T7 ha
  have hd := T7 hb
  have h0 := hF.1
  refine Ev.bind (Parts_yes (by omega) (by omega) hF) (Ev.congr (fun k => if_pos rfl) ?_)
  simp only
  have hw : wrap64 (1 + wrap64 (Int.tmod x 50)) = 1 + x % 50 := by
   rw [show Int.tmod x 50 = x % 50 from Int.tmod_eq_emod_of_nonneg hx0, w64 (x := x % 50) (by omega) (by omega), w64 (by omega) (by omega)]
  rw [hw]
  obtain ⟨q, hq⟩ : ∃ q, q = 1 + x % 50 := ⟨_, rfl⟩
  rw [← hq]
  have q1 : 1 ≤ q := by omega
  have q2 : q ≤ 50 := by omega
  clear hw
  obtain ⟨ts, hts, hl⟩ := cf_small (n := n) h0 (show d < 10000000000000 by omega)
  obtain ⟨A, B, C, E, hNb, hL, hH, g1, g2, hdet, bA, bC⟩ := Neighbours_T hn.1 hn.2 hF hd.2 q1 (by omega) hts hl
  have hbok : BestOk (T n) (T d) q (n, d, ts) := ⟨rfl, rfl, by show _ < n; omega, by show n < _; omega, hF, by show d < _; omega, q1, by omega, hts, hl⟩
  have hsok : SemiOk (T n) (T d) q (n, d, ts) := ⟨rfl, rfl, by show _ < n; omega, by show n < _; omega, hF, by show d < _; omega, q1, by omega, hts, hl⟩
  refine Ev.bind (ev_const fun k => Best_yes hbok k) (Ev.bind (ev_const fun k => Semi_yes hsok k) (Ev.bind hNb (Ev.congr (fun k => if_pos rfl) (Ev.congr (fun k => if_pos rfl) ?_))))
  refine Ev.step (fun k => by rw [schismalaw04_ConvergentBetween.j1, if_neg (by simp)]) ?_
  simp only
  have s1 := semis_len (f := one) (bound := q) h0 q1 hts
  have s2 : (bestRow n d q ts).length ≤ 1000 := by
   have h5 := fold_len n d (semis half q true CS.begin ts) []
   have h6 := semis_len (f := half) (bound := q) h0 q1 hts
   unfold bestRow
   simp at h5
   omega
  refine bw_go (r := true) (by unfold semiRow; rw [List.length_map]; omega) (by rw [List.length_map]; omega) ?_ ?_ ((bestRow n d q ts).map sf).length 0 (by omega)
  ·intro y hy
   obtain ⟨z, hz, rfl⟩ := List.mem_map.1 hy
   exact List.mem_map.2 ⟨z, best_sub hz, rfl⟩
  ·have hB1 := hL.b1
   have hB2 := hL.b2
   have hE1 := hH.b1
   have hE2 := hH.b2
   refine Ev.step (fun k => by rw [schismalaw04_ConvergentBetween.l0, if_neg (by omega)]) ?_
   refine Ev.bind (Parts_yes (T_9 bA.1 bA.2) (T_9 (i := B) (by omega) (by omega)) ⟨by omega, g1⟩) (Ev.bind (Parts_yes (T_9 bC.1 bC.2) (T_9 (i := E) (by omega) (by omega)) ⟨by omega, g2⟩) ?_)
   by_cases hdx : d ≤ q
   ·exact Ev.congr (fun k => if_pos hdx) (ev_const fun _ => rfl)
   ·have hN := hdet (by omega)
    have h5 := hN.far
    have h6 := hN.sum
    refine Ev.congr (fun k => if_neg hdx) ?_
    simp only
    rw [w64 (x := B + E) (by omega) (by omega)]
    refine Ev.congr (fun k => if_pos (by omega)) (ev_const fun _ => ?_)
    rw [decide_eq_true (by omega)]
 ·exact Ev.bind (Parts_no (by omega) (by omega) h) (Ev.congr (fun k => if_neg (by simp)) (ev_const fun _ => rfl))
theorem ConvergentBetween_true (a b : ByteArray) (x : Int) (hx : (Lit.int .u8 x).wf = true) : ∃ k, schismalaw04_ConvergentBetween.f k a b x = some true := by
 have hx2 : 0 ≤ x ∧ x < 256 := by
  simp [Lit.wf] at hx
  have e1 : IntKind.u8.min = 0 := by decide
  have e2 : IntKind.u8.max = 255 := by decide
  omega
 refine Ev.rounds (g := fun k => schismalaw04_ConvergentBetween.f k a b x) ?_
 unfold schismalaw04_ConvergentBetween.f
 refine Ev.bind Known (Ev.congr (fun k => if_pos rfl) ?_)
 by_cases h : a.size ≤ 5
 ·refine Ev.congr (fun k => if_neg (by omega)) ?_
  by_cases h2 : b.size ≤ 5
  ·rw [decide_eq_false (by omega)]; exact bw_false a b x hx2.1 hx2.2 (by omega) (by omega)
  ·rw [decide_eq_true (by omega)]; exact bw_true' a b x
 ·exact Ev.congr (fun k => if_pos (by omega)) (bw_true' a b x)
end Go.Proofs.YtidajgkepdkcbaaGreatDoor
end
