/- A part of the proof in QSd5. -/
import Derived.Test.YtidajgkepdkcbaaGreatDoorQSd3
set_option linter.unusedVariables false
set_option linter.unusedSimpArgs false
section
namespace Go.Proofs.YtidajgkepdkcbaaGreatDoor.PL
open Go.RowKit Go.Proofs.YtidajgkepdkcbaaGreatDoorW.PrintWords Go.Proofs.YtidajgkepdkcbaaGreatDoorW.PrintLast Go.Proofs.YtidajgkepdkcbaaGreatDoorW.PrintMore Go.Proofs.YtidajgkepdkcbaaGreatDoor.PF
attribute [local go_sem] max2_int min2_int max_two min_two max_three min_three max_four min_four
attribute [local go_sem high] eqA24
mutual
noncomputable def schismalaw04_ConvergentSides.j0 : Nat → Int → Bool → ByteArray → ByteArray → Option (Bool)
 | 0, _, _, _, _ => none
 | k + 1, x1, x27, x102000, x102001 => if x27 = true then ((schismalaw04_known.f k).bind fun t104 => (some t104)) else ((schismaref04_Parts.f k x102000 x102001).bind fun bt105 => (if x1 ≥ 1 then (schismalaw04_ConvergentSides.j1 k x1 bt105.1 bt105.2.1 bt105.2.2 (decide (x1 ≤ 1000000)) x102000 x102001) else (schismalaw04_ConvergentSides.j1 k x1 bt105.1 bt105.2.1 bt105.2.2 false x102000 x102001)))
noncomputable def schismalaw04_ConvergentSides.j1 : Nat → Int → Int → Int → Bool → Bool → ByteArray → ByteArray → Option (Bool)
 | 0, _, _, _, _, _, _, _ => none
 | k + 1, x1, x5, x6, x7, x8, x102000, x102001 => if x7 = true then (if x8 = true then (schismalaw04_ConvergentSides.j2 k x1 x5 x6 x7 x8 (decide (x1 > 60)) x102000 x102001) else (schismalaw04_ConvergentSides.j2 k x1 x5 x6 x7 x8 false x102000 x102001)) else (schismalaw04_ConvergentSides.j2 k x1 x5 x6 x7 x8 false x102000 x102001)
noncomputable def schismalaw04_ConvergentSides.j2 : Nat → Int → Int → Int → Bool → Bool → Bool → ByteArray → ByteArray → Option (Bool)
 | 0, _, _, _, _, _, _, _, _ => none
 | k + 1, x1, x5, x6, x7, x8, x48, x102000, x102001 => if x48 = true then (some true) else ((convergent_Neighbours.f k x102000 x102001 x1).bind fun bt108 => (if x7 = true then (schismalaw04_ConvergentSides.j3 k x1 x5 x6 x7 bt108.2.2.2.2 (!x8) bt108.1 bt108.2.1 bt108.2.2.1 bt108.2.2.2.1) else (schismalaw04_ConvergentSides.j3 k x1 x5 x6 x7 bt108.2.2.2.2 true bt108.1 bt108.2.1 bt108.2.2.1 bt108.2.2.2.1)))
noncomputable def schismalaw04_ConvergentSides.j3 : Nat → Int → Int → Int → Bool → Int → Bool → ByteArray → ByteArray → ByteArray → ByteArray → Option (Bool)
 | 0, _, _, _, _, _, _, _, _, _, _ => none
 | k + 1, x1, x5, x6, x7, x11, x61, x114000, x114001, x115000, x115001 => if x61 = true then (if x7 = true then ((schismalaw04_none.f x114000 x114001).bind fun t115 => (if t115 = true then ((schismalaw04_none.f x115000 x115001).bind fun t116 => (if t116 = true then (some (x11 == 3)) else (some false))) else (some false))) else ((schismalaw04_none.f x114000 x114001).bind fun t117 => (if t117 = true then ((schismalaw04_none.f x115000 x115001).bind fun t118 => (if t118 = true then (some (x11 == 2)) else (some false))) else (some false)))) else ((schismaref04_Neighbours.f k x5 x6 x1).bind fun bt119 => (if (!(x114000.toList == bt119.1.toList) || (!(x114001.toList == bt119.2.1.toList))) = true then (schismalaw04_ConvergentSides.j4 k x1 x6 true x114000 x114001 x115000 x115001) else (if (!(x115000.toList == bt119.2.2.1.toList) || (!(x115001.toList == bt119.2.2.2.toList))) = true then (schismalaw04_ConvergentSides.j4 k x1 x6 true x114000 x114001 x115000 x115001) else (schismalaw04_ConvergentSides.j4 k x1 x6 (x11 != 0) x114000 x114001 x115000 x115001))))
noncomputable def schismalaw04_ConvergentSides.j4 : Nat → Int → Int → Bool → ByteArray → ByteArray → ByteArray → ByteArray → Option (Bool)
 | 0, _, _, _, _, _, _, _ => none
 | k + 1, x1, x6, x92, x114000, x114001, x115000, x115001 => if x92 = true then (some false) else ((schismaref04_Parts.f k x114000 x114001).bind fun bt125 => ((schismaref04_Parts.f k x115000 x115001).bind fun bt128 => (if x6 ≤ x1 then (some true) else (some ((wrap64 ((wrap64 (bt125.2.1 * bt128.1)) - (wrap64 (bt125.1 * bt128.2.1)))) == 1)))))
end
noncomputable def schismalaw04_ConvergentSides.f (k : Nat) (a0_0 : ByteArray) (a0_1 : ByteArray) (a1 : Int) : Option (Bool) := (schismalaw04_known.f k).bind fun t102 => (if t102 = true then ((schismalaw04_small.f a0_0 a0_1).bind fun t103 => (schismalaw04_ConvergentSides.j0 k a1 (!t103) a0_0 a0_1)) else (schismalaw04_ConvergentSides.j0 k a1 true a0_0 a0_1))
set_option maxHeartbeats 8000000 in
set_option maxRecDepth 100000 in
theorem schismalaw04_ConvergentSides.calls (k : Nat) (a0_0 : ByteArray) (a0_1 : ByteArray) (a1 : Int) (r : Bool) (w : World) (hG_ : GWorld w) (h : schismalaw04_ConvergentSides.f k a0_0 a0_1 a1 = some r) :
  Calls Tryz.prog 9 #[.agg #[.string a0_0, .string a0_1], .int .i64 a1] w fun e w' => e = .returned (.bool r) ∧ Below w.heap.size w w' := by
 have hu24 := Tryz.underlying24
 have HB := Aside0.mk (Below.refl w.heap.size w)
 have HG := Aside0.mk hG_
 clear hG_
 have H : ((schismalaw04_known.f k).bind fun t102 => (if t102 = true then ((schismalaw04_small.f a0_0 a0_1).bind fun t103 => (schismalaw04_ConvergentSides.j0 k a1 (!t103) a0_0 a0_1)) else (schismalaw04_ConvergentSides.j0 k a1 true a0_0 a0_1))) = some r := h
 clear h
 have HC3 := Aside0.mk H
 clear H
 go_enter Tryz.func9, Tryz.ntmps9
 go_upto_region 1 with (first | ((with_reducible refine gate_dst (N := 2) rfl ?_); refine bx_ 2 #[.string a0_0, .string a0_1] 24 ?_; clear HB; intro gb101 w4 BK101 GW101 HB; have GE101 := GW101))
 (try simp only [Act.put, List.setIfInBounds_toArray, List.set_cons_zero, List.set_cons_succ])
 go_cut [27] (fun v27 wc => ∃ (kq : Nat) (x27_2 : Bool), v27 = .bool x27_2 ∧ Aside0 (schismalaw04_ConvergentSides.j0 kq a1 x27_2 a0_0 a0_1 = some r) ∧ Aside0 (kq ≤ k) ∧ Aside0 (wc.heap[gb101]? = some (.cells #[.string a0_0, .string a0_1] 24 (0, 0))) ∧ Aside0 (Below w.heap.size w wc))
 case first =>
  have H := HC3.out
  clear HC3
  replace H := Option.bind_eq_some_iff.mp H
  obtain ⟨t102, A50, H⟩ := H
  replace H : (if t102 = true then ((schismalaw04_small.f a0_0 a0_1).bind fun t103 => (schismalaw04_ConvergentSides.j0 k a1 (!t103) a0_0 a0_1)) else (schismalaw04_ConvergentSides.j0 k a1 true a0_0 a0_1)) = some r := H
  have A5 := Aside0.mk A50
  clear A50
  by_cases c6 : t102 = true
  ·subst c6
   have H1 : ((schismalaw04_small.f a0_0 a0_1).bind fun t103 => (schismalaw04_ConvergentSides.j0 k a1 (!t103) a0_0 a0_1)) = some r := by rw [if_pos rfl] at H; exact H
   clear H
   have H := H1
   clear H1
   replace H := Option.bind_eq_some_iff.mp H
   obtain ⟨t103, A70, H⟩ := H
   replace H : (schismalaw04_ConvergentSides.j0 k a1 (!t103) a0_0 a0_1) = some r := H
   have A7 := Aside0.mk A70
   clear A70
   have H' := Aside0.mk H
   clear H
   go_wp2_with (first | ((with_reducible refine gate_callee (f := 13) rfl ?_); refine goesL_ (some 21) rfl rfl Tryz.func13 (by kernel_rfl) rfl #[] rfl mp_ ?_; (with_reducible refine (schismalaw04_known.calls k  true _ ?side1 A5.out).mono ?_); (case side1 => exact gw_ HG); rintro e w8 ⟨rfl, hb⟩; refine ⟨_, rfl, ?_⟩; replace BK101 := kb_ BK101 hb; replace HB := bs_ hb; (try clear hb); (try clear hb2); (try clear hk); (try clear hi); obtain ⟨hcz9_0, hcz9_1, hfz9_0, hfz9_1⟩ := c2_ BK101) | (go_at_call 27; (with_reducible refine (schismalaw04_small.calls a0_0 a0_1 t103 _ A7.out).mono ?_); rintro e w10 ⟨rfl, hb⟩; replace BK101 := kb_ BK101 hb; replace HB := bs_ hb; (try clear hb); (try clear hb2); (try clear hk); (try clear hi)))
   go_meet
   case rel => exact ⟨_, (!t103), (by first | rfl | (simp; done) | (simp [*]; done)), H', ⟨by first | omega | exact Nat.le_refl _⟩, ⟨bk_⟩, ⟨bl_⟩⟩
  ·replace c6 := Bool.eq_false_iff.mpr c6
   subst c6
   have H1 : (schismalaw04_ConvergentSides.j0 k a1 true a0_0 a0_1) = some r := by rw [if_neg (show ¬ (false = true) by decide)] at H; exact H
   clear H
   have H := H1
   clear H1
   have H' := Aside0.mk H
   clear H
   go_wp2_with (first | ((with_reducible refine gate_callee (f := 13) rfl ?_); refine goesL_ (some 21) rfl rfl Tryz.func13 (by kernel_rfl) rfl #[] rfl mp_ ?_; (with_reducible refine (schismalaw04_known.calls k  false _ ?side1 A5.out).mono ?_); (case side1 => exact gw_ HG); rintro e w11 ⟨rfl, hb⟩; refine ⟨_, rfl, ?_⟩; replace BK101 := kb_ BK101 hb; replace HB := bs_ hb; (try clear hb); (try clear hb2); (try clear hk); (try clear hi)))
   go_meet
   case rel => exact ⟨_, (true), (by first | rfl | (simp; done) | (simp [*]; done)), H', ⟨by first | omega | exact Nat.le_refl _⟩, ⟨bk_⟩, ⟨bl_⟩⟩
 case rest =>
  clear HC3
  try clear c1
  try clear p2
  try clear c6
  try clear c9
  try clear hcz9_0
  try clear hcz9_1
  try clear hfz9_0
  try clear hfz9_1
  obtain ⟨kq, x27_2, rfl, HA, HJ2, BK101, HB⟩ := hcut
  cases kq with
  | zero => exact absurd HA.out (by simp [schismalaw04_ConvergentSides.j0])
  | succ kj2 =>
   have H := HA.out
   clear HA
   simp only [schismalaw04_ConvergentSides.j0] at H
   by_cases c12 : x27_2 = true
   ·subst c12
    have H1 : ((schismalaw04_known.f kj2).bind fun t104 => (some t104)) = some r := by rw [if_pos rfl] at H; exact H
    clear H
    have H := H1
    clear H1
    replace H := Option.bind_eq_some_iff.mp H
    obtain ⟨t104, A130, H⟩ := H
    replace H : (some t104) = some r := H
    have A13 := Aside0.mk A130
    clear A130
    obtain rfl := Option.some.inj H
    go_wp2_with (first | ((with_reducible refine gate_callee (f := 13) rfl ?_); refine goesL_ (some 28) rfl rfl Tryz.func13 (by kernel_rfl) rfl #[] rfl mp_ ?_; (with_reducible refine (schismalaw04_known.calls kj2  t104 _ ?side1 A13.out).mono ?_); (case side1 => exact gw_ HG); rintro e w14 ⟨rfl, hb⟩; refine ⟨_, rfl, ?_⟩; replace BK101 := kb_ BK101 hb; replace HB := bs_ hb; (try clear hb); (try clear hb2); (try clear hk); (try clear hi)))
    go_ret
    exact ⟨er_, bl_⟩
   ·replace c12 := Bool.eq_false_iff.mpr c12
    subst c12
    have H1 : ((schismaref04_Parts.f kj2 a0_0 a0_1).bind fun bt105 => (if a1 ≥ 1 then (schismalaw04_ConvergentSides.j1 kj2 a1 bt105.1 bt105.2.1 bt105.2.2 (decide (a1 ≤ 1000000)) a0_0 a0_1) else (schismalaw04_ConvergentSides.j1 kj2 a1 bt105.1 bt105.2.1 bt105.2.2 false a0_0 a0_1))) = some r := by rw [if_neg (show ¬ (false = true) by decide)] at H; exact H
    clear H
    have H := H1
    clear H1
    replace H := Option.bind_eq_some_iff.mp H
    obtain ⟨⟨t105, t106, t107⟩, A150, H⟩ := H
    replace H : (if a1 ≥ 1 then (schismalaw04_ConvergentSides.j1 kj2 a1 t105 t106 t107 (decide (a1 ≤ 1000000)) a0_0 a0_1) else (schismalaw04_ConvergentSides.j1 kj2 a1 t105 t106 t107 false a0_0 a0_1)) = some r := H
    have A15 := Aside0.mk A150
    clear A150
    have HC16 := Aside0.mk H
    clear H
    have hcz17_0 : wc.cell? ⟨gb101, 0, none⟩ = some (.string a0_0) := (blk_cell BK101.out 0).trans rfl
    have hcz17_1 : wc.cell? ⟨gb101, 1, none⟩ = some (.string a0_1) := (blk_cell BK101.out 1).trans rfl
    have hfz17_0 := blk_frozen BK101.out 0
    have hfz17_1 := blk_frozen BK101.out 1
    go_upto_region 4 with (first | ((with_reducible refine gate_callee (f := 15) rfl ?_); refine goesL_ (some 31) rfl rfl Tryz.func15 (by kernel_rfl) rfl #[.agg #[.string a0_0, .string a0_1]] rfl mp_ ?_; (with_reducible refine (schismaref04_Parts.calls kj2 a0_0 a0_1 t105 t106 t107 _ A15.out).mono ?_); rintro e w18 ⟨rfl, hb⟩; refine ⟨_, rfl, ?_⟩; replace BK101 := kb_ BK101 hb; replace HB := bs_ hb; (try clear hb); (try clear hb2); (try clear hk); (try clear hi)))
    (try simp only [Act.put, List.setIfInBounds_toArray, List.set_cons_zero, List.set_cons_succ])
    go_cut [8] (fun v8 wc => ∃ (kq : Nat) (x8_15 : Bool), v8 = .bool x8_15 ∧ Aside0 (schismalaw04_ConvergentSides.j1 kq a1 t105 t106 t107 x8_15 a0_0 a0_1 = some r) ∧ Aside0 (kq ≤ kj2) ∧ Aside0 (wc.heap[gb101]? = some (.cells #[.string a0_0, .string a0_1] 24 (0, 0))) ∧ Aside0 (Below w.heap.size w wc))
    case first =>
     have H := HC16.out
     clear HC16
     by_cases c19 : a1 ≥ 1
     ·rw [if_pos c19] at H
      have c19b0 : decide (1 ≤ a1) = true := decide_eq_true c19
      clear c19
      (first | rw [c19b0] | (simp only [i64_w, i32_w]; rw [c19b0]) | skip)
      have H' := Aside0.mk H
      clear H
      go_wp2
      go_meet
      case rel => exact ⟨_, (decide (a1 ≤ 1000000)), (by first | rfl | (simp; done) | (simp [*]; done)), H', ⟨by have := HJ2.out; first | omega | exact Nat.le_refl _⟩, ⟨bk_⟩, ⟨bl_⟩⟩
     ·rw [if_neg c19] at H
      have c19b0 : decide (1 ≤ a1) = false := decide_eq_false c19
      clear c19
      (first | rw [c19b0] | (simp only [i64_w, i32_w]; rw [c19b0]) | skip)
      have H' := Aside0.mk H
      clear H
      go_wp2
      go_meet
      case rel => exact ⟨_, (false), (by first | rfl | (simp; done) | (simp [*]; done)), H', ⟨by have := HJ2.out; first | omega | exact Nat.le_refl _⟩, ⟨bk_⟩, ⟨bl_⟩⟩
    case rest =>
     clear HC16
     try clear c1
     try clear p2
     try clear c6
     try clear c9
     try clear c12
     try clear c13
     try clear c15
     try clear c19
     try clear c19b0
     try clear hcz17_0
     try clear hcz17_1
     try clear hcz9_0
     try clear hcz9_1
     try clear hfz17_0
     try clear hfz17_1
     try clear hfz9_0
     try clear hfz9_1
     try clear p2
     obtain ⟨kq, x8_15, rfl, HA, HJ15, BK101, HB⟩ := hcut
     cases kq with
     | zero => exact absurd HA.out (by simp [schismalaw04_ConvergentSides.j1])
     | succ kj15 =>
      have H := HA.out
      clear HA
      simp only [schismalaw04_ConvergentSides.j1] at H
      have HC20 := Aside0.mk H
      clear H
      go_upto_region 5 with (fail)
      go_cut [48] (fun v48 wc => ∃ (kq : Nat) (x48_19 : Bool), v48 = .bool x48_19 ∧ Aside0 (schismalaw04_ConvergentSides.j2 kq a1 t105 t106 t107 x8_15 x48_19 a0_0 a0_1 = some r) ∧ Aside0 (kq ≤ kj15) ∧ Aside0 (wc.heap[gb101]? = some (.cells #[.string a0_0, .string a0_1] 24 (0, 0))) ∧ Aside0 (Below w.heap.size w wc))
      case first =>
       have H := HC20.out
       clear HC20
       by_cases c21 : t107 = true
       ·subst c21
        have H1 : (if x8_15 = true then (schismalaw04_ConvergentSides.j2 kj15 a1 t105 t106 true x8_15 (decide (a1 > 60)) a0_0 a0_1) else (schismalaw04_ConvergentSides.j2 kj15 a1 t105 t106 true x8_15 false a0_0 a0_1)) = some r := by rw [if_pos rfl] at H; exact H
        clear H
        have H := H1
        clear H1
        by_cases c22 : x8_15 = true
        ·subst c22
         have H1 : (schismalaw04_ConvergentSides.j2 kj15 a1 t105 t106 true true (decide (a1 > 60)) a0_0 a0_1) = some r := by rw [if_pos rfl] at H; exact H
         clear H
         have H := H1
         clear H1
         have H' := Aside0.mk H
         clear H
         go_wp2
         go_meet
         case rel => exact ⟨_, (decide (a1 > 60)), (by first | rfl | (simp; done) | (simp [*]; done)), H', ⟨by have := HJ2.out; have := HJ15.out; first | omega | exact Nat.le_refl _⟩, ⟨bk_⟩, ⟨bl_⟩⟩
        ·replace c22 := Bool.eq_false_iff.mpr c22
         subst c22
         have H1 : (schismalaw04_ConvergentSides.j2 kj15 a1 t105 t106 true false false a0_0 a0_1) = some r := by rw [if_neg (show ¬ (false = true) by decide)] at H; exact H
         clear H
         have H := H1
         clear H1
         have H' := Aside0.mk H
         clear H
         go_wp2
         go_meet
         case rel => exact ⟨_, (false), (by first | rfl | (simp; done) | (simp [*]; done)), H', ⟨by have := HJ2.out; have := HJ15.out; first | omega | exact Nat.le_refl _⟩, ⟨bk_⟩, ⟨bl_⟩⟩
       ·replace c21 := Bool.eq_false_iff.mpr c21
        subst c21
        have H1 : (schismalaw04_ConvergentSides.j2 kj15 a1 t105 t106 false x8_15 false a0_0 a0_1) = some r := by rw [if_neg (show ¬ (false = true) by decide)] at H; exact H
        clear H
        have H := H1
        clear H1
        have H' := Aside0.mk H
        clear H
        go_wp2
        go_meet
        case rel => exact ⟨_, (false), (by first | rfl | (simp; done) | (simp [*]; done)), H', ⟨by have := HJ2.out; have := HJ15.out; first | omega | exact Nat.le_refl _⟩, ⟨bk_⟩, ⟨bl_⟩⟩
      case rest =>
       clear HC20
       try clear c1
       try clear c2
       try clear p2
       try clear c6
       try clear c9
       try clear c12
       try clear c13
       try clear c15
       try clear c19
       try clear c19b0
       try clear c21
       try clear c22
       try clear hcz17_0
       try clear hcz17_1
       try clear hcz9_0
       try clear hcz9_1
       try clear hfz17_0
       try clear hfz17_1
       try clear hfz9_0
       try clear hfz9_1
       try clear p2
       obtain ⟨kq, x48_19, rfl, HA, HJ19, BK101, HB⟩ := hcut
       cases kq with
       | zero => exact absurd HA.out (by simp [schismalaw04_ConvergentSides.j2])
       | succ kj19 =>
        have H := HA.out
        clear HA
        simp only [schismalaw04_ConvergentSides.j2] at H
        by_cases c23 : x48_19 = true
        ·subst c23
         have H1 : (some true) = some r := by rw [if_pos rfl] at H; exact H
         clear H
         have H := H1
         clear H1
         obtain rfl := Option.some.inj H
         go_wp2
         go_ret
         exact ⟨er_, bl_⟩
        ·replace c23 := Bool.eq_false_iff.mpr c23
         subst c23
         have H1 : ((convergent_Neighbours.f kj19 a0_0 a0_1 a1).bind fun bt108 => (if t107 = true then (schismalaw04_ConvergentSides.j3 kj19 a1 t105 t106 t107 bt108.2.2.2.2 (!x8_15) bt108.1 bt108.2.1 bt108.2.2.1 bt108.2.2.2.1) else (schismalaw04_ConvergentSides.j3 kj19 a1 t105 t106 t107 bt108.2.2.2.2 true bt108.1 bt108.2.1 bt108.2.2.1 bt108.2.2.2.1))) = some r := by rw [if_neg (show ¬ (false = true) by decide)] at H; exact H
         clear H
         have H := H1
         clear H1
         replace H := Option.bind_eq_some_iff.mp H
         obtain ⟨⟨t108, t109, t110, t111, t112⟩, A240, H⟩ := H
         replace H : (if t107 = true then (schismalaw04_ConvergentSides.j3 kj19 a1 t105 t106 t107 t112 (!x8_15) t108 t109 t110 t111) else (schismalaw04_ConvergentSides.j3 kj19 a1 t105 t106 t107 t112 true t108 t109 t110 t111)) = some r := H
         have A24 := Aside0.mk A240
         clear A240
         have HC25 := Aside0.mk H
         clear H
         have hcz26_0 : wc.cell? ⟨gb101, 0, none⟩ = some (.string a0_0) := (blk_cell BK101.out 0).trans rfl
         have hcz26_1 : wc.cell? ⟨gb101, 1, none⟩ = some (.string a0_1) := (blk_cell BK101.out 1).trans rfl
         have hfz26_0 := blk_frozen BK101.out 0
         have hfz26_1 := blk_frozen BK101.out 1
         go_upto_region 8 with (first | ((with_reducible refine gate_callee (f := 35) rfl ?_); refine goesL_ (some 52) rfl rfl Tryz.func35 (by kernel_rfl) rfl #[.agg #[.string a0_0, .string a0_1], .int .i64 a1] rfl mp_ ?_; (with_reducible refine (convergent_Neighbours.calls kj19 a0_0 a0_1 a1 t108 t109 t110 t111 t112 _ ?side1 A24.out).mono ?_); (case side1 => exact gw_ HG); rintro e w27 ⟨rfl, hb⟩; refine ⟨_, rfl, ?_⟩; replace BK101 := kb_ BK101 hb; replace HB := bs_ hb; (try clear hb); (try clear hb2); (try clear hk); (try clear hi)) | ((with_reducible refine gate_dst (N := 9) rfl ?_); refine box_event ?hg (N := 9) ?hd (cs := #[.string (⟨#[]⟩ : ByteArray), .string (⟨#[]⟩ : ByteArray)]) (t := 24) ?hr ?_; (case hd => rfl); (case hg => rfl); (case hr => first | (go_simp; done) | (go_simp; rfl)); intro gb113 hg w28 hbox hb; have BK113 := Aside0.mk (hbox); have GW113 := ge_ (w := w) hg; have GE113 := ge_ (w := w) hg; replace HB := bs_ hb; have NB101_113 := nl_ hg BK101; have NB113_101 := ng_ hg BK101; replace BK101 := kb_ BK101 hb; clear hb hbox hg) | ((with_reducible refine gate_dst (N := 10) rfl ?_); refine box_event ?hg (N := 10) ?hd (cs := #[.string (⟨#[]⟩ : ByteArray), .string (⟨#[]⟩ : ByteArray)]) (t := 24) ?hr ?_; (case hd => rfl); (case hg => rfl); (case hr => first | (go_simp; done) | (go_simp; rfl)); intro gb114 hg w29 hbox hb; have BK114 := Aside0.mk (hbox); have GW114 := ge_ (w := w) hg; have GE114 := ge_ (w := w) hg; replace HB := bs_ hb; have NB101_114 := nl_ hg BK101; have NB114_101 := ng_ hg BK101; replace BK101 := kb_ BK101 hb; have NB113_114 := nl_ hg BK113; have NB114_113 := ng_ hg BK113; replace BK113 := kb_ BK113 hb; clear hb hbox hg; have hnb30 := NB113_101.out; have hnc30 := NB101_113.out; have hnb31 := NB113_114.out; have hnc31 := NB114_113.out; obtain ⟨hcz32_0, hcz32_1, hfz32_0, hfz32_1⟩ := c2_ BK113; have hnb33 := NB114_101.out; have hnc33 := NB101_114.out; obtain ⟨hcz34_0, hcz34_1, hfz34_0, hfz34_1⟩ := c2_ BK114))
         (try simp only [Act.put, List.setIfInBounds_toArray, List.set_cons_zero, List.set_cons_succ])
         go_cut [61] (fun v61 wc => ∃ (kq : Nat) (x61_24 : Bool), v61 = .bool x61_24 ∧ Aside0 (schismalaw04_ConvergentSides.j3 kq a1 t105 t106 t107 t112 x61_24 t108 t109 t110 t111 = some r) ∧ Aside0 (kq ≤ kj19) ∧ Aside0 (wc.heap[gb101]? = some (.cells #[.string a0_0, .string a0_1] 24 (0, 0))) ∧ Aside0 (wc.heap[gb113]? = some (.cells #[.string t108, .string t109] 24 (0, 0))) ∧ Aside0 (wc.heap[gb114]? = some (.cells #[.string t110, .string t111] 24 (0, 0))) ∧ Aside0 (Below w.heap.size w wc))
         case first =>
          have H := HC25.out
          clear HC25
          by_cases c35 : t107 = true
          ·subst c35
           have H1 : (schismalaw04_ConvergentSides.j3 kj19 a1 t105 t106 true t112 (!x8_15) t108 t109 t110 t111) = some r := by rw [if_pos rfl] at H; exact H
           clear H
           have H := H1
           clear H1
           have H' := Aside0.mk H
           clear H
           go_wp2
           go_meet
           case rel => exact ⟨_, (!x8_15), (by first | rfl | (simp; done) | (simp [*]; done)), H', ⟨by have := HJ2.out; have := HJ15.out; have := HJ19.out; first | omega | exact Nat.le_refl _⟩, ⟨by (with_reducible repeat (first | refine blk_drewN ?_ _ | refine blk_drew ?_ | refine blk_alloc ?_ _)); refine blk_far ?_ NB101_114.out _; (with_reducible repeat (first | refine blk_drewN ?_ _ | refine blk_drew ?_ | refine blk_alloc ?_ _)); refine blk_far ?_ NB101_114.out _; (with_reducible repeat (first | refine blk_drewN ?_ _ | refine blk_drew ?_ | refine blk_alloc ?_ _)); refine blk_far ?_ NB101_113.out _; (with_reducible repeat (first | refine blk_drewN ?_ _ | refine blk_drew ?_ | refine blk_alloc ?_ _)); refine blk_far ?_ NB101_113.out _; (with_reducible repeat (first | refine blk_drewN ?_ _ | refine blk_drew ?_ | refine blk_alloc ?_ _)); exact BK101.out⟩, ⟨by (with_reducible repeat (first | refine blk_drewN ?_ _ | refine blk_drew ?_ | refine blk_alloc ?_ _)); refine blk_far ?_ NB113_114.out _; (with_reducible repeat (first | refine blk_drewN ?_ _ | refine blk_drew ?_ | refine blk_alloc ?_ _)); refine blk_far ?_ NB113_114.out _; (with_reducible repeat (first | refine blk_drewN ?_ _ | refine blk_drew ?_ | refine blk_alloc ?_ _)); refine blk_put (cs := #[.string t108, .string (⟨#[]⟩ : ByteArray)]) ?_ 1 _ rfl; (with_reducible repeat (first | refine blk_drewN ?_ _ | refine blk_drew ?_ | refine blk_alloc ?_ _)); refine blk_put (cs := #[.string (⟨#[]⟩ : ByteArray), .string (⟨#[]⟩ : ByteArray)]) ?_ 0 _ rfl; (with_reducible repeat (first | refine blk_drewN ?_ _ | refine blk_drew ?_ | refine blk_alloc ?_ _)); exact BK113.out⟩, ⟨by (with_reducible repeat (first | refine blk_drewN ?_ _ | refine blk_drew ?_ | refine blk_alloc ?_ _)); refine blk_put (cs := #[.string t110, .string (⟨#[]⟩ : ByteArray)]) ?_ 1 _ rfl; (with_reducible repeat (first | refine blk_drewN ?_ _ | refine blk_drew ?_ | refine blk_alloc ?_ _)); refine blk_put (cs := #[.string (⟨#[]⟩ : ByteArray), .string (⟨#[]⟩ : ByteArray)]) ?_ 0 _ rfl; (with_reducible repeat (first | refine blk_drewN ?_ _ | refine blk_drew ?_ | refine blk_alloc ?_ _)); refine blk_far ?_ NB114_113.out _; (with_reducible repeat (first | refine blk_drewN ?_ _ | refine blk_drew ?_ | refine blk_alloc ?_ _)); refine blk_far ?_ NB114_113.out _; (with_reducible repeat (first | refine blk_drewN ?_ _ | refine blk_drew ?_ | refine blk_alloc ?_ _)); exact BK114.out⟩, ⟨bl_⟩⟩
          ·replace c35 := Bool.eq_false_iff.mpr c35
           subst c35
           have H1 : (schismalaw04_ConvergentSides.j3 kj19 a1 t105 t106 false t112 true t108 t109 t110 t111) = some r := by rw [if_neg (show ¬ (false = true) by decide)] at H; exact H
           clear H
           have H := H1
           clear H1
           have H' := Aside0.mk H
           clear H
           go_wp2
           go_meet
           case rel => exact ⟨_, (true), (by first | rfl | (simp; done) | (simp [*]; done)), H', ⟨by have := HJ2.out; have := HJ15.out; have := HJ19.out; first | omega | exact Nat.le_refl _⟩, ⟨by (with_reducible repeat (first | refine blk_drewN ?_ _ | refine blk_drew ?_ | refine blk_alloc ?_ _)); refine blk_far ?_ NB101_114.out _; (with_reducible repeat (first | refine blk_drewN ?_ _ | refine blk_drew ?_ | refine blk_alloc ?_ _)); refine blk_far ?_ NB101_114.out _; (with_reducible repeat (first | refine blk_drewN ?_ _ | refine blk_drew ?_ | refine blk_alloc ?_ _)); refine blk_far ?_ NB101_113.out _; (with_reducible repeat (first | refine blk_drewN ?_ _ | refine blk_drew ?_ | refine blk_alloc ?_ _)); refine blk_far ?_ NB101_113.out _; (with_reducible repeat (first | refine blk_drewN ?_ _ | refine blk_drew ?_ | refine blk_alloc ?_ _)); exact BK101.out⟩, ⟨by (with_reducible repeat (first | refine blk_drewN ?_ _ | refine blk_drew ?_ | refine blk_alloc ?_ _)); refine blk_far ?_ NB113_114.out _; (with_reducible repeat (first | refine blk_drewN ?_ _ | refine blk_drew ?_ | refine blk_alloc ?_ _)); refine blk_far ?_ NB113_114.out _; (with_reducible repeat (first | refine blk_drewN ?_ _ | refine blk_drew ?_ | refine blk_alloc ?_ _)); refine blk_put (cs := #[.string t108, .string (⟨#[]⟩ : ByteArray)]) ?_ 1 _ rfl; (with_reducible repeat (first | refine blk_drewN ?_ _ | refine blk_drew ?_ | refine blk_alloc ?_ _)); refine blk_put (cs := #[.string (⟨#[]⟩ : ByteArray), .string (⟨#[]⟩ : ByteArray)]) ?_ 0 _ rfl; (with_reducible repeat (first | refine blk_drewN ?_ _ | refine blk_drew ?_ | refine blk_alloc ?_ _)); exact BK113.out⟩, ⟨by (with_reducible repeat (first | refine blk_drewN ?_ _ | refine blk_drew ?_ | refine blk_alloc ?_ _)); refine blk_put (cs := #[.string t110, .string (⟨#[]⟩ : ByteArray)]) ?_ 1 _ rfl; (with_reducible repeat (first | refine blk_drewN ?_ _ | refine blk_drew ?_ | refine blk_alloc ?_ _)); refine blk_put (cs := #[.string (⟨#[]⟩ : ByteArray), .string (⟨#[]⟩ : ByteArray)]) ?_ 0 _ rfl; (with_reducible repeat (first | refine blk_drewN ?_ _ | refine blk_drew ?_ | refine blk_alloc ?_ _)); refine blk_far ?_ NB114_113.out _; (with_reducible repeat (first | refine blk_drewN ?_ _ | refine blk_drew ?_ | refine blk_alloc ?_ _)); refine blk_far ?_ NB114_113.out _; (with_reducible repeat (first | refine blk_drewN ?_ _ | refine blk_drew ?_ | refine blk_alloc ?_ _)); exact BK114.out⟩, ⟨bl_⟩⟩
         case rest =>
          clear HC25
          try clear c1
          try clear c2
          try clear p2
          try clear c3
          try clear c6
          try clear c9
          try clear c12
          try clear c13
          try clear c15
          try clear c19
          try clear c19b0
          try clear c21
          try clear c22
          try clear c23
          try clear c30
          try clear c31
          try clear c33
          try clear c35
          try clear hcz17_0
          try clear hcz17_1
          try clear hcz26_0
          try clear hcz26_1
          try clear hcz32_0
          try clear hcz32_1
          try clear hcz34_0
          try clear hcz34_1
          try clear hcz9_0
          try clear hcz9_1
          try clear hfz17_0
          try clear hfz17_1
          try clear hfz26_0
          try clear hfz26_1
          try clear hfz32_0
          try clear hfz32_1
          try clear hfz34_0
          try clear hfz34_1
          try clear hfz9_0
          try clear hfz9_1
          try clear p2
          obtain ⟨kq, x61_24, rfl, HA, HJ24, BK101, BK113, BK114, HB⟩ := hcut
          cases kq with
          | zero => exact absurd HA.out (by simp [schismalaw04_ConvergentSides.j3])
          | succ kj24 =>
           have H := HA.out
           clear HA
           simp only [schismalaw04_ConvergentSides.j3] at H
           by_cases c36 : x61_24 = true
           ·subst c36
            have H1 : (if t107 = true then ((schismalaw04_none.f t108 t109).bind fun t115 => (if t115 = true then ((schismalaw04_none.f t110 t111).bind fun t116 => (if t116 = true then (some (t112 == 3)) else (some false))) else (some false))) else ((schismalaw04_none.f t108 t109).bind fun t117 => (if t117 = true then ((schismalaw04_none.f t110 t111).bind fun t118 => (if t118 = true then (some (t112 == 2)) else (some false))) else (some false)))) = some r := by rw [if_pos rfl] at H; exact H
            clear H
            have H := H1
            clear H1
            by_cases c37 : t107 = true
            ·subst c37
             have H1 : ((schismalaw04_none.f t108 t109).bind fun t115 => (if t115 = true then ((schismalaw04_none.f t110 t111).bind fun t116 => (if t116 = true then (some (t112 == 3)) else (some false))) else (some false))) = some r := by rw [if_pos rfl] at H; exact H
             clear H
             have H := H1
             clear H1
             replace H := Option.bind_eq_some_iff.mp H
             obtain ⟨t115, A380, H⟩ := H
             replace H : (if t115 = true then ((schismalaw04_none.f t110 t111).bind fun t116 => (if t116 = true then (some (t112 == 3)) else (some false))) else (some false)) = some r := H
             have A38 := Aside0.mk A380
             clear A380
             by_cases c39 : t115 = true
             ·subst c39
              have H1 : ((schismalaw04_none.f t110 t111).bind fun t116 => (if t116 = true then (some (t112 == 3)) else (some false))) = some r := by rw [if_pos rfl] at H; exact H
              clear H
              have H := H1
              clear H1
              replace H := Option.bind_eq_some_iff.mp H
              obtain ⟨t116, A400, H⟩ := H
              replace H : (if t116 = true then (some (t112 == 3)) else (some false)) = some r := H
              have A40 := Aside0.mk A400
              clear A400
              by_cases c41 : t116 = true
              ·subst c41
               have H1 : (some (t112 == 3)) = some r := by rw [if_pos rfl] at H; exact H
               clear H
               have H := H1
               clear H1
               obtain rfl := Option.some.inj H
               have hnb42 := NB113_101.out
               have hnc42 := NB101_113.out
               have hnb43 := NB113_114.out
               have hnc43 := NB114_113.out
               have hcz44_0 : wc.cell? ⟨gb113, 0, none⟩ = some (.string t108) := (blk_cell BK113.out 0).trans rfl
               have hcz44_1 : wc.cell? ⟨gb113, 1, none⟩ = some (.string t109) := (blk_cell BK113.out 1).trans rfl
               have hfz44_0 := blk_frozen BK113.out 0
               have hfz44_1 := blk_frozen BK113.out 1
               go_wp2_with (first | ((with_reducible refine gate_callee (f := 16) rfl ?_); refine goesL_ (some 64) rfl rfl Tryz.func16 (by kernel_rfl) rfl #[.agg #[.string t108, .string t109]] rfl mp_ ?_; (with_reducible refine (schismalaw04_none.calls t108 t109 true _ A38.out).mono ?_); rintro e w45 ⟨rfl, hb⟩; refine ⟨_, rfl, ?_⟩; replace BK101 := kb_ BK101 hb; replace BK113 := kb_ BK113 hb; replace BK114 := kb_ BK114 hb; replace HB := bs_ hb; (try clear hb); (try clear hb2); (try clear hk); (try clear hi); have hnb46 := NB114_101.out; have hnc46 := NB101_114.out; obtain ⟨hcz47_0, hcz47_1, hfz47_0, hfz47_1⟩ := c2_ BK114) | (go_at_call 16; (with_reducible refine (schismalaw04_none.calls t110 t111 true _ A40.out).mono ?_); rintro e w48 ⟨rfl, hb⟩; replace BK101 := kb_ BK101 hb; replace BK113 := kb_ BK113 hb; replace BK114 := kb_ BK114 hb; replace HB := bs_ hb; (try clear hb); (try clear hb2); (try clear hk); (try clear hi)))
               go_ret
               exact ⟨er_, bl_⟩
              ·replace c41 := Bool.eq_false_iff.mpr c41
               subst c41
               have H1 : (some false) = some r := by rw [if_neg (show ¬ (false = true) by decide)] at H; exact H
               clear H
               have H := H1
               clear H1
               obtain rfl := Option.some.inj H
               have hnb49 := NB113_101.out
               have hnc49 := NB101_113.out
               have hnb50 := NB113_114.out
               have hnc50 := NB114_113.out
               have hcz51_0 : wc.cell? ⟨gb113, 0, none⟩ = some (.string t108) := (blk_cell BK113.out 0).trans rfl
               have hcz51_1 : wc.cell? ⟨gb113, 1, none⟩ = some (.string t109) := (blk_cell BK113.out 1).trans rfl
               have hfz51_0 := blk_frozen BK113.out 0
               have hfz51_1 := blk_frozen BK113.out 1
               go_wp2_with (first | ((with_reducible refine gate_callee (f := 16) rfl ?_); refine goesL_ (some 64) rfl rfl Tryz.func16 (by kernel_rfl) rfl #[.agg #[.string t108, .string t109]] rfl mp_ ?_; (with_reducible refine (schismalaw04_none.calls t108 t109 true _ A38.out).mono ?_); rintro e w52 ⟨rfl, hb⟩; refine ⟨_, rfl, ?_⟩; replace BK101 := kb_ BK101 hb; replace BK113 := kb_ BK113 hb; replace BK114 := kb_ BK114 hb; replace HB := bs_ hb; (try clear hb); (try clear hb2); (try clear hk); (try clear hi); have hnb53 := NB114_101.out; have hnc53 := NB101_114.out; obtain ⟨hcz54_0, hcz54_1, hfz54_0, hfz54_1⟩ := c2_ BK114) | (go_at_call 16; (with_reducible refine (schismalaw04_none.calls t110 t111 false _ A40.out).mono ?_); rintro e w55 ⟨rfl, hb⟩; replace BK101 := kb_ BK101 hb; replace BK113 := kb_ BK113 hb; replace BK114 := kb_ BK114 hb; replace HB := bs_ hb; (try clear hb); (try clear hb2); (try clear hk); (try clear hi)))
               go_ret
               exact ⟨er_, bl_⟩
             ·replace c39 := Bool.eq_false_iff.mpr c39
              subst c39
              have H1 : (some false) = some r := by rw [if_neg (show ¬ (false = true) by decide)] at H; exact H
              clear H
              have H := H1
              clear H1
              obtain rfl := Option.some.inj H
              have hnb56 := NB113_101.out
              have hnc56 := NB101_113.out
              have hnb57 := NB113_114.out
              have hnc57 := NB114_113.out
              have hcz58_0 : wc.cell? ⟨gb113, 0, none⟩ = some (.string t108) := (blk_cell BK113.out 0).trans rfl
              have hcz58_1 : wc.cell? ⟨gb113, 1, none⟩ = some (.string t109) := (blk_cell BK113.out 1).trans rfl
              have hfz58_0 := blk_frozen BK113.out 0
              have hfz58_1 := blk_frozen BK113.out 1
              go_wp2_with (first | ((with_reducible refine gate_callee (f := 16) rfl ?_); refine goesL_ (some 64) rfl rfl Tryz.func16 (by kernel_rfl) rfl #[.agg #[.string t108, .string t109]] rfl mp_ ?_; (with_reducible refine (schismalaw04_none.calls t108 t109 false _ A38.out).mono ?_); rintro e w59 ⟨rfl, hb⟩; refine ⟨_, rfl, ?_⟩; replace BK101 := kb_ BK101 hb; replace BK113 := kb_ BK113 hb; replace BK114 := kb_ BK114 hb; replace HB := bs_ hb; (try clear hb); (try clear hb2); (try clear hk); (try clear hi)))
              go_ret
              exact ⟨er_, bl_⟩
            ·replace c37 := Bool.eq_false_iff.mpr c37
             subst c37
             have H1 : ((schismalaw04_none.f t108 t109).bind fun t117 => (if t117 = true then ((schismalaw04_none.f t110 t111).bind fun t118 => (if t118 = true then (some (t112 == 2)) else (some false))) else (some false))) = some r := by rw [if_neg (show ¬ (false = true) by decide)] at H; exact H
             clear H
             have H := H1
             clear H1
             replace H := Option.bind_eq_some_iff.mp H
             obtain ⟨t117, A600, H⟩ := H
             replace H : (if t117 = true then ((schismalaw04_none.f t110 t111).bind fun t118 => (if t118 = true then (some (t112 == 2)) else (some false))) else (some false)) = some r := H
             have A60 := Aside0.mk A600
             clear A600
             by_cases c61 : t117 = true
             ·subst c61
              have H1 : ((schismalaw04_none.f t110 t111).bind fun t118 => (if t118 = true then (some (t112 == 2)) else (some false))) = some r := by rw [if_pos rfl] at H; exact H
              clear H
              have H := H1
              clear H1
              replace H := Option.bind_eq_some_iff.mp H
              obtain ⟨t118, A620, H⟩ := H
              replace H : (if t118 = true then (some (t112 == 2)) else (some false)) = some r := H
              have A62 := Aside0.mk A620
              clear A620
              by_cases c63 : t118 = true
              ·subst c63
               have H1 : (some (t112 == 2)) = some r := by rw [if_pos rfl] at H; exact H
               clear H
               have H := H1
               clear H1
               obtain rfl := Option.some.inj H
               have hnb64 := NB113_101.out
               have hnc64 := NB101_113.out
               have hnb65 := NB113_114.out
               have hnc65 := NB114_113.out
               have hcz66_0 : wc.cell? ⟨gb113, 0, none⟩ = some (.string t108) := (blk_cell BK113.out 0).trans rfl
               have hcz66_1 : wc.cell? ⟨gb113, 1, none⟩ = some (.string t109) := (blk_cell BK113.out 1).trans rfl
               have hfz66_0 := blk_frozen BK113.out 0
               have hfz66_1 := blk_frozen BK113.out 1
               go_wp2_with (first | ((with_reducible refine gate_callee (f := 16) rfl ?_); refine goesL_ (some 64) rfl rfl Tryz.func16 (by kernel_rfl) rfl #[.agg #[.string t108, .string t109]] rfl mp_ ?_; (with_reducible refine (schismalaw04_none.calls t108 t109 true _ A60.out).mono ?_); rintro e w67 ⟨rfl, hb⟩; refine ⟨_, rfl, ?_⟩; replace BK101 := kb_ BK101 hb; replace BK113 := kb_ BK113 hb; replace BK114 := kb_ BK114 hb; replace HB := bs_ hb; (try clear hb); (try clear hb2); (try clear hk); (try clear hi); have hnb68 := NB114_101.out; have hnc68 := NB101_114.out; obtain ⟨hcz69_0, hcz69_1, hfz69_0, hfz69_1⟩ := c2_ BK114) | (go_at_call 16; (with_reducible refine (schismalaw04_none.calls t110 t111 true _ A62.out).mono ?_); rintro e w70 ⟨rfl, hb⟩; replace BK101 := kb_ BK101 hb; replace BK113 := kb_ BK113 hb; replace BK114 := kb_ BK114 hb; replace HB := bs_ hb; (try clear hb); (try clear hb2); (try clear hk); (try clear hi)))
               go_ret
               exact ⟨er_, bl_⟩
              ·replace c63 := Bool.eq_false_iff.mpr c63
               subst c63
               have H1 : (some false) = some r := by rw [if_neg (show ¬ (false = true) by decide)] at H; exact H
               clear H
               have H := H1
               clear H1
               obtain rfl := Option.some.inj H
               have hnb71 := NB113_101.out
               have hnc71 := NB101_113.out
               have hnb72 := NB113_114.out
               have hnc72 := NB114_113.out
               have hcz73_0 : wc.cell? ⟨gb113, 0, none⟩ = some (.string t108) := (blk_cell BK113.out 0).trans rfl
               have hcz73_1 : wc.cell? ⟨gb113, 1, none⟩ = some (.string t109) := (blk_cell BK113.out 1).trans rfl
               have hfz73_0 := blk_frozen BK113.out 0
               have hfz73_1 := blk_frozen BK113.out 1
               go_wp2_with (first | ((with_reducible refine gate_callee (f := 16) rfl ?_); refine goesL_ (some 64) rfl rfl Tryz.func16 (by kernel_rfl) rfl #[.agg #[.string t108, .string t109]] rfl mp_ ?_; (with_reducible refine (schismalaw04_none.calls t108 t109 true _ A60.out).mono ?_); rintro e w74 ⟨rfl, hb⟩; refine ⟨_, rfl, ?_⟩; replace BK101 := kb_ BK101 hb; replace BK113 := kb_ BK113 hb; replace BK114 := kb_ BK114 hb; replace HB := bs_ hb; (try clear hb); (try clear hb2); (try clear hk); (try clear hi); have hnb75 := NB114_101.out; have hnc75 := NB101_114.out; obtain ⟨hcz76_0, hcz76_1, hfz76_0, hfz76_1⟩ := c2_ BK114) | (go_at_call 16; (with_reducible refine (schismalaw04_none.calls t110 t111 false _ A62.out).mono ?_); rintro e w77 ⟨rfl, hb⟩; replace BK101 := kb_ BK101 hb; replace BK113 := kb_ BK113 hb; replace BK114 := kb_ BK114 hb; replace HB := bs_ hb; (try clear hb); (try clear hb2); (try clear hk); (try clear hi)))
               go_ret
               exact ⟨er_, bl_⟩
             ·replace c61 := Bool.eq_false_iff.mpr c61
              subst c61
              have H1 : (some false) = some r := by rw [if_neg (show ¬ (false = true) by decide)] at H; exact H
              clear H
              have H := H1
              clear H1
              obtain rfl := Option.some.inj H
              have hnb78 := NB113_101.out
              have hnc78 := NB101_113.out
              have hnb79 := NB113_114.out
              have hnc79 := NB114_113.out
              have hcz80_0 : wc.cell? ⟨gb113, 0, none⟩ = some (.string t108) := (blk_cell BK113.out 0).trans rfl
              have hcz80_1 : wc.cell? ⟨gb113, 1, none⟩ = some (.string t109) := (blk_cell BK113.out 1).trans rfl
              have hfz80_0 := blk_frozen BK113.out 0
              have hfz80_1 := blk_frozen BK113.out 1
              go_wp2_with (first | ((with_reducible refine gate_callee (f := 16) rfl ?_); refine goesL_ (some 64) rfl rfl Tryz.func16 (by kernel_rfl) rfl #[.agg #[.string t108, .string t109]] rfl mp_ ?_; (with_reducible refine (schismalaw04_none.calls t108 t109 false _ A60.out).mono ?_); rintro e w81 ⟨rfl, hb⟩; refine ⟨_, rfl, ?_⟩; replace BK101 := kb_ BK101 hb; replace BK113 := kb_ BK113 hb; replace BK114 := kb_ BK114 hb; replace HB := bs_ hb; (try clear hb); (try clear hb2); (try clear hk); (try clear hi)))
              go_ret
              exact ⟨er_, bl_⟩
           ·replace c36 := Bool.eq_false_iff.mpr c36
            subst c36
            have H1 : ((schismaref04_Neighbours.f kj24 t105 t106 a1).bind fun bt119 => (if (!(t108.toList == bt119.1.toList) || (!(t109.toList == bt119.2.1.toList))) = true then (schismalaw04_ConvergentSides.j4 kj24 a1 t106 true t108 t109 t110 t111) else (if (!(t110.toList == bt119.2.2.1.toList) || (!(t111.toList == bt119.2.2.2.toList))) = true then (schismalaw04_ConvergentSides.j4 kj24 a1 t106 true t108 t109 t110 t111) else (schismalaw04_ConvergentSides.j4 kj24 a1 t106 (t112 != 0) t108 t109 t110 t111)))) = some r := by rw [if_neg (show ¬ (false = true) by decide)] at H; exact H
            clear H
            have H := H1
            clear H1
            replace H := Option.bind_eq_some_iff.mp H
            obtain ⟨⟨t119, t120, t121, t122⟩, A820, H⟩ := H
            replace H : (if (!(t108.toList == t119.toList) || (!(t109.toList == t120.toList))) = true then (schismalaw04_ConvergentSides.j4 kj24 a1 t106 true t108 t109 t110 t111) else (if (!(t110.toList == t121.toList) || (!(t111.toList == t122.toList))) = true then (schismalaw04_ConvergentSides.j4 kj24 a1 t106 true t108 t109 t110 t111) else (schismalaw04_ConvergentSides.j4 kj24 a1 t106 (t112 != 0) t108 t109 t110 t111))) = some r := H
            have A82 := Aside0.mk A820
            clear A820
            have HC83 := Aside0.mk H
            clear H
            go_upto_region 14 with (first | ((with_reducible refine gate_callee (f := 36) rfl ?_); refine goesL_ (some 78) rfl rfl Tryz.func36 (by kernel_rfl) rfl #[.int .i64 t105, .int .i64 t106, .int .i64 a1] rfl mp_ ?_; (with_reducible refine (schismaref04_Neighbours.calls kj24 t105 t106 a1 t119 t120 t121 t122 _ A82.out).mono ?_); rintro e w84 ⟨rfl, hb⟩; refine ⟨_, rfl, ?_⟩; replace BK101 := kb_ BK101 hb; replace BK113 := kb_ BK113 hb; replace BK114 := kb_ BK114 hb; replace HB := bs_ hb; (try clear hb); (try clear hb2); (try clear hk); (try clear hi)) | ((with_reducible refine gate_dst (N := 13) rfl ?_); refine box_event ?hg (N := 13) ?hd (cs := #[.string (⟨#[]⟩ : ByteArray), .string (⟨#[]⟩ : ByteArray)]) (t := 24) ?hr ?_; (case hd => rfl); (case hg => rfl); (case hr => first | (go_simp; done) | (go_simp; rfl)); intro gb123 hg w85 hbox hb; have BK123 := Aside0.mk (hbox); have GW123 := ge_ (w := w) hg; have GE123 := ge_ (w := w) hg; replace HB := bs_ hb; have NB101_123 := nl_ hg BK101; have NB123_101 := ng_ hg BK101; replace BK101 := kb_ BK101 hb; have NB113_123 := nl_ hg BK113; have NB123_113 := ng_ hg BK113; replace BK113 := kb_ BK113 hb; have NB114_123 := nl_ hg BK114; have NB123_114 := ng_ hg BK114; replace BK114 := kb_ BK114 hb; clear hb hbox hg) | ((with_reducible refine gate_dst (N := 14) rfl ?_); refine box_event ?hg (N := 14) ?hd (cs := #[.string (⟨#[]⟩ : ByteArray), .string (⟨#[]⟩ : ByteArray)]) (t := 24) ?hr ?_; (case hd => rfl); (case hg => rfl); (case hr => first | (go_simp; done) | (go_simp; rfl)); intro gb124 hg w86 hbox hb; have BK124 := Aside0.mk (hbox); have GW124 := ge_ (w := w) hg; have GE124 := ge_ (w := w) hg; replace HB := bs_ hb; have NB101_124 := nl_ hg BK101; have NB124_101 := ng_ hg BK101; replace BK101 := kb_ BK101 hb; have NB113_124 := nl_ hg BK113; have NB124_113 := ng_ hg BK113; replace BK113 := kb_ BK113 hb; have NB114_124 := nl_ hg BK114; have NB124_114 := ng_ hg BK114; replace BK114 := kb_ BK114 hb; have NB123_124 := nl_ hg BK123; have NB124_123 := ng_ hg BK123; replace BK123 := kb_ BK123 hb; clear hb hbox hg; have hnb87 := NB123_101.out; have hnc87 := NB101_123.out; have hnb88 := NB123_113.out; have hnc88 := NB113_123.out; have hnb89 := NB123_114.out; have hnc89 := NB114_123.out; have hnb90 := NB123_124.out; have hnc90 := NB124_123.out; obtain ⟨hcz91_0, hcz91_1, hfz91_0, hfz91_1⟩ := c2_ BK123; have hnb92 := NB124_101.out; have hnc92 := NB101_124.out; have hnb93 := NB124_113.out; have hnc93 := NB113_124.out; have hnb94 := NB124_114.out; have hnc94 := NB114_124.out; obtain ⟨hcz95_0, hcz95_1, hfz95_0, hfz95_1⟩ := c2_ BK124))
            (try simp only [Act.put, List.setIfInBounds_toArray, List.set_cons_zero, List.set_cons_succ])
            go_cut [92] (fun v92 wc => ∃ (kq : Nat) (x92_82 : Bool), v92 = .bool x92_82 ∧ Aside0 (schismalaw04_ConvergentSides.j4 kq a1 t106 x92_82 t108 t109 t110 t111 = some r) ∧ Aside0 (kq ≤ kj24) ∧ Aside0 (wc.heap[gb101]? = some (.cells #[.string a0_0, .string a0_1] 24 (0, 0))) ∧ Aside0 (wc.heap[gb113]? = some (.cells #[.string t108, .string t109] 24 (0, 0))) ∧ Aside0 (wc.heap[gb114]? = some (.cells #[.string t110, .string t111] 24 (0, 0))) ∧ Aside0 (wc.heap[gb123]? = some (.cells #[.string t119, .string t120] 24 (0, 0))) ∧ Aside0 (wc.heap[gb124]? = some (.cells #[.string t121, .string t122] 24 (0, 0))) ∧ Aside0 (Below w.heap.size w wc))
            case first =>
             have H := HC83.out
             clear HC83
             by_cases c96 : (!(t108.toList == t119.toList) || (!(t109.toList == t120.toList))) = true
             ·rw [if_pos c96] at H
              have c96b0 : (!(t108.toList == t119.toList) || (!(t109.toList == t120.toList))) = true := c96
              clear c96
              (first | rw [c96b0] | (simp only [i64_w, i32_w]; rw [c96b0]) | skip)
              have H' := Aside0.mk H
              clear H
              have hnb97 := NB113_101.out
              have hnc97 := NB101_113.out
              have hnb98 := NB113_114.out
              have hnc98 := NB114_113.out
              have hnb99 := NB113_123.out
              have hnc99 := NB123_113.out
              have hnb100 := NB113_124.out
              have hnc100 := NB124_113.out
              have hcz101_0 : w86.cell? ⟨gb113, 0, none⟩ = some (.string t108) := (blk_cell BK113.out 0).trans rfl
              have hcz101_1 : w86.cell? ⟨gb113, 1, none⟩ = some (.string t109) := (blk_cell BK113.out 1).trans rfl
              have hfz101_0 := blk_frozen BK113.out 0
              have hfz101_1 := blk_frozen BK113.out 1
              have hnb102 := NB123_101.out
              have hnc102 := NB101_123.out
              have hnb103 := NB123_114.out
              have hnc103 := NB114_123.out
              have hnb104 := NB123_124.out
              have hnc104 := NB124_123.out
              have hcz105_0 : w86.cell? ⟨gb123, 0, none⟩ = some (.string (⟨#[]⟩ : ByteArray)) := (blk_cell BK123.out 0).trans rfl
              have hcz105_1 : w86.cell? ⟨gb123, 1, none⟩ = some (.string (⟨#[]⟩ : ByteArray)) := (blk_cell BK123.out 1).trans rfl
              have hfz105_0 := blk_frozen BK123.out 0
              have hfz105_1 := blk_frozen BK123.out 1
              go_wp2
              go_meet
              case rel => exact ⟨_, (true), (by first | rfl | (simp; done) | (simp [*]; done)), H', ⟨by have := HJ2.out; have := HJ15.out; have := HJ19.out; have := HJ24.out; first | omega | exact Nat.le_refl _⟩, ⟨by (with_reducible repeat (first | refine blk_drewN ?_ _ | refine blk_drew ?_ | refine blk_alloc ?_ _)); refine blk_far ?_ NB101_124.out _; (with_reducible repeat (first | refine blk_drewN ?_ _ | refine blk_drew ?_ | refine blk_alloc ?_ _)); refine blk_far ?_ NB101_124.out _; (with_reducible repeat (first | refine blk_drewN ?_ _ | refine blk_drew ?_ | refine blk_alloc ?_ _)); refine blk_far ?_ NB101_123.out _; (with_reducible repeat (first | refine blk_drewN ?_ _ | refine blk_drew ?_ | refine blk_alloc ?_ _)); refine blk_far ?_ NB101_123.out _; (with_reducible repeat (first | refine blk_drewN ?_ _ | refine blk_drew ?_ | refine blk_alloc ?_ _)); exact BK101.out⟩, ⟨by (with_reducible repeat (first | refine blk_drewN ?_ _ | refine blk_drew ?_ | refine blk_alloc ?_ _)); refine blk_far ?_ NB113_124.out _; (with_reducible repeat (first | refine blk_drewN ?_ _ | refine blk_drew ?_ | refine blk_alloc ?_ _)); refine blk_far ?_ NB113_124.out _; (with_reducible repeat (first | refine blk_drewN ?_ _ | refine blk_drew ?_ | refine blk_alloc ?_ _)); refine blk_far ?_ NB113_123.out _; (with_reducible repeat (first | refine blk_drewN ?_ _ | refine blk_drew ?_ | refine blk_alloc ?_ _)); refine blk_far ?_ NB113_123.out _; (with_reducible repeat (first | refine blk_drewN ?_ _ | refine blk_drew ?_ | refine blk_alloc ?_ _)); exact BK113.out⟩, ⟨by (with_reducible repeat (first | refine blk_drewN ?_ _ | refine blk_drew ?_ | refine blk_alloc ?_ _)); refine blk_far ?_ NB114_124.out _; (with_reducible repeat (first | refine blk_drewN ?_ _ | refine blk_drew ?_ | refine blk_alloc ?_ _)); refine blk_far ?_ NB114_124.out _; (with_reducible repeat (first | refine blk_drewN ?_ _ | refine blk_drew ?_ | refine blk_alloc ?_ _)); refine blk_far ?_ NB114_123.out _; (with_reducible repeat (first | refine blk_drewN ?_ _ | refine blk_drew ?_ | refine blk_alloc ?_ _)); refine blk_far ?_ NB114_123.out _; (with_reducible repeat (first | refine blk_drewN ?_ _ | refine blk_drew ?_ | refine blk_alloc ?_ _)); exact BK114.out⟩, ⟨by (with_reducible repeat (first | refine blk_drewN ?_ _ | refine blk_drew ?_ | refine blk_alloc ?_ _)); refine blk_far ?_ NB123_124.out _; (with_reducible repeat (first | refine blk_drewN ?_ _ | refine blk_drew ?_ | refine blk_alloc ?_ _)); refine blk_far ?_ NB123_124.out _; (with_reducible repeat (first | refine blk_drewN ?_ _ | refine blk_drew ?_ | refine blk_alloc ?_ _)); refine blk_put (cs := #[.string t119, .string (⟨#[]⟩ : ByteArray)]) ?_ 1 _ rfl; (with_reducible repeat (first | refine blk_drewN ?_ _ | refine blk_drew ?_ | refine blk_alloc ?_ _)); refine blk_put (cs := #[.string (⟨#[]⟩ : ByteArray), .string (⟨#[]⟩ : ByteArray)]) ?_ 0 _ rfl; (with_reducible repeat (first | refine blk_drewN ?_ _ | refine blk_drew ?_ | refine blk_alloc ?_ _)); exact BK123.out⟩, ⟨by (with_reducible repeat (first | refine blk_drewN ?_ _ | refine blk_drew ?_ | refine blk_alloc ?_ _)); refine blk_put (cs := #[.string t121, .string (⟨#[]⟩ : ByteArray)]) ?_ 1 _ rfl; (with_reducible repeat (first | refine blk_drewN ?_ _ | refine blk_drew ?_ | refine blk_alloc ?_ _)); refine blk_put (cs := #[.string (⟨#[]⟩ : ByteArray), .string (⟨#[]⟩ : ByteArray)]) ?_ 0 _ rfl; (with_reducible repeat (first | refine blk_drewN ?_ _ | refine blk_drew ?_ | refine blk_alloc ?_ _)); refine blk_far ?_ NB124_123.out _; (with_reducible repeat (first | refine blk_drewN ?_ _ | refine blk_drew ?_ | refine blk_alloc ?_ _)); refine blk_far ?_ NB124_123.out _; (with_reducible repeat (first | refine blk_drewN ?_ _ | refine blk_drew ?_ | refine blk_alloc ?_ _)); exact BK124.out⟩, ⟨bl_⟩⟩
             ·rw [if_neg c96] at H
              have c96b0 : (!(t108.toList == t119.toList) || (!(t109.toList == t120.toList))) = false := by simpa using c96
              clear c96
              (first | rw [c96b0] | (simp only [i64_w, i32_w]; rw [c96b0]) | skip)
              by_cases c106 : (!(t110.toList == t121.toList) || (!(t111.toList == t122.toList))) = true
              ·rw [if_pos c106] at H
               have c106b0 : (!(t110.toList == t121.toList) || (!(t111.toList == t122.toList))) = true := c106
               clear c106
               have H' := Aside0.mk H
               clear H
               have hnb107 := NB113_101.out
               have hnc107 := NB101_113.out
               have hnb108 := NB113_114.out
               have hnc108 := NB114_113.out
               have hnb109 := NB113_123.out
               have hnc109 := NB123_113.out
               have hnb110 := NB113_124.out
               have hnc110 := NB124_113.out
               have hcz111_0 : w86.cell? ⟨gb113, 0, none⟩ = some (.string t108) := (blk_cell BK113.out 0).trans rfl
               have hcz111_1 : w86.cell? ⟨gb113, 1, none⟩ = some (.string t109) := (blk_cell BK113.out 1).trans rfl
               have hfz111_0 := blk_frozen BK113.out 0
               have hfz111_1 := blk_frozen BK113.out 1
               have hnb112 := NB123_101.out
               have hnc112 := NB101_123.out
               have hnb113 := NB123_114.out
               have hnc113 := NB114_123.out
               have hnb114 := NB123_124.out
               have hnc114 := NB124_123.out
               have hcz115_0 : w86.cell? ⟨gb123, 0, none⟩ = some (.string (⟨#[]⟩ : ByteArray)) := (blk_cell BK123.out 0).trans rfl
               have hcz115_1 : w86.cell? ⟨gb123, 1, none⟩ = some (.string (⟨#[]⟩ : ByteArray)) := (blk_cell BK123.out 1).trans rfl
               have hfz115_0 := blk_frozen BK123.out 0
               have hfz115_1 := blk_frozen BK123.out 1
               have hnb116 := NB114_101.out
               have hnc116 := NB101_114.out
               have hnb117 := NB114_124.out
               have hnc117 := NB124_114.out
               have hcz118_0 : w86.cell? ⟨gb114, 0, none⟩ = some (.string t110) := (blk_cell BK114.out 0).trans rfl
               have hcz118_1 : w86.cell? ⟨gb114, 1, none⟩ = some (.string t111) := (blk_cell BK114.out 1).trans rfl
               have hfz118_0 := blk_frozen BK114.out 0
               have hfz118_1 := blk_frozen BK114.out 1
               have hnb119 := NB124_101.out
               have hnc119 := NB101_124.out
               have hcz120_0 : w86.cell? ⟨gb124, 0, none⟩ = some (.string (⟨#[]⟩ : ByteArray)) := (blk_cell BK124.out 0).trans rfl
               have hcz120_1 : w86.cell? ⟨gb124, 1, none⟩ = some (.string (⟨#[]⟩ : ByteArray)) := (blk_cell BK124.out 1).trans rfl
               have hfz120_0 := blk_frozen BK124.out 0
               have hfz120_1 := blk_frozen BK124.out 1
               go_wp2
               go_meet
               case rel => exact ⟨_, (true), (by first | rfl | (simp; done) | (simp [*]; done)), H', ⟨by have := HJ2.out; have := HJ15.out; have := HJ19.out; have := HJ24.out; first | omega | exact Nat.le_refl _⟩, ⟨by (with_reducible repeat (first | refine blk_drewN ?_ _ | refine blk_drew ?_ | refine blk_alloc ?_ _)); refine blk_far ?_ NB101_124.out _; (with_reducible repeat (first | refine blk_drewN ?_ _ | refine blk_drew ?_ | refine blk_alloc ?_ _)); refine blk_far ?_ NB101_124.out _; (with_reducible repeat (first | refine blk_drewN ?_ _ | refine blk_drew ?_ | refine blk_alloc ?_ _)); refine blk_far ?_ NB101_123.out _; (with_reducible repeat (first | refine blk_drewN ?_ _ | refine blk_drew ?_ | refine blk_alloc ?_ _)); refine blk_far ?_ NB101_123.out _; (with_reducible repeat (first | refine blk_drewN ?_ _ | refine blk_drew ?_ | refine blk_alloc ?_ _)); exact BK101.out⟩, ⟨by (with_reducible repeat (first | refine blk_drewN ?_ _ | refine blk_drew ?_ | refine blk_alloc ?_ _)); refine blk_far ?_ NB113_124.out _; (with_reducible repeat (first | refine blk_drewN ?_ _ | refine blk_drew ?_ | refine blk_alloc ?_ _)); refine blk_far ?_ NB113_124.out _; (with_reducible repeat (first | refine blk_drewN ?_ _ | refine blk_drew ?_ | refine blk_alloc ?_ _)); refine blk_far ?_ NB113_123.out _; (with_reducible repeat (first | refine blk_drewN ?_ _ | refine blk_drew ?_ | refine blk_alloc ?_ _)); refine blk_far ?_ NB113_123.out _; (with_reducible repeat (first | refine blk_drewN ?_ _ | refine blk_drew ?_ | refine blk_alloc ?_ _)); exact BK113.out⟩, ⟨by (with_reducible repeat (first | refine blk_drewN ?_ _ | refine blk_drew ?_ | refine blk_alloc ?_ _)); refine blk_far ?_ NB114_124.out _; (with_reducible repeat (first | refine blk_drewN ?_ _ | refine blk_drew ?_ | refine blk_alloc ?_ _)); refine blk_far ?_ NB114_124.out _; (with_reducible repeat (first | refine blk_drewN ?_ _ | refine blk_drew ?_ | refine blk_alloc ?_ _)); refine blk_far ?_ NB114_123.out _; (with_reducible repeat (first | refine blk_drewN ?_ _ | refine blk_drew ?_ | refine blk_alloc ?_ _)); refine blk_far ?_ NB114_123.out _; (with_reducible repeat (first | refine blk_drewN ?_ _ | refine blk_drew ?_ | refine blk_alloc ?_ _)); exact BK114.out⟩, ⟨by (with_reducible repeat (first | refine blk_drewN ?_ _ | refine blk_drew ?_ | refine blk_alloc ?_ _)); refine blk_far ?_ NB123_124.out _; (with_reducible repeat (first | refine blk_drewN ?_ _ | refine blk_drew ?_ | refine blk_alloc ?_ _)); refine blk_far ?_ NB123_124.out _; (with_reducible repeat (first | refine blk_drewN ?_ _ | refine blk_drew ?_ | refine blk_alloc ?_ _)); refine blk_put (cs := #[.string t119, .string (⟨#[]⟩ : ByteArray)]) ?_ 1 _ rfl; (with_reducible repeat (first | refine blk_drewN ?_ _ | refine blk_drew ?_ | refine blk_alloc ?_ _)); refine blk_put (cs := #[.string (⟨#[]⟩ : ByteArray), .string (⟨#[]⟩ : ByteArray)]) ?_ 0 _ rfl; (with_reducible repeat (first | refine blk_drewN ?_ _ | refine blk_drew ?_ | refine blk_alloc ?_ _)); exact BK123.out⟩, ⟨by (with_reducible repeat (first | refine blk_drewN ?_ _ | refine blk_drew ?_ | refine blk_alloc ?_ _)); refine blk_put (cs := #[.string t121, .string (⟨#[]⟩ : ByteArray)]) ?_ 1 _ rfl; (with_reducible repeat (first | refine blk_drewN ?_ _ | refine blk_drew ?_ | refine blk_alloc ?_ _)); refine blk_put (cs := #[.string (⟨#[]⟩ : ByteArray), .string (⟨#[]⟩ : ByteArray)]) ?_ 0 _ rfl; (with_reducible repeat (first | refine blk_drewN ?_ _ | refine blk_drew ?_ | refine blk_alloc ?_ _)); refine blk_far ?_ NB124_123.out _; (with_reducible repeat (first | refine blk_drewN ?_ _ | refine blk_drew ?_ | refine blk_alloc ?_ _)); refine blk_far ?_ NB124_123.out _; (with_reducible repeat (first | refine blk_drewN ?_ _ | refine blk_drew ?_ | refine blk_alloc ?_ _)); exact BK124.out⟩, ⟨bl_⟩⟩
              ·rw [if_neg c106] at H
               have c106b0 : (!(t110.toList == t121.toList) || (!(t111.toList == t122.toList))) = false := by simpa using c106
               clear c106
               have H' := Aside0.mk H
               clear H
               have hnb121 := NB113_101.out
               have hnc121 := NB101_113.out
               have hnb122 := NB113_114.out
               have hnc122 := NB114_113.out
               have hnb123 := NB113_123.out
               have hnc123 := NB123_113.out
               have hnb124 := NB113_124.out
               have hnc124 := NB124_113.out
               have hcz125_0 : w86.cell? ⟨gb113, 0, none⟩ = some (.string t108) := (blk_cell BK113.out 0).trans rfl
               have hcz125_1 : w86.cell? ⟨gb113, 1, none⟩ = some (.string t109) := (blk_cell BK113.out 1).trans rfl
               have hfz125_0 := blk_frozen BK113.out 0
               have hfz125_1 := blk_frozen BK113.out 1
               have hnb126 := NB123_101.out
               have hnc126 := NB101_123.out
               have hnb127 := NB123_114.out
               have hnc127 := NB114_123.out
               have hnb128 := NB123_124.out
               have hnc128 := NB124_123.out
               have hcz129_0 : w86.cell? ⟨gb123, 0, none⟩ = some (.string (⟨#[]⟩ : ByteArray)) := (blk_cell BK123.out 0).trans rfl
               have hcz129_1 : w86.cell? ⟨gb123, 1, none⟩ = some (.string (⟨#[]⟩ : ByteArray)) := (blk_cell BK123.out 1).trans rfl
               have hfz129_0 := blk_frozen BK123.out 0
               have hfz129_1 := blk_frozen BK123.out 1
               have hnb130 := NB114_101.out
               have hnc130 := NB101_114.out
               have hnb131 := NB114_124.out
               have hnc131 := NB124_114.out
               have hcz132_0 : w86.cell? ⟨gb114, 0, none⟩ = some (.string t110) := (blk_cell BK114.out 0).trans rfl
               have hcz132_1 : w86.cell? ⟨gb114, 1, none⟩ = some (.string t111) := (blk_cell BK114.out 1).trans rfl
               have hfz132_0 := blk_frozen BK114.out 0
               have hfz132_1 := blk_frozen BK114.out 1
               have hnb133 := NB124_101.out
               have hnc133 := NB101_124.out
               have hcz134_0 : w86.cell? ⟨gb124, 0, none⟩ = some (.string (⟨#[]⟩ : ByteArray)) := (blk_cell BK124.out 0).trans rfl
               have hcz134_1 : w86.cell? ⟨gb124, 1, none⟩ = some (.string (⟨#[]⟩ : ByteArray)) := (blk_cell BK124.out 1).trans rfl
               have hfz134_0 := blk_frozen BK124.out 0
               have hfz134_1 := blk_frozen BK124.out 1
               go_wp2
               go_meet
               case rel => exact ⟨_, ((t112 != 0)), (by first | rfl | (simp; done) | (simp [*]; done)), H', ⟨by have := HJ2.out; have := HJ15.out; have := HJ19.out; have := HJ24.out; first | omega | exact Nat.le_refl _⟩, ⟨by (with_reducible repeat (first | refine blk_drewN ?_ _ | refine blk_drew ?_ | refine blk_alloc ?_ _)); refine blk_far ?_ NB101_124.out _; (with_reducible repeat (first | refine blk_drewN ?_ _ | refine blk_drew ?_ | refine blk_alloc ?_ _)); refine blk_far ?_ NB101_124.out _; (with_reducible repeat (first | refine blk_drewN ?_ _ | refine blk_drew ?_ | refine blk_alloc ?_ _)); refine blk_far ?_ NB101_123.out _; (with_reducible repeat (first | refine blk_drewN ?_ _ | refine blk_drew ?_ | refine blk_alloc ?_ _)); refine blk_far ?_ NB101_123.out _; (with_reducible repeat (first | refine blk_drewN ?_ _ | refine blk_drew ?_ | refine blk_alloc ?_ _)); exact BK101.out⟩, ⟨by (with_reducible repeat (first | refine blk_drewN ?_ _ | refine blk_drew ?_ | refine blk_alloc ?_ _)); refine blk_far ?_ NB113_124.out _; (with_reducible repeat (first | refine blk_drewN ?_ _ | refine blk_drew ?_ | refine blk_alloc ?_ _)); refine blk_far ?_ NB113_124.out _; (with_reducible repeat (first | refine blk_drewN ?_ _ | refine blk_drew ?_ | refine blk_alloc ?_ _)); refine blk_far ?_ NB113_123.out _; (with_reducible repeat (first | refine blk_drewN ?_ _ | refine blk_drew ?_ | refine blk_alloc ?_ _)); refine blk_far ?_ NB113_123.out _; (with_reducible repeat (first | refine blk_drewN ?_ _ | refine blk_drew ?_ | refine blk_alloc ?_ _)); exact BK113.out⟩, ⟨by (with_reducible repeat (first | refine blk_drewN ?_ _ | refine blk_drew ?_ | refine blk_alloc ?_ _)); refine blk_far ?_ NB114_124.out _; (with_reducible repeat (first | refine blk_drewN ?_ _ | refine blk_drew ?_ | refine blk_alloc ?_ _)); refine blk_far ?_ NB114_124.out _; (with_reducible repeat (first | refine blk_drewN ?_ _ | refine blk_drew ?_ | refine blk_alloc ?_ _)); refine blk_far ?_ NB114_123.out _; (with_reducible repeat (first | refine blk_drewN ?_ _ | refine blk_drew ?_ | refine blk_alloc ?_ _)); refine blk_far ?_ NB114_123.out _; (with_reducible repeat (first | refine blk_drewN ?_ _ | refine blk_drew ?_ | refine blk_alloc ?_ _)); exact BK114.out⟩, ⟨by (with_reducible repeat (first | refine blk_drewN ?_ _ | refine blk_drew ?_ | refine blk_alloc ?_ _)); refine blk_far ?_ NB123_124.out _; (with_reducible repeat (first | refine blk_drewN ?_ _ | refine blk_drew ?_ | refine blk_alloc ?_ _)); refine blk_far ?_ NB123_124.out _; (with_reducible repeat (first | refine blk_drewN ?_ _ | refine blk_drew ?_ | refine blk_alloc ?_ _)); refine blk_put (cs := #[.string t119, .string (⟨#[]⟩ : ByteArray)]) ?_ 1 _ rfl; (with_reducible repeat (first | refine blk_drewN ?_ _ | refine blk_drew ?_ | refine blk_alloc ?_ _)); refine blk_put (cs := #[.string (⟨#[]⟩ : ByteArray), .string (⟨#[]⟩ : ByteArray)]) ?_ 0 _ rfl; (with_reducible repeat (first | refine blk_drewN ?_ _ | refine blk_drew ?_ | refine blk_alloc ?_ _)); exact BK123.out⟩, ⟨by (with_reducible repeat (first | refine blk_drewN ?_ _ | refine blk_drew ?_ | refine blk_alloc ?_ _)); refine blk_put (cs := #[.string t121, .string (⟨#[]⟩ : ByteArray)]) ?_ 1 _ rfl; (with_reducible repeat (first | refine blk_drewN ?_ _ | refine blk_drew ?_ | refine blk_alloc ?_ _)); refine blk_put (cs := #[.string (⟨#[]⟩ : ByteArray), .string (⟨#[]⟩ : ByteArray)]) ?_ 0 _ rfl; (with_reducible repeat (first | refine blk_drewN ?_ _ | refine blk_drew ?_ | refine blk_alloc ?_ _)); refine blk_far ?_ NB124_123.out _; (with_reducible repeat (first | refine blk_drewN ?_ _ | refine blk_drew ?_ | refine blk_alloc ?_ _)); refine blk_far ?_ NB124_123.out _; (with_reducible repeat (first | refine blk_drewN ?_ _ | refine blk_drew ?_ | refine blk_alloc ?_ _)); exact BK124.out⟩, ⟨bl_⟩⟩
            case rest =>
             clear HC83
             try clear c1
             try clear c2
             try clear p2
             try clear c3
             try clear c4
             try clear c5
             try clear c6
             try clear c7
             try clear c8
             try clear c9
             try clear c10
             try clear c11
             try clear c12
             try clear c13
             try clear c15
             try clear c16
             try clear c19
             try clear c19b0
             try clear c21
             try clear c22
             try clear c23
             try clear c30
             try clear c31
             try clear c33
             try clear c35
             try clear c36
             try clear c37
             try clear c39
             try clear c41
             try clear c42
             try clear c43
             try clear c46
             try clear c49
             try clear c50
             try clear c53
             try clear c56
             try clear c57
             try clear c61
             try clear c63
             try clear c64
             try clear c65
             try clear c68
             try clear c71
             try clear c72
             try clear c75
             try clear c78
             try clear c79
             try clear c87
             try clear c88
             try clear c89
             try clear c90
             try clear c92
             try clear c93
             try clear c94
             try clear c96
             try clear c96b0
             try clear c97
             try clear c98
             try clear c99
             try clear c100
             try clear c102
             try clear c103
             try clear c104
             try clear c106
             try clear c106b0
             try clear c107
             try clear c108
             try clear c109
             try clear c110
             try clear c112
             try clear c113
             try clear c114
             try clear c116
             try clear c117
             try clear c119
             try clear c121
             try clear c122
             try clear c123
             try clear c124
             try clear c126
             try clear c127
             try clear c128
             try clear c130
             try clear c131
             try clear c133
             try clear hcz101_0
             try clear hcz101_1
             try clear hcz105_0
             try clear hcz105_1
             try clear hcz111_0
             try clear hcz111_1
             try clear hcz115_0
             try clear hcz115_1
             try clear hcz118_0
             try clear hcz118_1
             try clear hcz120_0
             try clear hcz120_1
             try clear hcz125_0
             try clear hcz125_1
             try clear hcz129_0
             try clear hcz129_1
             try clear hcz132_0
             try clear hcz132_1
             try clear hcz134_0
             try clear hcz134_1
             try clear hcz17_0
             try clear hcz17_1
             try clear hcz26_0
             try clear hcz26_1
             try clear hcz32_0
             try clear hcz32_1
             try clear hcz34_0
             try clear hcz34_1
             try clear hcz44_0
             try clear hcz44_1
             try clear hcz47_0
             try clear hcz47_1
             try clear hcz51_0
             try clear hcz51_1
             try clear hcz54_0
             try clear hcz54_1
             try clear hcz58_0
             try clear hcz58_1
             try clear hcz66_0
             try clear hcz66_1
             try clear hcz69_0
             try clear hcz69_1
             try clear hcz73_0
             try clear hcz73_1
             try clear hcz76_0
             try clear hcz76_1
             try clear hcz80_0
             try clear hcz80_1
             try clear hcz91_0
             try clear hcz91_1
             try clear hcz95_0
             try clear hcz95_1
             try clear hcz9_0
             try clear hcz9_1
             try clear hfz101_0
             try clear hfz101_1
             try clear hfz105_0
             try clear hfz105_1
             try clear hfz111_0
             try clear hfz111_1
             try clear hfz115_0
             try clear hfz115_1
             try clear hfz118_0
             try clear hfz118_1
             try clear hfz120_0
             try clear hfz120_1
             try clear hfz125_0
             try clear hfz125_1
             try clear hfz129_0
             try clear hfz129_1
             try clear hfz132_0
             try clear hfz132_1
             try clear hfz134_0
             try clear hfz134_1
             try clear hfz17_0
             try clear hfz17_1
             try clear hfz26_0
             try clear hfz26_1
             try clear hfz32_0
             try clear hfz32_1
             try clear hfz34_0
             try clear hfz34_1
             try clear hfz44_0
             try clear hfz44_1
             try clear hfz47_0
             try clear hfz47_1
             try clear hfz51_0
             try clear hfz51_1
             try clear hfz54_0
             try clear hfz54_1
             try clear hfz58_0
             try clear hfz58_1
             try clear hfz66_0
             try clear hfz66_1
             try clear hfz69_0
             try clear hfz69_1
             try clear hfz73_0
             try clear hfz73_1
             try clear hfz76_0
             try clear hfz76_1
             try clear hfz80_0
             try clear hfz80_1
             try clear hfz91_0
             try clear hfz91_1
             try clear hfz95_0
             try clear hfz95_1
             try clear hfz9_0
             try clear hfz9_1
             try clear p2
             obtain ⟨kq, x92_82, rfl, HA, HJ82, BK101, BK113, BK114, BK123, BK124, HB⟩ := hcut
             cases kq with
             | zero => exact absurd HA.out (by simp [schismalaw04_ConvergentSides.j4])
             | succ kj82 =>
              have H := HA.out
              clear HA
              simp only [schismalaw04_ConvergentSides.j4] at H
              by_cases c135 : x92_82 = true
              ·subst c135
               have H1 : (some false) = some r := by rw [if_pos rfl] at H; exact H
               clear H
               have H := H1
               clear H1
               obtain rfl := Option.some.inj H
               go_wp2
               go_ret
               exact ⟨er_, bl_⟩
              ·replace c135 := Bool.eq_false_iff.mpr c135
               subst c135
               have H1 : ((schismaref04_Parts.f kj82 t108 t109).bind fun bt125 => ((schismaref04_Parts.f kj82 t110 t111).bind fun bt128 => (if t106 ≤ a1 then (some true) else (some ((wrap64 ((wrap64 (bt125.2.1 * bt128.1)) - (wrap64 (bt125.1 * bt128.2.1)))) == 1))))) = some r := by rw [if_neg (show ¬ (false = true) by decide)] at H; exact H
               clear H
               have H := H1
               clear H1
               replace H := Option.bind_eq_some_iff.mp H
               obtain ⟨⟨t125, t126, t127⟩, A1360, H⟩ := H
               replace H : ((schismaref04_Parts.f kj82 t110 t111).bind fun bt128 => (if t106 ≤ a1 then (some true) else (some ((wrap64 ((wrap64 (t126 * bt128.1)) - (wrap64 (t125 * bt128.2.1)))) == 1)))) = some r := H
               have A136 := Aside0.mk A1360
               clear A1360
               replace H := Option.bind_eq_some_iff.mp H
               obtain ⟨⟨t128, t129, t130⟩, A1370, H⟩ := H
               replace H : (if t106 ≤ a1 then (some true) else (some ((wrap64 ((wrap64 (t126 * t128)) - (wrap64 (t125 * t129)))) == 1))) = some r := H
               have A137 := Aside0.mk A1370
               clear A1370
               by_cases c138 : t106 ≤ a1
               ·rw [if_pos c138] at H
                have c138b0 : decide (t106 ≤ a1) = true := decide_eq_true c138
                clear c138
                obtain rfl := Option.some.inj H
                have hnb139 := NB113_101.out
                have hnc139 := NB101_113.out
                have hnb140 := NB113_114.out
                have hnc140 := NB114_113.out
                have hnb141 := NB113_123.out
                have hnc141 := NB123_113.out
                have hnb142 := NB113_124.out
                have hnc142 := NB124_113.out
                have hcz143_0 : wc.cell? ⟨gb113, 0, none⟩ = some (.string t108) := (blk_cell BK113.out 0).trans rfl
                have hcz143_1 : wc.cell? ⟨gb113, 1, none⟩ = some (.string t109) := (blk_cell BK113.out 1).trans rfl
                have hfz143_0 := blk_frozen BK113.out 0
                have hfz143_1 := blk_frozen BK113.out 1
                go_wp2_with (first | ((with_reducible refine gate_callee (f := 15) rfl ?_); refine goesL_ (some 95) rfl rfl Tryz.func15 (by kernel_rfl) rfl #[.agg #[.string t108, .string t109]] rfl mp_ ?_; (with_reducible refine (schismaref04_Parts.calls kj82 t108 t109 t125 t126 t127 _ A136.out).mono ?_); rintro e w144 ⟨rfl, hb⟩; refine ⟨_, rfl, ?_⟩; replace BK101 := kb_ BK101 hb; replace BK113 := kb_ BK113 hb; replace BK114 := kb_ BK114 hb; replace BK123 := kb_ BK123 hb; replace BK124 := kb_ BK124 hb; replace HB := bs_ hb; (try clear hb); (try clear hb2); (try clear hk); (try clear hi); have hnb145 := NB114_101.out; have hnc145 := NB101_114.out; have hnb146 := NB114_123.out; have hnc146 := NB123_114.out; have hnb147 := NB114_124.out; have hnc147 := NB124_114.out; obtain ⟨hcz148_0, hcz148_1, hfz148_0, hfz148_1⟩ := c2_ BK114) | ((with_reducible refine gate_callee (f := 15) rfl ?_); refine goesL_ (some 101) rfl rfl Tryz.func15 (by kernel_rfl) rfl #[.agg #[.string t110, .string t111]] rfl mp_ ?_; (with_reducible refine (schismaref04_Parts.calls kj82 t110 t111 t128 t129 t130 _ A137.out).mono ?_); rintro e w149 ⟨rfl, hb⟩; refine ⟨_, rfl, ?_⟩; replace BK101 := kb_ BK101 hb; replace BK113 := kb_ BK113 hb; replace BK114 := kb_ BK114 hb; replace BK123 := kb_ BK123 hb; replace BK124 := kb_ BK124 hb; replace HB := bs_ hb; (try clear hb); (try clear hb2); (try clear hk); (try clear hi)))
                go_ret
                exact ⟨er_, bl_⟩
               ·rw [if_neg c138] at H
                have c138b0 : decide (t106 ≤ a1) = false := decide_eq_false c138
                clear c138
                obtain rfl := Option.some.inj H
                have hnb150 := NB113_101.out
                have hnc150 := NB101_113.out
                have hnb151 := NB113_114.out
                have hnc151 := NB114_113.out
                have hnb152 := NB113_123.out
                have hnc152 := NB123_113.out
                have hnb153 := NB113_124.out
                have hnc153 := NB124_113.out
                have hcz154_0 : wc.cell? ⟨gb113, 0, none⟩ = some (.string t108) := (blk_cell BK113.out 0).trans rfl
                have hcz154_1 : wc.cell? ⟨gb113, 1, none⟩ = some (.string t109) := (blk_cell BK113.out 1).trans rfl
                have hfz154_0 := blk_frozen BK113.out 0
                have hfz154_1 := blk_frozen BK113.out 1
                go_wp2_with (first | ((with_reducible refine gate_callee (f := 15) rfl ?_); refine goesL_ (some 95) rfl rfl Tryz.func15 (by kernel_rfl) rfl #[.agg #[.string t108, .string t109]] rfl mp_ ?_; (with_reducible refine (schismaref04_Parts.calls kj82 t108 t109 t125 t126 t127 _ A136.out).mono ?_); rintro e w155 ⟨rfl, hb⟩; refine ⟨_, rfl, ?_⟩; replace BK101 := kb_ BK101 hb; replace BK113 := kb_ BK113 hb; replace BK114 := kb_ BK114 hb; replace BK123 := kb_ BK123 hb; replace BK124 := kb_ BK124 hb; replace HB := bs_ hb; (try clear hb); (try clear hb2); (try clear hk); (try clear hi); have hnb156 := NB114_101.out; have hnc156 := NB101_114.out; have hnb157 := NB114_123.out; have hnc157 := NB123_114.out; have hnb158 := NB114_124.out; have hnc158 := NB124_114.out; obtain ⟨hcz159_0, hcz159_1, hfz159_0, hfz159_1⟩ := c2_ BK114) | ((with_reducible refine gate_callee (f := 15) rfl ?_); refine goesL_ (some 101) rfl rfl Tryz.func15 (by kernel_rfl) rfl #[.agg #[.string t110, .string t111]] rfl mp_ ?_; (with_reducible refine (schismaref04_Parts.calls kj82 t110 t111 t128 t129 t130 _ A137.out).mono ?_); rintro e w160 ⟨rfl, hb⟩; refine ⟨_, rfl, ?_⟩; replace BK101 := kb_ BK101 hb; replace BK113 := kb_ BK113 hb; replace BK114 := kb_ BK114 hb; replace BK123 := kb_ BK123 hb; replace BK124 := kb_ BK124 hb; replace HB := bs_ hb; (try clear hb); (try clear hb2); (try clear hk); (try clear hi)))
                go_ret
                exact ⟨er_, bl_⟩
end Go.Proofs.YtidajgkepdkcbaaGreatDoor.PL
end
section
namespace Go.Proofs.YtidajgkepdkcbaaGreatDoor
open Go.RowKit Go.Lib Go.Proofs.YtidajgkepdkcbaaGreatDoorW.PrintWords Go.Proofs.YtidajgkepdkcbaaGreatDoorW.PrintLast Go.Proofs.YtidajgkepdkcbaaGreatDoorW.PrintMore PF PL
theorem bezout : ∀ (N : Nat) (n d : Int), d.toNat = N → 0 < d → Int.gcd n d = 1 → ∃ x y, n * x - d * y = 1 := by
 intro N
 induction N using Nat.strongRecOn with
 | _ N ih =>
  intro n d hN hd hg
  have e0 := Int.mul_ediv_add_emod n d
  have r0 := Int.emod_nonneg n (b := d) (by omega)
  have r1 := Int.emod_lt_of_pos n hd
  by_cases hr : n % d = 0
  ·have hdv : d ∣ n := Int.dvd_of_emod_eq_zero hr
   have h1 : (Int.gcd n d : Int) = d := by
    have h2 : d ∣ (Int.gcd n d : Int) := Int.dvd_coe_gcd hdv (Int.dvd_refl d)
    exact Int.le_antisymm (gcd_le hd).2 (Int.le_of_dvd (by rw [hg]; decide) h2)
   rw [hg] at h1
   exact ⟨0, -1, by omega⟩
  ·have hg2 : Int.gcd d (n % d) = 1 := by
    rw [Int.gcd_comm, ← hg]
    have : n = n % d + d * (n / d) := by omega
    conv => rhs; rw [this]
    simp
   obtain ⟨x, y, h⟩ := ih (n % d).toNat (by omega) d (n % d) rfl (by omega) hg2
   refine ⟨-y, -(n / d) * y - x, ?_⟩
   have hn : n = d * (n / d) + n % d := by omega
   generalize n / d = q at *
   generalize n % d = r at *
   rw [hn]
   grind
theorem beside_ex {n d bound s : Int} (hF : Fr n d) : ∃ e c, bound - d < e ∧ e ≤ bound ∧ n * e - d * c = s := by
 obtain ⟨x, y, h⟩ := bezout _ n d rfl hF.1 hF.2
 have hd := hF.1
 have e0 := Int.mul_ediv_add_emod (bound - s * x) d
 have r0 := Int.emod_nonneg (bound - s * x) (b := d) (by omega)
 have r1 := Int.emod_lt_of_pos (bound - s * x) hd
 refine ⟨bound - (bound - s * x) % d, s * y + n * ((bound - s * x) / d), by omega, by omega, ?_⟩
 have : bound - (bound - s * x) % d = s * x + d * ((bound - s * x) / d) := by omega
 rw [this]
 generalize (bound - s * x) / d = q
 grind
theorem beside_go {n d bound s : Int} (hn1 : -1000000 < n) (hn2 : n < 10000000) (hF : Fr n d) (hb : d ≤ bound) (hb2 : bound ≤ 60) (hs : s = 1 ∨ s = -1) {e0 c0 : Int} (h1 : bound - d < e0) (h0 : n * e0 - d * c0 = s) :
  ∀ (m : Nat) (cur : Int), cur - e0 = m → cur ≤ bound → ∃ e c, bound - d < e ∧ e ≤ bound ∧ n * e - d * c = s ∧ Ev (fun k => convergent_beside.l0 k bound s d (n % d) cur (T n) (T d)) (T c, T e) := by
 have hd := hF.1
 have r0 := Int.emod_nonneg n (b := d) (by omega)
 have r1 := Int.emod_lt_of_pos n hd
 have en := Int.mul_ediv_add_emod n d
 have test : ∀ cur : Int, 1 ≤ cur → cur ≤ bound → (Int.tmod (wrap64 (wrap64 (n % d * Int.tmod cur d) - s)) d = 0 ↔ d ∣ n * cur - s) := by
  intro cur hc1 hc2
  have m0 := Int.emod_nonneg cur (b := d) (by omega)
  have m1 := Int.emod_lt_of_pos cur hd
  have ec := Int.mul_ediv_add_emod cur d
  rw [show Int.tmod cur d = cur % d from Int.tmod_eq_emod_of_nonneg (by omega)]
  have p0 : 0 ≤ n % d * (cur % d) := Int.mul_nonneg r0 m0
  have p1 : n % d * (cur % d) ≤ 60 * 60 := Int.mul_le_mul (by omega) (by omega) m0 (by omega)
  rw [w64 (x := n % d * (cur % d)) (by omega) (by omega), w64 (x := n % d * (cur % d) - s) (by omega) (by omega)]
  have e1 : Int.tmod (n % d * (cur % d) - s) d = 0 ↔ d ∣ n % d * (cur % d) - s := ⟨Int.dvd_of_tmod_eq_zero, Int.tmod_eq_zero_of_dvd⟩
  rw [e1]
  have e2 : n * cur - s = (n % d * (cur % d) - s) + d * (n / d * cur + n % d * (cur / d)) := by
   have h5 : n * cur = (d * (n / d) + n % d) * cur := by rw [en]
   have h6 : n % d * cur = n % d * (d * (cur / d) + cur % d) := by rw [ec]
   generalize n / d = q at *
   generalize n % d = r at *
   generalize cur / d = q' at *
   generalize cur % d = r' at *
   grind
  rw [e2]
  constructor
  ·intro h; exact Int.dvd_add h ⟨_, rfl⟩
  ·intro h; exact (Int.dvd_add_left ⟨_, rfl⟩).1 h
 have hit : ∀ cur : Int, 1 ≤ cur → cur ≤ bound → bound - d < cur → d ∣ n * cur - s → ∃ e c, bound - d < e ∧ e ≤ bound ∧ n * e - d * c = s ∧ Ev (fun k => convergent_beside.l0 k bound s d (n % d) cur (T n) (T d)) (T c, T e) := by
  intro cur hc1 hc2 hc3 hdv
  obtain ⟨c, hc⟩ := hdv
  have hg : Int.gcd c cur = 1 := by
   refine gcd_of_det (u := n) (v := d) ?_ |> fun h => h
   have : c * d - n * cur = -s := by have := Int.mul_comm d c; omega
   rcases hs with rfl | rfl
   ·right; omega
   ·left; omega
  have hmc : -(10000000 * 60) ≤ n * cur ∧ n * cur ≤ 10000000 * 60 := mulb (show -10000000 ≤ n ∧ n ≤ 10000000 by omega) (show -60 ≤ cur ∧ cur ≤ 60 by omega) (by decide) (by decide)
  have hfr : fr c cur = (T c, T cur) := by unfold fr; rw [hg]; simp
  have hcd : (n * cur - s) / d = c := by rw [hc]; exact Int.mul_ediv_cancel_left _ (by omega)
  have hcb : c.natAbs ≤ (n * cur - s).natAbs := by rw [← hcd]; exact Int.natAbs_ediv_le_natAbs ..
  have S : ∀ i : Int, -100000000000000000 < i → i < 100000000000000000 → S17 i := fun i h1 h2 => ⟨h1, h2⟩
  refine ⟨cur, c, hc3, hc2, by omega, ?_⟩
  refine Ev.step (f := fun k => convergent_beside.j1 k s cur (T n) (T d)) (fun k => ?_) ?_
  ·rw [convergent_beside.l0, if_pos (by rw [w64 (by omega) (by omega)]; omega), if_neg (by omega), if_pos ((test cur hc1 hc2).2 ⟨c, hc⟩)]
  ·refine Ev.step (fun k => by rw [convergent_beside.j1]) ?_
   refine Ev.bind (ev_const fun _ => whole_Of_T (i := cur) (by omega) (by omega)) ?_
   refine Ev.bind (Mul_T (S n (by omega) (by omega)) (S cur (by omega) (by omega)) (by rw [← Int.natAbs_mul]; omega)) ?_
   refine Ev.bind (ev_const fun _ => whole_Of_T (i := s) (by omega) (by omega)) ?_
   refine Ev.bind (ev_const fun k => Sub_T (S (n * cur) (by omega) (by omega)) (S s (by omega) (by omega)) k) ?_
   refine Ev.bind (DivMod_T (S (n * cur - s) (by omega) (by omega)) (S d (by omega) (by omega)) hd) ?_
   refine Ev.bind (ev_const fun _ => whole_Of_T (i := cur) (by omega) (by omega)) ?_
   simp only
   rw [hcd]
   refine Ev.bind (Over_T (S c (by omega) (by omega)) (S cur (by omega) (by omega)) (by omega)) (ev_const fun _ => ?_)
   rw [hfr]
 intro m
 induction m with
 | zero =>
  intro cur hm hcb
  have : cur = e0 := by omega
  subst this
  exact hit cur (by omega) hcb h1 ⟨c0, by omega⟩
 | succ m ih =>
  intro cur hm hcb
  by_cases hdv : d ∣ n * cur - s
  ·exact hit cur (by omega) hcb (by omega) hdv
  ·obtain ⟨e, c, g1, g2, g3, g4⟩ := ih (cur - 1) (by omega) (by omega)
   refine ⟨e, c, g1, g2, g3, Ev.step (fun k => ?_) g4⟩
   rw [convergent_beside.l0, if_pos (by rw [w64 (by omega) (by omega)]; omega), if_neg (by omega), if_neg (fun h => hdv ((test cur (by omega) hcb).1 h)), w64 (by omega) (by omega)]
theorem Beside_T {n d bound s : Int} (hn1 : -1000000 < n) (hn2 : n < 10000000) (hF : Fr n d) (hb : d ≤ bound) (hb2 : bound ≤ 60) (hs : s = 1 ∨ s = -1) :
  ∃ e c, bound - d < e ∧ e ≤ bound ∧ n * e - d * c = s ∧ Ev (fun k => convergent_beside.f k (T n) (T d) bound s) (T c, T e) := by
 have hd := hF.1
 obtain ⟨e0, c0, h1, h2, h3⟩ := beside_ex (bound := bound) (s := s) hF
 obtain ⟨e, c, g1, g2, g3, g4⟩ := beside_go hn1 hn2 hF hb hb2 hs h1 h3 (bound - e0).toNat bound (by omega) (by omega)
 have r0 := Int.emod_nonneg n (b := d) (by omega)
 have r1 := Int.emod_lt_of_pos n hd
 refine ⟨e, c, g1, g2, g3, ?_⟩
 unfold convergent_beside.f
 refine Ev.bind (ev_const fun _ => Small_T (i := d) (by omega) (by omega)) (Ev.bind (DivMod_T (by unfold S17; omega) (by unfold S17; omega) hd) (Ev.bind (ev_const fun _ => Small_T (i := n % d) (by omega) (by omega)) g4))
theorem Neighbours_T {n d bound : Int} {ts : List Int} (hn1 : -1000000 < n) (hn2 : n < 10000000) (hF : Fr n d) (hd2 : d < 10000000) (hb : 1 ≤ bound) (hb2 : bound ≤ 60) (hts : isCf ts n d) (hl : ts.length ≤ 1000) :
  ∃ A B C E, Ev (fun k => convergent_Neighbours.f k (T n) (T d) bound) (T A, T B, T C, T E, 0) ∧ LowN n d bound A B ∧ HighN n d bound C E ∧ Int.gcd A B = 1 ∧ Int.gcd C E = 1 ∧ (bound < d → Nb n d bound A B C E) ∧
   (-1000000000 < A ∧ A < 1000000000) ∧ (-1000000000 < C ∧ C < 1000000000) := by
 have hd := hF.1
 have hnS : S17 n := by unfold S17; omega
 have hdS : S17 d := by unfold S17; omega
 have hbS : S17 bound := by unfold S17; omega
 by_cases hbd : d ≤ bound
 ·obtain ⟨B, A, a1, a2, a3, a4⟩ := Beside_T (s := 1) hn1 hn2 hF hbd hb2 (.inl rfl)
  obtain ⟨E, C, c1, c2, c3, c4⟩ := Beside_T (s := -1) hn1 hn2 hF hbd hb2 (.inr rfl)
  have bd : ∀ {c e s : Int}, n * e - d * c = s → 1 ≤ e → e ≤ 60 → s = 1 ∨ s = -1 → -1000000000 < c ∧ c < 1000000000 := by
   intro c e s h h1 h2 h3
   have hm := mulb (show -10000000 ≤ n ∧ n ≤ 10000000 by omega) (show -60 ≤ e ∧ e ≤ 60 by omega) (by decide) (by decide)
   have hc : c.natAbs * 1 ≤ c.natAbs * d.natAbs := Nat.mul_le_mul_left _ (by omega)
   have : c.natAbs * d.natAbs = (d * c).natAbs := by rw [Int.natAbs_mul, Nat.mul_comm]
   omega
  refine ⟨A, B, C, E, ?_, beside_low hd a3 (by omega) a2 (by omega), beside_high hd c3 (by omega) c2 (by omega), ?_, ?_, fun h => by omega, bd a3 (by omega) (by omega) (.inl rfl), bd c3 (by omega) (by omega) (.inr rfl)⟩
  ·unfold convergent_Neighbours.f
   refine Ev.bind (Bounded_T hnS hdS hF hb (by omega)) (Ev.congr (fun k => if_pos rfl) ?_)
   refine Ev.bind (ev_const fun _ => whole_Of_T (i := bound) (by omega) (by omega)) (Ev.bind (ev_const fun _ => Compare_T (by have := hdS.size; omega) (by have := hbS.size; omega)) ?_)
   have hc : cmp d bound ≤ 0 := by unfold cmp; split; omega; rw [if_neg (by omega)]; omega
   exact Ev.congr (fun k => if_pos hc) (Ev.bind a4 (Ev.bind c4 (ev_const fun _ => rfl)))
  ·refine gcd_of_det (u := n) (v := d) ?_
   right
   have := Int.mul_comm d A
   omega
  ·refine gcd_of_det (u := n) (v := d) ?_
   left
   have := Int.mul_comm d C
   omega
 ·obtain ⟨A, B, C, E, h1, hN, gA, gC⟩ := around_all hn1 hn2 hF hd2 hb hb2 (by omega) hts hl
  have p1 := gA.p1
  have p2 := gA.p2
  have p3 := gC.p1
  have p4 := gC.p2
  simp only at p1 p2 p3 p4
  refine ⟨A, B, C, E, ?_, hN.low hd, hN.high hd, gA.g, gC.g, fun _ => hN, by omega, by omega⟩
  unfold convergent_Neighbours.f
  refine Ev.bind (Bounded_T hnS hdS hF hb (by omega)) (Ev.congr (fun k => if_pos rfl) ?_)
  refine Ev.bind (ev_const fun _ => whole_Of_T (i := bound) (by omega) (by omega)) (Ev.bind (ev_const fun _ => Compare_T (by have := hdS.size; omega) (by have := hbS.size; omega)) ?_)
  have hc : ¬ cmp d bound ≤ 0 := by unfold cmp; rw [if_neg (by omega), if_pos (by omega)]; omega
  exact Ev.congr (fun k => if_neg hc) (Ev.bind (ev_const fun _ => h1) (ev_const fun _ => rfl))
theorem fr_eq {a b c e : Int} (hb : 0 < b) (he : 0 < e) (h : a * e = c * b) (hg : Int.gcd c e = 1) : fr a b = (T c, T e) := by
 obtain ⟨g0, _⟩ := gcd_le (n := a) hb
 have f1 := fr_Fr (n := a) hb
 have a1 : (Int.gcd a b : Int) * (a / (Int.gcd a b : Int)) = a := Int.mul_ediv_cancel' (Int.gcd_dvd_left ..)
 have b1 : (Int.gcd a b : Int) * (b / (Int.gcd a b : Int)) = b := Int.mul_ediv_cancel' (Int.gcd_dvd_right ..)
 unfold fr
 generalize a / (Int.gcd a b : Int) = A at *
 generalize b / (Int.gcd a b : Int) = B at *
 generalize (Int.gcd a b : Int) = g at *
 have hAE : A * e = c * B := by
  rw [← a1, ← b1] at h
  have h2 : g * (A * e) = g * (c * B) := by grind
  exact Int.eq_of_mul_eq_mul_left (by omega) h2
 have d1 : B ∣ e := cop_den (n := A) (d := B) (p := c) f1.2 (by rw [hAE, Int.mul_comm])
 have d2 : e ∣ B := cop_den (n := c) (d := e) (p := A) hg (by rw [← hAE, Int.mul_comm])
 have hBE : B = e := Int.le_antisymm (Int.le_of_dvd he d1) (Int.le_of_dvd f1.1 d2)
 subst hBE
 have : A = c := Int.eq_of_mul_eq_mul_right (by have := f1.1; omega) hAE
 rw [this]
theorem RNb_go {n d bound : Int} (hn : -10000000 ≤ n ∧ n ≤ 10000000) (hd : 0 < d ∧ d ≤ 10000000) (hb : bound ≤ 60) : ∀ (k : Nat) (q : Int) (z y : Int × Int), q + k = bound + 1 → 1 ≤ q → (0 ≤ z.2 ∧ z.2 ≤ 60 ∧ -1000000000 ≤ z.1 ∧ z.1 ≤ 1000000000) → (0 ≤ y.2 ∧ y.2 ≤ 60 ∧ -1000000000 ≤ y.1 ∧ y.1 ≤ 1000000000) →
  0 < (goLow n d z q k).2 → 0 < (goHigh n d y q k).2 →
  Ev (fun f => schismaref04_Neighbours.l0 f n d bound z.1 z.2 y.1 y.2 q) ((fr (goLow n d z q k).1 (goLow n d z q k).2).1, (fr (goLow n d z q k).1 (goLow n d z q k).2).2, (fr (goHigh n d y q k).1 (goHigh n d y q k).2).1, (fr (goHigh n d y q k).1 (goHigh n d y q k).2).2)
 | 0, q, z, y, hk, _, hz, hy, g1, g2 => by
  simp only [goLow, goHigh] at *
  refine Ev.step (f := fun f => (schismaref04_Make.f f z.1 z.2).bind fun bt497 => ((schismaref04_Make.f f y.1 y.2).bind fun bt499 => (some (bt497.1, bt497.2, bt499.1, bt499.2)))) (fun f => by rw [schismaref04_Neighbours.l0, if_neg (by omega)]) ?_
  exact Ev.bind (RMake (by omega) g1 (by omega)) (Ev.bind (RMake (by omega) g2 (by omega)) (ev_const fun _ => rfl))
 | k + 1, q, z, y, hk, hq, hz, hy, g1, g2 => by
  obtain ⟨b1, b2, _, _⟩ := near_bd hn hd (q := q) ⟨hq, by omega⟩
  have a1 := mulb hn (show -61 ≤ q ∧ q ≤ 61 by omega) (by decide) (by decide)
  have a2 := mulb (x := n * q / d) (y := d) (a := 700000000) (b := 10000000) (by omega) (by omega) (by decide) (by decide)
  have e0 := Int.mul_ediv_add_emod (n * q) d
  have r0 := Int.emod_nonneg (n * q) (b := d) (by omega)
  obtain ⟨p, hp⟩ : ∃ p, p = if (n * q / d) * d = n * q then n * q / d - 1 else n * q / d := ⟨_, rfl⟩
  have hpb : -700000001 ≤ p ∧ p ≤ 700000000 := by rw [hp]; split <;> omega
  have hfl : schismaref04_Floor.f (wrap64 (n * q)) d = some (n * q / d) := by rw [w64 (by omega) (by omega)]; exact RFloor (by omega) hd.1
  have m1 := mulb (x := z.1) (y := q) (a := 1000000000) (b := 61) (by omega) (by omega) (by decide) (by decide)
  have m2 := mulb (x := p) (y := z.2) (a := 1000000000) (b := 61) (by omega) (by omega) (by decide) (by decide)
  have m3 := mulb (x := n * q / d + 1) (y := y.2) (a := 1000000000) (b := 61) (by omega) (by omega) (by decide) (by decide)
  have m4 := mulb (x := y.1) (y := q) (a := 1000000000) (b := 61) (by omega) (by omega) (by decide) (by decide)
  have ih := RNb_go hn hd hb k (q + 1) (if z.2 = 0 ∨ z.1 * q < p * z.2 then (p, q) else z) (if y.2 = 0 ∨ (n * q / d + 1) * y.2 < y.1 * q then (n * q / d + 1, q) else y) (by omega) (by omega)
   (by split; simp only; omega; exact hz) (by split; simp only; omega; exact hy)
  have eL : goLow n d z q (k + 1) = goLow n d (if z.2 = 0 ∨ z.1 * q < p * z.2 then (p, q) else z) (q + 1) k := by rw [goLow, hp]
  have eH : goHigh n d y q (k + 1) = goHigh n d (if y.2 = 0 ∨ (n * q / d + 1) * y.2 < y.1 * q then (n * q / d + 1, q) else y) (q + 1) k := by rw [goHigh]
  rw [eL] at g1 ⊢
  rw [eH] at g2 ⊢
  have ih := ih g1 g2
  have wq : wrap64 (q + 1) = q + 1 := w64 (by omega) (by omega)
  have wp : wrap64 (n * q / d + 1) = n * q / d + 1 := w64 (by omega) (by omega)
  refine Ev.step (f := fun f => schismaref04_Neighbours.j1 f n d bound z.1 z.2 y.1 y.2 q p) (fun f => ?_) ?_
  ·rw [schismaref04_Neighbours.l0, if_pos (by omega), hfl]
   simp only [Option.bind_some]
   rw [w64 (x := n * q / d * d) (by omega) (by omega), w64 (x := n * q) (by omega) (by omega)]
   by_cases h : n * q / d * d = n * q
   ·rw [if_pos h, w64 (by omega) (by omega), hp, if_pos h]
   ·rw [if_neg h, hp, if_neg h]
  ·refine Ev.step (f := fun f => schismaref04_Neighbours.j2 f n d bound z.1 z.2 y.1 y.2 q p (decide (z.2 = 0 ∨ z.1 * q < p * z.2))) (fun f => ?_) ?_
   ·rw [schismaref04_Neighbours.j1, w64 (x := z.1 * q) (by omega) (by omega), w64 (x := p * z.2) (by omega) (by omega)]
    by_cases h : z.2 = 0
    ·rw [if_pos h, decide_eq_true (Or.inl h)]
    ·rw [if_neg h]
     congr 1
     exact decide_eq_decide.2 ⟨Or.inr, fun h2 => h2.resolve_left h⟩
   ·refine Ev.step (fun f => ?_) ih
    rw [schismaref04_Neighbours.j2, hfl]
    simp only [Option.bind_some, wp]
    rw [w64 (x := (n * q / d + 1) * y.2) (by omega) (by omega), w64 (x := y.1 * q) (by omega) (by omega), wq]
    by_cases h1 : z.2 = 0 ∨ z.1 * q < p * z.2
    ·rw [decide_eq_true h1, if_pos rfl, if_pos h1]
     by_cases h2 : y.2 = 0
     ·rw [if_pos h2, if_pos (Or.inl h2)]
     ·rw [if_neg h2]
      by_cases h3 : (n * q / d + 1) * y.2 < y.1 * q
      ·rw [if_pos h3, if_pos (Or.inr h3)]
      ·rw [if_neg h3, if_neg (fun h => h.elim h2 h3)]
    ·rw [decide_eq_false h1, if_neg (by simp), if_neg h1]
     by_cases h2 : y.2 = 0
     ·rw [if_pos h2, if_pos (Or.inl h2)]
     ·rw [if_neg h2]
      by_cases h3 : (n * q / d + 1) * y.2 < y.1 * q
      ·rw [if_pos h3, if_pos (Or.inr h3)]
      ·rw [if_neg h3, if_neg (fun h => h.elim h2 h3)]
theorem RNeighbours {n d bound A B C E : Int} (hn : -10000000 ≤ n ∧ n ≤ 10000000) (hd : 0 < d ∧ d ≤ 10000000) (hb : 1 ≤ bound) (hb2 : bound ≤ 60) (hL : LowN n d bound A B) (hH : HighN n d bound C E) (g1 : Int.gcd A B = 1) (g2 : Int.gcd C E = 1) :
  Ev (fun f => schismaref04_Neighbours.f f n d bound) (T A, T B, T C, T E) := by
 obtain ⟨k, hk⟩ : ∃ k : Nat, bound = (k : Int) + 1 := ⟨(bound - 1).toNat, by omega⟩
 have l1 := goLow_first (n := n) hd.1 k
 have h1 := goHigh_first (n := n) hd.1 k
 rw [← hk] at l1 h1
 have hgo := RNb_go hn hd hb2 (k + 1) 1 (0, 0) (0, 0) (by omega) (by omega) (by simp) (by simp) (by have := l1.b1; omega) (by have := h1.b1; omega)
 unfold schismaref04_Neighbours.f
 have e1 := fr_eq (a := (goLow n d (0, 0) 1 (k + 1)).1) (b := (goLow n d (0, 0) 1 (k + 1)).2) (c := A) (e := B) (by have := l1.b1; omega) (by have := hL.b1; omega) (l1.same hL) g1
 have e2 := fr_eq (a := (goHigh n d (0, 0) 1 (k + 1)).1) (b := (goHigh n d (0, 0) 1 (k + 1)).2) (c := C) (e := E) (by have := h1.b1; omega) (by have := hH.b1; omega) (h1.same hH) g2
 rw [e1, e2] at hgo
 exact hgo
theorem Nb_err' {a b : ByteArray} {x e : Int} (h : Ev (fun k => convergent_bounded.f k a b x) e) (he : e ≠ 0) : Ev (fun k => convergent_Neighbours.f k a b x) (⟨#[]⟩, ⟨#[]⟩, ⟨#[]⟩, ⟨#[]⟩, e) := by
 unfold convergent_Neighbours.f
 exact Ev.bind h (Ev.congr (fun k => if_neg he) (ev_const fun _ => rfl))
theorem sd_true (a b : ByteArray) (x : Int) : Ev (fun k => schismalaw04_ConvergentSides.j0 k x true a b) true := by
 refine Ev.step (fun k => by rw [schismalaw04_ConvergentSides.j0, if_pos rfl]) ?_
 exact Ev.bind Known (ev_const fun _ => rfl)
theorem T_9 {i : Int} (h1 : -1000000000 < i) (h2 : i < 1000000000) : (T i).size ≤ 17 := by
 have : (T i).size ≤ 9 + 1 := T_size_le (by omega) (by omega)
 omega
theorem sd_false (a b : ByteArray) (x : Int) (ha : a.size ≤ 7) (hb : b.size ≤ 7) : Ev (fun k => schismalaw04_ConvergentSides.j0 k x false a b) true := by
 refine Ev.step (fun k => by rw [schismalaw04_ConvergentSides.j0, if_neg (by simp)]) ?_
 rcases said a b with ⟨n, d, rfl, rfl, hF⟩ | h
 ·have hn := T7 ha
  have hd := T7 hb
  have h0 := hF.1
  refine Ev.bind (Parts_yes (by omega) (by omega) hF) ?_
  simp only
  have bad : (x < 1 ∨ 1000000 < x) → Ev (fun k => schismalaw04_ConvergentSides.j1 k x n d true false (T n) (T d)) true := fun hx => by
   have hbr := Bounded_range' (n := n) (d := d) (x := x) (by unfold S17; omega) (by unfold S17; omega) hF hx
   refine Ev.step (fun k => by rw [schismalaw04_ConvergentSides.j1, if_pos rfl, if_neg (by simp)]) ?_
   refine Ev.step (fun k => by rw [schismalaw04_ConvergentSides.j2, if_neg (by simp)]) ?_
   refine Ev.bind (Nb_err' hbr (by omega)) (Ev.congr (fun k => if_pos rfl) ?_)
   refine ev_here 1 fun k => ?_
   rw [schismalaw04_ConvergentSides.j3, if_pos (by simp), if_pos rfl, none_empty]
   rfl
  by_cases h1 : x ≥ 1
  ·refine Ev.congr (fun k => if_pos h1) ?_
   by_cases h2 : x ≤ 1000000
   ·rw [decide_eq_true h2]
    refine Ev.step (fun k => by rw [schismalaw04_ConvergentSides.j1, if_pos rfl, if_pos rfl]) ?_
    by_cases h3 : x > 60
    ·rw [decide_eq_true h3]
     exact ev_here 1 fun k => by rw [schismalaw04_ConvergentSides.j2, if_pos rfl]
    ·rw [decide_eq_false h3]
     refine Ev.step (fun k => by rw [schismalaw04_ConvergentSides.j2, if_neg (by simp)]) ?_
     obtain ⟨ts, hts, hl⟩ := cf_small (n := n) h0 (show d < 10000000000000 by omega)
     obtain ⟨A, B, C, E, hNb, hL, hH, g1, g2, hdet, bA, bC⟩ := Neighbours_T hn.1 hn.2 hF hd.2 h1 (by omega) hts hl
     have hB1 := hL.b1
     have hB2 := hL.b2
     have hE1 := hH.b1
     have hE2 := hH.b2
     refine Ev.bind hNb (Ev.congr (fun k => if_pos rfl) ?_)
     refine Ev.step (fun k => by rw [schismalaw04_ConvergentSides.j3, if_neg (by simp)]) ?_
     refine Ev.bind (RNeighbours (n := n) (d := d) (by omega) (by omega) h1 (by omega) hL hH g1 g2) ?_
     refine Ev.congr (fun k => by rw [if_neg (by simp), if_neg (by simp)]) ?_
     refine Ev.step (fun k => by rw [schismalaw04_ConvergentSides.j4, if_neg (by simp)]) ?_
     refine Ev.bind (Parts_yes (T_9 bA.1 bA.2) (T_9 (i := B) (by omega) (by omega)) ⟨by omega, g1⟩) (Ev.bind (Parts_yes (T_9 bC.1 bC.2) (T_9 (i := E) (by omega) (by omega)) ⟨by omega, g2⟩) ?_)
     by_cases hdx : d ≤ x
     ·exact Ev.congr (fun k => if_pos hdx) (ev_const fun _ => rfl)
     ·refine Ev.congr (fun k => if_neg hdx) (ev_const fun _ => ?_)
      have m1 := mulb (x := B) (y := C) (a := 60) (b := 1000000000) (by omega) (by omega) (by decide) (by decide)
      have m2 := mulb (x := A) (y := E) (a := 1000000000) (b := 60) (by omega) (by omega) (by decide) (by decide)
      have hd1 := (hdet (by omega)).det
      simp only
      rw [w64 (x := B * C) (by omega) (by omega), w64 (x := A * E) (by omega) (by omega), w64 (x := B * C - A * E) (by omega) (by omega), hd1]
      rfl
   ·rw [decide_eq_false h2]
    exact bad (.inr (by omega))
  ·exact Ev.congr (fun k => if_neg h1) (bad (.inl (by omega)))
 ·refine Ev.bind (Parts_no (by omega) (by omega) h) ?_
  simp only
  have bad : ∀ f, Ev (fun k => schismalaw04_ConvergentSides.j1 k x 0 0 false f a b) true := fun f => by
   have hbr := Bounded_wrong' (x := x) (show a.size ≤ 17 by omega) (show b.size ≤ 17 by omega) h
   refine Ev.step (fun k => by rw [schismalaw04_ConvergentSides.j1, if_neg (by simp)]) ?_
   refine Ev.step (fun k => by rw [schismalaw04_ConvergentSides.j2, if_neg (by simp)]) ?_
   refine Ev.bind (Nb_err' hbr (by omega)) (Ev.congr (fun k => if_neg (by simp)) ?_)
   refine ev_here 1 fun k => ?_
   rw [schismalaw04_ConvergentSides.j3, if_pos rfl, if_neg (by simp), none_empty]
   rfl
  by_cases h1 : x ≥ 1
  ·exact Ev.congr (fun k => if_pos h1) (bad _)
  ·exact Ev.congr (fun k => if_neg h1) (bad _)
theorem ConvergentSides_true (a b : ByteArray) (x : Int) (_ : (Lit.int .i64 x).wf = true) : ∃ k, schismalaw04_ConvergentSides.f k a b x = some true := by
 refine Ev.rounds (g := fun k => schismalaw04_ConvergentSides.f k a b x) ?_
 unfold schismalaw04_ConvergentSides.f
 refine Ev.bind Known (Ev.congr (fun k => if_pos rfl) ?_)
 refine Ev.bind (ev_const fun _ => small_eq a b) ?_
 by_cases h : a.size ≤ 7 ∧ b.size ≤ 7
 ·rw [decide_eq_true h]; exact sd_false a b x h.1 h.2
 ·rw [decide_eq_false h]; exact sd_true a b x
end Go.Proofs.YtidajgkepdkcbaaGreatDoor
end
