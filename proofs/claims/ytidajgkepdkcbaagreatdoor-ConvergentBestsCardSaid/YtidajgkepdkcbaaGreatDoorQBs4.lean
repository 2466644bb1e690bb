/- A part of the proof in QBs5. -/
import Derived.Test.YtidajgkepdkcbaaGreatDoorQBs3
set_option linter.unusedVariables false
set_option linter.unusedSimpArgs false
section
namespace Go.Proofs.YtidajgkepdkcbaaGreatDoor.PL
open Go.RowKit Go.Proofs.YtidajgkepdkcbaaGreatDoorW.PrintWords Go.Proofs.YtidajgkepdkcbaaGreatDoorW.PrintLast Go.Proofs.YtidajgkepdkcbaaGreatDoorW.PrintMore Go.Proofs.YtidajgkepdkcbaaGreatDoor.PF
attribute [local go_sem] max2_int min2_int max_two min_two max_three min_three max_four min_four
noncomputable def convergent_Nearest.f (k : Nat) (a0_0 : ByteArray) (a0_1 : ByteArray) (a1 : Int) : Option (ByteArray × ByteArray × Int) := (convergent_bounded.f k a0_0 a0_1 a1).bind fun t103 => (if t103 = 0 then ((whole_Of.f a1).bind fun t104 => ((whole_Compare.f a0_1 t104).bind fun t105 => (if t105 ≤ 0 then (some (a0_0, a0_1, 0)) else ((convergent_around.f a0_0 a0_1 a1).bind fun bt106 => ((convergent_distance.f k a0_0 a0_1 bt106.1 bt106.2.1).bind fun bt112 => ((convergent_distance.f k a0_0 a0_1 bt106.2.2.1 bt106.2.2.2).bind fun bt114 => ((fraction_Compare.f k bt112.1 bt112.2 bt114.1 bt114.2).bind fun t116 => (if t116 = 0 then ((whole_Compare.f bt106.2.1 bt106.2.2.2).bind fun t117 => (if t117 ≤ 0 then (some (bt106.1, bt106.2.1, 0)) else (some (bt106.2.2.1, bt106.2.2.2, 0)))) else (if t116 ≤ 0 then (some (bt106.1, bt106.2.1, 0)) else (some (bt106.2.2.1, bt106.2.2.2, 0))))))))))) else (some ((⟨#[]⟩ : ByteArray), (⟨#[]⟩ : ByteArray), t103)))
noncomputable def convergent_Nearest.T7 : Bool × List (List Nat × List Nat) := (true, [([], []), ([], []), ([0, 1], [0, 1]), ([], []), ([], []), ([3, 4, 2], [3, 4]), ([2, 5, 5], [2, 5]), ([6, 6, 0, 1, 2, 3, 4, 5, 6], [6])])
noncomputable def convergent_Nearest.B7 : List Nat := [0, 0, 3, 0, 0, 31, 63, 127]
theorem convergent_Nearest.tab7 : rtab .any (opsOf Tryz.f29 7) = convergent_Nearest.T7 := by kernel_rfl
theorem convergent_Nearest.bits7 : waitsOk convergent_Nearest.T7.2 convergent_Nearest.B7 = true := by kernel_rfl
set_option maxHeartbeats 8000000 in
set_option maxRecDepth 100000 in
theorem convergent_Nearest.calls (k : Nat) (a0_0 : ByteArray) (a0_1 : ByteArray) (a1 : Int) (r1 : ByteArray) (r2 : ByteArray) (r3 : Int) (w : World) (hG_ : GWorld w) (h : convergent_Nearest.f k a0_0 a0_1 a1 = some (r1, r2, r3)) :
  Calls Tryz.prog 29 #[.agg #[.string a0_0, .string a0_1], .int .i64 a1] w fun e w' => e = .returned (.tuple #[.agg #[.string r1, .string r2], .int .i64 r3]) ∧ Below w.heap.size w w' := by
 have hu24 := Tryz.underlying24
 have HB := Aside0.mk (Below.refl w.heap.size w)
 have HG := Aside0.mk hG_
 clear hG_
 have H : ((convergent_bounded.f k a0_0 a0_1 a1).bind fun t103 => (if t103 = 0 then ((whole_Of.f a1).bind fun t104 => ((whole_Compare.f a0_1 t104).bind fun t105 => (if t105 ≤ 0 then (some (a0_0, a0_1, 0)) else ((convergent_around.f a0_0 a0_1 a1).bind fun bt106 => ((convergent_distance.f k a0_0 a0_1 bt106.1 bt106.2.1).bind fun bt112 => ((convergent_distance.f k a0_0 a0_1 bt106.2.2.1 bt106.2.2.2).bind fun bt114 => ((fraction_Compare.f k bt112.1 bt112.2 bt114.1 bt114.2).bind fun t116 => (if t116 = 0 then ((whole_Compare.f bt106.2.1 bt106.2.2.2).bind fun t117 => (if t117 ≤ 0 then (some (bt106.1, bt106.2.1, 0)) else (some (bt106.2.2.1, bt106.2.2.2, 0)))) else (if t116 ≤ 0 then (some (bt106.1, bt106.2.1, 0)) else (some (bt106.2.2.1, bt106.2.2.2, 0))))))))))) else (some ((⟨#[]⟩ : ByteArray), (⟨#[]⟩ : ByteArray), t103)))) = some (r1, r2, r3) := h
 clear h
 replace H := Option.bind_eq_some_iff.mp H
 obtain ⟨t103, A30, H⟩ := H
 replace H : (if t103 = 0 then ((whole_Of.f a1).bind fun t104 => ((whole_Compare.f a0_1 t104).bind fun t105 => (if t105 ≤ 0 then (some (a0_0, a0_1, 0)) else ((convergent_around.f a0_0 a0_1 a1).bind fun bt106 => ((convergent_distance.f k a0_0 a0_1 bt106.1 bt106.2.1).bind fun bt112 => ((convergent_distance.f k a0_0 a0_1 bt106.2.2.1 bt106.2.2.2).bind fun bt114 => ((fraction_Compare.f k bt112.1 bt112.2 bt114.1 bt114.2).bind fun t116 => (if t116 = 0 then ((whole_Compare.f bt106.2.1 bt106.2.2.2).bind fun t117 => (if t117 ≤ 0 then (some (bt106.1, bt106.2.1, 0)) else (some (bt106.2.2.1, bt106.2.2.2, 0)))) else (if t116 ≤ 0 then (some (bt106.1, bt106.2.1, 0)) else (some (bt106.2.2.1, bt106.2.2.2, 0))))))))))) else (some ((⟨#[]⟩ : ByteArray), (⟨#[]⟩ : ByteArray), t103))) = some (r1, r2, r3) := H
 have A3 := Aside0.mk A30
 clear A30
 by_cases c4 : t103 = 0
 ·rw [if_pos c4] at H
  have c4b0 : (t103 == 0) = true := beq_iff_eq.mpr c4
  have c4b1 : (t103 != 0) = false := bne_eq_false_iff_eq.mpr c4
  clear c4
  replace H := Option.bind_eq_some_iff.mp H
  obtain ⟨t104, A50, H⟩ := H
  replace H : ((whole_Compare.f a0_1 t104).bind fun t105 => (if t105 ≤ 0 then (some (a0_0, a0_1, 0)) else ((convergent_around.f a0_0 a0_1 a1).bind fun bt106 => ((convergent_distance.f k a0_0 a0_1 bt106.1 bt106.2.1).bind fun bt112 => ((convergent_distance.f k a0_0 a0_1 bt106.2.2.1 bt106.2.2.2).bind fun bt114 => ((fraction_Compare.f k bt112.1 bt112.2 bt114.1 bt114.2).bind fun t116 => (if t116 = 0 then ((whole_Compare.f bt106.2.1 bt106.2.2.2).bind fun t117 => (if t117 ≤ 0 then (some (bt106.1, bt106.2.1, 0)) else (some (bt106.2.2.1, bt106.2.2.2, 0)))) else (if t116 ≤ 0 then (some (bt106.1, bt106.2.1, 0)) else (some (bt106.2.2.1, bt106.2.2.2, 0)))))))))) = some (r1, r2, r3) := H
  have A5 := Aside0.mk A50
  clear A50
  replace H := Option.bind_eq_some_iff.mp H
  obtain ⟨t105, A60, H⟩ := H
  replace H : (if t105 ≤ 0 then (some (a0_0, a0_1, 0)) else ((convergent_around.f a0_0 a0_1 a1).bind fun bt106 => ((convergent_distance.f k a0_0 a0_1 bt106.1 bt106.2.1).bind fun bt112 => ((convergent_distance.f k a0_0 a0_1 bt106.2.2.1 bt106.2.2.2).bind fun bt114 => ((fraction_Compare.f k bt112.1 bt112.2 bt114.1 bt114.2).bind fun t116 => (if t116 = 0 then ((whole_Compare.f bt106.2.1 bt106.2.2.2).bind fun t117 => (if t117 ≤ 0 then (some (bt106.1, bt106.2.1, 0)) else (some (bt106.2.2.1, bt106.2.2.2, 0)))) else (if t116 ≤ 0 then (some (bt106.1, bt106.2.1, 0)) else (some (bt106.2.2.1, bt106.2.2.2, 0))))))))) = some (r1, r2, r3) := H
  have A6 := Aside0.mk A60
  clear A60
  by_cases c7 : t105 ≤ 0
  ·rw [if_pos c7] at H
   have c7b0 : decide (t105 ≤ 0) = true := decide_eq_true c7
   clear c7
   simp only [Option.some.injEq, Prod.mk.injEq] at H
   obtain ⟨rfl, rfl, rfl⟩ := H
   go_enter Tryz.func29, Tryz.ntmps29
   try go_wp2_with (first | ((with_reducible refine gate_dst (N := 2) rfl ?_); refine bx_ 2 #[.string a0_0, .string a0_1] 24 ?_; clear HB; intro gb101 w8 BK101 GW101 HB; have GE101 := GW101) | ((with_reducible refine gate_dst (N := 4) rfl ?_); refine box_event ?hg (N := 4) ?hd (cs := #[.string (⟨#[]⟩ : ByteArray), .string (⟨#[]⟩ : ByteArray)]) (t := 24) ?hr ?_; (case hd => rfl); (case hg => rfl); (case hr => first | (go_simp; done) | (go_simp; rfl)); intro gb102 hg w9 hbox hb; have BK102 := Aside0.mk (hbox); have GW102 := ge_ (w := w) hg; have GE102 := ge_ (w := w) hg; replace HB := bs_ hb; have NB101_102 := nl_ hg BK101; have NB102_101 := ng_ hg BK101; replace BK101 := kb_ BK101 hb; clear hb hbox hg; have hnb10 := NB101_102.out; have hnc10 := NB102_101.out; obtain ⟨hcz11_0, hcz11_1, hfz11_0, hfz11_1⟩ := c2_ BK101) | ((with_reducible refine gate_callee (f := 51) rfl ?_); refine goesL_ (some 12) rfl rfl Tryz.func51 (by kernel_rfl) rfl #[.agg #[.string a0_0, .string a0_1], .int .i64 a1] rfl mp_ ?_; (with_reducible refine (convergent_bounded.calls k a0_0 a0_1 a1 t103 _ ?side1 A3.out).mono ?_); (case side1 => exact gw_ HG); rintro e w12 ⟨rfl, hb⟩; refine ⟨_, rfl, ?_⟩; replace BK101 := kb_ BK101 hb; replace BK102 := kb_ BK102 hb; replace HB := bs_ hb; (try clear hb); (try clear hb2); (try clear hk); (try clear hi)))
   have n0_ := Aside0.mk (blk_drew BK101.out)
   have n1_ := Aside0.mk (blk_drew BK102.out)
   have n2_ := Aside0.mk (below_drew1 HB.out)
   clear BK101
   clear BK102
   clear HB
   have BK101 := n0_
   have BK102 := n1_
   have HB := n2_
   clear n0_ n1_ n2_
   refine start_ (n := 6) (S := fun w' => w'.cell? ⟨gb101, 0, none⟩ = some (.string a0_0) ∧ w'.cell? ⟨gb101, 1, none⟩ = some (.string a0_1)) (ds := []) #[false, false, false, false, false, false] (by kernel_rfl) rfl rfl ⟨(blk_cell BK101.out 0).trans rfl, (blk_cell BK101.out 1).trans rfl⟩ (fun hHeld => ?_)
   generalize w12.drew = w13 at BK101 BK102 HB hHeld ⊢
   refine pure_ (i := 0) (N := some 17) (v := ?_) (a' := ?_) #[true, false, false, false, false, false] rfl rfl (by kernel_rfl) (fun _ _ _ h => h) (Or.inl ⟨by rfl, ?_⟩) ?_ ?_
   rotate_left
   ·intro w'
    go_simp
    with_reducible rfl
   rotate_left
   ·simp only [Act.put, List.setIfInBounds_toArray, List.set_cons_zero, List.set_cons_succ, i64_w, i32_w]
    rfl
   refine pure_ (i := 2) (N := some 19) (v := ?_) (a' := ?_) #[true, false, true, false, false, false] rfl rfl (by kernel_rfl) (fun _ _ _ h => h) (Or.inl ⟨by rfl, ?_⟩) ?_ ?_
   rotate_left
   ·intro w'
    go_simp
    with_reducible rfl
   rotate_left
   ·simp only [Act.put, List.setIfInBounds_toArray, List.set_cons_zero, List.set_cons_succ, i64_w, i32_w]
    rfl
   refine take_ (i := 1) (N := some 18) (v := ?_) (a' := ?_) #[true, true, true, false, false, false] rfl rfl (by kernel_rfl) (fun _ _ _ h => h) (Or.inl ⟨by rfl, ?_⟩) hHeld ?_ ?_
   rotate_left
   ·rintro w' ⟨s0, s1⟩
    go_simp
    with_reducible rfl
   rotate_left
   ·simp only [Act.put, List.setIfInBounds_toArray, List.set_cons_zero, List.set_cons_succ, i64_w, i32_w]
    rfl
   refine one_ (i := 3) (N := some 20) #[true, true, true, true, false, false] rfl rfl (by kernel_rfl) (by decide) (fun K hK => ?_)
   refine goes_ Tryz.func59 (by kernel_rfl) rfl #[.int .i64 a1] (by rfl) rfl rfl mp_ ?_
   with_reducible refine (whole_Of.calls a1 t104 _ ?side1 A5.out).mono ?_
   (case side1 => exact gw_ HG)
   rintro e w14 ⟨rfl, hb⟩
   refine ⟨_, rfl, ?_⟩
   have n0_ := kb_ BK101 hb
   have n1_ := kb_ BK102 hb
   have n2_ := bs_ hb
   clear BK101
   clear BK102
   clear HB
   have BK101 := n0_
   have BK102 := n1_
   have HB := n2_
   clear n0_ n1_ n2_
   (try clear hb); (try clear hb2); (try clear hk); (try clear hi)
   refine hK.out _ _ ⟨(blk_cell BK101.out 0).trans rfl, (blk_cell BK101.out 1).trans rfl⟩ (fun hHeld => ?_)
   clear hK K
   refine norm_ (a' := ?_) ?_ ?_
   rotate_left
   ·show Act.put _ (some 20) _ = _
    simp only [Act.put, List.setIfInBounds_toArray, List.set_cons_zero, List.set_cons_succ, i64_w, i32_w]
    rfl
   refine one_ (i := 4) (N := some 21) #[true, true, true, true, true, false] rfl rfl (by kernel_rfl) (by decide) (fun K hK => ?_)
   refine goes_ Tryz.func58 (by kernel_rfl) rfl #[.string a0_1, .string t104] (by rfl) rfl rfl mp_ ?_
   with_reducible refine (whole_Compare.calls a0_1 t104 t105 _ A6.out).mono ?_
   rintro e w15 ⟨rfl, hb⟩
   refine ⟨_, rfl, ?_⟩
   have n0_ := kb_ BK101 hb
   have n1_ := kb_ BK102 hb
   have n2_ := bs_ hb
   clear BK101
   clear BK102
   clear HB
   have BK101 := n0_
   have BK102 := n1_
   have HB := n2_
   clear n0_ n1_ n2_
   (try clear hb); (try clear hb2); (try clear hk); (try clear hi)
   refine hK.out _ _ ⟨(blk_cell BK101.out 0).trans rfl, (blk_cell BK101.out 1).trans rfl⟩ (fun hHeld => ?_)
   clear hK K
   refine norm_ (a' := ?_) ?_ ?_
   rotate_left
   ·show Act.put _ (some 21) _ = _
    simp only [Act.put, List.setIfInBounds_toArray, List.set_cons_zero, List.set_cons_succ, i64_w, i32_w]
    rfl
   refine pure_ (i := 5) (N := some 22) (v := ?_) (a' := ?_) #[true, true, true, true, true, true] rfl rfl (by kernel_rfl) (fun _ _ _ h => h) (Or.inl ⟨by rfl, ?_⟩) ?_ ?_
   rotate_left
   ·intro w'
    go_simp
    with_reducible rfl
   rotate_left
   ·simp only [Act.put, List.setIfInBounds_toArray, List.set_cons_zero, List.set_cons_succ, i64_w, i32_w]
    rfl
   refine done_ (by kernel_rfl) ?_
   have hcz16_0 : w15.cell? ⟨gb101, 0, none⟩ = some (.string a0_0) := (blk_cell BK101.out 0).trans rfl
   have hcz16_1 : w15.cell? ⟨gb101, 1, none⟩ = some (.string a0_1) := (blk_cell BK101.out 1).trans rfl
   have hfz16_0 := blk_frozen BK101.out 0
   have hfz16_1 := blk_frozen BK101.out 1
   have hcz17_0 : w15.cell? ⟨gb102, 0, none⟩ = some (.string (⟨#[]⟩ : ByteArray)) := (blk_cell BK102.out 0).trans rfl
   have hcz17_1 : w15.cell? ⟨gb102, 1, none⟩ = some (.string (⟨#[]⟩ : ByteArray)) := (blk_cell BK102.out 1).trans rfl
   have hfz17_0 := blk_frozen BK102.out 0
   have hfz17_1 := blk_frozen BK102.out 1
   try go_wp2
   refine bodyPost_ret (results_ct rfl _ _ gb102 24 #[.string a0_0, .string a0_1] (0, 0) _ rfl (by (with_reducible repeat (first | refine blk_drewN ?_ _ | refine blk_drew ?_ | refine blk_alloc ?_ _)); refine blk_put (cs := #[.string a0_0, .string (⟨#[]⟩ : ByteArray)]) ?_ 1 _ rfl; (with_reducible repeat (first | refine blk_drewN ?_ _ | refine blk_drew ?_ | refine blk_alloc ?_ _)); refine blk_put (cs := #[.string (⟨#[]⟩ : ByteArray), .string (⟨#[]⟩ : ByteArray)]) ?_ 0 _ rfl; (with_reducible repeat (first | refine blk_drewN ?_ _ | refine blk_drew ?_ | refine blk_alloc ?_ _)); exact BK102.out) Tryz.underlying24 rfl (by kernel_rfl)) rfl ?_
   exact ⟨er_, bl_⟩
  ·rw [if_neg c7] at H
   have c7b0 : decide (t105 ≤ 0) = false := decide_eq_false c7
   clear c7
   replace H := Option.bind_eq_some_iff.mp H
   obtain ⟨⟨t106, t107, t108, t109⟩, A180, H⟩ := H
   replace H : ((convergent_distance.f k a0_0 a0_1 t106 t107).bind fun bt112 => ((convergent_distance.f k a0_0 a0_1 t108 t109).bind fun bt114 => ((fraction_Compare.f k bt112.1 bt112.2 bt114.1 bt114.2).bind fun t116 => (if t116 = 0 then ((whole_Compare.f t107 t109).bind fun t117 => (if t117 ≤ 0 then (some (t106, t107, 0)) else (some (t108, t109, 0)))) else (if t116 ≤ 0 then (some (t106, t107, 0)) else (some (t108, t109, 0))))))) = some (r1, r2, r3) := H
   have A18 := Aside0.mk A180
   clear A180
   replace H := Option.bind_eq_some_iff.mp H
   obtain ⟨⟨t112, t113⟩, A190, H⟩ := H
   replace H : ((convergent_distance.f k a0_0 a0_1 t108 t109).bind fun bt114 => ((fraction_Compare.f k t112 t113 bt114.1 bt114.2).bind fun t116 => (if t116 = 0 then ((whole_Compare.f t107 t109).bind fun t117 => (if t117 ≤ 0 then (some (t106, t107, 0)) else (some (t108, t109, 0)))) else (if t116 ≤ 0 then (some (t106, t107, 0)) else (some (t108, t109, 0)))))) = some (r1, r2, r3) := H
   have A19 := Aside0.mk A190
   clear A190
   replace H := Option.bind_eq_some_iff.mp H
   obtain ⟨⟨t114, t115⟩, A200, H⟩ := H
   replace H : ((fraction_Compare.f k t112 t113 t114 t115).bind fun t116 => (if t116 = 0 then ((whole_Compare.f t107 t109).bind fun t117 => (if t117 ≤ 0 then (some (t106, t107, 0)) else (some (t108, t109, 0)))) else (if t116 ≤ 0 then (some (t106, t107, 0)) else (some (t108, t109, 0))))) = some (r1, r2, r3) := H
   have A20 := Aside0.mk A200
   clear A200
   replace H := Option.bind_eq_some_iff.mp H
   obtain ⟨t116, A210, H⟩ := H
   replace H : (if t116 = 0 then ((whole_Compare.f t107 t109).bind fun t117 => (if t117 ≤ 0 then (some (t106, t107, 0)) else (some (t108, t109, 0)))) else (if t116 ≤ 0 then (some (t106, t107, 0)) else (some (t108, t109, 0)))) = some (r1, r2, r3) := H
   have A21 := Aside0.mk A210
   clear A210
   by_cases c22 : t116 = 0
   ·rw [if_pos c22] at H
    have c22b0 : (t116 == 0) = true := beq_iff_eq.mpr c22
    have c22b1 : (t116 != 0) = false := bne_eq_false_iff_eq.mpr c22
    clear c22
    replace H := Option.bind_eq_some_iff.mp H
    obtain ⟨t117, A230, H⟩ := H
    replace H : (if t117 ≤ 0 then (some (t106, t107, 0)) else (some (t108, t109, 0))) = some (r1, r2, r3) := H
    have A23 := Aside0.mk A230
    clear A230
    by_cases c24 : t117 ≤ 0
    ·rw [if_pos c24] at H
     have c24b0 : decide (t117 ≤ 0) = true := decide_eq_true c24
     clear c24
     simp only [Option.some.injEq, Prod.mk.injEq] at H
     obtain ⟨rfl, rfl, rfl⟩ := H
     go_enter Tryz.func29, Tryz.ntmps29
     try go_wp2_with (first | ((with_reducible refine gate_dst (N := 2) rfl ?_); refine bx_ 2 #[.string a0_0, .string a0_1] 24 ?_; clear HB; intro gb101 w25 BK101 GW101 HB; have GE101 := GW101) | ((with_reducible refine gate_dst (N := 4) rfl ?_); refine box_event ?hg (N := 4) ?hd (cs := #[.string (⟨#[]⟩ : ByteArray), .string (⟨#[]⟩ : ByteArray)]) (t := 24) ?hr ?_; (case hd => rfl); (case hg => rfl); (case hr => first | (go_simp; done) | (go_simp; rfl)); intro gb102 hg w26 hbox hb; have BK102 := Aside0.mk (hbox); have GW102 := ge_ (w := w) hg; have GE102 := ge_ (w := w) hg; replace HB := bs_ hb; have NB101_102 := nl_ hg BK101; have NB102_101 := ng_ hg BK101; replace BK101 := kb_ BK101 hb; clear hb hbox hg; have hnb27 := NB101_102.out; have hnc27 := NB102_101.out; obtain ⟨hcz28_0, hcz28_1, hfz28_0, hfz28_1⟩ := c2_ BK101) | ((with_reducible refine gate_callee (f := 51) rfl ?_); refine goesL_ (some 12) rfl rfl Tryz.func51 (by kernel_rfl) rfl #[.agg #[.string a0_0, .string a0_1], .int .i64 a1] rfl mp_ ?_; (with_reducible refine (convergent_bounded.calls k a0_0 a0_1 a1 t103 _ ?side1 A3.out).mono ?_); (case side1 => exact gw_ HG); rintro e w29 ⟨rfl, hb⟩; refine ⟨_, rfl, ?_⟩; replace BK101 := kb_ BK101 hb; replace BK102 := kb_ BK102 hb; replace HB := bs_ hb; (try clear hb); (try clear hb2); (try clear hk); (try clear hi)))
     have n0_ := Aside0.mk (blk_drew BK101.out)
     have n1_ := Aside0.mk (blk_drew BK102.out)
     have n2_ := Aside0.mk (below_drew1 HB.out)
     clear BK101
     clear BK102
     clear HB
     have BK101 := n0_
     have BK102 := n1_
     have HB := n2_
     clear n0_ n1_ n2_
     refine start_ (n := 6) (S := fun w' => w'.cell? ⟨gb101, 0, none⟩ = some (.string a0_0) ∧ w'.cell? ⟨gb101, 1, none⟩ = some (.string a0_1)) (ds := []) #[false, false, false, false, false, false] (by kernel_rfl) rfl rfl ⟨(blk_cell BK101.out 0).trans rfl, (blk_cell BK101.out 1).trans rfl⟩ (fun hHeld => ?_)
     generalize w29.drew = w30 at BK101 BK102 HB hHeld ⊢
     refine pure_ (i := 0) (N := some 17) (v := ?_) (a' := ?_) #[true, false, false, false, false, false] rfl rfl (by kernel_rfl) (fun _ _ _ h => h) (Or.inl ⟨by rfl, ?_⟩) ?_ ?_
     rotate_left
     ·intro w'
      go_simp
      with_reducible rfl
     rotate_left
     ·simp only [Act.put, List.setIfInBounds_toArray, List.set_cons_zero, List.set_cons_succ, i64_w, i32_w]
      rfl
     refine pure_ (i := 2) (N := some 19) (v := ?_) (a' := ?_) #[true, false, true, false, false, false] rfl rfl (by kernel_rfl) (fun _ _ _ h => h) (Or.inl ⟨by rfl, ?_⟩) ?_ ?_
     rotate_left
     ·intro w'
      go_simp
      with_reducible rfl
     rotate_left
     ·simp only [Act.put, List.setIfInBounds_toArray, List.set_cons_zero, List.set_cons_succ, i64_w, i32_w]
      rfl
     refine take_ (i := 1) (N := some 18) (v := ?_) (a' := ?_) #[true, true, true, false, false, false] rfl rfl (by kernel_rfl) (fun _ _ _ h => h) (Or.inl ⟨by rfl, ?_⟩) hHeld ?_ ?_
     rotate_left
     ·rintro w' ⟨s0, s1⟩
      go_simp
      with_reducible rfl
     rotate_left
     ·simp only [Act.put, List.setIfInBounds_toArray, List.set_cons_zero, List.set_cons_succ, i64_w, i32_w]
      rfl
     refine one_ (i := 3) (N := some 20) #[true, true, true, true, false, false] rfl rfl (by kernel_rfl) (by decide) (fun K hK => ?_)
     refine goes_ Tryz.func59 (by kernel_rfl) rfl #[.int .i64 a1] (by rfl) rfl rfl mp_ ?_
     with_reducible refine (whole_Of.calls a1 t104 _ ?side1 A5.out).mono ?_
     (case side1 => exact gw_ HG)
     rintro e w31 ⟨rfl, hb⟩
     refine ⟨_, rfl, ?_⟩
     have n0_ := kb_ BK101 hb
     have n1_ := kb_ BK102 hb
     have n2_ := bs_ hb
     clear BK101
     clear BK102
     clear HB
     have BK101 := n0_
     have BK102 := n1_
     have HB := n2_
     clear n0_ n1_ n2_
     (try clear hb); (try clear hb2); (try clear hk); (try clear hi)
     refine hK.out _ _ ⟨(blk_cell BK101.out 0).trans rfl, (blk_cell BK101.out 1).trans rfl⟩ (fun hHeld => ?_)
     clear hK K
     refine norm_ (a' := ?_) ?_ ?_
     rotate_left
     ·show Act.put _ (some 20) _ = _
      simp only [Act.put, List.setIfInBounds_toArray, List.set_cons_zero, List.set_cons_succ, i64_w, i32_w]
      rfl
     refine one_ (i := 4) (N := some 21) #[true, true, true, true, true, false] rfl rfl (by kernel_rfl) (by decide) (fun K hK => ?_)
     refine goes_ Tryz.func58 (by kernel_rfl) rfl #[.string a0_1, .string t104] (by rfl) rfl rfl mp_ ?_
     with_reducible refine (whole_Compare.calls a0_1 t104 t105 _ A6.out).mono ?_
     rintro e w32 ⟨rfl, hb⟩
     refine ⟨_, rfl, ?_⟩
     have n0_ := kb_ BK101 hb
     have n1_ := kb_ BK102 hb
     have n2_ := bs_ hb
     clear BK101
     clear BK102
     clear HB
     have BK101 := n0_
     have BK102 := n1_
     have HB := n2_
     clear n0_ n1_ n2_
     (try clear hb); (try clear hb2); (try clear hk); (try clear hi)
     refine hK.out _ _ ⟨(blk_cell BK101.out 0).trans rfl, (blk_cell BK101.out 1).trans rfl⟩ (fun hHeld => ?_)
     clear hK K
     refine norm_ (a' := ?_) ?_ ?_
     rotate_left
     ·show Act.put _ (some 21) _ = _
      simp only [Act.put, List.setIfInBounds_toArray, List.set_cons_zero, List.set_cons_succ, i64_w, i32_w]
      rfl
     refine pure_ (i := 5) (N := some 22) (v := ?_) (a' := ?_) #[true, true, true, true, true, true] rfl rfl (by kernel_rfl) (fun _ _ _ h => h) (Or.inl ⟨by rfl, ?_⟩) ?_ ?_
     rotate_left
     ·intro w'
      go_simp
      with_reducible rfl
     rotate_left
     ·simp only [Act.put, List.setIfInBounds_toArray, List.set_cons_zero, List.set_cons_succ, i64_w, i32_w]
      rfl
     refine done_ (by kernel_rfl) ?_
     have hcz33_0 : w32.cell? ⟨gb101, 0, none⟩ = some (.string a0_0) := (blk_cell BK101.out 0).trans rfl
     have hcz33_1 : w32.cell? ⟨gb101, 1, none⟩ = some (.string a0_1) := (blk_cell BK101.out 1).trans rfl
     have hfz33_0 := blk_frozen BK101.out 0
     have hfz33_1 := blk_frozen BK101.out 1
     try go_wp2_with (first | ((with_reducible refine gate_callee (f := 60) rfl ?_); refine goesL_ (some 27) rfl rfl Tryz.func60 (by kernel_rfl) rfl #[.agg #[.string a0_0, .string a0_1], .int .i64 a1] rfl mp_ ?_; (with_reducible refine (convergent_around.calls a0_0 a0_1 a1 t106 t107 t108 t109 _ ?side1 A18.out).mono ?_); (case side1 => exact gw_ HG); rintro e w34 ⟨rfl, hb⟩; refine ⟨_, rfl, ?_⟩; replace BK101 := kb_ BK101 hb; replace BK102 := kb_ BK102 hb; replace HB := bs_ hb; (try clear hb); (try clear hb2); (try clear hk); (try clear hi)) | ((with_reducible refine gate_dst (N := 7) rfl ?_); refine box_event ?hg (N := 7) ?hd (cs := #[.string (⟨#[]⟩ : ByteArray), .string (⟨#[]⟩ : ByteArray)]) (t := 24) ?hr ?_; (case hd => rfl); (case hg => rfl); (case hr => first | (go_simp; done) | (go_simp; rfl)); intro gb110 hg w35 hbox hb; have BK110 := Aside0.mk (hbox); have GW110 := ge_ (w := w) hg; have GE110 := ge_ (w := w) hg; replace HB := bs_ hb; have NB101_110 := nl_ hg BK101; have NB110_101 := ng_ hg BK101; replace BK101 := kb_ BK101 hb; have NB102_110 := nl_ hg BK102; have NB110_102 := ng_ hg BK102; replace BK102 := kb_ BK102 hb; clear hb hbox hg) | ((with_reducible refine gate_dst (N := 8) rfl ?_); refine box_event ?hg (N := 8) ?hd (cs := #[.string (⟨#[]⟩ : ByteArray), .string (⟨#[]⟩ : ByteArray)]) (t := 24) ?hr ?_; (case hd => rfl); (case hg => rfl); (case hr => first | (go_simp; done) | (go_simp; rfl)); intro gb111 hg w36 hbox hb; have BK111 := Aside0.mk (hbox); have GW111 := ge_ (w := w) hg; have GE111 := ge_ (w := w) hg; replace HB := bs_ hb; have NB101_111 := nl_ hg BK101; have NB111_101 := ng_ hg BK101; replace BK101 := kb_ BK101 hb; have NB102_111 := nl_ hg BK102; have NB111_102 := ng_ hg BK102; replace BK102 := kb_ BK102 hb; have NB110_111 := nl_ hg BK110; have NB111_110 := ng_ hg BK110; replace BK110 := kb_ BK110 hb; clear hb hbox hg; have hnb37 := NB110_101.out; have hnc37 := NB101_110.out; have hnb38 := NB110_102.out; have hnc38 := NB102_110.out; have hnb39 := NB110_111.out; have hnc39 := NB111_110.out; obtain ⟨hcz40_0, hcz40_1, hfz40_0, hfz40_1⟩ := c2_ BK110; have hnb41 := NB111_101.out; have hnc41 := NB101_111.out; have hnb42 := NB111_102.out; have hnc42 := NB102_111.out; obtain ⟨hcz43_0, hcz43_1, hfz43_0, hfz43_1⟩ := c2_ BK111))
     have n0_ : Aside0 (((((w36.setCell ⟨gb110, 0, none⟩ (.string t106)).setCell ⟨gb110, 1, none⟩ (.string t107)).setCell ⟨gb111, 0, none⟩ (.string t108)).setCell ⟨gb111, 1, none⟩ (.string t109)).heap[gb101]? = some (.cells #[.string a0_0, .string a0_1] 24 (0, 0))) := ⟨by (with_reducible repeat (first | refine blk_drewN ?_ _ | refine blk_drew ?_ | refine blk_alloc ?_ _)); refine blk_far ?_ NB101_111.out _; (with_reducible repeat (first | refine blk_drewN ?_ _ | refine blk_drew ?_ | refine blk_alloc ?_ _)); refine blk_far ?_ NB101_111.out _; (with_reducible repeat (first | refine blk_drewN ?_ _ | refine blk_drew ?_ | refine blk_alloc ?_ _)); refine blk_far ?_ NB101_110.out _; (with_reducible repeat (first | refine blk_drewN ?_ _ | refine blk_drew ?_ | refine blk_alloc ?_ _)); refine blk_far ?_ NB101_110.out _; (with_reducible repeat (first | refine blk_drewN ?_ _ | refine blk_drew ?_ | refine blk_alloc ?_ _)); exact BK101.out⟩
     have n1_ : Aside0 (((((w36.setCell ⟨gb110, 0, none⟩ (.string t106)).setCell ⟨gb110, 1, none⟩ (.string t107)).setCell ⟨gb111, 0, none⟩ (.string t108)).setCell ⟨gb111, 1, none⟩ (.string t109)).heap[gb102]? = some (.cells #[.string (⟨#[]⟩ : ByteArray), .string (⟨#[]⟩ : ByteArray)] 24 (0, 0))) := ⟨by (with_reducible repeat (first | refine blk_drewN ?_ _ | refine blk_drew ?_ | refine blk_alloc ?_ _)); refine blk_far ?_ NB102_111.out _; (with_reducible repeat (first | refine blk_drewN ?_ _ | refine blk_drew ?_ | refine blk_alloc ?_ _)); refine blk_far ?_ NB102_111.out _; (with_reducible repeat (first | refine blk_drewN ?_ _ | refine blk_drew ?_ | refine blk_alloc ?_ _)); refine blk_far ?_ NB102_110.out _; (with_reducible repeat (first | refine blk_drewN ?_ _ | refine blk_drew ?_ | refine blk_alloc ?_ _)); refine blk_far ?_ NB102_110.out _; (with_reducible repeat (first | refine blk_drewN ?_ _ | refine blk_drew ?_ | refine blk_alloc ?_ _)); exact BK102.out⟩
     have n2_ : Aside0 (((((w36.setCell ⟨gb110, 0, none⟩ (.string t106)).setCell ⟨gb110, 1, none⟩ (.string t107)).setCell ⟨gb111, 0, none⟩ (.string t108)).setCell ⟨gb111, 1, none⟩ (.string t109)).heap[gb110]? = some (.cells #[.string t106, .string t107] 24 (0, 0))) := ⟨by (with_reducible repeat (first | refine blk_drewN ?_ _ | refine blk_drew ?_ | refine blk_alloc ?_ _)); refine blk_far ?_ NB110_111.out _; (with_reducible repeat (first | refine blk_drewN ?_ _ | refine blk_drew ?_ | refine blk_alloc ?_ _)); refine blk_far ?_ NB110_111.out _; (with_reducible repeat (first | refine blk_drewN ?_ _ | refine blk_drew ?_ | refine blk_alloc ?_ _)); refine blk_put (cs := #[.string t106, .string (⟨#[]⟩ : ByteArray)]) ?_ 1 _ rfl; (with_reducible repeat (first | refine blk_drewN ?_ _ | refine blk_drew ?_ | refine blk_alloc ?_ _)); refine blk_put (cs := #[.string (⟨#[]⟩ : ByteArray), .string (⟨#[]⟩ : ByteArray)]) ?_ 0 _ rfl; (with_reducible repeat (first | refine blk_drewN ?_ _ | refine blk_drew ?_ | refine blk_alloc ?_ _)); exact BK110.out⟩
     have n3_ : Aside0 (((((w36.setCell ⟨gb110, 0, none⟩ (.string t106)).setCell ⟨gb110, 1, none⟩ (.string t107)).setCell ⟨gb111, 0, none⟩ (.string t108)).setCell ⟨gb111, 1, none⟩ (.string t109)).heap[gb111]? = some (.cells #[.string t108, .string t109] 24 (0, 0))) := ⟨by (with_reducible repeat (first | refine blk_drewN ?_ _ | refine blk_drew ?_ | refine blk_alloc ?_ _)); refine blk_put (cs := #[.string t108, .string (⟨#[]⟩ : ByteArray)]) ?_ 1 _ rfl; (with_reducible repeat (first | refine blk_drewN ?_ _ | refine blk_drew ?_ | refine blk_alloc ?_ _)); refine blk_put (cs := #[.string (⟨#[]⟩ : ByteArray), .string (⟨#[]⟩ : ByteArray)]) ?_ 0 _ rfl; (with_reducible repeat (first | refine blk_drewN ?_ _ | refine blk_drew ?_ | refine blk_alloc ?_ _)); refine blk_far ?_ NB111_110.out _; (with_reducible repeat (first | refine blk_drewN ?_ _ | refine blk_drew ?_ | refine blk_alloc ?_ _)); refine blk_far ?_ NB111_110.out _; (with_reducible repeat (first | refine blk_drewN ?_ _ | refine blk_drew ?_ | refine blk_alloc ?_ _)); exact BK111.out⟩
     have n4_ : Aside0 (Below w.heap.size w ((((w36.setCell ⟨gb110, 0, none⟩ (.string t106)).setCell ⟨gb110, 1, none⟩ (.string t107)).setCell ⟨gb111, 0, none⟩ (.string t108)).setCell ⟨gb111, 1, none⟩ (.string t109))) := ⟨bl_⟩
     (try clear BK101); (try clear BK102); (try clear BK110); (try clear BK111); (try clear HB)
     generalize ((((w36.setCell ⟨gb110, 0, none⟩ (.string t106)).setCell ⟨gb110, 1, none⟩ (.string t107)).setCell ⟨gb111, 0, none⟩ (.string t108)).setCell ⟨gb111, 1, none⟩ (.string t109)) = w44 at n0_ n1_ n2_ n3_ n4_ ⊢
     have BK101 := n0_
     have BK102 := n1_
     have BK110 := n2_
     have BK111 := n3_
     have HB := n4_
     clear n0_ n1_ n2_ n3_ n4_
     have n0_ := Aside0.mk (blk_drew BK101.out)
     have n1_ := Aside0.mk (blk_drew BK102.out)
     have n2_ := Aside0.mk (blk_drew BK110.out)
     have n3_ := Aside0.mk (blk_drew BK111.out)
     have n4_ := Aside0.mk (below_drew1 HB.out)
     clear BK101
     clear BK102
     clear BK110
     clear BK111
     clear HB
     have BK101 := n0_
     have BK102 := n1_
     have BK110 := n2_
     have BK111 := n3_
     have HB := n4_
     clear n0_ n1_ n2_ n3_ n4_
     refine start_ (n := 8) (S := fun w' => w'.cell? ⟨gb101, 0, none⟩ = some (.string a0_0) ∧ w'.cell? ⟨gb101, 1, none⟩ = some (.string a0_1) ∧ w'.cell? ⟨gb110, 0, none⟩ = some (.string t106) ∧ w'.cell? ⟨gb110, 1, none⟩ = some (.string t107) ∧ w'.cell? ⟨gb111, 0, none⟩ = some (.string t108) ∧ w'.cell? ⟨gb111, 1, none⟩ = some (.string t109)) (ds := []) #[false, false, false, false, false, false, false, false] (by kernel_rfl) rfl rfl ⟨(blk_cell BK101.out 0).trans rfl, (blk_cell BK101.out 1).trans rfl, (blk_cell BK110.out 0).trans rfl, (blk_cell BK110.out 1).trans rfl, (blk_cell BK111.out 0).trans rfl, (blk_cell BK111.out 1).trans rfl⟩ (fun hHeld => ?_); refine with_tabW convergent_Nearest.tab7 convergent_Nearest.bits7 (fun HT_ HW_ => ?_)
     generalize w44.drew = w45 at BK101 BK102 BK110 BK111 HB hHeld ⊢
     refine take_ (i := 0) (N := some 30) (v := ?_) (a' := ?_) #[true, false, false, false, false, false, false, false] rfl rfl (take_ofW HT_.out HW_.out (by kernel_rfl)) (fun _ _ _ h => h) (Or.inl ⟨by rfl, ?_⟩) hHeld ?_ ?_
     rotate_left
     ·rintro w' ⟨s0, s1, s2, s3, s4, s5⟩
      go_simp
      with_reducible rfl
     rotate_left
     ·simp only [Act.put, List.setIfInBounds_toArray, List.set_cons_zero, List.set_cons_succ, i64_w, i32_w]
      rfl
     refine take_ (i := 1) (N := some 31) (v := ?_) (a' := ?_) #[true, true, false, false, false, false, false, false] rfl rfl (take_ofW HT_.out HW_.out (by kernel_rfl)) (fun _ _ _ h => h) (Or.inl ⟨by rfl, ?_⟩) hHeld ?_ ?_
     rotate_left
     ·rintro w' ⟨s0, s1, s2, s3, s4, s5⟩
      go_simp
      with_reducible rfl
     rotate_left
     ·simp only [Act.put, List.setIfInBounds_toArray, List.set_cons_zero, List.set_cons_succ, i64_w, i32_w]
      rfl
     refine take_ (i := 3) (N := some 33) (v := ?_) (a' := ?_) #[true, true, false, true, false, false, false, false] rfl rfl (take_ofW HT_.out HW_.out (by kernel_rfl)) (fun _ _ _ h => h) (Or.inl ⟨by rfl, ?_⟩) hHeld ?_ ?_
     rotate_left
     ·rintro w' ⟨s0, s1, s2, s3, s4, s5⟩
      go_simp
      with_reducible rfl
     rotate_left
     ·simp only [Act.put, List.setIfInBounds_toArray, List.set_cons_zero, List.set_cons_succ, i64_w, i32_w]
      rfl
     refine take_ (i := 4) (N := some 34) (v := ?_) (a' := ?_) #[true, true, false, true, true, false, false, false] rfl rfl (take_ofW HT_.out HW_.out (by kernel_rfl)) (fun _ _ _ h => h) (Or.inl ⟨by rfl, ?_⟩) hHeld ?_ ?_
     rotate_left
     ·rintro w' ⟨s0, s1, s2, s3, s4, s5⟩
      go_simp
      with_reducible rfl
     rotate_left
     ·simp only [Act.put, List.setIfInBounds_toArray, List.set_cons_zero, List.set_cons_succ, i64_w, i32_w]
      rfl
     refine one_ (i := 2) (N := some 32) #[true, true, true, true, true, false, false, false] rfl rfl (one_of HT_.out (by kernel_rfl)) (by decide) (fun K hK => ?_)
     refine goes_ Tryz.func57 (by kernel_rfl) rfl #[.agg #[.string a0_0, .string a0_1], .agg #[.string t106, .string t107]] (by rfl) rfl rfl mp_ ?_
     with_reducible refine (convergent_distance.calls k a0_0 a0_1 t106 t107 t112 t113 _ ?side1 A19.out).mono ?_
     (case side1 => exact gw_ HG)
     rintro e w46 ⟨rfl, hb⟩
     refine ⟨_, rfl, ?_⟩
     have n0_ := kb_ BK101 hb
     have n1_ := kb_ BK102 hb
     have n2_ := kb_ BK110 hb
     have n3_ := kb_ BK111 hb
     have n4_ := bs_ hb
     clear BK101
     clear BK102
     clear BK110
     clear BK111
     clear HB
     have BK101 := n0_
     have BK102 := n1_
     have BK110 := n2_
     have BK111 := n3_
     have HB := n4_
     clear n0_ n1_ n2_ n3_ n4_
     (try clear hb); (try clear hb2); (try clear hk); (try clear hi)
     refine hK.out _ _ ⟨(blk_cell BK101.out 0).trans rfl, (blk_cell BK101.out 1).trans rfl, (blk_cell BK110.out 0).trans rfl, (blk_cell BK110.out 1).trans rfl, (blk_cell BK111.out 0).trans rfl, (blk_cell BK111.out 1).trans rfl⟩ (fun hHeld => ?_)
     clear hK K
     refine norm_ (a' := ?_) ?_ ?_
     rotate_left
     ·show Act.put _ (some 32) _ = _
      simp only [Act.put, List.setIfInBounds_toArray, List.set_cons_zero, List.set_cons_succ, i64_w, i32_w]
      rfl
     refine one_ (i := 5) (N := some 35) #[true, true, true, true, true, true, false, false] rfl rfl (one_of HT_.out (by kernel_rfl)) (by decide) (fun K hK => ?_)
     refine goes_ Tryz.func57 (by kernel_rfl) rfl #[.agg #[.string a0_0, .string a0_1], .agg #[.string t108, .string t109]] (by rfl) rfl rfl mp_ ?_
     with_reducible refine (convergent_distance.calls k a0_0 a0_1 t108 t109 t114 t115 _ ?side1 A20.out).mono ?_
     (case side1 => exact gw_ HG)
     rintro e w47 ⟨rfl, hb⟩
     refine ⟨_, rfl, ?_⟩
     have n0_ := kb_ BK101 hb
     have n1_ := kb_ BK102 hb
     have n2_ := kb_ BK110 hb
     have n3_ := kb_ BK111 hb
     have n4_ := bs_ hb
     clear BK101
     clear BK102
     clear BK110
     clear BK111
     clear HB
     have BK101 := n0_
     have BK102 := n1_
     have BK110 := n2_
     have BK111 := n3_
     have HB := n4_
     clear n0_ n1_ n2_ n3_ n4_
     (try clear hb); (try clear hb2); (try clear hk); (try clear hi)
     refine hK.out _ _ ⟨(blk_cell BK101.out 0).trans rfl, (blk_cell BK101.out 1).trans rfl, (blk_cell BK110.out 0).trans rfl, (blk_cell BK110.out 1).trans rfl, (blk_cell BK111.out 0).trans rfl, (blk_cell BK111.out 1).trans rfl⟩ (fun hHeld => ?_)
     clear hK K
     refine norm_ (a' := ?_) ?_ ?_
     rotate_left
     ·show Act.put _ (some 35) _ = _
      simp only [Act.put, List.setIfInBounds_toArray, List.set_cons_zero, List.set_cons_succ, i64_w, i32_w]
      rfl
     refine one_ (i := 6) (N := some 36) #[true, true, true, true, true, true, true, false] rfl rfl (one_of HT_.out (by kernel_rfl)) (by decide) (fun K hK => ?_)
     refine goes_ Tryz.func56 (by kernel_rfl) rfl #[.agg #[.string t112, .string t113], .agg #[.string t114, .string t115]] (by rfl) rfl rfl mp_ ?_
     with_reducible refine (fraction_Compare.calls k t112 t113 t114 t115 t116 _ ?side1 A21.out).mono ?_
     (case side1 => exact gw_ HG)
     rintro e w48 ⟨rfl, hb⟩
     refine ⟨_, rfl, ?_⟩
     have n0_ := kb_ BK101 hb
     have n1_ := kb_ BK102 hb
     have n2_ := kb_ BK110 hb
     have n3_ := kb_ BK111 hb
     have n4_ := bs_ hb
     clear BK101
     clear BK102
     clear BK110
     clear BK111
     clear HB
     have BK101 := n0_
     have BK102 := n1_
     have BK110 := n2_
     have BK111 := n3_
     have HB := n4_
     clear n0_ n1_ n2_ n3_ n4_
     (try clear hb); (try clear hb2); (try clear hk); (try clear hi)
     refine hK.out _ _ ⟨(blk_cell BK101.out 0).trans rfl, (blk_cell BK101.out 1).trans rfl, (blk_cell BK110.out 0).trans rfl, (blk_cell BK110.out 1).trans rfl, (blk_cell BK111.out 0).trans rfl, (blk_cell BK111.out 1).trans rfl⟩ (fun hHeld => ?_)
     clear hK K
     refine norm_ (a' := ?_) ?_ ?_
     rotate_left
     ·show Act.put _ (some 36) _ = _
      simp only [Act.put, List.setIfInBounds_toArray, List.set_cons_zero, List.set_cons_succ, i64_w, i32_w]
      rfl
     refine pure_ (i := 7) (N := some 9) (v := ?_) (a' := ?_) #[true, true, true, true, true, true, true, true] rfl rfl (any_of HT_.out (by kernel_rfl)) (fun _ _ _ h => h) (Or.inl ⟨by rfl, ?_⟩) ?_ ?_
     rotate_left
     ·intro w'
      go_simp
      with_reducible rfl
     rotate_left
     ·simp only [Act.put, List.setIfInBounds_toArray, List.set_cons_zero, List.set_cons_succ, i64_w, i32_w]
      rfl
     refine done_ (done_of HT_.out (by kernel_rfl)) ?_
     have hcz49_0 : w48.cell? ⟨gb110, 0, none⟩ = some (.string t106) := (blk_cell BK110.out 0).trans rfl
     have hcz49_1 : w48.cell? ⟨gb110, 1, none⟩ = some (.string t107) := (blk_cell BK110.out 1).trans rfl
     have hfz49_0 := blk_frozen BK110.out 0
     have hfz49_1 := blk_frozen BK110.out 1
     have hcz50_0 : w48.cell? ⟨gb111, 0, none⟩ = some (.string t108) := (blk_cell BK111.out 0).trans rfl
     have hcz50_1 : w48.cell? ⟨gb111, 1, none⟩ = some (.string t109) := (blk_cell BK111.out 1).trans rfl
     have hfz50_0 := blk_frozen BK111.out 0
     have hfz50_1 := blk_frozen BK111.out 1
     try go_wp2_with (first | ((with_reducible refine gate_callee (f := 58) rfl ?_); refine goesL_ (some 43) rfl rfl Tryz.func58 (by kernel_rfl) rfl #[.string t107, .string t109] rfl mp_ ?_; (with_reducible refine (whole_Compare.calls t107 t109 t117 _ A23.out).mono ?_); rintro e w51 ⟨rfl, hb⟩; refine ⟨_, rfl, ?_⟩; replace BK101 := kb_ BK101 hb; replace BK102 := kb_ BK102 hb; replace BK110 := kb_ BK110 hb; replace BK111 := kb_ BK111 hb; replace HB := bs_ hb; (try clear hb); (try clear hb2); (try clear hk); (try clear hi); obtain ⟨hcz52_0, hcz52_1, hfz52_0, hfz52_1⟩ := c2_ BK110; obtain ⟨hcz53_0, hcz53_1, hfz53_0, hfz53_1⟩ := c2_ BK102))
     refine bodyPost_ret (results_ct rfl _ _ gb102 24 #[.string t106, .string t107] (0, 0) _ rfl (by (with_reducible repeat (first | refine blk_drewN ?_ _ | refine blk_drew ?_ | refine blk_alloc ?_ _)); refine blk_put (cs := #[.string t106, .string (⟨#[]⟩ : ByteArray)]) ?_ 1 _ rfl; (with_reducible repeat (first | refine blk_drewN ?_ _ | refine blk_drew ?_ | refine blk_alloc ?_ _)); refine blk_put (cs := #[.string (⟨#[]⟩ : ByteArray), .string (⟨#[]⟩ : ByteArray)]) ?_ 0 _ rfl; (with_reducible repeat (first | refine blk_drewN ?_ _ | refine blk_drew ?_ | refine blk_alloc ?_ _)); exact BK102.out) Tryz.underlying24 rfl (by kernel_rfl)) rfl ?_
     exact ⟨er_, bl_⟩
    ·rw [if_neg c24] at H
     have c24b0 : decide (t117 ≤ 0) = false := decide_eq_false c24
     clear c24
     simp only [Option.some.injEq, Prod.mk.injEq] at H
     obtain ⟨rfl, rfl, rfl⟩ := H
     go_enter Tryz.func29, Tryz.ntmps29
     try go_wp2_with (first | ((with_reducible refine gate_dst (N := 2) rfl ?_); refine bx_ 2 #[.string a0_0, .string a0_1] 24 ?_; clear HB; intro gb101 w54 BK101 GW101 HB; have GE101 := GW101) | ((with_reducible refine gate_dst (N := 4) rfl ?_); refine box_event ?hg (N := 4) ?hd (cs := #[.string (⟨#[]⟩ : ByteArray), .string (⟨#[]⟩ : ByteArray)]) (t := 24) ?hr ?_; (case hd => rfl); (case hg => rfl); (case hr => first | (go_simp; done) | (go_simp; rfl)); intro gb102 hg w55 hbox hb; have BK102 := Aside0.mk (hbox); have GW102 := ge_ (w := w) hg; have GE102 := ge_ (w := w) hg; replace HB := bs_ hb; have NB101_102 := nl_ hg BK101; have NB102_101 := ng_ hg BK101; replace BK101 := kb_ BK101 hb; clear hb hbox hg; have hnb56 := NB101_102.out; have hnc56 := NB102_101.out; obtain ⟨hcz57_0, hcz57_1, hfz57_0, hfz57_1⟩ := c2_ BK101) | ((with_reducible refine gate_callee (f := 51) rfl ?_); refine goesL_ (some 12) rfl rfl Tryz.func51 (by kernel_rfl) rfl #[.agg #[.string a0_0, .string a0_1], .int .i64 a1] rfl mp_ ?_; (with_reducible refine (convergent_bounded.calls k a0_0 a0_1 a1 t103 _ ?side1 A3.out).mono ?_); (case side1 => exact gw_ HG); rintro e w58 ⟨rfl, hb⟩; refine ⟨_, rfl, ?_⟩; replace BK101 := kb_ BK101 hb; replace BK102 := kb_ BK102 hb; replace HB := bs_ hb; (try clear hb); (try clear hb2); (try clear hk); (try clear hi)))
     have n0_ := Aside0.mk (blk_drew BK101.out)
     have n1_ := Aside0.mk (blk_drew BK102.out)
     have n2_ := Aside0.mk (below_drew1 HB.out)
     clear BK101
     clear BK102
     clear HB
     have BK101 := n0_
     have BK102 := n1_
     have HB := n2_
     clear n0_ n1_ n2_
     refine start_ (n := 6) (S := fun w' => w'.cell? ⟨gb101, 0, none⟩ = some (.string a0_0) ∧ w'.cell? ⟨gb101, 1, none⟩ = some (.string a0_1)) (ds := []) #[false, false, false, false, false, false] (by kernel_rfl) rfl rfl ⟨(blk_cell BK101.out 0).trans rfl, (blk_cell BK101.out 1).trans rfl⟩ (fun hHeld => ?_)
     generalize w58.drew = w59 at BK101 BK102 HB hHeld ⊢
     refine pure_ (i := 0) (N := some 17) (v := ?_) (a' := ?_) #[true, false, false, false, false, false] rfl rfl (by kernel_rfl) (fun _ _ _ h => h) (Or.inl ⟨by rfl, ?_⟩) ?_ ?_
     rotate_left
     ·intro w'
      go_simp
      with_reducible rfl
     rotate_left
     ·simp only [Act.put, List.setIfInBounds_toArray, List.set_cons_zero, List.set_cons_succ, i64_w, i32_w]
      rfl
     refine pure_ (i := 2) (N := some 19) (v := ?_) (a' := ?_) #[true, false, true, false, false, false] rfl rfl (by kernel_rfl) (fun _ _ _ h => h) (Or.inl ⟨by rfl, ?_⟩) ?_ ?_
     rotate_left
     ·intro w'
      go_simp
      with_reducible rfl
     rotate_left
     ·simp only [Act.put, List.setIfInBounds_toArray, List.set_cons_zero, List.set_cons_succ, i64_w, i32_w]
      rfl
     refine take_ (i := 1) (N := some 18) (v := ?_) (a' := ?_) #[true, true, true, false, false, false] rfl rfl (by kernel_rfl) (fun _ _ _ h => h) (Or.inl ⟨by rfl, ?_⟩) hHeld ?_ ?_
     rotate_left
     ·rintro w' ⟨s0, s1⟩
      go_simp
      with_reducible rfl
     rotate_left
     ·simp only [Act.put, List.setIfInBounds_toArray, List.set_cons_zero, List.set_cons_succ, i64_w, i32_w]
      rfl
     refine one_ (i := 3) (N := some 20) #[true, true, true, true, false, false] rfl rfl (by kernel_rfl) (by decide) (fun K hK => ?_)
     refine goes_ Tryz.func59 (by kernel_rfl) rfl #[.int .i64 a1] (by rfl) rfl rfl mp_ ?_
     with_reducible refine (whole_Of.calls a1 t104 _ ?side1 A5.out).mono ?_
     (case side1 => exact gw_ HG)
     rintro e w60 ⟨rfl, hb⟩
     refine ⟨_, rfl, ?_⟩
     have n0_ := kb_ BK101 hb
     have n1_ := kb_ BK102 hb
     have n2_ := bs_ hb
     clear BK101
     clear BK102
     clear HB
     have BK101 := n0_
     have BK102 := n1_
     have HB := n2_
     clear n0_ n1_ n2_
     (try clear hb); (try clear hb2); (try clear hk); (try clear hi)
     refine hK.out _ _ ⟨(blk_cell BK101.out 0).trans rfl, (blk_cell BK101.out 1).trans rfl⟩ (fun hHeld => ?_)
     clear hK K
     refine norm_ (a' := ?_) ?_ ?_
     rotate_left
     ·show Act.put _ (some 20) _ = _
      simp only [Act.put, List.setIfInBounds_toArray, List.set_cons_zero, List.set_cons_succ, i64_w, i32_w]
      rfl
     refine one_ (i := 4) (N := some 21) #[true, true, true, true, true, false] rfl rfl (by kernel_rfl) (by decide) (fun K hK => ?_)
     refine goes_ Tryz.func58 (by kernel_rfl) rfl #[.string a0_1, .string t104] (by rfl) rfl rfl mp_ ?_
     with_reducible refine (whole_Compare.calls a0_1 t104 t105 _ A6.out).mono ?_
     rintro e w61 ⟨rfl, hb⟩
     refine ⟨_, rfl, ?_⟩
     have n0_ := kb_ BK101 hb
     have n1_ := kb_ BK102 hb
     have n2_ := bs_ hb
     clear BK101
     clear BK102
     clear HB
     have BK101 := n0_
     have BK102 := n1_
     have HB := n2_
     clear n0_ n1_ n2_
     (try clear hb); (try clear hb2); (try clear hk); (try clear hi)
     refine hK.out _ _ ⟨(blk_cell BK101.out 0).trans rfl, (blk_cell BK101.out 1).trans rfl⟩ (fun hHeld => ?_)
     clear hK K
     refine norm_ (a' := ?_) ?_ ?_
     rotate_left
     ·show Act.put _ (some 21) _ = _
      simp only [Act.put, List.setIfInBounds_toArray, List.set_cons_zero, List.set_cons_succ, i64_w, i32_w]
      rfl
     refine pure_ (i := 5) (N := some 22) (v := ?_) (a' := ?_) #[true, true, true, true, true, true] rfl rfl (by kernel_rfl) (fun _ _ _ h => h) (Or.inl ⟨by rfl, ?_⟩) ?_ ?_
     rotate_left
     ·intro w'
      go_simp
      with_reducible rfl
     rotate_left
     ·simp only [Act.put, List.setIfInBounds_toArray, List.set_cons_zero, List.set_cons_succ, i64_w, i32_w]
      rfl
     refine done_ (by kernel_rfl) ?_
     have hcz62_0 : w61.cell? ⟨gb101, 0, none⟩ = some (.string a0_0) := (blk_cell BK101.out 0).trans rfl
     have hcz62_1 : w61.cell? ⟨gb101, 1, none⟩ = some (.string a0_1) := (blk_cell BK101.out 1).trans rfl
     have hfz62_0 := blk_frozen BK101.out 0
     have hfz62_1 := blk_frozen BK101.out 1
     try go_wp2_with (first | ((with_reducible refine gate_callee (f := 60) rfl ?_); refine goesL_ (some 27) rfl rfl Tryz.func60 (by kernel_rfl) rfl #[.agg #[.string a0_0, .string a0_1], .int .i64 a1] rfl mp_ ?_; (with_reducible refine (convergent_around.calls a0_0 a0_1 a1 t106 t107 t108 t109 _ ?side1 A18.out).mono ?_); (case side1 => exact gw_ HG); rintro e w63 ⟨rfl, hb⟩; refine ⟨_, rfl, ?_⟩; replace BK101 := kb_ BK101 hb; replace BK102 := kb_ BK102 hb; replace HB := bs_ hb; (try clear hb); (try clear hb2); (try clear hk); (try clear hi)) | ((with_reducible refine gate_dst (N := 7) rfl ?_); refine box_event ?hg (N := 7) ?hd (cs := #[.string (⟨#[]⟩ : ByteArray), .string (⟨#[]⟩ : ByteArray)]) (t := 24) ?hr ?_; (case hd => rfl); (case hg => rfl); (case hr => first | (go_simp; done) | (go_simp; rfl)); intro gb110 hg w64 hbox hb; have BK110 := Aside0.mk (hbox); have GW110 := ge_ (w := w) hg; have GE110 := ge_ (w := w) hg; replace HB := bs_ hb; have NB101_110 := nl_ hg BK101; have NB110_101 := ng_ hg BK101; replace BK101 := kb_ BK101 hb; have NB102_110 := nl_ hg BK102; have NB110_102 := ng_ hg BK102; replace BK102 := kb_ BK102 hb; clear hb hbox hg) | ((with_reducible refine gate_dst (N := 8) rfl ?_); refine box_event ?hg (N := 8) ?hd (cs := #[.string (⟨#[]⟩ : ByteArray), .string (⟨#[]⟩ : ByteArray)]) (t := 24) ?hr ?_; (case hd => rfl); (case hg => rfl); (case hr => first | (go_simp; done) | (go_simp; rfl)); intro gb111 hg w65 hbox hb; have BK111 := Aside0.mk (hbox); have GW111 := ge_ (w := w) hg; have GE111 := ge_ (w := w) hg; replace HB := bs_ hb; have NB101_111 := nl_ hg BK101; have NB111_101 := ng_ hg BK101; replace BK101 := kb_ BK101 hb; have NB102_111 := nl_ hg BK102; have NB111_102 := ng_ hg BK102; replace BK102 := kb_ BK102 hb; have NB110_111 := nl_ hg BK110; have NB111_110 := ng_ hg BK110; replace BK110 := kb_ BK110 hb; clear hb hbox hg; have hnb66 := NB110_101.out; have hnc66 := NB101_110.out; have hnb67 := NB110_102.out; have hnc67 := NB102_110.out; have hnb68 := NB110_111.out; have hnc68 := NB111_110.out; obtain ⟨hcz69_0, hcz69_1, hfz69_0, hfz69_1⟩ := c2_ BK110; have hnb70 := NB111_101.out; have hnc70 := NB101_111.out; have hnb71 := NB111_102.out; have hnc71 := NB102_111.out; obtain ⟨hcz72_0, hcz72_1, hfz72_0, hfz72_1⟩ := c2_ BK111))
     have n0_ : Aside0 (((((w65.setCell ⟨gb110, 0, none⟩ (.string t106)).setCell ⟨gb110, 1, none⟩ (.string t107)).setCell ⟨gb111, 0, none⟩ (.string t108)).setCell ⟨gb111, 1, none⟩ (.string t109)).heap[gb101]? = some (.cells #[.string a0_0, .string a0_1] 24 (0, 0))) := ⟨by (with_reducible repeat (first | refine blk_drewN ?_ _ | refine blk_drew ?_ | refine blk_alloc ?_ _)); refine blk_far ?_ NB101_111.out _; (with_reducible repeat (first | refine blk_drewN ?_ _ | refine blk_drew ?_ | refine blk_alloc ?_ _)); refine blk_far ?_ NB101_111.out _; (with_reducible repeat (first | refine blk_drewN ?_ _ | refine blk_drew ?_ | refine blk_alloc ?_ _)); refine blk_far ?_ NB101_110.out _; (with_reducible repeat (first | refine blk_drewN ?_ _ | refine blk_drew ?_ | refine blk_alloc ?_ _)); refine blk_far ?_ NB101_110.out _; (with_reducible repeat (first | refine blk_drewN ?_ _ | refine blk_drew ?_ | refine blk_alloc ?_ _)); exact BK101.out⟩
     have n1_ : Aside0 (((((w65.setCell ⟨gb110, 0, none⟩ (.string t106)).setCell ⟨gb110, 1, none⟩ (.string t107)).setCell ⟨gb111, 0, none⟩ (.string t108)).setCell ⟨gb111, 1, none⟩ (.string t109)).heap[gb102]? = some (.cells #[.string (⟨#[]⟩ : ByteArray), .string (⟨#[]⟩ : ByteArray)] 24 (0, 0))) := ⟨by (with_reducible repeat (first | refine blk_drewN ?_ _ | refine blk_drew ?_ | refine blk_alloc ?_ _)); refine blk_far ?_ NB102_111.out _; (with_reducible repeat (first | refine blk_drewN ?_ _ | refine blk_drew ?_ | refine blk_alloc ?_ _)); refine blk_far ?_ NB102_111.out _; (with_reducible repeat (first | refine blk_drewN ?_ _ | refine blk_drew ?_ | refine blk_alloc ?_ _)); refine blk_far ?_ NB102_110.out _; (with_reducible repeat (first | refine blk_drewN ?_ _ | refine blk_drew ?_ | refine blk_alloc ?_ _)); refine blk_far ?_ NB102_110.out _; (with_reducible repeat (first | refine blk_drewN ?_ _ | refine blk_drew ?_ | refine blk_alloc ?_ _)); exact BK102.out⟩
     have n2_ : Aside0 (((((w65.setCell ⟨gb110, 0, none⟩ (.string t106)).setCell ⟨gb110, 1, none⟩ (.string t107)).setCell ⟨gb111, 0, none⟩ (.string t108)).setCell ⟨gb111, 1, none⟩ (.string t109)).heap[gb110]? = some (.cells #[.string t106, .string t107] 24 (0, 0))) := ⟨by (with_reducible repeat (first | refine blk_drewN ?_ _ | refine blk_drew ?_ | refine blk_alloc ?_ _)); refine blk_far ?_ NB110_111.out _; (with_reducible repeat (first | refine blk_drewN ?_ _ | refine blk_drew ?_ | refine blk_alloc ?_ _)); refine blk_far ?_ NB110_111.out _; (with_reducible repeat (first | refine blk_drewN ?_ _ | refine blk_drew ?_ | refine blk_alloc ?_ _)); refine blk_put (cs := #[.string t106, .string (⟨#[]⟩ : ByteArray)]) ?_ 1 _ rfl; (with_reducible repeat (first | refine blk_drewN ?_ _ | refine blk_drew ?_ | refine blk_alloc ?_ _)); refine blk_put (cs := #[.string (⟨#[]⟩ : ByteArray), .string (⟨#[]⟩ : ByteArray)]) ?_ 0 _ rfl; (with_reducible repeat (first | refine blk_drewN ?_ _ | refine blk_drew ?_ | refine blk_alloc ?_ _)); exact BK110.out⟩
     have n3_ : Aside0 (((((w65.setCell ⟨gb110, 0, none⟩ (.string t106)).setCell ⟨gb110, 1, none⟩ (.string t107)).setCell ⟨gb111, 0, none⟩ (.string t108)).setCell ⟨gb111, 1, none⟩ (.string t109)).heap[gb111]? = some (.cells #[.string t108, .string t109] 24 (0, 0))) := ⟨by (with_reducible repeat (first | refine blk_drewN ?_ _ | refine blk_drew ?_ | refine blk_alloc ?_ _)); refine blk_put (cs := #[.string t108, .string (⟨#[]⟩ : ByteArray)]) ?_ 1 _ rfl; (with_reducible repeat (first | refine blk_drewN ?_ _ | refine blk_drew ?_ | refine blk_alloc ?_ _)); refine blk_put (cs := #[.string (⟨#[]⟩ : ByteArray), .string (⟨#[]⟩ : ByteArray)]) ?_ 0 _ rfl; (with_reducible repeat (first | refine blk_drewN ?_ _ | refine blk_drew ?_ | refine blk_alloc ?_ _)); refine blk_far ?_ NB111_110.out _; (with_reducible repeat (first | refine blk_drewN ?_ _ | refine blk_drew ?_ | refine blk_alloc ?_ _)); refine blk_far ?_ NB111_110.out _; (with_reducible repeat (first | refine blk_drewN ?_ _ | refine blk_drew ?_ | refine blk_alloc ?_ _)); exact BK111.out⟩
     have n4_ : Aside0 (Below w.heap.size w ((((w65.setCell ⟨gb110, 0, none⟩ (.string t106)).setCell ⟨gb110, 1, none⟩ (.string t107)).setCell ⟨gb111, 0, none⟩ (.string t108)).setCell ⟨gb111, 1, none⟩ (.string t109))) := ⟨bl_⟩
     (try clear BK101); (try clear BK102); (try clear BK110); (try clear BK111); (try clear HB)
     generalize ((((w65.setCell ⟨gb110, 0, none⟩ (.string t106)).setCell ⟨gb110, 1, none⟩ (.string t107)).setCell ⟨gb111, 0, none⟩ (.string t108)).setCell ⟨gb111, 1, none⟩ (.string t109)) = w73 at n0_ n1_ n2_ n3_ n4_ ⊢
     have BK101 := n0_
     have BK102 := n1_
     have BK110 := n2_
     have BK111 := n3_
     have HB := n4_
     clear n0_ n1_ n2_ n3_ n4_
     have n0_ := Aside0.mk (blk_drew BK101.out)
     have n1_ := Aside0.mk (blk_drew BK102.out)
     have n2_ := Aside0.mk (blk_drew BK110.out)
     have n3_ := Aside0.mk (blk_drew BK111.out)
     have n4_ := Aside0.mk (below_drew1 HB.out)
     clear BK101
     clear BK102
     clear BK110
     clear BK111
     clear HB
     have BK101 := n0_
     have BK102 := n1_
     have BK110 := n2_
     have BK111 := n3_
     have HB := n4_
     clear n0_ n1_ n2_ n3_ n4_
     refine start_ (n := 8) (S := fun w' => w'.cell? ⟨gb101, 0, none⟩ = some (.string a0_0) ∧ w'.cell? ⟨gb101, 1, none⟩ = some (.string a0_1) ∧ w'.cell? ⟨gb110, 0, none⟩ = some (.string t106) ∧ w'.cell? ⟨gb110, 1, none⟩ = some (.string t107) ∧ w'.cell? ⟨gb111, 0, none⟩ = some (.string t108) ∧ w'.cell? ⟨gb111, 1, none⟩ = some (.string t109)) (ds := []) #[false, false, false, false, false, false, false, false] (by kernel_rfl) rfl rfl ⟨(blk_cell BK101.out 0).trans rfl, (blk_cell BK101.out 1).trans rfl, (blk_cell BK110.out 0).trans rfl, (blk_cell BK110.out 1).trans rfl, (blk_cell BK111.out 0).trans rfl, (blk_cell BK111.out 1).trans rfl⟩ (fun hHeld => ?_); refine with_tabW convergent_Nearest.tab7 convergent_Nearest.bits7 (fun HT_ HW_ => ?_)
     generalize w73.drew = w74 at BK101 BK102 BK110 BK111 HB hHeld ⊢
     refine take_ (i := 0) (N := some 30) (v := ?_) (a' := ?_) #[true, false, false, false, false, false, false, false] rfl rfl (take_ofW HT_.out HW_.out (by kernel_rfl)) (fun _ _ _ h => h) (Or.inl ⟨by rfl, ?_⟩) hHeld ?_ ?_
     rotate_left
     ·rintro w' ⟨s0, s1, s2, s3, s4, s5⟩
      go_simp
      with_reducible rfl
     rotate_left
     ·simp only [Act.put, List.setIfInBounds_toArray, List.set_cons_zero, List.set_cons_succ, i64_w, i32_w]
      rfl
     refine take_ (i := 1) (N := some 31) (v := ?_) (a' := ?_) #[true, true, false, false, false, false, false, false] rfl rfl (take_ofW HT_.out HW_.out (by kernel_rfl)) (fun _ _ _ h => h) (Or.inl ⟨by rfl, ?_⟩) hHeld ?_ ?_
     rotate_left
     ·rintro w' ⟨s0, s1, s2, s3, s4, s5⟩
      go_simp
      with_reducible rfl
     rotate_left
     ·simp only [Act.put, List.setIfInBounds_toArray, List.set_cons_zero, List.set_cons_succ, i64_w, i32_w]
      rfl
     refine take_ (i := 3) (N := some 33) (v := ?_) (a' := ?_) #[true, true, false, true, false, false, false, false] rfl rfl (take_ofW HT_.out HW_.out (by kernel_rfl)) (fun _ _ _ h => h) (Or.inl ⟨by rfl, ?_⟩) hHeld ?_ ?_
     rotate_left
     ·rintro w' ⟨s0, s1, s2, s3, s4, s5⟩
      go_simp
      with_reducible rfl
     rotate_left
     ·simp only [Act.put, List.setIfInBounds_toArray, List.set_cons_zero, List.set_cons_succ, i64_w, i32_w]
      rfl
     refine take_ (i := 4) (N := some 34) (v := ?_) (a' := ?_) #[true, true, false, true, true, false, false, false] rfl rfl (take_ofW HT_.out HW_.out (by kernel_rfl)) (fun _ _ _ h => h) (Or.inl ⟨by rfl, ?_⟩) hHeld ?_ ?_
     rotate_left
     ·rintro w' ⟨s0, s1, s2, s3, s4, s5⟩
      go_simp
      with_reducible rfl
     rotate_left
     ·simp only [Act.put, List.setIfInBounds_toArray, List.set_cons_zero, List.set_cons_succ, i64_w, i32_w]
      rfl
     refine one_ (i := 2) (N := some 32) #[true, true, true, true, true, false, false, false] rfl rfl (one_of HT_.out (by kernel_rfl)) (by decide) (fun K hK => ?_)
     refine goes_ Tryz.func57 (by kernel_rfl) rfl #[.agg #[.string a0_0, .string a0_1], .agg #[.string t106, .string t107]] (by rfl) rfl rfl mp_ ?_
     with_reducible refine (convergent_distance.calls k a0_0 a0_1 t106 t107 t112 t113 _ ?side1 A19.out).mono ?_
     (case side1 => exact gw_ HG)
     rintro e w75 ⟨rfl, hb⟩
     refine ⟨_, rfl, ?_⟩
     have n0_ := kb_ BK101 hb
     have n1_ := kb_ BK102 hb
     have n2_ := kb_ BK110 hb
     have n3_ := kb_ BK111 hb
     have n4_ := bs_ hb
     clear BK101
     clear BK102
     clear BK110
     clear BK111
     clear HB
     have BK101 := n0_
     have BK102 := n1_
     have BK110 := n2_
     have BK111 := n3_
     have HB := n4_
     clear n0_ n1_ n2_ n3_ n4_
     (try clear hb); (try clear hb2); (try clear hk); (try clear hi)
     refine hK.out _ _ ⟨(blk_cell BK101.out 0).trans rfl, (blk_cell BK101.out 1).trans rfl, (blk_cell BK110.out 0).trans rfl, (blk_cell BK110.out 1).trans rfl, (blk_cell BK111.out 0).trans rfl, (blk_cell BK111.out 1).trans rfl⟩ (fun hHeld => ?_)
     clear hK K
     refine norm_ (a' := ?_) ?_ ?_
     rotate_left
     ·show Act.put _ (some 32) _ = _
      simp only [Act.put, List.setIfInBounds_toArray, List.set_cons_zero, List.set_cons_succ, i64_w, i32_w]
      rfl
     refine one_ (i := 5) (N := some 35) #[true, true, true, true, true, true, false, false] rfl rfl (one_of HT_.out (by kernel_rfl)) (by decide) (fun K hK => ?_)
     refine goes_ Tryz.func57 (by kernel_rfl) rfl #[.agg #[.string a0_0, .string a0_1], .agg #[.string t108, .string t109]] (by rfl) rfl rfl mp_ ?_
     with_reducible refine (convergent_distance.calls k a0_0 a0_1 t108 t109 t114 t115 _ ?side1 A20.out).mono ?_
     (case side1 => exact gw_ HG)
     rintro e w76 ⟨rfl, hb⟩
     refine ⟨_, rfl, ?_⟩
     have n0_ := kb_ BK101 hb
     have n1_ := kb_ BK102 hb
     have n2_ := kb_ BK110 hb
     have n3_ := kb_ BK111 hb
     have n4_ := bs_ hb
     clear BK101
     clear BK102
     clear BK110
     clear BK111
     clear HB
     have BK101 := n0_
     have BK102 := n1_
     have BK110 := n2_
     have BK111 := n3_
     have HB := n4_
     clear n0_ n1_ n2_ n3_ n4_
     (try clear hb); (try clear hb2); (try clear hk); (try clear hi)
     refine hK.out _ _ ⟨(blk_cell BK101.out 0).trans rfl, (blk_cell BK101.out 1).trans rfl, (blk_cell BK110.out 0).trans rfl, (blk_cell BK110.out 1).trans rfl, (blk_cell BK111.out 0).trans rfl, (blk_cell BK111.out 1).trans rfl⟩ (fun hHeld => ?_)
     clear hK K
     refine norm_ (a' := ?_) ?_ ?_
     rotate_left
     ·show Act.put _ (some 35) _ = _
      simp only [Act.put, List.setIfInBounds_toArray, List.set_cons_zero, List.set_cons_succ, i64_w, i32_w]
      rfl
     refine one_ (i := 6) (N := some 36) #[true, true, true, true, true, true, true, false] rfl rfl (one_of HT_.out (by kernel_rfl)) (by decide) (fun K hK => ?_)
     refine goes_ Tryz.func56 (by kernel_rfl) rfl #[.agg #[.string t112, .string t113], .agg #[.string t114, .string t115]] (by rfl) rfl rfl mp_ ?_
     with_reducible refine (fraction_Compare.calls k t112 t113 t114 t115 t116 _ ?side1 A21.out).mono ?_
     (case side1 => exact gw_ HG)
     rintro e w77 ⟨rfl, hb⟩
     refine ⟨_, rfl, ?_⟩
     have n0_ := kb_ BK101 hb
     have n1_ := kb_ BK102 hb
     have n2_ := kb_ BK110 hb
     have n3_ := kb_ BK111 hb
     have n4_ := bs_ hb
     clear BK101
     clear BK102
     clear BK110
     clear BK111
     clear HB
     have BK101 := n0_
     have BK102 := n1_
     have BK110 := n2_
     have BK111 := n3_
     have HB := n4_
     clear n0_ n1_ n2_ n3_ n4_
     (try clear hb); (try clear hb2); (try clear hk); (try clear hi)
     refine hK.out _ _ ⟨(blk_cell BK101.out 0).trans rfl, (blk_cell BK101.out 1).trans rfl, (blk_cell BK110.out 0).trans rfl, (blk_cell BK110.out 1).trans rfl, (blk_cell BK111.out 0).trans rfl, (blk_cell BK111.out 1).trans rfl⟩ (fun hHeld => ?_)
     clear hK K
     refine norm_ (a' := ?_) ?_ ?_
     rotate_left
     ·show Act.put _ (some 36) _ = _
      simp only [Act.put, List.setIfInBounds_toArray, List.set_cons_zero, List.set_cons_succ, i64_w, i32_w]
      rfl
     refine pure_ (i := 7) (N := some 9) (v := ?_) (a' := ?_) #[true, true, true, true, true, true, true, true] rfl rfl (any_of HT_.out (by kernel_rfl)) (fun _ _ _ h => h) (Or.inl ⟨by rfl, ?_⟩) ?_ ?_
     rotate_left
     ·intro w'
      go_simp
      with_reducible rfl
     rotate_left
     ·simp only [Act.put, List.setIfInBounds_toArray, List.set_cons_zero, List.set_cons_succ, i64_w, i32_w]
      rfl
     refine done_ (done_of HT_.out (by kernel_rfl)) ?_
     have hcz78_0 : w77.cell? ⟨gb110, 0, none⟩ = some (.string t106) := (blk_cell BK110.out 0).trans rfl
     have hcz78_1 : w77.cell? ⟨gb110, 1, none⟩ = some (.string t107) := (blk_cell BK110.out 1).trans rfl
     have hfz78_0 := blk_frozen BK110.out 0
     have hfz78_1 := blk_frozen BK110.out 1
     have hcz79_0 : w77.cell? ⟨gb111, 0, none⟩ = some (.string t108) := (blk_cell BK111.out 0).trans rfl
     have hcz79_1 : w77.cell? ⟨gb111, 1, none⟩ = some (.string t109) := (blk_cell BK111.out 1).trans rfl
     have hfz79_0 := blk_frozen BK111.out 0
     have hfz79_1 := blk_frozen BK111.out 1
     try go_wp2_with (first | ((with_reducible refine gate_callee (f := 58) rfl ?_); refine goesL_ (some 43) rfl rfl Tryz.func58 (by kernel_rfl) rfl #[.string t107, .string t109] rfl mp_ ?_; (with_reducible refine (whole_Compare.calls t107 t109 t117 _ A23.out).mono ?_); rintro e w80 ⟨rfl, hb⟩; refine ⟨_, rfl, ?_⟩; replace BK101 := kb_ BK101 hb; replace BK102 := kb_ BK102 hb; replace BK110 := kb_ BK110 hb; replace BK111 := kb_ BK111 hb; replace HB := bs_ hb; (try clear hb); (try clear hb2); (try clear hk); (try clear hi); obtain ⟨hcz81_0, hcz81_1, hfz81_0, hfz81_1⟩ := c2_ BK111; obtain ⟨hcz82_0, hcz82_1, hfz82_0, hfz82_1⟩ := c2_ BK102))
     refine bodyPost_ret (results_ct rfl _ _ gb102 24 #[.string t108, .string t109] (0, 0) _ rfl (by (with_reducible repeat (first | refine blk_drewN ?_ _ | refine blk_drew ?_ | refine blk_alloc ?_ _)); refine blk_put (cs := #[.string t108, .string (⟨#[]⟩ : ByteArray)]) ?_ 1 _ rfl; (with_reducible repeat (first | refine blk_drewN ?_ _ | refine blk_drew ?_ | refine blk_alloc ?_ _)); refine blk_put (cs := #[.string (⟨#[]⟩ : ByteArray), .string (⟨#[]⟩ : ByteArray)]) ?_ 0 _ rfl; (with_reducible repeat (first | refine blk_drewN ?_ _ | refine blk_drew ?_ | refine blk_alloc ?_ _)); exact BK102.out) Tryz.underlying24 rfl (by kernel_rfl)) rfl ?_
     exact ⟨er_, bl_⟩
   ·rw [if_neg c22] at H
    have c22b0 : (t116 == 0) = false := beq_eq_false_iff_ne.mpr c22
    have c22b1 : (t116 != 0) = true := bne_iff_ne.mpr c22
    by_cases c83 : t116 ≤ 0
    ·rw [if_pos c83] at H
     have c83b0 : decide (t116 ≤ 0) = true := decide_eq_true c83
     clear c83
     simp only [Option.some.injEq, Prod.mk.injEq] at H
     obtain ⟨rfl, rfl, rfl⟩ := H
     go_enter Tryz.func29, Tryz.ntmps29
     try go_wp2_with (first | ((with_reducible refine gate_dst (N := 2) rfl ?_); refine bx_ 2 #[.string a0_0, .string a0_1] 24 ?_; clear HB; intro gb101 w84 BK101 GW101 HB; have GE101 := GW101) | ((with_reducible refine gate_dst (N := 4) rfl ?_); refine box_event ?hg (N := 4) ?hd (cs := #[.string (⟨#[]⟩ : ByteArray), .string (⟨#[]⟩ : ByteArray)]) (t := 24) ?hr ?_; (case hd => rfl); (case hg => rfl); (case hr => first | (go_simp; done) | (go_simp; rfl)); intro gb102 hg w85 hbox hb; have BK102 := Aside0.mk (hbox); have GW102 := ge_ (w := w) hg; have GE102 := ge_ (w := w) hg; replace HB := bs_ hb; have NB101_102 := nl_ hg BK101; have NB102_101 := ng_ hg BK101; replace BK101 := kb_ BK101 hb; clear hb hbox hg; have hnb86 := NB101_102.out; have hnc86 := NB102_101.out; obtain ⟨hcz87_0, hcz87_1, hfz87_0, hfz87_1⟩ := c2_ BK101) | ((with_reducible refine gate_callee (f := 51) rfl ?_); refine goesL_ (some 12) rfl rfl Tryz.func51 (by kernel_rfl) rfl #[.agg #[.string a0_0, .string a0_1], .int .i64 a1] rfl mp_ ?_; (with_reducible refine (convergent_bounded.calls k a0_0 a0_1 a1 t103 _ ?side1 A3.out).mono ?_); (case side1 => exact gw_ HG); rintro e w88 ⟨rfl, hb⟩; refine ⟨_, rfl, ?_⟩; replace BK101 := kb_ BK101 hb; replace BK102 := kb_ BK102 hb; replace HB := bs_ hb; (try clear hb); (try clear hb2); (try clear hk); (try clear hi)))
     have n0_ := Aside0.mk (blk_drew BK101.out)
     have n1_ := Aside0.mk (blk_drew BK102.out)
     have n2_ := Aside0.mk (below_drew1 HB.out)
     clear BK101
     clear BK102
     clear HB
     have BK101 := n0_
     have BK102 := n1_
     have HB := n2_
     clear n0_ n1_ n2_
     refine start_ (n := 6) (S := fun w' => w'.cell? ⟨gb101, 0, none⟩ = some (.string a0_0) ∧ w'.cell? ⟨gb101, 1, none⟩ = some (.string a0_1)) (ds := []) #[false, false, false, false, false, false] (by kernel_rfl) rfl rfl ⟨(blk_cell BK101.out 0).trans rfl, (blk_cell BK101.out 1).trans rfl⟩ (fun hHeld => ?_)
     generalize w88.drew = w89 at BK101 BK102 HB hHeld ⊢
     refine pure_ (i := 0) (N := some 17) (v := ?_) (a' := ?_) #[true, false, false, false, false, false] rfl rfl (by kernel_rfl) (fun _ _ _ h => h) (Or.inl ⟨by rfl, ?_⟩) ?_ ?_
     rotate_left
     ·intro w'
      go_simp
      with_reducible rfl
     rotate_left
     ·simp only [Act.put, List.setIfInBounds_toArray, List.set_cons_zero, List.set_cons_succ, i64_w, i32_w]
      rfl
     refine pure_ (i := 2) (N := some 19) (v := ?_) (a' := ?_) #[true, false, true, false, false, false] rfl rfl (by kernel_rfl) (fun _ _ _ h => h) (Or.inl ⟨by rfl, ?_⟩) ?_ ?_
     rotate_left
     ·intro w'
      go_simp
      with_reducible rfl
     rotate_left
     ·simp only [Act.put, List.setIfInBounds_toArray, List.set_cons_zero, List.set_cons_succ, i64_w, i32_w]
      rfl
     refine take_ (i := 1) (N := some 18) (v := ?_) (a' := ?_) #[true, true, true, false, false, false] rfl rfl (by kernel_rfl) (fun _ _ _ h => h) (Or.inl ⟨by rfl, ?_⟩) hHeld ?_ ?_
     rotate_left
     ·rintro w' ⟨s0, s1⟩
      go_simp
      with_reducible rfl
     rotate_left
     ·simp only [Act.put, List.setIfInBounds_toArray, List.set_cons_zero, List.set_cons_succ, i64_w, i32_w]
      rfl
     refine one_ (i := 3) (N := some 20) #[true, true, true, true, false, false] rfl rfl (by kernel_rfl) (by decide) (fun K hK => ?_)
     refine goes_ Tryz.func59 (by kernel_rfl) rfl #[.int .i64 a1] (by rfl) rfl rfl mp_ ?_
     with_reducible refine (whole_Of.calls a1 t104 _ ?side1 A5.out).mono ?_
     (case side1 => exact gw_ HG)
     rintro e w90 ⟨rfl, hb⟩
     refine ⟨_, rfl, ?_⟩
     have n0_ := kb_ BK101 hb
     have n1_ := kb_ BK102 hb
     have n2_ := bs_ hb
     clear BK101
     clear BK102
     clear HB
     have BK101 := n0_
     have BK102 := n1_
     have HB := n2_
     clear n0_ n1_ n2_
     (try clear hb); (try clear hb2); (try clear hk); (try clear hi)
     refine hK.out _ _ ⟨(blk_cell BK101.out 0).trans rfl, (blk_cell BK101.out 1).trans rfl⟩ (fun hHeld => ?_)
     clear hK K
     refine norm_ (a' := ?_) ?_ ?_
     rotate_left
     ·show Act.put _ (some 20) _ = _
      simp only [Act.put, List.setIfInBounds_toArray, List.set_cons_zero, List.set_cons_succ, i64_w, i32_w]
      rfl
     refine one_ (i := 4) (N := some 21) #[true, true, true, true, true, false] rfl rfl (by kernel_rfl) (by decide) (fun K hK => ?_)
     refine goes_ Tryz.func58 (by kernel_rfl) rfl #[.string a0_1, .string t104] (by rfl) rfl rfl mp_ ?_
     with_reducible refine (whole_Compare.calls a0_1 t104 t105 _ A6.out).mono ?_
     rintro e w91 ⟨rfl, hb⟩
     refine ⟨_, rfl, ?_⟩
     have n0_ := kb_ BK101 hb
     have n1_ := kb_ BK102 hb
     have n2_ := bs_ hb
     clear BK101
     clear BK102
     clear HB
     have BK101 := n0_
     have BK102 := n1_
     have HB := n2_
     clear n0_ n1_ n2_
     (try clear hb); (try clear hb2); (try clear hk); (try clear hi)
     refine hK.out _ _ ⟨(blk_cell BK101.out 0).trans rfl, (blk_cell BK101.out 1).trans rfl⟩ (fun hHeld => ?_)
     clear hK K
     refine norm_ (a' := ?_) ?_ ?_
     rotate_left
     ·show Act.put _ (some 21) _ = _
      simp only [Act.put, List.setIfInBounds_toArray, List.set_cons_zero, List.set_cons_succ, i64_w, i32_w]
      rfl
     refine pure_ (i := 5) (N := some 22) (v := ?_) (a' := ?_) #[true, true, true, true, true, true] rfl rfl (by kernel_rfl) (fun _ _ _ h => h) (Or.inl ⟨by rfl, ?_⟩) ?_ ?_
     rotate_left
     ·intro w'
      go_simp
      with_reducible rfl
     rotate_left
     ·simp only [Act.put, List.setIfInBounds_toArray, List.set_cons_zero, List.set_cons_succ, i64_w, i32_w]
      rfl
     refine done_ (by kernel_rfl) ?_
     have hcz92_0 : w91.cell? ⟨gb101, 0, none⟩ = some (.string a0_0) := (blk_cell BK101.out 0).trans rfl
     have hcz92_1 : w91.cell? ⟨gb101, 1, none⟩ = some (.string a0_1) := (blk_cell BK101.out 1).trans rfl
     have hfz92_0 := blk_frozen BK101.out 0
     have hfz92_1 := blk_frozen BK101.out 1
     try go_wp2_with (first | ((with_reducible refine gate_callee (f := 60) rfl ?_); refine goesL_ (some 27) rfl rfl Tryz.func60 (by kernel_rfl) rfl #[.agg #[.string a0_0, .string a0_1], .int .i64 a1] rfl mp_ ?_; (with_reducible refine (convergent_around.calls a0_0 a0_1 a1 t106 t107 t108 t109 _ ?side1 A18.out).mono ?_); (case side1 => exact gw_ HG); rintro e w93 ⟨rfl, hb⟩; refine ⟨_, rfl, ?_⟩; replace BK101 := kb_ BK101 hb; replace BK102 := kb_ BK102 hb; replace HB := bs_ hb; (try clear hb); (try clear hb2); (try clear hk); (try clear hi)) | ((with_reducible refine gate_dst (N := 7) rfl ?_); refine box_event ?hg (N := 7) ?hd (cs := #[.string (⟨#[]⟩ : ByteArray), .string (⟨#[]⟩ : ByteArray)]) (t := 24) ?hr ?_; (case hd => rfl); (case hg => rfl); (case hr => first | (go_simp; done) | (go_simp; rfl)); intro gb110 hg w94 hbox hb; have BK110 := Aside0.mk (hbox); have GW110 := ge_ (w := w) hg; have GE110 := ge_ (w := w) hg; replace HB := bs_ hb; have NB101_110 := nl_ hg BK101; have NB110_101 := ng_ hg BK101; replace BK101 := kb_ BK101 hb; have NB102_110 := nl_ hg BK102; have NB110_102 := ng_ hg BK102; replace BK102 := kb_ BK102 hb; clear hb hbox hg) | ((with_reducible refine gate_dst (N := 8) rfl ?_); refine box_event ?hg (N := 8) ?hd (cs := #[.string (⟨#[]⟩ : ByteArray), .string (⟨#[]⟩ : ByteArray)]) (t := 24) ?hr ?_; (case hd => rfl); (case hg => rfl); (case hr => first | (go_simp; done) | (go_simp; rfl)); intro gb111 hg w95 hbox hb; have BK111 := Aside0.mk (hbox); have GW111 := ge_ (w := w) hg; have GE111 := ge_ (w := w) hg; replace HB := bs_ hb; have NB101_111 := nl_ hg BK101; have NB111_101 := ng_ hg BK101; replace BK101 := kb_ BK101 hb; have NB102_111 := nl_ hg BK102; have NB111_102 := ng_ hg BK102; replace BK102 := kb_ BK102 hb; have NB110_111 := nl_ hg BK110; have NB111_110 := ng_ hg BK110; replace BK110 := kb_ BK110 hb; clear hb hbox hg; have hnb96 := NB110_101.out; have hnc96 := NB101_110.out; have hnb97 := NB110_102.out; have hnc97 := NB102_110.out; have hnb98 := NB110_111.out; have hnc98 := NB111_110.out; obtain ⟨hcz99_0, hcz99_1, hfz99_0, hfz99_1⟩ := c2_ BK110; have hnb100 := NB111_101.out; have hnc100 := NB101_111.out; have hnb101 := NB111_102.out; have hnc101 := NB102_111.out; obtain ⟨hcz102_0, hcz102_1, hfz102_0, hfz102_1⟩ := c2_ BK111))
     have n0_ : Aside0 (((((w95.setCell ⟨gb110, 0, none⟩ (.string t106)).setCell ⟨gb110, 1, none⟩ (.string t107)).setCell ⟨gb111, 0, none⟩ (.string t108)).setCell ⟨gb111, 1, none⟩ (.string t109)).heap[gb101]? = some (.cells #[.string a0_0, .string a0_1] 24 (0, 0))) := ⟨by (with_reducible repeat (first | refine blk_drewN ?_ _ | refine blk_drew ?_ | refine blk_alloc ?_ _)); refine blk_far ?_ NB101_111.out _; (with_reducible repeat (first | refine blk_drewN ?_ _ | refine blk_drew ?_ | refine blk_alloc ?_ _)); refine blk_far ?_ NB101_111.out _; (with_reducible repeat (first | refine blk_drewN ?_ _ | refine blk_drew ?_ | refine blk_alloc ?_ _)); refine blk_far ?_ NB101_110.out _; (with_reducible repeat (first | refine blk_drewN ?_ _ | refine blk_drew ?_ | refine blk_alloc ?_ _)); refine blk_far ?_ NB101_110.out _; (with_reducible repeat (first | refine blk_drewN ?_ _ | refine blk_drew ?_ | refine blk_alloc ?_ _)); exact BK101.out⟩
     have n1_ : Aside0 (((((w95.setCell ⟨gb110, 0, none⟩ (.string t106)).setCell ⟨gb110, 1, none⟩ (.string t107)).setCell ⟨gb111, 0, none⟩ (.string t108)).setCell ⟨gb111, 1, none⟩ (.string t109)).heap[gb102]? = some (.cells #[.string (⟨#[]⟩ : ByteArray), .string (⟨#[]⟩ : ByteArray)] 24 (0, 0))) := ⟨by (with_reducible repeat (first | refine blk_drewN ?_ _ | refine blk_drew ?_ | refine blk_alloc ?_ _)); refine blk_far ?_ NB102_111.out _; (with_reducible repeat (first | refine blk_drewN ?_ _ | refine blk_drew ?_ | refine blk_alloc ?_ _)); refine blk_far ?_ NB102_111.out _; (with_reducible repeat (first | refine blk_drewN ?_ _ | refine blk_drew ?_ | refine blk_alloc ?_ _)); refine blk_far ?_ NB102_110.out _; (with_reducible repeat (first | refine blk_drewN ?_ _ | refine blk_drew ?_ | refine blk_alloc ?_ _)); refine blk_far ?_ NB102_110.out _; (with_reducible repeat (first | refine blk_drewN ?_ _ | refine blk_drew ?_ | refine blk_alloc ?_ _)); exact BK102.out⟩
     have n2_ : Aside0 (((((w95.setCell ⟨gb110, 0, none⟩ (.string t106)).setCell ⟨gb110, 1, none⟩ (.string t107)).setCell ⟨gb111, 0, none⟩ (.string t108)).setCell ⟨gb111, 1, none⟩ (.string t109)).heap[gb110]? = some (.cells #[.string t106, .string t107] 24 (0, 0))) := ⟨by (with_reducible repeat (first | refine blk_drewN ?_ _ | refine blk_drew ?_ | refine blk_alloc ?_ _)); refine blk_far ?_ NB110_111.out _; (with_reducible repeat (first | refine blk_drewN ?_ _ | refine blk_drew ?_ | refine blk_alloc ?_ _)); refine blk_far ?_ NB110_111.out _; (with_reducible repeat (first | refine blk_drewN ?_ _ | refine blk_drew ?_ | refine blk_alloc ?_ _)); refine blk_put (cs := #[.string t106, .string (⟨#[]⟩ : ByteArray)]) ?_ 1 _ rfl; (with_reducible repeat (first | refine blk_drewN ?_ _ | refine blk_drew ?_ | refine blk_alloc ?_ _)); refine blk_put (cs := #[.string (⟨#[]⟩ : ByteArray), .string (⟨#[]⟩ : ByteArray)]) ?_ 0 _ rfl; (with_reducible repeat (first | refine blk_drewN ?_ _ | refine blk_drew ?_ | refine blk_alloc ?_ _)); exact BK110.out⟩
     have n3_ : Aside0 (((((w95.setCell ⟨gb110, 0, none⟩ (.string t106)).setCell ⟨gb110, 1, none⟩ (.string t107)).setCell ⟨gb111, 0, none⟩ (.string t108)).setCell ⟨gb111, 1, none⟩ (.string t109)).heap[gb111]? = some (.cells #[.string t108, .string t109] 24 (0, 0))) := ⟨by (with_reducible repeat (first | refine blk_drewN ?_ _ | refine blk_drew ?_ | refine blk_alloc ?_ _)); refine blk_put (cs := #[.string t108, .string (⟨#[]⟩ : ByteArray)]) ?_ 1 _ rfl; (with_reducible repeat (first | refine blk_drewN ?_ _ | refine blk_drew ?_ | refine blk_alloc ?_ _)); refine blk_put (cs := #[.string (⟨#[]⟩ : ByteArray), .string (⟨#[]⟩ : ByteArray)]) ?_ 0 _ rfl; (with_reducible repeat (first | refine blk_drewN ?_ _ | refine blk_drew ?_ | refine blk_alloc ?_ _)); refine blk_far ?_ NB111_110.out _; (with_reducible repeat (first | refine blk_drewN ?_ _ | refine blk_drew ?_ | refine blk_alloc ?_ _)); refine blk_far ?_ NB111_110.out _; (with_reducible repeat (first | refine blk_drewN ?_ _ | refine blk_drew ?_ | refine blk_alloc ?_ _)); exact BK111.out⟩
     have n4_ : Aside0 (Below w.heap.size w ((((w95.setCell ⟨gb110, 0, none⟩ (.string t106)).setCell ⟨gb110, 1, none⟩ (.string t107)).setCell ⟨gb111, 0, none⟩ (.string t108)).setCell ⟨gb111, 1, none⟩ (.string t109))) := ⟨bl_⟩
     (try clear BK101); (try clear BK102); (try clear BK110); (try clear BK111); (try clear HB)
     generalize ((((w95.setCell ⟨gb110, 0, none⟩ (.string t106)).setCell ⟨gb110, 1, none⟩ (.string t107)).setCell ⟨gb111, 0, none⟩ (.string t108)).setCell ⟨gb111, 1, none⟩ (.string t109)) = w103 at n0_ n1_ n2_ n3_ n4_ ⊢
     have BK101 := n0_
     have BK102 := n1_
     have BK110 := n2_
     have BK111 := n3_
     have HB := n4_
     clear n0_ n1_ n2_ n3_ n4_
     have n0_ := Aside0.mk (blk_drew BK101.out)
     have n1_ := Aside0.mk (blk_drew BK102.out)
     have n2_ := Aside0.mk (blk_drew BK110.out)
     have n3_ := Aside0.mk (blk_drew BK111.out)
     have n4_ := Aside0.mk (below_drew1 HB.out)
     clear BK101
     clear BK102
     clear BK110
     clear BK111
     clear HB
     have BK101 := n0_
     have BK102 := n1_
     have BK110 := n2_
     have BK111 := n3_
     have HB := n4_
     clear n0_ n1_ n2_ n3_ n4_
     refine start_ (n := 8) (S := fun w' => w'.cell? ⟨gb101, 0, none⟩ = some (.string a0_0) ∧ w'.cell? ⟨gb101, 1, none⟩ = some (.string a0_1) ∧ w'.cell? ⟨gb110, 0, none⟩ = some (.string t106) ∧ w'.cell? ⟨gb110, 1, none⟩ = some (.string t107) ∧ w'.cell? ⟨gb111, 0, none⟩ = some (.string t108) ∧ w'.cell? ⟨gb111, 1, none⟩ = some (.string t109)) (ds := []) #[false, false, false, false, false, false, false, false] (by kernel_rfl) rfl rfl ⟨(blk_cell BK101.out 0).trans rfl, (blk_cell BK101.out 1).trans rfl, (blk_cell BK110.out 0).trans rfl, (blk_cell BK110.out 1).trans rfl, (blk_cell BK111.out 0).trans rfl, (blk_cell BK111.out 1).trans rfl⟩ (fun hHeld => ?_); refine with_tabW convergent_Nearest.tab7 convergent_Nearest.bits7 (fun HT_ HW_ => ?_)
     generalize w103.drew = w104 at BK101 BK102 BK110 BK111 HB hHeld ⊢
     refine take_ (i := 0) (N := some 30) (v := ?_) (a' := ?_) #[true, false, false, false, false, false, false, false] rfl rfl (take_ofW HT_.out HW_.out (by kernel_rfl)) (fun _ _ _ h => h) (Or.inl ⟨by rfl, ?_⟩) hHeld ?_ ?_
     rotate_left
     ·rintro w' ⟨s0, s1, s2, s3, s4, s5⟩
      go_simp
      with_reducible rfl
     rotate_left
     ·simp only [Act.put, List.setIfInBounds_toArray, List.set_cons_zero, List.set_cons_succ, i64_w, i32_w]
      rfl
     refine take_ (i := 1) (N := some 31) (v := ?_) (a' := ?_) #[true, true, false, false, false, false, false, false] rfl rfl (take_ofW HT_.out HW_.out (by kernel_rfl)) (fun _ _ _ h => h) (Or.inl ⟨by rfl, ?_⟩) hHeld ?_ ?_
     rotate_left
     ·rintro w' ⟨s0, s1, s2, s3, s4, s5⟩
      go_simp
      with_reducible rfl
     rotate_left
     ·simp only [Act.put, List.setIfInBounds_toArray, List.set_cons_zero, List.set_cons_succ, i64_w, i32_w]
      rfl
     refine take_ (i := 3) (N := some 33) (v := ?_) (a' := ?_) #[true, true, false, true, false, false, false, false] rfl rfl (take_ofW HT_.out HW_.out (by kernel_rfl)) (fun _ _ _ h => h) (Or.inl ⟨by rfl, ?_⟩) hHeld ?_ ?_
     rotate_left
     ·rintro w' ⟨s0, s1, s2, s3, s4, s5⟩
      go_simp
      with_reducible rfl
     rotate_left
     ·simp only [Act.put, List.setIfInBounds_toArray, List.set_cons_zero, List.set_cons_succ, i64_w, i32_w]
      rfl
     refine take_ (i := 4) (N := some 34) (v := ?_) (a' := ?_) #[true, true, false, true, true, false, false, false] rfl rfl (take_ofW HT_.out HW_.out (by kernel_rfl)) (fun _ _ _ h => h) (Or.inl ⟨by rfl, ?_⟩) hHeld ?_ ?_
     rotate_left
     ·rintro w' ⟨s0, s1, s2, s3, s4, s5⟩
      go_simp
      with_reducible rfl
     rotate_left
     ·simp only [Act.put, List.setIfInBounds_toArray, List.set_cons_zero, List.set_cons_succ, i64_w, i32_w]
      rfl
     refine one_ (i := 2) (N := some 32) #[true, true, true, true, true, false, false, false] rfl rfl (one_of HT_.out (by kernel_rfl)) (by decide) (fun K hK => ?_)
     refine goes_ Tryz.func57 (by kernel_rfl) rfl #[.agg #[.string a0_0, .string a0_1], .agg #[.string t106, .string t107]] (by rfl) rfl rfl mp_ ?_
     with_reducible refine (convergent_distance.calls k a0_0 a0_1 t106 t107 t112 t113 _ ?side1 A19.out).mono ?_
     (case side1 => exact gw_ HG)
     rintro e w105 ⟨rfl, hb⟩
     refine ⟨_, rfl, ?_⟩
     have n0_ := kb_ BK101 hb
     have n1_ := kb_ BK102 hb
     have n2_ := kb_ BK110 hb
     have n3_ := kb_ BK111 hb
     have n4_ := bs_ hb
     clear BK101
     clear BK102
     clear BK110
     clear BK111
     clear HB
     have BK101 := n0_
     have BK102 := n1_
     have BK110 := n2_
     have BK111 := n3_
     have HB := n4_
     clear n0_ n1_ n2_ n3_ n4_
     (try clear hb); (try clear hb2); (try clear hk); (try clear hi)
     refine hK.out _ _ ⟨(blk_cell BK101.out 0).trans rfl, (blk_cell BK101.out 1).trans rfl, (blk_cell BK110.out 0).trans rfl, (blk_cell BK110.out 1).trans rfl, (blk_cell BK111.out 0).trans rfl, (blk_cell BK111.out 1).trans rfl⟩ (fun hHeld => ?_)
     clear hK K
     refine norm_ (a' := ?_) ?_ ?_
     rotate_left
     ·show Act.put _ (some 32) _ = _
      simp only [Act.put, List.setIfInBounds_toArray, List.set_cons_zero, List.set_cons_succ, i64_w, i32_w]
      rfl
     refine one_ (i := 5) (N := some 35) #[true, true, true, true, true, true, false, false] rfl rfl (one_of HT_.out (by kernel_rfl)) (by decide) (fun K hK => ?_)
     refine goes_ Tryz.func57 (by kernel_rfl) rfl #[.agg #[.string a0_0, .string a0_1], .agg #[.string t108, .string t109]] (by rfl) rfl rfl mp_ ?_
     with_reducible refine (convergent_distance.calls k a0_0 a0_1 t108 t109 t114 t115 _ ?side1 A20.out).mono ?_
     (case side1 => exact gw_ HG)
     rintro e w106 ⟨rfl, hb⟩
     refine ⟨_, rfl, ?_⟩
     have n0_ := kb_ BK101 hb
     have n1_ := kb_ BK102 hb
     have n2_ := kb_ BK110 hb
     have n3_ := kb_ BK111 hb
     have n4_ := bs_ hb
     clear BK101
     clear BK102
     clear BK110
     clear BK111
     clear HB
     have BK101 := n0_
     have BK102 := n1_
     have BK110 := n2_
     have BK111 := n3_
     have HB := n4_
     clear n0_ n1_ n2_ n3_ n4_
     (try clear hb); (try clear hb2); (try clear hk); (try clear hi)
     refine hK.out _ _ ⟨(blk_cell BK101.out 0).trans rfl, (blk_cell BK101.out 1).trans rfl, (blk_cell BK110.out 0).trans rfl, (blk_cell BK110.out 1).trans rfl, (blk_cell BK111.out 0).trans rfl, (blk_cell BK111.out 1).trans rfl⟩ (fun hHeld => ?_)
     clear hK K
     refine norm_ (a' := ?_) ?_ ?_
     rotate_left
     ·show Act.put _ (some 35) _ = _
      simp only [Act.put, List.setIfInBounds_toArray, List.set_cons_zero, List.set_cons_succ, i64_w, i32_w]
      rfl
     refine one_ (i := 6) (N := some 36) #[true, true, true, true, true, true, true, false] rfl rfl (one_of HT_.out (by kernel_rfl)) (by decide) (fun K hK => ?_)
     refine goes_ Tryz.func56 (by kernel_rfl) rfl #[.agg #[.string t112, .string t113], .agg #[.string t114, .string t115]] (by rfl) rfl rfl mp_ ?_
     with_reducible refine (fraction_Compare.calls k t112 t113 t114 t115 t116 _ ?side1 A21.out).mono ?_
     (case side1 => exact gw_ HG)
     rintro e w107 ⟨rfl, hb⟩
     refine ⟨_, rfl, ?_⟩
     have n0_ := kb_ BK101 hb
     have n1_ := kb_ BK102 hb
     have n2_ := kb_ BK110 hb
     have n3_ := kb_ BK111 hb
     have n4_ := bs_ hb
     clear BK101
     clear BK102
     clear BK110
     clear BK111
     clear HB
     have BK101 := n0_
     have BK102 := n1_
     have BK110 := n2_
     have BK111 := n3_
     have HB := n4_
     clear n0_ n1_ n2_ n3_ n4_
     (try clear hb); (try clear hb2); (try clear hk); (try clear hi)
     refine hK.out _ _ ⟨(blk_cell BK101.out 0).trans rfl, (blk_cell BK101.out 1).trans rfl, (blk_cell BK110.out 0).trans rfl, (blk_cell BK110.out 1).trans rfl, (blk_cell BK111.out 0).trans rfl, (blk_cell BK111.out 1).trans rfl⟩ (fun hHeld => ?_)
     clear hK K
     refine norm_ (a' := ?_) ?_ ?_
     rotate_left
     ·show Act.put _ (some 36) _ = _
      simp only [Act.put, List.setIfInBounds_toArray, List.set_cons_zero, List.set_cons_succ, i64_w, i32_w]
      rfl
     refine pure_ (i := 7) (N := some 9) (v := ?_) (a' := ?_) #[true, true, true, true, true, true, true, true] rfl rfl (any_of HT_.out (by kernel_rfl)) (fun _ _ _ h => h) (Or.inl ⟨by rfl, ?_⟩) ?_ ?_
     rotate_left
     ·intro w'
      go_simp
      with_reducible rfl
     rotate_left
     ·simp only [Act.put, List.setIfInBounds_toArray, List.set_cons_zero, List.set_cons_succ, i64_w, i32_w]
      rfl
     refine done_ (done_of HT_.out (by kernel_rfl)) ?_
     have hcz108_0 : w107.cell? ⟨gb110, 0, none⟩ = some (.string t106) := (blk_cell BK110.out 0).trans rfl
     have hcz108_1 : w107.cell? ⟨gb110, 1, none⟩ = some (.string t107) := (blk_cell BK110.out 1).trans rfl
     have hfz108_0 := blk_frozen BK110.out 0
     have hfz108_1 := blk_frozen BK110.out 1
     have hcz109_0 : w107.cell? ⟨gb102, 0, none⟩ = some (.string (⟨#[]⟩ : ByteArray)) := (blk_cell BK102.out 0).trans rfl
     have hcz109_1 : w107.cell? ⟨gb102, 1, none⟩ = some (.string (⟨#[]⟩ : ByteArray)) := (blk_cell BK102.out 1).trans rfl
     have hfz109_0 := blk_frozen BK102.out 0
     have hfz109_1 := blk_frozen BK102.out 1
     try go_wp2
     refine bodyPost_ret (results_ct rfl _ _ gb102 24 #[.string t106, .string t107] (0, 0) _ rfl (by (with_reducible repeat (first | refine blk_drewN ?_ _ | refine blk_drew ?_ | refine blk_alloc ?_ _)); refine blk_put (cs := #[.string t106, .string (⟨#[]⟩ : ByteArray)]) ?_ 1 _ rfl; (with_reducible repeat (first | refine blk_drewN ?_ _ | refine blk_drew ?_ | refine blk_alloc ?_ _)); refine blk_put (cs := #[.string (⟨#[]⟩ : ByteArray), .string (⟨#[]⟩ : ByteArray)]) ?_ 0 _ rfl; (with_reducible repeat (first | refine blk_drewN ?_ _ | refine blk_drew ?_ | refine blk_alloc ?_ _)); exact BK102.out) Tryz.underlying24 rfl (by kernel_rfl)) rfl ?_
     exact ⟨er_, bl_⟩
    ·rw [if_neg c83] at H
     have c83b0 : decide (t116 ≤ 0) = false := decide_eq_false c83
     clear c83
     simp only [Option.some.injEq, Prod.mk.injEq] at H
     obtain ⟨rfl, rfl, rfl⟩ := H
     go_enter Tryz.func29, Tryz.ntmps29
     try go_wp2_with (first | ((with_reducible refine gate_dst (N := 2) rfl ?_); refine bx_ 2 #[.string a0_0, .string a0_1] 24 ?_; clear HB; intro gb101 w110 BK101 GW101 HB; have GE101 := GW101) | ((with_reducible refine gate_dst (N := 4) rfl ?_); refine box_event ?hg (N := 4) ?hd (cs := #[.string (⟨#[]⟩ : ByteArray), .string (⟨#[]⟩ : ByteArray)]) (t := 24) ?hr ?_; (case hd => rfl); (case hg => rfl); (case hr => first | (go_simp; done) | (go_simp; rfl)); intro gb102 hg w111 hbox hb; have BK102 := Aside0.mk (hbox); have GW102 := ge_ (w := w) hg; have GE102 := ge_ (w := w) hg; replace HB := bs_ hb; have NB101_102 := nl_ hg BK101; have NB102_101 := ng_ hg BK101; replace BK101 := kb_ BK101 hb; clear hb hbox hg; have hnb112 := NB101_102.out; have hnc112 := NB102_101.out; obtain ⟨hcz113_0, hcz113_1, hfz113_0, hfz113_1⟩ := c2_ BK101) | ((with_reducible refine gate_callee (f := 51) rfl ?_); refine goesL_ (some 12) rfl rfl Tryz.func51 (by kernel_rfl) rfl #[.agg #[.string a0_0, .string a0_1], .int .i64 a1] rfl mp_ ?_; (with_reducible refine (convergent_bounded.calls k a0_0 a0_1 a1 t103 _ ?side1 A3.out).mono ?_); (case side1 => exact gw_ HG); rintro e w114 ⟨rfl, hb⟩; refine ⟨_, rfl, ?_⟩; replace BK101 := kb_ BK101 hb; replace BK102 := kb_ BK102 hb; replace HB := bs_ hb; (try clear hb); (try clear hb2); (try clear hk); (try clear hi)))
     have n0_ := Aside0.mk (blk_drew BK101.out)
     have n1_ := Aside0.mk (blk_drew BK102.out)
     have n2_ := Aside0.mk (below_drew1 HB.out)
     clear BK101
     clear BK102
     clear HB
     have BK101 := n0_
     have BK102 := n1_
     have HB := n2_
     clear n0_ n1_ n2_
     refine start_ (n := 6) (S := fun w' => w'.cell? ⟨gb101, 0, none⟩ = some (.string a0_0) ∧ w'.cell? ⟨gb101, 1, none⟩ = some (.string a0_1)) (ds := []) #[false, false, false, false, false, false] (by kernel_rfl) rfl rfl ⟨(blk_cell BK101.out 0).trans rfl, (blk_cell BK101.out 1).trans rfl⟩ (fun hHeld => ?_)
     generalize w114.drew = w115 at BK101 BK102 HB hHeld ⊢
     refine pure_ (i := 0) (N := some 17) (v := ?_) (a' := ?_) #[true, false, false, false, false, false] rfl rfl (by kernel_rfl) (fun _ _ _ h => h) (Or.inl ⟨by rfl, ?_⟩) ?_ ?_
     rotate_left
     ·intro w'
      go_simp
      with_reducible rfl
     rotate_left
     ·simp only [Act.put, List.setIfInBounds_toArray, List.set_cons_zero, List.set_cons_succ, i64_w, i32_w]
      rfl
     refine pure_ (i := 2) (N := some 19) (v := ?_) (a' := ?_) #[true, false, true, false, false, false] rfl rfl (by kernel_rfl) (fun _ _ _ h => h) (Or.inl ⟨by rfl, ?_⟩) ?_ ?_
     rotate_left
     ·intro w'
      go_simp
      with_reducible rfl
     rotate_left
     ·simp only [Act.put, List.setIfInBounds_toArray, List.set_cons_zero, List.set_cons_succ, i64_w, i32_w]
      rfl
     refine take_ (i := 1) (N := some 18) (v := ?_) (a' := ?_) #[true, true, true, false, false, false] rfl rfl (by kernel_rfl) (fun _ _ _ h => h) (Or.inl ⟨by rfl, ?_⟩) hHeld ?_ ?_
     rotate_left
     ·rintro w' ⟨s0, s1⟩
      go_simp
      with_reducible rfl
     rotate_left
     ·simp only [Act.put, List.setIfInBounds_toArray, List.set_cons_zero, List.set_cons_succ, i64_w, i32_w]
      rfl
     refine one_ (i := 3) (N := some 20) #[true, true, true, true, false, false] rfl rfl (by kernel_rfl) (by decide) (fun K hK => ?_)
     refine goes_ Tryz.func59 (by kernel_rfl) rfl #[.int .i64 a1] (by rfl) rfl rfl mp_ ?_
     with_reducible refine (whole_Of.calls a1 t104 _ ?side1 A5.out).mono ?_
     (case side1 => exact gw_ HG)
     rintro e w116 ⟨rfl, hb⟩
     refine ⟨_, rfl, ?_⟩
     have n0_ := kb_ BK101 hb
     have n1_ := kb_ BK102 hb
     have n2_ := bs_ hb
     clear BK101
     clear BK102
     clear HB
     have BK101 := n0_
     have BK102 := n1_
     have HB := n2_
     clear n0_ n1_ n2_
     (try clear hb); (try clear hb2); (try clear hk); (try clear hi)
     refine hK.out _ _ ⟨(blk_cell BK101.out 0).trans rfl, (blk_cell BK101.out 1).trans rfl⟩ (fun hHeld => ?_)
     clear hK K
     refine norm_ (a' := ?_) ?_ ?_
     rotate_left
     ·show Act.put _ (some 20) _ = _
      simp only [Act.put, List.setIfInBounds_toArray, List.set_cons_zero, List.set_cons_succ, i64_w, i32_w]
      rfl
     refine one_ (i := 4) (N := some 21) #[true, true, true, true, true, false] rfl rfl (by kernel_rfl) (by decide) (fun K hK => ?_)
     refine goes_ Tryz.func58 (by kernel_rfl) rfl #[.string a0_1, .string t104] (by rfl) rfl rfl mp_ ?_
     with_reducible refine (whole_Compare.calls a0_1 t104 t105 _ A6.out).mono ?_
     rintro e w117 ⟨rfl, hb⟩
     refine ⟨_, rfl, ?_⟩
     have n0_ := kb_ BK101 hb
     have n1_ := kb_ BK102 hb
     have n2_ := bs_ hb
     clear BK101
     clear BK102
     clear HB
     have BK101 := n0_
     have BK102 := n1_
     have HB := n2_
     clear n0_ n1_ n2_
     (try clear hb); (try clear hb2); (try clear hk); (try clear hi)
     refine hK.out _ _ ⟨(blk_cell BK101.out 0).trans rfl, (blk_cell BK101.out 1).trans rfl⟩ (fun hHeld => ?_)
     clear hK K
     refine norm_ (a' := ?_) ?_ ?_
     rotate_left
     ·show Act.put _ (some 21) _ = _
      simp only [Act.put, List.setIfInBounds_toArray, List.set_cons_zero, List.set_cons_succ, i64_w, i32_w]
      rfl
     refine pure_ (i := 5) (N := some 22) (v := ?_) (a' := ?_) #[true, true, true, true, true, true] rfl rfl (by kernel_rfl) (fun _ _ _ h => h) (Or.inl ⟨by rfl, ?_⟩) ?_ ?_
     rotate_left
     ·intro w'
      go_simp
      with_reducible rfl
     rotate_left
     ·simp only [Act.put, List.setIfInBounds_toArray, List.set_cons_zero, List.set_cons_succ, i64_w, i32_w]
      rfl
     refine done_ (by kernel_rfl) ?_
     have hcz118_0 : w117.cell? ⟨gb101, 0, none⟩ = some (.string a0_0) := (blk_cell BK101.out 0).trans rfl
     have hcz118_1 : w117.cell? ⟨gb101, 1, none⟩ = some (.string a0_1) := (blk_cell BK101.out 1).trans rfl
     have hfz118_0 := blk_frozen BK101.out 0
     have hfz118_1 := blk_frozen BK101.out 1
     try go_wp2_with (first | ((with_reducible refine gate_callee (f := 60) rfl ?_); refine goesL_ (some 27) rfl rfl Tryz.func60 (by kernel_rfl) rfl #[.agg #[.string a0_0, .string a0_1], .int .i64 a1] rfl mp_ ?_; (with_reducible refine (convergent_around.calls a0_0 a0_1 a1 t106 t107 t108 t109 _ ?side1 A18.out).mono ?_); (case side1 => exact gw_ HG); rintro e w119 ⟨rfl, hb⟩; refine ⟨_, rfl, ?_⟩; replace BK101 := kb_ BK101 hb; replace BK102 := kb_ BK102 hb; replace HB := bs_ hb; (try clear hb); (try clear hb2); (try clear hk); (try clear hi)) | ((with_reducible refine gate_dst (N := 7) rfl ?_); refine box_event ?hg (N := 7) ?hd (cs := #[.string (⟨#[]⟩ : ByteArray), .string (⟨#[]⟩ : ByteArray)]) (t := 24) ?hr ?_; (case hd => rfl); (case hg => rfl); (case hr => first | (go_simp; done) | (go_simp; rfl)); intro gb110 hg w120 hbox hb; have BK110 := Aside0.mk (hbox); have GW110 := ge_ (w := w) hg; have GE110 := ge_ (w := w) hg; replace HB := bs_ hb; have NB101_110 := nl_ hg BK101; have NB110_101 := ng_ hg BK101; replace BK101 := kb_ BK101 hb; have NB102_110 := nl_ hg BK102; have NB110_102 := ng_ hg BK102; replace BK102 := kb_ BK102 hb; clear hb hbox hg) | ((with_reducible refine gate_dst (N := 8) rfl ?_); refine box_event ?hg (N := 8) ?hd (cs := #[.string (⟨#[]⟩ : ByteArray), .string (⟨#[]⟩ : ByteArray)]) (t := 24) ?hr ?_; (case hd => rfl); (case hg => rfl); (case hr => first | (go_simp; done) | (go_simp; rfl)); intro gb111 hg w121 hbox hb; have BK111 := Aside0.mk (hbox); have GW111 := ge_ (w := w) hg; have GE111 := ge_ (w := w) hg; replace HB := bs_ hb; have NB101_111 := nl_ hg BK101; have NB111_101 := ng_ hg BK101; replace BK101 := kb_ BK101 hb; have NB102_111 := nl_ hg BK102; have NB111_102 := ng_ hg BK102; replace BK102 := kb_ BK102 hb; have NB110_111 := nl_ hg BK110; have NB111_110 := ng_ hg BK110; replace BK110 := kb_ BK110 hb; clear hb hbox hg; have hnb122 := NB110_101.out; have hnc122 := NB101_110.out; have hnb123 := NB110_102.out; have hnc123 := NB102_110.out; have hnb124 := NB110_111.out; have hnc124 := NB111_110.out; obtain ⟨hcz125_0, hcz125_1, hfz125_0, hfz125_1⟩ := c2_ BK110; have hnb126 := NB111_101.out; have hnc126 := NB101_111.out; have hnb127 := NB111_102.out; have hnc127 := NB102_111.out; obtain ⟨hcz128_0, hcz128_1, hfz128_0, hfz128_1⟩ := c2_ BK111))
     have n0_ : Aside0 (((((w121.setCell ⟨gb110, 0, none⟩ (.string t106)).setCell ⟨gb110, 1, none⟩ (.string t107)).setCell ⟨gb111, 0, none⟩ (.string t108)).setCell ⟨gb111, 1, none⟩ (.string t109)).heap[gb101]? = some (.cells #[.string a0_0, .string a0_1] 24 (0, 0))) := ⟨by (with_reducible repeat (first | refine blk_drewN ?_ _ | refine blk_drew ?_ | refine blk_alloc ?_ _)); refine blk_far ?_ NB101_111.out _; (with_reducible repeat (first | refine blk_drewN ?_ _ | refine blk_drew ?_ | refine blk_alloc ?_ _)); refine blk_far ?_ NB101_111.out _; (with_reducible repeat (first | refine blk_drewN ?_ _ | refine blk_drew ?_ | refine blk_alloc ?_ _)); refine blk_far ?_ NB101_110.out _; (with_reducible repeat (first | refine blk_drewN ?_ _ | refine blk_drew ?_ | refine blk_alloc ?_ _)); refine blk_far ?_ NB101_110.out _; (with_reducible repeat (first | refine blk_drewN ?_ _ | refine blk_drew ?_ | refine blk_alloc ?_ _)); exact BK101.out⟩
     have n1_ : Aside0 (((((w121.setCell ⟨gb110, 0, none⟩ (.string t106)).setCell ⟨gb110, 1, none⟩ (.string t107)).setCell ⟨gb111, 0, none⟩ (.string t108)).setCell ⟨gb111, 1, none⟩ (.string t109)).heap[gb102]? = some (.cells #[.string (⟨#[]⟩ : ByteArray), .string (⟨#[]⟩ : ByteArray)] 24 (0, 0))) := ⟨by (with_reducible repeat (first | refine blk_drewN ?_ _ | refine blk_drew ?_ | refine blk_alloc ?_ _)); refine blk_far ?_ NB102_111.out _; (with_reducible repeat (first | refine blk_drewN ?_ _ | refine blk_drew ?_ | refine blk_alloc ?_ _)); refine blk_far ?_ NB102_111.out _; (with_reducible repeat (first | refine blk_drewN ?_ _ | refine blk_drew ?_ | refine blk_alloc ?_ _)); refine blk_far ?_ NB102_110.out _; (with_reducible repeat (first | refine blk_drewN ?_ _ | refine blk_drew ?_ | refine blk_alloc ?_ _)); refine blk_far ?_ NB102_110.out _; (with_reducible repeat (first | refine blk_drewN ?_ _ | refine blk_drew ?_ | refine blk_alloc ?_ _)); exact BK102.out⟩
     have n2_ : Aside0 (((((w121.setCell ⟨gb110, 0, none⟩ (.string t106)).setCell ⟨gb110, 1, none⟩ (.string t107)).setCell ⟨gb111, 0, none⟩ (.string t108)).setCell ⟨gb111, 1, none⟩ (.string t109)).heap[gb110]? = some (.cells #[.string t106, .string t107] 24 (0, 0))) := ⟨by (with_reducible repeat (first | refine blk_drewN ?_ _ | refine blk_drew ?_ | refine blk_alloc ?_ _)); refine blk_far ?_ NB110_111.out _; (with_reducible repeat (first | refine blk_drewN ?_ _ | refine blk_drew ?_ | refine blk_alloc ?_ _)); refine blk_far ?_ NB110_111.out _; (with_reducible repeat (first | refine blk_drewN ?_ _ | refine blk_drew ?_ | refine blk_alloc ?_ _)); refine blk_put (cs := #[.string t106, .string (⟨#[]⟩ : ByteArray)]) ?_ 1 _ rfl; (with_reducible repeat (first | refine blk_drewN ?_ _ | refine blk_drew ?_ | refine blk_alloc ?_ _)); refine blk_put (cs := #[.string (⟨#[]⟩ : ByteArray), .string (⟨#[]⟩ : ByteArray)]) ?_ 0 _ rfl; (with_reducible repeat (first | refine blk_drewN ?_ _ | refine blk_drew ?_ | refine blk_alloc ?_ _)); exact BK110.out⟩
     have n3_ : Aside0 (((((w121.setCell ⟨gb110, 0, none⟩ (.string t106)).setCell ⟨gb110, 1, none⟩ (.string t107)).setCell ⟨gb111, 0, none⟩ (.string t108)).setCell ⟨gb111, 1, none⟩ (.string t109)).heap[gb111]? = some (.cells #[.string t108, .string t109] 24 (0, 0))) := ⟨by (with_reducible repeat (first | refine blk_drewN ?_ _ | refine blk_drew ?_ | refine blk_alloc ?_ _)); refine blk_put (cs := #[.string t108, .string (⟨#[]⟩ : ByteArray)]) ?_ 1 _ rfl; (with_reducible repeat (first | refine blk_drewN ?_ _ | refine blk_drew ?_ | refine blk_alloc ?_ _)); refine blk_put (cs := #[.string (⟨#[]⟩ : ByteArray), .string (⟨#[]⟩ : ByteArray)]) ?_ 0 _ rfl; (with_reducible repeat (first | refine blk_drewN ?_ _ | refine blk_drew ?_ | refine blk_alloc ?_ _)); refine blk_far ?_ NB111_110.out _; (with_reducible repeat (first | refine blk_drewN ?_ _ | refine blk_drew ?_ | refine blk_alloc ?_ _)); refine blk_far ?_ NB111_110.out _; (with_reducible repeat (first | refine blk_drewN ?_ _ | refine blk_drew ?_ | refine blk_alloc ?_ _)); exact BK111.out⟩
     have n4_ : Aside0 (Below w.heap.size w ((((w121.setCell ⟨gb110, 0, none⟩ (.string t106)).setCell ⟨gb110, 1, none⟩ (.string t107)).setCell ⟨gb111, 0, none⟩ (.string t108)).setCell ⟨gb111, 1, none⟩ (.string t109))) := ⟨bl_⟩
     (try clear BK101); (try clear BK102); (try clear BK110); (try clear BK111); (try clear HB)
     generalize ((((w121.setCell ⟨gb110, 0, none⟩ (.string t106)).setCell ⟨gb110, 1, none⟩ (.string t107)).setCell ⟨gb111, 0, none⟩ (.string t108)).setCell ⟨gb111, 1, none⟩ (.string t109)) = w129 at n0_ n1_ n2_ n3_ n4_ ⊢
     have BK101 := n0_
     have BK102 := n1_
     have BK110 := n2_
     have BK111 := n3_
     have HB := n4_
     clear n0_ n1_ n2_ n3_ n4_
     have n0_ := Aside0.mk (blk_drew BK101.out)
     have n1_ := Aside0.mk (blk_drew BK102.out)
     have n2_ := Aside0.mk (blk_drew BK110.out)
     have n3_ := Aside0.mk (blk_drew BK111.out)
     have n4_ := Aside0.mk (below_drew1 HB.out)
     clear BK101
     clear BK102
     clear BK110
     clear BK111
     clear HB
     have BK101 := n0_
     have BK102 := n1_
     have BK110 := n2_
     have BK111 := n3_
     have HB := n4_
     clear n0_ n1_ n2_ n3_ n4_
     refine start_ (n := 8) (S := fun w' => w'.cell? ⟨gb101, 0, none⟩ = some (.string a0_0) ∧ w'.cell? ⟨gb101, 1, none⟩ = some (.string a0_1) ∧ w'.cell? ⟨gb110, 0, none⟩ = some (.string t106) ∧ w'.cell? ⟨gb110, 1, none⟩ = some (.string t107) ∧ w'.cell? ⟨gb111, 0, none⟩ = some (.string t108) ∧ w'.cell? ⟨gb111, 1, none⟩ = some (.string t109)) (ds := []) #[false, false, false, false, false, false, false, false] (by kernel_rfl) rfl rfl ⟨(blk_cell BK101.out 0).trans rfl, (blk_cell BK101.out 1).trans rfl, (blk_cell BK110.out 0).trans rfl, (blk_cell BK110.out 1).trans rfl, (blk_cell BK111.out 0).trans rfl, (blk_cell BK111.out 1).trans rfl⟩ (fun hHeld => ?_); refine with_tabW convergent_Nearest.tab7 convergent_Nearest.bits7 (fun HT_ HW_ => ?_)
     generalize w129.drew = w130 at BK101 BK102 BK110 BK111 HB hHeld ⊢
     refine take_ (i := 0) (N := some 30) (v := ?_) (a' := ?_) #[true, false, false, false, false, false, false, false] rfl rfl (take_ofW HT_.out HW_.out (by kernel_rfl)) (fun _ _ _ h => h) (Or.inl ⟨by rfl, ?_⟩) hHeld ?_ ?_
     rotate_left
     ·rintro w' ⟨s0, s1, s2, s3, s4, s5⟩
      go_simp
      with_reducible rfl
     rotate_left
     ·simp only [Act.put, List.setIfInBounds_toArray, List.set_cons_zero, List.set_cons_succ, i64_w, i32_w]
      rfl
     refine take_ (i := 1) (N := some 31) (v := ?_) (a' := ?_) #[true, true, false, false, false, false, false, false] rfl rfl (take_ofW HT_.out HW_.out (by kernel_rfl)) (fun _ _ _ h => h) (Or.inl ⟨by rfl, ?_⟩) hHeld ?_ ?_
     rotate_left
     ·rintro w' ⟨s0, s1, s2, s3, s4, s5⟩
      go_simp
      with_reducible rfl
     rotate_left
     ·simp only [Act.put, List.setIfInBounds_toArray, List.set_cons_zero, List.set_cons_succ, i64_w, i32_w]
      rfl
     refine take_ (i := 3) (N := some 33) (v := ?_) (a' := ?_) #[true, true, false, true, false, false, false, false] rfl rfl (take_ofW HT_.out HW_.out (by kernel_rfl)) (fun _ _ _ h => h) (Or.inl ⟨by rfl, ?_⟩) hHeld ?_ ?_
     rotate_left
     ·rintro w' ⟨s0, s1, s2, s3, s4, s5⟩
      go_simp
      with_reducible rfl
     rotate_left
     ·simp only [Act.put, List.setIfInBounds_toArray, List.set_cons_zero, List.set_cons_succ, i64_w, i32_w]
      rfl
     refine take_ (i := 4) (N := some 34) (v := ?_) (a' := ?_) #[true, true, false, true, true, false, false, false] rfl rfl (take_ofW HT_.out HW_.out (by kernel_rfl)) (fun _ _ _ h => h) (Or.inl ⟨by rfl, ?_⟩) hHeld ?_ ?_
     rotate_left
     ·rintro w' ⟨s0, s1, s2, s3, s4, s5⟩
      go_simp
      with_reducible rfl
     rotate_left
     ·simp only [Act.put, List.setIfInBounds_toArray, List.set_cons_zero, List.set_cons_succ, i64_w, i32_w]
      rfl
     refine one_ (i := 2) (N := some 32) #[true, true, true, true, true, false, false, false] rfl rfl (one_of HT_.out (by kernel_rfl)) (by decide) (fun K hK => ?_)
     refine goes_ Tryz.func57 (by kernel_rfl) rfl #[.agg #[.string a0_0, .string a0_1], .agg #[.string t106, .string t107]] (by rfl) rfl rfl mp_ ?_
     with_reducible refine (convergent_distance.calls k a0_0 a0_1 t106 t107 t112 t113 _ ?side1 A19.out).mono ?_
     (case side1 => exact gw_ HG)
     rintro e w131 ⟨rfl, hb⟩
     refine ⟨_, rfl, ?_⟩
     have n0_ := kb_ BK101 hb
     have n1_ := kb_ BK102 hb
     have n2_ := kb_ BK110 hb
     have n3_ := kb_ BK111 hb
     have n4_ := bs_ hb
     clear BK101
     clear BK102
     clear BK110
     clear BK111
     clear HB
     have BK101 := n0_
     have BK102 := n1_
     have BK110 := n2_
     have BK111 := n3_
     have HB := n4_
     clear n0_ n1_ n2_ n3_ n4_
     (try clear hb); (try clear hb2); (try clear hk); (try clear hi)
     refine hK.out _ _ ⟨(blk_cell BK101.out 0).trans rfl, (blk_cell BK101.out 1).trans rfl, (blk_cell BK110.out 0).trans rfl, (blk_cell BK110.out 1).trans rfl, (blk_cell BK111.out 0).trans rfl, (blk_cell BK111.out 1).trans rfl⟩ (fun hHeld => ?_)
     clear hK K
     refine norm_ (a' := ?_) ?_ ?_
     rotate_left
     ·show Act.put _ (some 32) _ = _
      simp only [Act.put, List.setIfInBounds_toArray, List.set_cons_zero, List.set_cons_succ, i64_w, i32_w]
      rfl
     refine one_ (i := 5) (N := some 35) #[true, true, true, true, true, true, false, false] rfl rfl (one_of HT_.out (by kernel_rfl)) (by decide) (fun K hK => ?_)
     refine goes_ Tryz.func57 (by kernel_rfl) rfl #[.agg #[.string a0_0, .string a0_1], .agg #[.string t108, .string t109]] (by rfl) rfl rfl mp_ ?_
     with_reducible refine (convergent_distance.calls k a0_0 a0_1 t108 t109 t114 t115 _ ?side1 A20.out).mono ?_
     (case side1 => exact gw_ HG)
     rintro e w132 ⟨rfl, hb⟩
     refine ⟨_, rfl, ?_⟩
     have n0_ := kb_ BK101 hb
     have n1_ := kb_ BK102 hb
     have n2_ := kb_ BK110 hb
     have n3_ := kb_ BK111 hb
     have n4_ := bs_ hb
     clear BK101
     clear BK102
     clear BK110
     clear BK111
     clear HB
     have BK101 := n0_
     have BK102 := n1_
     have BK110 := n2_
     have BK111 := n3_
     have HB := n4_
     clear n0_ n1_ n2_ n3_ n4_
     (try clear hb); (try clear hb2); (try clear hk); (try clear hi)
     refine hK.out _ _ ⟨(blk_cell BK101.out 0).trans rfl, (blk_cell BK101.out 1).trans rfl, (blk_cell BK110.out 0).trans rfl, (blk_cell BK110.out 1).trans rfl, (blk_cell BK111.out 0).trans rfl, (blk_cell BK111.out 1).trans rfl⟩ (fun hHeld => ?_)
     clear hK K
     refine norm_ (a' := ?_) ?_ ?_
     rotate_left
     ·show Act.put _ (some 35) _ = _
      simp only [Act.put, List.setIfInBounds_toArray, List.set_cons_zero, List.set_cons_succ, i64_w, i32_w]
      rfl
     refine one_ (i := 6) (N := some 36) #[true, true, true, true, true, true, true, false] rfl rfl (one_of HT_.out (by kernel_rfl)) (by decide) (fun K hK => ?_)
     refine goes_ Tryz.func56 (by kernel_rfl) rfl #[.agg #[.string t112, .string t113], .agg #[.string t114, .string t115]] (by rfl) rfl rfl mp_ ?_
     with_reducible refine (fraction_Compare.calls k t112 t113 t114 t115 t116 _ ?side1 A21.out).mono ?_
     (case side1 => exact gw_ HG)
     rintro e w133 ⟨rfl, hb⟩
     refine ⟨_, rfl, ?_⟩
     have n0_ := kb_ BK101 hb
     have n1_ := kb_ BK102 hb
     have n2_ := kb_ BK110 hb
     have n3_ := kb_ BK111 hb
     have n4_ := bs_ hb
     clear BK101
     clear BK102
     clear BK110
     clear BK111
     clear HB
     have BK101 := n0_
     have BK102 := n1_
     have BK110 := n2_
     have BK111 := n3_
     have HB := n4_
     clear n0_ n1_ n2_ n3_ n4_
     (try clear hb); (try clear hb2); (try clear hk); (try clear hi)
     refine hK.out _ _ ⟨(blk_cell BK101.out 0).trans rfl, (blk_cell BK101.out 1).trans rfl, (blk_cell BK110.out 0).trans rfl, (blk_cell BK110.out 1).trans rfl, (blk_cell BK111.out 0).trans rfl, (blk_cell BK111.out 1).trans rfl⟩ (fun hHeld => ?_)
     clear hK K
     refine norm_ (a' := ?_) ?_ ?_
     rotate_left
     ·show Act.put _ (some 36) _ = _
      simp only [Act.put, List.setIfInBounds_toArray, List.set_cons_zero, List.set_cons_succ, i64_w, i32_w]
      rfl
     refine pure_ (i := 7) (N := some 9) (v := ?_) (a' := ?_) #[true, true, true, true, true, true, true, true] rfl rfl (any_of HT_.out (by kernel_rfl)) (fun _ _ _ h => h) (Or.inl ⟨by rfl, ?_⟩) ?_ ?_
     rotate_left
     ·intro w'
      go_simp
      with_reducible rfl
     rotate_left
     ·simp only [Act.put, List.setIfInBounds_toArray, List.set_cons_zero, List.set_cons_succ, i64_w, i32_w]
      rfl
     refine done_ (done_of HT_.out (by kernel_rfl)) ?_
     have hcz134_0 : w133.cell? ⟨gb111, 0, none⟩ = some (.string t108) := (blk_cell BK111.out 0).trans rfl
     have hcz134_1 : w133.cell? ⟨gb111, 1, none⟩ = some (.string t109) := (blk_cell BK111.out 1).trans rfl
     have hfz134_0 := blk_frozen BK111.out 0
     have hfz134_1 := blk_frozen BK111.out 1
     have hcz135_0 : w133.cell? ⟨gb102, 0, none⟩ = some (.string (⟨#[]⟩ : ByteArray)) := (blk_cell BK102.out 0).trans rfl
     have hcz135_1 : w133.cell? ⟨gb102, 1, none⟩ = some (.string (⟨#[]⟩ : ByteArray)) := (blk_cell BK102.out 1).trans rfl
     have hfz135_0 := blk_frozen BK102.out 0
     have hfz135_1 := blk_frozen BK102.out 1
     try go_wp2
     refine bodyPost_ret (results_ct rfl _ _ gb102 24 #[.string t108, .string t109] (0, 0) _ rfl (by (with_reducible repeat (first | refine blk_drewN ?_ _ | refine blk_drew ?_ | refine blk_alloc ?_ _)); refine blk_put (cs := #[.string t108, .string (⟨#[]⟩ : ByteArray)]) ?_ 1 _ rfl; (with_reducible repeat (first | refine blk_drewN ?_ _ | refine blk_drew ?_ | refine blk_alloc ?_ _)); refine blk_put (cs := #[.string (⟨#[]⟩ : ByteArray), .string (⟨#[]⟩ : ByteArray)]) ?_ 0 _ rfl; (with_reducible repeat (first | refine blk_drewN ?_ _ | refine blk_drew ?_ | refine blk_alloc ?_ _)); exact BK102.out) Tryz.underlying24 rfl (by kernel_rfl)) rfl ?_
     exact ⟨er_, bl_⟩
 ·rw [if_neg c4] at H
  have c4b0 : (t103 == 0) = false := beq_eq_false_iff_ne.mpr c4
  have c4b1 : (t103 != 0) = true := bne_iff_ne.mpr c4
  simp only [Option.some.injEq, Prod.mk.injEq] at H
  obtain ⟨rfl, rfl, rfl⟩ := H
  go_enter Tryz.func29, Tryz.ntmps29
  go_wp2_with (first | ((with_reducible refine gate_dst (N := 2) rfl ?_); refine bx_ 2 #[.string a0_0, .string a0_1] 24 ?_; clear HB; intro gb101 w136 BK101 GW101 HB; have GE101 := GW101) | ((with_reducible refine gate_dst (N := 4) rfl ?_); refine box_event ?hg (N := 4) ?hd (cs := #[.string (⟨#[]⟩ : ByteArray), .string (⟨#[]⟩ : ByteArray)]) (t := 24) ?hr ?_; (case hd => rfl); (case hg => rfl); (case hr => first | (go_simp; done) | (go_simp; rfl)); intro gb102 hg w137 hbox hb; have BK102 := Aside0.mk (hbox); have GW102 := ge_ (w := w) hg; have GE102 := ge_ (w := w) hg; replace HB := bs_ hb; have NB101_102 := nl_ hg BK101; have NB102_101 := ng_ hg BK101; replace BK101 := kb_ BK101 hb; clear hb hbox hg; have hnb138 := NB101_102.out; have hnc138 := NB102_101.out; obtain ⟨hcz139_0, hcz139_1, hfz139_0, hfz139_1⟩ := c2_ BK101) | ((with_reducible refine gate_callee (f := 51) rfl ?_); refine goesL_ (some 12) rfl rfl Tryz.func51 (by kernel_rfl) rfl #[.agg #[.string a0_0, .string a0_1], .int .i64 a1] rfl mp_ ?_; (with_reducible refine (convergent_bounded.calls k a0_0 a0_1 a1 t103 _ ?side1 A3.out).mono ?_); (case side1 => exact gw_ HG); rintro e w140 ⟨rfl, hb⟩; refine ⟨_, rfl, ?_⟩; replace BK101 := kb_ BK101 hb; replace BK102 := kb_ BK102 hb; replace HB := bs_ hb; (try clear hb); (try clear hb2); (try clear hk); (try clear hi); obtain ⟨hcz141_0, hcz141_1, hfz141_0, hfz141_1⟩ := c2_ BK102))
  refine bodyPost_ret (results_ct rfl _ _ gb102 24 #[.string (⟨#[]⟩ : ByteArray), .string (⟨#[]⟩ : ByteArray)] (0, 0) _ rfl (by (with_reducible repeat (first | refine blk_drewN ?_ _ | refine blk_drew ?_ | refine blk_alloc ?_ _)); refine blk_put (cs := #[.string (⟨#[]⟩ : ByteArray), .string (⟨#[]⟩ : ByteArray)]) ?_ 1 _ rfl; (with_reducible repeat (first | refine blk_drewN ?_ _ | refine blk_drew ?_ | refine blk_alloc ?_ _)); refine blk_put (cs := #[.string (⟨#[]⟩ : ByteArray), .string (⟨#[]⟩ : ByteArray)]) ?_ 0 _ rfl; (with_reducible repeat (first | refine blk_drewN ?_ _ | refine blk_drew ?_ | refine blk_alloc ?_ _)); exact BK102.out) Tryz.underlying24 rfl (by kernel_rfl)) rfl ?_
  exact ⟨er_, bl_⟩
end Go.Proofs.YtidajgkepdkcbaaGreatDoor.PL
end
section
namespace Go.Proofs.YtidajgkepdkcbaaGreatDoor.PL
open Go.RowKit Go.Proofs.YtidajgkepdkcbaaGreatDoorW.PrintWords Go.Proofs.YtidajgkepdkcbaaGreatDoorW.PrintLast Go.Proofs.YtidajgkepdkcbaaGreatDoorW.PrintMore Go.Proofs.YtidajgkepdkcbaaGreatDoor.PF
attribute [local go_sem] max2_int min2_int max_two min_two max_three min_three max_four min_four
attribute [local go_sem high] eqA24
mutual
noncomputable def schismalaw04_ConvergentBests.j0 : Nat → Int → Bool → ByteArray → ByteArray → Option (Bool)
 | 0, _, _, _, _ => none
 | k + 1, x1, x21, x119000, x119001 => if x21 = true then ((schismalaw04_known.f k).bind fun t121 => (some t121)) else ((schismaref04_Parts.f k x119000 x119001).bind fun bt122 => (if x1 ≥ 1 then (schismalaw04_ConvergentBests.j1 k x1 bt122.1 bt122.2.1 bt122.2.2 (decide (x1 ≤ 1000000)) x119000 x119001) else (schismalaw04_ConvergentBests.j1 k x1 bt122.1 bt122.2.1 bt122.2.2 false x119000 x119001)))
noncomputable def schismalaw04_ConvergentBests.j1 : Nat → Int → Int → Int → Bool → Bool → ByteArray → ByteArray → Option (Bool)
 | 0, _, _, _, _, _, _, _ => none
 | k + 1, x1, x5, x6, x7, x8, x119000, x119001 => if x7 = true then (if x8 = true then (schismalaw04_ConvergentBests.j2 k x1 x5 x6 x7 x8 (decide (x1 > 60)) x119000 x119001) else (schismalaw04_ConvergentBests.j2 k x1 x5 x6 x7 x8 false x119000 x119001)) else (schismalaw04_ConvergentBests.j2 k x1 x5 x6 x7 x8 false x119000 x119001)
noncomputable def schismalaw04_ConvergentBests.j2 : Nat → Int → Int → Int → Bool → Bool → Bool → ByteArray → ByteArray → Option (Bool)
 | 0, _, _, _, _, _, _, _, _ => none
 | k + 1, x1, x5, x6, x7, x8, x42, x119000, x119001 => if x42 = true then (some true) else ((convergent_Best.f k x119000 x119001 x1).bind fun bt125 => ((convergent_Nearest.f k x119000 x119001 x1).bind fun bt129 => (if x7 = true then (schismalaw04_ConvergentBests.j3 k x1 x5 x6 x7 bt125.1 bt125.2 bt129.2.2 (!x8) bt129.1 bt129.2.1) else (schismalaw04_ConvergentBests.j3 k x1 x5 x6 x7 bt125.1 bt125.2 bt129.2.2 true bt129.1 bt129.2.1))))
noncomputable def schismalaw04_ConvergentBests.j3 : Nat → Int → Int → Int → Bool → List (S24) → Int → Int → Bool → ByteArray → ByteArray → Option (Bool)
 | 0, _, _, _, _, _, _, _, _, _, _ => none
 | k + 1, x1, x5, x6, x7, x9, x10, x12, x60, x133000, x133001 => if x60 = true then (if x7 = true then (if (x9.length : Int) = 0 then (if x10 = 3 then ((schismalaw04_none.f x133000 x133001).bind fun t133 => (if t133 = true then (some (x12 == 3)) else (some false))) else (some false)) else (some false)) else (if (x9.length : Int) = 0 then (if x10 = 2 then ((schismalaw04_none.f x133000 x133001).bind fun t134 => (if t134 = true then (some (x12 == 2)) else (some false))) else (some false)) else (some false))) else ((schismaref04_Best.f k x5 x6 x1).bind fun t135 => ((schismalaw04_same.f k x9 t135).bind fun t138 => (if t138 = true then (if x10 = 0 then (if 0 ≤ (wrap64 ((t135.length : Int) - 1)) then (if (wrap64 ((t135.length : Int) - 1)) < (t135.length : Int) then (if (x133000.toList == (((rd_T24 t135 (wrap64 ((t135.length : Int) - 1))).f0).toList) && (x133001.toList == (((rd_T24 t135 (wrap64 ((t135.length : Int) - 1))).f1).toList))) = true then (some (x12 == 0)) else (some false)) else (none)) else (none)) else (some false)) else (some false))))
end
noncomputable def schismalaw04_ConvergentBests.f (k : Nat) (a0_0 : ByteArray) (a0_1 : ByteArray) (a1 : Int) : Option (Bool) := (schismalaw04_known.f k).bind fun t119 => (if t119 = true then ((schismalaw04_small.f a0_0 a0_1).bind fun t120 => (schismalaw04_ConvergentBests.j0 k a1 (!t120) a0_0 a0_1)) else (schismalaw04_ConvergentBests.j0 k a1 true a0_0 a0_1))
set_option maxHeartbeats 8000000 in
set_option maxRecDepth 100000 in
theorem schismalaw04_ConvergentBests.calls (k : Nat) (a0_0 : ByteArray) (a0_1 : ByteArray) (a1 : Int) (r : Bool) (w : World) (hG_ : GWorld w) (h : schismalaw04_ConvergentBests.f k a0_0 a0_1 a1 = some r) :
  Calls Tryz.prog 6 #[.agg #[.string a0_0, .string a0_1], .int .i64 a1] w fun e w' => e = .returned (.bool r) ∧ Below w.heap.size w w' := by
 have hu24 := Tryz.underlying24
 have HB := Aside0.mk (Below.refl w.heap.size w)
 have HG := Aside0.mk hG_
 clear hG_
 have H : ((schismalaw04_known.f k).bind fun t119 => (if t119 = true then ((schismalaw04_small.f a0_0 a0_1).bind fun t120 => (schismalaw04_ConvergentBests.j0 k a1 (!t120) a0_0 a0_1)) else (schismalaw04_ConvergentBests.j0 k a1 true a0_0 a0_1))) = some r := h
 clear h
 have HC3 := Aside0.mk H
 clear H
 go_enter Tryz.func6, Tryz.ntmps6
 go_upto_region 1 with (first | ((with_reducible refine gate_dst (N := 2) rfl ?_); (try (refine gate_guard (by rfl) ?_; dsimp only)); refine bx_ 2 #[.string a0_0, .string a0_1] 24 ?_; clear HB; intro gb118 w4 BK118 GW118 HB; have GE118 := GW118))
 repeat (go_quiet (first | ((with_reducible refine gate_dst (N := 2) rfl ?_); (try (refine gate_guard (by rfl) ?_; dsimp only)); refine bx_ 2 #[.string a0_0, .string a0_1] 24 ?_; clear HB; intro gb118 w4 BK118 GW118 HB; have GE118 := GW118)); go_upto_region 1 with (first | ((with_reducible refine gate_dst (N := 2) rfl ?_); (try (refine gate_guard (by rfl) ?_; dsimp only)); refine bx_ 2 #[.string a0_0, .string a0_1] 24 ?_; clear HB; intro gb118 w4 BK118 GW118 HB; have GE118 := GW118)))
 (try simp only [Act.put, List.setIfInBounds_toArray, List.set_cons_zero, List.set_cons_succ])
 go_cut [21] (fun v21 wc => ∃ (kq : Nat) (x21_2 : Bool), v21 = .bool x21_2 ∧ Aside0 (schismalaw04_ConvergentBests.j0 kq a1 x21_2 a0_0 a0_1 = some r) ∧ Aside0 (kq ≤ k) ∧ Aside0 (wc.heap[gb118]? = some (.cells #[.string a0_0, .string a0_1] 24 (0, 0))) ∧ Aside0 (Below w.heap.size w wc))
 case first =>
  have H := HC3.out
  clear HC3
  replace H := Option.bind_eq_some_iff.mp H
  obtain ⟨t119, A50, H⟩ := H
  replace H : (if t119 = true then ((schismalaw04_small.f a0_0 a0_1).bind fun t120 => (schismalaw04_ConvergentBests.j0 k a1 (!t120) a0_0 a0_1)) else (schismalaw04_ConvergentBests.j0 k a1 true a0_0 a0_1)) = some r := H
  have A5 := Aside0.mk A50
  clear A50
  by_cases c6 : t119 = true
  ·subst c6
   have H1 : ((schismalaw04_small.f a0_0 a0_1).bind fun t120 => (schismalaw04_ConvergentBests.j0 k a1 (!t120) a0_0 a0_1)) = some r := by rw [if_pos rfl] at H; exact H
   clear H
   have H := H1
   clear H1
   replace H := Option.bind_eq_some_iff.mp H
   obtain ⟨t120, A70, H⟩ := H
   replace H : (schismalaw04_ConvergentBests.j0 k a1 (!t120) a0_0 a0_1) = some r := H
   have A7 := Aside0.mk A70
   clear A70
   have H' := Aside0.mk H
   clear H
   go_wp2_with (first | (go_at_call 13; (with_reducible refine (schismalaw04_known.calls k  true _ ?side1 A5.out).mono ?_); (case side1 => exact gw_ HG); rintro e w8 ⟨rfl, hb⟩; replace BK118 := kb_ BK118 hb; replace HB := bs_ hb; (try clear hb); (try clear hb2); (try clear hk); (try clear hi); obtain ⟨hcz9_0, hcz9_1, hfz9_0, hfz9_1⟩ := c2_ BK118) | (go_at_call 27; (with_reducible refine (schismalaw04_small.calls a0_0 a0_1 t120 _ A7.out).mono ?_); rintro e w10 ⟨rfl, hb⟩; replace BK118 := kb_ BK118 hb; replace HB := bs_ hb; (try clear hb); (try clear hb2); (try clear hk); (try clear hi)))
   repeat (go_quiet (first | (go_at_call 13; (with_reducible refine (schismalaw04_known.calls k  true _ ?side1 A5.out).mono ?_); (case side1 => exact gw_ HG); rintro e w8 ⟨rfl, hb⟩; replace BK118 := kb_ BK118 hb; replace HB := bs_ hb; (try clear hb); (try clear hb2); (try clear hk); (try clear hi); obtain ⟨hcz9_0, hcz9_1, hfz9_0, hfz9_1⟩ := c2_ BK118) | (go_at_call 27; (with_reducible refine (schismalaw04_small.calls a0_0 a0_1 t120 _ A7.out).mono ?_); rintro e w10 ⟨rfl, hb⟩; replace BK118 := kb_ BK118 hb; replace HB := bs_ hb; (try clear hb); (try clear hb2); (try clear hk); (try clear hi))); try go_wp2_with (first | (go_at_call 13; (with_reducible refine (schismalaw04_known.calls k  true _ ?side1 A5.out).mono ?_); (case side1 => exact gw_ HG); rintro e w8 ⟨rfl, hb⟩; replace BK118 := kb_ BK118 hb; replace HB := bs_ hb; (try clear hb); (try clear hb2); (try clear hk); (try clear hi); obtain ⟨hcz9_0, hcz9_1, hfz9_0, hfz9_1⟩ := c2_ BK118) | (go_at_call 27; (with_reducible refine (schismalaw04_small.calls a0_0 a0_1 t120 _ A7.out).mono ?_); rintro e w10 ⟨rfl, hb⟩; replace BK118 := kb_ BK118 hb; replace HB := bs_ hb; (try clear hb); (try clear hb2); (try clear hk); (try clear hi))))
   go_meet
   case rel => exact ⟨_, (!t120), (by first | rfl | (simp; done) | (simp [*]; done)), H', ⟨by first | omega | exact Nat.le_refl _⟩, ⟨bk_⟩, ⟨bl_⟩⟩
  ·replace c6 := Bool.eq_false_iff.mpr c6
   subst c6
   have H1 : (schismalaw04_ConvergentBests.j0 k a1 true a0_0 a0_1) = some r := by rw [if_neg (show ¬ (false = true) by decide)] at H; exact H
   clear H
   have H := H1
   clear H1
   have H' := Aside0.mk H
   clear H
   go_wp2_with (first | (go_at_call 13; (with_reducible refine (schismalaw04_known.calls k  false _ ?side1 A5.out).mono ?_); (case side1 => exact gw_ HG); rintro e w11 ⟨rfl, hb⟩; replace BK118 := kb_ BK118 hb; replace HB := bs_ hb; (try clear hb); (try clear hb2); (try clear hk); (try clear hi)))
   repeat (go_quiet (first | (go_at_call 13; (with_reducible refine (schismalaw04_known.calls k  false _ ?side1 A5.out).mono ?_); (case side1 => exact gw_ HG); rintro e w11 ⟨rfl, hb⟩; replace BK118 := kb_ BK118 hb; replace HB := bs_ hb; (try clear hb); (try clear hb2); (try clear hk); (try clear hi))); try go_wp2_with (first | (go_at_call 13; (with_reducible refine (schismalaw04_known.calls k  false _ ?side1 A5.out).mono ?_); (case side1 => exact gw_ HG); rintro e w11 ⟨rfl, hb⟩; replace BK118 := kb_ BK118 hb; replace HB := bs_ hb; (try clear hb); (try clear hb2); (try clear hk); (try clear hi))))
   go_meet
   case rel => exact ⟨_, (true), (by first | rfl | (simp; done) | (simp [*]; done)), H', ⟨by first | omega | exact Nat.le_refl _⟩, ⟨bk_⟩, ⟨bl_⟩⟩
 case rest =>
  clear HC3
  try clear p2
  try clear c6
  try clear hcz9_0
  try clear hcz9_1
  try clear hfz9_0
  try clear hfz9_1
  obtain ⟨kq, x21_2, rfl, HA, HJ2, BK118, HB⟩ := hcut
  cases kq with
  | zero => exact absurd HA.out (by simp [schismalaw04_ConvergentBests.j0])
  | succ kj2 =>
   have H := HA.out
   clear HA
   simp only [schismalaw04_ConvergentBests.j0] at H
   by_cases c12 : x21_2 = true
   ·subst c12
    have H1 : ((schismalaw04_known.f kj2).bind fun t121 => (some t121)) = some r := by rw [if_pos rfl] at H; exact H
    clear H
    have H := H1
    clear H1
    replace H := Option.bind_eq_some_iff.mp H
    obtain ⟨t121, A130, H⟩ := H
    replace H : (some t121) = some r := H
    have A13 := Aside0.mk A130
    clear A130
    obtain rfl := Option.some.inj H
    go_wp2_with (first | (go_at_call 13; (with_reducible refine (schismalaw04_known.calls kj2  t121 _ ?side1 A13.out).mono ?_); (case side1 => exact gw_ HG); rintro e w14 ⟨rfl, hb⟩; replace BK118 := kb_ BK118 hb; replace HB := bs_ hb; (try clear hb); (try clear hb2); (try clear hk); (try clear hi)))
    repeat (go_quiet (first | (go_at_call 13; (with_reducible refine (schismalaw04_known.calls kj2  t121 _ ?side1 A13.out).mono ?_); (case side1 => exact gw_ HG); rintro e w14 ⟨rfl, hb⟩; replace BK118 := kb_ BK118 hb; replace HB := bs_ hb; (try clear hb); (try clear hb2); (try clear hk); (try clear hi))); try go_wp2_with (first | (go_at_call 13; (with_reducible refine (schismalaw04_known.calls kj2  t121 _ ?side1 A13.out).mono ?_); (case side1 => exact gw_ HG); rintro e w14 ⟨rfl, hb⟩; replace BK118 := kb_ BK118 hb; replace HB := bs_ hb; (try clear hb); (try clear hb2); (try clear hk); (try clear hi))))
    go_ret
    exact ⟨er_, bl_⟩
   ·replace c12 := Bool.eq_false_iff.mpr c12
    subst c12
    have H1 : ((schismaref04_Parts.f kj2 a0_0 a0_1).bind fun bt122 => (if a1 ≥ 1 then (schismalaw04_ConvergentBests.j1 kj2 a1 bt122.1 bt122.2.1 bt122.2.2 (decide (a1 ≤ 1000000)) a0_0 a0_1) else (schismalaw04_ConvergentBests.j1 kj2 a1 bt122.1 bt122.2.1 bt122.2.2 false a0_0 a0_1))) = some r := by rw [if_neg (show ¬ (false = true) by decide)] at H; exact H
    clear H
    have H := H1
    clear H1
    replace H := Option.bind_eq_some_iff.mp H
    obtain ⟨⟨t122, t123, t124⟩, A150, H⟩ := H
    replace H : (if a1 ≥ 1 then (schismalaw04_ConvergentBests.j1 kj2 a1 t122 t123 t124 (decide (a1 ≤ 1000000)) a0_0 a0_1) else (schismalaw04_ConvergentBests.j1 kj2 a1 t122 t123 t124 false a0_0 a0_1)) = some r := H
    have A15 := Aside0.mk A150
    clear A150
    have HC16 := Aside0.mk H
    clear H
    have hcz17_0 : wc.cell? ⟨gb118, 0, none⟩ = some (.string a0_0) := (blk_cell BK118.out 0).trans rfl
    have hcz17_1 : wc.cell? ⟨gb118, 1, none⟩ = some (.string a0_1) := (blk_cell BK118.out 1).trans rfl
    have hfz17_0 := blk_frozen BK118.out 0
    have hfz17_1 := blk_frozen BK118.out 1
    go_upto_region 4 with (first | (go_at_call 15; (with_reducible refine (schismaref04_Parts.calls kj2 a0_0 a0_1 t122 t123 t124 _ A15.out).mono ?_); rintro e w18 ⟨rfl, hb⟩; replace BK118 := kb_ BK118 hb; replace HB := bs_ hb; (try clear hb); (try clear hb2); (try clear hk); (try clear hi)))
    repeat (go_quiet (first | (go_at_call 15; (with_reducible refine (schismaref04_Parts.calls kj2 a0_0 a0_1 t122 t123 t124 _ A15.out).mono ?_); rintro e w18 ⟨rfl, hb⟩; replace BK118 := kb_ BK118 hb; replace HB := bs_ hb; (try clear hb); (try clear hb2); (try clear hk); (try clear hi))); go_upto_region 4 with (first | (go_at_call 15; (with_reducible refine (schismaref04_Parts.calls kj2 a0_0 a0_1 t122 t123 t124 _ A15.out).mono ?_); rintro e w18 ⟨rfl, hb⟩; replace BK118 := kb_ BK118 hb; replace HB := bs_ hb; (try clear hb); (try clear hb2); (try clear hk); (try clear hi))))
    (try simp only [Act.put, List.setIfInBounds_toArray, List.set_cons_zero, List.set_cons_succ])
    go_cut [8] (fun v8 wc => ∃ (kq : Nat) (x8_15 : Bool), v8 = .bool x8_15 ∧ Aside0 (schismalaw04_ConvergentBests.j1 kq a1 t122 t123 t124 x8_15 a0_0 a0_1 = some r) ∧ Aside0 (kq ≤ kj2) ∧ Aside0 (wc.heap[gb118]? = some (.cells #[.string a0_0, .string a0_1] 24 (0, 0))) ∧ Aside0 (Below w.heap.size w wc))
    case first =>
     have H := HC16.out
     clear HC16
     by_cases c19 : a1 ≥ 1
     ·rw [if_pos c19] at H
      have c19b0 : decide (1 ≤ a1) = true := decide_eq_true c19
      clear c19
      (first | rw [c19b0] | (simp only [i64_w, i32_w]; rw [c19b0]) | skip)
      have H' := Aside0.mk H
      clear H
      go_wp2
      repeat (go_quiet (fail); try go_wp2)
      go_meet
      case rel => exact ⟨_, (decide (a1 ≤ 1000000)), (by first | rfl | (simp; done) | (simp [*]; done)), H', ⟨by have := HJ2.out; first | omega | exact Nat.le_refl _⟩, ⟨bk_⟩, ⟨bl_⟩⟩
     ·rw [if_neg c19] at H
      have c19b0 : decide (1 ≤ a1) = false := decide_eq_false c19
      clear c19
      (first | rw [c19b0] | (simp only [i64_w, i32_w]; rw [c19b0]) | skip)
      have H' := Aside0.mk H
      clear H
      go_wp2
      repeat (go_quiet (fail); try go_wp2)
      go_meet
      case rel => exact ⟨_, (false), (by first | rfl | (simp; done) | (simp [*]; done)), H', ⟨by have := HJ2.out; first | omega | exact Nat.le_refl _⟩, ⟨bk_⟩, ⟨bl_⟩⟩
    case rest =>
     clear HC16
     try clear c1
     try clear p2
     try clear c6
     try clear c12
     try clear c19
     try clear c19b0
     try clear hcz17_0
     try clear hcz17_1
     try clear hcz9_0
     try clear hcz9_1
     try clear hfz17_0
     try clear hfz17_1
     try clear hfz9_0
     try clear hfz9_1
     try clear p2
     obtain ⟨kq, x8_15, rfl, HA, HJ15, BK118, HB⟩ := hcut
     cases kq with
     | zero => exact absurd HA.out (by simp [schismalaw04_ConvergentBests.j1])
     | succ kj15 =>
      have H := HA.out
      clear HA
      simp only [schismalaw04_ConvergentBests.j1] at H
      have HC20 := Aside0.mk H
      clear H
      go_upto_region 5 with (fail)
      repeat (go_quiet (fail); go_upto_region 5 with (fail))
      go_cut [42] (fun v42 wc => ∃ (kq : Nat) (x42_19 : Bool), v42 = .bool x42_19 ∧ Aside0 (schismalaw04_ConvergentBests.j2 kq a1 t122 t123 t124 x8_15 x42_19 a0_0 a0_1 = some r) ∧ Aside0 (kq ≤ kj15) ∧ Aside0 (wc.heap[gb118]? = some (.cells #[.string a0_0, .string a0_1] 24 (0, 0))) ∧ Aside0 (Below w.heap.size w wc))
      case first =>
       have H := HC20.out
       clear HC20
       by_cases c21 : t124 = true
       ·subst c21
        have H1 : (if x8_15 = true then (schismalaw04_ConvergentBests.j2 kj15 a1 t122 t123 true x8_15 (decide (a1 > 60)) a0_0 a0_1) else (schismalaw04_ConvergentBests.j2 kj15 a1 t122 t123 true x8_15 false a0_0 a0_1)) = some r := by rw [if_pos rfl] at H; exact H
        clear H
        have H := H1
        clear H1
        by_cases c22 : x8_15 = true
        ·subst c22
         have H1 : (schismalaw04_ConvergentBests.j2 kj15 a1 t122 t123 true true (decide (a1 > 60)) a0_0 a0_1) = some r := by rw [if_pos rfl] at H; exact H
         clear H
         have H := H1
         clear H1
         have H' := Aside0.mk H
         clear H
         go_wp2
         repeat (go_quiet (fail); try go_wp2)
         go_meet
         case rel => exact ⟨_, (decide (a1 > 60)), (by first | rfl | (simp; done) | (simp [*]; done)), H', ⟨by have := HJ2.out; have := HJ15.out; first | omega | exact Nat.le_refl _⟩, ⟨bk_⟩, ⟨bl_⟩⟩
        ·replace c22 := Bool.eq_false_iff.mpr c22
         subst c22
         have H1 : (schismalaw04_ConvergentBests.j2 kj15 a1 t122 t123 true false false a0_0 a0_1) = some r := by rw [if_neg (show ¬ (false = true) by decide)] at H; exact H
         clear H
         have H := H1
         clear H1
         have H' := Aside0.mk H
         clear H
         go_wp2
         repeat (go_quiet (fail); try go_wp2)
         go_meet
         case rel => exact ⟨_, (false), (by first | rfl | (simp; done) | (simp [*]; done)), H', ⟨by have := HJ2.out; have := HJ15.out; first | omega | exact Nat.le_refl _⟩, ⟨bk_⟩, ⟨bl_⟩⟩
       ·replace c21 := Bool.eq_false_iff.mpr c21
        subst c21
        have H1 : (schismalaw04_ConvergentBests.j2 kj15 a1 t122 t123 false x8_15 false a0_0 a0_1) = some r := by rw [if_neg (show ¬ (false = true) by decide)] at H; exact H
        clear H
        have H := H1
        clear H1
        have H' := Aside0.mk H
        clear H
        go_wp2
        repeat (go_quiet (fail); try go_wp2)
        go_meet
        case rel => exact ⟨_, (false), (by first | rfl | (simp; done) | (simp [*]; done)), H', ⟨by have := HJ2.out; have := HJ15.out; first | omega | exact Nat.le_refl _⟩, ⟨bk_⟩, ⟨bl_⟩⟩
      case rest =>
       clear HC20
       try clear c1
       try clear c2
       try clear p2
       try clear c6
       try clear c12
       try clear c19
       try clear c19b0
       try clear c21
       try clear c22
       try clear hcz17_0
       try clear hcz17_1
       try clear hcz9_0
       try clear hcz9_1
       try clear hfz17_0
       try clear hfz17_1
       try clear hfz9_0
       try clear hfz9_1
       try clear p2
       obtain ⟨kq, x42_19, rfl, HA, HJ19, BK118, HB⟩ := hcut
       cases kq with
       | zero => exact absurd HA.out (by simp [schismalaw04_ConvergentBests.j2])
       | succ kj19 =>
        have H := HA.out
        clear HA
        simp only [schismalaw04_ConvergentBests.j2] at H
        by_cases c23 : x42_19 = true
        ·subst c23
         have H1 : (some true) = some r := by rw [if_pos rfl] at H; exact H
         clear H
         have H := H1
         clear H1
         obtain rfl := Option.some.inj H
         go_wp2
         repeat (go_quiet (fail); try go_wp2)
         go_ret
         exact ⟨er_, bl_⟩
        ·replace c23 := Bool.eq_false_iff.mpr c23
         subst c23
         have H1 : ((convergent_Best.f kj19 a0_0 a0_1 a1).bind fun bt125 => ((convergent_Nearest.f kj19 a0_0 a0_1 a1).bind fun bt129 => (if t124 = true then (schismalaw04_ConvergentBests.j3 kj19 a1 t122 t123 t124 bt125.1 bt125.2 bt129.2.2 (!x8_15) bt129.1 bt129.2.1) else (schismalaw04_ConvergentBests.j3 kj19 a1 t122 t123 t124 bt125.1 bt125.2 bt129.2.2 true bt129.1 bt129.2.1)))) = some r := by rw [if_neg (show ¬ (false = true) by decide)] at H; exact H
         clear H
         have H := H1
         clear H1
         replace H := Option.bind_eq_some_iff.mp H
         obtain ⟨⟨t125, t128⟩, A240, H⟩ := H
         replace H : ((convergent_Nearest.f kj19 a0_0 a0_1 a1).bind fun bt129 => (if t124 = true then (schismalaw04_ConvergentBests.j3 kj19 a1 t122 t123 t124 t125 t128 bt129.2.2 (!x8_15) bt129.1 bt129.2.1) else (schismalaw04_ConvergentBests.j3 kj19 a1 t122 t123 t124 t125 t128 bt129.2.2 true bt129.1 bt129.2.1))) = some r := H
         have A24 := Aside0.mk A240
         clear A240
         replace H := Option.bind_eq_some_iff.mp H
         obtain ⟨⟨t129, t130, t131⟩, A250, H⟩ := H
         replace H : (if t124 = true then (schismalaw04_ConvergentBests.j3 kj19 a1 t122 t123 t124 t125 t128 t131 (!x8_15) t129 t130) else (schismalaw04_ConvergentBests.j3 kj19 a1 t122 t123 t124 t125 t128 t131 true t129 t130)) = some r := H
         have A25 := Aside0.mk A250
         clear A250
         have HC26 := Aside0.mk H
         clear H
         have hcz27_0 : wc.cell? ⟨gb118, 0, none⟩ = some (.string a0_0) := (blk_cell BK118.out 0).trans rfl
         have hcz27_1 : wc.cell? ⟨gb118, 1, none⟩ = some (.string a0_1) := (blk_cell BK118.out 1).trans rfl
         have hfz27_0 := blk_frozen BK118.out 0
         have hfz27_1 := blk_frozen BK118.out 1
         go_upto_region 9 with (first | (go_at_call 28; (with_reducible refine (convergent_Best.calls kj19 a0_0 a0_1 a1 t125 t128 _ ?side1 A24.out).mono ?_); (case side1 => exact gw_ HG); rintro e w28 ⟨v126, rfl, ho0, hb⟩; have HO127 := Aside0.mk (Kd.R_lower (Kd.R_newB ho0 (g := gb118) (o := .cells #[.string a0_0, .string a0_1] 24 (0, 0)) bk_) (below_size bl_)); replace BK118 := kb_ BK118 hb; replace HB := bs_ hb; (try clear hb); (try clear hb2); (try clear hk); (try clear hi); (try clear ho0); obtain ⟨hcz29_0, hcz29_1, hfz29_0, hfz29_1⟩ := c2_ BK118) | (go_at_call 29; (with_reducible refine (convergent_Nearest.calls kj19 a0_0 a0_1 a1 t129 t130 t131 _ ?side1 A25.out).mono ?_); (case side1 => exact gw_ HG); rintro e w30 ⟨rfl, hb⟩; replace HO127 := rb_ HO127 hb; replace BK118 := kb_ BK118 hb; replace HB := bs_ hb; (try clear hb); (try clear hb2); (try clear hk); (try clear hi)) | ((with_reducible refine gate_dst (N := 11) rfl ?_); (try (refine gate_guard (by rfl) ?_; dsimp only)); refine box_event ?hg (N := 11) ?hd (cs := #[.string (⟨#[]⟩ : ByteArray), .string (⟨#[]⟩ : ByteArray)]) (t := 24) ?hr ?_; (case hd => rfl); (case hg => rfl); (case hr => first | (go_simp; done) | (go_simp; rfl)); intro gb132 hg w31 hbox hb; replace HO127 := Aside0.mk (Kd.R_below (Kd.R_elderB (by (with_reducible repeat (first | apply Kd.R_alloc | apply Kd.R_drewN | apply Kd.R_drew)); exact HO127.out) gb132 (Nat.le_of_eq hg.symm)) hb); have BK132 := Aside0.mk (hbox); have GW132 := ge_ (w := w) hg; have GE132 := ge_ (w := w) hg; replace HB := bs_ hb; have NB118_132 := nl_ hg BK118; have NB132_118 := ng_ hg BK118; replace BK118 := kb_ BK118 hb; clear hb hbox hg; have hnb32 := NB132_118.out; have hnc32 := NB118_132.out; obtain ⟨hcz33_0, hcz33_1, hfz33_0, hfz33_1⟩ := c2_ BK132))
         repeat (go_quiet (first | (go_at_call 28; (with_reducible refine (convergent_Best.calls kj19 a0_0 a0_1 a1 t125 t128 _ ?side1 A24.out).mono ?_); (case side1 => exact gw_ HG); rintro e w28 ⟨v126, rfl, ho0, hb⟩; have HO127 := Aside0.mk (Kd.R_lower (Kd.R_newB ho0 (g := gb118) (o := .cells #[.string a0_0, .string a0_1] 24 (0, 0)) bk_) (below_size bl_)); replace BK118 := kb_ BK118 hb; replace HB := bs_ hb; (try clear hb); (try clear hb2); (try clear hk); (try clear hi); (try clear ho0); obtain ⟨hcz29_0, hcz29_1, hfz29_0, hfz29_1⟩ := c2_ BK118) | (go_at_call 29; (with_reducible refine (convergent_Nearest.calls kj19 a0_0 a0_1 a1 t129 t130 t131 _ ?side1 A25.out).mono ?_); (case side1 => exact gw_ HG); rintro e w30 ⟨rfl, hb⟩; replace HO127 := rb_ HO127 hb; replace BK118 := kb_ BK118 hb; replace HB := bs_ hb; (try clear hb); (try clear hb2); (try clear hk); (try clear hi)) | ((with_reducible refine gate_dst (N := 11) rfl ?_); (try (refine gate_guard (by rfl) ?_; dsimp only)); refine box_event ?hg (N := 11) ?hd (cs := #[.string (⟨#[]⟩ : ByteArray), .string (⟨#[]⟩ : ByteArray)]) (t := 24) ?hr ?_; (case hd => rfl); (case hg => rfl); (case hr => first | (go_simp; done) | (go_simp; rfl)); intro gb132 hg w31 hbox hb; replace HO127 := Aside0.mk (Kd.R_below (Kd.R_elderB (by (with_reducible repeat (first | apply Kd.R_alloc | apply Kd.R_drewN | apply Kd.R_drew)); exact HO127.out) gb132 (Nat.le_of_eq hg.symm)) hb); have BK132 := Aside0.mk (hbox); have GW132 := ge_ (w := w) hg; have GE132 := ge_ (w := w) hg; replace HB := bs_ hb; have NB118_132 := nl_ hg BK118; have NB132_118 := ng_ hg BK118; replace BK118 := kb_ BK118 hb; clear hb hbox hg; have hnb32 := NB132_118.out; have hnc32 := NB118_132.out; obtain ⟨hcz33_0, hcz33_1, hfz33_0, hfz33_1⟩ := c2_ BK132)); go_upto_region 9 with (first | (go_at_call 28; (with_reducible refine (convergent_Best.calls kj19 a0_0 a0_1 a1 t125 t128 _ ?side1 A24.out).mono ?_); (case side1 => exact gw_ HG); rintro e w28 ⟨v126, rfl, ho0, hb⟩; have HO127 := Aside0.mk (Kd.R_lower (Kd.R_newB ho0 (g := gb118) (o := .cells #[.string a0_0, .string a0_1] 24 (0, 0)) bk_) (below_size bl_)); replace BK118 := kb_ BK118 hb; replace HB := bs_ hb; (try clear hb); (try clear hb2); (try clear hk); (try clear hi); (try clear ho0); obtain ⟨hcz29_0, hcz29_1, hfz29_0, hfz29_1⟩ := c2_ BK118) | (go_at_call 29; (with_reducible refine (convergent_Nearest.calls kj19 a0_0 a0_1 a1 t129 t130 t131 _ ?side1 A25.out).mono ?_); (case side1 => exact gw_ HG); rintro e w30 ⟨rfl, hb⟩; replace HO127 := rb_ HO127 hb; replace BK118 := kb_ BK118 hb; replace HB := bs_ hb; (try clear hb); (try clear hb2); (try clear hk); (try clear hi)) | ((with_reducible refine gate_dst (N := 11) rfl ?_); (try (refine gate_guard (by rfl) ?_; dsimp only)); refine box_event ?hg (N := 11) ?hd (cs := #[.string (⟨#[]⟩ : ByteArray), .string (⟨#[]⟩ : ByteArray)]) (t := 24) ?hr ?_; (case hd => rfl); (case hg => rfl); (case hr => first | (go_simp; done) | (go_simp; rfl)); intro gb132 hg w31 hbox hb; replace HO127 := Aside0.mk (Kd.R_below (Kd.R_elderB (by (with_reducible repeat (first | apply Kd.R_alloc | apply Kd.R_drewN | apply Kd.R_drew)); exact HO127.out) gb132 (Nat.le_of_eq hg.symm)) hb); have BK132 := Aside0.mk (hbox); have GW132 := ge_ (w := w) hg; have GE132 := ge_ (w := w) hg; replace HB := bs_ hb; have NB118_132 := nl_ hg BK118; have NB132_118 := ng_ hg BK118; replace BK118 := kb_ BK118 hb; clear hb hbox hg; have hnb32 := NB132_118.out; have hnc32 := NB118_132.out; obtain ⟨hcz33_0, hcz33_1, hfz33_0, hfz33_1⟩ := c2_ BK132)))
         (try simp only [Act.put, List.setIfInBounds_toArray, List.set_cons_zero, List.set_cons_succ])
         go_cut [60] (fun v60 wc => ∃ (kq : Nat) (x60_25 : Bool), v60 = .bool x60_25 ∧ Aside0 (schismalaw04_ConvergentBests.j3 kq a1 t122 t123 t124 t125 t128 t131 x60_25 t129 t130 = some r) ∧ Aside0 (kq ≤ kj19) ∧ Aside0 (Kd.R k24 24 wc w.heap.size (fun k_ => k_ ≠ gb118 ∧ k_ ≠ gb132) v126 t125) ∧ Aside0 (wc.heap[gb118]? = some (.cells #[.string a0_0, .string a0_1] 24 (0, 0))) ∧ Aside0 (wc.heap[gb132]? = some (.cells #[.string t129, .string t130] 24 (0, 0))) ∧ Aside0 (Below w.heap.size w wc))
         case first =>
          have H := HC26.out
          clear HC26
          by_cases c34 : t124 = true
          ·subst c34
           have H1 : (schismalaw04_ConvergentBests.j3 kj19 a1 t122 t123 true t125 t128 t131 (!x8_15) t129 t130) = some r := by rw [if_pos rfl] at H; exact H
           clear H
           have H := H1
           clear H1
           have H' := Aside0.mk H
           clear H
           go_wp2
           repeat (go_quiet (fail); try go_wp2)
           go_meet
           case rel => exact ⟨_, (!x8_15), (by first | rfl | (simp; done) | (simp [*]; done)), H', ⟨by have := HJ2.out; have := HJ15.out; have := HJ19.out; first | omega | exact Nat.le_refl _⟩, ⟨by (with_reducible repeat (first | apply Kd.R_alloc | apply Kd.R_drewN | apply Kd.R_drew)); exact Kd.R_mono (Kd.R_far (p := ⟨gb132, 1, none⟩) (Kd.R_far (p := ⟨gb132, 0, none⟩) (Kd.R_mono HO127.out (fun k_ hk => (⟨hk, hk.2⟩ : _ ∧ k_ ≠ gb132))) (fun _ hk => hk.2) (.string t129)) (fun _ hk => hk.2) (.string t130)) (fun _ hk => ⟨hk.1.1.2, hk.1.2⟩)⟩, ⟨by (with_reducible repeat (first | refine blk_drewN ?_ _ | refine blk_drew ?_ | refine blk_alloc ?_ _)); refine blk_far ?_ NB118_132.out _; (with_reducible repeat (first | refine blk_drewN ?_ _ | refine blk_drew ?_ | refine blk_alloc ?_ _)); refine blk_far ?_ NB118_132.out _; (with_reducible repeat (first | refine blk_drewN ?_ _ | refine blk_drew ?_ | refine blk_alloc ?_ _)); exact BK118.out⟩, ⟨by (with_reducible repeat (first | refine blk_drewN ?_ _ | refine blk_drew ?_ | refine blk_alloc ?_ _)); refine blk_put (cs := #[.string t129, .string (⟨#[]⟩ : ByteArray)]) ?_ 1 _ rfl; (with_reducible repeat (first | refine blk_drewN ?_ _ | refine blk_drew ?_ | refine blk_alloc ?_ _)); refine blk_put (cs := #[.string (⟨#[]⟩ : ByteArray), .string (⟨#[]⟩ : ByteArray)]) ?_ 0 _ rfl; (with_reducible repeat (first | refine blk_drewN ?_ _ | refine blk_drew ?_ | refine blk_alloc ?_ _)); exact BK132.out⟩, ⟨bl_⟩⟩
          ·replace c34 := Bool.eq_false_iff.mpr c34
           subst c34
           have H1 : (schismalaw04_ConvergentBests.j3 kj19 a1 t122 t123 false t125 t128 t131 true t129 t130) = some r := by rw [if_neg (show ¬ (false = true) by decide)] at H; exact H
           clear H
           have H := H1
           clear H1
           have H' := Aside0.mk H
           clear H
           go_wp2
           repeat (go_quiet (fail); try go_wp2)
           go_meet
           case rel => exact ⟨_, (true), (by first | rfl | (simp; done) | (simp [*]; done)), H', ⟨by have := HJ2.out; have := HJ15.out; have := HJ19.out; first | omega | exact Nat.le_refl _⟩, ⟨by (with_reducible repeat (first | apply Kd.R_alloc | apply Kd.R_drewN | apply Kd.R_drew)); exact Kd.R_mono (Kd.R_far (p := ⟨gb132, 1, none⟩) (Kd.R_far (p := ⟨gb132, 0, none⟩) (Kd.R_mono HO127.out (fun k_ hk => (⟨hk, hk.2⟩ : _ ∧ k_ ≠ gb132))) (fun _ hk => hk.2) (.string t129)) (fun _ hk => hk.2) (.string t130)) (fun _ hk => ⟨hk.1.1.2, hk.1.2⟩)⟩, ⟨by (with_reducible repeat (first | refine blk_drewN ?_ _ | refine blk_drew ?_ | refine blk_alloc ?_ _)); refine blk_far ?_ NB118_132.out _; (with_reducible repeat (first | refine blk_drewN ?_ _ | refine blk_drew ?_ | refine blk_alloc ?_ _)); refine blk_far ?_ NB118_132.out _; (with_reducible repeat (first | refine blk_drewN ?_ _ | refine blk_drew ?_ | refine blk_alloc ?_ _)); exact BK118.out⟩, ⟨by (with_reducible repeat (first | refine blk_drewN ?_ _ | refine blk_drew ?_ | refine blk_alloc ?_ _)); refine blk_put (cs := #[.string t129, .string (⟨#[]⟩ : ByteArray)]) ?_ 1 _ rfl; (with_reducible repeat (first | refine blk_drewN ?_ _ | refine blk_drew ?_ | refine blk_alloc ?_ _)); refine blk_put (cs := #[.string (⟨#[]⟩ : ByteArray), .string (⟨#[]⟩ : ByteArray)]) ?_ 0 _ rfl; (with_reducible repeat (first | refine blk_drewN ?_ _ | refine blk_drew ?_ | refine blk_alloc ?_ _)); exact BK132.out⟩, ⟨bl_⟩⟩
         case rest =>
          clear HC26
          try clear c1
          try clear c2
          try clear p2
          try clear c3
          try clear c6
          try clear c12
          try clear c19
          try clear c19b0
          try clear c21
          try clear c22
          try clear c23
          try clear c32
          try clear c34
          try clear hcz17_0
          try clear hcz17_1
          try clear hcz27_0
          try clear hcz27_1
          try clear hcz29_0
          try clear hcz29_1
          try clear hcz33_0
          try clear hcz33_1
          try clear hcz9_0
          try clear hcz9_1
          try clear hfz17_0
          try clear hfz17_1
          try clear hfz27_0
          try clear hfz27_1
          try clear hfz29_0
          try clear hfz29_1
          try clear hfz33_0
          try clear hfz33_1
          try clear hfz9_0
          try clear hfz9_1
          try clear p2
          obtain ⟨kq, x60_25, rfl, HA, HJ25, HO_9, BK118, BK132, HB⟩ := hcut
          cases kq with
          | zero => exact absurd HA.out (by simp [schismalaw04_ConvergentBests.j3])
          | succ kj25 =>
           have H := HA.out
           clear HA
           simp only [schismalaw04_ConvergentBests.j3] at H
           by_cases c35 : x60_25 = true
           ·subst c35
            have H1 : (if t124 = true then (if (t125.length : Int) = 0 then (if t128 = 3 then ((schismalaw04_none.f t129 t130).bind fun t133 => (if t133 = true then (some (t131 == 3)) else (some false))) else (some false)) else (some false)) else (if (t125.length : Int) = 0 then (if t128 = 2 then ((schismalaw04_none.f t129 t130).bind fun t134 => (if t134 = true then (some (t131 == 2)) else (some false))) else (some false)) else (some false))) = some r := by rw [if_pos rfl] at H; exact H
            clear H
            have H := H1
            clear H1
            by_cases c36 : t124 = true
            ·subst c36
             have H1 : (if (t125.length : Int) = 0 then (if t128 = 3 then ((schismalaw04_none.f t129 t130).bind fun t133 => (if t133 = true then (some (t131 == 3)) else (some false))) else (some false)) else (some false)) = some r := by rw [if_pos rfl] at H; exact H
             clear H
             have H := H1
             clear H1
             by_cases c37 : (t125.length : Int) = 0
             ·rw [if_pos c37] at H
              have c37b0 : ((t125.length : Int) == 0) = true := beq_iff_eq.mpr c37
              have c37b1 : ((t125.length : Int) != 0) = false := bne_eq_false_iff_eq.mpr c37
              clear c37
              by_cases c38 : t128 = 3
              ·rw [if_pos c38] at H
               have c38b0 : (t128 == 3) = true := beq_iff_eq.mpr c38
               have c38b1 : (t128 != 3) = false := bne_eq_false_iff_eq.mpr c38
               clear c38
               replace H := Option.bind_eq_some_iff.mp H
               obtain ⟨t133, A390, H⟩ := H
               replace H : (if t133 = true then (some (t131 == 3)) else (some false)) = some r := H
               have A39 := Aside0.mk A390
               clear A390
               by_cases c40 : t133 = true
               ·subst c40
                have H1 : (some (t131 == 3)) = some r := by rw [if_pos rfl] at H; exact H
                clear H
                have H := H1
                clear H1
                obtain rfl := Option.some.inj H
                obtain ⟨Ao41, co41, eo41⟩ := Kd.R_slice HO_9.out
                subst eo41
                have hnb42 := NB132_118.out
                have hnc42 := NB118_132.out
                have hcz43_0 : wc.cell? ⟨gb132, 0, none⟩ = some (.string t129) := (blk_cell BK132.out 0).trans rfl
                have hcz43_1 : wc.cell? ⟨gb132, 1, none⟩ = some (.string t130) := (blk_cell BK132.out 1).trans rfl
                have hfz43_0 := blk_frozen BK132.out 0
                have hfz43_1 := blk_frozen BK132.out 1
                go_wp2_with (first | (go_at_call 16; (with_reducible refine (schismalaw04_none.calls t129 t130 true _ A39.out).mono ?_); rintro e w44 ⟨rfl, hb⟩; replace HO_9 := rb_ HO_9 hb; replace BK118 := kb_ BK118 hb; replace BK132 := kb_ BK132 hb; replace HB := bs_ hb; (try clear hb); (try clear hb2); (try clear hk); (try clear hi)))
                repeat (go_quiet (first | (go_at_call 16; (with_reducible refine (schismalaw04_none.calls t129 t130 true _ A39.out).mono ?_); rintro e w44 ⟨rfl, hb⟩; replace HO_9 := rb_ HO_9 hb; replace BK118 := kb_ BK118 hb; replace BK132 := kb_ BK132 hb; replace HB := bs_ hb; (try clear hb); (try clear hb2); (try clear hk); (try clear hi))); try go_wp2_with (first | (go_at_call 16; (with_reducible refine (schismalaw04_none.calls t129 t130 true _ A39.out).mono ?_); rintro e w44 ⟨rfl, hb⟩; replace HO_9 := rb_ HO_9 hb; replace BK118 := kb_ BK118 hb; replace BK132 := kb_ BK132 hb; replace HB := bs_ hb; (try clear hb); (try clear hb2); (try clear hk); (try clear hi))))
                go_ret
                exact ⟨er_, bl_⟩
               ·replace c40 := Bool.eq_false_iff.mpr c40
                subst c40
                have H1 : (some false) = some r := by rw [if_neg (show ¬ (false = true) by decide)] at H; exact H
                clear H
                have H := H1
                clear H1
                obtain rfl := Option.some.inj H
                obtain ⟨Ao45, co45, eo45⟩ := Kd.R_slice HO_9.out
                subst eo45
                have hnb46 := NB132_118.out
                have hnc46 := NB118_132.out
                have hcz47_0 : wc.cell? ⟨gb132, 0, none⟩ = some (.string t129) := (blk_cell BK132.out 0).trans rfl
                have hcz47_1 : wc.cell? ⟨gb132, 1, none⟩ = some (.string t130) := (blk_cell BK132.out 1).trans rfl
                have hfz47_0 := blk_frozen BK132.out 0
                have hfz47_1 := blk_frozen BK132.out 1
                go_wp2_with (first | (go_at_call 16; (with_reducible refine (schismalaw04_none.calls t129 t130 false _ A39.out).mono ?_); rintro e w48 ⟨rfl, hb⟩; replace HO_9 := rb_ HO_9 hb; replace BK118 := kb_ BK118 hb; replace BK132 := kb_ BK132 hb; replace HB := bs_ hb; (try clear hb); (try clear hb2); (try clear hk); (try clear hi)))
                repeat (go_quiet (first | (go_at_call 16; (with_reducible refine (schismalaw04_none.calls t129 t130 false _ A39.out).mono ?_); rintro e w48 ⟨rfl, hb⟩; replace HO_9 := rb_ HO_9 hb; replace BK118 := kb_ BK118 hb; replace BK132 := kb_ BK132 hb; replace HB := bs_ hb; (try clear hb); (try clear hb2); (try clear hk); (try clear hi))); try go_wp2_with (first | (go_at_call 16; (with_reducible refine (schismalaw04_none.calls t129 t130 false _ A39.out).mono ?_); rintro e w48 ⟨rfl, hb⟩; replace HO_9 := rb_ HO_9 hb; replace BK118 := kb_ BK118 hb; replace BK132 := kb_ BK132 hb; replace HB := bs_ hb; (try clear hb); (try clear hb2); (try clear hk); (try clear hi))))
                go_ret
                exact ⟨er_, bl_⟩
              ·rw [if_neg c38] at H
               have c38b0 : (t128 == 3) = false := beq_eq_false_iff_ne.mpr c38
               have c38b1 : (t128 != 3) = true := bne_iff_ne.mpr c38
               obtain rfl := Option.some.inj H
               obtain ⟨Ao49, co49, eo49⟩ := Kd.R_slice HO_9.out
               subst eo49
               go_wp2
               repeat (go_quiet (fail); try go_wp2)
               go_ret
               exact ⟨er_, bl_⟩
             ·rw [if_neg c37] at H
              have c37b0 : ((t125.length : Int) == 0) = false := beq_eq_false_iff_ne.mpr c37
              have c37b1 : ((t125.length : Int) != 0) = true := bne_iff_ne.mpr c37
              have c37b2 : ¬ (t125 = []) := fun h_ => c37 (by rw [h_]; rfl)
              obtain rfl := Option.some.inj H
              obtain ⟨Ao50, co50, eo50⟩ := Kd.R_slice HO_9.out
              subst eo50
              go_wp2
              repeat (go_quiet (fail); try go_wp2)
              go_ret
              exact ⟨er_, bl_⟩
            ·replace c36 := Bool.eq_false_iff.mpr c36
             subst c36
             have H1 : (if (t125.length : Int) = 0 then (if t128 = 2 then ((schismalaw04_none.f t129 t130).bind fun t134 => (if t134 = true then (some (t131 == 2)) else (some false))) else (some false)) else (some false)) = some r := by rw [if_neg (show ¬ (false = true) by decide)] at H; exact H
             clear H
             have H := H1
             clear H1
             by_cases c51 : (t125.length : Int) = 0
             ·rw [if_pos c51] at H
              have c51b0 : ((t125.length : Int) == 0) = true := beq_iff_eq.mpr c51
              have c51b1 : ((t125.length : Int) != 0) = false := bne_eq_false_iff_eq.mpr c51
              clear c51
              by_cases c52 : t128 = 2
              ·rw [if_pos c52] at H
               have c52b0 : (t128 == 2) = true := beq_iff_eq.mpr c52
               have c52b1 : (t128 != 2) = false := bne_eq_false_iff_eq.mpr c52
               clear c52
               replace H := Option.bind_eq_some_iff.mp H
               obtain ⟨t134, A530, H⟩ := H
               replace H : (if t134 = true then (some (t131 == 2)) else (some false)) = some r := H
               have A53 := Aside0.mk A530
               clear A530
               by_cases c54 : t134 = true
               ·subst c54
                have H1 : (some (t131 == 2)) = some r := by rw [if_pos rfl] at H; exact H
                clear H
                have H := H1
                clear H1
                obtain rfl := Option.some.inj H
                obtain ⟨Ao55, co55, eo55⟩ := Kd.R_slice HO_9.out
                subst eo55
                have hnb56 := NB132_118.out
                have hnc56 := NB118_132.out
                have hcz57_0 : wc.cell? ⟨gb132, 0, none⟩ = some (.string t129) := (blk_cell BK132.out 0).trans rfl
                have hcz57_1 : wc.cell? ⟨gb132, 1, none⟩ = some (.string t130) := (blk_cell BK132.out 1).trans rfl
                have hfz57_0 := blk_frozen BK132.out 0
                have hfz57_1 := blk_frozen BK132.out 1
                go_wp2_with (first | (go_at_call 16; (with_reducible refine (schismalaw04_none.calls t129 t130 true _ A53.out).mono ?_); rintro e w58 ⟨rfl, hb⟩; replace HO_9 := rb_ HO_9 hb; replace BK118 := kb_ BK118 hb; replace BK132 := kb_ BK132 hb; replace HB := bs_ hb; (try clear hb); (try clear hb2); (try clear hk); (try clear hi)))
                repeat (go_quiet (first | (go_at_call 16; (with_reducible refine (schismalaw04_none.calls t129 t130 true _ A53.out).mono ?_); rintro e w58 ⟨rfl, hb⟩; replace HO_9 := rb_ HO_9 hb; replace BK118 := kb_ BK118 hb; replace BK132 := kb_ BK132 hb; replace HB := bs_ hb; (try clear hb); (try clear hb2); (try clear hk); (try clear hi))); try go_wp2_with (first | (go_at_call 16; (with_reducible refine (schismalaw04_none.calls t129 t130 true _ A53.out).mono ?_); rintro e w58 ⟨rfl, hb⟩; replace HO_9 := rb_ HO_9 hb; replace BK118 := kb_ BK118 hb; replace BK132 := kb_ BK132 hb; replace HB := bs_ hb; (try clear hb); (try clear hb2); (try clear hk); (try clear hi))))
                go_ret
                exact ⟨er_, bl_⟩
               ·replace c54 := Bool.eq_false_iff.mpr c54
                subst c54
                have H1 : (some false) = some r := by rw [if_neg (show ¬ (false = true) by decide)] at H; exact H
                clear H
                have H := H1
                clear H1
                obtain rfl := Option.some.inj H
                obtain ⟨Ao59, co59, eo59⟩ := Kd.R_slice HO_9.out
                subst eo59
                have hnb60 := NB132_118.out
                have hnc60 := NB118_132.out
                have hcz61_0 : wc.cell? ⟨gb132, 0, none⟩ = some (.string t129) := (blk_cell BK132.out 0).trans rfl
                have hcz61_1 : wc.cell? ⟨gb132, 1, none⟩ = some (.string t130) := (blk_cell BK132.out 1).trans rfl
                have hfz61_0 := blk_frozen BK132.out 0
                have hfz61_1 := blk_frozen BK132.out 1
                go_wp2_with (first | (go_at_call 16; (with_reducible refine (schismalaw04_none.calls t129 t130 false _ A53.out).mono ?_); rintro e w62 ⟨rfl, hb⟩; replace HO_9 := rb_ HO_9 hb; replace BK118 := kb_ BK118 hb; replace BK132 := kb_ BK132 hb; replace HB := bs_ hb; (try clear hb); (try clear hb2); (try clear hk); (try clear hi)))
                repeat (go_quiet (first | (go_at_call 16; (with_reducible refine (schismalaw04_none.calls t129 t130 false _ A53.out).mono ?_); rintro e w62 ⟨rfl, hb⟩; replace HO_9 := rb_ HO_9 hb; replace BK118 := kb_ BK118 hb; replace BK132 := kb_ BK132 hb; replace HB := bs_ hb; (try clear hb); (try clear hb2); (try clear hk); (try clear hi))); try go_wp2_with (first | (go_at_call 16; (with_reducible refine (schismalaw04_none.calls t129 t130 false _ A53.out).mono ?_); rintro e w62 ⟨rfl, hb⟩; replace HO_9 := rb_ HO_9 hb; replace BK118 := kb_ BK118 hb; replace BK132 := kb_ BK132 hb; replace HB := bs_ hb; (try clear hb); (try clear hb2); (try clear hk); (try clear hi))))
                go_ret
                exact ⟨er_, bl_⟩
              ·rw [if_neg c52] at H
               have c52b0 : (t128 == 2) = false := beq_eq_false_iff_ne.mpr c52
               have c52b1 : (t128 != 2) = true := bne_iff_ne.mpr c52
               obtain rfl := Option.some.inj H
               obtain ⟨Ao63, co63, eo63⟩ := Kd.R_slice HO_9.out
               subst eo63
               go_wp2
               repeat (go_quiet (fail); try go_wp2)
               go_ret
               exact ⟨er_, bl_⟩
             ·rw [if_neg c51] at H
              have c51b0 : ((t125.length : Int) == 0) = false := beq_eq_false_iff_ne.mpr c51
              have c51b1 : ((t125.length : Int) != 0) = true := bne_iff_ne.mpr c51
              have c51b2 : ¬ (t125 = []) := fun h_ => c51 (by rw [h_]; rfl)
              obtain rfl := Option.some.inj H
              obtain ⟨Ao64, co64, eo64⟩ := Kd.R_slice HO_9.out
              subst eo64
              go_wp2
              repeat (go_quiet (fail); try go_wp2)
              go_ret
              exact ⟨er_, bl_⟩
           ·replace c35 := Bool.eq_false_iff.mpr c35
            subst c35
            have H1 : ((schismaref04_Best.f kj25 t122 t123 a1).bind fun t135 => ((schismalaw04_same.f kj25 t125 t135).bind fun t138 => (if t138 = true then (if t128 = 0 then (if 0 ≤ (wrap64 ((t135.length : Int) - 1)) then (if (wrap64 ((t135.length : Int) - 1)) < (t135.length : Int) then (if (t129.toList == (((rd_T24 t135 (wrap64 ((t135.length : Int) - 1))).f0).toList) && (t130.toList == (((rd_T24 t135 (wrap64 ((t135.length : Int) - 1))).f1).toList))) = true then (some (t131 == 0)) else (some false)) else (none)) else (none)) else (some false)) else (some false)))) = some r := by rw [if_neg (show ¬ (false = true) by decide)] at H; exact H
            clear H
            have H := H1
            clear H1
            replace H := Option.bind_eq_some_iff.mp H
            obtain ⟨t135, A650, H⟩ := H
            replace H : ((schismalaw04_same.f kj25 t125 t135).bind fun t138 => (if t138 = true then (if t128 = 0 then (if 0 ≤ (wrap64 ((t135.length : Int) - 1)) then (if (wrap64 ((t135.length : Int) - 1)) < (t135.length : Int) then (if (t129.toList == (((rd_T24 t135 (wrap64 ((t135.length : Int) - 1))).f0).toList) && (t130.toList == (((rd_T24 t135 (wrap64 ((t135.length : Int) - 1))).f1).toList))) = true then (some (t131 == 0)) else (some false)) else (none)) else (none)) else (some false)) else (some false))) = some r := H
            have A65 := Aside0.mk A650
            clear A650
            replace H := Option.bind_eq_some_iff.mp H
            obtain ⟨t138, A660, H⟩ := H
            replace H : (if t138 = true then (if t128 = 0 then (if 0 ≤ (wrap64 ((t135.length : Int) - 1)) then (if (wrap64 ((t135.length : Int) - 1)) < (t135.length : Int) then (if (t129.toList == (((rd_T24 t135 (wrap64 ((t135.length : Int) - 1))).f0).toList) && (t130.toList == (((rd_T24 t135 (wrap64 ((t135.length : Int) - 1))).f1).toList))) = true then (some (t131 == 0)) else (some false)) else (none)) else (none)) else (some false)) else (some false)) = some r := H
            have A66 := Aside0.mk A660
            clear A660
            by_cases c67 : t138 = true
            ·subst c67
             have H1 : (if t128 = 0 then (if 0 ≤ (wrap64 ((t135.length : Int) - 1)) then (if (wrap64 ((t135.length : Int) - 1)) < (t135.length : Int) then (if (t129.toList == (((rd_T24 t135 (wrap64 ((t135.length : Int) - 1))).f0).toList) && (t130.toList == (((rd_T24 t135 (wrap64 ((t135.length : Int) - 1))).f1).toList))) = true then (some (t131 == 0)) else (some false)) else (none)) else (none)) else (some false)) = some r := by rw [if_pos rfl] at H; exact H
             clear H
             have H := H1
             clear H1
             by_cases c68 : t128 = 0
             ·rw [if_pos c68] at H
              have c68b0 : (t128 == 0) = true := beq_iff_eq.mpr c68
              have c68b1 : (t128 != 0) = false := bne_eq_false_iff_eq.mpr c68
              clear c68
              obtain ⟨ji69, hji69⟩ : ∃ j_ : Int, (wrap64 ((t135.length : Int) - 1)) = j_ := ⟨_, rfl⟩
              replace H : (if 0 ≤ (ji69) then (if (ji69) < (t135.length : Int) then (if (t129.toList == (((rd_T24 t135 (ji69)).f0).toList) && (t130.toList == (((rd_T24 t135 (ji69)).f1).toList))) = true then (some (t131 == 0)) else (some false)) else (none)) else (none)) = some r := by first | (rw [hji69] at H; exact H) | (simp only [hji69] at H ⊢; exact H)
              (try rw [hji69] at A65)
              (try rw [hji69] at A66)
              have hji69w : (IntKind.i64.wrap ((t135.length : Int) - 1)) = ji69 := (i64_w _).trans hji69
              by_cases c70 : 0 ≤ (ji69)
              ·rw [if_pos c70] at H
               have c70b0 : decide (0 ≤ (ji69)) = true := decide_eq_true c70
               clear c70
               by_cases c71 : (ji69) < (t135.length : Int)
               ·rw [if_pos c71] at H
                have c71b0 : decide ((ji69) < (t135.length : Int)) = true := decide_eq_true c71
                clear c71
                by_cases c72 : (t129.toList == (((rd_T24 t135 (ji69)).f0).toList) && (t130.toList == (((rd_T24 t135 (ji69)).f1).toList))) = true
                ·rw [if_pos c72] at H
                 have c72b0 : (t129.toList == (((rd_T24 t135 (ji69)).f0).toList) && (t130.toList == (((rd_T24 t135 (ji69)).f1).toList))) = true := c72
                 (try (have c72b1 : decide (t129.toList = (((rd_T24 t135 (ji69)).f0).toList) && (t130.toList == (((rd_T24 t135 (ji69)).f1).toList))) = true := by simpa using c72))
                 (try (have c72b2 : (t129.toList == (((rd_T24 t135 (ji69)).f0).toList) && (t130.toList == (((rd_T24 t135 (ji69)).f1).toList))) = true := by simpa using c72))
                 clear c72
                 obtain rfl := Option.some.inj H
                 go_wp2_with (first | (go_at_call 30; (with_reducible refine (schismaref04_Best.calls kj25 t122 t123 a1 t135 _ A65.out).mono ?_); rintro e w73 ⟨v136, rfl, ho0, hb⟩; have HO137 := Aside0.mk (Kd.R_lower (Kd.R_newB (Kd.R_newB (Kd.R_new' ho0 (Kd.R_lt (by (with_reducible repeat (first | apply Kd.R_alloc | apply Kd.R_drewN | apply Kd.R_drew)); exact HO_9.out))) (g := gb118) (o := .cells #[.string a0_0, .string a0_1] 24 (0, 0)) bk_) (g := gb132) (o := .cells #[.string t129, .string t130] 24 (0, 0)) bk_) (below_size bl_)); replace HO_9 := Aside0.mk (Kd.R_elder' (by (with_reducible repeat (first | apply Kd.R_alloc | apply Kd.R_drewN | apply Kd.R_drew)); exact HO_9.out) (Kd.R_base ho0) hb); replace BK118 := kb_ BK118 hb; replace BK132 := kb_ BK132 hb; replace HB := bs_ hb; (try clear hb); (try clear hb2); (try clear hk); (try clear hi); (try clear ho0); obtain ⟨Ao74, co74, eo74⟩ := Kd.R_slice HO_9.out; subst eo74; obtain ⟨Ao75, co75, eo75⟩ := Kd.R_slice HO137.out; subst eo75) | (go_at_call 23; (with_reducible refine (schismalaw04_same.calls kj25 _ _ t125 _ _ t135 true _ ?side1 ?side2 ?side3 ?side4 A66.out).mono ?_); (case side1 => repeat (first | exact (Kd.R_reads' HO_9.out).2.2 | (with_reducible refine Kd.C_alloc ?_ _) | (with_reducible refine Kd.C_drewN ?_ _) | (with_reducible refine Kd.C_drew ?_))); (case side2 => exact (Kd.R_reads' HO_9.out).2.1); (case side3 => repeat (first | exact (Kd.R_reads' HO137.out).2.2 | (with_reducible refine Kd.C_alloc ?_ _) | (with_reducible refine Kd.C_drewN ?_ _) | (with_reducible refine Kd.C_drew ?_))); (case side4 => exact (Kd.R_reads' HO137.out).2.1); rintro e w' ⟨rfl, ⟨nd, rfl⟩⟩; (try first | exact ⟨rfl, _, World.drewN_drewN _ _ _⟩ | exact ⟨rfl, _, Eq.trans (World.drewN_drewN _ _ _) (congrArg (World.drewN _) (Nat.add_assoc _ _ _))⟩); have hnb76 := NB132_118.out; have hnc76 := NB118_132.out; obtain ⟨hcz77_0, hcz77_1, hfz77_0, hfz77_1⟩ := c2_ BK132; have p139 : 0 ≤ ((ji69) : Int) := of_decide_eq_true (by first | (with_reducible assumption) | assumption); have q139 : (ji69) < (t135.length : Int) := of_decide_eq_true (by first | (with_reducible assumption) | assumption); obtain ⟨ad139, e139, hx139_0, hx139_1⟩ := at_T24 (Kd.R_reads' HO137.out).2.2 (ji69) p139 q139; cases e139; replace p139 := eq_true p139; replace q139 := eq_true q139))
                 repeat (go_quiet (first | (go_at_call 30; (with_reducible refine (schismaref04_Best.calls kj25 t122 t123 a1 t135 _ A65.out).mono ?_); rintro e w73 ⟨v136, rfl, ho0, hb⟩; have HO137 := Aside0.mk (Kd.R_lower (Kd.R_newB (Kd.R_newB (Kd.R_new' ho0 (Kd.R_lt (by (with_reducible repeat (first | apply Kd.R_alloc | apply Kd.R_drewN | apply Kd.R_drew)); exact HO_9.out))) (g := gb118) (o := .cells #[.string a0_0, .string a0_1] 24 (0, 0)) bk_) (g := gb132) (o := .cells #[.string t129, .string t130] 24 (0, 0)) bk_) (below_size bl_)); replace HO_9 := Aside0.mk (Kd.R_elder' (by (with_reducible repeat (first | apply Kd.R_alloc | apply Kd.R_drewN | apply Kd.R_drew)); exact HO_9.out) (Kd.R_base ho0) hb); replace BK118 := kb_ BK118 hb; replace BK132 := kb_ BK132 hb; replace HB := bs_ hb; (try clear hb); (try clear hb2); (try clear hk); (try clear hi); (try clear ho0); obtain ⟨Ao74, co74, eo74⟩ := Kd.R_slice HO_9.out; subst eo74; obtain ⟨Ao75, co75, eo75⟩ := Kd.R_slice HO137.out; subst eo75) | (go_at_call 23; (with_reducible refine (schismalaw04_same.calls kj25 _ _ t125 _ _ t135 true _ ?side1 ?side2 ?side3 ?side4 A66.out).mono ?_); (case side1 => repeat (first | exact (Kd.R_reads' HO_9.out).2.2 | (with_reducible refine Kd.C_alloc ?_ _) | (with_reducible refine Kd.C_drewN ?_ _) | (with_reducible refine Kd.C_drew ?_))); (case side2 => exact (Kd.R_reads' HO_9.out).2.1); (case side3 => repeat (first | exact (Kd.R_reads' HO137.out).2.2 | (with_reducible refine Kd.C_alloc ?_ _) | (with_reducible refine Kd.C_drewN ?_ _) | (with_reducible refine Kd.C_drew ?_))); (case side4 => exact (Kd.R_reads' HO137.out).2.1); rintro e w' ⟨rfl, ⟨nd, rfl⟩⟩; (try first | exact ⟨rfl, _, World.drewN_drewN _ _ _⟩ | exact ⟨rfl, _, Eq.trans (World.drewN_drewN _ _ _) (congrArg (World.drewN _) (Nat.add_assoc _ _ _))⟩); have hnb76 := NB132_118.out; have hnc76 := NB118_132.out; obtain ⟨hcz77_0, hcz77_1, hfz77_0, hfz77_1⟩ := c2_ BK132; have p139 : 0 ≤ ((ji69) : Int) := of_decide_eq_true (by first | (with_reducible assumption) | assumption); have q139 : (ji69) < (t135.length : Int) := of_decide_eq_true (by first | (with_reducible assumption) | assumption); obtain ⟨ad139, e139, hx139_0, hx139_1⟩ := at_T24 (Kd.R_reads' HO137.out).2.2 (ji69) p139 q139; cases e139; replace p139 := eq_true p139; replace q139 := eq_true q139)); try go_wp2_with (first | (go_at_call 30; (with_reducible refine (schismaref04_Best.calls kj25 t122 t123 a1 t135 _ A65.out).mono ?_); rintro e w73 ⟨v136, rfl, ho0, hb⟩; have HO137 := Aside0.mk (Kd.R_lower (Kd.R_newB (Kd.R_newB (Kd.R_new' ho0 (Kd.R_lt (by (with_reducible repeat (first | apply Kd.R_alloc | apply Kd.R_drewN | apply Kd.R_drew)); exact HO_9.out))) (g := gb118) (o := .cells #[.string a0_0, .string a0_1] 24 (0, 0)) bk_) (g := gb132) (o := .cells #[.string t129, .string t130] 24 (0, 0)) bk_) (below_size bl_)); replace HO_9 := Aside0.mk (Kd.R_elder' (by (with_reducible repeat (first | apply Kd.R_alloc | apply Kd.R_drewN | apply Kd.R_drew)); exact HO_9.out) (Kd.R_base ho0) hb); replace BK118 := kb_ BK118 hb; replace BK132 := kb_ BK132 hb; replace HB := bs_ hb; (try clear hb); (try clear hb2); (try clear hk); (try clear hi); (try clear ho0); obtain ⟨Ao74, co74, eo74⟩ := Kd.R_slice HO_9.out; subst eo74; obtain ⟨Ao75, co75, eo75⟩ := Kd.R_slice HO137.out; subst eo75) | (go_at_call 23; (with_reducible refine (schismalaw04_same.calls kj25 _ _ t125 _ _ t135 true _ ?side1 ?side2 ?side3 ?side4 A66.out).mono ?_); (case side1 => repeat (first | exact (Kd.R_reads' HO_9.out).2.2 | (with_reducible refine Kd.C_alloc ?_ _) | (with_reducible refine Kd.C_drewN ?_ _) | (with_reducible refine Kd.C_drew ?_))); (case side2 => exact (Kd.R_reads' HO_9.out).2.1); (case side3 => repeat (first | exact (Kd.R_reads' HO137.out).2.2 | (with_reducible refine Kd.C_alloc ?_ _) | (with_reducible refine Kd.C_drewN ?_ _) | (with_reducible refine Kd.C_drew ?_))); (case side4 => exact (Kd.R_reads' HO137.out).2.1); rintro e w' ⟨rfl, ⟨nd, rfl⟩⟩; (try first | exact ⟨rfl, _, World.drewN_drewN _ _ _⟩ | exact ⟨rfl, _, Eq.trans (World.drewN_drewN _ _ _) (congrArg (World.drewN _) (Nat.add_assoc _ _ _))⟩); have hnb76 := NB132_118.out; have hnc76 := NB118_132.out; obtain ⟨hcz77_0, hcz77_1, hfz77_0, hfz77_1⟩ := c2_ BK132; have p139 : 0 ≤ ((ji69) : Int) := of_decide_eq_true (by first | (with_reducible assumption) | assumption); have q139 : (ji69) < (t135.length : Int) := of_decide_eq_true (by first | (with_reducible assumption) | assumption); obtain ⟨ad139, e139, hx139_0, hx139_1⟩ := at_T24 (Kd.R_reads' HO137.out).2.2 (ji69) p139 q139; cases e139; replace p139 := eq_true p139; replace q139 := eq_true q139)))
                 go_ret
                 exact ⟨by first | rfl | (simp [errW_none, errW_some] <;> rfl) | (simp only [← hji69]; first | rfl | (simp [errW_none, errW_some] <;> rfl)) | (simp [*, errW_none, errW_some] <;> rfl), bl_⟩
                ·rw [if_neg c72] at H
                 have c72b0 : (t129.toList == (((rd_T24 t135 (ji69)).f0).toList) && (t130.toList == (((rd_T24 t135 (ji69)).f1).toList))) = false := by simpa using c72
                 (try (have c72b1 : decide (t129.toList = (((rd_T24 t135 (ji69)).f0).toList) && (t130.toList == (((rd_T24 t135 (ji69)).f1).toList))) = false := by simpa using c72))
                 (try (have c72b2 : (t129.toList == (((rd_T24 t135 (ji69)).f0).toList) && (t130.toList == (((rd_T24 t135 (ji69)).f1).toList))) = false := by simpa using c72))
                 (try (have c72b3 : ¬ (t129.toList = (((rd_T24 t135 (ji69)).f0).toList) && (t130.toList == (((rd_T24 t135 (ji69)).f1).toList))) := by simpa using c72))
                 clear c72
                 obtain rfl := Option.some.inj H
                 go_wp2_with (first | (go_at_call 30; (with_reducible refine (schismaref04_Best.calls kj25 t122 t123 a1 t135 _ A65.out).mono ?_); rintro e w78 ⟨v136, rfl, ho0, hb⟩; have HO137 := Aside0.mk (Kd.R_lower (Kd.R_newB (Kd.R_newB (Kd.R_new' ho0 (Kd.R_lt (by (with_reducible repeat (first | apply Kd.R_alloc | apply Kd.R_drewN | apply Kd.R_drew)); exact HO_9.out))) (g := gb118) (o := .cells #[.string a0_0, .string a0_1] 24 (0, 0)) bk_) (g := gb132) (o := .cells #[.string t129, .string t130] 24 (0, 0)) bk_) (below_size bl_)); replace HO_9 := Aside0.mk (Kd.R_elder' (by (with_reducible repeat (first | apply Kd.R_alloc | apply Kd.R_drewN | apply Kd.R_drew)); exact HO_9.out) (Kd.R_base ho0) hb); replace BK118 := kb_ BK118 hb; replace BK132 := kb_ BK132 hb; replace HB := bs_ hb; (try clear hb); (try clear hb2); (try clear hk); (try clear hi); (try clear ho0); obtain ⟨Ao79, co79, eo79⟩ := Kd.R_slice HO_9.out; subst eo79; obtain ⟨Ao80, co80, eo80⟩ := Kd.R_slice HO137.out; subst eo80) | (go_at_call 23; (with_reducible refine (schismalaw04_same.calls kj25 _ _ t125 _ _ t135 true _ ?side1 ?side2 ?side3 ?side4 A66.out).mono ?_); (case side1 => repeat (first | exact (Kd.R_reads' HO_9.out).2.2 | (with_reducible refine Kd.C_alloc ?_ _) | (with_reducible refine Kd.C_drewN ?_ _) | (with_reducible refine Kd.C_drew ?_))); (case side2 => exact (Kd.R_reads' HO_9.out).2.1); (case side3 => repeat (first | exact (Kd.R_reads' HO137.out).2.2 | (with_reducible refine Kd.C_alloc ?_ _) | (with_reducible refine Kd.C_drewN ?_ _) | (with_reducible refine Kd.C_drew ?_))); (case side4 => exact (Kd.R_reads' HO137.out).2.1); rintro e w' ⟨rfl, ⟨nd, rfl⟩⟩; (try first | exact ⟨rfl, _, World.drewN_drewN _ _ _⟩ | exact ⟨rfl, _, Eq.trans (World.drewN_drewN _ _ _) (congrArg (World.drewN _) (Nat.add_assoc _ _ _))⟩); have hnb81 := NB132_118.out; have hnc81 := NB118_132.out; obtain ⟨hcz82_0, hcz82_1, hfz82_0, hfz82_1⟩ := c2_ BK132; have p139 : 0 ≤ ((ji69) : Int) := of_decide_eq_true (by first | (with_reducible assumption) | assumption); have q139 : (ji69) < (t135.length : Int) := of_decide_eq_true (by first | (with_reducible assumption) | assumption); obtain ⟨ad139, e139, hx139_0, hx139_1⟩ := at_T24 (Kd.R_reads' HO137.out).2.2 (ji69) p139 q139; cases e139; replace p139 := eq_true p139; replace q139 := eq_true q139))
                 repeat (go_quiet (first | (go_at_call 30; (with_reducible refine (schismaref04_Best.calls kj25 t122 t123 a1 t135 _ A65.out).mono ?_); rintro e w78 ⟨v136, rfl, ho0, hb⟩; have HO137 := Aside0.mk (Kd.R_lower (Kd.R_newB (Kd.R_newB (Kd.R_new' ho0 (Kd.R_lt (by (with_reducible repeat (first | apply Kd.R_alloc | apply Kd.R_drewN | apply Kd.R_drew)); exact HO_9.out))) (g := gb118) (o := .cells #[.string a0_0, .string a0_1] 24 (0, 0)) bk_) (g := gb132) (o := .cells #[.string t129, .string t130] 24 (0, 0)) bk_) (below_size bl_)); replace HO_9 := Aside0.mk (Kd.R_elder' (by (with_reducible repeat (first | apply Kd.R_alloc | apply Kd.R_drewN | apply Kd.R_drew)); exact HO_9.out) (Kd.R_base ho0) hb); replace BK118 := kb_ BK118 hb; replace BK132 := kb_ BK132 hb; replace HB := bs_ hb; (try clear hb); (try clear hb2); (try clear hk); (try clear hi); (try clear ho0); obtain ⟨Ao79, co79, eo79⟩ := Kd.R_slice HO_9.out; subst eo79; obtain ⟨Ao80, co80, eo80⟩ := Kd.R_slice HO137.out; subst eo80) | (go_at_call 23; (with_reducible refine (schismalaw04_same.calls kj25 _ _ t125 _ _ t135 true _ ?side1 ?side2 ?side3 ?side4 A66.out).mono ?_); (case side1 => repeat (first | exact (Kd.R_reads' HO_9.out).2.2 | (with_reducible refine Kd.C_alloc ?_ _) | (with_reducible refine Kd.C_drewN ?_ _) | (with_reducible refine Kd.C_drew ?_))); (case side2 => exact (Kd.R_reads' HO_9.out).2.1); (case side3 => repeat (first | exact (Kd.R_reads' HO137.out).2.2 | (with_reducible refine Kd.C_alloc ?_ _) | (with_reducible refine Kd.C_drewN ?_ _) | (with_reducible refine Kd.C_drew ?_))); (case side4 => exact (Kd.R_reads' HO137.out).2.1); rintro e w' ⟨rfl, ⟨nd, rfl⟩⟩; (try first | exact ⟨rfl, _, World.drewN_drewN _ _ _⟩ | exact ⟨rfl, _, Eq.trans (World.drewN_drewN _ _ _) (congrArg (World.drewN _) (Nat.add_assoc _ _ _))⟩); have hnb81 := NB132_118.out; have hnc81 := NB118_132.out; obtain ⟨hcz82_0, hcz82_1, hfz82_0, hfz82_1⟩ := c2_ BK132; have p139 : 0 ≤ ((ji69) : Int) := of_decide_eq_true (by first | (with_reducible assumption) | assumption); have q139 : (ji69) < (t135.length : Int) := of_decide_eq_true (by first | (with_reducible assumption) | assumption); obtain ⟨ad139, e139, hx139_0, hx139_1⟩ := at_T24 (Kd.R_reads' HO137.out).2.2 (ji69) p139 q139; cases e139; replace p139 := eq_true p139; replace q139 := eq_true q139)); try go_wp2_with (first | (go_at_call 30; (with_reducible refine (schismaref04_Best.calls kj25 t122 t123 a1 t135 _ A65.out).mono ?_); rintro e w78 ⟨v136, rfl, ho0, hb⟩; have HO137 := Aside0.mk (Kd.R_lower (Kd.R_newB (Kd.R_newB (Kd.R_new' ho0 (Kd.R_lt (by (with_reducible repeat (first | apply Kd.R_alloc | apply Kd.R_drewN | apply Kd.R_drew)); exact HO_9.out))) (g := gb118) (o := .cells #[.string a0_0, .string a0_1] 24 (0, 0)) bk_) (g := gb132) (o := .cells #[.string t129, .string t130] 24 (0, 0)) bk_) (below_size bl_)); replace HO_9 := Aside0.mk (Kd.R_elder' (by (with_reducible repeat (first | apply Kd.R_alloc | apply Kd.R_drewN | apply Kd.R_drew)); exact HO_9.out) (Kd.R_base ho0) hb); replace BK118 := kb_ BK118 hb; replace BK132 := kb_ BK132 hb; replace HB := bs_ hb; (try clear hb); (try clear hb2); (try clear hk); (try clear hi); (try clear ho0); obtain ⟨Ao79, co79, eo79⟩ := Kd.R_slice HO_9.out; subst eo79; obtain ⟨Ao80, co80, eo80⟩ := Kd.R_slice HO137.out; subst eo80) | (go_at_call 23; (with_reducible refine (schismalaw04_same.calls kj25 _ _ t125 _ _ t135 true _ ?side1 ?side2 ?side3 ?side4 A66.out).mono ?_); (case side1 => repeat (first | exact (Kd.R_reads' HO_9.out).2.2 | (with_reducible refine Kd.C_alloc ?_ _) | (with_reducible refine Kd.C_drewN ?_ _) | (with_reducible refine Kd.C_drew ?_))); (case side2 => exact (Kd.R_reads' HO_9.out).2.1); (case side3 => repeat (first | exact (Kd.R_reads' HO137.out).2.2 | (with_reducible refine Kd.C_alloc ?_ _) | (with_reducible refine Kd.C_drewN ?_ _) | (with_reducible refine Kd.C_drew ?_))); (case side4 => exact (Kd.R_reads' HO137.out).2.1); rintro e w' ⟨rfl, ⟨nd, rfl⟩⟩; (try first | exact ⟨rfl, _, World.drewN_drewN _ _ _⟩ | exact ⟨rfl, _, Eq.trans (World.drewN_drewN _ _ _) (congrArg (World.drewN _) (Nat.add_assoc _ _ _))⟩); have hnb81 := NB132_118.out; have hnc81 := NB118_132.out; obtain ⟨hcz82_0, hcz82_1, hfz82_0, hfz82_1⟩ := c2_ BK132; have p139 : 0 ≤ ((ji69) : Int) := of_decide_eq_true (by first | (with_reducible assumption) | assumption); have q139 : (ji69) < (t135.length : Int) := of_decide_eq_true (by first | (with_reducible assumption) | assumption); obtain ⟨ad139, e139, hx139_0, hx139_1⟩ := at_T24 (Kd.R_reads' HO137.out).2.2 (ji69) p139 q139; cases e139; replace p139 := eq_true p139; replace q139 := eq_true q139)))
                 go_ret
                 exact ⟨by first | rfl | (simp [errW_none, errW_some] <;> rfl) | (simp only [← hji69]; first | rfl | (simp [errW_none, errW_some] <;> rfl)) | (simp [*, errW_none, errW_some] <;> rfl), bl_⟩
               ·rw [if_neg c71] at H
                exact absurd H (by simp)
              ·rw [if_neg c70] at H
               exact absurd H (by simp)
             ·rw [if_neg c68] at H
              have c68b0 : (t128 == 0) = false := beq_eq_false_iff_ne.mpr c68
              have c68b1 : (t128 != 0) = true := bne_iff_ne.mpr c68
              obtain rfl := Option.some.inj H
              go_wp2_with (first | (go_at_call 30; (with_reducible refine (schismaref04_Best.calls kj25 t122 t123 a1 t135 _ A65.out).mono ?_); rintro e w83 ⟨v136, rfl, ho0, hb⟩; have HO137 := Aside0.mk (Kd.R_lower (Kd.R_newB (Kd.R_newB (Kd.R_new' ho0 (Kd.R_lt (by (with_reducible repeat (first | apply Kd.R_alloc | apply Kd.R_drewN | apply Kd.R_drew)); exact HO_9.out))) (g := gb118) (o := .cells #[.string a0_0, .string a0_1] 24 (0, 0)) bk_) (g := gb132) (o := .cells #[.string t129, .string t130] 24 (0, 0)) bk_) (below_size bl_)); replace HO_9 := Aside0.mk (Kd.R_elder' (by (with_reducible repeat (first | apply Kd.R_alloc | apply Kd.R_drewN | apply Kd.R_drew)); exact HO_9.out) (Kd.R_base ho0) hb); replace BK118 := kb_ BK118 hb; replace BK132 := kb_ BK132 hb; replace HB := bs_ hb; (try clear hb); (try clear hb2); (try clear hk); (try clear hi); (try clear ho0); obtain ⟨Ao84, co84, eo84⟩ := Kd.R_slice HO_9.out; subst eo84; obtain ⟨Ao85, co85, eo85⟩ := Kd.R_slice HO137.out; subst eo85) | (go_at_call 23; (with_reducible refine (schismalaw04_same.calls kj25 _ _ t125 _ _ t135 true _ ?side1 ?side2 ?side3 ?side4 A66.out).mono ?_); (case side1 => repeat (first | exact (Kd.R_reads' HO_9.out).2.2 | (with_reducible refine Kd.C_alloc ?_ _) | (with_reducible refine Kd.C_drewN ?_ _) | (with_reducible refine Kd.C_drew ?_))); (case side2 => exact (Kd.R_reads' HO_9.out).2.1); (case side3 => repeat (first | exact (Kd.R_reads' HO137.out).2.2 | (with_reducible refine Kd.C_alloc ?_ _) | (with_reducible refine Kd.C_drewN ?_ _) | (with_reducible refine Kd.C_drew ?_))); (case side4 => exact (Kd.R_reads' HO137.out).2.1); rintro e w' ⟨rfl, ⟨nd, rfl⟩⟩; (try first | exact ⟨rfl, _, World.drewN_drewN _ _ _⟩ | exact ⟨rfl, _, Eq.trans (World.drewN_drewN _ _ _) (congrArg (World.drewN _) (Nat.add_assoc _ _ _))⟩)))
              repeat (go_quiet (first | (go_at_call 30; (with_reducible refine (schismaref04_Best.calls kj25 t122 t123 a1 t135 _ A65.out).mono ?_); rintro e w83 ⟨v136, rfl, ho0, hb⟩; have HO137 := Aside0.mk (Kd.R_lower (Kd.R_newB (Kd.R_newB (Kd.R_new' ho0 (Kd.R_lt (by (with_reducible repeat (first | apply Kd.R_alloc | apply Kd.R_drewN | apply Kd.R_drew)); exact HO_9.out))) (g := gb118) (o := .cells #[.string a0_0, .string a0_1] 24 (0, 0)) bk_) (g := gb132) (o := .cells #[.string t129, .string t130] 24 (0, 0)) bk_) (below_size bl_)); replace HO_9 := Aside0.mk (Kd.R_elder' (by (with_reducible repeat (first | apply Kd.R_alloc | apply Kd.R_drewN | apply Kd.R_drew)); exact HO_9.out) (Kd.R_base ho0) hb); replace BK118 := kb_ BK118 hb; replace BK132 := kb_ BK132 hb; replace HB := bs_ hb; (try clear hb); (try clear hb2); (try clear hk); (try clear hi); (try clear ho0); obtain ⟨Ao84, co84, eo84⟩ := Kd.R_slice HO_9.out; subst eo84; obtain ⟨Ao85, co85, eo85⟩ := Kd.R_slice HO137.out; subst eo85) | (go_at_call 23; (with_reducible refine (schismalaw04_same.calls kj25 _ _ t125 _ _ t135 true _ ?side1 ?side2 ?side3 ?side4 A66.out).mono ?_); (case side1 => repeat (first | exact (Kd.R_reads' HO_9.out).2.2 | (with_reducible refine Kd.C_alloc ?_ _) | (with_reducible refine Kd.C_drewN ?_ _) | (with_reducible refine Kd.C_drew ?_))); (case side2 => exact (Kd.R_reads' HO_9.out).2.1); (case side3 => repeat (first | exact (Kd.R_reads' HO137.out).2.2 | (with_reducible refine Kd.C_alloc ?_ _) | (with_reducible refine Kd.C_drewN ?_ _) | (with_reducible refine Kd.C_drew ?_))); (case side4 => exact (Kd.R_reads' HO137.out).2.1); rintro e w' ⟨rfl, ⟨nd, rfl⟩⟩; (try first | exact ⟨rfl, _, World.drewN_drewN _ _ _⟩ | exact ⟨rfl, _, Eq.trans (World.drewN_drewN _ _ _) (congrArg (World.drewN _) (Nat.add_assoc _ _ _))⟩))); try go_wp2_with (first | (go_at_call 30; (with_reducible refine (schismaref04_Best.calls kj25 t122 t123 a1 t135 _ A65.out).mono ?_); rintro e w83 ⟨v136, rfl, ho0, hb⟩; have HO137 := Aside0.mk (Kd.R_lower (Kd.R_newB (Kd.R_newB (Kd.R_new' ho0 (Kd.R_lt (by (with_reducible repeat (first | apply Kd.R_alloc | apply Kd.R_drewN | apply Kd.R_drew)); exact HO_9.out))) (g := gb118) (o := .cells #[.string a0_0, .string a0_1] 24 (0, 0)) bk_) (g := gb132) (o := .cells #[.string t129, .string t130] 24 (0, 0)) bk_) (below_size bl_)); replace HO_9 := Aside0.mk (Kd.R_elder' (by (with_reducible repeat (first | apply Kd.R_alloc | apply Kd.R_drewN | apply Kd.R_drew)); exact HO_9.out) (Kd.R_base ho0) hb); replace BK118 := kb_ BK118 hb; replace BK132 := kb_ BK132 hb; replace HB := bs_ hb; (try clear hb); (try clear hb2); (try clear hk); (try clear hi); (try clear ho0); obtain ⟨Ao84, co84, eo84⟩ := Kd.R_slice HO_9.out; subst eo84; obtain ⟨Ao85, co85, eo85⟩ := Kd.R_slice HO137.out; subst eo85) | (go_at_call 23; (with_reducible refine (schismalaw04_same.calls kj25 _ _ t125 _ _ t135 true _ ?side1 ?side2 ?side3 ?side4 A66.out).mono ?_); (case side1 => repeat (first | exact (Kd.R_reads' HO_9.out).2.2 | (with_reducible refine Kd.C_alloc ?_ _) | (with_reducible refine Kd.C_drewN ?_ _) | (with_reducible refine Kd.C_drew ?_))); (case side2 => exact (Kd.R_reads' HO_9.out).2.1); (case side3 => repeat (first | exact (Kd.R_reads' HO137.out).2.2 | (with_reducible refine Kd.C_alloc ?_ _) | (with_reducible refine Kd.C_drewN ?_ _) | (with_reducible refine Kd.C_drew ?_))); (case side4 => exact (Kd.R_reads' HO137.out).2.1); rintro e w' ⟨rfl, ⟨nd, rfl⟩⟩; (try first | exact ⟨rfl, _, World.drewN_drewN _ _ _⟩ | exact ⟨rfl, _, Eq.trans (World.drewN_drewN _ _ _) (congrArg (World.drewN _) (Nat.add_assoc _ _ _))⟩))))
              go_ret
              exact ⟨er_, bl_⟩
            ·replace c67 := Bool.eq_false_iff.mpr c67
             subst c67
             have H1 : (some false) = some r := by rw [if_neg (show ¬ (false = true) by decide)] at H; exact H
             clear H
             have H := H1
             clear H1
             obtain rfl := Option.some.inj H
             go_wp2_with (first | (go_at_call 30; (with_reducible refine (schismaref04_Best.calls kj25 t122 t123 a1 t135 _ A65.out).mono ?_); rintro e w86 ⟨v136, rfl, ho0, hb⟩; have HO137 := Aside0.mk (Kd.R_lower (Kd.R_newB (Kd.R_newB (Kd.R_new' ho0 (Kd.R_lt (by (with_reducible repeat (first | apply Kd.R_alloc | apply Kd.R_drewN | apply Kd.R_drew)); exact HO_9.out))) (g := gb118) (o := .cells #[.string a0_0, .string a0_1] 24 (0, 0)) bk_) (g := gb132) (o := .cells #[.string t129, .string t130] 24 (0, 0)) bk_) (below_size bl_)); replace HO_9 := Aside0.mk (Kd.R_elder' (by (with_reducible repeat (first | apply Kd.R_alloc | apply Kd.R_drewN | apply Kd.R_drew)); exact HO_9.out) (Kd.R_base ho0) hb); replace BK118 := kb_ BK118 hb; replace BK132 := kb_ BK132 hb; replace HB := bs_ hb; (try clear hb); (try clear hb2); (try clear hk); (try clear hi); (try clear ho0); obtain ⟨Ao87, co87, eo87⟩ := Kd.R_slice HO_9.out; subst eo87; obtain ⟨Ao88, co88, eo88⟩ := Kd.R_slice HO137.out; subst eo88) | (go_at_call 23; (with_reducible refine (schismalaw04_same.calls kj25 _ _ t125 _ _ t135 false _ ?side1 ?side2 ?side3 ?side4 A66.out).mono ?_); (case side1 => repeat (first | exact (Kd.R_reads' HO_9.out).2.2 | (with_reducible refine Kd.C_alloc ?_ _) | (with_reducible refine Kd.C_drewN ?_ _) | (with_reducible refine Kd.C_drew ?_))); (case side2 => exact (Kd.R_reads' HO_9.out).2.1); (case side3 => repeat (first | exact (Kd.R_reads' HO137.out).2.2 | (with_reducible refine Kd.C_alloc ?_ _) | (with_reducible refine Kd.C_drewN ?_ _) | (with_reducible refine Kd.C_drew ?_))); (case side4 => exact (Kd.R_reads' HO137.out).2.1); rintro e w' ⟨rfl, ⟨nd, rfl⟩⟩; (try first | exact ⟨rfl, _, World.drewN_drewN _ _ _⟩ | exact ⟨rfl, _, Eq.trans (World.drewN_drewN _ _ _) (congrArg (World.drewN _) (Nat.add_assoc _ _ _))⟩)))
             repeat (go_quiet (first | (go_at_call 30; (with_reducible refine (schismaref04_Best.calls kj25 t122 t123 a1 t135 _ A65.out).mono ?_); rintro e w86 ⟨v136, rfl, ho0, hb⟩; have HO137 := Aside0.mk (Kd.R_lower (Kd.R_newB (Kd.R_newB (Kd.R_new' ho0 (Kd.R_lt (by (with_reducible repeat (first | apply Kd.R_alloc | apply Kd.R_drewN | apply Kd.R_drew)); exact HO_9.out))) (g := gb118) (o := .cells #[.string a0_0, .string a0_1] 24 (0, 0)) bk_) (g := gb132) (o := .cells #[.string t129, .string t130] 24 (0, 0)) bk_) (below_size bl_)); replace HO_9 := Aside0.mk (Kd.R_elder' (by (with_reducible repeat (first | apply Kd.R_alloc | apply Kd.R_drewN | apply Kd.R_drew)); exact HO_9.out) (Kd.R_base ho0) hb); replace BK118 := kb_ BK118 hb; replace BK132 := kb_ BK132 hb; replace HB := bs_ hb; (try clear hb); (try clear hb2); (try clear hk); (try clear hi); (try clear ho0); obtain ⟨Ao87, co87, eo87⟩ := Kd.R_slice HO_9.out; subst eo87; obtain ⟨Ao88, co88, eo88⟩ := Kd.R_slice HO137.out; subst eo88) | (go_at_call 23; (with_reducible refine (schismalaw04_same.calls kj25 _ _ t125 _ _ t135 false _ ?side1 ?side2 ?side3 ?side4 A66.out).mono ?_); (case side1 => repeat (first | exact (Kd.R_reads' HO_9.out).2.2 | (with_reducible refine Kd.C_alloc ?_ _) | (with_reducible refine Kd.C_drewN ?_ _) | (with_reducible refine Kd.C_drew ?_))); (case side2 => exact (Kd.R_reads' HO_9.out).2.1); (case side3 => repeat (first | exact (Kd.R_reads' HO137.out).2.2 | (with_reducible refine Kd.C_alloc ?_ _) | (with_reducible refine Kd.C_drewN ?_ _) | (with_reducible refine Kd.C_drew ?_))); (case side4 => exact (Kd.R_reads' HO137.out).2.1); rintro e w' ⟨rfl, ⟨nd, rfl⟩⟩; (try first | exact ⟨rfl, _, World.drewN_drewN _ _ _⟩ | exact ⟨rfl, _, Eq.trans (World.drewN_drewN _ _ _) (congrArg (World.drewN _) (Nat.add_assoc _ _ _))⟩))); try go_wp2_with (first | (go_at_call 30; (with_reducible refine (schismaref04_Best.calls kj25 t122 t123 a1 t135 _ A65.out).mono ?_); rintro e w86 ⟨v136, rfl, ho0, hb⟩; have HO137 := Aside0.mk (Kd.R_lower (Kd.R_newB (Kd.R_newB (Kd.R_new' ho0 (Kd.R_lt (by (with_reducible repeat (first | apply Kd.R_alloc | apply Kd.R_drewN | apply Kd.R_drew)); exact HO_9.out))) (g := gb118) (o := .cells #[.string a0_0, .string a0_1] 24 (0, 0)) bk_) (g := gb132) (o := .cells #[.string t129, .string t130] 24 (0, 0)) bk_) (below_size bl_)); replace HO_9 := Aside0.mk (Kd.R_elder' (by (with_reducible repeat (first | apply Kd.R_alloc | apply Kd.R_drewN | apply Kd.R_drew)); exact HO_9.out) (Kd.R_base ho0) hb); replace BK118 := kb_ BK118 hb; replace BK132 := kb_ BK132 hb; replace HB := bs_ hb; (try clear hb); (try clear hb2); (try clear hk); (try clear hi); (try clear ho0); obtain ⟨Ao87, co87, eo87⟩ := Kd.R_slice HO_9.out; subst eo87; obtain ⟨Ao88, co88, eo88⟩ := Kd.R_slice HO137.out; subst eo88) | (go_at_call 23; (with_reducible refine (schismalaw04_same.calls kj25 _ _ t125 _ _ t135 false _ ?side1 ?side2 ?side3 ?side4 A66.out).mono ?_); (case side1 => repeat (first | exact (Kd.R_reads' HO_9.out).2.2 | (with_reducible refine Kd.C_alloc ?_ _) | (with_reducible refine Kd.C_drewN ?_ _) | (with_reducible refine Kd.C_drew ?_))); (case side2 => exact (Kd.R_reads' HO_9.out).2.1); (case side3 => repeat (first | exact (Kd.R_reads' HO137.out).2.2 | (with_reducible refine Kd.C_alloc ?_ _) | (with_reducible refine Kd.C_drewN ?_ _) | (with_reducible refine Kd.C_drew ?_))); (case side4 => exact (Kd.R_reads' HO137.out).2.1); rintro e w' ⟨rfl, ⟨nd, rfl⟩⟩; (try first | exact ⟨rfl, _, World.drewN_drewN _ _ _⟩ | exact ⟨rfl, _, Eq.trans (World.drewN_drewN _ _ _) (congrArg (World.drewN _) (Nat.add_assoc _ _ _))⟩))))
             go_ret
             exact ⟨er_, bl_⟩
end Go.Proofs.YtidajgkepdkcbaaGreatDoor.PL
end
section
namespace Go.Proofs.YtidajgkepdkcbaaGreatDoor
open Go.RowKit Go.Lib Go.Proofs.YtidajgkepdkcbaaGreatDoorW.PrintWords Go.Proofs.YtidajgkepdkcbaaGreatDoorW.PrintLast Go.Proofs.YtidajgkepdkcbaaGreatDoorW.PrintMore PF PL
theorem Bounded_wrong' {a b : ByteArray} {x : Int} (ha : a.size ≤ 17) (hb : b.size ≤ 17) (h : ∀ n d, a = T n → b = T d → ¬ Fr n d) : Ev (fun k => convergent_bounded.f k a b x) 2 := by
 unfold convergent_bounded.f
 exact Ev.bind (Wrong_yes ha hb h) (Ev.congr (fun k => if_pos rfl) (ev_const fun _ => rfl))
theorem Bounded_range' {n d x : Int} (hn : S17 n) (hd : S17 d) (h : Fr n d) (hx : x < 1 ∨ 1000000 < x) : Ev (fun k => convergent_bounded.f k (T n) (T d) x) 3 := by
 unfold convergent_bounded.f
 refine Ev.bind (Wrong_no hn hd h) (Ev.congr (fun k => if_neg (by simp)) (ev_const fun _ => ?_))
 rcases hx with hx | hx
 ·rw [if_pos hx]
 ·rw [if_neg (by omega), if_pos (by omega)]
theorem mulb {x y a b : Int} (hx : -a ≤ x ∧ x ≤ a) (hy : -b ≤ y ∧ y ≤ b) (ha : 0 ≤ a) (hb : 0 ≤ b) : -(a * b) ≤ x * y ∧ x * y ≤ a * b := by
 have h1 : (x * y).natAbs ≤ a.natAbs * b.natAbs := by rw [Int.natAbs_mul]; exact Nat.mul_le_mul (by omega) (by omega)
 have h2 : ((a.natAbs * b.natAbs : Nat) : Int) = a * b := by rw [Int.natCast_mul]; congr 1 <;> omega
 omega
theorem RNearer {n d p q r s : Int} (hn : -10000000 ≤ n ∧ n ≤ 10000000) (hd : 0 < d ∧ d ≤ 10000000) (hp : -1000000000 ≤ p ∧ p ≤ 1000000000) (hr : -1000000000 ≤ r ∧ r ≤ 1000000000) (hq : 0 ≤ q ∧ q ≤ 61) (hs : 0 ≤ s ∧ s ≤ 61) :
  schismaref04_Nearer.f n d p q r s = some (decide (nearer n d (p, q) (r, s))) := by
 have a1 := mulb hn (show -61 ≤ q ∧ q ≤ 61 by omega) (by decide) (by decide)
 have a2 := mulb hp (show -10000000 ≤ d ∧ d ≤ 10000000 by omega) (by decide) (by decide)
 have a3 := mulb hn (show -61 ≤ s ∧ s ≤ 61 by omega) (by decide) (by decide)
 have a4 := mulb hr (show -10000000 ≤ d ∧ d ≤ 10000000 by omega) (by decide) (by decide)
 obtain ⟨x, hx⟩ : ∃ x, x = n * q - p * d := ⟨_, rfl⟩
 obtain ⟨y, hy⟩ : ∃ y, y = n * s - r * d := ⟨_, rfl⟩
 have b1 := mulb (x := x) (a := 20000000000000000) (show _ by omega) (show -61 ≤ s ∧ s ≤ 61 by omega) (by decide) (by decide)
 have b2 := mulb (x := y) (a := 20000000000000000) (show _ by omega) (show -61 ≤ q ∧ q ≤ 61 by omega) (by decide) (by decide)
 have b3 := mulb (x := -x) (a := 20000000000000000) (show _ by omega) (show -61 ≤ s ∧ s ≤ 61 by omega) (by decide) (by decide)
 have b4 := mulb (x := -y) (a := 20000000000000000) (show _ by omega) (show -61 ≤ q ∧ q ≤ 61 by omega) (by decide) (by decide)
 have w1 : wrap64 (wrap64 (n * q) - wrap64 (p * d)) = x := by rw [w64 (x := n * q) (by omega) (by omega), w64 (x := p * d) (by omega) (by omega), w64 (by omega) (by omega), hx]
 have w2 : wrap64 (wrap64 (n * s) - wrap64 (r * d)) = y := by rw [w64 (x := n * s) (by omega) (by omega), w64 (x := r * d) (by omega) (by omega), w64 (by omega) (by omega), hy]
 have ex : er n d (p, q) = (x.natAbs : Int) := by unfold er; simp only; rw [hx, Int.mul_comm d p]
 have ey : er n d (r, s) = (y.natAbs : Int) := by unfold er; simp only; rw [hy, Int.mul_comm d r]
 have hnr : nearer n d (p, q) (r, s) ↔ (x.natAbs : Int) * s < (y.natAbs : Int) * q := by unfold nearer; rw [ex, ey]
 have hdec : decide (nearer n d (p, q) (r, s)) = decide ((x.natAbs : Int) * s < (y.natAbs : Int) * q) := decide_eq_decide.2 hnr
 unfold schismaref04_Nearer.f
 rw [w1, w2, hdec]
 by_cases hx0 : x < 0
 ·rw [if_pos hx0, w64 (x := -x) (by omega) (by omega), w64 (x := -x * s) (by omega) (by omega), show (x.natAbs : Int) = -x by omega]
  by_cases hy0 : y < 0
  ·rw [if_pos hy0, w64 (x := -y) (by omega) (by omega), w64 (x := -y * q) (by omega) (by omega), show (y.natAbs : Int) = -y by omega]
  ·rw [if_neg hy0, w64 (x := y * q) (by omega) (by omega), show (y.natAbs : Int) = y by omega]
 ·rw [if_neg hx0, w64 (x := x * s) (by omega) (by omega), show (x.natAbs : Int) = x by omega]
  by_cases hy0 : y < 0
  ·rw [if_pos hy0, w64 (x := -y) (by omega) (by omega), w64 (x := -y * q) (by omega) (by omega), show (y.natAbs : Int) = -y by omega]
  ·rw [if_neg hy0, w64 (x := y * q) (by omega) (by omega), show (y.natAbs : Int) = y by omega]
theorem near_bd {n d q : Int} (hn : -10000000 ≤ n ∧ n ≤ 10000000) (hd : 0 < d ∧ d ≤ 10000000) (hq : 1 ≤ q ∧ q ≤ 61) : -700000000 ≤ n * q / d ∧ n * q / d ≤ 700000000 ∧ -700000000 ≤ near n d q ∧ near n d q ≤ 700000001 := by
 have a1 := mulb hn (show -61 ≤ q ∧ q ≤ 61 by omega) (by decide) (by decide)
 have h1 : n * q / d ≤ 700000000 := by
  have := Int.ediv_lt_of_lt_mul hd.1 (show n * q < 700000001 * d by
   have : 700000001 * 1 ≤ 700000001 * d := Int.mul_le_mul_of_nonneg_left (by omega) (by decide)
   omega)
  omega
 have h2 : -700000000 ≤ n * q / d := (Int.le_ediv_iff_mul_le hd.1).2 (by
  have : -700000000 * d ≤ -700000000 * 1 := Int.mul_le_mul_of_nonpos_left (by decide) (by omega)
  omega)
 unfold near
 split <;> omega
theorem rbest_open {n d bound : Int} (hn : -10000000 ≤ n ∧ n ≤ 10000000) (hd : 0 < d ∧ d ≤ 10000000) (hb : bound ≤ 60) {q : Int} (hq : 1 ≤ q) (hqb : q ≤ bound) (out : List S24) (r s : Int) (k : Nat) :
  schismaref04_Best.l0 (k + 1) n d bound out r s q = schismaref04_Best.j1 k n d bound out r s q (near n d q) := by
 obtain ⟨b1, b2, b3, b4⟩ := near_bd hn hd (q := q) ⟨hq, by omega⟩
 have a1 := mulb hn (show -61 ≤ q ∧ q ≤ 61 by omega) (by decide) (by decide)
 have e0 := Int.mul_ediv_add_emod (n * q) d
 have r0 := Int.emod_nonneg (n * q) (b := d) (by omega)
 have r1 := Int.emod_lt_of_pos (n * q) hd.1
 rw [schismaref04_Best.l0, if_pos hqb, w64 (x := n * q) (by omega) (by omega), RFloor (by omega) hd.1]
 simp only [Option.bind_some]
 rw [w64 (x := n * q / d + 1) (by omega) (by omega), RNearer hn hd (by omega) (by omega) (by omega) (by omega)]
 simp only [Option.bind_some]
 have en : nearer n d (n * q / d + 1, q) (n * q / d, q) ↔ d < 2 * (n * q % d) := by
  unfold nearer er
  simp only
  have : d * (n * q / d + 1) = d * (n * q / d) + d := by grind
  have h1 : ((n * q - d * (n * q / d + 1)).natAbs : Int) = d - n * q % d := by omega
  have h2 : ((n * q - d * (n * q / d)).natAbs : Int) = n * q % d := by omega
  rw [h1, h2]
  constructor
  ·intro h; have := Int.lt_of_mul_lt_mul_right h (by omega); omega
  ·intro h; exact Int.mul_lt_mul_of_pos_right (by omega) (by omega)
 unfold near
 by_cases h : d < 2 * (n * q % d)
 ·rw [decide_eq_true (en.2 h), if_pos rfl, if_pos h]
 ·rw [decide_eq_false (fun hh => h (en.1 hh)), if_neg (by simp), if_neg h]
theorem rbest_go {n d bound : Int} (hn : -10000000 ≤ n ∧ n ≤ 10000000) (hd : 0 < d ∧ d ≤ 10000000) (hb : bound ≤ 60) : ∀ (k : Nat) (q : Int) (z : Int × Int) (out : List S24), q + k = bound + 1 → 1 ≤ q → 1 ≤ z.2 → z.2 ≤ 61 → -1000000000 ≤ z.1 ∧ z.1 ≤ 1000000000 → out.length + k ≤ 1000 →
  Ev (fun f => schismaref04_Best.l0 f n d bound out z.1 z.2 q) (out ++ (goB n d z (nears n d q k)).map fs)
 | 0, q, z, out, hk, _, _, _, _, _ => ev_here 1 fun f => by rw [schismaref04_Best.l0, if_neg (by omega)]; simp [nears, goB]
 | k + 1, q, z, out, hk, hq, hz1, hz2, hz, ho => by
  obtain ⟨b1, b2, b3, b4⟩ := near_bd hn hd (q := q) ⟨hq, by omega⟩
  refine Ev.step (fun f => rbest_open hn hd hb hq (by omega) out z.1 z.2 f) ?_
  simp only [nears, goB]
  by_cases h : nearer n d (near n d q, q) z
  ·rw [if_pos h]
   have ih := rbest_go hn hd hb k (q + 1) (near n d q, q) (out ++ [fs (near n d q, q)]) (by omega) (by omega) (by simp only; omega) (by simp only; omega) (by simp only; omega) (by simp; omega)
   have e : out ++ ((near n d q, q) :: goB n d (near n d q, q) (nears n d (q + 1) k)).map fs = out ++ [fs (near n d q, q)] ++ (goB n d (near n d q, q) (nears n d (q + 1) k)).map fs := by simp
   rw [e]
   refine Ev.step (f := fun f => (schismaref04_Make.f f (near n d q) q).bind fun bt430 => (if out.length < 4398046511104 then (schismaref04_Best.l0 f n d bound (out ++ [(⟨bt430.1, bt430.2⟩ : S24)]) (near n d q) q (wrap64 (q + 1))) else (none))) (fun f => ?_) (Ev.bind (RMake (by omega) (by omega) (by omega)) (Ev.congr (fun f => if_pos (by omega)) ?_))
   ·rw [schismaref04_Best.j1, if_neg (by omega), RNearer hn hd (by omega) hz (by omega) (by omega)]
    simp only [Option.bind_some]
    rw [decide_eq_true h, if_pos rfl]
   ·rw [w64 (by omega) (by omega)]
    exact ih
  ·rw [if_neg h]
   have ih := rbest_go hn hd hb k (q + 1) z out (by omega) (by omega) hz1 hz2 hz (by omega)
   refine Ev.step (fun f => ?_) ih
   rw [schismaref04_Best.j1, if_neg (by omega), RNearer hn hd (by omega) hz (by omega) (by omega)]
   simp only [Option.bind_some]
   rw [decide_eq_false h, if_neg (by simp), w64 (by omega) (by omega)]
theorem RBest {n d bound : Int} (hn : -10000000 ≤ n ∧ n ≤ 10000000) (hd : 0 < d ∧ d ≤ 10000000) (hb : bound ≤ 60) (k : Nat) (hk : bound = (k : Int) + 1) :
  Ev (fun f => schismaref04_Best.f f n d bound) (((near n d 1, 1) :: goB n d (near n d 1, 1) (nears n d 2 k)).map fs) := by
 obtain ⟨b1, b2, b3, b4⟩ := near_bd hn hd (q := 1) ⟨by omega, by omega⟩
 unfold schismaref04_Best.f
 refine Ev.step (fun f => rbest_open hn hd hb (q := 1) (by omega) (by omega) [] 0 0 f) ?_
 have ih := rbest_go hn hd hb k 2 (near n d 1, 1) [fs (near n d 1, 1)] (by omega) (by omega) (by simp only; omega) (by simp only; omega) (by simp only; omega) (by simp; omega)
 refine Ev.step (f := fun f => (schismaref04_Make.f f (near n d 1) 1).bind fun bt424 => (if ([] : List S24).length < 4398046511104 then (schismaref04_Best.l0 f n d bound ([] ++ [(⟨bt424.1, bt424.2⟩ : S24)]) (near n d 1) 1 (wrap64 (1 + 1))) else (none))) (fun f => by rw [schismaref04_Best.j1, if_pos rfl]) (Ev.bind (RMake (by omega) (by omega) (by omega)) (Ev.congr (fun f => if_pos (by simp)) ?_))
 rw [w64 (x := 1 + 1) (by omega) (by omega)]
 exact ih
theorem bestRow_eq {n d bound : Int} {ts : List Int} (hd : 0 < d) (k : Nat) (hk : bound = (k : Int) + 1) (hts : isCf ts n d) : bestRow n d bound ts = (near n d 1, 1) :: goB n d (near n d 1, 1) (nears n d 2 k) := by
 cases ts with
 | nil => exact hts.elim
 | cons a l =>
  unfold bestRow
  rw [semis_first, goP_all]
  exact best_final hd k hk hts
theorem bestRow_sf {n d bound : Int} {ts : List Int} (hn1 : -10000000 ≤ n) (hn2 : n ≤ 10000000) (hd : 0 < d) (hb : 1 ≤ bound) (hts : isCf ts n d) : (bestRow n d bound ts).map sf = (bestRow n d bound ts).map fs := by
 refine List.map_congr_left fun y hy => ?_
 have hm : y ∈ semis half bound true CS.begin ts := by
  rcases fold_mem _ _ hy with h | h
  ·exact absurd h List.not_mem_nil
  ·exact h
 have hg := semis_all (f := half) (M := 10000000) (by omega) (by omega) hd hb hts y hm
 unfold sf fs
 rw [hg.fr]
theorem foldAr_mem {n d : Int} : ∀ (ys : List (Int × Int)) (lo hi : Option (Int × Int)), ((foldAr n d lo hi ys).1 = lo ∨ ∃ y ∈ ys, (foldAr n d lo hi ys).1 = some y) ∧ ((foldAr n d lo hi ys).2 = hi ∨ ∃ y ∈ ys, (foldAr n d lo hi ys).2 = some y)
 | [], lo, hi => ⟨.inl rfl, .inl rfl⟩
 | y :: ys, lo, hi => by
  simp only [foldAr]
  split
  ·obtain ⟨h1, h2⟩ := foldAr_mem ys (some y) hi
   refine ⟨.inr ?_, ?_⟩
   ·rcases h1 with h1 | ⟨z, hz, h1⟩
    ·exact ⟨y, by simp, h1⟩
    ·exact ⟨z, by simp [hz], h1⟩
   ·rcases h2 with h2 | ⟨z, hz, h2⟩
    ·exact .inl h2
    ·exact .inr ⟨z, by simp [hz], h2⟩
  ·obtain ⟨h1, h2⟩ := foldAr_mem ys lo (some y)
   refine ⟨?_, .inr ?_⟩
   ·rcases h1 with h1 | ⟨z, hz, h1⟩
    ·exact .inl h1
    ·exact .inr ⟨z, by simp [hz], h1⟩
   ·rcases h2 with h2 | ⟨z, hz, h2⟩
    ·exact ⟨y, by simp, h2⟩
    ·exact ⟨z, by simp [hz], h2⟩
theorem around_all {n d bound : Int} {ts : List Int} (hn1 : -1000000 < n) (hn2 : n < 10000000) (hF : Fr n d) (hd2 : d < 10000000) (hb : 1 ≤ bound) (hb2 : bound ≤ 60) (hbd : bound < d) (hts : isCf ts n d) (hl : ts.length ≤ 1000) :
  ∃ A B C E, convergent_around.f (T n) (T d) bound = some (T A, T B, T C, T E) ∧ Nb n d bound A B C E ∧ Good n d bound 10000000 (A, B) ∧ Good n d bound 10000000 (C, E) := by
 obtain ⟨A, B, C, E, h1, h2⟩ := around_some hF hb hbd hts
 have hg := semis_all (f := lastF) (bound := bound) (M := 10000000) (by omega) (by omega) hF.1 hb hts
 obtain ⟨m1, m2⟩ := foldAr_mem (n := n) (d := d) (semis lastF bound true CS.begin ts) none none
 rw [h1] at m1 m2
 refine ⟨A, B, C, E, Around_yes (a := (A, B)) (b := (C, E)) ⟨rfl, rfl, hn1, hn2, hF, hd2, hb, hb2, hts, hl, h1⟩, h2, ?_, ?_⟩
 ·rcases m1 with h | ⟨y, hy, h⟩
  ·cases h
  ·obtain rfl := Option.some.inj h; exact hg _ hy
 ·rcases m2 with h | ⟨y, hy, h⟩
  ·cases h
  ·obtain rfl := Option.some.inj h; exact hg _ hy
theorem Nearest_T {n d bound : Int} {ts : List Int} {z : Int × Int} (hn1 : -1000000 < n) (hn2 : n < 10000000) (hF : Fr n d) (hd2 : d < 10000000) (hb : 1 ≤ bound) (hb2 : bound ≤ 60) (hts : isCf ts n d) (hl : ts.length ≤ 1000) (hz : Best1 n d (bound + 1) z) :
  Ev (fun k => convergent_Nearest.f k (T n) (T d) bound) (T z.1, T z.2, 0) := by
 have hnS : S17 n := by unfold S17; omega
 have hd := hF.1
 have hdS : S17 d := by unfold S17; omega
 have hbS : S17 bound := by unfold S17; omega
 unfold convergent_Nearest.f
 refine Ev.bind (Bounded_T hnS hdS hF hb (by omega)) (Ev.congr (fun k => if_pos rfl) ?_)
 refine Ev.bind (ev_const fun _ => whole_Of_T (i := bound) (by omega) (by omega)) (Ev.bind (ev_const fun _ => Compare_T (by have := hdS.size; omega) (by have := hbS.size; omega)) ?_)
 by_cases hbd : d ≤ bound
 ·have hc : cmp d bound ≤ 0 := by unfold cmp; split; omega; rw [if_neg (by omega)]; omega
  refine Ev.congr (fun k => if_pos hc) (ev_const fun _ => ?_)
  obtain rfl := hz.self hd hF.2 hbd
  rfl
 ·have hc : ¬ cmp d bound ≤ 0 := by unfold cmp; rw [if_neg (by omega), if_pos (by omega)]; omega
  refine Ev.congr (fun k => if_neg hc) ?_
  obtain ⟨A, B, C, E, h1, hN, gA, gC⟩ := around_all hn1 hn2 hF hd2 hb hb2 (by omega) hts hl
  have hp := hz.pick hd hF.2 (by omega) hN
  refine Ev.bind (ev_const fun _ => h1) ?_
  refine Ev.bind (Dist_T (gA.sumOk hn1 hn2 hd hd2 hb2 (by omega))) (Ev.bind (Dist_T (gC.sumOk hn1 hn2 hd hd2 hb2 (by omega))) ?_)
  have dA := gA.dist hd hd2 hb2
  have dC := gC.dist hd hd2 hb2
  simp only at dA dC
  refine Ev.bind (ev_const fun k => FCompare_little dA.1 dA.2 dC.1 dC.2 k) ?_
  have n1 : (dst n d A B).1 * (dst n d C E).2 < (dst n d C E).1 * (dst n d A B).2 ↔ nearer n d (A, B) (C, E) := by
   have := dst_nearer (n := n) (p := A) (q := B) (r := C) (s := E) hd (show 0 < B by have := hN.b1; omega) (show 0 < E by have := hN.e1; omega)
   unfold nearer er
   simp only
   rw [Int.mul_comm d A, Int.mul_comm d C]
   exact this
  have n2 : (dst n d C E).1 * (dst n d A B).2 < (dst n d A B).1 * (dst n d C E).2 ↔ nearer n d (C, E) (A, B) := by
   have := dst_nearer (n := n) (p := C) (q := E) (r := A) (s := B) hd (show 0 < E by have := hN.e1; omega) (show 0 < B by have := hN.b1; omega)
   unfold nearer er
   simp only
   rw [Int.mul_comm d A, Int.mul_comm d C]
   exact this
  generalize hX : (dst n d A B).1 * (dst n d C E).2 = X at *
  generalize hY : (dst n d C E).1 * (dst n d A B).2 = Y at *
  have sB : S17 B := by have := hN.b1; have := hN.b2; unfold S17; omega
  have sE : S17 E := by have := hN.e1; have := hN.e2; unfold S17; omega
  by_cases c0 : X < Y
  ·have : cmp X Y = -1 := by unfold cmp; rw [if_pos c0]
   rw [this]
   refine Ev.congr (fun k => if_neg (by decide)) (Ev.congr (fun k => if_pos (by decide)) (ev_const fun _ => ?_))
   rw [hp, if_pos (.inl (n1.1 c0))]
  ·by_cases c1 : Y < X
   ·have : cmp X Y = 1 := by unfold cmp; rw [if_neg c0, if_pos c1]
    rw [this]
    refine Ev.congr (fun k => if_neg (by decide)) (Ev.congr (fun k => if_neg (by decide)) (ev_const fun _ => ?_))
    rw [hp, if_neg]
    rintro (h | ⟨h, _⟩)
    ·exact c0 (n1.2 h)
    ·exact h (n2.1 c1)
   ·have : cmp X Y = 0 := by unfold cmp; rw [if_neg c0, if_neg c1]
    rw [this]
    refine Ev.congr (fun k => if_pos rfl) (Ev.bind (ev_const fun _ => Compare_T (a := B) (b := E) (by have := sB.size; omega) (by have := sE.size; omega)) ?_)
    by_cases c2 : B ≤ E
    ·have : cmp B E ≤ 0 := by unfold cmp; split; omega; rw [if_neg (by omega)]; omega
     refine Ev.congr (fun k => if_pos this) (ev_const fun _ => ?_)
     rw [hp, if_pos (.inr ⟨fun h => c1 (n2.2 h), c2⟩)]
    ·have : ¬ cmp B E ≤ 0 := by unfold cmp; rw [if_neg (by omega), if_pos (by omega)]; omega
     refine Ev.congr (fun k => if_neg this) (ev_const fun _ => ?_)
     rw [hp, if_neg]
     rintro (h | ⟨_, h⟩)
     ·exact c0 (n1.2 h)
     ·exact c2 h
theorem T7 {i : Int} (h : (T i).size ≤ 7) : -1000000 < i ∧ i < 10000000 := by
 have := lt_of_T_size (i := i) (k := 6) (by omega)
 omega
theorem Best_err {a b : ByteArray} {x e : Int} (hno : ¬ ∃ p, BestOk a b x p) (h : Ev (fun k => convergent_bounded.f k a b x) e) (he : e ≠ 0) : Ev (fun k => convergent_Best.f k a b x) ([], e) := by
 refine Ev.congr (fun k => by unfold convergent_Best.f; rw [dif_neg hno]) (Ev.bind h (Ev.congr (fun k => if_neg he) (ev_const fun _ => rfl)))
theorem Nearest_err {a b : ByteArray} {x e : Int} (h : Ev (fun k => convergent_bounded.f k a b x) e) (he : e ≠ 0) : Ev (fun k => convergent_Nearest.f k a b x) (⟨#[]⟩, ⟨#[]⟩, e) := by
 unfold convergent_Nearest.f
 exact Ev.bind h (Ev.congr (fun k => if_neg he) (ev_const fun _ => rfl))
theorem bs_true (a b : ByteArray) (x : Int) : Ev (fun k => schismalaw04_ConvergentBests.j0 k x true a b) true := by
 refine Ev.step (fun k => by rw [schismalaw04_ConvergentBests.j0, if_pos rfl]) ?_
 exact Ev.bind Known (ev_const fun _ => rfl)
theorem none_empty : schismalaw04_none.f ⟨#[]⟩ ⟨#[]⟩ = some true := by
 unfold schismalaw04_none.f
 simp
theorem bs_false (a b : ByteArray) (x : Int) (ha : a.size ≤ 7) (hb : b.size ≤ 7) : Ev (fun k => schismalaw04_ConvergentBests.j0 k x false a b) true := by
 refine Ev.step (fun k => by rw [schismalaw04_ConvergentBests.j0, if_neg (by simp)]) ?_
 rcases said a b with ⟨n, d, rfl, rfl, hF⟩ | h
 ·have hn := T7 ha
  have hd := T7 hb
  have h0 := hF.1
  refine Ev.bind (Parts_yes (by omega) (by omega) hF) ?_
  simp only
  have bad : (x < 1 ∨ 1000000 < x) → Ev (fun k => schismalaw04_ConvergentBests.j1 k x n d true false (T n) (T d)) true := fun hx => by
   have hbr := Bounded_range' (n := n) (d := d) (x := x) (by unfold S17; omega) (by unfold S17; omega) hF hx
   refine Ev.step (fun k => by rw [schismalaw04_ConvergentBests.j1, if_pos rfl, if_neg (by simp)]) ?_
   refine Ev.step (fun k => by rw [schismalaw04_ConvergentBests.j2, if_neg (by simp)]) ?_
   refine Ev.bind (Best_err ?_ hbr (by omega)) (Ev.bind (Nearest_err hbr (by omega)) (Ev.congr (fun k => if_pos rfl) ?_))
   ·rintro ⟨p, hp⟩
    have := hp.b1
    have := hp.b2
    omega
   ·refine ev_here 1 fun k => ?_
    rw [schismalaw04_ConvergentBests.j3, if_pos (by simp), if_pos rfl, if_pos (by simp), if_pos rfl, none_empty]
    rfl
  by_cases h1 : x ≥ 1
  ·refine Ev.congr (fun k => if_pos h1) ?_
   by_cases h2 : x ≤ 1000000
   ·rw [decide_eq_true h2]
    refine Ev.step (fun k => by rw [schismalaw04_ConvergentBests.j1, if_pos rfl, if_pos rfl]) ?_
    by_cases h3 : x > 60
    ·rw [decide_eq_true h3]
     exact ev_here 1 fun k => by rw [schismalaw04_ConvergentBests.j2, if_pos rfl]
    ·rw [decide_eq_false h3]
     refine Ev.step (fun k => by rw [schismalaw04_ConvergentBests.j2, if_neg (by simp)]) ?_
     obtain ⟨ts, hts, hl⟩ := cf_small (n := n) h0 (show d < 10000000000000 by omega)
     obtain ⟨k, hk⟩ : ∃ k : Nat, x = (k : Int) + 1 := ⟨(x - 1).toNat, by omega⟩
     obtain ⟨z, hz1, hz⟩ := best_last (n := n) h0 k hk
     have hbok : BestOk (T n) (T d) x (n, d, ts) := ⟨rfl, rfl, by show _ < n; omega, by show n < _; omega, hF, by show d < _; omega, h1, by omega, hts, hl⟩
     have hrow := bestRow_eq (bound := x) h0 k hk hts
     have hsf := bestRow_sf (bound := x) (n := n) (d := d) (by omega) (by omega) h0 h1 hts
     refine Ev.bind (ev_const fun k => Best_yes hbok k) (Ev.bind (Nearest_T hn.1 hn.2 hF hd.2 h1 (by omega) hts hl hz) (Ev.congr (fun k => if_pos rfl) ?_))
     refine Ev.step (fun k => by rw [schismalaw04_ConvergentBests.j3, if_neg (by simp)]) ?_
     refine Ev.bind (RBest (n := n) (d := d) (bound := x) (by omega) (by omega) (by omega) k hk) ?_
     rw [hsf, hrow]
     obtain ⟨L, hL⟩ : ∃ L, L = (near n d 1, 1) :: goB n d (near n d 1, 1) (nears n d 2 k) := ⟨_, rfl⟩
     rw [← hL] at hz1 hrow ⊢
     have hlen : L.length ≤ 1000 := by
      have h5 := fold_len n d (semis half x true CS.begin ts) []
      have h6 := semis_len (f := half) (bound := x) h0 h1 hts
      unfold bestRow at hrow
      rw [hrow] at h5
      simp at h5
      omega
     have hpos : 0 < L.length := by rw [hL]; simp
     refine Ev.bind (Same_self (by rw [List.length_map]; omega)) (Ev.congr (fun k => if_pos rfl) (Ev.congr (fun k => if_pos rfl) (ev_const fun k => ?_)))
     have hw : wrap64 (((L.map fs).length : Int) - 1) = ((L.length - 1 : Nat) : Int) := by rw [List.length_map, w64 (by omega) (by omega)]; omega
     have hrd : rd_T24 (L.map fs) ((L.length - 1 : Nat) : Int) = fs z := by
      unfold rd_T24
      rw [Int.toNat_natCast, List.getD_eq_getElem?_getD, List.getElem?_map, ← List.getLast?_eq_getElem?, hz1]
      rfl
     have hzg : z ∈ bestRow n d x ts := by rw [hrow]; exact List.mem_of_getLast? hz1
     have hfz : fs z = sf z := by
      have hm : z ∈ semis half x true CS.begin ts := by
       rcases fold_mem _ _ hzg with h | h
       ·exact absurd h List.not_mem_nil
       ·exact h
      have hg := semis_all (f := half) (M := 10000000) (n := n) (d := d) (bound := x) (by omega) (by omega) h0 h1 hts z hm
      unfold sf fs
      rw [hg.fr]
     rw [hw, if_pos (by omega), if_pos (by rw [List.length_map]; omega), hrd, hfz, if_pos (by simp [sf])]
     rfl
   ·rw [decide_eq_false h2]
    exact bad (.inr (by omega))
  ·exact Ev.congr (fun k => if_neg h1) (bad (.inl (by omega)))
 ·refine Ev.bind (Parts_no (by omega) (by omega) h) ?_
  simp only
  have bad : ∀ f, Ev (fun k => schismalaw04_ConvergentBests.j1 k x 0 0 false f a b) true := fun f => by
   have hbr := Bounded_wrong' (x := x) (show a.size ≤ 17 by omega) (show b.size ≤ 17 by omega) h
   refine Ev.step (fun k => by rw [schismalaw04_ConvergentBests.j1, if_neg (by simp)]) ?_
   refine Ev.step (fun k => by rw [schismalaw04_ConvergentBests.j2, if_neg (by simp)]) ?_
   refine Ev.bind (Best_err ?_ hbr (by omega)) (Ev.bind (Nearest_err hbr (by omega)) (Ev.congr (fun k => if_neg (by simp)) ?_))
   ·rintro ⟨p, hp⟩
    exact h _ _ hp.e1 hp.e2 hp.fr
   ·refine ev_here 1 fun k => ?_
    rw [schismalaw04_ConvergentBests.j3, if_pos rfl, if_neg (by simp), if_pos (by simp), if_pos rfl, none_empty]
    rfl
  by_cases h1 : x ≥ 1
  ·exact Ev.congr (fun k => if_pos h1) (bad _)
  ·exact Ev.congr (fun k => if_neg h1) (bad _)
theorem small_eq (a b : ByteArray) : schismalaw04_small.f a b = some (decide (a.size ≤ 7 ∧ b.size ≤ 7)) := by
 unfold schismalaw04_small.f
 by_cases h : a.size ≤ 7
 ·rw [if_pos (by omega)]
  congr 1
  by_cases h2 : b.size ≤ 7
  ·rw [decide_eq_true (by omega), decide_eq_true ⟨h, h2⟩]
  ·rw [decide_eq_false (by omega), decide_eq_false (fun hh => h2 hh.2)]
 ·rw [if_neg (by omega), decide_eq_false (fun hh => h hh.1)]
theorem ConvergentBests_true (a b : ByteArray) (x : Int) (_ : (Lit.int .i64 x).wf = true) : ∃ k, schismalaw04_ConvergentBests.f k a b x = some true := by
 refine Ev.rounds (g := fun k => schismalaw04_ConvergentBests.f k a b x) ?_
 unfold schismalaw04_ConvergentBests.f
 refine Ev.bind Known (Ev.congr (fun k => if_pos rfl) ?_)
 refine Ev.bind (ev_const fun _ => small_eq a b) ?_
 by_cases h : a.size ≤ 7 ∧ b.size ≤ 7
 ·rw [decide_eq_true h]; exact bs_false a b x h.1 h.2
 ·rw [decide_eq_false h]; exact bs_true a b x
end Go.Proofs.YtidajgkepdkcbaaGreatDoor
end
