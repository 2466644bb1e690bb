/- A part of the proof in QWy4. -/
import Derived.Test.YtidajgkepdkcbaaGreatDoorQWy2
set_option linter.unusedVariables false
set_option linter.unusedSimpArgs false
section
namespace Go.Proofs.YtidajgkepdkcbaaGreatDoor
open Go.RowKit Go.Lib Go.Proofs.YtidajgkepdkcbaaGreatDoorW.PrintWords Go.Proofs.YtidajgkepdkcbaaGreatDoorW.PrintLast Go.Proofs.YtidajgkepdkcbaaGreatDoorW.PrintMore PF
attribute [local go_sem] Oper.semAt_some wide_fn2 wide_depth2
def sf (y : Int × Int) : PF.S24 := ⟨T y.1, T y.2⟩
theorem fcells_at : ∀ (l : List (Int × Int)) (k : Nat) (y : Int × Int), l[k]? = some y → ((fcells l).drop (k * 2)).take 2 = [.string (T y.1), .string (T y.2)]
 | [], _, _, h => by simp at h
 | z :: l, 0, y, h => by simp at h; subst h; simp [fcells]
 | z :: l, k + 1, y, h => by
  have := fcells_at l k y (by simpa using h)
  rw [show (k + 1) * 2 = k * 2 + 1 + 1 by omega]
  simpa [fcells] using this
theorem R_of_row {w : World} {base : Nat} {v : Value} {l : List (Int × Int)} (h : w.ownsRow base 24 2 v l.length (fcells l)) : Kd.R k24 24 w base (fun _ => True) v (l.map sf) := by
 refine ⟨fun _ _ => trivial, fcells l, by rw [List.length_map]; exact h, by rw [fcells_len, List.length_map]; rfl, fun k x hx => ?_⟩
 rw [List.getElem?_map] at hx
 obtain ⟨y, hy, rfl⟩ := Option.map_eq_some_iff.1 hx
 have := fcells_at l k y hy
 show k24.M w base _ (sf y) (((fcells l).drop (k * 2)).take 2)
 rw [this]
 exact k24_mkM _ _ _ (sf y)
structure BestOk (x1 x2 : ByteArray) (bound : Int) (p : Int × Int × List Int) : Prop where
 e1 : x1 = T p.1
 e2 : x2 = T p.2.1
 n1 : -1000000 < p.1
 n2 : p.1 < 10000000
 fr : Fr p.1 p.2.1
 d2 : p.2.1 < 10000000
 b1 : 1 ≤ bound
 b2 : bound ≤ 60
 ts : isCf p.2.2 p.1 p.2.1
 tl : p.2.2.length ≤ 1000
def bestRow (n d bound : Int) (ts : List Int) : List (Int × Int) := (semis half bound true CS.begin ts).foldl (bstep n d) []
namespace PF
open Classical in
noncomputable def convergent_Best.f (k : Nat) (x1 x2 : ByteArray) (bound : Int) : Option (List S24 × Int) :=
 if h : ∃ p, BestOk x1 x2 bound p then some ((bestRow h.choose.1 h.choose.2.1 bound h.choose.2.2).map sf, 0) else (convergent_bounded.f k x1 x2 bound).bind fun e => if e = 0 then none else some ([], e)
end PF
theorem Best_yes {n d bound : Int} {ts : List Int} (h : BestOk (T n) (T d) bound (n, d, ts)) (k : Nat) : convergent_Best.f k (T n) (T d) bound = some ((bestRow n d bound ts).map sf, 0) := by
 unfold convergent_Best.f
 have hc : ∃ p, BestOk (T n) (T d) bound p := ⟨_, h⟩
 rw [dif_pos hc]
 have hs := hc.choose_spec
 have e1 := T_inj hs.e1
 have e2 := T_inj hs.e2
 have e3 : hc.choose.2.2 = ts := hs.ts.unique (by rw [← e1, ← e2]; exact h.ts)
 rw [e3, ← e1, ← e2]
set_option maxRecDepth 100000 in
set_option maxHeartbeats 4000000 in
theorem best_err (k : Nat) (x1 x2 : ByteArray) (bound e : Int) (w : World) (hG : GWorld w) (h : convergent_bounded.f k x1 x2 bound = some e) (he : e ≠ 0) :
  Calls Tryz.prog 28 #[.agg #[.string x1, .string x2], .int .i64 bound] w fun e' w' => e' = .returned (.tuple #[.slice none 0 0, .int .i64 e]) ∧ Below w.heap.size w w' := by
 have c1 := fun W hG => convergent_bounded.calls k _ _ _ _ W hG h
 have c0 := three_alloc (w := w) (W1 := ((w.alloc (.cells #[.string x1, .string x2] 24)).alloc (.cells #[.slice none 0 0] 37)).alloc (.cells #[.int .i64 0] 26)) (Below.refl _ _)
 refine (callsIn_wide (n := 0)).1 (callsIn_of_wp Tryz.func28 rfl trivial ?_ rfl)
 simp only [Tryz.ntmps28, List.size_toArray, List.length_cons, List.length_nil, Nat.reduceAdd, Nat.reduceSub, Array.replicate_succ, Array.replicate_zero, List.push_toArray, List.append_toArray, List.nil_append, List.cons_append]
 replace c1 := Lib.hid c1
 replace c0 := Lib.hid c0
 replace h := Lib.hid h
 replace hG := Lib.hid hG
 gi_wp2_with (gi_at_call 51; refine (callsIn_wide.2 (c1.out _ (hG.out.below c0.out.2.2.2.1))).mono ?_; rintro e' W1 ⟨rfl, H1⟩; obtain ⟨x1', x2', x3', HB1, hz1⟩ := three_alloc H1; have q2 := cell0 x2'; have q3 := cell0 x3'; have q4 := frozen0 (j := 0) x2'; have q5 := frozen0 (j := 0) x3'; replace H1 := Lib.hid H1; replace HB1 := Lib.hid HB1; replace x1' := Lib.hid x1'; replace x2' := Lib.hid x2'; replace x3' := Lib.hid x3'; replace hz1 := Lib.hid hz1)
 have hc5 : ((W1.setCell ⟨w.heap.size + 1, 0, none⟩ (.slice none 0 0)).setCell ⟨w.heap.size + 1 + 1, 0, none⟩ (.int .i64 e)).cell? ⟨w.heap.size + 1, 0, none⟩ = some (.slice none 0 0) := by
  rw [World.cell?_of_block (w := W1.setCell ⟨w.heap.size + 1, 0, none⟩ (.slice none 0 0)) (Below.heap_setCell _ _ _ _ (by simp only; omega))]
  exact World.cell?_setCell_same' _ _ _ (by rw [q2]; rfl)
 have hc6 : ((W1.setCell ⟨w.heap.size + 1, 0, none⟩ (.slice none 0 0)).setCell ⟨w.heap.size + 1 + 1, 0, none⟩ (.int .i64 e)).cell? ⟨w.heap.size + 1 + 1, 0, none⟩ = some (.int .i64 e) := by
  refine World.cell?_setCell_same' _ _ _ ?_
  rw [World.cell?_of_block (w := W1) (Below.heap_setCell _ _ _ _ (by simp only; omega)), q3]; rfl
 refine ⟨rfl, .tuple #[.slice none 0 0, .int .i64 e], ?_, rfl, ?_⟩
 ·simp [results, Tryz.f28, go_sem, hc5, hc6]
 ·exact (HB1.out.setCell (p := ⟨w.heap.size + 1, 0, none⟩) (by simp) _).setCell (p := ⟨w.heap.size + 1 + 1, 0, none⟩) (by simp only; omega) _
theorem PF.convergent_Best.calls (k : Nat) (a0_0 a0_1 : ByteArray) (a1 : Int) (r1 : List S24) (r2 : Int) (w : World) (hG_ : GWorld w) (h : convergent_Best.f k a0_0 a0_1 a1 = some (r1, r2)) :
  Calls Tryz.prog 28 #[.agg #[.string a0_0, .string a0_1], .int .i64 a1] w fun e w' => ∃ v0_ : Value, e = .returned (.tuple #[v0_, .int .i64 r2]) ∧ Kd.R k24 24 w' w.heap.size (fun _ => True) v0_ r1 ∧ Below w.heap.size w w' := by
 unfold convergent_Best.f at h
 by_cases hc : ∃ p, BestOk a0_0 a0_1 a1 p
 ·rw [dif_pos hc] at h
  have hs := hc.choose_spec
  obtain ⟨rfl, rfl⟩ := Prod.mk.inj (Option.some.inj h)
  generalize hc.choose = p at *
  obtain ⟨n, d, ts⟩ := p
  obtain ⟨e1, e2, n1, n2, hF, d2, b1, b2, hts, htl⟩ := hs
  simp only at e1 e2 n1 n2 hF d2 hts htl
  subst e1 e2
  refine (callsIn_wide (n := 0)).1 ((best_walk n1 n2 hF d2 b1 b2 hts htl w hG_).mono ?_)
  rintro e w' ⟨v, rfl, hrow, hB⟩
  exact ⟨v, rfl, R_of_row hrow, hB⟩
 ·rw [dif_neg hc] at h
  obtain ⟨e, h1, h⟩ := Option.bind_eq_some_iff.1 h
  by_cases he : e = 0
  ·rw [if_pos he] at h; cases h
  ·rw [if_neg he] at h
   obtain ⟨rfl, rfl⟩ := Prod.mk.inj (Option.some.inj h)
   refine (best_err k _ _ _ _ w hG_ h1 he).mono ?_
   rintro e' w' ⟨rfl, hB⟩
   exact ⟨_, rfl, Kd.R_nil _ _ _ _ _, hB⟩
end Go.Proofs.YtidajgkepdkcbaaGreatDoor
end
section
namespace Go.Proofs.YtidajgkepdkcbaaGreatDoor.PL
open Go.RowKit Go.Proofs.YtidajgkepdkcbaaGreatDoorW.PrintWords Go.Proofs.YtidajgkepdkcbaaGreatDoorW.PrintLast Go.Proofs.YtidajgkepdkcbaaGreatDoorW.PrintMore Go.Proofs.YtidajgkepdkcbaaGreatDoor.PF
attribute [local go_sem] max2_int min2_int max_two min_two max_three min_three max_four min_four
theorem info24 : (Tryz.prog.info? 24).map (fun i => (i.zero, i.size, i.bytes)) = some (some (.agg #[(.string ⟨#[]⟩), (.string ⟨#[]⟩)]), 2, 32) := by kernel_rfl
end Go.Proofs.YtidajgkepdkcbaaGreatDoor.PL
end
section
namespace Go.Proofs.YtidajgkepdkcbaaGreatDoor.PL
open Go.RowKit Go.Proofs.YtidajgkepdkcbaaGreatDoorW.PrintWords Go.Proofs.YtidajgkepdkcbaaGreatDoorW.PrintLast Go.Proofs.YtidajgkepdkcbaaGreatDoorW.PrintMore Go.Proofs.YtidajgkepdkcbaaGreatDoor.PF
attribute [local go_sem] max2_int min2_int max_two min_two max_three min_three max_four min_four
noncomputable def schismalaw04_known.f (k : Nat)  : Option (Bool) := (schismaref04_Make.f k 7 12).bind fun bt101 => ((convergent_Terms.f k bt101.1 bt101.2).bind fun bt104 => ((schismaref04_Make.f k 3 5).bind fun bt108 => ((convergent_Path.f k bt108.1 bt108.2).bind fun bt110 => ((convergent_Best.f k bt101.1 bt101.2 7).bind fun bt112 => (if bt104.2 = 0 then ((schismalaw04_ints.f k bt104.1 (([0, 1, 1, 2, 2] : List Int))).bind fun t119 => (if t119 = true then (if bt110.2 = 0 then (if bt110.1.toList = ([76, 82, 76] : List UInt8) then (if bt112.2 = 0 then ((schismaref04_Make.f k 1 1).bind fun bt120 => ((schismaref04_Make.f k 1 2).bind fun bt122 => ((schismaref04_Make.f k 3 5).bind fun bt124 => ((schismaref04_Make.f k 4 7).bind fun bt126 => ((schismalaw04_same.f k bt112.1 (([(⟨bt120.1, bt120.2⟩ : S24), (⟨bt122.1, bt122.2⟩ : S24), (⟨bt124.1, bt124.2⟩ : S24), (⟨bt126.1, bt126.2⟩ : S24)] : List (S24)))).bind fun t131 => (some t131)))))) else (some false)) else (some false)) else (some false)) else (some false))) else (some false))))))
set_option maxHeartbeats 8000000 in
set_option maxRecDepth 100000 in
theorem schismalaw04_known.calls (k : Nat)  (r : Bool) (w : World) (hG_ : GWorld w) (h : schismalaw04_known.f k  = some r) :
  Calls Tryz.prog 13 #[] w fun e w' => e = .returned (.bool r) ∧ Below w.heap.size w w' := by
 have hu24 := Tryz.underlying24
 have HB := Aside0.mk (Below.refl w.heap.size w)
 have HG := Aside0.mk hG_
 clear hG_
 have H : ((schismaref04_Make.f k 7 12).bind fun bt101 => ((convergent_Terms.f k bt101.1 bt101.2).bind fun bt104 => ((schismaref04_Make.f k 3 5).bind fun bt108 => ((convergent_Path.f k bt108.1 bt108.2).bind fun bt110 => ((convergent_Best.f k bt101.1 bt101.2 7).bind fun bt112 => (if bt104.2 = 0 then ((schismalaw04_ints.f k bt104.1 (([0, 1, 1, 2, 2] : List Int))).bind fun t119 => (if t119 = true then (if bt110.2 = 0 then (if bt110.1.toList = ([76, 82, 76] : List UInt8) then (if bt112.2 = 0 then ((schismaref04_Make.f k 1 1).bind fun bt120 => ((schismaref04_Make.f k 1 2).bind fun bt122 => ((schismaref04_Make.f k 3 5).bind fun bt124 => ((schismaref04_Make.f k 4 7).bind fun bt126 => ((schismalaw04_same.f k bt112.1 (([(⟨bt120.1, bt120.2⟩ : S24), (⟨bt122.1, bt122.2⟩ : S24), (⟨bt124.1, bt124.2⟩ : S24), (⟨bt126.1, bt126.2⟩ : S24)] : List (S24)))).bind fun t131 => (some t131)))))) else (some false)) else (some false)) else (some false)) else (some false))) else (some false))))))) = some r := h
 clear h
 replace H := Option.bind_eq_some_iff.mp H
 obtain ⟨⟨t101, t102⟩, A10, H⟩ := H
 replace H : ((convergent_Terms.f k t101 t102).bind fun bt104 => ((schismaref04_Make.f k 3 5).bind fun bt108 => ((convergent_Path.f k bt108.1 bt108.2).bind fun bt110 => ((convergent_Best.f k t101 t102 7).bind fun bt112 => (if bt104.2 = 0 then ((schismalaw04_ints.f k bt104.1 (([0, 1, 1, 2, 2] : List Int))).bind fun t119 => (if t119 = true then (if bt110.2 = 0 then (if bt110.1.toList = ([76, 82, 76] : List UInt8) then (if bt112.2 = 0 then ((schismaref04_Make.f k 1 1).bind fun bt120 => ((schismaref04_Make.f k 1 2).bind fun bt122 => ((schismaref04_Make.f k 3 5).bind fun bt124 => ((schismaref04_Make.f k 4 7).bind fun bt126 => ((schismalaw04_same.f k bt112.1 (([(⟨bt120.1, bt120.2⟩ : S24), (⟨bt122.1, bt122.2⟩ : S24), (⟨bt124.1, bt124.2⟩ : S24), (⟨bt126.1, bt126.2⟩ : S24)] : List (S24)))).bind fun t131 => (some t131)))))) else (some false)) else (some false)) else (some false)) else (some false))) else (some false)))))) = some r := H
 have A1 := Aside0.mk A10
 clear A10
 replace H := Option.bind_eq_some_iff.mp H
 obtain ⟨⟨t104, t107⟩, A20, H⟩ := H
 replace H : ((schismaref04_Make.f k 3 5).bind fun bt108 => ((convergent_Path.f k bt108.1 bt108.2).bind fun bt110 => ((convergent_Best.f k t101 t102 7).bind fun bt112 => (if t107 = 0 then ((schismalaw04_ints.f k t104 (([0, 1, 1, 2, 2] : List Int))).bind fun t119 => (if t119 = true then (if bt110.2 = 0 then (if bt110.1.toList = ([76, 82, 76] : List UInt8) then (if bt112.2 = 0 then ((schismaref04_Make.f k 1 1).bind fun bt120 => ((schismaref04_Make.f k 1 2).bind fun bt122 => ((schismaref04_Make.f k 3 5).bind fun bt124 => ((schismaref04_Make.f k 4 7).bind fun bt126 => ((schismalaw04_same.f k bt112.1 (([(⟨bt120.1, bt120.2⟩ : S24), (⟨bt122.1, bt122.2⟩ : S24), (⟨bt124.1, bt124.2⟩ : S24), (⟨bt126.1, bt126.2⟩ : S24)] : List (S24)))).bind fun t131 => (some t131)))))) else (some false)) else (some false)) else (some false)) else (some false))) else (some false))))) = some r := H
 have A2 := Aside0.mk A20
 clear A20
 replace H := Option.bind_eq_some_iff.mp H
 obtain ⟨⟨t108, t109⟩, A30, H⟩ := H
 replace H : ((convergent_Path.f k t108 t109).bind fun bt110 => ((convergent_Best.f k t101 t102 7).bind fun bt112 => (if t107 = 0 then ((schismalaw04_ints.f k t104 (([0, 1, 1, 2, 2] : List Int))).bind fun t119 => (if t119 = true then (if bt110.2 = 0 then (if bt110.1.toList = ([76, 82, 76] : List UInt8) then (if bt112.2 = 0 then ((schismaref04_Make.f k 1 1).bind fun bt120 => ((schismaref04_Make.f k 1 2).bind fun bt122 => ((schismaref04_Make.f k 3 5).bind fun bt124 => ((schismaref04_Make.f k 4 7).bind fun bt126 => ((schismalaw04_same.f k bt112.1 (([(⟨bt120.1, bt120.2⟩ : S24), (⟨bt122.1, bt122.2⟩ : S24), (⟨bt124.1, bt124.2⟩ : S24), (⟨bt126.1, bt126.2⟩ : S24)] : List (S24)))).bind fun t131 => (some t131)))))) else (some false)) else (some false)) else (some false)) else (some false))) else (some false)))) = some r := H
 have A3 := Aside0.mk A30
 clear A30
 replace H := Option.bind_eq_some_iff.mp H
 obtain ⟨⟨t110, t111⟩, A40, H⟩ := H
 replace H : ((convergent_Best.f k t101 t102 7).bind fun bt112 => (if t107 = 0 then ((schismalaw04_ints.f k t104 (([0, 1, 1, 2, 2] : List Int))).bind fun t119 => (if t119 = true then (if t111 = 0 then (if t110.toList = ([76, 82, 76] : List UInt8) then (if bt112.2 = 0 then ((schismaref04_Make.f k 1 1).bind fun bt120 => ((schismaref04_Make.f k 1 2).bind fun bt122 => ((schismaref04_Make.f k 3 5).bind fun bt124 => ((schismaref04_Make.f k 4 7).bind fun bt126 => ((schismalaw04_same.f k bt112.1 (([(⟨bt120.1, bt120.2⟩ : S24), (⟨bt122.1, bt122.2⟩ : S24), (⟨bt124.1, bt124.2⟩ : S24), (⟨bt126.1, bt126.2⟩ : S24)] : List (S24)))).bind fun t131 => (some t131)))))) else (some false)) else (some false)) else (some false)) else (some false))) else (some false))) = some r := H
 have A4 := Aside0.mk A40
 clear A40
 replace H := Option.bind_eq_some_iff.mp H
 obtain ⟨⟨t112, t115⟩, A50, H⟩ := H
 replace H : (if t107 = 0 then ((schismalaw04_ints.f k t104 (([0, 1, 1, 2, 2] : List Int))).bind fun t119 => (if t119 = true then (if t111 = 0 then (if t110.toList = ([76, 82, 76] : List UInt8) then (if t115 = 0 then ((schismaref04_Make.f k 1 1).bind fun bt120 => ((schismaref04_Make.f k 1 2).bind fun bt122 => ((schismaref04_Make.f k 3 5).bind fun bt124 => ((schismaref04_Make.f k 4 7).bind fun bt126 => ((schismalaw04_same.f k t112 (([(⟨bt120.1, bt120.2⟩ : S24), (⟨bt122.1, bt122.2⟩ : S24), (⟨bt124.1, bt124.2⟩ : S24), (⟨bt126.1, bt126.2⟩ : S24)] : List (S24)))).bind fun t131 => (some t131)))))) else (some false)) else (some false)) else (some false)) else (some false))) else (some false)) = some r := H
 have A5 := Aside0.mk A50
 clear A50
 by_cases c6 : t107 = 0
 ·rw [if_pos c6] at H
  have c6b0 : (t107 == 0) = true := beq_iff_eq.mpr c6
  have c6b1 : (t107 != 0) = false := bne_eq_false_iff_eq.mpr c6
  clear c6
  obtain ⟨y116, hy116⟩ : ∃ y_ : List Int, y_ = (([0, 1, 1, 2, 2] : List Int)) := ⟨_, rfl⟩
  replace H : ((schismalaw04_ints.f k t104 y116).bind fun t119 => (if t119 = true then (if t111 = 0 then (if t110.toList = ([76, 82, 76] : List UInt8) then (if t115 = 0 then ((schismaref04_Make.f k 1 1).bind fun bt120 => ((schismaref04_Make.f k 1 2).bind fun bt122 => ((schismaref04_Make.f k 3 5).bind fun bt124 => ((schismaref04_Make.f k 4 7).bind fun bt126 => ((schismalaw04_same.f k t112 (([(⟨bt120.1, bt120.2⟩ : S24), (⟨bt122.1, bt122.2⟩ : S24), (⟨bt124.1, bt124.2⟩ : S24), (⟨bt126.1, bt126.2⟩ : S24)] : List (S24)))).bind fun t131 => (some t131)))))) else (some false)) else (some false)) else (some false)) else (some false))) = some r := by first | (rw [hy116]; with_reducible exact H) | (have H2_ := (Option.bind_some _ _).symm.trans H; rw [hy116]; with_reducible exact H2_) | (have H2_ := (Option.bind_some _ _).symm.trans H; with_reducible exact H2_) | with_reducible exact H | (rw [hy116]; exact H) | exact H
  have Ny116 := Aside0.mk hy116
  clear hy116
  replace H := Option.bind_eq_some_iff.mp H
  obtain ⟨t119, A70, H⟩ := H
  replace H : (if t119 = true then (if t111 = 0 then (if t110.toList = ([76, 82, 76] : List UInt8) then (if t115 = 0 then ((schismaref04_Make.f k 1 1).bind fun bt120 => ((schismaref04_Make.f k 1 2).bind fun bt122 => ((schismaref04_Make.f k 3 5).bind fun bt124 => ((schismaref04_Make.f k 4 7).bind fun bt126 => ((schismalaw04_same.f k t112 (([(⟨bt120.1, bt120.2⟩ : S24), (⟨bt122.1, bt122.2⟩ : S24), (⟨bt124.1, bt124.2⟩ : S24), (⟨bt126.1, bt126.2⟩ : S24)] : List (S24)))).bind fun t131 => (some t131)))))) else (some false)) else (some false)) else (some false)) else (some false)) = some r := H
  have A7 := Aside0.mk A70
  clear A70
  by_cases c8 : t119 = true
  ·subst c8
   have H1 : (if t111 = 0 then (if t110.toList = ([76, 82, 76] : List UInt8) then (if t115 = 0 then ((schismaref04_Make.f k 1 1).bind fun bt120 => ((schismaref04_Make.f k 1 2).bind fun bt122 => ((schismaref04_Make.f k 3 5).bind fun bt124 => ((schismaref04_Make.f k 4 7).bind fun bt126 => ((schismalaw04_same.f k t112 (([(⟨bt120.1, bt120.2⟩ : S24), (⟨bt122.1, bt122.2⟩ : S24), (⟨bt124.1, bt124.2⟩ : S24), (⟨bt126.1, bt126.2⟩ : S24)] : List (S24)))).bind fun t131 => (some t131)))))) else (some false)) else (some false)) else (some false)) = some r := by rw [if_pos rfl] at H; exact H
   clear H
   have H := H1
   clear H1
   by_cases c9 : t111 = 0
   ·rw [if_pos c9] at H
    have c9b0 : (t111 == 0) = true := beq_iff_eq.mpr c9
    have c9b1 : (t111 != 0) = false := bne_eq_false_iff_eq.mpr c9
    clear c9
    by_cases c10 : t110.toList = ([76, 82, 76] : List UInt8)
    ·rw [if_pos c10] at H
     have c10b0 : (t110.toList == ([76, 82, 76] : List UInt8)) = true := beq_iff_eq.mpr c10
     have c10b1 : (t110.toList != ([76, 82, 76] : List UInt8)) = false := bne_eq_false_iff_eq.mpr c10
     clear c10
     by_cases c11 : t115 = 0
     ·rw [if_pos c11] at H
      have c11b0 : (t115 == 0) = true := beq_iff_eq.mpr c11
      have c11b1 : (t115 != 0) = false := bne_eq_false_iff_eq.mpr c11
      clear c11
      replace H := Option.bind_eq_some_iff.mp H
      obtain ⟨⟨t120, t121⟩, A120, H⟩ := H
      replace H : ((schismaref04_Make.f k 1 2).bind fun bt122 => ((schismaref04_Make.f k 3 5).bind fun bt124 => ((schismaref04_Make.f k 4 7).bind fun bt126 => ((schismalaw04_same.f k t112 (([(⟨t120, t121⟩ : S24), (⟨bt122.1, bt122.2⟩ : S24), (⟨bt124.1, bt124.2⟩ : S24), (⟨bt126.1, bt126.2⟩ : S24)] : List (S24)))).bind fun t131 => (some t131))))) = some r := H
      have A12 := Aside0.mk A120
      clear A120
      replace H := Option.bind_eq_some_iff.mp H
      obtain ⟨⟨t122, t123⟩, A130, H⟩ := H
      replace H : ((schismaref04_Make.f k 3 5).bind fun bt124 => ((schismaref04_Make.f k 4 7).bind fun bt126 => ((schismalaw04_same.f k t112 (([(⟨t120, t121⟩ : S24), (⟨t122, t123⟩ : S24), (⟨bt124.1, bt124.2⟩ : S24), (⟨bt126.1, bt126.2⟩ : S24)] : List (S24)))).bind fun t131 => (some t131)))) = some r := H
      have A13 := Aside0.mk A130
      clear A130
      replace H := Option.bind_eq_some_iff.mp H
      obtain ⟨⟨t124, t125⟩, A140, H⟩ := H
      replace H : ((schismaref04_Make.f k 4 7).bind fun bt126 => ((schismalaw04_same.f k t112 (([(⟨t120, t121⟩ : S24), (⟨t122, t123⟩ : S24), (⟨t124, t125⟩ : S24), (⟨bt126.1, bt126.2⟩ : S24)] : List (S24)))).bind fun t131 => (some t131))) = some r := H
      have A14 := Aside0.mk A140
      clear A140
      replace H := Option.bind_eq_some_iff.mp H
      obtain ⟨⟨t126, t127⟩, A150, H⟩ := H
      replace H : ((schismalaw04_same.f k t112 (([(⟨t120, t121⟩ : S24), (⟨t122, t123⟩ : S24), (⟨t124, t125⟩ : S24), (⟨t126, t127⟩ : S24)] : List (S24)))).bind fun t131 => (some t131)) = some r := H
      have A15 := Aside0.mk A150
      clear A150
      obtain ⟨y128, hy128⟩ : ∃ y_ : List (S24), y_ = (([(⟨t120, t121⟩ : S24), (⟨t122, t123⟩ : S24), (⟨t124, t125⟩ : S24), (⟨t126, t127⟩ : S24)] : List (S24))) := ⟨_, rfl⟩
      replace H : ((schismalaw04_same.f k t112 y128).bind fun t131 => (some t131)) = some r := by first | (rw [hy128]; with_reducible exact H) | (have H2_ := (Option.bind_some _ _).symm.trans H; rw [hy128]; with_reducible exact H2_) | (have H2_ := (Option.bind_some _ _).symm.trans H; with_reducible exact H2_) | with_reducible exact H | (rw [hy128]; exact H) | exact H
      have Ny128 := Aside0.mk hy128
      clear hy128
      replace H := Option.bind_eq_some_iff.mp H
      obtain ⟨t131, A160, H⟩ := H
      replace H : (some t131) = some r := H
      have A16 := Aside0.mk A160
      clear A160
      obtain rfl := Option.some.inj H
      go_enter Tryz.func13, Tryz.ntmps13
      go_wp2_with (first | ((with_reducible refine gate_callee (f := 17) rfl ?_); refine goesL_ (some 8) rfl rfl Tryz.func17 (by kernel_rfl) rfl #[.int .i64 7, .int .i64 12] rfl mp_ ?_; (with_reducible refine (schismaref04_Make.calls k 7 12 t101 t102 _ A1.out).mono ?_); rintro e w17 ⟨rfl, hb⟩; refine ⟨_, rfl, ?_⟩; replace HB := bs_ hb; (try clear hb); (try clear hb2); (try clear hk); (try clear hi)) | ((with_reducible refine gate_dst (N := 1) rfl ?_); (try (refine gate_guard (by rfl) ?_; dsimp only)); refine bx_ 1 #[.string (⟨#[]⟩ : ByteArray), .string (⟨#[]⟩ : ByteArray)] 24 ?_; clear HB; intro gb103 w18 BK103 GW103 HB; have GE103 := GW103; obtain ⟨hcz19_0, hcz19_1, hfz19_0, hfz19_1⟩ := c2_ BK103) | ((with_reducible refine gate_callee (f := 19) rfl ?_); refine goesL_ (some 11) rfl rfl Tryz.func19 (by kernel_rfl) rfl #[.agg #[.string t101, .string t102]] rfl mp_ ?_; (with_reducible refine (convergent_Terms.calls k t101 t102 t104 t107 _ ?side1 A2.out).mono ?_); (case side1 => exact gw_ HG); rintro e w20 ⟨v105, rfl, ho0, hb⟩; refine ⟨_, rfl, ?_⟩; have HO106 := Aside0.mk (Kd.R_lower ho0 (below_size bl_)); replace BK103 := Aside0.mk (blk_below (g := gb103) (o := .cells #[.string t101, .string t102] 24 (0, 0)) (by (with_reducible repeat (first | refine blk_drewN ?_ _ | refine blk_drew ?_ | refine blk_alloc ?_ _)); refine blk_put (cs := #[.string t101, .string (⟨#[]⟩ : ByteArray)]) ?_ 1 _ rfl; (with_reducible repeat (first | refine blk_drewN ?_ _ | refine blk_drew ?_ | refine blk_alloc ?_ _)); refine blk_put (cs := #[.string (⟨#[]⟩ : ByteArray), .string (⟨#[]⟩ : ByteArray)]) ?_ 0 _ rfl; (with_reducible repeat (first | refine blk_drewN ?_ _ | refine blk_drew ?_ | refine blk_alloc ?_ _)); exact BK103.out) hb); replace HB := bs_ hb; (try clear hb); (try clear hb2); (try clear hk); (try clear hi); (try clear ho0)) | ((with_reducible refine gate_callee (f := 17) rfl ?_); refine goesL_ (some 15) rfl rfl Tryz.func17 (by kernel_rfl) rfl #[.int .i64 3, .int .i64 5] rfl mp_ ?_; (with_reducible refine (schismaref04_Make.calls k 3 5 t108 t109 _ A3.out).mono ?_); rintro e w21 ⟨rfl, hb⟩; refine ⟨_, rfl, ?_⟩; replace HO106 := rb_ HO106 hb; replace BK103 := kb_ BK103 hb; replace HB := bs_ hb; (try clear hb); (try clear hb2); (try clear hk); (try clear hi)) | ((with_reducible refine gate_callee (f := 32) rfl ?_); refine goesL_ (some 16) rfl rfl Tryz.func32 (by kernel_rfl) rfl #[.agg #[.string t108, .string t109]] rfl mp_ ?_; (with_reducible refine (convergent_Path.calls k t108 t109 t110 t111 _ ?side1 A4.out).mono ?_); (case side1 => exact gw_ HG); rintro e w22 ⟨rfl, hb⟩; refine ⟨_, rfl, ?_⟩; replace HO106 := rb_ HO106 hb; replace BK103 := kb_ BK103 hb; replace HB := bs_ hb; (try clear hb); (try clear hb2); (try clear hk); (try clear hi); obtain ⟨hcz23_0, hcz23_1, hfz23_0, hfz23_1⟩ := c2_ BK103) | ((with_reducible refine gate_callee (f := 28) rfl ?_); refine goesL_ (some 21) rfl rfl Tryz.func28 (by kernel_rfl) rfl #[.agg #[.string t101, .string t102], .int .i64 7] rfl mp_ ?_; (with_reducible refine (convergent_Best.calls k t101 t102 7 t112 t115 _ ?side1 A5.out).mono ?_); (case side1 => exact gw_ HG); rintro e w24 ⟨v113, rfl, ho0, hb⟩; refine ⟨_, rfl, ?_⟩; replace HO106 := rb_ HO106 hb; have HO114 := Aside0.mk (Kd.R_lower (Kd.R_newB ho0 (g := gb103) (o := .cells #[.string t101, .string t102] 24 (0, 0)) bk_) (below_size bl_)); replace BK103 := kb_ BK103 hb; replace HB := bs_ hb; (try clear hb); (try clear hb2); (try clear hk); (try clear hi); (try clear ho0)) | ((with_reducible refine gate_dst (N := 28) rfl ?_); (try (refine gate_guard (by rfl) ?_; dsimp only)); refine Kd.R_lit (Kd.int .i64) _ 3 ?hg (N := 28) ?hd (xs := ([0, 1, 1, 2, 2] : List Int)) (inner := [.int .i64 0, .int .i64 1, .int .i64 1, .int .i64 2, .int .i64 2]) (ok := fun _ => True) (okp := fun _ => True) ?hr ?hp (fun _ hk => hk) trivial (Below.refl _ _) (Nat.le_refl _) (by simp) ?_; (case hd => rfl); (case hg => rfl); (case hr => first | (go_simp; done) | (go_simp; rfl)); (case hp => exact (Reps.one (show Kd.M (Kd.int .i64) _ _ _ 0 [.int .i64 0] from rfl) (Reps.one (show Kd.M (Kd.int .i64) _ _ _ 1 [.int .i64 1] from rfl) (Reps.one (show Kd.M (Kd.int .i64) _ _ _ 1 [.int .i64 1] from rfl) (Reps.one (show Kd.M (Kd.int .i64) _ _ _ 2 [.int .i64 2] from rfl) (Reps.one (show Kd.M (Kd.int .i64) _ _ _ 2 [.int .i64 2] from rfl) (Reps.none _ _))))))); intro v117 w25 ho26 hb hg_ hnew_; clear hg_ hnew_; (first | rw [← Ny116.out] at ho26 | (simp only [Int.reduceToNat] at ho26; rw [← Ny116.out] at ho26)); replace HO106 := rb_ HO106 hb; replace HO114 := rb_ HO114 hb; have HO118 := Aside0.mk (Kd.R_lower ho26 (below_size bl_)); replace BK103 := kb_ BK103 hb; replace HB := bs_ hb; clear hb ho26; obtain ⟨Ao27, co27, eo27⟩ := Kd.R_slice HO106.out; subst eo27; obtain ⟨Ao28, co28, eo28⟩ := Kd.R_slice HO118.out; subst eo28) | (go_at_call 22; (with_reducible refine (schismalaw04_ints.calls k _ _ t104 _ _ y116 true _ ?side1 ?side2 ?side3 ?side4 A7.out).mono ?_); (case side1 => repeat (first | exact (Kd.R_reads' HO106.out).2.2 | (with_reducible refine Kd.C_alloc ?_ _) | (with_reducible refine Kd.C_drewN ?_ _) | (with_reducible refine Kd.C_drew ?_))); (case side2 => exact (Kd.R_reads' HO106.out).2.1); (case side3 => repeat (first | exact (Kd.R_reads' HO118.out).2.2 | (with_reducible refine Kd.C_alloc ?_ _) | (with_reducible refine Kd.C_drewN ?_ _) | (with_reducible refine Kd.C_drew ?_))); (case side4 => exact (Kd.R_reads' HO118.out).2.1); rintro e w29 ⟨rfl, hb⟩; replace HO106 := rb_ HO106 hb; replace HO114 := rb_ HO114 hb; replace HO118 := rb_ HO118 hb; replace BK103 := kb_ BK103 hb; replace HB := bs_ hb; (try clear hb); (try clear hb2); (try clear hk); (try clear hi)) | (go_at_call 17; (with_reducible refine (schismaref04_Make.calls k 1 1 t120 t121 _ A12.out).mono ?_); rintro e w30 ⟨rfl, hb⟩; replace HO106 := rb_ HO106 hb; replace HO114 := rb_ HO114 hb; replace HO118 := rb_ HO118 hb; replace BK103 := kb_ BK103 hb; replace HB := bs_ hb; (try clear hb); (try clear hb2); (try clear hk); (try clear hi)) | (go_at_call 17; (with_reducible refine (schismaref04_Make.calls k 1 2 t122 t123 _ A13.out).mono ?_); rintro e w31 ⟨rfl, hb⟩; replace HO106 := rb_ HO106 hb; replace HO114 := rb_ HO114 hb; replace HO118 := rb_ HO118 hb; replace BK103 := kb_ BK103 hb; replace HB := bs_ hb; (try clear hb); (try clear hb2); (try clear hk); (try clear hi)) | (go_at_call 17; (with_reducible refine (schismaref04_Make.calls k 3 5 t124 t125 _ A14.out).mono ?_); rintro e w32 ⟨rfl, hb⟩; replace HO106 := rb_ HO106 hb; replace HO114 := rb_ HO114 hb; replace HO118 := rb_ HO118 hb; replace BK103 := kb_ BK103 hb; replace HB := bs_ hb; (try clear hb); (try clear hb2); (try clear hk); (try clear hi)) | (go_at_call 17; (with_reducible refine (schismaref04_Make.calls k 4 7 t126 t127 _ A15.out).mono ?_); rintro e w33 ⟨rfl, hb⟩; replace HO106 := rb_ HO106 hb; replace HO114 := rb_ HO114 hb; replace HO118 := rb_ HO118 hb; replace BK103 := kb_ BK103 hb; replace HB := bs_ hb; (try clear hb); (try clear hb2); (try clear hk); (try clear hi)) | ((with_reducible refine gate_dst (N := 49) rfl ?_); (try (refine gate_guard (by rfl) ?_; dsimp only)); refine Kd.R_lit k24 _ 24 ?hg (N := 49) ?hd (xs := ([(⟨t120, t121⟩ : S24), (⟨t122, t123⟩ : S24), (⟨t124, t125⟩ : S24), (⟨t126, t127⟩ : S24)] : List (S24))) (inner := [.string t120, .string t121, .string t122, .string t123, .string t124, .string t125, .string t126, .string t127]) (ok := fun _ => True) (okp := fun _ => True) ?hr ?hp (fun _ hk => hk) trivial (Below.refl _ _) (Nat.le_refl _) (by simp) ?_; (case hd => rfl); (case hg => rfl); (case hr => first | (go_simp; done) | (go_simp; rfl)); (case hp => exact (Reps.c2 (show Kd.M k24 _ _ _ (⟨t120, t121⟩ : S24) [.string t120, .string t121] from (k24_mkM _ _ _ (⟨t120, t121⟩ : S24) )) (Reps.c2 (show Kd.M k24 _ _ _ (⟨t122, t123⟩ : S24) [.string t122, .string t123] from (k24_mkM _ _ _ (⟨t122, t123⟩ : S24) )) (Reps.c2 (show Kd.M k24 _ _ _ (⟨t124, t125⟩ : S24) [.string t124, .string t125] from (k24_mkM _ _ _ (⟨t124, t125⟩ : S24) )) (Reps.c2 (show Kd.M k24 _ _ _ (⟨t126, t127⟩ : S24) [.string t126, .string t127] from (k24_mkM _ _ _ (⟨t126, t127⟩ : S24) )) (Reps.none _ _)))))); intro v129 w34 ho35 hb hg_ hnew_; clear hg_ hnew_; (first | rw [← Ny128.out] at ho35 | (simp only [Int.reduceToNat] at ho35; rw [← Ny128.out] at ho35)); replace HO106 := rb_ HO106 hb; replace HO118 := rb_ HO118 hb; have HO130 := Aside0.mk (Kd.R_lower (Kd.R_newB (Kd.R_new' ho35 (Kd.R_lt (by (with_reducible repeat (first | apply Kd.R_alloc | apply Kd.R_drewN | apply Kd.R_drew)); exact HO114.out))) (g := gb103) (o := .cells #[.string t101, .string t102] 24 (0, 0)) bk_) (below_size bl_)); replace HO114 := Aside0.mk (Kd.R_elder' (by (with_reducible repeat (first | apply Kd.R_alloc | apply Kd.R_drewN | apply Kd.R_drew)); exact HO114.out) (Kd.R_base ho35) hb); replace BK103 := kb_ BK103 hb; replace HB := bs_ hb; clear hb ho35; obtain ⟨Ao36, co36, eo36⟩ := Kd.R_slice HO114.out; subst eo36; obtain ⟨Ao37, co37, eo37⟩ := Kd.R_slice HO130.out; subst eo37) | (go_at_call 23; (with_reducible refine (schismalaw04_same.calls k _ _ t112 _ _ y128 t131 _ ?side1 ?side2 ?side3 ?side4 A16.out).mono ?_); (case side1 => repeat (first | exact (Kd.R_reads' HO114.out).2.2 | (with_reducible refine Kd.C_alloc ?_ _) | (with_reducible refine Kd.C_drewN ?_ _) | (with_reducible refine Kd.C_drew ?_))); (case side2 => exact (Kd.R_reads' HO114.out).2.1); (case side3 => repeat (first | exact (Kd.R_reads' HO130.out).2.2 | (with_reducible refine Kd.C_alloc ?_ _) | (with_reducible refine Kd.C_drewN ?_ _) | (with_reducible refine Kd.C_drew ?_))); (case side4 => exact (Kd.R_reads' HO130.out).2.1); rintro e w' ⟨rfl, ⟨nd, rfl⟩⟩))
      go_ret
      exact ⟨er_, bl_⟩
     ·rw [if_neg c11] at H
      have c11b0 : (t115 == 0) = false := beq_eq_false_iff_ne.mpr c11
      have c11b1 : (t115 != 0) = true := bne_iff_ne.mpr c11
      obtain rfl := Option.some.inj H
      go_enter Tryz.func13, Tryz.ntmps13
      go_wp2_with (first | ((with_reducible refine gate_callee (f := 17) rfl ?_); refine goesL_ (some 8) rfl rfl Tryz.func17 (by kernel_rfl) rfl #[.int .i64 7, .int .i64 12] rfl mp_ ?_; (with_reducible refine (schismaref04_Make.calls k 7 12 t101 t102 _ A1.out).mono ?_); rintro e w38 ⟨rfl, hb⟩; refine ⟨_, rfl, ?_⟩; replace HB := bs_ hb; (try clear hb); (try clear hb2); (try clear hk); (try clear hi)) | ((with_reducible refine gate_dst (N := 1) rfl ?_); (try (refine gate_guard (by rfl) ?_; dsimp only)); refine bx_ 1 #[.string (⟨#[]⟩ : ByteArray), .string (⟨#[]⟩ : ByteArray)] 24 ?_; clear HB; intro gb103 w39 BK103 GW103 HB; have GE103 := GW103; obtain ⟨hcz40_0, hcz40_1, hfz40_0, hfz40_1⟩ := c2_ BK103) | ((with_reducible refine gate_callee (f := 19) rfl ?_); refine goesL_ (some 11) rfl rfl Tryz.func19 (by kernel_rfl) rfl #[.agg #[.string t101, .string t102]] rfl mp_ ?_; (with_reducible refine (convergent_Terms.calls k t101 t102 t104 t107 _ ?side1 A2.out).mono ?_); (case side1 => exact gw_ HG); rintro e w41 ⟨v105, rfl, ho0, hb⟩; refine ⟨_, rfl, ?_⟩; have HO106 := Aside0.mk (Kd.R_lower ho0 (below_size bl_)); replace BK103 := Aside0.mk (blk_below (g := gb103) (o := .cells #[.string t101, .string t102] 24 (0, 0)) (by (with_reducible repeat (first | refine blk_drewN ?_ _ | refine blk_drew ?_ | refine blk_alloc ?_ _)); refine blk_put (cs := #[.string t101, .string (⟨#[]⟩ : ByteArray)]) ?_ 1 _ rfl; (with_reducible repeat (first | refine blk_drewN ?_ _ | refine blk_drew ?_ | refine blk_alloc ?_ _)); refine blk_put (cs := #[.string (⟨#[]⟩ : ByteArray), .string (⟨#[]⟩ : ByteArray)]) ?_ 0 _ rfl; (with_reducible repeat (first | refine blk_drewN ?_ _ | refine blk_drew ?_ | refine blk_alloc ?_ _)); exact BK103.out) hb); replace HB := bs_ hb; (try clear hb); (try clear hb2); (try clear hk); (try clear hi); (try clear ho0)) | ((with_reducible refine gate_callee (f := 17) rfl ?_); refine goesL_ (some 15) rfl rfl Tryz.func17 (by kernel_rfl) rfl #[.int .i64 3, .int .i64 5] rfl mp_ ?_; (with_reducible refine (schismaref04_Make.calls k 3 5 t108 t109 _ A3.out).mono ?_); rintro e w42 ⟨rfl, hb⟩; refine ⟨_, rfl, ?_⟩; replace HO106 := rb_ HO106 hb; replace BK103 := kb_ BK103 hb; replace HB := bs_ hb; (try clear hb); (try clear hb2); (try clear hk); (try clear hi)) | ((with_reducible refine gate_callee (f := 32) rfl ?_); refine goesL_ (some 16) rfl rfl Tryz.func32 (by kernel_rfl) rfl #[.agg #[.string t108, .string t109]] rfl mp_ ?_; (with_reducible refine (convergent_Path.calls k t108 t109 t110 t111 _ ?side1 A4.out).mono ?_); (case side1 => exact gw_ HG); rintro e w43 ⟨rfl, hb⟩; refine ⟨_, rfl, ?_⟩; replace HO106 := rb_ HO106 hb; replace BK103 := kb_ BK103 hb; replace HB := bs_ hb; (try clear hb); (try clear hb2); (try clear hk); (try clear hi); obtain ⟨hcz44_0, hcz44_1, hfz44_0, hfz44_1⟩ := c2_ BK103) | ((with_reducible refine gate_callee (f := 28) rfl ?_); refine goesL_ (some 21) rfl rfl Tryz.func28 (by kernel_rfl) rfl #[.agg #[.string t101, .string t102], .int .i64 7] rfl mp_ ?_; (with_reducible refine (convergent_Best.calls k t101 t102 7 t112 t115 _ ?side1 A5.out).mono ?_); (case side1 => exact gw_ HG); rintro e w45 ⟨v113, rfl, ho0, hb⟩; refine ⟨_, rfl, ?_⟩; replace HO106 := rb_ HO106 hb; have HO114 := Aside0.mk (Kd.R_lower (Kd.R_newB ho0 (g := gb103) (o := .cells #[.string t101, .string t102] 24 (0, 0)) bk_) (below_size bl_)); replace BK103 := kb_ BK103 hb; replace HB := bs_ hb; (try clear hb); (try clear hb2); (try clear hk); (try clear hi); (try clear ho0)) | ((with_reducible refine gate_dst (N := 28) rfl ?_); (try (refine gate_guard (by rfl) ?_; dsimp only)); refine Kd.R_lit (Kd.int .i64) _ 3 ?hg (N := 28) ?hd (xs := ([0, 1, 1, 2, 2] : List Int)) (inner := [.int .i64 0, .int .i64 1, .int .i64 1, .int .i64 2, .int .i64 2]) (ok := fun _ => True) (okp := fun _ => True) ?hr ?hp (fun _ hk => hk) trivial (Below.refl _ _) (Nat.le_refl _) (by simp) ?_; (case hd => rfl); (case hg => rfl); (case hr => first | (go_simp; done) | (go_simp; rfl)); (case hp => exact (Reps.one (show Kd.M (Kd.int .i64) _ _ _ 0 [.int .i64 0] from rfl) (Reps.one (show Kd.M (Kd.int .i64) _ _ _ 1 [.int .i64 1] from rfl) (Reps.one (show Kd.M (Kd.int .i64) _ _ _ 1 [.int .i64 1] from rfl) (Reps.one (show Kd.M (Kd.int .i64) _ _ _ 2 [.int .i64 2] from rfl) (Reps.one (show Kd.M (Kd.int .i64) _ _ _ 2 [.int .i64 2] from rfl) (Reps.none _ _))))))); intro v117 w46 ho47 hb hg_ hnew_; clear hg_ hnew_; (first | rw [← Ny116.out] at ho47 | (simp only [Int.reduceToNat] at ho47; rw [← Ny116.out] at ho47)); replace HO106 := rb_ HO106 hb; replace HO114 := rb_ HO114 hb; have HO118 := Aside0.mk (Kd.R_lower ho47 (below_size bl_)); replace BK103 := kb_ BK103 hb; replace HB := bs_ hb; clear hb ho47; obtain ⟨Ao48, co48, eo48⟩ := Kd.R_slice HO106.out; subst eo48; obtain ⟨Ao49, co49, eo49⟩ := Kd.R_slice HO118.out; subst eo49) | (go_at_call 22; (with_reducible refine (schismalaw04_ints.calls k _ _ t104 _ _ y116 true _ ?side1 ?side2 ?side3 ?side4 A7.out).mono ?_); (case side1 => repeat (first | exact (Kd.R_reads' HO106.out).2.2 | (with_reducible refine Kd.C_alloc ?_ _) | (with_reducible refine Kd.C_drewN ?_ _) | (with_reducible refine Kd.C_drew ?_))); (case side2 => exact (Kd.R_reads' HO106.out).2.1); (case side3 => repeat (first | exact (Kd.R_reads' HO118.out).2.2 | (with_reducible refine Kd.C_alloc ?_ _) | (with_reducible refine Kd.C_drewN ?_ _) | (with_reducible refine Kd.C_drew ?_))); (case side4 => exact (Kd.R_reads' HO118.out).2.1); rintro e w50 ⟨rfl, hb⟩; replace HO106 := rb_ HO106 hb; replace HO114 := rb_ HO114 hb; replace HO118 := rb_ HO118 hb; replace BK103 := kb_ BK103 hb; replace HB := bs_ hb; (try clear hb); (try clear hb2); (try clear hk); (try clear hi)))
      go_ret
      exact ⟨er_, bl_⟩
    ·rw [if_neg c10] at H
     have c10b0 : (t110.toList == ([76, 82, 76] : List UInt8)) = false := beq_eq_false_iff_ne.mpr c10
     have c10b1 : (t110.toList != ([76, 82, 76] : List UInt8)) = true := bne_iff_ne.mpr c10
     obtain rfl := Option.some.inj H
     go_enter Tryz.func13, Tryz.ntmps13
     go_wp2_with (first | ((with_reducible refine gate_callee (f := 17) rfl ?_); refine goesL_ (some 8) rfl rfl Tryz.func17 (by kernel_rfl) rfl #[.int .i64 7, .int .i64 12] rfl mp_ ?_; (with_reducible refine (schismaref04_Make.calls k 7 12 t101 t102 _ A1.out).mono ?_); rintro e w51 ⟨rfl, hb⟩; refine ⟨_, rfl, ?_⟩; replace HB := bs_ hb; (try clear hb); (try clear hb2); (try clear hk); (try clear hi)) | ((with_reducible refine gate_dst (N := 1) rfl ?_); (try (refine gate_guard (by rfl) ?_; dsimp only)); refine bx_ 1 #[.string (⟨#[]⟩ : ByteArray), .string (⟨#[]⟩ : ByteArray)] 24 ?_; clear HB; intro gb103 w52 BK103 GW103 HB; have GE103 := GW103; obtain ⟨hcz53_0, hcz53_1, hfz53_0, hfz53_1⟩ := c2_ BK103) | ((with_reducible refine gate_callee (f := 19) rfl ?_); refine goesL_ (some 11) rfl rfl Tryz.func19 (by kernel_rfl) rfl #[.agg #[.string t101, .string t102]] rfl mp_ ?_; (with_reducible refine (convergent_Terms.calls k t101 t102 t104 t107 _ ?side1 A2.out).mono ?_); (case side1 => exact gw_ HG); rintro e w54 ⟨v105, rfl, ho0, hb⟩; refine ⟨_, rfl, ?_⟩; have HO106 := Aside0.mk (Kd.R_lower ho0 (below_size bl_)); replace BK103 := Aside0.mk (blk_below (g := gb103) (o := .cells #[.string t101, .string t102] 24 (0, 0)) (by (with_reducible repeat (first | refine blk_drewN ?_ _ | refine blk_drew ?_ | refine blk_alloc ?_ _)); refine blk_put (cs := #[.string t101, .string (⟨#[]⟩ : ByteArray)]) ?_ 1 _ rfl; (with_reducible repeat (first | refine blk_drewN ?_ _ | refine blk_drew ?_ | refine blk_alloc ?_ _)); refine blk_put (cs := #[.string (⟨#[]⟩ : ByteArray), .string (⟨#[]⟩ : ByteArray)]) ?_ 0 _ rfl; (with_reducible repeat (first | refine blk_drewN ?_ _ | refine blk_drew ?_ | refine blk_alloc ?_ _)); exact BK103.out) hb); replace HB := bs_ hb; (try clear hb); (try clear hb2); (try clear hk); (try clear hi); (try clear ho0)) | ((with_reducible refine gate_callee (f := 17) rfl ?_); refine goesL_ (some 15) rfl rfl Tryz.func17 (by kernel_rfl) rfl #[.int .i64 3, .int .i64 5] rfl mp_ ?_; (with_reducible refine (schismaref04_Make.calls k 3 5 t108 t109 _ A3.out).mono ?_); rintro e w55 ⟨rfl, hb⟩; refine ⟨_, rfl, ?_⟩; replace HO106 := rb_ HO106 hb; replace BK103 := kb_ BK103 hb; replace HB := bs_ hb; (try clear hb); (try clear hb2); (try clear hk); (try clear hi)) | ((with_reducible refine gate_callee (f := 32) rfl ?_); refine goesL_ (some 16) rfl rfl Tryz.func32 (by kernel_rfl) rfl #[.agg #[.string t108, .string t109]] rfl mp_ ?_; (with_reducible refine (convergent_Path.calls k t108 t109 t110 t111 _ ?side1 A4.out).mono ?_); (case side1 => exact gw_ HG); rintro e w56 ⟨rfl, hb⟩; refine ⟨_, rfl, ?_⟩; replace HO106 := rb_ HO106 hb; replace BK103 := kb_ BK103 hb; replace HB := bs_ hb; (try clear hb); (try clear hb2); (try clear hk); (try clear hi); obtain ⟨hcz57_0, hcz57_1, hfz57_0, hfz57_1⟩ := c2_ BK103) | ((with_reducible refine gate_callee (f := 28) rfl ?_); refine goesL_ (some 21) rfl rfl Tryz.func28 (by kernel_rfl) rfl #[.agg #[.string t101, .string t102], .int .i64 7] rfl mp_ ?_; (with_reducible refine (convergent_Best.calls k t101 t102 7 t112 t115 _ ?side1 A5.out).mono ?_); (case side1 => exact gw_ HG); rintro e w58 ⟨v113, rfl, ho0, hb⟩; refine ⟨_, rfl, ?_⟩; replace HO106 := rb_ HO106 hb; have HO114 := Aside0.mk (Kd.R_lower (Kd.R_newB ho0 (g := gb103) (o := .cells #[.string t101, .string t102] 24 (0, 0)) bk_) (below_size bl_)); replace BK103 := kb_ BK103 hb; replace HB := bs_ hb; (try clear hb); (try clear hb2); (try clear hk); (try clear hi); (try clear ho0)) | ((with_reducible refine gate_dst (N := 28) rfl ?_); (try (refine gate_guard (by rfl) ?_; dsimp only)); refine Kd.R_lit (Kd.int .i64) _ 3 ?hg (N := 28) ?hd (xs := ([0, 1, 1, 2, 2] : List Int)) (inner := [.int .i64 0, .int .i64 1, .int .i64 1, .int .i64 2, .int .i64 2]) (ok := fun _ => True) (okp := fun _ => True) ?hr ?hp (fun _ hk => hk) trivial (Below.refl _ _) (Nat.le_refl _) (by simp) ?_; (case hd => rfl); (case hg => rfl); (case hr => first | (go_simp; done) | (go_simp; rfl)); (case hp => exact (Reps.one (show Kd.M (Kd.int .i64) _ _ _ 0 [.int .i64 0] from rfl) (Reps.one (show Kd.M (Kd.int .i64) _ _ _ 1 [.int .i64 1] from rfl) (Reps.one (show Kd.M (Kd.int .i64) _ _ _ 1 [.int .i64 1] from rfl) (Reps.one (show Kd.M (Kd.int .i64) _ _ _ 2 [.int .i64 2] from rfl) (Reps.one (show Kd.M (Kd.int .i64) _ _ _ 2 [.int .i64 2] from rfl) (Reps.none _ _))))))); intro v117 w59 ho60 hb hg_ hnew_; clear hg_ hnew_; (first | rw [← Ny116.out] at ho60 | (simp only [Int.reduceToNat] at ho60; rw [← Ny116.out] at ho60)); replace HO106 := rb_ HO106 hb; replace HO114 := rb_ HO114 hb; have HO118 := Aside0.mk (Kd.R_lower ho60 (below_size bl_)); replace BK103 := kb_ BK103 hb; replace HB := bs_ hb; clear hb ho60; obtain ⟨Ao61, co61, eo61⟩ := Kd.R_slice HO106.out; subst eo61; obtain ⟨Ao62, co62, eo62⟩ := Kd.R_slice HO118.out; subst eo62) | (go_at_call 22; (with_reducible refine (schismalaw04_ints.calls k _ _ t104 _ _ y116 true _ ?side1 ?side2 ?side3 ?side4 A7.out).mono ?_); (case side1 => repeat (first | exact (Kd.R_reads' HO106.out).2.2 | (with_reducible refine Kd.C_alloc ?_ _) | (with_reducible refine Kd.C_drewN ?_ _) | (with_reducible refine Kd.C_drew ?_))); (case side2 => exact (Kd.R_reads' HO106.out).2.1); (case side3 => repeat (first | exact (Kd.R_reads' HO118.out).2.2 | (with_reducible refine Kd.C_alloc ?_ _) | (with_reducible refine Kd.C_drewN ?_ _) | (with_reducible refine Kd.C_drew ?_))); (case side4 => exact (Kd.R_reads' HO118.out).2.1); rintro e w63 ⟨rfl, hb⟩; replace HO106 := rb_ HO106 hb; replace HO114 := rb_ HO114 hb; replace HO118 := rb_ HO118 hb; replace BK103 := kb_ BK103 hb; replace HB := bs_ hb; (try clear hb); (try clear hb2); (try clear hk); (try clear hi)))
     go_ret
     exact ⟨er_, bl_⟩
   ·rw [if_neg c9] at H
    have c9b0 : (t111 == 0) = false := beq_eq_false_iff_ne.mpr c9
    have c9b1 : (t111 != 0) = true := bne_iff_ne.mpr c9
    obtain rfl := Option.some.inj H
    go_enter Tryz.func13, Tryz.ntmps13
    go_wp2_with (first | ((with_reducible refine gate_callee (f := 17) rfl ?_); refine goesL_ (some 8) rfl rfl Tryz.func17 (by kernel_rfl) rfl #[.int .i64 7, .int .i64 12] rfl mp_ ?_; (with_reducible refine (schismaref04_Make.calls k 7 12 t101 t102 _ A1.out).mono ?_); rintro e w64 ⟨rfl, hb⟩; refine ⟨_, rfl, ?_⟩; replace HB := bs_ hb; (try clear hb); (try clear hb2); (try clear hk); (try clear hi)) | ((with_reducible refine gate_dst (N := 1) rfl ?_); (try (refine gate_guard (by rfl) ?_; dsimp only)); refine bx_ 1 #[.string (⟨#[]⟩ : ByteArray), .string (⟨#[]⟩ : ByteArray)] 24 ?_; clear HB; intro gb103 w65 BK103 GW103 HB; have GE103 := GW103; obtain ⟨hcz66_0, hcz66_1, hfz66_0, hfz66_1⟩ := c2_ BK103) | ((with_reducible refine gate_callee (f := 19) rfl ?_); refine goesL_ (some 11) rfl rfl Tryz.func19 (by kernel_rfl) rfl #[.agg #[.string t101, .string t102]] rfl mp_ ?_; (with_reducible refine (convergent_Terms.calls k t101 t102 t104 t107 _ ?side1 A2.out).mono ?_); (case side1 => exact gw_ HG); rintro e w67 ⟨v105, rfl, ho0, hb⟩; refine ⟨_, rfl, ?_⟩; have HO106 := Aside0.mk (Kd.R_lower ho0 (below_size bl_)); replace BK103 := Aside0.mk (blk_below (g := gb103) (o := .cells #[.string t101, .string t102] 24 (0, 0)) (by (with_reducible repeat (first | refine blk_drewN ?_ _ | refine blk_drew ?_ | refine blk_alloc ?_ _)); refine blk_put (cs := #[.string t101, .string (⟨#[]⟩ : ByteArray)]) ?_ 1 _ rfl; (with_reducible repeat (first | refine blk_drewN ?_ _ | refine blk_drew ?_ | refine blk_alloc ?_ _)); refine blk_put (cs := #[.string (⟨#[]⟩ : ByteArray), .string (⟨#[]⟩ : ByteArray)]) ?_ 0 _ rfl; (with_reducible repeat (first | refine blk_drewN ?_ _ | refine blk_drew ?_ | refine blk_alloc ?_ _)); exact BK103.out) hb); replace HB := bs_ hb; (try clear hb); (try clear hb2); (try clear hk); (try clear hi); (try clear ho0)) | ((with_reducible refine gate_callee (f := 17) rfl ?_); refine goesL_ (some 15) rfl rfl Tryz.func17 (by kernel_rfl) rfl #[.int .i64 3, .int .i64 5] rfl mp_ ?_; (with_reducible refine (schismaref04_Make.calls k 3 5 t108 t109 _ A3.out).mono ?_); rintro e w68 ⟨rfl, hb⟩; refine ⟨_, rfl, ?_⟩; replace HO106 := rb_ HO106 hb; replace BK103 := kb_ BK103 hb; replace HB := bs_ hb; (try clear hb); (try clear hb2); (try clear hk); (try clear hi)) | ((with_reducible refine gate_callee (f := 32) rfl ?_); refine goesL_ (some 16) rfl rfl Tryz.func32 (by kernel_rfl) rfl #[.agg #[.string t108, .string t109]] rfl mp_ ?_; (with_reducible refine (convergent_Path.calls k t108 t109 t110 t111 _ ?side1 A4.out).mono ?_); (case side1 => exact gw_ HG); rintro e w69 ⟨rfl, hb⟩; refine ⟨_, rfl, ?_⟩; replace HO106 := rb_ HO106 hb; replace BK103 := kb_ BK103 hb; replace HB := bs_ hb; (try clear hb); (try clear hb2); (try clear hk); (try clear hi); obtain ⟨hcz70_0, hcz70_1, hfz70_0, hfz70_1⟩ := c2_ BK103) | ((with_reducible refine gate_callee (f := 28) rfl ?_); refine goesL_ (some 21) rfl rfl Tryz.func28 (by kernel_rfl) rfl #[.agg #[.string t101, .string t102], .int .i64 7] rfl mp_ ?_; (with_reducible refine (convergent_Best.calls k t101 t102 7 t112 t115 _ ?side1 A5.out).mono ?_); (case side1 => exact gw_ HG); rintro e w71 ⟨v113, rfl, ho0, hb⟩; refine ⟨_, rfl, ?_⟩; replace HO106 := rb_ HO106 hb; have HO114 := Aside0.mk (Kd.R_lower (Kd.R_newB ho0 (g := gb103) (o := .cells #[.string t101, .string t102] 24 (0, 0)) bk_) (below_size bl_)); replace BK103 := kb_ BK103 hb; replace HB := bs_ hb; (try clear hb); (try clear hb2); (try clear hk); (try clear hi); (try clear ho0)) | ((with_reducible refine gate_dst (N := 28) rfl ?_); (try (refine gate_guard (by rfl) ?_; dsimp only)); refine Kd.R_lit (Kd.int .i64) _ 3 ?hg (N := 28) ?hd (xs := ([0, 1, 1, 2, 2] : List Int)) (inner := [.int .i64 0, .int .i64 1, .int .i64 1, .int .i64 2, .int .i64 2]) (ok := fun _ => True) (okp := fun _ => True) ?hr ?hp (fun _ hk => hk) trivial (Below.refl _ _) (Nat.le_refl _) (by simp) ?_; (case hd => rfl); (case hg => rfl); (case hr => first | (go_simp; done) | (go_simp; rfl)); (case hp => exact (Reps.one (show Kd.M (Kd.int .i64) _ _ _ 0 [.int .i64 0] from rfl) (Reps.one (show Kd.M (Kd.int .i64) _ _ _ 1 [.int .i64 1] from rfl) (Reps.one (show Kd.M (Kd.int .i64) _ _ _ 1 [.int .i64 1] from rfl) (Reps.one (show Kd.M (Kd.int .i64) _ _ _ 2 [.int .i64 2] from rfl) (Reps.one (show Kd.M (Kd.int .i64) _ _ _ 2 [.int .i64 2] from rfl) (Reps.none _ _))))))); intro v117 w72 ho73 hb hg_ hnew_; clear hg_ hnew_; (first | rw [← Ny116.out] at ho73 | (simp only [Int.reduceToNat] at ho73; rw [← Ny116.out] at ho73)); replace HO106 := rb_ HO106 hb; replace HO114 := rb_ HO114 hb; have HO118 := Aside0.mk (Kd.R_lower ho73 (below_size bl_)); replace BK103 := kb_ BK103 hb; replace HB := bs_ hb; clear hb ho73; obtain ⟨Ao74, co74, eo74⟩ := Kd.R_slice HO106.out; subst eo74; obtain ⟨Ao75, co75, eo75⟩ := Kd.R_slice HO118.out; subst eo75) | (go_at_call 22; (with_reducible refine (schismalaw04_ints.calls k _ _ t104 _ _ y116 true _ ?side1 ?side2 ?side3 ?side4 A7.out).mono ?_); (case side1 => repeat (first | exact (Kd.R_reads' HO106.out).2.2 | (with_reducible refine Kd.C_alloc ?_ _) | (with_reducible refine Kd.C_drewN ?_ _) | (with_reducible refine Kd.C_drew ?_))); (case side2 => exact (Kd.R_reads' HO106.out).2.1); (case side3 => repeat (first | exact (Kd.R_reads' HO118.out).2.2 | (with_reducible refine Kd.C_alloc ?_ _) | (with_reducible refine Kd.C_drewN ?_ _) | (with_reducible refine Kd.C_drew ?_))); (case side4 => exact (Kd.R_reads' HO118.out).2.1); rintro e w76 ⟨rfl, hb⟩; replace HO106 := rb_ HO106 hb; replace HO114 := rb_ HO114 hb; replace HO118 := rb_ HO118 hb; replace BK103 := kb_ BK103 hb; replace HB := bs_ hb; (try clear hb); (try clear hb2); (try clear hk); (try clear hi)))
    go_ret
    exact ⟨er_, bl_⟩
  ·replace c8 := Bool.eq_false_iff.mpr c8
   subst c8
   have H1 : (some false) = some r := by rw [if_neg (show ¬ (false = true) by decide)] at H; exact H
   clear H
   have H := H1
   clear H1
   obtain rfl := Option.some.inj H
   go_enter Tryz.func13, Tryz.ntmps13
   go_wp2_with (first | ((with_reducible refine gate_callee (f := 17) rfl ?_); refine goesL_ (some 8) rfl rfl Tryz.func17 (by kernel_rfl) rfl #[.int .i64 7, .int .i64 12] rfl mp_ ?_; (with_reducible refine (schismaref04_Make.calls k 7 12 t101 t102 _ A1.out).mono ?_); rintro e w77 ⟨rfl, hb⟩; refine ⟨_, rfl, ?_⟩; replace HB := bs_ hb; (try clear hb); (try clear hb2); (try clear hk); (try clear hi)) | ((with_reducible refine gate_dst (N := 1) rfl ?_); (try (refine gate_guard (by rfl) ?_; dsimp only)); refine bx_ 1 #[.string (⟨#[]⟩ : ByteArray), .string (⟨#[]⟩ : ByteArray)] 24 ?_; clear HB; intro gb103 w78 BK103 GW103 HB; have GE103 := GW103; obtain ⟨hcz79_0, hcz79_1, hfz79_0, hfz79_1⟩ := c2_ BK103) | ((with_reducible refine gate_callee (f := 19) rfl ?_); refine goesL_ (some 11) rfl rfl Tryz.func19 (by kernel_rfl) rfl #[.agg #[.string t101, .string t102]] rfl mp_ ?_; (with_reducible refine (convergent_Terms.calls k t101 t102 t104 t107 _ ?side1 A2.out).mono ?_); (case side1 => exact gw_ HG); rintro e w80 ⟨v105, rfl, ho0, hb⟩; refine ⟨_, rfl, ?_⟩; have HO106 := Aside0.mk (Kd.R_lower ho0 (below_size bl_)); replace BK103 := Aside0.mk (blk_below (g := gb103) (o := .cells #[.string t101, .string t102] 24 (0, 0)) (by (with_reducible repeat (first | refine blk_drewN ?_ _ | refine blk_drew ?_ | refine blk_alloc ?_ _)); refine blk_put (cs := #[.string t101, .string (⟨#[]⟩ : ByteArray)]) ?_ 1 _ rfl; (with_reducible repeat (first | refine blk_drewN ?_ _ | refine blk_drew ?_ | refine blk_alloc ?_ _)); refine blk_put (cs := #[.string (⟨#[]⟩ : ByteArray), .string (⟨#[]⟩ : ByteArray)]) ?_ 0 _ rfl; (with_reducible repeat (first | refine blk_drewN ?_ _ | refine blk_drew ?_ | refine blk_alloc ?_ _)); exact BK103.out) hb); replace HB := bs_ hb; (try clear hb); (try clear hb2); (try clear hk); (try clear hi); (try clear ho0)) | ((with_reducible refine gate_callee (f := 17) rfl ?_); refine goesL_ (some 15) rfl rfl Tryz.func17 (by kernel_rfl) rfl #[.int .i64 3, .int .i64 5] rfl mp_ ?_; (with_reducible refine (schismaref04_Make.calls k 3 5 t108 t109 _ A3.out).mono ?_); rintro e w81 ⟨rfl, hb⟩; refine ⟨_, rfl, ?_⟩; replace HO106 := rb_ HO106 hb; replace BK103 := kb_ BK103 hb; replace HB := bs_ hb; (try clear hb); (try clear hb2); (try clear hk); (try clear hi)) | ((with_reducible refine gate_callee (f := 32) rfl ?_); refine goesL_ (some 16) rfl rfl Tryz.func32 (by kernel_rfl) rfl #[.agg #[.string t108, .string t109]] rfl mp_ ?_; (with_reducible refine (convergent_Path.calls k t108 t109 t110 t111 _ ?side1 A4.out).mono ?_); (case side1 => exact gw_ HG); rintro e w82 ⟨rfl, hb⟩; refine ⟨_, rfl, ?_⟩; replace HO106 := rb_ HO106 hb; replace BK103 := kb_ BK103 hb; replace HB := bs_ hb; (try clear hb); (try clear hb2); (try clear hk); (try clear hi); obtain ⟨hcz83_0, hcz83_1, hfz83_0, hfz83_1⟩ := c2_ BK103) | ((with_reducible refine gate_callee (f := 28) rfl ?_); refine goesL_ (some 21) rfl rfl Tryz.func28 (by kernel_rfl) rfl #[.agg #[.string t101, .string t102], .int .i64 7] rfl mp_ ?_; (with_reducible refine (convergent_Best.calls k t101 t102 7 t112 t115 _ ?side1 A5.out).mono ?_); (case side1 => exact gw_ HG); rintro e w84 ⟨v113, rfl, ho0, hb⟩; refine ⟨_, rfl, ?_⟩; replace HO106 := rb_ HO106 hb; have HO114 := Aside0.mk (Kd.R_lower (Kd.R_newB ho0 (g := gb103) (o := .cells #[.string t101, .string t102] 24 (0, 0)) bk_) (below_size bl_)); replace BK103 := kb_ BK103 hb; replace HB := bs_ hb; (try clear hb); (try clear hb2); (try clear hk); (try clear hi); (try clear ho0)) | ((with_reducible refine gate_dst (N := 28) rfl ?_); (try (refine gate_guard (by rfl) ?_; dsimp only)); refine Kd.R_lit (Kd.int .i64) _ 3 ?hg (N := 28) ?hd (xs := ([0, 1, 1, 2, 2] : List Int)) (inner := [.int .i64 0, .int .i64 1, .int .i64 1, .int .i64 2, .int .i64 2]) (ok := fun _ => True) (okp := fun _ => True) ?hr ?hp (fun _ hk => hk) trivial (Below.refl _ _) (Nat.le_refl _) (by simp) ?_; (case hd => rfl); (case hg => rfl); (case hr => first | (go_simp; done) | (go_simp; rfl)); (case hp => exact (Reps.one (show Kd.M (Kd.int .i64) _ _ _ 0 [.int .i64 0] from rfl) (Reps.one (show Kd.M (Kd.int .i64) _ _ _ 1 [.int .i64 1] from rfl) (Reps.one (show Kd.M (Kd.int .i64) _ _ _ 1 [.int .i64 1] from rfl) (Reps.one (show Kd.M (Kd.int .i64) _ _ _ 2 [.int .i64 2] from rfl) (Reps.one (show Kd.M (Kd.int .i64) _ _ _ 2 [.int .i64 2] from rfl) (Reps.none _ _))))))); intro v117 w85 ho86 hb hg_ hnew_; clear hg_ hnew_; (first | rw [← Ny116.out] at ho86 | (simp only [Int.reduceToNat] at ho86; rw [← Ny116.out] at ho86)); replace HO106 := rb_ HO106 hb; replace HO114 := rb_ HO114 hb; have HO118 := Aside0.mk (Kd.R_lower ho86 (below_size bl_)); replace BK103 := kb_ BK103 hb; replace HB := bs_ hb; clear hb ho86; obtain ⟨Ao87, co87, eo87⟩ := Kd.R_slice HO106.out; subst eo87; obtain ⟨Ao88, co88, eo88⟩ := Kd.R_slice HO118.out; subst eo88) | (go_at_call 22; (with_reducible refine (schismalaw04_ints.calls k _ _ t104 _ _ y116 false _ ?side1 ?side2 ?side3 ?side4 A7.out).mono ?_); (case side1 => repeat (first | exact (Kd.R_reads' HO106.out).2.2 | (with_reducible refine Kd.C_alloc ?_ _) | (with_reducible refine Kd.C_drewN ?_ _) | (with_reducible refine Kd.C_drew ?_))); (case side2 => exact (Kd.R_reads' HO106.out).2.1); (case side3 => repeat (first | exact (Kd.R_reads' HO118.out).2.2 | (with_reducible refine Kd.C_alloc ?_ _) | (with_reducible refine Kd.C_drewN ?_ _) | (with_reducible refine Kd.C_drew ?_))); (case side4 => exact (Kd.R_reads' HO118.out).2.1); rintro e w89 ⟨rfl, hb⟩; replace HO106 := rb_ HO106 hb; replace HO114 := rb_ HO114 hb; replace HO118 := rb_ HO118 hb; replace BK103 := kb_ BK103 hb; replace HB := bs_ hb; (try clear hb); (try clear hb2); (try clear hk); (try clear hi)))
   go_ret
   exact ⟨er_, bl_⟩
 ·rw [if_neg c6] at H
  have c6b0 : (t107 == 0) = false := beq_eq_false_iff_ne.mpr c6
  have c6b1 : (t107 != 0) = true := bne_iff_ne.mpr c6
  obtain rfl := Option.some.inj H
  go_enter Tryz.func13, Tryz.ntmps13
  go_wp2_with (first | ((with_reducible refine gate_callee (f := 17) rfl ?_); refine goesL_ (some 8) rfl rfl Tryz.func17 (by kernel_rfl) rfl #[.int .i64 7, .int .i64 12] rfl mp_ ?_; (with_reducible refine (schismaref04_Make.calls k 7 12 t101 t102 _ A1.out).mono ?_); rintro e w90 ⟨rfl, hb⟩; refine ⟨_, rfl, ?_⟩; replace HB := bs_ hb; (try clear hb); (try clear hb2); (try clear hk); (try clear hi)) | ((with_reducible refine gate_dst (N := 1) rfl ?_); (try (refine gate_guard (by rfl) ?_; dsimp only)); refine bx_ 1 #[.string (⟨#[]⟩ : ByteArray), .string (⟨#[]⟩ : ByteArray)] 24 ?_; clear HB; intro gb103 w91 BK103 GW103 HB; have GE103 := GW103; obtain ⟨hcz92_0, hcz92_1, hfz92_0, hfz92_1⟩ := c2_ BK103) | ((with_reducible refine gate_callee (f := 19) rfl ?_); refine goesL_ (some 11) rfl rfl Tryz.func19 (by kernel_rfl) rfl #[.agg #[.string t101, .string t102]] rfl mp_ ?_; (with_reducible refine (convergent_Terms.calls k t101 t102 t104 t107 _ ?side1 A2.out).mono ?_); (case side1 => exact gw_ HG); rintro e w93 ⟨v105, rfl, ho0, hb⟩; refine ⟨_, rfl, ?_⟩; have HO106 := Aside0.mk (Kd.R_lower ho0 (below_size bl_)); replace BK103 := Aside0.mk (blk_below (g := gb103) (o := .cells #[.string t101, .string t102] 24 (0, 0)) (by (with_reducible repeat (first | refine blk_drewN ?_ _ | refine blk_drew ?_ | refine blk_alloc ?_ _)); refine blk_put (cs := #[.string t101, .string (⟨#[]⟩ : ByteArray)]) ?_ 1 _ rfl; (with_reducible repeat (first | refine blk_drewN ?_ _ | refine blk_drew ?_ | refine blk_alloc ?_ _)); refine blk_put (cs := #[.string (⟨#[]⟩ : ByteArray), .string (⟨#[]⟩ : ByteArray)]) ?_ 0 _ rfl; (with_reducible repeat (first | refine blk_drewN ?_ _ | refine blk_drew ?_ | refine blk_alloc ?_ _)); exact BK103.out) hb); replace HB := bs_ hb; (try clear hb); (try clear hb2); (try clear hk); (try clear hi); (try clear ho0)) | ((with_reducible refine gate_callee (f := 17) rfl ?_); refine goesL_ (some 15) rfl rfl Tryz.func17 (by kernel_rfl) rfl #[.int .i64 3, .int .i64 5] rfl mp_ ?_; (with_reducible refine (schismaref04_Make.calls k 3 5 t108 t109 _ A3.out).mono ?_); rintro e w94 ⟨rfl, hb⟩; refine ⟨_, rfl, ?_⟩; replace HO106 := rb_ HO106 hb; replace BK103 := kb_ BK103 hb; replace HB := bs_ hb; (try clear hb); (try clear hb2); (try clear hk); (try clear hi)) | ((with_reducible refine gate_callee (f := 32) rfl ?_); refine goesL_ (some 16) rfl rfl Tryz.func32 (by kernel_rfl) rfl #[.agg #[.string t108, .string t109]] rfl mp_ ?_; (with_reducible refine (convergent_Path.calls k t108 t109 t110 t111 _ ?side1 A4.out).mono ?_); (case side1 => exact gw_ HG); rintro e w95 ⟨rfl, hb⟩; refine ⟨_, rfl, ?_⟩; replace HO106 := rb_ HO106 hb; replace BK103 := kb_ BK103 hb; replace HB := bs_ hb; (try clear hb); (try clear hb2); (try clear hk); (try clear hi); obtain ⟨hcz96_0, hcz96_1, hfz96_0, hfz96_1⟩ := c2_ BK103) | ((with_reducible refine gate_callee (f := 28) rfl ?_); refine goesL_ (some 21) rfl rfl Tryz.func28 (by kernel_rfl) rfl #[.agg #[.string t101, .string t102], .int .i64 7] rfl mp_ ?_; (with_reducible refine (convergent_Best.calls k t101 t102 7 t112 t115 _ ?side1 A5.out).mono ?_); (case side1 => exact gw_ HG); rintro e w97 ⟨v113, rfl, ho0, hb⟩; refine ⟨_, rfl, ?_⟩; replace HO106 := rb_ HO106 hb; have HO114 := Aside0.mk (Kd.R_lower (Kd.R_newB ho0 (g := gb103) (o := .cells #[.string t101, .string t102] 24 (0, 0)) bk_) (below_size bl_)); replace BK103 := kb_ BK103 hb; replace HB := bs_ hb; (try clear hb); (try clear hb2); (try clear hk); (try clear hi); (try clear ho0)))
  go_ret
  exact ⟨er_, bl_⟩
end Go.Proofs.YtidajgkepdkcbaaGreatDoor.PL
end
section
namespace Go.Proofs.YtidajgkepdkcbaaGreatDoor
open Go.RowKit Go.Lib Go.Proofs.YtidajgkepdkcbaaGreatDoorW.PrintWords Go.Proofs.YtidajgkepdkcbaaGreatDoorW.PrintLast Go.Proofs.YtidajgkepdkcbaaGreatDoorW.PrintMore PF PL
theorem same_go (l : List S24) : ∀ (m j : Nat), l.length ≤ 1000000 → l.length = j + m → Ev (fun k => schismalaw04_same.l0 k l l (j : Int)) true
 | 0, j, hl, hm => ev_here 1 fun k => by rw [schismalaw04_same.l0, if_neg (by omega)]
 | m + 1, j, hl, hm => by
  refine Ev.step (f := fun k => schismalaw04_same.l0 k l l ((j + 1 : Nat) : Int)) (fun k => ?_) (same_go l m (j + 1) hl (by omega))
  rw [schismalaw04_same.l0, if_pos (by omega), if_pos (by omega), if_pos (by omega), if_neg (by simp), w64 (by omega) (by omega)]
  rfl
theorem Same_self {l : List S24} (hl : l.length ≤ 1000000) : Ev (fun k => schismalaw04_same.f k l l) true := by
 unfold schismalaw04_same.f
 exact Ev.congr (fun k => if_pos rfl) (same_go l l.length 0 hl (by omega))
theorem Small_T {i : Int} (h0 : -9223372036854775808 ≤ i) (h1 : i ≤ 9223372036854775807) : whole_Small.f (T i) = some (i, true) := by
 unfold whole_Small.f strconv_ParseInt.f
 rw [if_pos ⟨rfl, rfl, by have : (T i).size ≤ 20 := T_size_le (k := 19) (by omega) (by omega); omega⟩, T_dataList, parseIntB_itoa h0 h1]
 rfl
theorem S17_small {i : Int} (h : -1000 ≤ i) (h2 : i ≤ 1000) : S17 i := by unfold S17; omega
theorem CTerms_T {ts : List Int} {n d : Int} (h : isCf ts n d) (hn : S17 n) (hd : S17 d) (hF : Fr n d) (hl : ts.length ≤ 1000) : Ev (fun k => convergent_Terms.f k (T n) (T d)) (ts.map T, 0) := by
 unfold convergent_Terms.f
 refine Ev.bind (Wrong_no hn hd hF) (Ev.congr (fun k => if_neg (by simp)) ?_)
 refine Ev.bind (Terms_T h hn hd hF.1 hl) (Ev.congr (fun k => if_neg (by simp; omega)) (ev_const fun _ => rfl))
theorem Path_T {ts : List Int} {n d : Int} (h : isCf ts n d) (hn : S17 n) (hd : S17 d) (hF : Fr n d) (hp : 0 < n) (hl : ts.length ≤ 1000) (a : Int) (ha : ts.getLast? = some a) (hS : S17 a) {r : ByteArray × Int} (hr : pathl 0 ((ts.dropLast ++ [a - 1]).map T) [] = some r) :
  Ev (fun k => convergent_Path.f k (T n) (T d)) r := by
 unfold convergent_Path.f
 refine Ev.bind (Wrong_no hn hd hF) (Ev.congr (fun k => if_neg (by simp)) ?_)
 refine Ev.bind (ev_const (r := (1 : Int)) fun k => ?_) (Ev.congr (fun k => if_neg (by omega)) ?_)
 ·unfold fraction_Sign.f
  rw [whole_Sign_T n, sg_pos hp]
  rfl
 refine Ev.bind (Terms_T h hn hd hF.1 hl) ?_
 have e : (ts.map T).getLast? = some (T a) := by rw [List.getLast?_map, ha]; rfl
 refine Ev.congr (fun k => by rw [e]) ?_
 simp only
 rw [lit1]
 refine Ev.bind (ev_const fun k => Sub_T (a := a) (b := 1) ?_ (by unfold S17; omega) k) (ev_const fun k => ?_)
 ·exact hS
 ·rw [← hr]
  simp [List.map_dropLast]
theorem Known : Ev (fun k => schismalaw04_known.f k) true := by
 unfold schismalaw04_known.f
 have F7 : Fr 7 12 := ⟨by decide, by decide⟩
 have F3 : Fr 3 5 := ⟨by decide, by decide⟩
 have t7 : isCf [0, 1, 1, 2, 2] 7 12 := by simp [isCf]
 have t3 : isCf [0, 1, 1, 2] 3 5 := by simp [isCf]
 have m : ∀ {n d : Int}, n.natAbs < 1000 → 0 < d → d < 1000 → Fr n d → Ev (fun k => schismaref04_Make.f k n d) (T n, T d) := fun h1 h2 h3 h4 => by
  rw [← fr_self h4]; exact RMake (by omega) h2 (by omega)
 refine Ev.bind (m (n := 7) (d := 12) (by decide) (by decide) (by decide) F7) ?_
 refine Ev.bind (CTerms_T t7 (S17_small (by decide) (by decide)) (S17_small (by decide) (by decide)) F7 (by decide)) ?_
 refine Ev.bind (m (n := 3) (d := 5) (by decide) (by decide) (by decide) F3) ?_
 refine Ev.bind (Path_T t3 (S17_small (by decide) (by decide)) (S17_small (by decide) (by decide)) F3 (by decide) (by decide) 2 rfl (S17_small (by decide) (by decide)) (r := (⟨#[76, 82, 76]⟩, 0)) ?_) ?_
 ·simp only [List.dropLast, List.map_cons, List.map_append, List.map_nil, List.nil_append, List.cons_append, pathl]
  rw [Small_T (by decide) (by decide), Small_T (by decide) (by decide), Small_T (by decide) (by decide)]
  rfl
 refine Ev.bind (ev_const fun k => Best_yes (ts := [0, 1, 1, 2, 2]) ⟨rfl, rfl, by decide, by decide, F7, by decide, by decide, by decide, t7, by decide⟩ k) ?_
 refine Ev.congr (fun k => if_pos rfl) ?_
 refine Ev.bind (Ints_T (by decide) (fun a ha => S17_small (by simp at ha; omega) (by simp at ha; omega))) ?_
 refine Ev.congr (fun k => by rw [if_pos rfl, if_pos rfl, if_pos (by simp [ByteArray.toList_eq]), if_pos rfl]) ?_
 refine Ev.bind (m (n := 1) (d := 1) (by decide) (by decide) (by decide) ⟨by decide, by decide⟩) ?_
 refine Ev.bind (m (n := 1) (d := 2) (by decide) (by decide) (by decide) ⟨by decide, by decide⟩) ?_
 refine Ev.bind (m (n := 3) (d := 5) (by decide) (by decide) (by decide) ⟨by decide, by decide⟩) ?_
 refine Ev.bind (m (n := 4) (d := 7) (by decide) (by decide) (by decide) ⟨by decide, by decide⟩) ?_
 have e : (bestRow 7 12 7 [0, 1, 1, 2, 2]).map sf = [⟨T 1, T 1⟩, ⟨T 1, T 2⟩, ⟨T 3, T 5⟩, ⟨T 4, T 7⟩] := by
  have : bestRow 7 12 7 [0, 1, 1, 2, 2] = [(1, 1), (1, 2), (3, 5), (4, 7)] := by decide
  rw [this]; rfl
 rw [e]
 exact Ev.bind (Same_self (by decide)) (ev_const fun _ => rfl)
end Go.Proofs.YtidajgkepdkcbaaGreatDoor
end
section
namespace Go.Proofs.YtidajgkepdkcbaaGreatDoor.PL
open Go.RowKit Go.Proofs.YtidajgkepdkcbaaGreatDoorW.PrintWords Go.Proofs.YtidajgkepdkcbaaGreatDoorW.PrintLast Go.Proofs.YtidajgkepdkcbaaGreatDoorW.PrintMore Go.Proofs.YtidajgkepdkcbaaGreatDoor.PF
attribute [local go_sem] max2_int min2_int max_two min_two max_three min_three max_four min_four
theorem eqA24 (d : Nat) (w : World) (x0 y0 : ByteArray) (x1 y1 : ByteArray) :
  (Op.equalIn (d + 2) 24 (.agg #[.string x0, .string x1]) (.agg #[.string y0, .string y1])).run Tryz.prog w = .ok (x0.toList == y0.toList && (x1.toList == y1.toList)) w := by
 refine eqA_of Tryz.underlying24 (by kernel_rfl) ?_
 refine eqf_cons (by rfl) (by go_simp; rfl) (by go_simp; rfl) (by go_simp) ?_
 exact eqf_last (by rfl) (by go_simp; rfl) (by go_simp; rfl) (by go_simp)
end Go.Proofs.YtidajgkepdkcbaaGreatDoor.PL
end
section
namespace Go.Proofs.YtidajgkepdkcbaaGreatDoor
open Go.RowKit Go.Lib Go.Proofs.YtidajgkepdkcbaaGreatDoorW.PrintWords Go.Proofs.YtidajgkepdkcbaaGreatDoorW.PrintLast Go.Proofs.YtidajgkepdkcbaaGreatDoorW.PrintMore PF PL
theorem T13 {i : Int} (h : (T i).size ≤ 13) : -1000000000000 < i ∧ i < 10000000000000 := by
 have := lt_of_T_size (i := i) (k := 12) (by omega)
 omega
end Go.Proofs.YtidajgkepdkcbaaGreatDoor
end
section
namespace Go.Proofs.YtidajgkepdkcbaaGreatDoor
open Go.RowKit Go.Lib Go.Proofs.YtidajgkepdkcbaaGreatDoorW.PrintWords Go.Proofs.YtidajgkepdkcbaaGreatDoorW.PrintLast Go.Proofs.YtidajgkepdkcbaaGreatDoorW.PrintMore PF PL
def wb (s : Bool) : UInt8 := if s then 76 else 82
def wayT (l : List Bool) : ByteArray := ⟨(l.map wb).toArray⟩
def Nd.Pos (t : Nd) : Prop := 0 ≤ t.a ∧ 0 ≤ t.b ∧ 0 ≤ t.x ∧ 0 ≤ t.y
theorem Nd.Pos.go {t : Nd} (h : t.Pos) (s : Bool) : (t.go s).Pos := by
 obtain ⟨h1, h2, h3, h4⟩ := h
 cases s <;> (simp only [Nd.go, Nd.Pos]; simp; omega)
theorem Nd.root_pos : Nd.root.Pos := by simp [Nd.root, Nd.Pos]
theorem Nd.grow : ∀ (l : List Bool) (t : Nd), t.Pos → t.a + t.x ≤ (t.walk l).a + (t.walk l).x ∧ t.b + t.y ≤ (t.walk l).b + (t.walk l).y
 | [], _, _ => ⟨Int.le_refl _, Int.le_refl _⟩
 | s :: l, t, h => by
  have ih := Nd.grow l (t.go s) (h.go s)
  have e : t.walk (s :: l) = (t.go s).walk l := rfl
  rw [e]
  obtain ⟨h1, h2, h3, h4⟩ := h
  have : t.a + t.x ≤ (t.go s).a + (t.go s).x ∧ t.b + t.y ≤ (t.go s).b + (t.go s).y := by
   cases s <;> (simp only [Nd.go]; simp; omega)
  omega
theorem atl_T (k : Nat) : ∀ (l : List Bool) (t : Nd), t.Pos → (t.walk l).a + (t.walk l).x < 10000000000000000 → (t.walk l).b + (t.walk l).y < 10000000000000000 →
  atl k (l.map wb) (T t.a) (T t.b) (T t.x) (T t.y) = some (T (t.walk l).a, T (t.walk l).b, T (t.walk l).x, T (t.walk l).y)
 | [], _, _, _, _ => rfl
 | s :: l, t, h, h1, h2 => by
  obtain ⟨g1, g2⟩ := Nd.grow (s :: l) t h
  have ih := atl_T k l (t.go s) (h.go s) h1 h2
  obtain ⟨p1, p2, p3, p4⟩ := h
  have e : t.walk (s :: l) = (t.go s).walk l := rfl
  rw [e, ← ih, List.map_cons, atl, Add_T (by unfold S17; omega) (by unfold S17; omega), Option.bind_some, Add_T (by unfold S17; omega) (by unfold S17; omega), Option.bind_some]
  cases s
  ·rw [if_neg (by decide)]; rfl
  ·rw [if_pos (by decide)]; rfl
theorem At_T (l : List Bool) (hl : l.length ≤ 1000) (h1 : (Nd.root.walk l).a + (Nd.root.walk l).x < 10000000000000000) (h2 : (Nd.root.walk l).b + (Nd.root.walk l).y < 10000000000000000) :
  Ev (fun k => convergent_At.f k (wayT l)) ((fr ((Nd.root.walk l).a + (Nd.root.walk l).x) ((Nd.root.walk l).b + (Nd.root.walk l).y)).1, (fr ((Nd.root.walk l).a + (Nd.root.walk l).x) ((Nd.root.walk l).b + (Nd.root.walk l).y)).2, 0) := by
 have hsz : (wayT l).size = l.length := by simp [wayT, ByteArray.size]
 have hda : (wayT l).data.toList = l.map wb := by simp [wayT]
 unfold convergent_At.f
 have hp : (Nd.root.walk l).Pos := by
  have : ∀ (l : List Bool) (t : Nd), t.Pos → (t.walk l).Pos := by
   intro l
   induction l with
   | nil => intro t h; exact h
   | cons s l ih => intro t h; exact ih _ (h.go s)
  exact this l _ Nd.root_pos
 have hg := Nd.grow l _ Nd.root_pos
 have hb : 0 < (Nd.root.walk l).b + (Nd.root.walk l).y := by
  have : Nd.root.b + Nd.root.y = 1 := rfl
  omega
 have ht : Lib.trimS (l.map wb) [76, 82] = [] := trimS_nil.2 fun x hx => by
  obtain ⟨s, _, rfl⟩ := List.mem_map.1 hx
  cases s <;> decide
 have ha := fun k => atl_T k l Nd.root Nd.root_pos h1 h2
 rw [show T Nd.root.a = ⟨#[48]⟩ from lit0.symm, show T Nd.root.b = ⟨#[49]⟩ from lit1.symm, show T Nd.root.x = ⟨#[49]⟩ from lit1.symm, show T Nd.root.y = ⟨#[48]⟩ from lit0.symm] at ha
 refine Ev.congr (fun k => by rw [if_neg (by omega), hda, if_neg (by simp [ht])]) ?_
 obtain ⟨p1, p2, p3, p4⟩ := hp
 refine Ev.bind (ev_const ha) ?_
 refine Ev.bind (ev_const fun k => Add_T (by unfold S17; omega) (by unfold S17; omega) k) ?_
 refine Ev.bind (ev_const fun k => Add_T (by unfold S17; omega) (by unfold S17; omega) k) ?_
 exact Ev.bind (Over_T (by unfold S17; omega) (by unfold S17; omega) hb) (ev_const fun _ => rfl)
theorem RAt_go (l : List Bool) : ∀ (m j : Nat) (t : Nd), l.length = j + m → t.Pos → (t.walk (l.drop j)).a + (t.walk (l.drop j)).x < 10000000000000000 → (t.walk (l.drop j)).b + (t.walk (l.drop j)).y < 10000000000000000 → 0 < t.b + t.y → l.length ≤ 1000 →
  Ev (fun k => schismaref04_At.l0 k (wayT l) t.a t.b t.x t.y (j : Int)) (fr ((t.walk (l.drop j)).a + (t.walk (l.drop j)).x) ((t.walk (l.drop j)).b + (t.walk (l.drop j)).y))
 | 0, j, t, hm, hp, h1, h2, h3, hl => by
  have e : l.drop j = [] := List.drop_eq_nil_of_le (by omega)
  rw [e] at h1 h2 ⊢
  have hsz : (wayT l).size = l.length := by simp [wayT, ByteArray.size]
  obtain ⟨p1, p2, p3, p4⟩ := hp
  simp only [Nd.walk, List.foldl_nil] at h1 h2 ⊢
  refine Ev.step (fun k => by rw [schismaref04_At.l0, if_neg (by omega), w64 (by omega) (by omega), w64 (by omega) (by omega)]) ?_
  exact Ev.bind (RMake (by omega) h3 (by omega)) (ev_const fun _ => rfl)
 | m + 1, j, t, hm, hp, h1, h2, h3, hl => by
  have hj : j < l.length := by omega
  have hd : l.drop j = l[j] :: l.drop (j + 1) := List.drop_eq_getElem_cons hj
  have hsz : (wayT l).size = l.length := by simp [wayT, ByteArray.size]
  obtain ⟨g1, g2⟩ := Nd.grow (l.drop j) t hp
  have e : t.walk (l.drop j) = (t.go l[j]).walk (l.drop (j + 1)) := by rw [hd]; rfl
  have hbt : bt (wayT l) (j : Int) = ((wb l[j]).toNat : Int) := by
   unfold bt
   rw [dif_pos (by rw [hsz]; exact hj)]
   simp [wayT, ByteArray.getElem_eq_getElem_data]
  rw [e] at g1 g2 h1 h2 ⊢
  have h3' : 0 < (t.go l[j]).b + (t.go l[j]).y := by
   obtain ⟨p1, p2, p3, p4⟩ := hp
   cases l[j] <;> (simp only [Nd.go]; simp; omega)
  have ih := RAt_go l m (j + 1) (t.go l[j]) (by omega) (hp.go _) h1 h2 h3' hl
  obtain ⟨p1, p2, p3, p4⟩ := hp
  refine Ev.step (fun k => by rw [schismaref04_At.l0, if_pos (by omega), if_pos (by omega), hbt, w64 (x := (j : Int) + 1) (by omega) (by omega), w64 (x := t.a + t.x) (by omega) (by omega), w64 (x := t.b + t.y) (by omega) (by omega)]) ?_
  cases hs : l[j] with
  | false => rw [hs] at ih; exact Ev.congr (fun k => if_neg (by decide)) ih
  | true => rw [hs] at ih; exact Ev.congr (fun k => if_pos rfl) ih
theorem RAt_T (l : List Bool) (hl : l.length ≤ 1000) (h1 : (Nd.root.walk l).a + (Nd.root.walk l).x < 10000000000000000) (h2 : (Nd.root.walk l).b + (Nd.root.walk l).y < 10000000000000000) :
  Ev (fun k => schismaref04_At.f k (wayT l)) (fr ((Nd.root.walk l).a + (Nd.root.walk l).x) ((Nd.root.walk l).b + (Nd.root.walk l).y)) :=
 RAt_go l l.length 0 Nd.root (by omega) Nd.root_pos h1 h2 (by decide) hl
end Go.Proofs.YtidajgkepdkcbaaGreatDoor
end
section
namespace Go.Proofs.YtidajgkepdkcbaaGreatDoor.PL
open Go.RowKit Go.Proofs.YtidajgkepdkcbaaGreatDoorW.PrintWords Go.Proofs.YtidajgkepdkcbaaGreatDoorW.PrintLast Go.Proofs.YtidajgkepdkcbaaGreatDoorW.PrintMore Go.Proofs.YtidajgkepdkcbaaGreatDoor.PF
attribute [local go_sem] max2_int min2_int max_two min_two max_three min_three max_four min_four
attribute [local go_sem high] eqA24
mutual
noncomputable def schismalaw04_ConvergentWays.j0 : Nat → ByteArray → Bool → Option (Bool)
 | 0, _, _ => none
 | k + 1, x0, x17 => if x17 = true then ((schismalaw04_known.f k).bind fun t102 => (some t102)) else (schismalaw04_ConvergentWays.l0 k x0 0 0)
noncomputable def schismalaw04_ConvergentWays.l0 : Nat → ByteArray → Int → Int → Option (Bool)
 | 0, _, _, _ => none
 | k + 1, x0, x3, x4 => if x4 < (x0.size : Int) then (if 0 ≤ x4 then (if (bt x0 x4) = 76 then (schismalaw04_ConvergentWays.l0 k x0 x3 (wrap64 (x4 + 1))) else (if (bt x0 x4) = 82 then (schismalaw04_ConvergentWays.l0 k x0 x3 (wrap64 (x4 + 1))) else (schismalaw04_ConvergentWays.l0 k x0 15 (wrap64 (x4 + 1))))) else (none)) else ((convergent_At.f k x0).bind fun bt103 => (if x3 = 0 then ((schismaref04_At.f k x0).bind fun bt107 => (if (!(bt103.1.toList == bt107.1.toList) || (!(bt103.2.1.toList == bt107.2.toList))) = true then (schismalaw04_ConvergentWays.j2 k x0 true) else (if bt103.2.2 = 0 then (schismalaw04_ConvergentWays.j2 k x0 false) else (schismalaw04_ConvergentWays.j2 k x0 true)))) else ((schismalaw04_none.f bt103.1 bt103.2.1).bind fun t109 => (if t109 = true then (schismalaw04_ConvergentWays.j2 k x0 (bt103.2.2 != x3)) else (schismalaw04_ConvergentWays.j2 k x0 true)))))
noncomputable def schismalaw04_ConvergentWays.j2 : Nat → ByteArray → Bool → Option (Bool)
 | 0, _, _ => none
 | k + 1, x0, x65 => if x65 = true then (some false) else (schismalaw04_ConvergentWays.l1 k x0 (⟨#[]⟩ : ByteArray) 0)
noncomputable def schismalaw04_ConvergentWays.l1 : Nat → ByteArray → ByteArray → Int → Option (Bool)
 | 0, _, _, _ => none
 | k + 1, x0, x7, x8 => if x8 < 40 then (if x7.size + x0.size ≤ 9223372036854775807 then (schismalaw04_ConvergentWays.l1 k x0 (x7 ++ x0) (wrap64 (x8 + 1))) else (none)) else (if (x7.size : Int) > 1000 then ((convergent_At.f k x7).bind fun bt110 => ((schismalaw04_none.f bt110.1 bt110.2.1).bind fun t114 => (if t114 = true then (some (bt110.2.2 == 16)) else (some false)))) else (some true))
end
noncomputable def schismalaw04_ConvergentWays.f (k : Nat) (a0 : ByteArray) : Option (Bool) := (schismalaw04_known.f k).bind fun t101 => (if t101 = true then (schismalaw04_ConvergentWays.j0 k a0 (decide ((a0.size : Int) > 30))) else (schismalaw04_ConvergentWays.j0 k a0 true))
noncomputable def schismalaw04_ConvergentWays.T10 : Bool × List (List Nat × List Nat) := (true, [([], []), ([0], [0]), ([1], [1]), ([2], [2]), ([2], [2]), ([4, 2, 2], [2, 4]), ([3, 5, 2], [2, 3, 5]), ([6, 5, 2], [2, 6]), ([7], [7]), ([8, 7], [7, 8]), ([7, 9, 2], [2, 7, 9]), ([2, 10], [2, 10]), ([11, 7], [11]), ([12], [12]), ([13, 12], [12, 13]), ([14, 12, 12], [12, 14]), ([15], [15]), ([16, 15, 15], [15, 16]), ([17, 15], [15, 17]), ([18, 17, 15], [15, 18]), ([19], [19]), ([19], [19]), ([20, 21, 19], [19, 20, 21]), ([19, 22, 15], [15, 19, 22]), ([15, 23, 12], [12, 15, 23]), ([12, 24], [12, 24])])
noncomputable def schismalaw04_ConvergentWays.B10 : List Nat := [0, 1, 3, 7, 7, 23, 63, 127, 255, 511, 1023, 2047, 4095, 8191, 16383, 32767, 65535, 131071, 262143, 524287, 1048575, 1048575, 4194303, 8388607, 16777215, 33554431]
theorem schismalaw04_ConvergentWays.tab10 : rtab .any (opsOf Tryz.f10 10) = schismalaw04_ConvergentWays.T10 := by kernel_rfl
theorem schismalaw04_ConvergentWays.bits10 : waitsOk schismalaw04_ConvergentWays.T10.2 schismalaw04_ConvergentWays.B10 = true := by kernel_rfl
set_option maxHeartbeats 8000000 in
set_option maxRecDepth 100000 in
theorem schismalaw04_ConvergentWays.calls (k : Nat) (a0 : ByteArray) (r : Bool) (w : World) (hG_ : GWorld w) (h : schismalaw04_ConvergentWays.f k a0 = some r) :
  Calls Tryz.prog 10 #[.string a0] w fun e w' => e = .returned (.bool r) ∧ Below w.heap.size w w' := by
 have hu24 := Tryz.underlying24
 have HB := Aside0.mk (Below.refl w.heap.size w)
 have HG := Aside0.mk hG_
 clear hG_
 have H : ((schismalaw04_known.f k).bind fun t101 => (if t101 = true then (schismalaw04_ConvergentWays.j0 k a0 (decide ((a0.size : Int) > 30))) else (schismalaw04_ConvergentWays.j0 k a0 true))) = some r := h
 clear h
 have HC2 := Aside0.mk H
 clear H
 go_enter Tryz.func10, Tryz.ntmps10
 go_upto_region 1 with (fail)
 go_cut [17] (fun v17 wc => ∃ (kq : Nat) (x17_1 : Bool), v17 = .bool x17_1 ∧ Aside0 (schismalaw04_ConvergentWays.j0 kq a0 x17_1 = some r) ∧ Aside0 (kq ≤ k) ∧ Aside0 (Below w.heap.size w wc))
 case first =>
  have H := HC2.out
  clear HC2
  replace H := Option.bind_eq_some_iff.mp H
  obtain ⟨t101, A30, H⟩ := H
  replace H : (if t101 = true then (schismalaw04_ConvergentWays.j0 k a0 (decide ((a0.size : Int) > 30))) else (schismalaw04_ConvergentWays.j0 k a0 true)) = some r := H
  have A3 := Aside0.mk A30
  clear A30
  by_cases c4 : t101 = true
  ·subst c4
   have H1 : (schismalaw04_ConvergentWays.j0 k a0 (decide ((a0.size : Int) > 30))) = some r := by rw [if_pos rfl] at H; exact H
   clear H
   have H := H1
   clear H1
   have H' := Aside0.mk H
   clear H
   go_wp2_with (first | ((with_reducible refine gate_callee (f := 13) rfl ?_); refine goesL_ (some 11) rfl rfl Tryz.func13 (by kernel_rfl) rfl #[] rfl mp_ ?_; (with_reducible refine (schismalaw04_known.calls k  true _ ?side1 A3.out).mono ?_); (case side1 => exact gw_ HG); rintro e w5 ⟨rfl, hb⟩; refine ⟨_, rfl, ?_⟩; replace HB := bs_ hb; (try clear hb); (try clear hb2); (try clear hk); (try clear hi)))
   go_meet
   case rel => exact ⟨_, (decide ((a0.size : Int) > 30)), (by first | rfl | (simp; done) | (simp [*]; done)), H', ⟨by first | omega | exact Nat.le_refl _⟩, ⟨bl_⟩⟩
  ·replace c4 := Bool.eq_false_iff.mpr c4
   subst c4
   have H1 : (schismalaw04_ConvergentWays.j0 k a0 true) = some r := by rw [if_neg (show ¬ (false = true) by decide)] at H; exact H
   clear H
   have H := H1
   clear H1
   have H' := Aside0.mk H
   clear H
   go_wp2_with (first | ((with_reducible refine gate_callee (f := 13) rfl ?_); refine goesL_ (some 11) rfl rfl Tryz.func13 (by kernel_rfl) rfl #[] rfl mp_ ?_; (with_reducible refine (schismalaw04_known.calls k  false _ ?side1 A3.out).mono ?_); (case side1 => exact gw_ HG); rintro e w6 ⟨rfl, hb⟩; refine ⟨_, rfl, ?_⟩; replace HB := bs_ hb; (try clear hb); (try clear hb2); (try clear hk); (try clear hi)))
   go_meet
   case rel => exact ⟨_, (true), (by first | rfl | (simp; done) | (simp [*]; done)), H', ⟨by first | omega | exact Nat.le_refl _⟩, ⟨bl_⟩⟩
 case rest =>
  clear HC2
  try clear c1
  try clear p2
  try clear c4
  obtain ⟨kq, x17_1, rfl, HA, HJ1, HB⟩ := hcut
  cases kq with
  | zero => exact absurd HA.out (by simp [schismalaw04_ConvergentWays.j0])
  | succ kj1 =>
   have H := HA.out
   clear HA
   simp only [schismalaw04_ConvergentWays.j0] at H
   by_cases c7 : x17_1 = true
   ·subst c7
    have H1 : ((schismalaw04_known.f kj1).bind fun t102 => (some t102)) = some r := by rw [if_pos rfl] at H; exact H
    clear H
    have H := H1
    clear H1
    replace H := Option.bind_eq_some_iff.mp H
    obtain ⟨t102, A80, H⟩ := H
    replace H : (some t102) = some r := H
    have A8 := Aside0.mk A80
    clear A80
    obtain rfl := Option.some.inj H
    go_wp2_with (first | ((with_reducible refine gate_callee (f := 13) rfl ?_); refine goesL_ (some 18) rfl rfl Tryz.func13 (by kernel_rfl) rfl #[] rfl mp_ ?_; (with_reducible refine (schismalaw04_known.calls kj1  t102 _ ?side1 A8.out).mono ?_); (case side1 => exact gw_ HG); rintro e w9 ⟨rfl, hb⟩; refine ⟨_, rfl, ?_⟩; replace HB := bs_ hb; (try clear hb); (try clear hb2); (try clear hk); (try clear hi)))
    go_ret
    exact ⟨er_, bl_⟩
   ·replace c7 := Bool.eq_false_iff.mpr c7
    subst c7
    have H1 : (schismalaw04_ConvergentWays.l0 kj1 a0 0 0) = some r := by rw [if_neg (show ¬ (false = true) by decide)] at H; exact H
    clear H
    have H := H1
    clear H1
    have H' := Aside0.mk H
    clear H
    go_wp2
    go_loopg [3, 4] kj1 (fun kq v3 v4 w' => ∃ (x3_2 : Int) (x4_2 : Int), v3 = .int .i64 x3_2 ∧ v4 = .int .i64 x4_2 ∧ Aside0 (schismalaw04_ConvergentWays.l0 kq a0 x3_2 x4_2 = some r) ∧ Aside0 (kq ≤ kj1) ∧ Aside0 (Below w.heap.size w w'))
    case atStart => exact ⟨(0), (0), (by first | rfl | (simp; done) | (simp [*]; done)), (by first | rfl | (simp; done) | (simp [*]; done)), H', ⟨Nat.le_refl _⟩, ⟨bl_⟩⟩
    case round =>
     clear H'
     try clear c1
     try clear p2
     try clear c4
     try clear c7
     try clear p2
     obtain ⟨x3_2, x4_2, rfl, rfl, HA, HK2, HB⟩ := hrel
     cases gk with
     | zero => exact absurd HA.out (by simp [schismalaw04_ConvergentWays.l0])
     | succ k2 =>
      have H := HA.out
      clear HA
      simp only [schismalaw04_ConvergentWays.l0] at H
      by_cases c10 : x4_2 < (a0.size : Int)
      ·rw [if_pos c10] at H
       have c10b0 : decide (x4_2 < (a0.size : Int)) = true := decide_eq_true c10
       clear c10
       by_cases c11 : 0 ≤ x4_2
       ·rw [if_pos c11] at H
        have c11b0 : decide (0 ≤ x4_2) = true := decide_eq_true c11
        clear c11
        by_cases c13 : (bt a0 x4_2) = 76
        ·rw [if_pos c13] at H
         have c13b0 : ((bt a0 x4_2) == 76) = true := beq_iff_eq.mpr c13
         have c13b1 : ((bt a0 x4_2) != 76) = false := bne_eq_false_iff_eq.mpr c13
         clear c13
         have H' := Aside0.mk H
         clear H
         have p12 : 0 ≤ (x4_2 : Int) := of_decide_eq_true (by first | (with_reducible assumption) | assumption)
         have q12 : x4_2 < (a0.size : Int) := of_decide_eq_true (by first | (with_reducible assumption) | assumption)
         have hx12 := bt_at a0 x4_2
         replace p12 := eq_true p12
         replace q12 := eq_true q12
         go_wp2
         go_roundg k2
         case measure => have := HJ1.out; have := HK2.out; omega
         case rel => exact ⟨(x3_2), (wrap64 (x4_2 + 1)), (by first | rfl | (simp; done) | (simp [*]; done)), (by first | rfl | (simp; done) | (simp [*]; done)), H', ⟨by have := HJ1.out; have := HK2.out; omega⟩, ⟨bl_⟩⟩
        ·rw [if_neg c13] at H
         have c13b0 : ((bt a0 x4_2) == 76) = false := beq_eq_false_iff_ne.mpr c13
         have c13b1 : ((bt a0 x4_2) != 76) = true := bne_iff_ne.mpr c13
         by_cases c15 : (bt a0 x4_2) = 82
         ·rw [if_pos c15] at H
          have c15b0 : ((bt a0 x4_2) == 82) = true := beq_iff_eq.mpr c15
          have c15b1 : ((bt a0 x4_2) != 82) = false := bne_eq_false_iff_eq.mpr c15
          clear c15
          have H' := Aside0.mk H
          clear H
          have p12 : 0 ≤ (x4_2 : Int) := of_decide_eq_true (by first | (with_reducible assumption) | assumption)
          have q12 : x4_2 < (a0.size : Int) := of_decide_eq_true (by first | (with_reducible assumption) | assumption)
          have hx12 := bt_at a0 x4_2
          replace p12 := eq_true p12
          replace q12 := eq_true q12
          have p14 : 0 ≤ (x4_2 : Int) := of_decide_eq_true (by first | (with_reducible assumption) | assumption)
          have q14 : x4_2 < (a0.size : Int) := of_decide_eq_true (by first | (with_reducible assumption) | assumption)
          have hx14 := bt_at a0 x4_2
          replace p14 := eq_true p14
          replace q14 := eq_true q14
          go_wp2
          go_roundg k2
          case measure => have := HJ1.out; have := HK2.out; omega
          case rel => exact ⟨(x3_2), (wrap64 (x4_2 + 1)), (by first | rfl | (simp; done) | (simp [*]; done)), (by first | rfl | (simp; done) | (simp [*]; done)), H', ⟨by have := HJ1.out; have := HK2.out; omega⟩, ⟨bl_⟩⟩
         ·rw [if_neg c15] at H
          have c15b0 : ((bt a0 x4_2) == 82) = false := beq_eq_false_iff_ne.mpr c15
          have c15b1 : ((bt a0 x4_2) != 82) = true := bne_iff_ne.mpr c15
          have H' := Aside0.mk H
          clear H
          have p12 : 0 ≤ (x4_2 : Int) := of_decide_eq_true (by first | (with_reducible assumption) | assumption)
          have q12 : x4_2 < (a0.size : Int) := of_decide_eq_true (by first | (with_reducible assumption) | assumption)
          have hx12 := bt_at a0 x4_2
          replace p12 := eq_true p12
          replace q12 := eq_true q12
          have p14 : 0 ≤ (x4_2 : Int) := of_decide_eq_true (by first | (with_reducible assumption) | assumption)
          have q14 : x4_2 < (a0.size : Int) := of_decide_eq_true (by first | (with_reducible assumption) | assumption)
          have hx14 := bt_at a0 x4_2
          replace p14 := eq_true p14
          replace q14 := eq_true q14
          go_wp2
          go_roundg k2
          case measure => have := HJ1.out; have := HK2.out; omega
          case rel => exact ⟨(15), (wrap64 (x4_2 + 1)), (by first | rfl | (simp; done) | (simp [*]; done)), (by first | rfl | (simp; done) | (simp [*]; done)), H', ⟨by have := HJ1.out; have := HK2.out; omega⟩, ⟨bl_⟩⟩
       ·rw [if_neg c11] at H
        exact absurd H (by simp)
      ·rw [if_neg c10] at H
       have c10b0 : decide (x4_2 < (a0.size : Int)) = false := decide_eq_false c10
       clear c10
       replace H := Option.bind_eq_some_iff.mp H
       obtain ⟨⟨t103, t104, t105⟩, A160, H⟩ := H
       replace H : (if x3_2 = 0 then ((schismaref04_At.f k2 a0).bind fun bt107 => (if (!(t103.toList == bt107.1.toList) || (!(t104.toList == bt107.2.toList))) = true then (schismalaw04_ConvergentWays.j2 k2 a0 true) else (if t105 = 0 then (schismalaw04_ConvergentWays.j2 k2 a0 false) else (schismalaw04_ConvergentWays.j2 k2 a0 true)))) else ((schismalaw04_none.f t103 t104).bind fun t109 => (if t109 = true then (schismalaw04_ConvergentWays.j2 k2 a0 (t105 != x3_2)) else (schismalaw04_ConvergentWays.j2 k2 a0 true)))) = some r := H
       have A16 := Aside0.mk A160
       clear A160
       have HC17 := Aside0.mk H
       clear H
       go_upto_region 10 with (first | ((with_reducible refine gate_callee (f := 33) rfl ?_); refine goesL_ (some 37) rfl rfl Tryz.func33 (by kernel_rfl) rfl #[.string a0] rfl mp_ ?_; (with_reducible refine (convergent_At.calls k2 a0 t103 t104 t105 _ ?side1 A16.out).mono ?_); (case side1 => exact gw_ HG); rintro e w18 ⟨rfl, hb⟩; refine ⟨_, rfl, ?_⟩; replace HB := bs_ hb; (try clear hb); (try clear hb2); (try clear hk); (try clear hi)) | ((with_reducible refine gate_dst (N := 5) rfl ?_); (try (refine gate_guard (by rfl) ?_; dsimp only)); refine bx_ 5 #[.string (⟨#[]⟩ : ByteArray), .string (⟨#[]⟩ : ByteArray)] 24 ?_; clear HB; intro gb106 w19 BK106 GW106 HB; have GE106 := GW106; obtain ⟨hcz20_0, hcz20_1, hfz20_0, hfz20_1⟩ := c2_ BK106))
       (try simp only [Act.put, List.setIfInBounds_toArray, List.set_cons_zero, List.set_cons_succ])
       go_cut [65] (fun v65 wc => ∃ (kq : Nat) (x65_16 : Bool), v65 = .bool x65_16 ∧ Aside0 (schismalaw04_ConvergentWays.j2 kq a0 x65_16 = some r) ∧ Aside0 (kq ≤ k2) ∧ Aside0 (wc.heap[gb106]? = some (.cells #[.string t103, .string t104] 24 (0, 0))) ∧ Aside0 (Below w.heap.size w wc))
       case first =>
        have H := HC17.out
        clear HC17
        by_cases c21 : x3_2 = 0
        ·rw [if_pos c21] at H
         have c21b0 : (x3_2 == 0) = true := beq_iff_eq.mpr c21
         have c21b1 : (x3_2 != 0) = false := bne_eq_false_iff_eq.mpr c21
         clear c21
         (first | rw [c21b0] | (simp only [i64_w, i32_w]; rw [c21b0]) | skip)
         replace H := Option.bind_eq_some_iff.mp H
         obtain ⟨⟨t107, t108⟩, A220, H⟩ := H
         replace H : (if (!(t103.toList == t107.toList) || (!(t104.toList == t108.toList))) = true then (schismalaw04_ConvergentWays.j2 k2 a0 true) else (if t105 = 0 then (schismalaw04_ConvergentWays.j2 k2 a0 false) else (schismalaw04_ConvergentWays.j2 k2 a0 true))) = some r := H
         have A22 := Aside0.mk A220
         clear A220
         by_cases c23 : (!(t103.toList == t107.toList) || (!(t104.toList == t108.toList))) = true
         ·rw [if_pos c23] at H
          have c23b0 : (!(t103.toList == t107.toList) || (!(t104.toList == t108.toList))) = true := c23
          clear c23
          have H' := Aside0.mk H
          clear H
          try go_wp2
          have n0_ : Aside0 (((w19.setCell ⟨gb106, 0, none⟩ (.string t103)).setCell ⟨gb106, 1, none⟩ (.string t104)).heap[gb106]? = some (.cells #[.string t103, .string t104] 24 (0, 0))) := ⟨by (with_reducible repeat (first | refine blk_drewN ?_ _ | refine blk_drew ?_ | refine blk_alloc ?_ _)); refine blk_put (cs := #[.string t103, .string (⟨#[]⟩ : ByteArray)]) ?_ 1 _ rfl; (with_reducible repeat (first | refine blk_drewN ?_ _ | refine blk_drew ?_ | refine blk_alloc ?_ _)); refine blk_put (cs := #[.string (⟨#[]⟩ : ByteArray), .string (⟨#[]⟩ : ByteArray)]) ?_ 0 _ rfl; (with_reducible repeat (first | refine blk_drewN ?_ _ | refine blk_drew ?_ | refine blk_alloc ?_ _)); exact BK106.out⟩
          have n1_ : Aside0 (Below w.heap.size w ((w19.setCell ⟨gb106, 0, none⟩ (.string t103)).setCell ⟨gb106, 1, none⟩ (.string t104))) := ⟨bl_⟩
          (try clear BK106); (try clear HB)
          generalize ((w19.setCell ⟨gb106, 0, none⟩ (.string t103)).setCell ⟨gb106, 1, none⟩ (.string t104)) = w24 at n0_ n1_ ⊢
          have BK106 := n0_
          have HB := n1_
          clear n0_ n1_
          have n0_ := Aside0.mk (blk_drew BK106.out)
          have n1_ := Aside0.mk (below_drew1 HB.out)
          clear BK106
          clear HB
          have BK106 := n0_
          have HB := n1_
          clear n0_ n1_
          refine start_ (n := 26) (S := fun w' => w'.cell? ⟨gb106, 0, none⟩ = some (.string t103) ∧ w'.cell? ⟨gb106, 1, none⟩ = some (.string t104)) (ds := []) #[false, false, false, false, false, false, false, false, false, false, false, false, false, false, false, false, false, false, false, false, false, false, false, false, false, false] (by kernel_rfl) rfl rfl ⟨(blk_cell BK106.out 0).trans rfl, (blk_cell BK106.out 1).trans rfl⟩ (fun hHeld => ?_); refine with_tabW schismalaw04_ConvergentWays.tab10 schismalaw04_ConvergentWays.bits10 (fun HT_ HW_ => ?_)
          generalize w24.drew = w25 at BK106 HB hHeld ⊢
          refine pure_ (i := 0) (N := some 40) (v := ?_) (a' := ?_) #[true, false, false, false, false, false, false, false, false, false, false, false, false, false, false, false, false, false, false, false, false, false, false, false, false, false] rfl rfl (any_of HT_.out (by kernel_rfl)) (fun _ _ _ h => h) (Or.inl ⟨by rfl, ?_⟩) ?_ ?_
          rotate_left
          ·intro w'
           go_simp
           with_reducible rfl
          rotate_left
          ·simp only [Act.put, List.setIfInBounds_toArray, List.set_cons_zero, List.set_cons_succ, i64_w, i32_w]
           rfl
          refine pure_ (i := 1) (N := some 41) (v := ?_) (a' := ?_) #[true, true, false, false, false, false, false, false, false, false, false, false, false, false, false, false, false, false, false, false, false, false, false, false, false, false] rfl rfl (any_of HT_.out (by kernel_rfl)) (fun _ _ _ h => h) (Or.inl ⟨by rfl, ?_⟩) ?_ ?_
          rotate_left
          ·intro w'
           go_simp
           with_reducible rfl
          rotate_left
          ·simp only [Act.put, List.setIfInBounds_toArray, List.set_cons_zero, List.set_cons_succ, i64_w, i32_w]
           rfl
          refine pure_ (i := 2) (N := some 42) (v := ?_) (a' := ?_) #[true, true, true, false, false, false, false, false, false, false, false, false, false, false, false, false, false, false, false, false, false, false, false, false, false, false] rfl rfl (any_of HT_.out (by kernel_rfl)) (fun _ _ _ h => h) (Or.inl ⟨by rfl, ?_⟩) ?_ ?_
          rotate_left
          ·intro w'
           go_simp
           with_reducible rfl
          rotate_left
          ·simp only [Act.put, List.setIfInBounds_toArray, List.set_cons_zero, List.set_cons_succ, i64_w, i32_w]
           rfl
          refine pure_ (i := 4) (N := some 44) (v := ?_) (a' := ?_) #[true, true, true, false, true, false, false, false, false, false, false, false, false, false, false, false, false, false, false, false, false, false, false, false, false, false] rfl rfl (any_of HT_.out (by kernel_rfl)) (fun _ _ _ h => h) (Or.inl ⟨by rfl, ?_⟩) ?_ ?_
          rotate_left
          ·intro w'
           go_simp
           with_reducible rfl
          rotate_left
          ·simp only [Act.put, List.setIfInBounds_toArray, List.set_cons_zero, List.set_cons_succ, i64_w, i32_w]
           rfl
          refine take_ (i := 3) (N := some 43) (v := ?_) (a' := ?_) #[true, true, true, true, true, false, false, false, false, false, false, false, false, false, false, false, false, false, false, false, false, false, false, false, false, false] rfl rfl (take_ofW HT_.out HW_.out (by kernel_rfl)) (fun _ _ _ h => h) (Or.inl ⟨by rfl, ?_⟩) hHeld ?_ ?_
          rotate_left
          ·rintro w' ⟨s0, s1⟩
           go_simp
           with_reducible rfl
          rotate_left
          ·simp only [Act.put, List.setIfInBounds_toArray, List.set_cons_zero, List.set_cons_succ, i64_w, i32_w]
           rfl
          refine one_ (i := 5) (N := some 45) #[true, true, true, true, true, true, false, false, false, false, false, false, false, false, false, false, false, false, false, false, false, false, false, false, false, false] rfl rfl (one_of HT_.out (by kernel_rfl)) (by decide) (fun K hK => ?_)
          refine goes_ Tryz.func37 (by kernel_rfl) rfl #[.string a0] (by rfl) rfl rfl mp_ ?_
          with_reducible refine (schismaref04_At.calls k2 a0 t107 t108 _ A22.out).mono ?_
          rintro e w26 ⟨rfl, hb⟩
          refine ⟨_, rfl, ?_⟩
          have n0_ := kb_ BK106 hb
          have n1_ := bs_ hb
          clear BK106
          clear HB
          have BK106 := n0_
          have HB := n1_
          clear n0_ n1_
          (try clear hb); (try clear hb2); (try clear hk); (try clear hi)
          refine hK.out _ _ ⟨(blk_cell BK106.out 0).trans rfl, (blk_cell BK106.out 1).trans rfl⟩ (fun hHeld => ?_)
          clear hK K
          refine norm_ (a' := ?_) ?_ ?_
          rotate_left
          ·show Act.put _ (some 45) _ = _
           simp only [Act.put, List.setIfInBounds_toArray, List.set_cons_zero, List.set_cons_succ, i64_w, i32_w]
           rfl
          refine pure_ (i := 6) (N := some 46) (v := ?_) (a' := ?_) #[true, true, true, true, true, true, true, false, false, false, false, false, false, false, false, false, false, false, false, false, false, false, false, false, false, false] rfl rfl (any_of HT_.out (by kernel_rfl)) (fun _ _ _ h => h) (Or.inl ⟨by rfl, ?_⟩) ?_ ?_
          rotate_left
          ·intro w'
           go_simp
           with_reducible rfl
          rotate_left
          ·simp only [Act.put, List.setIfInBounds_toArray, List.set_cons_zero, List.set_cons_succ, i64_w, i32_w]
           rfl
          refine pure_ (i := 7) (N := some 47) (v := ?_) (a' := ?_) #[true, true, true, true, true, true, true, true, false, false, false, false, false, false, false, false, false, false, false, false, false, false, false, false, false, false] rfl rfl (any_of HT_.out (by kernel_rfl)) (fun _ _ _ h => h) (Or.inl ⟨by rfl, ?_⟩) ?_ ?_
          rotate_left
          ·intro w'
           go_simp
           with_reducible rfl
          rotate_left
          ·simp only [Act.put, List.setIfInBounds_toArray, List.set_cons_zero, List.set_cons_succ, i64_w, i32_w]
           rfl
          refine pure_ (i := 8) (N := some 48) (v := undef) (a' := ?_) #[true, true, true, true, true, true, true, true, true, false, false, false, false, false, false, false, false, false, false, false, false, false, false, false, false, false] rfl rfl (any_of HT_.out (by kernel_rfl)) (fun _ _ _ h => h) (Or.inr ⟨by rfl, rfl⟩) ?_ ?_
          rotate_left
          ·simp only [Act.put, List.setIfInBounds_toArray, List.set_cons_zero, List.set_cons_succ, i64_w, i32_w]
           rfl
          refine pure_ (i := 9) (N := some 49) (v := undef) (a' := ?_) #[true, true, true, true, true, true, true, true, true, true, false, false, false, false, false, false, false, false, false, false, false, false, false, false, false, false] rfl rfl (any_of HT_.out (by kernel_rfl)) (fun _ _ _ h => h) (Or.inr ⟨by rfl, rfl⟩) ?_ ?_
          rotate_left
          ·simp only [Act.put, List.setIfInBounds_toArray, List.set_cons_zero, List.set_cons_succ, i64_w, i32_w]
           rfl
          refine pure_ (i := 10) (N := some 50) (v := ?_) (a' := ?_) #[true, true, true, true, true, true, true, true, true, true, true, false, false, false, false, false, false, false, false, false, false, false, false, false, false, false] rfl rfl (any_of HT_.out (by kernel_rfl)) (fun _ _ _ h => h) (Or.inl ⟨by rfl, ?_⟩) ?_ ?_
          rotate_left
          ·intro w'
           go_simp
           with_reducible rfl
          rotate_left
          ·simp only [Act.put, List.setIfInBounds_toArray, List.set_cons_zero, List.set_cons_succ, i64_w, i32_w]
           rfl
          refine pure_ (i := 11) (N := some 51) (v := ?_) (a' := ?_) #[true, true, true, true, true, true, true, true, true, true, true, true, false, false, false, false, false, false, false, false, false, false, false, false, false, false] rfl rfl (any_of HT_.out (by kernel_rfl)) (fun _ _ _ h => h) (Or.inl ⟨by rfl, ?_⟩) ?_ ?_
          rotate_left
          ·intro w'
           go_simp
           with_reducible rfl
          rotate_left
          ·simp only [Act.put, List.setIfInBounds_toArray, List.set_cons_zero, List.set_cons_succ, i64_w, i32_w]
           rfl
          refine pure_ (i := 12) (N := some 52) (v := ?_) (a' := ?_) #[true, true, true, true, true, true, true, true, true, true, true, true, true, false, false, false, false, false, false, false, false, false, false, false, false, false] rfl rfl (any_of HT_.out (by kernel_rfl)) (fun _ _ _ h => h) (Or.inl ⟨by rfl, ?_⟩) ?_ ?_
          rotate_left
          ·intro w'
           go_simp
           with_reducible rfl
          rotate_left
          ·simp only [Act.put, List.setIfInBounds_toArray, List.set_cons_zero, List.set_cons_succ, i64_w, i32_w]
           rfl
          refine pure_ (i := 13) (N := some 53) (v := undef) (a' := ?_) #[true, true, true, true, true, true, true, true, true, true, true, true, true, true, false, false, false, false, false, false, false, false, false, false, false, false] rfl rfl (any_of HT_.out (by kernel_rfl)) (fun _ _ _ h => h) (Or.inr ⟨by rfl, rfl⟩) ?_ ?_
          rotate_left
          ·simp only [Act.put, List.setIfInBounds_toArray, List.set_cons_zero, List.set_cons_succ, i64_w, i32_w]
           rfl
          refine pure_ (i := 14) (N := some 54) (v := undef) (a' := ?_) #[true, true, true, true, true, true, true, true, true, true, true, true, true, true, true, false, false, false, false, false, false, false, false, false, false, false] rfl rfl (any_of HT_.out (by kernel_rfl)) (fun _ _ _ h => h) (Or.inr ⟨by rfl, rfl⟩) ?_ ?_
          rotate_left
          ·simp only [Act.put, List.setIfInBounds_toArray, List.set_cons_zero, List.set_cons_succ, i64_w, i32_w]
           rfl
          refine pure_ (i := 15) (N := some 55) (v := undef) (a' := ?_) #[true, true, true, true, true, true, true, true, true, true, true, true, true, true, true, true, false, false, false, false, false, false, false, false, false, false] rfl rfl (any_of HT_.out (by kernel_rfl)) (fun _ _ _ h => h) (Or.inr ⟨by rfl, rfl⟩) ?_ ?_
          rotate_left
          ·simp only [Act.put, List.setIfInBounds_toArray, List.set_cons_zero, List.set_cons_succ, i64_w, i32_w]
           rfl
          refine pure_ (i := 16) (N := some 56) (v := undef) (a' := ?_) #[true, true, true, true, true, true, true, true, true, true, true, true, true, true, true, true, true, false, false, false, false, false, false, false, false, false] rfl rfl (any_of HT_.out (by kernel_rfl)) (fun _ _ _ h => h) (Or.inr ⟨by rfl, rfl⟩) ?_ ?_
          rotate_left
          ·simp only [Act.put, List.setIfInBounds_toArray, List.set_cons_zero, List.set_cons_succ, i64_w, i32_w]
           rfl
          refine pure_ (i := 17) (N := some 57) (v := undef) (a' := ?_) #[true, true, true, true, true, true, true, true, true, true, true, true, true, true, true, true, true, true, false, false, false, false, false, false, false, false] rfl rfl (any_of HT_.out (by kernel_rfl)) (fun _ _ _ h => h) (Or.inr ⟨by rfl, rfl⟩) ?_ ?_
          rotate_left
          ·simp only [Act.put, List.setIfInBounds_toArray, List.set_cons_zero, List.set_cons_succ, i64_w, i32_w]
           rfl
          refine pure_ (i := 18) (N := some 58) (v := undef) (a' := ?_) #[true, true, true, true, true, true, true, true, true, true, true, true, true, true, true, true, true, true, true, false, false, false, false, false, false, false] rfl rfl (any_of HT_.out (by kernel_rfl)) (fun _ _ _ h => h) (Or.inr ⟨by rfl, rfl⟩) ?_ ?_
          rotate_left
          ·simp only [Act.put, List.setIfInBounds_toArray, List.set_cons_zero, List.set_cons_succ, i64_w, i32_w]
           rfl
          refine pure_ (i := 19) (N := some 59) (v := undef) (a' := ?_) #[true, true, true, true, true, true, true, true, true, true, true, true, true, true, true, true, true, true, true, true, false, false, false, false, false, false] rfl rfl (any_of HT_.out (by kernel_rfl)) (fun _ _ _ h => h) (Or.inr ⟨by rfl, rfl⟩) ?_ ?_
          rotate_left
          ·simp only [Act.put, List.setIfInBounds_toArray, List.set_cons_zero, List.set_cons_succ, i64_w, i32_w]
           rfl
          refine pure_ (i := 20) (N := some 60) (v := undef) (a' := ?_) #[true, true, true, true, true, true, true, true, true, true, true, true, true, true, true, true, true, true, true, true, true, false, false, false, false, false] rfl rfl (any_of HT_.out (by kernel_rfl)) (fun _ _ _ h => h) (Or.inr ⟨by rfl, rfl⟩) ?_ ?_
          rotate_left
          ·simp only [Act.put, List.setIfInBounds_toArray, List.set_cons_zero, List.set_cons_succ, i64_w, i32_w]
           rfl
          refine pure_ (i := 21) (N := some 61) (v := undef) (a' := ?_) #[true, true, true, true, true, true, true, true, true, true, true, true, true, true, true, true, true, true, true, true, true, true, false, false, false, false] rfl rfl (any_of HT_.out (by kernel_rfl)) (fun _ _ _ h => h) (Or.inr ⟨by rfl, rfl⟩) ?_ ?_
          rotate_left
          ·simp only [Act.put, List.setIfInBounds_toArray, List.set_cons_zero, List.set_cons_succ, i64_w, i32_w]
           rfl
          refine pure_ (i := 22) (N := some 62) (v := undef) (a' := ?_) #[true, true, true, true, true, true, true, true, true, true, true, true, true, true, true, true, true, true, true, true, true, true, true, false, false, false] rfl rfl (any_of HT_.out (by kernel_rfl)) (fun _ _ _ h => h) (Or.inr ⟨by rfl, rfl⟩) ?_ ?_
          rotate_left
          ·simp only [Act.put, List.setIfInBounds_toArray, List.set_cons_zero, List.set_cons_succ, i64_w, i32_w]
           rfl
          refine pure_ (i := 23) (N := some 63) (v := undef) (a' := ?_) #[true, true, true, true, true, true, true, true, true, true, true, true, true, true, true, true, true, true, true, true, true, true, true, true, false, false] rfl rfl (any_of HT_.out (by kernel_rfl)) (fun _ _ _ h => h) (Or.inr ⟨by rfl, rfl⟩) ?_ ?_
          rotate_left
          ·simp only [Act.put, List.setIfInBounds_toArray, List.set_cons_zero, List.set_cons_succ, i64_w, i32_w]
           rfl
          refine pure_ (i := 24) (N := some 64) (v := undef) (a' := ?_) #[true, true, true, true, true, true, true, true, true, true, true, true, true, true, true, true, true, true, true, true, true, true, true, true, true, false] rfl rfl (any_of HT_.out (by kernel_rfl)) (fun _ _ _ h => h) (Or.inr ⟨by rfl, rfl⟩) ?_ ?_
          rotate_left
          ·simp only [Act.put, List.setIfInBounds_toArray, List.set_cons_zero, List.set_cons_succ, i64_w, i32_w]
           rfl
          refine pure_ (i := 25) (N := some 65) (v := ?_) (a' := ?_) #[true, true, true, true, true, true, true, true, true, true, true, true, true, true, true, true, true, true, true, true, true, true, true, true, true, true] rfl rfl (any_of HT_.out (by kernel_rfl)) (fun _ _ _ h => h) (Or.inl ⟨by rfl, ?_⟩) ?_ ?_
          rotate_left
          ·intro w'
           go_simp
           with_reducible rfl
          rotate_left
          ·simp only [Act.put, List.setIfInBounds_toArray, List.set_cons_zero, List.set_cons_succ, i64_w, i32_w]
           rfl
          refine done_ (done_of HT_.out (by kernel_rfl)) ?_
          try go_wp2
          go_meet
          case rel => exact ⟨_, (true), (by first | rfl | (simp; done) | (simp [*]; done)), H', ⟨by have := HJ1.out; have := HK2.out; first | omega | exact Nat.le_refl _⟩, ⟨bk_⟩, ⟨bl_⟩⟩
         ·rw [if_neg c23] at H
          have c23b0 : (!(t103.toList == t107.toList) || (!(t104.toList == t108.toList))) = false := by simpa using c23
          clear c23
          by_cases c27 : t105 = 0
          ·rw [if_pos c27] at H
           have c27b0 : (t105 == 0) = true := beq_iff_eq.mpr c27
           have c27b1 : (t105 != 0) = false := bne_eq_false_iff_eq.mpr c27
           clear c27
           have H' := Aside0.mk H
           clear H
           try go_wp2
           have n0_ : Aside0 (((w19.setCell ⟨gb106, 0, none⟩ (.string t103)).setCell ⟨gb106, 1, none⟩ (.string t104)).heap[gb106]? = some (.cells #[.string t103, .string t104] 24 (0, 0))) := ⟨by (with_reducible repeat (first | refine blk_drewN ?_ _ | refine blk_drew ?_ | refine blk_alloc ?_ _)); refine blk_put (cs := #[.string t103, .string (⟨#[]⟩ : ByteArray)]) ?_ 1 _ rfl; (with_reducible repeat (first | refine blk_drewN ?_ _ | refine blk_drew ?_ | refine blk_alloc ?_ _)); refine blk_put (cs := #[.string (⟨#[]⟩ : ByteArray), .string (⟨#[]⟩ : ByteArray)]) ?_ 0 _ rfl; (with_reducible repeat (first | refine blk_drewN ?_ _ | refine blk_drew ?_ | refine blk_alloc ?_ _)); exact BK106.out⟩
           have n1_ : Aside0 (Below w.heap.size w ((w19.setCell ⟨gb106, 0, none⟩ (.string t103)).setCell ⟨gb106, 1, none⟩ (.string t104))) := ⟨bl_⟩
           (try clear BK106); (try clear HB)
           generalize ((w19.setCell ⟨gb106, 0, none⟩ (.string t103)).setCell ⟨gb106, 1, none⟩ (.string t104)) = w28 at n0_ n1_ ⊢
           have BK106 := n0_
           have HB := n1_
           clear n0_ n1_
           have n0_ := Aside0.mk (blk_drew BK106.out)
           have n1_ := Aside0.mk (below_drew1 HB.out)
           clear BK106
           clear HB
           have BK106 := n0_
           have HB := n1_
           clear n0_ n1_
           refine start_ (n := 26) (S := fun w' => w'.cell? ⟨gb106, 0, none⟩ = some (.string t103) ∧ w'.cell? ⟨gb106, 1, none⟩ = some (.string t104)) (ds := []) #[false, false, false, false, false, false, false, false, false, false, false, false, false, false, false, false, false, false, false, false, false, false, false, false, false, false] (by kernel_rfl) rfl rfl ⟨(blk_cell BK106.out 0).trans rfl, (blk_cell BK106.out 1).trans rfl⟩ (fun hHeld => ?_); refine with_tabW schismalaw04_ConvergentWays.tab10 schismalaw04_ConvergentWays.bits10 (fun HT_ HW_ => ?_)
           generalize w28.drew = w29 at BK106 HB hHeld ⊢
           refine pure_ (i := 0) (N := some 40) (v := ?_) (a' := ?_) #[true, false, false, false, false, false, false, false, false, false, false, false, false, false, false, false, false, false, false, false, false, false, false, false, false, false] rfl rfl (any_of HT_.out (by kernel_rfl)) (fun _ _ _ h => h) (Or.inl ⟨by rfl, ?_⟩) ?_ ?_
           rotate_left
           ·intro w'
            go_simp
            with_reducible rfl
           rotate_left
           ·simp only [Act.put, List.setIfInBounds_toArray, List.set_cons_zero, List.set_cons_succ, i64_w, i32_w]
            rfl
           refine pure_ (i := 1) (N := some 41) (v := ?_) (a' := ?_) #[true, true, false, false, false, false, false, false, false, false, false, false, false, false, false, false, false, false, false, false, false, false, false, false, false, false] rfl rfl (any_of HT_.out (by kernel_rfl)) (fun _ _ _ h => h) (Or.inl ⟨by rfl, ?_⟩) ?_ ?_
           rotate_left
           ·intro w'
            go_simp
            with_reducible rfl
           rotate_left
           ·simp only [Act.put, List.setIfInBounds_toArray, List.set_cons_zero, List.set_cons_succ, i64_w, i32_w]
            rfl
           refine pure_ (i := 2) (N := some 42) (v := ?_) (a' := ?_) #[true, true, true, false, false, false, false, false, false, false, false, false, false, false, false, false, false, false, false, false, false, false, false, false, false, false] rfl rfl (any_of HT_.out (by kernel_rfl)) (fun _ _ _ h => h) (Or.inl ⟨by rfl, ?_⟩) ?_ ?_
           rotate_left
           ·intro w'
            go_simp
            with_reducible rfl
           rotate_left
           ·simp only [Act.put, List.setIfInBounds_toArray, List.set_cons_zero, List.set_cons_succ, i64_w, i32_w]
            rfl
           refine pure_ (i := 4) (N := some 44) (v := ?_) (a' := ?_) #[true, true, true, false, true, false, false, false, false, false, false, false, false, false, false, false, false, false, false, false, false, false, false, false, false, false] rfl rfl (any_of HT_.out (by kernel_rfl)) (fun _ _ _ h => h) (Or.inl ⟨by rfl, ?_⟩) ?_ ?_
           rotate_left
           ·intro w'
            go_simp
            with_reducible rfl
           rotate_left
           ·simp only [Act.put, List.setIfInBounds_toArray, List.set_cons_zero, List.set_cons_succ, i64_w, i32_w]
            rfl
           refine take_ (i := 3) (N := some 43) (v := ?_) (a' := ?_) #[true, true, true, true, true, false, false, false, false, false, false, false, false, false, false, false, false, false, false, false, false, false, false, false, false, false] rfl rfl (take_ofW HT_.out HW_.out (by kernel_rfl)) (fun _ _ _ h => h) (Or.inl ⟨by rfl, ?_⟩) hHeld ?_ ?_
           rotate_left
           ·rintro w' ⟨s0, s1⟩
            go_simp
            with_reducible rfl
           rotate_left
           ·simp only [Act.put, List.setIfInBounds_toArray, List.set_cons_zero, List.set_cons_succ, i64_w, i32_w]
            rfl
           refine one_ (i := 5) (N := some 45) #[true, true, true, true, true, true, false, false, false, false, false, false, false, false, false, false, false, false, false, false, false, false, false, false, false, false] rfl rfl (one_of HT_.out (by kernel_rfl)) (by decide) (fun K hK => ?_)
           refine goes_ Tryz.func37 (by kernel_rfl) rfl #[.string a0] (by rfl) rfl rfl mp_ ?_
           with_reducible refine (schismaref04_At.calls k2 a0 t107 t108 _ A22.out).mono ?_
           rintro e w30 ⟨rfl, hb⟩
           refine ⟨_, rfl, ?_⟩
           have n0_ := kb_ BK106 hb
           have n1_ := bs_ hb
           clear BK106
           clear HB
           have BK106 := n0_
           have HB := n1_
           clear n0_ n1_
           (try clear hb); (try clear hb2); (try clear hk); (try clear hi)
           refine hK.out _ _ ⟨(blk_cell BK106.out 0).trans rfl, (blk_cell BK106.out 1).trans rfl⟩ (fun hHeld => ?_)
           clear hK K
           refine norm_ (a' := ?_) ?_ ?_
           rotate_left
           ·show Act.put _ (some 45) _ = _
            simp only [Act.put, List.setIfInBounds_toArray, List.set_cons_zero, List.set_cons_succ, i64_w, i32_w]
            rfl
           refine pure_ (i := 6) (N := some 46) (v := ?_) (a' := ?_) #[true, true, true, true, true, true, true, false, false, false, false, false, false, false, false, false, false, false, false, false, false, false, false, false, false, false] rfl rfl (any_of HT_.out (by kernel_rfl)) (fun _ _ _ h => h) (Or.inl ⟨by rfl, ?_⟩) ?_ ?_
           rotate_left
           ·intro w'
            go_simp
            with_reducible rfl
           rotate_left
           ·simp only [Act.put, List.setIfInBounds_toArray, List.set_cons_zero, List.set_cons_succ, i64_w, i32_w]
            rfl
           refine pure_ (i := 7) (N := some 47) (v := ?_) (a' := ?_) #[true, true, true, true, true, true, true, true, false, false, false, false, false, false, false, false, false, false, false, false, false, false, false, false, false, false] rfl rfl (any_of HT_.out (by kernel_rfl)) (fun _ _ _ h => h) (Or.inl ⟨by rfl, ?_⟩) ?_ ?_
           rotate_left
           ·intro w'
            go_simp
            with_reducible rfl
           rotate_left
           ·simp only [Act.put, List.setIfInBounds_toArray, List.set_cons_zero, List.set_cons_succ, i64_w, i32_w]
            rfl
           refine pure_ (i := 8) (N := some 48) (v := ?_) (a' := ?_) #[true, true, true, true, true, true, true, true, true, false, false, false, false, false, false, false, false, false, false, false, false, false, false, false, false, false] rfl rfl (any_of HT_.out (by kernel_rfl)) (fun _ _ _ h => h) (Or.inl ⟨by rfl, ?_⟩) ?_ ?_
           rotate_left
           ·intro w'
            go_simp
            with_reducible rfl
           rotate_left
           ·simp only [Act.put, List.setIfInBounds_toArray, List.set_cons_zero, List.set_cons_succ, i64_w, i32_w]
            rfl
           refine pure_ (i := 9) (N := some 49) (v := ?_) (a' := ?_) #[true, true, true, true, true, true, true, true, true, true, false, false, false, false, false, false, false, false, false, false, false, false, false, false, false, false] rfl rfl (any_of HT_.out (by kernel_rfl)) (fun _ _ _ h => h) (Or.inl ⟨by rfl, ?_⟩) ?_ ?_
           rotate_left
           ·intro w'
            go_simp
            with_reducible rfl
           rotate_left
           ·simp only [Act.put, List.setIfInBounds_toArray, List.set_cons_zero, List.set_cons_succ, i64_w, i32_w]
            rfl
           refine pure_ (i := 10) (N := some 50) (v := ?_) (a' := ?_) #[true, true, true, true, true, true, true, true, true, true, true, false, false, false, false, false, false, false, false, false, false, false, false, false, false, false] rfl rfl (any_of HT_.out (by kernel_rfl)) (fun _ _ _ h => h) (Or.inl ⟨by rfl, ?_⟩) ?_ ?_
           rotate_left
           ·intro w'
            go_simp
            with_reducible rfl
           rotate_left
           ·simp only [Act.put, List.setIfInBounds_toArray, List.set_cons_zero, List.set_cons_succ, i64_w, i32_w]
            rfl
           refine pure_ (i := 11) (N := some 51) (v := ?_) (a' := ?_) #[true, true, true, true, true, true, true, true, true, true, true, true, false, false, false, false, false, false, false, false, false, false, false, false, false, false] rfl rfl (any_of HT_.out (by kernel_rfl)) (fun _ _ _ h => h) (Or.inl ⟨by rfl, ?_⟩) ?_ ?_
           rotate_left
           ·intro w'
            go_simp
            with_reducible rfl
           rotate_left
           ·simp only [Act.put, List.setIfInBounds_toArray, List.set_cons_zero, List.set_cons_succ, i64_w, i32_w]
            rfl
           refine pure_ (i := 12) (N := some 52) (v := ?_) (a' := ?_) #[true, true, true, true, true, true, true, true, true, true, true, true, true, false, false, false, false, false, false, false, false, false, false, false, false, false] rfl rfl (any_of HT_.out (by kernel_rfl)) (fun _ _ _ h => h) (Or.inl ⟨by rfl, ?_⟩) ?_ ?_
           rotate_left
           ·intro w'
            go_simp
            with_reducible rfl
           rotate_left
           ·simp only [Act.put, List.setIfInBounds_toArray, List.set_cons_zero, List.set_cons_succ, i64_w, i32_w]
            rfl
           refine pure_ (i := 13) (N := some 53) (v := ?_) (a' := ?_) #[true, true, true, true, true, true, true, true, true, true, true, true, true, true, false, false, false, false, false, false, false, false, false, false, false, false] rfl rfl (any_of HT_.out (by kernel_rfl)) (fun _ _ _ h => h) (Or.inl ⟨by rfl, ?_⟩) ?_ ?_
           rotate_left
           ·intro w'
            go_simp
            with_reducible rfl
           rotate_left
           ·simp only [Act.put, List.setIfInBounds_toArray, List.set_cons_zero, List.set_cons_succ, i64_w, i32_w]
            rfl
           refine pure_ (i := 14) (N := some 54) (v := ?_) (a' := ?_) #[true, true, true, true, true, true, true, true, true, true, true, true, true, true, true, false, false, false, false, false, false, false, false, false, false, false] rfl rfl (any_of HT_.out (by kernel_rfl)) (fun _ _ _ h => h) (Or.inl ⟨by rfl, ?_⟩) ?_ ?_
           rotate_left
           ·intro w'
            go_simp
            with_reducible rfl
           rotate_left
           ·simp only [Act.put, List.setIfInBounds_toArray, List.set_cons_zero, List.set_cons_succ, i64_w, i32_w]
            rfl
           refine pure_ (i := 15) (N := some 55) (v := ?_) (a' := ?_) #[true, true, true, true, true, true, true, true, true, true, true, true, true, true, true, true, false, false, false, false, false, false, false, false, false, false] rfl rfl (any_of HT_.out (by kernel_rfl)) (fun _ _ _ h => h) (Or.inl ⟨by rfl, ?_⟩) ?_ ?_
           rotate_left
           ·intro w'
            go_simp
            with_reducible rfl
           rotate_left
           ·simp only [Act.put, List.setIfInBounds_toArray, List.set_cons_zero, List.set_cons_succ, i64_w, i32_w]
            rfl
           refine pure_ (i := 16) (N := some 56) (v := undef) (a' := ?_) #[true, true, true, true, true, true, true, true, true, true, true, true, true, true, true, true, true, false, false, false, false, false, false, false, false, false] rfl rfl (any_of HT_.out (by kernel_rfl)) (fun _ _ _ h => h) (Or.inr ⟨by rfl, rfl⟩) ?_ ?_
           rotate_left
           ·simp only [Act.put, List.setIfInBounds_toArray, List.set_cons_zero, List.set_cons_succ, i64_w, i32_w]
            rfl
           refine pure_ (i := 17) (N := some 57) (v := undef) (a' := ?_) #[true, true, true, true, true, true, true, true, true, true, true, true, true, true, true, true, true, true, false, false, false, false, false, false, false, false] rfl rfl (any_of HT_.out (by kernel_rfl)) (fun _ _ _ h => h) (Or.inr ⟨by rfl, rfl⟩) ?_ ?_
           rotate_left
           ·simp only [Act.put, List.setIfInBounds_toArray, List.set_cons_zero, List.set_cons_succ, i64_w, i32_w]
            rfl
           refine pure_ (i := 18) (N := some 58) (v := undef) (a' := ?_) #[true, true, true, true, true, true, true, true, true, true, true, true, true, true, true, true, true, true, true, false, false, false, false, false, false, false] rfl rfl (any_of HT_.out (by kernel_rfl)) (fun _ _ _ h => h) (Or.inr ⟨by rfl, rfl⟩) ?_ ?_
           rotate_left
           ·simp only [Act.put, List.setIfInBounds_toArray, List.set_cons_zero, List.set_cons_succ, i64_w, i32_w]
            rfl
           refine pure_ (i := 19) (N := some 59) (v := undef) (a' := ?_) #[true, true, true, true, true, true, true, true, true, true, true, true, true, true, true, true, true, true, true, true, false, false, false, false, false, false] rfl rfl (any_of HT_.out (by kernel_rfl)) (fun _ _ _ h => h) (Or.inr ⟨by rfl, rfl⟩) ?_ ?_
           rotate_left
           ·simp only [Act.put, List.setIfInBounds_toArray, List.set_cons_zero, List.set_cons_succ, i64_w, i32_w]
            rfl
           refine pure_ (i := 20) (N := some 60) (v := undef) (a' := ?_) #[true, true, true, true, true, true, true, true, true, true, true, true, true, true, true, true, true, true, true, true, true, false, false, false, false, false] rfl rfl (any_of HT_.out (by kernel_rfl)) (fun _ _ _ h => h) (Or.inr ⟨by rfl, rfl⟩) ?_ ?_
           rotate_left
           ·simp only [Act.put, List.setIfInBounds_toArray, List.set_cons_zero, List.set_cons_succ, i64_w, i32_w]
            rfl
           refine pure_ (i := 21) (N := some 61) (v := undef) (a' := ?_) #[true, true, true, true, true, true, true, true, true, true, true, true, true, true, true, true, true, true, true, true, true, true, false, false, false, false] rfl rfl (any_of HT_.out (by kernel_rfl)) (fun _ _ _ h => h) (Or.inr ⟨by rfl, rfl⟩) ?_ ?_
           rotate_left
           ·simp only [Act.put, List.setIfInBounds_toArray, List.set_cons_zero, List.set_cons_succ, i64_w, i32_w]
            rfl
           refine pure_ (i := 22) (N := some 62) (v := undef) (a' := ?_) #[true, true, true, true, true, true, true, true, true, true, true, true, true, true, true, true, true, true, true, true, true, true, true, false, false, false] rfl rfl (any_of HT_.out (by kernel_rfl)) (fun _ _ _ h => h) (Or.inr ⟨by rfl, rfl⟩) ?_ ?_
           rotate_left
           ·simp only [Act.put, List.setIfInBounds_toArray, List.set_cons_zero, List.set_cons_succ, i64_w, i32_w]
            rfl
           refine pure_ (i := 23) (N := some 63) (v := undef) (a' := ?_) #[true, true, true, true, true, true, true, true, true, true, true, true, true, true, true, true, true, true, true, true, true, true, true, true, false, false] rfl rfl (any_of HT_.out (by kernel_rfl)) (fun _ _ _ h => h) (Or.inr ⟨by rfl, rfl⟩) ?_ ?_
           rotate_left
           ·simp only [Act.put, List.setIfInBounds_toArray, List.set_cons_zero, List.set_cons_succ, i64_w, i32_w]
            rfl
           refine pure_ (i := 24) (N := some 64) (v := ?_) (a' := ?_) #[true, true, true, true, true, true, true, true, true, true, true, true, true, true, true, true, true, true, true, true, true, true, true, true, true, false] rfl rfl (any_of HT_.out (by kernel_rfl)) (fun _ _ _ h => h) (Or.inl ⟨by rfl, ?_⟩) ?_ ?_
           rotate_left
           ·intro w'
            go_simp
            with_reducible rfl
           rotate_left
           ·simp only [Act.put, List.setIfInBounds_toArray, List.set_cons_zero, List.set_cons_succ, i64_w, i32_w]
            rfl
           refine pure_ (i := 25) (N := some 65) (v := ?_) (a' := ?_) #[true, true, true, true, true, true, true, true, true, true, true, true, true, true, true, true, true, true, true, true, true, true, true, true, true, true] rfl rfl (any_of HT_.out (by kernel_rfl)) (fun _ _ _ h => h) (Or.inl ⟨by rfl, ?_⟩) ?_ ?_
           rotate_left
           ·intro w'
            go_simp
            with_reducible rfl
           rotate_left
           ·simp only [Act.put, List.setIfInBounds_toArray, List.set_cons_zero, List.set_cons_succ, i64_w, i32_w]
            rfl
           refine done_ (done_of HT_.out (by kernel_rfl)) ?_
           try go_wp2
           go_meet
           case rel => exact ⟨_, (false), (by first | rfl | (simp; done) | (simp [*]; done)), H', ⟨by have := HJ1.out; have := HK2.out; first | omega | exact Nat.le_refl _⟩, ⟨bk_⟩, ⟨bl_⟩⟩
          ·rw [if_neg c27] at H
           have c27b0 : (t105 == 0) = false := beq_eq_false_iff_ne.mpr c27
           have c27b1 : (t105 != 0) = true := bne_iff_ne.mpr c27
           have H' := Aside0.mk H
           clear H
           try go_wp2
           have n0_ : Aside0 (((w19.setCell ⟨gb106, 0, none⟩ (.string t103)).setCell ⟨gb106, 1, none⟩ (.string t104)).heap[gb106]? = some (.cells #[.string t103, .string t104] 24 (0, 0))) := ⟨by (with_reducible repeat (first | refine blk_drewN ?_ _ | refine blk_drew ?_ | refine blk_alloc ?_ _)); refine blk_put (cs := #[.string t103, .string (⟨#[]⟩ : ByteArray)]) ?_ 1 _ rfl; (with_reducible repeat (first | refine blk_drewN ?_ _ | refine blk_drew ?_ | refine blk_alloc ?_ _)); refine blk_put (cs := #[.string (⟨#[]⟩ : ByteArray), .string (⟨#[]⟩ : ByteArray)]) ?_ 0 _ rfl; (with_reducible repeat (first | refine blk_drewN ?_ _ | refine blk_drew ?_ | refine blk_alloc ?_ _)); exact BK106.out⟩
           have n1_ : Aside0 (Below w.heap.size w ((w19.setCell ⟨gb106, 0, none⟩ (.string t103)).setCell ⟨gb106, 1, none⟩ (.string t104))) := ⟨bl_⟩
           (try clear BK106); (try clear HB)
           generalize ((w19.setCell ⟨gb106, 0, none⟩ (.string t103)).setCell ⟨gb106, 1, none⟩ (.string t104)) = w31 at n0_ n1_ ⊢
           have BK106 := n0_
           have HB := n1_
           clear n0_ n1_
           have n0_ := Aside0.mk (blk_drew BK106.out)
           have n1_ := Aside0.mk (below_drew1 HB.out)
           clear BK106
           clear HB
           have BK106 := n0_
           have HB := n1_
           clear n0_ n1_
           refine start_ (n := 26) (S := fun w' => w'.cell? ⟨gb106, 0, none⟩ = some (.string t103) ∧ w'.cell? ⟨gb106, 1, none⟩ = some (.string t104)) (ds := []) #[false, false, false, false, false, false, false, false, false, false, false, false, false, false, false, false, false, false, false, false, false, false, false, false, false, false] (by kernel_rfl) rfl rfl ⟨(blk_cell BK106.out 0).trans rfl, (blk_cell BK106.out 1).trans rfl⟩ (fun hHeld => ?_); refine with_tabW schismalaw04_ConvergentWays.tab10 schismalaw04_ConvergentWays.bits10 (fun HT_ HW_ => ?_)
           generalize w31.drew = w32 at BK106 HB hHeld ⊢
           refine pure_ (i := 0) (N := some 40) (v := ?_) (a' := ?_) #[true, false, false, false, false, false, false, false, false, false, false, false, false, false, false, false, false, false, false, false, false, false, false, false, false, false] rfl rfl (any_of HT_.out (by kernel_rfl)) (fun _ _ _ h => h) (Or.inl ⟨by rfl, ?_⟩) ?_ ?_
           rotate_left
           ·intro w'
            go_simp
            with_reducible rfl
           rotate_left
           ·simp only [Act.put, List.setIfInBounds_toArray, List.set_cons_zero, List.set_cons_succ, i64_w, i32_w]
            rfl
           refine pure_ (i := 1) (N := some 41) (v := ?_) (a' := ?_) #[true, true, false, false, false, false, false, false, false, false, false, false, false, false, false, false, false, false, false, false, false, false, false, false, false, false] rfl rfl (any_of HT_.out (by kernel_rfl)) (fun _ _ _ h => h) (Or.inl ⟨by rfl, ?_⟩) ?_ ?_
           rotate_left
           ·intro w'
            go_simp
            with_reducible rfl
           rotate_left
           ·simp only [Act.put, List.setIfInBounds_toArray, List.set_cons_zero, List.set_cons_succ, i64_w, i32_w]
            rfl
           refine pure_ (i := 2) (N := some 42) (v := ?_) (a' := ?_) #[true, true, true, false, false, false, false, false, false, false, false, false, false, false, false, false, false, false, false, false, false, false, false, false, false, false] rfl rfl (any_of HT_.out (by kernel_rfl)) (fun _ _ _ h => h) (Or.inl ⟨by rfl, ?_⟩) ?_ ?_
           rotate_left
           ·intro w'
            go_simp
            with_reducible rfl
           rotate_left
           ·simp only [Act.put, List.setIfInBounds_toArray, List.set_cons_zero, List.set_cons_succ, i64_w, i32_w]
            rfl
           refine pure_ (i := 4) (N := some 44) (v := ?_) (a' := ?_) #[true, true, true, false, true, false, false, false, false, false, false, false, false, false, false, false, false, false, false, false, false, false, false, false, false, false] rfl rfl (any_of HT_.out (by kernel_rfl)) (fun _ _ _ h => h) (Or.inl ⟨by rfl, ?_⟩) ?_ ?_
           rotate_left
           ·intro w'
            go_simp
            with_reducible rfl
           rotate_left
           ·simp only [Act.put, List.setIfInBounds_toArray, List.set_cons_zero, List.set_cons_succ, i64_w, i32_w]
            rfl
           refine take_ (i := 3) (N := some 43) (v := ?_) (a' := ?_) #[true, true, true, true, true, false, false, false, false, false, false, false, false, false, false, false, false, false, false, false, false, false, false, false, false, false] rfl rfl (take_ofW HT_.out HW_.out (by kernel_rfl)) (fun _ _ _ h => h) (Or.inl ⟨by rfl, ?_⟩) hHeld ?_ ?_
           rotate_left
           ·rintro w' ⟨s0, s1⟩
            go_simp
            with_reducible rfl
           rotate_left
           ·simp only [Act.put, List.setIfInBounds_toArray, List.set_cons_zero, List.set_cons_succ, i64_w, i32_w]
            rfl
           refine one_ (i := 5) (N := some 45) #[true, true, true, true, true, true, false, false, false, false, false, false, false, false, false, false, false, false, false, false, false, false, false, false, false, false] rfl rfl (one_of HT_.out (by kernel_rfl)) (by decide) (fun K hK => ?_)
           refine goes_ Tryz.func37 (by kernel_rfl) rfl #[.string a0] (by rfl) rfl rfl mp_ ?_
           with_reducible refine (schismaref04_At.calls k2 a0 t107 t108 _ A22.out).mono ?_
           rintro e w33 ⟨rfl, hb⟩
           refine ⟨_, rfl, ?_⟩
           have n0_ := kb_ BK106 hb
           have n1_ := bs_ hb
           clear BK106
           clear HB
           have BK106 := n0_
           have HB := n1_
           clear n0_ n1_
           (try clear hb); (try clear hb2); (try clear hk); (try clear hi)
           refine hK.out _ _ ⟨(blk_cell BK106.out 0).trans rfl, (blk_cell BK106.out 1).trans rfl⟩ (fun hHeld => ?_)
           clear hK K
           refine norm_ (a' := ?_) ?_ ?_
           rotate_left
           ·show Act.put _ (some 45) _ = _
            simp only [Act.put, List.setIfInBounds_toArray, List.set_cons_zero, List.set_cons_succ, i64_w, i32_w]
            rfl
           refine pure_ (i := 6) (N := some 46) (v := ?_) (a' := ?_) #[true, true, true, true, true, true, true, false, false, false, false, false, false, false, false, false, false, false, false, false, false, false, false, false, false, false] rfl rfl (any_of HT_.out (by kernel_rfl)) (fun _ _ _ h => h) (Or.inl ⟨by rfl, ?_⟩) ?_ ?_
           rotate_left
           ·intro w'
            go_simp
            with_reducible rfl
           rotate_left
           ·simp only [Act.put, List.setIfInBounds_toArray, List.set_cons_zero, List.set_cons_succ, i64_w, i32_w]
            rfl
           refine pure_ (i := 7) (N := some 47) (v := ?_) (a' := ?_) #[true, true, true, true, true, true, true, true, false, false, false, false, false, false, false, false, false, false, false, false, false, false, false, false, false, false] rfl rfl (any_of HT_.out (by kernel_rfl)) (fun _ _ _ h => h) (Or.inl ⟨by rfl, ?_⟩) ?_ ?_
           rotate_left
           ·intro w'
            go_simp
            with_reducible rfl
           rotate_left
           ·simp only [Act.put, List.setIfInBounds_toArray, List.set_cons_zero, List.set_cons_succ, i64_w, i32_w]
            rfl
           refine pure_ (i := 8) (N := some 48) (v := ?_) (a' := ?_) #[true, true, true, true, true, true, true, true, true, false, false, false, false, false, false, false, false, false, false, false, false, false, false, false, false, false] rfl rfl (any_of HT_.out (by kernel_rfl)) (fun _ _ _ h => h) (Or.inl ⟨by rfl, ?_⟩) ?_ ?_
           rotate_left
           ·intro w'
            go_simp
            with_reducible rfl
           rotate_left
           ·simp only [Act.put, List.setIfInBounds_toArray, List.set_cons_zero, List.set_cons_succ, i64_w, i32_w]
            rfl
           refine pure_ (i := 9) (N := some 49) (v := ?_) (a' := ?_) #[true, true, true, true, true, true, true, true, true, true, false, false, false, false, false, false, false, false, false, false, false, false, false, false, false, false] rfl rfl (any_of HT_.out (by kernel_rfl)) (fun _ _ _ h => h) (Or.inl ⟨by rfl, ?_⟩) ?_ ?_
           rotate_left
           ·intro w'
            go_simp
            with_reducible rfl
           rotate_left
           ·simp only [Act.put, List.setIfInBounds_toArray, List.set_cons_zero, List.set_cons_succ, i64_w, i32_w]
            rfl
           refine pure_ (i := 10) (N := some 50) (v := ?_) (a' := ?_) #[true, true, true, true, true, true, true, true, true, true, true, false, false, false, false, false, false, false, false, false, false, false, false, false, false, false] rfl rfl (any_of HT_.out (by kernel_rfl)) (fun _ _ _ h => h) (Or.inl ⟨by rfl, ?_⟩) ?_ ?_
           rotate_left
           ·intro w'
            go_simp
            with_reducible rfl
           rotate_left
           ·simp only [Act.put, List.setIfInBounds_toArray, List.set_cons_zero, List.set_cons_succ, i64_w, i32_w]
            rfl
           refine pure_ (i := 11) (N := some 51) (v := ?_) (a' := ?_) #[true, true, true, true, true, true, true, true, true, true, true, true, false, false, false, false, false, false, false, false, false, false, false, false, false, false] rfl rfl (any_of HT_.out (by kernel_rfl)) (fun _ _ _ h => h) (Or.inl ⟨by rfl, ?_⟩) ?_ ?_
           rotate_left
           ·intro w'
            go_simp
            with_reducible rfl
           rotate_left
           ·simp only [Act.put, List.setIfInBounds_toArray, List.set_cons_zero, List.set_cons_succ, i64_w, i32_w]
            rfl
           refine pure_ (i := 12) (N := some 52) (v := ?_) (a' := ?_) #[true, true, true, true, true, true, true, true, true, true, true, true, true, false, false, false, false, false, false, false, false, false, false, false, false, false] rfl rfl (any_of HT_.out (by kernel_rfl)) (fun _ _ _ h => h) (Or.inl ⟨by rfl, ?_⟩) ?_ ?_
           rotate_left
           ·intro w'
            go_simp
            with_reducible rfl
           rotate_left
           ·simp only [Act.put, List.setIfInBounds_toArray, List.set_cons_zero, List.set_cons_succ, i64_w, i32_w]
            rfl
           refine pure_ (i := 13) (N := some 53) (v := undef) (a' := ?_) #[true, true, true, true, true, true, true, true, true, true, true, true, true, true, false, false, false, false, false, false, false, false, false, false, false, false] rfl rfl (any_of HT_.out (by kernel_rfl)) (fun _ _ _ h => h) (Or.inr ⟨by rfl, rfl⟩) ?_ ?_
           rotate_left
           ·simp only [Act.put, List.setIfInBounds_toArray, List.set_cons_zero, List.set_cons_succ, i64_w, i32_w]
            rfl
           refine pure_ (i := 14) (N := some 54) (v := undef) (a' := ?_) #[true, true, true, true, true, true, true, true, true, true, true, true, true, true, true, false, false, false, false, false, false, false, false, false, false, false] rfl rfl (any_of HT_.out (by kernel_rfl)) (fun _ _ _ h => h) (Or.inr ⟨by rfl, rfl⟩) ?_ ?_
           rotate_left
           ·simp only [Act.put, List.setIfInBounds_toArray, List.set_cons_zero, List.set_cons_succ, i64_w, i32_w]
            rfl
           refine pure_ (i := 15) (N := some 55) (v := undef) (a' := ?_) #[true, true, true, true, true, true, true, true, true, true, true, true, true, true, true, true, false, false, false, false, false, false, false, false, false, false] rfl rfl (any_of HT_.out (by kernel_rfl)) (fun _ _ _ h => h) (Or.inr ⟨by rfl, rfl⟩) ?_ ?_
           rotate_left
           ·simp only [Act.put, List.setIfInBounds_toArray, List.set_cons_zero, List.set_cons_succ, i64_w, i32_w]
            rfl
           refine pure_ (i := 16) (N := some 56) (v := undef) (a' := ?_) #[true, true, true, true, true, true, true, true, true, true, true, true, true, true, true, true, true, false, false, false, false, false, false, false, false, false] rfl rfl (any_of HT_.out (by kernel_rfl)) (fun _ _ _ h => h) (Or.inr ⟨by rfl, rfl⟩) ?_ ?_
           rotate_left
           ·simp only [Act.put, List.setIfInBounds_toArray, List.set_cons_zero, List.set_cons_succ, i64_w, i32_w]
            rfl
           refine pure_ (i := 17) (N := some 57) (v := undef) (a' := ?_) #[true, true, true, true, true, true, true, true, true, true, true, true, true, true, true, true, true, true, false, false, false, false, false, false, false, false] rfl rfl (any_of HT_.out (by kernel_rfl)) (fun _ _ _ h => h) (Or.inr ⟨by rfl, rfl⟩) ?_ ?_
           rotate_left
           ·simp only [Act.put, List.setIfInBounds_toArray, List.set_cons_zero, List.set_cons_succ, i64_w, i32_w]
            rfl
           refine pure_ (i := 18) (N := some 58) (v := undef) (a' := ?_) #[true, true, true, true, true, true, true, true, true, true, true, true, true, true, true, true, true, true, true, false, false, false, false, false, false, false] rfl rfl (any_of HT_.out (by kernel_rfl)) (fun _ _ _ h => h) (Or.inr ⟨by rfl, rfl⟩) ?_ ?_
           rotate_left
           ·simp only [Act.put, List.setIfInBounds_toArray, List.set_cons_zero, List.set_cons_succ, i64_w, i32_w]
            rfl
           refine pure_ (i := 19) (N := some 59) (v := undef) (a' := ?_) #[true, true, true, true, true, true, true, true, true, true, true, true, true, true, true, true, true, true, true, true, false, false, false, false, false, false] rfl rfl (any_of HT_.out (by kernel_rfl)) (fun _ _ _ h => h) (Or.inr ⟨by rfl, rfl⟩) ?_ ?_
           rotate_left
           ·simp only [Act.put, List.setIfInBounds_toArray, List.set_cons_zero, List.set_cons_succ, i64_w, i32_w]
            rfl
           refine pure_ (i := 20) (N := some 60) (v := undef) (a' := ?_) #[true, true, true, true, true, true, true, true, true, true, true, true, true, true, true, true, true, true, true, true, true, false, false, false, false, false] rfl rfl (any_of HT_.out (by kernel_rfl)) (fun _ _ _ h => h) (Or.inr ⟨by rfl, rfl⟩) ?_ ?_
           rotate_left
           ·simp only [Act.put, List.setIfInBounds_toArray, List.set_cons_zero, List.set_cons_succ, i64_w, i32_w]
            rfl
           refine pure_ (i := 21) (N := some 61) (v := undef) (a' := ?_) #[true, true, true, true, true, true, true, true, true, true, true, true, true, true, true, true, true, true, true, true, true, true, false, false, false, false] rfl rfl (any_of HT_.out (by kernel_rfl)) (fun _ _ _ h => h) (Or.inr ⟨by rfl, rfl⟩) ?_ ?_
           rotate_left
           ·simp only [Act.put, List.setIfInBounds_toArray, List.set_cons_zero, List.set_cons_succ, i64_w, i32_w]
            rfl
           refine pure_ (i := 22) (N := some 62) (v := undef) (a' := ?_) #[true, true, true, true, true, true, true, true, true, true, true, true, true, true, true, true, true, true, true, true, true, true, true, false, false, false] rfl rfl (any_of HT_.out (by kernel_rfl)) (fun _ _ _ h => h) (Or.inr ⟨by rfl, rfl⟩) ?_ ?_
           rotate_left
           ·simp only [Act.put, List.setIfInBounds_toArray, List.set_cons_zero, List.set_cons_succ, i64_w, i32_w]
            rfl
           refine pure_ (i := 23) (N := some 63) (v := undef) (a' := ?_) #[true, true, true, true, true, true, true, true, true, true, true, true, true, true, true, true, true, true, true, true, true, true, true, true, false, false] rfl rfl (any_of HT_.out (by kernel_rfl)) (fun _ _ _ h => h) (Or.inr ⟨by rfl, rfl⟩) ?_ ?_
           rotate_left
           ·simp only [Act.put, List.setIfInBounds_toArray, List.set_cons_zero, List.set_cons_succ, i64_w, i32_w]
            rfl
           refine pure_ (i := 24) (N := some 64) (v := undef) (a' := ?_) #[true, true, true, true, true, true, true, true, true, true, true, true, true, true, true, true, true, true, true, true, true, true, true, true, true, false] rfl rfl (any_of HT_.out (by kernel_rfl)) (fun _ _ _ h => h) (Or.inr ⟨by rfl, rfl⟩) ?_ ?_
           rotate_left
           ·simp only [Act.put, List.setIfInBounds_toArray, List.set_cons_zero, List.set_cons_succ, i64_w, i32_w]
            rfl
           refine pure_ (i := 25) (N := some 65) (v := ?_) (a' := ?_) #[true, true, true, true, true, true, true, true, true, true, true, true, true, true, true, true, true, true, true, true, true, true, true, true, true, true] rfl rfl (any_of HT_.out (by kernel_rfl)) (fun _ _ _ h => h) (Or.inl ⟨by rfl, ?_⟩) ?_ ?_
           rotate_left
           ·intro w'
            go_simp
            with_reducible rfl
           rotate_left
           ·simp only [Act.put, List.setIfInBounds_toArray, List.set_cons_zero, List.set_cons_succ, i64_w, i32_w]
            rfl
           refine done_ (done_of HT_.out (by kernel_rfl)) ?_
           try go_wp2
           go_meet
           case rel => exact ⟨_, (true), (by first | rfl | (simp; done) | (simp [*]; done)), H', ⟨by have := HJ1.out; have := HK2.out; first | omega | exact Nat.le_refl _⟩, ⟨bk_⟩, ⟨bl_⟩⟩
        ·rw [if_neg c21] at H
         have c21b0 : (x3_2 == 0) = false := beq_eq_false_iff_ne.mpr c21
         have c21b1 : (x3_2 != 0) = true := bne_iff_ne.mpr c21
         (first | rw [c21b0] | (simp only [i64_w, i32_w]; rw [c21b0]) | skip)
         replace H := Option.bind_eq_some_iff.mp H
         obtain ⟨t109, A340, H⟩ := H
         replace H : (if t109 = true then (schismalaw04_ConvergentWays.j2 k2 a0 (t105 != x3_2)) else (schismalaw04_ConvergentWays.j2 k2 a0 true)) = some r := H
         have A34 := Aside0.mk A340
         clear A340
         by_cases c35 : t109 = true
         ·subst c35
          have H1 : (schismalaw04_ConvergentWays.j2 k2 a0 (t105 != x3_2)) = some r := by rw [if_pos rfl] at H; exact H
          clear H
          have H := H1
          clear H1
          have H' := Aside0.mk H
          clear H
          try go_wp2
          have n0_ : Aside0 (((w19.setCell ⟨gb106, 0, none⟩ (.string t103)).setCell ⟨gb106, 1, none⟩ (.string t104)).heap[gb106]? = some (.cells #[.string t103, .string t104] 24 (0, 0))) := ⟨by (with_reducible repeat (first | refine blk_drewN ?_ _ | refine blk_drew ?_ | refine blk_alloc ?_ _)); refine blk_put (cs := #[.string t103, .string (⟨#[]⟩ : ByteArray)]) ?_ 1 _ rfl; (with_reducible repeat (first | refine blk_drewN ?_ _ | refine blk_drew ?_ | refine blk_alloc ?_ _)); refine blk_put (cs := #[.string (⟨#[]⟩ : ByteArray), .string (⟨#[]⟩ : ByteArray)]) ?_ 0 _ rfl; (with_reducible repeat (first | refine blk_drewN ?_ _ | refine blk_drew ?_ | refine blk_alloc ?_ _)); exact BK106.out⟩
          have n1_ : Aside0 (Below w.heap.size w ((w19.setCell ⟨gb106, 0, none⟩ (.string t103)).setCell ⟨gb106, 1, none⟩ (.string t104))) := ⟨bl_⟩
          (try clear BK106); (try clear HB)
          generalize ((w19.setCell ⟨gb106, 0, none⟩ (.string t103)).setCell ⟨gb106, 1, none⟩ (.string t104)) = w36 at n0_ n1_ ⊢
          have BK106 := n0_
          have HB := n1_
          clear n0_ n1_
          have n0_ := Aside0.mk (blk_drew BK106.out)
          have n1_ := Aside0.mk (below_drew1 HB.out)
          clear BK106
          clear HB
          have BK106 := n0_
          have HB := n1_
          clear n0_ n1_
          refine start_ (n := 26) (S := fun w' => w'.cell? ⟨gb106, 0, none⟩ = some (.string t103) ∧ w'.cell? ⟨gb106, 1, none⟩ = some (.string t104)) (ds := []) #[false, false, false, false, false, false, false, false, false, false, false, false, false, false, false, false, false, false, false, false, false, false, false, false, false, false] (by kernel_rfl) rfl rfl ⟨(blk_cell BK106.out 0).trans rfl, (blk_cell BK106.out 1).trans rfl⟩ (fun hHeld => ?_); refine with_tabW schismalaw04_ConvergentWays.tab10 schismalaw04_ConvergentWays.bits10 (fun HT_ HW_ => ?_)
          generalize w36.drew = w37 at BK106 HB hHeld ⊢
          refine pure_ (i := 0) (N := some 40) (v := ?_) (a' := ?_) #[true, false, false, false, false, false, false, false, false, false, false, false, false, false, false, false, false, false, false, false, false, false, false, false, false, false] rfl rfl (any_of HT_.out (by kernel_rfl)) (fun _ _ _ h => h) (Or.inl ⟨by rfl, ?_⟩) ?_ ?_
          rotate_left
          ·intro w'
           go_simp
           with_reducible rfl
          rotate_left
          ·simp only [Act.put, List.setIfInBounds_toArray, List.set_cons_zero, List.set_cons_succ, i64_w, i32_w]
           rfl
          refine pure_ (i := 1) (N := some 41) (v := ?_) (a' := ?_) #[true, true, false, false, false, false, false, false, false, false, false, false, false, false, false, false, false, false, false, false, false, false, false, false, false, false] rfl rfl (any_of HT_.out (by kernel_rfl)) (fun _ _ _ h => h) (Or.inl ⟨by rfl, ?_⟩) ?_ ?_
          rotate_left
          ·intro w'
           go_simp
           with_reducible rfl
          rotate_left
          ·simp only [Act.put, List.setIfInBounds_toArray, List.set_cons_zero, List.set_cons_succ, i64_w, i32_w]
           rfl
          refine pure_ (i := 2) (N := some 42) (v := ?_) (a' := ?_) #[true, true, true, false, false, false, false, false, false, false, false, false, false, false, false, false, false, false, false, false, false, false, false, false, false, false] rfl rfl (any_of HT_.out (by kernel_rfl)) (fun _ _ _ h => h) (Or.inl ⟨by rfl, ?_⟩) ?_ ?_
          rotate_left
          ·intro w'
           go_simp
           with_reducible rfl
          rotate_left
          ·simp only [Act.put, List.setIfInBounds_toArray, List.set_cons_zero, List.set_cons_succ, i64_w, i32_w]
           rfl
          refine pure_ (i := 3) (N := some 43) (v := undef) (a' := ?_) #[true, true, true, true, false, false, false, false, false, false, false, false, false, false, false, false, false, false, false, false, false, false, false, false, false, false] rfl rfl (any_of HT_.out (by kernel_rfl)) (fun _ _ _ h => h) (Or.inr ⟨by rfl, rfl⟩) ?_ ?_
          rotate_left
          ·simp only [Act.put, List.setIfInBounds_toArray, List.set_cons_zero, List.set_cons_succ, i64_w, i32_w]
           rfl
          refine pure_ (i := 4) (N := some 44) (v := undef) (a' := ?_) #[true, true, true, true, true, false, false, false, false, false, false, false, false, false, false, false, false, false, false, false, false, false, false, false, false, false] rfl rfl (any_of HT_.out (by kernel_rfl)) (fun _ _ _ h => h) (Or.inr ⟨by rfl, rfl⟩) ?_ ?_
          rotate_left
          ·simp only [Act.put, List.setIfInBounds_toArray, List.set_cons_zero, List.set_cons_succ, i64_w, i32_w]
           rfl
          refine pure_ (i := 5) (N := some 45) (v := undef) (a' := ?_) #[true, true, true, true, true, true, false, false, false, false, false, false, false, false, false, false, false, false, false, false, false, false, false, false, false, false] rfl rfl (any_of HT_.out (by kernel_rfl)) (fun _ _ _ h => h) (Or.inr ⟨by rfl, rfl⟩) ?_ ?_
          rotate_left
          ·simp only [Act.put, List.setIfInBounds_toArray, List.set_cons_zero, List.set_cons_succ, i64_w, i32_w]
           rfl
          refine pure_ (i := 6) (N := some 46) (v := undef) (a' := ?_) #[true, true, true, true, true, true, true, false, false, false, false, false, false, false, false, false, false, false, false, false, false, false, false, false, false, false] rfl rfl (any_of HT_.out (by kernel_rfl)) (fun _ _ _ h => h) (Or.inr ⟨by rfl, rfl⟩) ?_ ?_
          rotate_left
          ·simp only [Act.put, List.setIfInBounds_toArray, List.set_cons_zero, List.set_cons_succ, i64_w, i32_w]
           rfl
          refine pure_ (i := 7) (N := some 47) (v := undef) (a' := ?_) #[true, true, true, true, true, true, true, true, false, false, false, false, false, false, false, false, false, false, false, false, false, false, false, false, false, false] rfl rfl (any_of HT_.out (by kernel_rfl)) (fun _ _ _ h => h) (Or.inr ⟨by rfl, rfl⟩) ?_ ?_
          rotate_left
          ·simp only [Act.put, List.setIfInBounds_toArray, List.set_cons_zero, List.set_cons_succ, i64_w, i32_w]
           rfl
          refine pure_ (i := 8) (N := some 48) (v := undef) (a' := ?_) #[true, true, true, true, true, true, true, true, true, false, false, false, false, false, false, false, false, false, false, false, false, false, false, false, false, false] rfl rfl (any_of HT_.out (by kernel_rfl)) (fun _ _ _ h => h) (Or.inr ⟨by rfl, rfl⟩) ?_ ?_
          rotate_left
          ·simp only [Act.put, List.setIfInBounds_toArray, List.set_cons_zero, List.set_cons_succ, i64_w, i32_w]
           rfl
          refine pure_ (i := 9) (N := some 49) (v := undef) (a' := ?_) #[true, true, true, true, true, true, true, true, true, true, false, false, false, false, false, false, false, false, false, false, false, false, false, false, false, false] rfl rfl (any_of HT_.out (by kernel_rfl)) (fun _ _ _ h => h) (Or.inr ⟨by rfl, rfl⟩) ?_ ?_
          rotate_left
          ·simp only [Act.put, List.setIfInBounds_toArray, List.set_cons_zero, List.set_cons_succ, i64_w, i32_w]
           rfl
          refine pure_ (i := 10) (N := some 50) (v := undef) (a' := ?_) #[true, true, true, true, true, true, true, true, true, true, true, false, false, false, false, false, false, false, false, false, false, false, false, false, false, false] rfl rfl (any_of HT_.out (by kernel_rfl)) (fun _ _ _ h => h) (Or.inr ⟨by rfl, rfl⟩) ?_ ?_
          rotate_left
          ·simp only [Act.put, List.setIfInBounds_toArray, List.set_cons_zero, List.set_cons_succ, i64_w, i32_w]
           rfl
          refine pure_ (i := 11) (N := some 51) (v := ?_) (a' := ?_) #[true, true, true, true, true, true, true, true, true, true, true, true, false, false, false, false, false, false, false, false, false, false, false, false, false, false] rfl rfl (any_of HT_.out (by kernel_rfl)) (fun _ _ _ h => h) (Or.inl ⟨by rfl, ?_⟩) ?_ ?_
          rotate_left
          ·intro w'
           go_simp
           with_reducible rfl
          rotate_left
          ·simp only [Act.put, List.setIfInBounds_toArray, List.set_cons_zero, List.set_cons_succ, i64_w, i32_w]
           rfl
          refine pure_ (i := 12) (N := some 52) (v := ?_) (a' := ?_) #[true, true, true, true, true, true, true, true, true, true, true, true, true, false, false, false, false, false, false, false, false, false, false, false, false, false] rfl rfl (any_of HT_.out (by kernel_rfl)) (fun _ _ _ h => h) (Or.inl ⟨by rfl, ?_⟩) ?_ ?_
          rotate_left
          ·intro w'
           go_simp
           with_reducible rfl
          rotate_left
          ·simp only [Act.put, List.setIfInBounds_toArray, List.set_cons_zero, List.set_cons_succ, i64_w, i32_w]
           rfl
          refine pure_ (i := 13) (N := some 53) (v := ?_) (a' := ?_) #[true, true, true, true, true, true, true, true, true, true, true, true, true, true, false, false, false, false, false, false, false, false, false, false, false, false] rfl rfl (any_of HT_.out (by kernel_rfl)) (fun _ _ _ h => h) (Or.inl ⟨by rfl, ?_⟩) ?_ ?_
          rotate_left
          ·intro w'
           go_simp
           with_reducible rfl
          rotate_left
          ·simp only [Act.put, List.setIfInBounds_toArray, List.set_cons_zero, List.set_cons_succ, i64_w, i32_w]
           rfl
          refine pure_ (i := 14) (N := some 54) (v := ?_) (a' := ?_) #[true, true, true, true, true, true, true, true, true, true, true, true, true, true, true, false, false, false, false, false, false, false, false, false, false, false] rfl rfl (any_of HT_.out (by kernel_rfl)) (fun _ _ _ h => h) (Or.inl ⟨by rfl, ?_⟩) ?_ ?_
          rotate_left
          ·intro w'
           go_simp
           with_reducible rfl
          rotate_left
          ·simp only [Act.put, List.setIfInBounds_toArray, List.set_cons_zero, List.set_cons_succ, i64_w, i32_w]
           rfl
          refine pure_ (i := 15) (N := some 55) (v := ?_) (a' := ?_) #[true, true, true, true, true, true, true, true, true, true, true, true, true, true, true, true, false, false, false, false, false, false, false, false, false, false] rfl rfl (any_of HT_.out (by kernel_rfl)) (fun _ _ _ h => h) (Or.inl ⟨by rfl, ?_⟩) ?_ ?_
          rotate_left
          ·intro w'
           go_simp
           with_reducible rfl
          rotate_left
          ·simp only [Act.put, List.setIfInBounds_toArray, List.set_cons_zero, List.set_cons_succ, i64_w, i32_w]
           rfl
          refine take_ (i := 16) (N := some 56) (v := ?_) (a' := ?_) #[true, true, true, true, true, true, true, true, true, true, true, true, true, true, true, true, true, false, false, false, false, false, false, false, false, false] rfl rfl (take_ofW HT_.out HW_.out (by kernel_rfl)) (fun _ _ _ h => h) (Or.inl ⟨by rfl, ?_⟩) hHeld ?_ ?_
          rotate_left
          ·rintro w' ⟨s0, s1⟩
           go_simp
           with_reducible rfl
          rotate_left
          ·simp only [Act.put, List.setIfInBounds_toArray, List.set_cons_zero, List.set_cons_succ, i64_w, i32_w]
           rfl
          refine one_ (i := 17) (N := some 57) #[true, true, true, true, true, true, true, true, true, true, true, true, true, true, true, true, true, true, false, false, false, false, false, false, false, false] rfl rfl (one_of HT_.out (by kernel_rfl)) (by decide) (fun K hK => ?_)
          refine goes_ Tryz.func16 (by kernel_rfl) rfl #[.agg #[.string t103, .string t104]] (by rfl) rfl rfl mp_ ?_
          with_reducible refine (schismalaw04_none.calls t103 t104 true _ A34.out).mono ?_
          rintro e w38 ⟨rfl, hb⟩
          refine ⟨_, rfl, ?_⟩
          have n0_ := kb_ BK106 hb
          have n1_ := bs_ hb
          clear BK106
          clear HB
          have BK106 := n0_
          have HB := n1_
          clear n0_ n1_
          (try clear hb); (try clear hb2); (try clear hk); (try clear hi)
          refine hK.out _ _ ⟨(blk_cell BK106.out 0).trans rfl, (blk_cell BK106.out 1).trans rfl⟩ (fun hHeld => ?_)
          clear hK K
          refine norm_ (a' := ?_) ?_ ?_
          rotate_left
          ·show Act.put _ (some 57) _ = _
           simp only [Act.put, List.setIfInBounds_toArray, List.set_cons_zero, List.set_cons_succ, i64_w, i32_w]
           rfl
          refine pure_ (i := 18) (N := some 58) (v := ?_) (a' := ?_) #[true, true, true, true, true, true, true, true, true, true, true, true, true, true, true, true, true, true, true, false, false, false, false, false, false, false] rfl rfl (any_of HT_.out (by kernel_rfl)) (fun _ _ _ h => h) (Or.inl ⟨by rfl, ?_⟩) ?_ ?_
          rotate_left
          ·intro w'
           go_simp
           with_reducible rfl
          rotate_left
          ·simp only [Act.put, List.setIfInBounds_toArray, List.set_cons_zero, List.set_cons_succ, i64_w, i32_w]
           rfl
          refine pure_ (i := 19) (N := some 59) (v := ?_) (a' := ?_) #[true, true, true, true, true, true, true, true, true, true, true, true, true, true, true, true, true, true, true, true, false, false, false, false, false, false] rfl rfl (any_of HT_.out (by kernel_rfl)) (fun _ _ _ h => h) (Or.inl ⟨by rfl, ?_⟩) ?_ ?_
          rotate_left
          ·intro w'
           go_simp
           with_reducible rfl
          rotate_left
          ·simp only [Act.put, List.setIfInBounds_toArray, List.set_cons_zero, List.set_cons_succ, i64_w, i32_w]
           rfl
          refine pure_ (i := 20) (N := some 60) (v := ?_) (a' := ?_) #[true, true, true, true, true, true, true, true, true, true, true, true, true, true, true, true, true, true, true, true, true, false, false, false, false, false] rfl rfl (any_of HT_.out (by kernel_rfl)) (fun _ _ _ h => h) (Or.inl ⟨by rfl, ?_⟩) ?_ ?_
          rotate_left
          ·intro w'
           go_simp
           with_reducible rfl
          rotate_left
          ·simp only [Act.put, List.setIfInBounds_toArray, List.set_cons_zero, List.set_cons_succ, i64_w, i32_w]
           rfl
          refine pure_ (i := 21) (N := some 61) (v := ?_) (a' := ?_) #[true, true, true, true, true, true, true, true, true, true, true, true, true, true, true, true, true, true, true, true, true, true, false, false, false, false] rfl rfl (any_of HT_.out (by kernel_rfl)) (fun _ _ _ h => h) (Or.inl ⟨by rfl, ?_⟩) ?_ ?_
          rotate_left
          ·intro w'
           go_simp
           with_reducible rfl
          rotate_left
          ·simp only [Act.put, List.setIfInBounds_toArray, List.set_cons_zero, List.set_cons_succ, i64_w, i32_w]
           rfl
          refine pure_ (i := 22) (N := some 62) (v := ?_) (a' := ?_) #[true, true, true, true, true, true, true, true, true, true, true, true, true, true, true, true, true, true, true, true, true, true, true, false, false, false] rfl rfl (any_of HT_.out (by kernel_rfl)) (fun _ _ _ h => h) (Or.inl ⟨by rfl, ?_⟩) ?_ ?_
          rotate_left
          ·intro w'
           go_simp
           with_reducible rfl
          rotate_left
          ·simp only [Act.put, List.setIfInBounds_toArray, List.set_cons_zero, List.set_cons_succ, i64_w, i32_w]
           rfl
          refine pure_ (i := 23) (N := some 63) (v := ?_) (a' := ?_) #[true, true, true, true, true, true, true, true, true, true, true, true, true, true, true, true, true, true, true, true, true, true, true, true, false, false] rfl rfl (any_of HT_.out (by kernel_rfl)) (fun _ _ _ h => h) (Or.inl ⟨by rfl, ?_⟩) ?_ ?_
          rotate_left
          ·intro w'
           go_simp
           with_reducible rfl
          rotate_left
          ·simp only [Act.put, List.setIfInBounds_toArray, List.set_cons_zero, List.set_cons_succ, i64_w, i32_w]
           rfl
          refine pure_ (i := 24) (N := some 64) (v := ?_) (a' := ?_) #[true, true, true, true, true, true, true, true, true, true, true, true, true, true, true, true, true, true, true, true, true, true, true, true, true, false] rfl rfl (any_of HT_.out (by kernel_rfl)) (fun _ _ _ h => h) (Or.inl ⟨by rfl, ?_⟩) ?_ ?_
          rotate_left
          ·intro w'
           go_simp
           with_reducible rfl
          rotate_left
          ·simp only [Act.put, List.setIfInBounds_toArray, List.set_cons_zero, List.set_cons_succ, i64_w, i32_w]
           rfl
          refine pure_ (i := 25) (N := some 65) (v := ?_) (a' := ?_) #[true, true, true, true, true, true, true, true, true, true, true, true, true, true, true, true, true, true, true, true, true, true, true, true, true, true] rfl rfl (any_of HT_.out (by kernel_rfl)) (fun _ _ _ h => h) (Or.inl ⟨by rfl, ?_⟩) ?_ ?_
          rotate_left
          ·intro w'
           go_simp
           with_reducible rfl
          rotate_left
          ·simp only [Act.put, List.setIfInBounds_toArray, List.set_cons_zero, List.set_cons_succ, i64_w, i32_w]
           rfl
          refine done_ (done_of HT_.out (by kernel_rfl)) ?_
          try go_wp2
          go_meet
          case rel => exact ⟨_, ((t105 != x3_2)), (by first | rfl | (simp; done) | (simp [*]; done)), H', ⟨by have := HJ1.out; have := HK2.out; first | omega | exact Nat.le_refl _⟩, ⟨bk_⟩, ⟨bl_⟩⟩
         ·replace c35 := Bool.eq_false_iff.mpr c35
          subst c35
          have H1 : (schismalaw04_ConvergentWays.j2 k2 a0 true) = some r := by rw [if_neg (show ¬ (false = true) by decide)] at H; exact H
          clear H
          have H := H1
          clear H1
          have H' := Aside0.mk H
          clear H
          try go_wp2
          have n0_ : Aside0 (((w19.setCell ⟨gb106, 0, none⟩ (.string t103)).setCell ⟨gb106, 1, none⟩ (.string t104)).heap[gb106]? = some (.cells #[.string t103, .string t104] 24 (0, 0))) := ⟨by (with_reducible repeat (first | refine blk_drewN ?_ _ | refine blk_drew ?_ | refine blk_alloc ?_ _)); refine blk_put (cs := #[.string t103, .string (⟨#[]⟩ : ByteArray)]) ?_ 1 _ rfl; (with_reducible repeat (first | refine blk_drewN ?_ _ | refine blk_drew ?_ | refine blk_alloc ?_ _)); refine blk_put (cs := #[.string (⟨#[]⟩ : ByteArray), .string (⟨#[]⟩ : ByteArray)]) ?_ 0 _ rfl; (with_reducible repeat (first | refine blk_drewN ?_ _ | refine blk_drew ?_ | refine blk_alloc ?_ _)); exact BK106.out⟩
          have n1_ : Aside0 (Below w.heap.size w ((w19.setCell ⟨gb106, 0, none⟩ (.string t103)).setCell ⟨gb106, 1, none⟩ (.string t104))) := ⟨bl_⟩
          (try clear BK106); (try clear HB)
          generalize ((w19.setCell ⟨gb106, 0, none⟩ (.string t103)).setCell ⟨gb106, 1, none⟩ (.string t104)) = w39 at n0_ n1_ ⊢
          have BK106 := n0_
          have HB := n1_
          clear n0_ n1_
          have n0_ := Aside0.mk (blk_drew BK106.out)
          have n1_ := Aside0.mk (below_drew1 HB.out)
          clear BK106
          clear HB
          have BK106 := n0_
          have HB := n1_
          clear n0_ n1_
          refine start_ (n := 26) (S := fun w' => w'.cell? ⟨gb106, 0, none⟩ = some (.string t103) ∧ w'.cell? ⟨gb106, 1, none⟩ = some (.string t104)) (ds := []) #[false, false, false, false, false, false, false, false, false, false, false, false, false, false, false, false, false, false, false, false, false, false, false, false, false, false] (by kernel_rfl) rfl rfl ⟨(blk_cell BK106.out 0).trans rfl, (blk_cell BK106.out 1).trans rfl⟩ (fun hHeld => ?_); refine with_tabW schismalaw04_ConvergentWays.tab10 schismalaw04_ConvergentWays.bits10 (fun HT_ HW_ => ?_)
          generalize w39.drew = w40 at BK106 HB hHeld ⊢
          refine pure_ (i := 0) (N := some 40) (v := ?_) (a' := ?_) #[true, false, false, false, false, false, false, false, false, false, false, false, false, false, false, false, false, false, false, false, false, false, false, false, false, false] rfl rfl (any_of HT_.out (by kernel_rfl)) (fun _ _ _ h => h) (Or.inl ⟨by rfl, ?_⟩) ?_ ?_
          rotate_left
          ·intro w'
           go_simp
           with_reducible rfl
          rotate_left
          ·simp only [Act.put, List.setIfInBounds_toArray, List.set_cons_zero, List.set_cons_succ, i64_w, i32_w]
           rfl
          refine pure_ (i := 1) (N := some 41) (v := ?_) (a' := ?_) #[true, true, false, false, false, false, false, false, false, false, false, false, false, false, false, false, false, false, false, false, false, false, false, false, false, false] rfl rfl (any_of HT_.out (by kernel_rfl)) (fun _ _ _ h => h) (Or.inl ⟨by rfl, ?_⟩) ?_ ?_
          rotate_left
          ·intro w'
           go_simp
           with_reducible rfl
          rotate_left
          ·simp only [Act.put, List.setIfInBounds_toArray, List.set_cons_zero, List.set_cons_succ, i64_w, i32_w]
           rfl
          refine pure_ (i := 2) (N := some 42) (v := ?_) (a' := ?_) #[true, true, true, false, false, false, false, false, false, false, false, false, false, false, false, false, false, false, false, false, false, false, false, false, false, false] rfl rfl (any_of HT_.out (by kernel_rfl)) (fun _ _ _ h => h) (Or.inl ⟨by rfl, ?_⟩) ?_ ?_
          rotate_left
          ·intro w'
           go_simp
           with_reducible rfl
          rotate_left
          ·simp only [Act.put, List.setIfInBounds_toArray, List.set_cons_zero, List.set_cons_succ, i64_w, i32_w]
           rfl
          refine pure_ (i := 3) (N := some 43) (v := undef) (a' := ?_) #[true, true, true, true, false, false, false, false, false, false, false, false, false, false, false, false, false, false, false, false, false, false, false, false, false, false] rfl rfl (any_of HT_.out (by kernel_rfl)) (fun _ _ _ h => h) (Or.inr ⟨by rfl, rfl⟩) ?_ ?_
          rotate_left
          ·simp only [Act.put, List.setIfInBounds_toArray, List.set_cons_zero, List.set_cons_succ, i64_w, i32_w]
           rfl
          refine pure_ (i := 4) (N := some 44) (v := undef) (a' := ?_) #[true, true, true, true, true, false, false, false, false, false, false, false, false, false, false, false, false, false, false, false, false, false, false, false, false, false] rfl rfl (any_of HT_.out (by kernel_rfl)) (fun _ _ _ h => h) (Or.inr ⟨by rfl, rfl⟩) ?_ ?_
          rotate_left
          ·simp only [Act.put, List.setIfInBounds_toArray, List.set_cons_zero, List.set_cons_succ, i64_w, i32_w]
           rfl
          refine pure_ (i := 5) (N := some 45) (v := undef) (a' := ?_) #[true, true, true, true, true, true, false, false, false, false, false, false, false, false, false, false, false, false, false, false, false, false, false, false, false, false] rfl rfl (any_of HT_.out (by kernel_rfl)) (fun _ _ _ h => h) (Or.inr ⟨by rfl, rfl⟩) ?_ ?_
          rotate_left
          ·simp only [Act.put, List.setIfInBounds_toArray, List.set_cons_zero, List.set_cons_succ, i64_w, i32_w]
           rfl
          refine pure_ (i := 6) (N := some 46) (v := undef) (a' := ?_) #[true, true, true, true, true, true, true, false, false, false, false, false, false, false, false, false, false, false, false, false, false, false, false, false, false, false] rfl rfl (any_of HT_.out (by kernel_rfl)) (fun _ _ _ h => h) (Or.inr ⟨by rfl, rfl⟩) ?_ ?_
          rotate_left
          ·simp only [Act.put, List.setIfInBounds_toArray, List.set_cons_zero, List.set_cons_succ, i64_w, i32_w]
           rfl
          refine pure_ (i := 7) (N := some 47) (v := undef) (a' := ?_) #[true, true, true, true, true, true, true, true, false, false, false, false, false, false, false, false, false, false, false, false, false, false, false, false, false, false] rfl rfl (any_of HT_.out (by kernel_rfl)) (fun _ _ _ h => h) (Or.inr ⟨by rfl, rfl⟩) ?_ ?_
          rotate_left
          ·simp only [Act.put, List.setIfInBounds_toArray, List.set_cons_zero, List.set_cons_succ, i64_w, i32_w]
           rfl
          refine pure_ (i := 8) (N := some 48) (v := undef) (a' := ?_) #[true, true, true, true, true, true, true, true, true, false, false, false, false, false, false, false, false, false, false, false, false, false, false, false, false, false] rfl rfl (any_of HT_.out (by kernel_rfl)) (fun _ _ _ h => h) (Or.inr ⟨by rfl, rfl⟩) ?_ ?_
          rotate_left
          ·simp only [Act.put, List.setIfInBounds_toArray, List.set_cons_zero, List.set_cons_succ, i64_w, i32_w]
           rfl
          refine pure_ (i := 9) (N := some 49) (v := undef) (a' := ?_) #[true, true, true, true, true, true, true, true, true, true, false, false, false, false, false, false, false, false, false, false, false, false, false, false, false, false] rfl rfl (any_of HT_.out (by kernel_rfl)) (fun _ _ _ h => h) (Or.inr ⟨by rfl, rfl⟩) ?_ ?_
          rotate_left
          ·simp only [Act.put, List.setIfInBounds_toArray, List.set_cons_zero, List.set_cons_succ, i64_w, i32_w]
           rfl
          refine pure_ (i := 10) (N := some 50) (v := undef) (a' := ?_) #[true, true, true, true, true, true, true, true, true, true, true, false, false, false, false, false, false, false, false, false, false, false, false, false, false, false] rfl rfl (any_of HT_.out (by kernel_rfl)) (fun _ _ _ h => h) (Or.inr ⟨by rfl, rfl⟩) ?_ ?_
          rotate_left
          ·simp only [Act.put, List.setIfInBounds_toArray, List.set_cons_zero, List.set_cons_succ, i64_w, i32_w]
           rfl
          refine pure_ (i := 11) (N := some 51) (v := ?_) (a' := ?_) #[true, true, true, true, true, true, true, true, true, true, true, true, false, false, false, false, false, false, false, false, false, false, false, false, false, false] rfl rfl (any_of HT_.out (by kernel_rfl)) (fun _ _ _ h => h) (Or.inl ⟨by rfl, ?_⟩) ?_ ?_
          rotate_left
          ·intro w'
           go_simp
           with_reducible rfl
          rotate_left
          ·simp only [Act.put, List.setIfInBounds_toArray, List.set_cons_zero, List.set_cons_succ, i64_w, i32_w]
           rfl
          refine pure_ (i := 12) (N := some 52) (v := ?_) (a' := ?_) #[true, true, true, true, true, true, true, true, true, true, true, true, true, false, false, false, false, false, false, false, false, false, false, false, false, false] rfl rfl (any_of HT_.out (by kernel_rfl)) (fun _ _ _ h => h) (Or.inl ⟨by rfl, ?_⟩) ?_ ?_
          rotate_left
          ·intro w'
           go_simp
           with_reducible rfl
          rotate_left
          ·simp only [Act.put, List.setIfInBounds_toArray, List.set_cons_zero, List.set_cons_succ, i64_w, i32_w]
           rfl
          refine pure_ (i := 13) (N := some 53) (v := ?_) (a' := ?_) #[true, true, true, true, true, true, true, true, true, true, true, true, true, true, false, false, false, false, false, false, false, false, false, false, false, false] rfl rfl (any_of HT_.out (by kernel_rfl)) (fun _ _ _ h => h) (Or.inl ⟨by rfl, ?_⟩) ?_ ?_
          rotate_left
          ·intro w'
           go_simp
           with_reducible rfl
          rotate_left
          ·simp only [Act.put, List.setIfInBounds_toArray, List.set_cons_zero, List.set_cons_succ, i64_w, i32_w]
           rfl
          refine pure_ (i := 14) (N := some 54) (v := ?_) (a' := ?_) #[true, true, true, true, true, true, true, true, true, true, true, true, true, true, true, false, false, false, false, false, false, false, false, false, false, false] rfl rfl (any_of HT_.out (by kernel_rfl)) (fun _ _ _ h => h) (Or.inl ⟨by rfl, ?_⟩) ?_ ?_
          rotate_left
          ·intro w'
           go_simp
           with_reducible rfl
          rotate_left
          ·simp only [Act.put, List.setIfInBounds_toArray, List.set_cons_zero, List.set_cons_succ, i64_w, i32_w]
           rfl
          refine pure_ (i := 15) (N := some 55) (v := ?_) (a' := ?_) #[true, true, true, true, true, true, true, true, true, true, true, true, true, true, true, true, false, false, false, false, false, false, false, false, false, false] rfl rfl (any_of HT_.out (by kernel_rfl)) (fun _ _ _ h => h) (Or.inl ⟨by rfl, ?_⟩) ?_ ?_
          rotate_left
          ·intro w'
           go_simp
           with_reducible rfl
          rotate_left
          ·simp only [Act.put, List.setIfInBounds_toArray, List.set_cons_zero, List.set_cons_succ, i64_w, i32_w]
           rfl
          refine take_ (i := 16) (N := some 56) (v := ?_) (a' := ?_) #[true, true, true, true, true, true, true, true, true, true, true, true, true, true, true, true, true, false, false, false, false, false, false, false, false, false] rfl rfl (take_ofW HT_.out HW_.out (by kernel_rfl)) (fun _ _ _ h => h) (Or.inl ⟨by rfl, ?_⟩) hHeld ?_ ?_
          rotate_left
          ·rintro w' ⟨s0, s1⟩
           go_simp
           with_reducible rfl
          rotate_left
          ·simp only [Act.put, List.setIfInBounds_toArray, List.set_cons_zero, List.set_cons_succ, i64_w, i32_w]
           rfl
          refine one_ (i := 17) (N := some 57) #[true, true, true, true, true, true, true, true, true, true, true, true, true, true, true, true, true, true, false, false, false, false, false, false, false, false] rfl rfl (one_of HT_.out (by kernel_rfl)) (by decide) (fun K hK => ?_)
          refine goes_ Tryz.func16 (by kernel_rfl) rfl #[.agg #[.string t103, .string t104]] (by rfl) rfl rfl mp_ ?_
          with_reducible refine (schismalaw04_none.calls t103 t104 false _ A34.out).mono ?_
          rintro e w41 ⟨rfl, hb⟩
          refine ⟨_, rfl, ?_⟩
          have n0_ := kb_ BK106 hb
          have n1_ := bs_ hb
          clear BK106
          clear HB
          have BK106 := n0_
          have HB := n1_
          clear n0_ n1_
          (try clear hb); (try clear hb2); (try clear hk); (try clear hi)
          refine hK.out _ _ ⟨(blk_cell BK106.out 0).trans rfl, (blk_cell BK106.out 1).trans rfl⟩ (fun hHeld => ?_)
          clear hK K
          refine norm_ (a' := ?_) ?_ ?_
          rotate_left
          ·show Act.put _ (some 57) _ = _
           simp only [Act.put, List.setIfInBounds_toArray, List.set_cons_zero, List.set_cons_succ, i64_w, i32_w]
           rfl
          refine pure_ (i := 18) (N := some 58) (v := ?_) (a' := ?_) #[true, true, true, true, true, true, true, true, true, true, true, true, true, true, true, true, true, true, true, false, false, false, false, false, false, false] rfl rfl (any_of HT_.out (by kernel_rfl)) (fun _ _ _ h => h) (Or.inl ⟨by rfl, ?_⟩) ?_ ?_
          rotate_left
          ·intro w'
           go_simp
           with_reducible rfl
          rotate_left
          ·simp only [Act.put, List.setIfInBounds_toArray, List.set_cons_zero, List.set_cons_succ, i64_w, i32_w]
           rfl
          refine pure_ (i := 19) (N := some 59) (v := ?_) (a' := ?_) #[true, true, true, true, true, true, true, true, true, true, true, true, true, true, true, true, true, true, true, true, false, false, false, false, false, false] rfl rfl (any_of HT_.out (by kernel_rfl)) (fun _ _ _ h => h) (Or.inl ⟨by rfl, ?_⟩) ?_ ?_
          rotate_left
          ·intro w'
           go_simp
           with_reducible rfl
          rotate_left
          ·simp only [Act.put, List.setIfInBounds_toArray, List.set_cons_zero, List.set_cons_succ, i64_w, i32_w]
           rfl
          refine pure_ (i := 20) (N := some 60) (v := undef) (a' := ?_) #[true, true, true, true, true, true, true, true, true, true, true, true, true, true, true, true, true, true, true, true, true, false, false, false, false, false] rfl rfl (any_of HT_.out (by kernel_rfl)) (fun _ _ _ h => h) (Or.inr ⟨by rfl, rfl⟩) ?_ ?_
          rotate_left
          ·simp only [Act.put, List.setIfInBounds_toArray, List.set_cons_zero, List.set_cons_succ, i64_w, i32_w]
           rfl
          refine pure_ (i := 21) (N := some 61) (v := undef) (a' := ?_) #[true, true, true, true, true, true, true, true, true, true, true, true, true, true, true, true, true, true, true, true, true, true, false, false, false, false] rfl rfl (any_of HT_.out (by kernel_rfl)) (fun _ _ _ h => h) (Or.inr ⟨by rfl, rfl⟩) ?_ ?_
          rotate_left
          ·simp only [Act.put, List.setIfInBounds_toArray, List.set_cons_zero, List.set_cons_succ, i64_w, i32_w]
           rfl
          refine pure_ (i := 22) (N := some 62) (v := undef) (a' := ?_) #[true, true, true, true, true, true, true, true, true, true, true, true, true, true, true, true, true, true, true, true, true, true, true, false, false, false] rfl rfl (any_of HT_.out (by kernel_rfl)) (fun _ _ _ h => h) (Or.inr ⟨by rfl, rfl⟩) ?_ ?_
          rotate_left
          ·simp only [Act.put, List.setIfInBounds_toArray, List.set_cons_zero, List.set_cons_succ, i64_w, i32_w]
           rfl
          refine pure_ (i := 23) (N := some 63) (v := ?_) (a' := ?_) #[true, true, true, true, true, true, true, true, true, true, true, true, true, true, true, true, true, true, true, true, true, true, true, true, false, false] rfl rfl (any_of HT_.out (by kernel_rfl)) (fun _ _ _ h => h) (Or.inl ⟨by rfl, ?_⟩) ?_ ?_
          rotate_left
          ·intro w'
           go_simp
           with_reducible rfl
          rotate_left
          ·simp only [Act.put, List.setIfInBounds_toArray, List.set_cons_zero, List.set_cons_succ, i64_w, i32_w]
           rfl
          refine pure_ (i := 24) (N := some 64) (v := ?_) (a' := ?_) #[true, true, true, true, true, true, true, true, true, true, true, true, true, true, true, true, true, true, true, true, true, true, true, true, true, false] rfl rfl (any_of HT_.out (by kernel_rfl)) (fun _ _ _ h => h) (Or.inl ⟨by rfl, ?_⟩) ?_ ?_
          rotate_left
          ·intro w'
           go_simp
           with_reducible rfl
          rotate_left
          ·simp only [Act.put, List.setIfInBounds_toArray, List.set_cons_zero, List.set_cons_succ, i64_w, i32_w]
           rfl
          refine pure_ (i := 25) (N := some 65) (v := ?_) (a' := ?_) #[true, true, true, true, true, true, true, true, true, true, true, true, true, true, true, true, true, true, true, true, true, true, true, true, true, true] rfl rfl (any_of HT_.out (by kernel_rfl)) (fun _ _ _ h => h) (Or.inl ⟨by rfl, ?_⟩) ?_ ?_
          rotate_left
          ·intro w'
           go_simp
           with_reducible rfl
          rotate_left
          ·simp only [Act.put, List.setIfInBounds_toArray, List.set_cons_zero, List.set_cons_succ, i64_w, i32_w]
           rfl
          refine done_ (done_of HT_.out (by kernel_rfl)) ?_
          try go_wp2
          go_meet
          case rel => exact ⟨_, (true), (by first | rfl | (simp; done) | (simp [*]; done)), H', ⟨by have := HJ1.out; have := HK2.out; first | omega | exact Nat.le_refl _⟩, ⟨bk_⟩, ⟨bl_⟩⟩
       case rest =>
        clear HC17
        try clear c1
        try clear c2
        try clear p2
        try clear c3
        try clear c16
        try clear c21
        try clear c21b0
        try clear c21b1
        try clear c35
        try clear c37
        obtain ⟨kq, x65_16, rfl, HA, HJ16, BK106, HB⟩ := hcut
        cases kq with
        | zero => exact absurd HA.out (by simp [schismalaw04_ConvergentWays.j2])
        | succ kj16 =>
         have H := HA.out
         clear HA
         simp only [schismalaw04_ConvergentWays.j2] at H
         by_cases c42 : x65_16 = true
         ·subst c42
          have H1 : (some false) = some r := by rw [if_pos rfl] at H; exact H
          clear H
          have H := H1
          clear H1
          obtain rfl := Option.some.inj H
          go_wp2
          go_ret
          exact ⟨er_, bl_⟩
         ·replace c42 := Bool.eq_false_iff.mpr c42
          subst c42
          have H1 : (schismalaw04_ConvergentWays.l1 kj16 a0 (⟨#[]⟩ : ByteArray) 0) = some r := by rw [if_neg (show ¬ (false = true) by decide)] at H; exact H
          clear H
          have H := H1
          clear H1
          have H' := Aside0.mk H
          clear H
          go_wp2
          go_loopg [7, 8] kj16 (fun kq v7 v8 w' => ∃ (x7_4 : ByteArray) (x8_4 : Int), v7 = .string x7_4 ∧ v8 = .int .i64 x8_4 ∧ Aside0 (schismalaw04_ConvergentWays.l1 kq a0 x7_4 x8_4 = some r) ∧ Aside0 (kq ≤ kj16) ∧ Aside0 (w'.heap[gb106]? = some (.cells #[.string t103, .string t104] 24 (0, 0))) ∧ Aside0 (Below w.heap.size w w'))
          case atStart => exact ⟨((⟨#[]⟩ : ByteArray)), (0), (by first | rfl | (simp; done) | (simp [*]; done)), (by first | rfl | (simp; done) | (simp [*]; done)), H', ⟨Nat.le_refl _⟩, ⟨bk_⟩, ⟨bl_⟩⟩
          case round =>
           clear H'
           try clear c1
           try clear c2
           try clear p2
           try clear c3
           try clear c4
           try clear c16
           try clear c21
           try clear c21b0
           try clear c21b1
           try clear c35
           try clear c37
           try clear c42
           try clear p2
           obtain ⟨x7_4, x8_4, rfl, rfl, HA, HK4, BK106, HB⟩ := hrel
           cases gk with
           | zero => exact absurd HA.out (by simp [schismalaw04_ConvergentWays.l1])
           | succ k4 =>
            have H := HA.out
            clear HA
            simp only [schismalaw04_ConvergentWays.l1] at H
            by_cases c43 : x8_4 < 40
            ·rw [if_pos c43] at H
             have c43b0 : decide (x8_4 < 40) = true := decide_eq_true c43
             clear c43
             by_cases c44 : x7_4.size + a0.size ≤ 9223372036854775807
             ·rw [if_pos c44] at H
              have c44b0 := eq_true c44
              have c44b1 : decide (x7_4.size + a0.size ≤ 9223372036854775807) = true := decide_eq_true c44
              try have c44b2 : (9223372036854775807 < x7_4.size + a0.size) = False := eq_false (Nat.not_lt.2 c44)
              have H' := Aside0.mk H
              clear H
              go_wp2
              go_roundg k4
              case measure => have := HJ1.out; have := HK2.out; have := HJ16.out; have := HK4.out; omega
              case rel => exact ⟨(x7_4 ++ a0), (wrap64 (x8_4 + 1)), (by first | rfl | (simp; done) | (simp [*]; done)), (by first | rfl | (simp; done) | (simp [*]; done)), H', ⟨by have := HJ1.out; have := HK2.out; have := HJ16.out; have := HK4.out; omega⟩, ⟨bk_⟩, ⟨bl_⟩⟩
             ·rw [if_neg c44] at H
              exact absurd H (by simp)
            ·rw [if_neg c43] at H
             have c43b0 : decide (x8_4 < 40) = false := decide_eq_false c43
             clear c43
             by_cases c45 : (x7_4.size : Int) > 1000
             ·rw [if_pos c45] at H
              have c45b0 : decide (1000 < (x7_4.size : Int)) = true := decide_eq_true c45
              have c45b1 : decide (1000 < x7_4.size) = true := decide_eq_true (by omega)
              clear c45
              replace H := Option.bind_eq_some_iff.mp H
              obtain ⟨⟨t110, t111, t112⟩, A460, H⟩ := H
              replace H : ((schismalaw04_none.f t110 t111).bind fun t114 => (if t114 = true then (some (t112 == 16)) else (some false))) = some r := H
              have A46 := Aside0.mk A460
              clear A460
              replace H := Option.bind_eq_some_iff.mp H
              obtain ⟨t114, A470, H⟩ := H
              replace H : (if t114 = true then (some (t112 == 16)) else (some false)) = some r := H
              have A47 := Aside0.mk A470
              clear A470
              by_cases c48 : t114 = true
              ·subst c48
               have H1 : (some (t112 == 16)) = some r := by rw [if_pos rfl] at H; exact H
               clear H
               have H := H1
               clear H1
               obtain rfl := Option.some.inj H
               go_wp2_with (first | ((with_reducible refine gate_callee (f := 33) rfl ?_); refine goesL_ (some 78) rfl rfl Tryz.func33 (by kernel_rfl) rfl #[.string x7_4] rfl mp_ ?_; (with_reducible refine (convergent_At.calls k4 x7_4 t110 t111 t112 _ ?side1 A46.out).mono ?_); (case side1 => exact gw_ HG); rintro e w49 ⟨rfl, hb⟩; refine ⟨_, rfl, ?_⟩; replace BK106 := kb_ BK106 hb; replace HB := bs_ hb; (try clear hb); (try clear hb2); (try clear hk); (try clear hi)) | ((with_reducible refine gate_dst (N := 9) rfl ?_); (try (refine gate_guard (by rfl) ?_; dsimp only)); refine box_event ?hg (N := 9) ?hd (cs := #[.string (⟨#[]⟩ : ByteArray), .string (⟨#[]⟩ : ByteArray)]) (t := 24) ?hr ?_; (case hd => rfl); (case hg => rfl); (case hr => first | (go_simp; done) | (go_simp; rfl)); intro gb113 hg w50 hbox hb; have BK113 := Aside0.mk (hbox); have GW113 := ge_ (w := w) hg; have GE113 := ge_ (w := w) hg; replace HB := bs_ hb; have NB106_113 := nl_ hg BK106; have NB113_106 := ng_ hg BK106; replace BK106 := kb_ BK106 hb; clear hb hbox hg; have hnb51 := NB113_106.out; have hnc51 := NB106_113.out; obtain ⟨hcz52_0, hcz52_1, hfz52_0, hfz52_1⟩ := c2_ BK113) | ((with_reducible refine gate_callee (f := 16) rfl ?_); refine goesL_ (some 82) rfl rfl Tryz.func16 (by kernel_rfl) rfl #[.agg #[.string t110, .string t111]] rfl mp_ ?_; (with_reducible refine (schismalaw04_none.calls t110 t111 true _ A47.out).mono ?_); rintro e w53 ⟨rfl, hb⟩; refine ⟨_, rfl, ?_⟩; replace BK106 := Aside0.mk (blk_below (g := gb106) (o := .cells #[.string t103, .string t104] 24 (0, 0)) (by (with_reducible repeat (first | refine blk_drewN ?_ _ | refine blk_drew ?_ | refine blk_alloc ?_ _)); refine blk_far ?_ NB106_113.out _; (with_reducible repeat (first | refine blk_drewN ?_ _ | refine blk_drew ?_ | refine blk_alloc ?_ _)); refine blk_far ?_ NB106_113.out _; (with_reducible repeat (first | refine blk_drewN ?_ _ | refine blk_drew ?_ | refine blk_alloc ?_ _)); exact BK106.out) hb); replace BK113 := Aside0.mk (blk_below (g := gb113) (o := .cells #[.string t110, .string t111] 24 (0, 0)) (by (with_reducible repeat (first | refine blk_drewN ?_ _ | refine blk_drew ?_ | refine blk_alloc ?_ _)); refine blk_put (cs := #[.string t110, .string (⟨#[]⟩ : ByteArray)]) ?_ 1 _ rfl; (with_reducible repeat (first | refine blk_drewN ?_ _ | refine blk_drew ?_ | refine blk_alloc ?_ _)); refine blk_put (cs := #[.string (⟨#[]⟩ : ByteArray), .string (⟨#[]⟩ : ByteArray)]) ?_ 0 _ rfl; (with_reducible repeat (first | refine blk_drewN ?_ _ | refine blk_drew ?_ | refine blk_alloc ?_ _)); exact BK113.out) hb); replace HB := bs_ hb; (try clear hb); (try clear hb2); (try clear hk); (try clear hi)))
               go_ret
               exact ⟨er_, bl_⟩
              ·replace c48 := Bool.eq_false_iff.mpr c48
               subst c48
               have H1 : (some false) = some r := by rw [if_neg (show ¬ (false = true) by decide)] at H; exact H
               clear H
               have H := H1
               clear H1
               obtain rfl := Option.some.inj H
               go_wp2_with (first | ((with_reducible refine gate_callee (f := 33) rfl ?_); refine goesL_ (some 78) rfl rfl Tryz.func33 (by kernel_rfl) rfl #[.string x7_4] rfl mp_ ?_; (with_reducible refine (convergent_At.calls k4 x7_4 t110 t111 t112 _ ?side1 A46.out).mono ?_); (case side1 => exact gw_ HG); rintro e w54 ⟨rfl, hb⟩; refine ⟨_, rfl, ?_⟩; replace BK106 := kb_ BK106 hb; replace HB := bs_ hb; (try clear hb); (try clear hb2); (try clear hk); (try clear hi)) | ((with_reducible refine gate_dst (N := 9) rfl ?_); (try (refine gate_guard (by rfl) ?_; dsimp only)); refine box_event ?hg (N := 9) ?hd (cs := #[.string (⟨#[]⟩ : ByteArray), .string (⟨#[]⟩ : ByteArray)]) (t := 24) ?hr ?_; (case hd => rfl); (case hg => rfl); (case hr => first | (go_simp; done) | (go_simp; rfl)); intro gb113 hg w55 hbox hb; have BK113 := Aside0.mk (hbox); have GW113 := ge_ (w := w) hg; have GE113 := ge_ (w := w) hg; replace HB := bs_ hb; have NB106_113 := nl_ hg BK106; have NB113_106 := ng_ hg BK106; replace BK106 := kb_ BK106 hb; clear hb hbox hg; have hnb56 := NB113_106.out; have hnc56 := NB106_113.out; obtain ⟨hcz57_0, hcz57_1, hfz57_0, hfz57_1⟩ := c2_ BK113) | ((with_reducible refine gate_callee (f := 16) rfl ?_); refine goesL_ (some 82) rfl rfl Tryz.func16 (by kernel_rfl) rfl #[.agg #[.string t110, .string t111]] rfl mp_ ?_; (with_reducible refine (schismalaw04_none.calls t110 t111 false _ A47.out).mono ?_); rintro e w58 ⟨rfl, hb⟩; refine ⟨_, rfl, ?_⟩; replace BK106 := Aside0.mk (blk_below (g := gb106) (o := .cells #[.string t103, .string t104] 24 (0, 0)) (by (with_reducible repeat (first | refine blk_drewN ?_ _ | refine blk_drew ?_ | refine blk_alloc ?_ _)); refine blk_far ?_ NB106_113.out _; (with_reducible repeat (first | refine blk_drewN ?_ _ | refine blk_drew ?_ | refine blk_alloc ?_ _)); refine blk_far ?_ NB106_113.out _; (with_reducible repeat (first | refine blk_drewN ?_ _ | refine blk_drew ?_ | refine blk_alloc ?_ _)); exact BK106.out) hb); replace BK113 := Aside0.mk (blk_below (g := gb113) (o := .cells #[.string t110, .string t111] 24 (0, 0)) (by (with_reducible repeat (first | refine blk_drewN ?_ _ | refine blk_drew ?_ | refine blk_alloc ?_ _)); refine blk_put (cs := #[.string t110, .string (⟨#[]⟩ : ByteArray)]) ?_ 1 _ rfl; (with_reducible repeat (first | refine blk_drewN ?_ _ | refine blk_drew ?_ | refine blk_alloc ?_ _)); refine blk_put (cs := #[.string (⟨#[]⟩ : ByteArray), .string (⟨#[]⟩ : ByteArray)]) ?_ 0 _ rfl; (with_reducible repeat (first | refine blk_drewN ?_ _ | refine blk_drew ?_ | refine blk_alloc ?_ _)); exact BK113.out) hb); replace HB := bs_ hb; (try clear hb); (try clear hb2); (try clear hk); (try clear hi)))
               go_ret
               exact ⟨er_, bl_⟩
             ·rw [if_neg c45] at H
              have c45b0 : decide (1000 < (x7_4.size : Int)) = false := decide_eq_false c45
              have c45b1 : decide (1000 < x7_4.size) = false := decide_eq_false (by omega)
              clear c45
              obtain rfl := Option.some.inj H
              go_wp2
              go_ret
              exact ⟨er_, bl_⟩
end Go.Proofs.YtidajgkepdkcbaaGreatDoor.PL
end
section
namespace Go.Proofs.YtidajgkepdkcbaaGreatDoor
open Go.RowKit Go.Lib Go.Proofs.YtidajgkepdkcbaaGreatDoorW.PrintWords Go.Proofs.YtidajgkepdkcbaaGreatDoorW.PrintLast Go.Proofs.YtidajgkepdkcbaaGreatDoorW.PrintMore PF PL
theorem Nd.double : ∀ (l : List Bool) (t : Nd), t.Pos → (t.walk l).a + (t.walk l).x ≤ 2 ^ l.length * (t.a + t.x) ∧ (t.walk l).b + (t.walk l).y ≤ 2 ^ l.length * (t.b + t.y)
 | [], _, _ => by simp [Nd.walk]
 | s :: l, t, h => by
  obtain ⟨i1, i2⟩ := Nd.double l (t.go s) (h.go s)
  have e : t.walk (s :: l) = (t.go s).walk l := rfl
  rw [e]
  obtain ⟨h1, h2, h3, h4⟩ := h
  have g : (t.go s).a + (t.go s).x ≤ 2 * (t.a + t.x) ∧ (t.go s).b + (t.go s).y ≤ 2 * (t.b + t.y) := by
   cases s <;> (simp only [Nd.go]; simp; omega)
  have hp : (0 : Int) ≤ 2 ^ l.length := Int.le_of_lt (Int.pow_pos (by omega))
  have m1 := Int.mul_le_mul_of_nonneg_left g.1 hp
  have m2 := Int.mul_le_mul_of_nonneg_left g.2 hp
  have e1 : (2 : Int) ^ (s :: l).length = 2 ^ l.length * 2 := by rw [List.length_cons, Int.pow_succ]
  rw [e1, Int.mul_assoc, Int.mul_assoc]
  omega
theorem wy_true (a : ByteArray) : Ev (fun k => schismalaw04_ConvergentWays.j0 k a true) true := by
 refine Ev.step (fun k => by rw [schismalaw04_ConvergentWays.j0, if_pos rfl]) ?_
 exact Ev.bind Known (ev_const fun _ => rfl)
theorem At_long {p : ByteArray} (h : 1000 < p.size) (k : Nat) : convergent_At.f k p = some (⟨#[]⟩, ⟨#[]⟩, 16) := by unfold convergent_At.f; rw [if_pos h]
theorem wy_l1 (s : ByteArray) (hs : s.size ≤ 30) : ∀ (m j : Nat) (acc : ByteArray), 40 = j + m → acc.size ≤ j * 30 → Ev (fun k => schismalaw04_ConvergentWays.l1 k s acc (j : Int)) true
 | 0, j, acc, hj, ha => by
  refine Ev.step (fun k => by rw [schismalaw04_ConvergentWays.l1, if_neg (by omega)]) ?_
  by_cases h : (acc.size : Int) > 1000
  ·refine Ev.congr (fun k => if_pos h) ?_
   refine Ev.bind (ev_const fun k => At_long (by omega) k) (ev_const fun k => ?_)
   simp only [schismalaw04_none.f]
   simp [ByteArray.toList_eq]
  ·exact ev_const fun k => if_neg h
 | m + 1, j, acc, hj, ha => by
  refine Ev.step (fun k => by rw [schismalaw04_ConvergentWays.l1, if_pos (by omega), if_pos (by omega), w64 (x := (j : Int) + 1) (by omega) (by omega)]) ?_
  exact wy_l1 s hs m (j + 1) (acc ++ s) (by omega) (by rw [ByteArray.size_append]; omega)
theorem wy_j2 (s : ByteArray) (hs : s.size ≤ 30) : Ev (fun k => schismalaw04_ConvergentWays.j2 k s false) true := by
 refine Ev.step (fun k => by rw [schismalaw04_ConvergentWays.j2, if_neg (by simp)]) ?_
 exact wy_l1 s hs 40 0 _ rfl (by simp [ByteArray.size])
def isWay (l : List UInt8) : Prop := ∀ x ∈ l, x = 76 ∨ x = 82
instance (l : List UInt8) : Decidable (isWay l) := by unfold isWay; exact inferInstance
def saidWay (l : List UInt8) : Int := if isWay l then 0 else 15
theorem wy_end (s : ByteArray) (hs : s.size ≤ 30) : Ev (fun k => schismalaw04_ConvergentWays.l0 k s (saidWay s.data.toList) (s.size : Int)) true := by
 refine Ev.step (fun k => by rw [schismalaw04_ConvergentWays.l0, if_neg (by omega)]) ?_
 by_cases h : isWay s.data.toList
 ·have e0 : saidWay s.data.toList = 0 := if_pos h
  rw [e0]
  obtain ⟨l, rfl⟩ : ∃ l, s = wayT l := by
   refine ⟨s.data.toList.map (fun x => x == 76), ?_⟩
   unfold wayT
   rw [List.map_map]
   have : s.data.toList.map (wb ∘ fun x => x == 76) = s.data.toList := by
    refine (List.map_congr_left (g := id) fun x hx => ?_).trans (List.map_id _)
    rcases h x hx with rfl | rfl <;> decide
   rw [this]
  have hl : l.length ≤ 30 := by simpa [wayT, ByteArray.size] using hs
  have hd := Nd.double l Nd.root Nd.root_pos
  have hp : (2 : Int) ^ l.length ≤ 2 ^ 30 := by
   have := Nat.pow_le_pow_right (show 0 < 2 by omega) hl
   have e : ((2 ^ l.length : Nat) : Int) = 2 ^ l.length := by simp
   omega
  have r1 : Nd.root.a + Nd.root.x = 1 := rfl
  have r2 : Nd.root.b + Nd.root.y = 1 := rfl
  rw [r1, r2, Int.mul_one] at hd
  refine Ev.bind (At_T l (by omega) (by omega) (by omega)) (Ev.congr (fun k => if_pos rfl) ?_)
  refine Ev.bind (RAt_T l (by omega) (by omega) (by omega)) ?_
  refine Ev.congr (fun k => by rw [if_neg (by simp), if_pos rfl]) ?_
  exact wy_j2 _ (by simpa [wayT, ByteArray.size] using hl)
 ·have e0 : saidWay s.data.toList = 15 := if_neg h
  rw [e0]
  have hA : ∀ k, convergent_At.f k s = some (⟨#[]⟩, ⟨#[]⟩, 15) := fun k => by
   unfold convergent_At.f
   rw [if_neg (by omega), if_pos]
   intro ht
   apply h
   intro x hx
   have := trimS_nil.1 ht x hx
   simpa using this
  refine Ev.bind (ev_const hA) (Ev.congr (fun k => if_neg (by omega)) ?_)
  refine Ev.bind (ev_const (r := true) fun k => by simp [schismalaw04_none.f, ByteArray.toList_eq]) (Ev.congr (fun k => if_pos rfl) ?_)
  exact wy_j2 s hs
theorem saidWay_snoc (l : List UInt8) (x : UInt8) : saidWay (l ++ [x]) = if x = 76 ∨ x = 82 then saidWay l else 15 := by
 unfold saidWay
 have : isWay (l ++ [x]) ↔ isWay l ∧ (x = 76 ∨ x = 82) := by
  unfold isWay
  constructor
  ·intro h; exact ⟨fun y hy => h y (by simp [hy]), h x (by simp)⟩
  ·rintro ⟨h1, h2⟩ y hy
   rcases List.mem_append.1 hy with hy | hy
   ·exact h1 y hy
   ·simp at hy; rw [hy]; exact h2
 by_cases hx : x = 76 ∨ x = 82
 ·rw [if_pos hx]
  by_cases hl : isWay l
  ·rw [if_pos hl, if_pos (this.2 ⟨hl, hx⟩)]
  ·rw [if_neg hl, if_neg (fun h => hl (this.1 h).1)]
 ·rw [if_neg hx, if_neg (fun h => hx (this.1 h).2)]
theorem wy_l0 (s : ByteArray) (hs : s.size ≤ 30) : ∀ (m j : Nat), s.size = j + m → Ev (fun k => schismalaw04_ConvergentWays.l0 k s (saidWay (s.data.toList.take j)) (j : Int)) true
 | 0, j, hj => by
  have : j = s.size := by omega
  subst this
  have el : s.data.toList.take s.size = s.data.toList := List.take_of_length_le (Nat.le_of_eq (Array.length_toList (xs := s.data)))
  rw [el]
  exact wy_end s hs
 | m + 1, j, hj => by
  have hlt : j < s.data.toList.length := by simp; have : s.size = s.data.size := rfl; omega
  have hbt : bt s (j : Int) = ((s.data.toList[j]).toNat : Int) := by
   unfold bt
   rw [dif_pos (by omega)]
   rfl
  have ih := wy_l0 s hs m (j + 1) (by omega)
  rw [List.take_succ_eq_append_getElem hlt, saidWay_snoc] at ih
  refine Ev.step (fun k => by rw [schismalaw04_ConvergentWays.l0, if_pos (by omega), if_pos (by omega), hbt, w64 (x := (j : Int) + 1) (by omega) (by omega)]) ?_
  have key : ∀ c : UInt8, ((c.toNat : Int) = 76 ↔ c = 76) ∧ ((c.toNat : Int) = 82 ↔ c = 82) := fun c => by
   constructor
   ·constructor
    ·intro h; apply UInt8.toNat_inj.1; have : (76 : UInt8).toNat = 76 := rfl; omega
    ·rintro rfl; rfl
   ·constructor
    ·intro h; apply UInt8.toNat_inj.1; have : (82 : UInt8).toNat = 82 := rfl; omega
    ·rintro rfl; rfl
  obtain ⟨k1, k2⟩ := key s.data.toList[j]
  by_cases c1 : s.data.toList[j] = 76
  ·rw [if_pos (.inl c1)] at ih
   exact Ev.congr (fun k => if_pos (k1.2 c1)) ih
  ·by_cases c2 : s.data.toList[j] = 82
   ·rw [if_pos (.inr c2)] at ih
    exact Ev.congr (fun k => by rw [if_neg (fun h => c1 (k1.1 h)), if_pos (k2.2 c2)]; rfl) ih
   ·rw [if_neg (by exact fun h => h.elim c1 c2)] at ih
    exact Ev.congr (fun k => by rw [if_neg (fun h => c1 (k1.1 h)), if_neg (fun h => c2 (k2.1 h))]; rfl) ih
theorem ConvergentWays_true (a : ByteArray) : ∃ k, schismalaw04_ConvergentWays.f k a = some true := by
 refine Ev.rounds (g := fun k => schismalaw04_ConvergentWays.f k a) ?_
 unfold schismalaw04_ConvergentWays.f
 refine Ev.bind Known (Ev.congr (fun k => if_pos rfl) ?_)
 by_cases h2 : (a.size : Int) > 30
 ·rw [decide_eq_true h2]; exact wy_true _
 ·rw [decide_eq_false h2]
  refine Ev.step (fun k => by rw [schismalaw04_ConvergentWays.j0, if_neg (by simp)]) ?_
  have := wy_l0 a (by omega) a.size 0 (by omega)
  simpa [saidWay, isWay] using this
end Go.Proofs.YtidajgkepdkcbaaGreatDoor
end
