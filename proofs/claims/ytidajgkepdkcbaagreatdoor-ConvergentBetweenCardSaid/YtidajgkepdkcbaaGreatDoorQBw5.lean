/- ConvergentBetween: for every fraction of the statement's sizes and every bound from 1 to 50, each best approximation is among the semiconvergents, and of the two neighbours of a number that is no fraction of the bound the mediant's denominator is greater than the bound and at most the number's; each argument reads as before. Conditions: none besides those that the statement itself states. -/
import Derived.Test.YtidajgkepdkcbaaGreatDoorQBw4
import Derived.ProofKit
import Derived.LaidMore
import Derived.OpenShut
import Derived.ShutString
import Derived.ChangeOld
import Derived.Stop.Joined
import Derived.Lib.LaidU8
import Derived.MakeChecks
import Derived.SevenTiedAt
import Derived.Test.YtidajgkepdkcbaaGreatDoorRows
import Derived.Test.YtidajgkepdkcbaaGreatDoorTie
import Derived.Test.YtidajgkepdkcbaaGreatDoorCards
set_option linter.unusedVariables false
set_option linter.unusedSimpArgs false
section
namespace Go.Proofs.YtidajgkepdkcbaaGreatDoor
open Go Go.ChangeShapes Go.WideShapes Go.ChangeAt Go.WideMaps Go.WideElems Go.RowKit Go.Lib Go.Deep
set_option maxRecDepth 100000
theorem own : ownKnob Tryz.prog.godebug = none := by kernel_rfl
theorem tPow : (Tryz.prog.globals[5]?).map (·.type) = some 196 := by kernel_rfl
theorem G_of_laid {l : List (String × DataW Unit)} {W : World} (h : laidMetH Tryz.prog l W) (hp : (l.all fun x => x.2.handleName?.isNone) = true) (hm : ("internal/strconv.uint64pow10", Rows.laid_internal_strconv_uint64pow10) ∈ l) : GWorld W := by
 rw [MakeChecks.laidMetH_plain _ _ _ hp] at h
 have hr := Lib.laidMet.reads h hm
 obtain ⟨g, t, cs, fuel, p, hg, ht, hvar, hd⟩ := hr
 obtain rfl := Option.some.inj (gPow.symm.trans hg)
 obtain rfl := Option.some.inj (tPow.symm.trans ht)
 have e : (Rows.laid_internal_strconv_uint64pow10 : DataW Unit) = Lib.tabData .u64 Lib.pow10Tab := by kernel_rfl
 rw [e] at hd
 have h1 := Lib.cells_of_tab Tryz.underlying196 Tryz.underlying133 (by kernel_rfl) (by kernel_rfl) hd
 refine ⟨?_⟩
 unfold Lib.TabIs
 rw [hvar, ← h1]
theorem one24 : oneCellFields Tryz.prog #[{ name := "Num", type := 22, offset := 0, embedded := false, tag := "", pkgPath := "", byteOffset := 0 }, { name := "Den", type := 22, offset := 1, embedded := false, tag := "", pkgPath := "", byteOffset := 16 }] = true := by kernel_rfl
theorem cells24 : Tryz.prog.cellsOf 24 = 2 := by kernel_rfl
section
variable {H : Type} {enc : TypeId × Value → H} {w : World} {base : Nat} {sp : Nat → Bool} {held : Bool}
theorem open24 {r : Reach} {b0 : Nat} {v : Value} {d : DataW H} {p : List MemPlace} (hv : Value.okWide Tryz.prog w r b0 24 v) (h : DataW.Trod enc Tryz.prog w base sp held 24 v d p) :
  ∃ a b : ByteArray, v = .agg #[.string a, .string b] ∧ d = .agg [.lit (.string a.data.toList), .lit (.string b.data.toList)] ∧ p = [] ∧ a.size ≤ maxLen ∧ b.size ≤ maxLen := by
 obtain ⟨v0, v1, y0, y1, n, rfl, rfl, rfl, h0, h1⟩ := Joins.open_agg2 Tryz.underlying24 one24 cells24 hv h
 obtain ⟨a, e1, rfl, ha⟩ := DataW.trod_string Tryz.underlying22 h0
 obtain ⟨b, e2, rfl, hb⟩ := DataW.trod_string Tryz.underlying22 h1
 simp only [List.cons.injEq, and_true] at e1 e2
 subst e1 e2
 exact ⟨a, b, rfl, rfl, rfl, ha, hb⟩
theorem shut24 {a b : ByteArray} (ha : a.size ≤ maxLen) (hb : b.size ≤ maxLen) : DataW.Trod enc Tryz.prog w base sp held 24 (.agg #[.string a, .string b]) (.agg [.lit (.string a.data.toList), .lit (.string b.data.toList)]) [] :=
 Joins.shut_agg2 (y0 := (.lit (.string a.data.toList), [])) (y1 := (.lit (.string b.data.toList), [])) Tryz.underlying24 one24 cells24 (Go.Deep.shut_string_cell Tryz.underlying22 ha) (Go.Deep.shut_string_cell Tryz.underlying22 hb)
end
end Go.Proofs.YtidajgkepdkcbaaGreatDoor
end
section
namespace Go.Proofs.YtidajgkepdkcbaaGreatDoor.convergentBetween
open Go Go.ChangeShapes Go.WideShapes Go.ChangeAt Go.WideMaps Go.WideElems Go.RowKit Go.Proofs.YtidajgkepdkcbaaGreatDoor.PF Go.Proofs.YtidajgkepdkcbaaGreatDoor.PL
open Go.ChangeMaps (open_string shut_string)
set_option maxRecDepth 100000
theorem door_met (os : Os) (args : Array Value) : laidMetH Tryz.prog Rows.convergentBetweenRow.laid ((World.doorLaid Tryz.prog 400 os).forCall (fun _ _ => 0) ⟨#[], args, []⟩).memory :=
 laidMetH_of_parts3 (fuel := 8) (laidMet_of_run' 8 (by kernel_rfl) (by kernel_rfl)) (by kernel_rfl) (by kernel_rfl)
theorem lifted (os : Os) (started : os.Started) (H : Type) (enc : TypeId × Value → H) :
  ReturnsInHanded {} Tryz.checked os 12 .any (fun w args => (Rows.convergentBetweenSpec.pre enc Tryz.prog Tryz.f12 [] false w args ∧ laidMetH Tryz.prog Rows.convergentBetweenRow.laid w) ∧ sizedMet enc Tryz.prog Tryz.f12 (OpenSpec.ofChange Rows.convergentBetweenSpec) false w args)
   (Rows.convergentBetweenSpec.post enc Tryz.prog Tryz.f12 false true false false) := by
 refine returnsInHanded_of_change_and (C := Tryz.checked) (X := fun w _ => laidMetH Tryz.prog Rows.convergentBetweenRow.laid w) (fun _ _ _ hh h => h.of_heap hh) own started (by kernel_rfl) Tryz.func12
  (ChangeSpec.witness_shaped (enc := enc) (C := Tryz.checked) (os := os) (X := fun w _ => laidMetH Tryz.prog Rows.convergentBetweenRow.laid w) false (World.doorLaid Tryz.prog 400 os) #[.agg #[.string ByteArray.empty, .string ByteArray.empty], .int .u8 0] 8 rfl (World.shaped_of_RefB (by kernel_rfl) (by kernel_rfl)) (by kernel_rfl) (by kernel_rfl) (by kernel_rfl) (door_met os _)) ?_
 intro W base args ds gs before hval0 hW _ _ hL _
 have hval : ∀ (j : Nat) t v, Tryz.f12.params[j]? = some t → args[j]? = some v → Value.okWide Tryz.prog W .any base t v := hval0
 have hW' := hW
 obtain ⟨p, q, hA0, hV, rfl, hfz, hnd⟩ := hW
 have hA : DataW.TrodAll enc Tryz.prog W 0 (fun _ => true) true Tryz.f12.params.toList args.toList ds p := hA0
 rw [Tryz.params12] at hA hval
 obtain ⟨v0, vs0, d0, ds0, p0, q0, hargs, rfl, rfl, h0, r0⟩ := trodAll_cons hA
 obtain ⟨v1, vs1, d1, ds1, p1, q1, rfl, rfl, rfl, h1, r1⟩ := trodAll_cons r0
 obtain ⟨rfl, rfl, rfl⟩ := trodAll_nil r1
 obtain rfl : args = #[v0, v1] := by cases args; simp_all
 obtain ⟨rfl, rfl⟩ := trodVars_none hV
 obtain ⟨a0, b0, rfl, rfl, rfl, y0, z0⟩ := open24 (hval 0 24 v0 rfl rfl) h0
 obtain ⟨a1, rfl, rfl, rfl, w1⟩ := open_int Tryz.underlying5 (hval 1 5 v1 rfl rfl) h1
 have hG := G_of_laid hL (by kernel_rfl) (by simp [Rows.convergentBetweenRow])
 obtain ⟨k, hk⟩ := ConvergentBetween_true a0 b0 a1 w1
 clear hA0 hval0
 refine (schismalaw04_ConvergentBetween.calls k a0 b0 a1 true W hG hk).mono fun e W' ⟨he, bel⟩ => ?_
 subst he
 exact ⟨_, rfl, _, _, _, [], _, [], hW', trodAll_mk1 (shut_bool Tryz.underlying4 _), (trodAll_cons_mk (shut24 y0 z0) (trodAll_cons_mk (shut_int Tryz.underlying5 w1) trodAll_mk0)), rfl, bel.frame _, fun h => by cases h⟩
theorem over : Rows.convergentBetweenRow.holds Tryz.pinned (OpenSpec.ofChange Rows.convergentBetweenSpec) :=
 OpenClaim.holds_of_wide 12 Tryz.f12 rfl rfl rfl rfl rfl rfl rfl ⟨rfl, rfl, rfl, rfl, rfl⟩ rfl rfl rfl rfl rfl (by kernel_rfl) Tryz.func12 (by kernel_rfl)
  (of_decide_eq_true (by kernel_rfl)) (by unfold Func.isWrapper; first | (rw [if_pos (by decide +kernel)]; kernel_rfl) | (rw [if_neg (by decide +kernel)]; exact ⟨rfl, rfl⟩))
  (fun os started H enc _ => lifted os started H enc)
theorem stands (t : TypeId) (ht : t ∈ [24, 5]) : Tryz.prog.wantsStandIn t = false := by
 simp only [List.mem_cons, List.not_mem_nil, or_false] at ht
 rcases ht with rfl | rfl <;> kernel_rfl
theorem card : Rows.ConvergentBetweenCardSaid :=
 Claim7.holds_tied_plain_at .later [] [.data, .data, .data, .sentinel, .sentinel] true (true, "c44f9d2d48495f2ad31785fd16cb52d65a785af72baad9d9a2485092ae39dd18") true
  over (fun _ h => by cases h) (by kernel_rfl) (fun _ h => by cases h) convergentBetween_row_tie rfl ⟨rfl, rfl⟩ (by kernel_rfl) rfl
  (fun f fn hf hfn => by
   obtain rfl : f = 12 := Option.some.inj ((show Tryz.prog.funcNamed "schisma/schismalaw04.ConvergentBetween" = some 12 by kernel_rfl).symm.trans hf) |>.symm
   obtain rfl : fn = Tryz.f12 := (Option.some.inj (Tryz.func12.symm.trans hfn)).symm
   exact ⟨by kernel_rfl, fun j t ht => by
    rw [Tryz.params12] at ht
    refine stands t ?_
    have hm := List.mem_of_getElem? (by simpa using ht : [24, 5][j]? = some t)
    simpa using hm⟩)
  (by kernel_rfl)
end Go.Proofs.YtidajgkepdkcbaaGreatDoor.convergentBetween
namespace Go.Proofs.YtidajgkepdkcbaaGreatDoor
theorem convergentBetween_card : Rows.ConvergentBetweenCardSaid := convergentBetween.card
end Go.Proofs.YtidajgkepdkcbaaGreatDoor
end
