/- ConvergentWays: for any text of at most 30 bytes, and the same 40 times one after another, At returns the fraction of a way, or the first error. Conditions: none besides those that the statement itself states. -/
import Derived.Test.YtidajgkepdkcbaaGreatDoorQWy3
import Derived.ProofKit
import Derived.LaidMore
import Derived.OpenShut
import Derived.ShutString
import Derived.ChangeOld
import Derived.Stop.Joined
import Derived.Lib.LaidU8
import Derived.MakeChecks
import Derived.SevenTiedAt
import Derived.Lay
import Derived.Test.YtidajgkepdkcbaaGreatDoorRows
import Derived.Test.YtidajgkepdkcbaaGreatDoorTie
import Derived.Test.YtidajgkepdkcbaaGreatDoorCards
set_option linter.unusedVariables false
set_option linter.unusedSimpArgs false
section
namespace Go.Proofs.YtidajgkepdkcbaaGreatDoor
open Go Go.ChangeShapes Go.WideShapes Go.ChangeAt Go.WideMaps Go.WideElems Go.RowKit Go.Lib Go.Deep
set_option maxRecDepth 100000
theorem own : ownKnob Tryz.prog.godebug = none := by kernel_rfl
theorem tPow : (Tryz.prog.globals[5]?).map (·.type) = some 196 := by kernel_rfl
theorem G_of_laid {l : List (String × DataW Unit)} {W : World} (h : laidMetH Tryz.prog l W) (hp : (l.all fun x => x.2.handleName?.isNone) = true) (hm : ("internal/strconv.uint64pow10", Rows.laid_internal_strconv_uint64pow10) ∈ l) : GWorld W := by
 rw [MakeChecks.laidMetH_plain _ _ _ hp] at h
 have hr := Lib.laidMet.reads h hm
 obtain ⟨g, t, cs, fuel, p, hg, ht, hvar, hd⟩ := hr
 obtain rfl := Option.some.inj (gPow.symm.trans hg)
 obtain rfl := Option.some.inj (tPow.symm.trans ht)
 have e : (Rows.laid_internal_strconv_uint64pow10 : DataW Unit) = Lib.tabData .u64 Lib.pow10Tab := by kernel_rfl
 rw [e] at hd
 have h1 := Lib.cells_of_tab Tryz.underlying196 Tryz.underlying133 (by kernel_rfl) (by kernel_rfl) hd
 refine ⟨?_⟩
 unfold Lib.TabIs
 rw [hvar, ← h1]
section
variable {H : Type} {enc : TypeId × Value → H} {w : World} {base : Nat} {sp : Nat → Bool} {held : Bool}
end
end Go.Proofs.YtidajgkepdkcbaaGreatDoor
end
section
namespace Go.Proofs.YtidajgkepdkcbaaGreatDoor.convergentWays
open Go Go.ChangeShapes Go.WideShapes Go.ChangeAt Go.WideMaps Go.WideElems Go.RowKit Go.Proofs.YtidajgkepdkcbaaGreatDoor.PF Go.Proofs.YtidajgkepdkcbaaGreatDoor.PL
open Go.ChangeMaps (open_string shut_string)
set_option maxRecDepth 100000
theorem lifted (os : Os) (started : os.Started) (H : Type) (enc : TypeId × Value → H) :
  ReturnsInHanded {} Tryz.checked os 10 .any (fun w args => (Rows.convergentWaysSpec.pre enc Tryz.prog Tryz.f10 [] false w args ∧ laidMetH Tryz.prog Rows.convergentWaysRow.laid w) ∧ sizedMet enc Tryz.prog Tryz.f10 (OpenSpec.ofChange Rows.convergentWaysSpec) false w args)
   (Rows.convergentWaysSpec.post enc Tryz.prog Tryz.f10 false true false false) := by
 refine returnsInHanded_of_change_and (C := Tryz.checked) (X := fun w _ => laidMetH Tryz.prog Rows.convergentWaysRow.laid w) (fun _ _ _ hh h => h.of_heap hh) own started (by kernel_rfl) Tryz.func10
  (ChangeSpec.witness_shaped (enc := enc) (C := Tryz.checked) (os := os) (X := fun w _ => laidMetH Tryz.prog Rows.convergentWaysRow.laid w) false (World.laidAll Tryz.prog os Rows.convergentWaysRow.laid) #[.string ByteArray.empty] 8 (World.laidAll_os _ _ _) (World.shaped_of_ZipB (by kernel_rfl) (by kernel_rfl)) (by kernel_rfl) (by kernel_rfl) (by kernel_rfl) (by rw [MakeChecks.laidMetH_plain _ _ _ (by kernel_rfl)]; exact laidMet_laidAll _ (by kernel_rfl) (by kernel_rfl))) ?_
 intro W base args ds gs before hval0 hW _ _ hL _
 have hval : ∀ (j : Nat) t v, Tryz.f10.params[j]? = some t → args[j]? = some v → Value.okWide Tryz.prog W .any base t v := hval0
 have hW' := hW
 obtain ⟨p, q, hA0, hV, rfl, hfz, hnd⟩ := hW
 have hA : DataW.TrodAll enc Tryz.prog W 0 (fun _ => true) true Tryz.f10.params.toList args.toList ds p := hA0
 rw [Tryz.params10] at hA hval
 obtain ⟨v0, vs0, d0, ds0, p0, q0, hargs, rfl, rfl, h0, r0⟩ := trodAll_cons hA
 obtain ⟨rfl, rfl, rfl⟩ := trodAll_nil r0
 obtain rfl : args = #[v0] := by cases args; simp_all
 obtain ⟨rfl, rfl⟩ := trodVars_none hV
 obtain ⟨a0, rfl, rfl, rfl, y0⟩ := open_string Tryz.underlying9 (hval 0 9 v0 rfl rfl) h0
 have hG := G_of_laid hL (by kernel_rfl) (by simp [Rows.convergentWaysRow])
 obtain ⟨k, hk⟩ := ConvergentWays_true a0
 clear hA0 hval0
 refine (schismalaw04_ConvergentWays.calls k a0 true W hG hk).mono fun e W' ⟨he, bel⟩ => ?_
 subst he
 exact ⟨_, rfl, _, _, _, [], _, [], hW', trodAll_mk1 (shut_bool Tryz.underlying4 _), (trodAll_cons_mk (shut_string Tryz.underlying9 y0) trodAll_mk0), rfl, bel.frame _, fun h => by cases h⟩
theorem over : Rows.convergentWaysRow.holds Tryz.pinned (OpenSpec.ofChange Rows.convergentWaysSpec) :=
 OpenClaim.holds_of_wide 10 Tryz.f10 rfl rfl rfl rfl rfl rfl rfl ⟨rfl, rfl, rfl, rfl, rfl⟩ rfl rfl rfl rfl rfl (by kernel_rfl) Tryz.func10 (by kernel_rfl)
  (of_decide_eq_true (by kernel_rfl)) (by unfold Func.isWrapper; first | (rw [if_pos (by decide +kernel)]; kernel_rfl) | (rw [if_neg (by decide +kernel)]; exact ⟨rfl, rfl⟩))
  (fun os started H enc _ => lifted os started H enc)
theorem stands (t : TypeId) (ht : t ∈ [9]) : Tryz.prog.wantsStandIn t = false := by
 simp only [List.mem_cons, List.not_mem_nil, or_false] at ht
 subst ht <;> kernel_rfl
theorem card : Rows.ConvergentWaysCardSaid :=
 Claim7.holds_tied_plain_at .later [] [.data, .data, .data, .data, .sentinel, .sentinel, .pinned] true (true, "c44f9d2d48495f2ad31785fd16cb52d65a785af72baad9d9a2485092ae39dd18") true
  over (fun _ h => by cases h) (by kernel_rfl) (fun _ h => by cases h) convergentWays_row_tie rfl ⟨rfl, rfl⟩ (by kernel_rfl) rfl
  (fun f fn hf hfn => by
   obtain rfl : f = 10 := Option.some.inj ((show Tryz.prog.funcNamed "schisma/schismalaw04.ConvergentWays" = some 10 by kernel_rfl).symm.trans hf) |>.symm
   obtain rfl : fn = Tryz.f10 := (Option.some.inj (Tryz.func10.symm.trans hfn)).symm
   exact ⟨by kernel_rfl, fun j t ht => by
    rw [Tryz.params10] at ht
    refine stands t ?_
    have hm := List.mem_of_getElem? (by simpa using ht : [9][j]? = some t)
    simpa using hm⟩)
  (by kernel_rfl)
end Go.Proofs.YtidajgkepdkcbaaGreatDoor.convergentWays
namespace Go.Proofs.YtidajgkepdkcbaaGreatDoor
theorem convergentWays_card : Rows.ConvergentWaysCardSaid := convergentWays.card
end Go.Proofs.YtidajgkepdkcbaaGreatDoor
end
