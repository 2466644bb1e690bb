/- A part of the proof in QPp5. -/
import Derived.Test.YtidajgkepdkcbaaGreatDoorQPp3
import Derived.Shelf.Strings.SlTrimAscii
import Derived.Lib.OthersKept
set_option linter.unusedVariables false
set_option linter.unusedSimpArgs false
section
namespace Go.Proofs.YtidajgkepdkcbaaGreatDoor
open Go.RowKit Go.Lib Go.Proofs.YtidajgkepdkcbaaGreatDoorW.PrintWords Go.Proofs.YtidajgkepdkcbaaGreatDoorW.PrintLast Go.Proofs.YtidajgkepdkcbaaGreatDoorW.PrintMore PF
attribute [local go_sem] Oper.semAt_some wide_fn2 wide_depth2
def atl (k : Nat) : List UInt8 → ByteArray → ByteArray → ByteArray → ByteArray → Option (ByteArray × ByteArray × ByteArray × ByteArray)
 | [], a, b, c, d => some (a, b, c, d)
 | x :: l, a, b, c, d => (whole_Add.f k a c).bind fun m => (whole_Add.f k b d).bind fun n => if x = 76 then atl k l a b m n else atl k l m n c d
namespace PF
def convergent_At.f (k : Nat) (p : ByteArray) : Option (ByteArray × ByteArray × Int) :=
 if 1000 < p.size then some (⟨#[]⟩, ⟨#[]⟩, 16) else if Lib.trimS p.data.toList [76, 82] ≠ [] then some (⟨#[]⟩, ⟨#[]⟩, 15) else
  (atl k p.data.toList ⟨#[48]⟩ ⟨#[49]⟩ ⟨#[49]⟩ ⟨#[48]⟩).bind fun q => (whole_Add.f k q.1 q.2.2.1).bind fun m => (whole_Add.f k q.2.1 q.2.2.2).bind fun n => (convergent_over.f k m n).bind fun r => some (r.1, r.2, 0)
end PF
theorem info256 : (Tryz.prog.info? (Tryz.lays160_ren.t 116)).map (fun i => (i.zero, i.size)) = some (some (.agg (Array.replicate 256 (.bool false))), 256) := by kernel_rfl
theorem cTrim (s : ByteArray) (hs : s.size ≤ 1000) (w : World) : Calls Tryz.prog 71 #[.string s, .string ⟨#[76, 82]⟩] w fun e w' => e = .returned (.string ⟨(Lib.trimS s.data.toList [76, 82]).toArray⟩) ∧ Below w.heap.size w w' :=
 Any.strings_Trim_laid Tryz.lays160 info256 s ⟨#[76, 82]⟩ w (by omega) (by decide) (fun j b hb => by
  match j, hb with
  | 0, hb => simp at hb; subst hb; decide
  | 1, hb => simp at hb; subst hb; decide
  | j + 2, hb => simp at hb)
def AtR (k : Nat) (p : ByteArray) (r : ByteArray × ByteArray × ByteArray × ByteArray) (it bz : Nat) (w : World) (v4 v5 v6 v7 : Value) (wr : World) : Prop :=
 ∃ (i : Nat) (a b c d : ByteArray), v4 = .string a ∧ v5 = .string b ∧ v6 = .string c ∧ v7 = .string d ∧ i ≤ p.size ∧ atl k (p.data.toList.drop i) a b c d = some r ∧ wr.heap[it]? = some (.stringIter p i) ∧
  wr.heap[bz]? = some (.cells #[.string ⟨#[]⟩, .string ⟨#[]⟩] 24 (0, 0)) ∧ Below w.heap.size w wr
def AtM (p : ByteArray) (it : Nat) (wr : World) : Nat := p.size - wr.iterPos it
set_option maxRecDepth 100000 in
set_option maxHeartbeats 4000000 in
theorem at_walk (k : Nat) (p : ByteArray) (q : ByteArray × ByteArray × ByteArray × ByteArray) (m n : ByteArray) (x : ByteArray × ByteArray) (w : World) (hG : GWorld w) (hs : ¬ 1000 < p.size) (ht : Lib.trimS p.data.toList [76, 82] = []) (hasc : ∀ b ∈ p.data.toList, b.toNat < 128)
  (h1 : atl k p.data.toList ⟨#[48]⟩ ⟨#[49]⟩ ⟨#[49]⟩ ⟨#[48]⟩ = some q) (h2 : whole_Add.f k q.1 q.2.2.1 = some m) (h3 : whole_Add.f k q.2.1 q.2.2.2 = some n) (h4 : convergent_over.f k m n = some x) :
  Calls Tryz.prog 33 #[.string p] w fun e w' => e = .returned (.tuple #[.agg #[.string x.1, .string x.2], .int .i64 0]) ∧ Below w.heap.size w w' := by
 have cT := cTrim p (by omega)
 rw [ht] at cT
 have hs' : ((p.size : Int) > 1000) = False := by simp; omega
 have hs'' : ¬ ((1000 : Int) < (p.size : Int)) := by omega
 refine (callsIn_wide (n := 0)).1 (callsIn_of_wp Tryz.func33 rfl trivial ?_ rfl)
 simp only [Tryz.ntmps33, List.size_toArray, List.length_cons, List.length_nil, Nat.reduceAdd, Nat.reduceSub, Array.replicate_succ, Array.replicate_zero, List.push_toArray, List.append_toArray, List.nil_append, List.cons_append]
 replace cT := Lib.hid cT
 replace hG := Lib.hid hG
 replace h1 := Lib.hid h1
 replace h2 := Lib.hid h2
 replace h3 := Lib.hid h3
 replace h4 := Lib.hid h4
 replace ht := Lib.hid ht
 replace hasc := Lib.hid hasc
 gi_wp2_with (first
  | (gi_at_call 71; refine (callsIn_wide.2 (cT.out _)).mono ?_; rintro e W1 ⟨rfl, H1⟩; have z1 := (H1.block _ (by simp)).trans (World.alloc_heap_new w (.cells #[.string ⟨#[]⟩, .string ⟨#[]⟩] 24)); have B1 : Below w.heap.size w W1 := ((Below.refl _ w).alloc (Nat.le_refl _) _).trans (H1.mono (by simp)); replace H1 := Lib.hid H1; replace z1 := Lib.hid z1; replace B1 := Lib.hid B1))
 have s1 : w.heap.size < W1.heap.size := (Array.getElem?_eq_some_iff.1 z1.out).1
 gi_loopw [4, 5, 6, 7] (fun v4 v5 v6 v7 wr => AtR k p q W1.heap.size w.heap.size w v4 v5 v6 v7 wr) (fun _ _ _ _ wr => AtM p W1.heap.size wr)
 case atStart =>
  refine ⟨0, _, _, _, _, rfl, rfl, rfl, rfl, Nat.zero_le _, by simpa using h1.out, World.iter_heap _ _ _, ?_, B1.out.alloc B1.out.size _⟩
  exact heap_alloc_some z1.out _
 case round =>
  clear H1 z1 B1 cT
  obtain ⟨i, a, b, c, d, rfl, rfl, rfl, rfl, hi, hp, hit, hz, hB⟩ := hrel
  rcases Nat.lt_or_ge i p.size with hlt | hge
  ·have hll : i < p.data.toList.length := by rw [Array.length_toList]; exact hlt
   have hdr : p.data.toList.drop i = p.data.toList[i] :: p.data.toList.drop (i + 1) := List.drop_eq_getElem_cons hll
   rw [hdr, atl] at hp
   obtain ⟨m', e1, hp⟩ := Option.bind_eq_some_iff.1 hp
   obtain ⟨n', e2, hp⟩ := Option.bind_eq_some_iff.1 hp
   have hby : p[i]'hlt = p.data.toList[i] := by rw [Array.getElem_toList]; rfl
   have hnx := run_next_ascii_at (P := Tryz.prog) wr W1.heap.size p i 0 hit hlt (by rw [hby]; exact hasc.out _ (List.getElem_mem hll))
   rw [hby] at hnx
   obtain ⟨zi, hzi⟩ : ∃ zi, zi = ((p.data.toList[i].toNat : Nat) : Int) := ⟨_, rfl⟩
   rw [← hzi] at hnx
   have hitN := iterAt_heap wr W1.heap.size p i (i + 1) hit
   have hzN : (wr.iterAt W1.heap.size p (i + 1)).heap[w.heap.size]? = some (.cells #[.string ⟨#[]⟩, .string ⟨#[]⟩] 24 (0, 0)) := by rw [iterAt_other _ _ _ _ _ (by omega)]; exact hz
   have hBN := below_iterAt hB (k := W1.heap.size) (by omega) p (i + 1)
   generalize wr.iterAt W1.heap.size p (i + 1) = wn at *
   have cA := fun W hG => whole_Add.calls k _ _ _ W hG e1
   have cB := fun W hG => whole_Add.calls k _ _ _ W hG e2
   replace cA := Lib.hid cA
   replace cB := Lib.hid cB
   replace e1 := Lib.hid e1
   replace e2 := Lib.hid e2
   replace hitN := Lib.hid hitN
   replace hzN := Lib.hid hzN
   replace hBN := Lib.hid hBN
   replace hit := Lib.hid hit
   replace hz := Lib.hid hz
   replace hB := Lib.hid hB
   replace hi := Lib.hid hi
   replace hdr := Lib.hid hdr
   replace hby := Lib.hid hby
   by_cases hx : p.data.toList[i] = 76
   ·rw [if_pos hx] at hp
    have hx' : zi = 76 := by rw [hzi, hx]; rfl
    rw [hx'] at hnx
    clear hzi hx'
    replace hp := Lib.hid hp
    replace hx := Lib.hid hx
    gi_wp2_with (first
     | (gi_at_call 42; first
      | (with_reducible refine (callsIn_wide.2 (cB.out _ (hG.out.below (hBN.out.trans (H2.out.mono hBN.out.size))))).mono ?_; rintro e W3 ⟨rfl, H3⟩; replace H3 := Lib.hid H3)
      | (with_reducible refine (callsIn_wide.2 (cA.out _ (hG.out.below hBN.out))).mono ?_; rintro e W2 ⟨rfl, H2⟩; replace H2 := Lib.hid H2)))
    have k2 : Below wn.heap.size wn W3 := H2.out.trans (H3.out.mono H2.out.size)
    have hi3 := (k2.block _ (Array.getElem?_eq_some_iff.1 hitN.out).1).trans hitN.out
    have hz3 := (k2.block _ (Array.getElem?_eq_some_iff.1 hzN.out).1).trans hzN.out
    refine ⟨⟨i + 1, _, _, _, _, rfl, rfl, rfl, rfl, hlt, hp.out, hi3, hz3, hBN.out.trans (k2.mono hBN.out.size)⟩, ?_⟩
    unfold AtM
    rw [iterPos_of hi3, iterPos_of hit.out]
    omega
   ·rw [if_neg hx] at hp
    have hx' : ¬ (zi = 76) := by
     intro e
     exact hx (UInt8.toNat_inj.1 (by show _ = 76; omega))
    clear hzi
    replace hp := Lib.hid hp
    replace hx := Lib.hid hx
    gi_wp2_with (first
     | (gi_at_call 42; first
      | (with_reducible refine (callsIn_wide.2 (cB.out _ (hG.out.below (hBN.out.trans (H2.out.mono hBN.out.size))))).mono ?_; rintro e W3 ⟨rfl, H3⟩; replace H3 := Lib.hid H3)
      | (with_reducible refine (callsIn_wide.2 (cA.out _ (hG.out.below hBN.out))).mono ?_; rintro e W2 ⟨rfl, H2⟩; replace H2 := Lib.hid H2)))
    have k2 : Below wn.heap.size wn W3 := H2.out.trans (H3.out.mono H2.out.size)
    have hi3 := (k2.block _ (Array.getElem?_eq_some_iff.1 hitN.out).1).trans hitN.out
    have hz3 := (k2.block _ (Array.getElem?_eq_some_iff.1 hzN.out).1).trans hzN.out
    refine ⟨⟨i + 1, _, _, _, _, rfl, rfl, rfl, rfl, hlt, hp.out, hi3, hz3, hBN.out.trans (k2.mono hBN.out.size)⟩, ?_⟩
    unfold AtM
    rw [iterPos_of hi3, iterPos_of hit.out]
    omega
  ·have hdr : p.data.toList.drop i = [] := List.drop_eq_nil_iff.2 (by rw [Array.length_toList]; exact hge)
   rw [hdr, atl] at hp
   obtain rfl := Option.some.inj hp
   have hnx := run_next_end_at (P := Tryz.prog) wr W1.heap.size p i 0 hit (by omega)
   have c2 := fun W hG => whole_Add.calls k _ _ _ W hG h2.out
   have c3 := fun W hG => whole_Add.calls k _ _ _ W hG h3.out
   have c4 := fun W hG => convergent_over.calls k _ _ _ _ W hG h4.out
   simp only at c2 c3
   replace c2 := Lib.hid c2
   replace c3 := Lib.hid c3
   replace c4 := Lib.hid c4
   replace hit := Lib.hid hit
   replace hz := Lib.hid hz
   replace hB := Lib.hid hB
   gi_wp2_with (first
    | (gi_at_call 42; first
     | (with_reducible refine (callsIn_wide.2 (c3.out _ (hG.out.below (hB.out.trans (H2.out.mono hB.out.size))))).mono ?_; rintro e W3 ⟨rfl, H3⟩; replace H3 := Lib.hid H3)
     | (with_reducible refine (callsIn_wide.2 (c2.out _ (hG.out.below hB.out))).mono ?_; rintro e W2 ⟨rfl, H2⟩; replace H2 := Lib.hid H2))
    | (gi_at_call 41; have k2 : Below wr.heap.size wr W3 := H2.out.trans (H3.out.mono H2.out.size); refine (callsIn_wide.2 (c4.out _ (hG.out.below (hB.out.trans (k2.mono hB.out.size))))).mono ?_; rintro e W4 ⟨rfl, H4⟩; have k4 : Below wr.heap.size wr W4 := k2.trans (H4.mono k2.size); have z4 := (k4.block _ (Array.getElem?_eq_some_iff.1 hz.out).1).trans hz.out; obtain ⟨y1, y2⟩ := two_cells z4; have f1 := frozen0 (j := 0) z4; have f2 := frozen0 (j := 1) z4; replace H4 := Lib.hid H4; replace k4 := Lib.hid k4; replace z4 := Lib.hid z4; replace k2 := Lib.hid k2))
   have hc5 : ((W4.setCell ⟨w.heap.size, 0, none⟩ (.string x.1)).setCell ⟨w.heap.size, 1, none⟩ (.string x.2)).cell? ⟨w.heap.size, 0, none⟩ = some (.string x.1) := by
    rw [World.cell?_setCell_other _ _ _ _ (by simp)]
    exact World.cell?_setCell_same' _ _ _ (by rw [y1]; rfl)
   have hc6 : ((W4.setCell ⟨w.heap.size, 0, none⟩ (.string x.1)).setCell ⟨w.heap.size, 1, none⟩ (.string x.2)).cell? ⟨w.heap.size, 1, none⟩ = some (.string x.2) := by
    refine World.cell?_setCell_same' _ _ _ ?_
    rw [World.cell?_setCell_other _ _ _ _ (by simp), y2]; rfl
   refine ⟨rfl, .tuple #[.agg #[.string x.1, .string x.2], .int .i64 0], ?_, rfl, ?_⟩
   ·simp [results, Tryz.f33, go_sem, hc5, hc6]
   ·exact (((hB.out.trans (k4.out.mono hB.out.size)).setCell (p := ⟨w.heap.size, 0, none⟩) (by simp) _).setCell (p := ⟨w.heap.size, 1, none⟩) (by simp) _)
theorem dropWhile_nil {p : UInt8 → Bool} : ∀ {l : List UInt8}, l.dropWhile p = [] → ∀ x ∈ l, p x = true
 | [], _, x, hx => by cases hx
 | y :: l, h, x, hx => by
  rw [List.dropWhile_cons] at h
  split at h
  ·rename_i hy
   rcases List.mem_cons.1 hx with rfl | hx
   ·exact hy
   ·exact dropWhile_nil h x hx
  ·cases h
theorem dropWhile_all {p : UInt8 → Bool} : ∀ {l : List UInt8}, (∀ x ∈ l, p x = true) → l.dropWhile p = []
 | [], _ => rfl
 | y :: l, h => by
  rw [List.dropWhile_cons, if_pos (h y (by simp))]
  exact dropWhile_all (fun x hx => h x (by simp [hx]))
theorem dropWhile_mem {p : UInt8 → Bool} : ∀ {l : List UInt8} {x : UInt8}, x ∈ l → p x = true ∨ x ∈ l.dropWhile p
 | [], _, h => by cases h
 | y :: l, x, h => by
  rw [List.dropWhile_cons]
  split
  ·rename_i hy
   rcases List.mem_cons.1 h with rfl | h
   ·exact .inl hy
   ·exact dropWhile_mem h
  ·exact .inr h
theorem trimS_nil {l cs : List UInt8} : Lib.trimS l cs = [] ↔ ∀ x ∈ l, cs.contains x = true := by
 unfold Lib.trimS Lib.trimLeftS Lib.trimRightS
 constructor
 ·intro h x hx
  have h1 := dropWhile_nil h
  rcases dropWhile_mem (p := (cs.contains ·)) (List.mem_reverse.2 hx) with h2 | h2
  ·exact h2
  ·exact h1 x (List.mem_reverse.2 h2)
 ·intro h
  have : l.reverse.dropWhile (cs.contains ·) = [] := dropWhile_all (fun x hx => h x (List.mem_reverse.1 hx))
  rw [this]
  rfl
theorem ascii_LR {l : List UInt8} (h : Lib.trimS l [76, 82] = []) : ∀ b ∈ l, b.toNat < 128 := by
 intro b hb
 have := trimS_nil.1 h b hb
 simp at this
 rcases this with rfl | rfl <;> decide
set_option maxRecDepth 100000 in
set_option maxHeartbeats 4000000 in
theorem at_long (p : ByteArray) (w : World) (hs : 1000 < p.size) :
  Calls Tryz.prog 33 #[.string p] w fun e w' => e = .returned (.tuple #[.agg #[.string ⟨#[]⟩, .string ⟨#[]⟩], .int .i64 16]) ∧ Below w.heap.size w w' := by
 have hs'' : (1000 : Int) < (p.size : Int) := by omega
 have z4 := World.alloc_heap_new w (.cells #[.string ⟨#[]⟩, .string ⟨#[]⟩] 24)
 obtain ⟨y1, y2⟩ := two_cells z4
 have f1 := frozen0 (j := 0) z4
 have f2 := frozen0 (j := 1) z4
 replace z4 := Lib.hid z4
 refine (callsIn_wide (n := 0)).1 (callsIn_of_wp Tryz.func33 rfl trivial ?_ rfl)
 simp only [Tryz.ntmps33, List.size_toArray, List.length_cons, List.length_nil, Nat.reduceAdd, Nat.reduceSub, Array.replicate_succ, Array.replicate_zero, List.push_toArray, List.append_toArray, List.nil_append, List.cons_append]
 gi_wp2
 refine ⟨rfl, .tuple #[.agg #[.string ⟨#[]⟩, .string ⟨#[]⟩], .int .i64 16], ?_, rfl, (Below.refl _ w).alloc (Nat.le_refl _) _⟩
 simp [results, Tryz.f33, go_sem, y1, y2]
set_option maxRecDepth 100000 in
set_option maxHeartbeats 4000000 in
theorem at_syntax (p : ByteArray) (w : World) (hs : ¬ 1000 < p.size) (ht : Lib.trimS p.data.toList [76, 82] ≠ []) :
  Calls Tryz.prog 33 #[.string p] w fun e w' => e = .returned (.tuple #[.agg #[.string ⟨#[]⟩, .string ⟨#[]⟩], .int .i64 15]) ∧ Below w.heap.size w w' := by
 have cT := cTrim p (by omega)
 have hs'' : ¬ ((1000 : Int) < (p.size : Int)) := by omega
 obtain ⟨c, l, hcl⟩ : ∃ c l, Lib.trimS p.data.toList [76, 82] = c :: l := by
  cases h : Lib.trimS p.data.toList [76, 82] with
  | nil => exact absurd h ht
  | cons c l => exact ⟨c, l, rfl⟩
 rw [hcl] at cT
 refine (callsIn_wide (n := 0)).1 (callsIn_of_wp Tryz.func33 rfl trivial ?_ rfl)
 simp only [Tryz.ntmps33, List.size_toArray, List.length_cons, List.length_nil, Nat.reduceAdd, Nat.reduceSub, Array.replicate_succ, Array.replicate_zero, List.push_toArray, List.append_toArray, List.nil_append, List.cons_append]
 replace cT := Lib.hid cT
 replace ht := Lib.hid ht
 replace hcl := Lib.hid hcl
 gi_wp2_with (first
  | (gi_at_call 71; refine (callsIn_wide.2 (cT.out _)).mono ?_; rintro e W1 ⟨rfl, H1⟩; have z4 := (H1.block _ (by simp)).trans (World.alloc_heap_new w (.cells #[.string ⟨#[]⟩, .string ⟨#[]⟩] 24)); have B1 : Below w.heap.size w W1 := ((Below.refl _ w).alloc (Nat.le_refl _) _).trans (H1.mono (by simp)); obtain ⟨y1, y2⟩ := two_cells z4; have f1 := frozen0 (j := 0) z4; have f2 := frozen0 (j := 1) z4; replace H1 := Lib.hid H1; replace z4 := Lib.hid z4; replace B1 := Lib.hid B1))
 have hc5 : ((W1.setCell ⟨w.heap.size, 0, none⟩ (.string ⟨#[]⟩)).setCell ⟨w.heap.size, 1, none⟩ (.string ⟨#[]⟩)).cell? ⟨w.heap.size, 0, none⟩ = some (.string ⟨#[]⟩) := by
  rw [World.cell?_setCell_other _ _ _ _ (by simp)]
  exact World.cell?_setCell_same' _ _ _ (by rw [y1]; rfl)
 have hc6 : ((W1.setCell ⟨w.heap.size, 0, none⟩ (.string ⟨#[]⟩)).setCell ⟨w.heap.size, 1, none⟩ (.string ⟨#[]⟩)).cell? ⟨w.heap.size, 1, none⟩ = some (.string ⟨#[]⟩) := by
  refine World.cell?_setCell_same' _ _ _ ?_
  rw [World.cell?_setCell_other _ _ _ _ (by simp), y2]; rfl
 refine ⟨rfl, .tuple #[.agg #[.string ⟨#[]⟩, .string ⟨#[]⟩], .int .i64 15], ?_, rfl, ?_⟩
 ·simp [results, Tryz.f33, go_sem, hc5, hc6]
 ·exact ((B1.out.setCell (p := ⟨w.heap.size, 0, none⟩) (by simp) _).setCell (p := ⟨w.heap.size, 1, none⟩) (by simp) _)
theorem PF.convergent_At.calls (k : Nat) (a0 : ByteArray) (r1 r2 : ByteArray) (r3 : Int) (w : World) (hG_ : GWorld w) (h : convergent_At.f k a0 = some (r1, r2, r3)) :
  Calls Tryz.prog 33 #[.string a0] w fun e w' => e = .returned (.tuple #[.agg #[.string r1, .string r2], .int .i64 r3]) ∧ Below w.heap.size w w' := by
 unfold convergent_At.f at h
 by_cases h1 : 1000 < a0.size
 ·rw [if_pos h1] at h
  cases h
  exact at_long a0 w h1
 rw [if_neg h1] at h
 by_cases h2 : Lib.trimS a0.data.toList [76, 82] ≠ []
 ·rw [if_pos h2] at h
  cases h
  exact at_syntax a0 w h1 h2
 rw [if_neg h2] at h
 obtain ⟨q, e1, h⟩ := Option.bind_eq_some_iff.1 h
 obtain ⟨m, e2, h⟩ := Option.bind_eq_some_iff.1 h
 obtain ⟨n, e3, h⟩ := Option.bind_eq_some_iff.1 h
 obtain ⟨x, e4, h⟩ := Option.bind_eq_some_iff.1 h
 cases h
 have h2 := Decidable.not_not.1 h2
 exact at_walk k a0 q m n x w hG_ h1 h2 (ascii_LR h2) e1 e2 e3 e4
end Go.Proofs.YtidajgkepdkcbaaGreatDoor
end
section
namespace Go.Proofs.YtidajgkepdkcbaaGreatDoor
open Go.RowKit Go.Lib Go.Proofs.YtidajgkepdkcbaaGreatDoorW.PrintWords Go.Proofs.YtidajgkepdkcbaaGreatDoorW.PrintLast Go.Proofs.YtidajgkepdkcbaaGreatDoorW.PrintMore PF
attribute [local go_sem] Oper.semAt_some wide_fn2 wide_depth2
def sf (y : Int × Int) : PF.S24 := ⟨T y.1, T y.2⟩
theorem fcells_at : ∀ (l : List (Int × Int)) (k : Nat) (y : Int × Int), l[k]? = some y → ((fcells l).drop (k * 2)).take 2 = [.string (T y.1), .string (T y.2)]
 | [], _, _, h => by simp at h
 | z :: l, 0, y, h => by simp at h; subst h; simp [fcells]
 | z :: l, k + 1, y, h => by
  have := fcells_at l k y (by simpa using h)
  rw [show (k + 1) * 2 = k * 2 + 1 + 1 by omega]
  simpa [fcells] using this
theorem R_of_row {w : World} {base : Nat} {v : Value} {l : List (Int × Int)} (h : w.ownsRow base 24 2 v l.length (fcells l)) : Kd.R k24 24 w base (fun _ => True) v (l.map sf) := by
 refine ⟨fun _ _ => trivial, fcells l, by rw [List.length_map]; exact h, by rw [fcells_len, List.length_map]; rfl, fun k x hx => ?_⟩
 rw [List.getElem?_map] at hx
 obtain ⟨y, hy, rfl⟩ := Option.map_eq_some_iff.1 hx
 have := fcells_at l k y hy
 show k24.M w base _ (sf y) (((fcells l).drop (k * 2)).take 2)
 rw [this]
 exact k24_mkM _ _ _ (sf y)
structure BestOk (x1 x2 : ByteArray) (bound : Int) (p : Int × Int × List Int) : Prop where
 e1 : x1 = T p.1
 e2 : x2 = T p.2.1
 n1 : -1000000 < p.1
 n2 : p.1 < 10000000
 fr : Fr p.1 p.2.1
 d2 : p.2.1 < 10000000
 b1 : 1 ≤ bound
 b2 : bound ≤ 60
 ts : isCf p.2.2 p.1 p.2.1
 tl : p.2.2.length ≤ 1000
def bestRow (n d bound : Int) (ts : List Int) : List (Int × Int) := (semis half bound true CS.begin ts).foldl (bstep n d) []
namespace PF
open Classical in
noncomputable def convergent_Best.f (k : Nat) (x1 x2 : ByteArray) (bound : Int) : Option (List S24 × Int) :=
 if h : ∃ p, BestOk x1 x2 bound p then some ((bestRow h.choose.1 h.choose.2.1 bound h.choose.2.2).map sf, 0) else (convergent_bounded.f k x1 x2 bound).bind fun e => if e = 0 then none else some ([], e)
end PF
theorem Best_yes {n d bound : Int} {ts : List Int} (h : BestOk (T n) (T d) bound (n, d, ts)) (k : Nat) : convergent_Best.f k (T n) (T d) bound = some ((bestRow n d bound ts).map sf, 0) := by
 unfold convergent_Best.f
 have hc : ∃ p, BestOk (T n) (T d) bound p := ⟨_, h⟩
 rw [dif_pos hc]
 have hs := hc.choose_spec
 have e1 := T_inj hs.e1
 have e2 := T_inj hs.e2
 have e3 : hc.choose.2.2 = ts := hs.ts.unique (by rw [← e1, ← e2]; exact h.ts)
 rw [e3, ← e1, ← e2]
set_option maxRecDepth 100000 in
set_option maxHeartbeats 4000000 in
theorem best_err (k : Nat) (x1 x2 : ByteArray) (bound e : Int) (w : World) (hG : GWorld w) (h : convergent_bounded.f k x1 x2 bound = some e) (he : e ≠ 0) :
  Calls Tryz.prog 28 #[.agg #[.string x1, .string x2], .int .i64 bound] w fun e' w' => e' = .returned (.tuple #[.slice none 0 0, .int .i64 e]) ∧ Below w.heap.size w w' := by
 have c1 := fun W hG => convergent_bounded.calls k _ _ _ _ W hG h
 have c0 := three_alloc (w := w) (W1 := ((w.alloc (.cells #[.string x1, .string x2] 24)).alloc (.cells #[.slice none 0 0] 37)).alloc (.cells #[.int .i64 0] 26)) (Below.refl _ _)
 refine (callsIn_wide (n := 0)).1 (callsIn_of_wp Tryz.func28 rfl trivial ?_ rfl)
 simp only [Tryz.ntmps28, List.size_toArray, List.length_cons, List.length_nil, Nat.reduceAdd, Nat.reduceSub, Array.replicate_succ, Array.replicate_zero, List.push_toArray, List.append_toArray, List.nil_append, List.cons_append]
 replace c1 := Lib.hid c1
 replace c0 := Lib.hid c0
 replace h := Lib.hid h
 replace hG := Lib.hid hG
 gi_wp2_with (gi_at_call 51; refine (callsIn_wide.2 (c1.out _ (hG.out.below c0.out.2.2.2.1))).mono ?_; rintro e' W1 ⟨rfl, H1⟩; obtain ⟨x1', x2', x3', HB1, hz1⟩ := three_alloc H1; have q2 := cell0 x2'; have q3 := cell0 x3'; have q4 := frozen0 (j := 0) x2'; have q5 := frozen0 (j := 0) x3'; replace H1 := Lib.hid H1; replace HB1 := Lib.hid HB1; replace x1' := Lib.hid x1'; replace x2' := Lib.hid x2'; replace x3' := Lib.hid x3'; replace hz1 := Lib.hid hz1)
 have hc5 : ((W1.setCell ⟨w.heap.size + 1, 0, none⟩ (.slice none 0 0)).setCell ⟨w.heap.size + 1 + 1, 0, none⟩ (.int .i64 e)).cell? ⟨w.heap.size + 1, 0, none⟩ = some (.slice none 0 0) := by
  rw [World.cell?_of_block (w := W1.setCell ⟨w.heap.size + 1, 0, none⟩ (.slice none 0 0)) (Below.heap_setCell _ _ _ _ (by simp only; omega))]
  exact World.cell?_setCell_same' _ _ _ (by rw [q2]; rfl)
 have hc6 : ((W1.setCell ⟨w.heap.size + 1, 0, none⟩ (.slice none 0 0)).setCell ⟨w.heap.size + 1 + 1, 0, none⟩ (.int .i64 e)).cell? ⟨w.heap.size + 1 + 1, 0, none⟩ = some (.int .i64 e) := by
  refine World.cell?_setCell_same' _ _ _ ?_
  rw [World.cell?_of_block (w := W1) (Below.heap_setCell _ _ _ _ (by simp only; omega)), q3]; rfl
 refine ⟨rfl, .tuple #[.slice none 0 0, .int .i64 e], ?_, rfl, ?_⟩
 ·simp [results, Tryz.f28, go_sem, hc5, hc6]
 ·exact (HB1.out.setCell (p := ⟨w.heap.size + 1, 0, none⟩) (by simp) _).setCell (p := ⟨w.heap.size + 1 + 1, 0, none⟩) (by simp only; omega) _
theorem PF.convergent_Best.calls (k : Nat) (a0_0 a0_1 : ByteArray) (a1 : Int) (r1 : List S24) (r2 : Int) (w : World) (hG_ : GWorld w) (h : convergent_Best.f k a0_0 a0_1 a1 = some (r1, r2)) :
  Calls Tryz.prog 28 #[.agg #[.string a0_0, .string a0_1], .int .i64 a1] w fun e w' => ∃ v0_ : Value, e = .returned (.tuple #[v0_, .int .i64 r2]) ∧ Kd.R k24 24 w' w.heap.size (fun _ => True) v0_ r1 ∧ Below w.heap.size w w' := by
 unfold convergent_Best.f at h
 by_cases hc : ∃ p, BestOk a0_0 a0_1 a1 p
 ·rw [dif_pos hc] at h
  have hs := hc.choose_spec
  obtain ⟨rfl, rfl⟩ := Prod.mk.inj (Option.some.inj h)
  generalize hc.choose = p at *
  obtain ⟨n, d, ts⟩ := p
  obtain ⟨e1, e2, n1, n2, hF, d2, b1, b2, hts, htl⟩ := hs
  simp only at e1 e2 n1 n2 hF d2 hts htl
  subst e1 e2
  refine (callsIn_wide (n := 0)).1 ((best_walk n1 n2 hF d2 b1 b2 hts htl w hG_).mono ?_)
  rintro e w' ⟨v, rfl, hrow, hB⟩
  exact ⟨v, rfl, R_of_row hrow, hB⟩
 ·rw [dif_neg hc] at h
  obtain ⟨e, h1, h⟩ := Option.bind_eq_some_iff.1 h
  by_cases he : e = 0
  ·rw [if_pos he] at h; cases h
  ·rw [if_neg he] at h
   obtain ⟨rfl, rfl⟩ := Prod.mk.inj (Option.some.inj h)
   refine (best_err k _ _ _ _ w hG_ h1 he).mono ?_
   rintro e' w' ⟨rfl, hB⟩
   exact ⟨_, rfl, Kd.R_nil _ _ _ _ _, hB⟩
end Go.Proofs.YtidajgkepdkcbaaGreatDoor
end
section
namespace Go.Proofs.YtidajgkepdkcbaaGreatDoor.PL
open Go.RowKit Go.Proofs.YtidajgkepdkcbaaGreatDoorW.PrintWords Go.Proofs.YtidajgkepdkcbaaGreatDoorW.PrintLast Go.Proofs.YtidajgkepdkcbaaGreatDoorW.PrintMore Go.Proofs.YtidajgkepdkcbaaGreatDoor.PF
attribute [local go_sem] max2_int min2_int max_two min_two max_three min_three max_four min_four
theorem info3 : (Tryz.prog.info? 3).map (fun i => (i.zero, i.size, i.bytes)) = some (some (.int .i64 0), 1, 8) := by kernel_rfl
theorem info24 : (Tryz.prog.info? 24).map (fun i => (i.zero, i.size, i.bytes)) = some (some (.agg #[(.string ⟨#[]⟩), (.string ⟨#[]⟩)]), 2, 32) := by kernel_rfl
end Go.Proofs.YtidajgkepdkcbaaGreatDoor.PL
end
section
namespace Go.Proofs.YtidajgkepdkcbaaGreatDoor.PL
open Go.RowKit Go.Proofs.YtidajgkepdkcbaaGreatDoorW.PrintWords Go.Proofs.YtidajgkepdkcbaaGreatDoorW.PrintLast Go.Proofs.YtidajgkepdkcbaaGreatDoorW.PrintMore Go.Proofs.YtidajgkepdkcbaaGreatDoor.PF
attribute [local go_sem] max2_int min2_int max_two min_two max_three min_three max_four min_four
noncomputable def schismalaw04_known.f (k : Nat)  : Option (Bool) := (schismaref04_Make.f k 7 12).bind fun bt101 => ((convergent_Terms.f k bt101.1 bt101.2).bind fun bt104 => ((schismaref04_Make.f k 3 5).bind fun bt108 => ((convergent_Path.f k bt108.1 bt108.2).bind fun bt110 => ((convergent_Best.f k bt101.1 bt101.2 7).bind fun bt112 => (if bt104.2 = 0 then ((schismalaw04_ints.f k bt104.1 (([0, 1, 1, 2, 2] : List Int))).bind fun t119 => (if t119 = true then (if bt110.2 = 0 then (if bt110.1.toList = ([76, 82, 76] : List UInt8) then (if bt112.2 = 0 then ((schismaref04_Make.f k 1 1).bind fun bt120 => ((schismaref04_Make.f k 1 2).bind fun bt122 => ((schismaref04_Make.f k 3 5).bind fun bt124 => ((schismaref04_Make.f k 4 7).bind fun bt126 => ((schismalaw04_same.f k bt112.1 (([(⟨bt120.1, bt120.2⟩ : S24), (⟨bt122.1, bt122.2⟩ : S24), (⟨bt124.1, bt124.2⟩ : S24), (⟨bt126.1, bt126.2⟩ : S24)] : List (S24)))).bind fun t131 => (some t131)))))) else (some false)) else (some false)) else (some false)) else (some false))) else (some false))))))
set_option maxHeartbeats 8000000 in
set_option maxRecDepth 100000 in
theorem schismalaw04_known.calls (k : Nat)  (r : Bool) (w : World) (hG_ : GWorld w) (h : schismalaw04_known.f k  = some r) :
  Calls Tryz.prog 13 #[] w fun e w' => e = .returned (.bool r) ∧ Below w.heap.size w w' := by
 have hu24 := Tryz.underlying24
 have HB := Aside0.mk (Below.refl w.heap.size w)
 have HG := Aside0.mk hG_
 clear hG_
 have H : ((schismaref04_Make.f k 7 12).bind fun bt101 => ((convergent_Terms.f k bt101.1 bt101.2).bind fun bt104 => ((schismaref04_Make.f k 3 5).bind fun bt108 => ((convergent_Path.f k bt108.1 bt108.2).bind fun bt110 => ((convergent_Best.f k bt101.1 bt101.2 7).bind fun bt112 => (if bt104.2 = 0 then ((schismalaw04_ints.f k bt104.1 (([0, 1, 1, 2, 2] : List Int))).bind fun t119 => (if t119 = true then (if bt110.2 = 0 then (if bt110.1.toList = ([76, 82, 76] : List UInt8) then (if bt112.2 = 0 then ((schismaref04_Make.f k 1 1).bind fun bt120 => ((schismaref04_Make.f k 1 2).bind fun bt122 => ((schismaref04_Make.f k 3 5).bind fun bt124 => ((schismaref04_Make.f k 4 7).bind fun bt126 => ((schismalaw04_same.f k bt112.1 (([(⟨bt120.1, bt120.2⟩ : S24), (⟨bt122.1, bt122.2⟩ : S24), (⟨bt124.1, bt124.2⟩ : S24), (⟨bt126.1, bt126.2⟩ : S24)] : List (S24)))).bind fun t131 => (some t131)))))) else (some false)) else (some false)) else (some false)) else (some false))) else (some false))))))) = some r := h
 clear h
 replace H := Option.bind_eq_some_iff.mp H
 obtain ⟨⟨t101, t102⟩, A10, H⟩ := H
 replace H : ((convergent_Terms.f k t101 t102).bind fun bt104 => ((schismaref04_Make.f k 3 5).bind fun bt108 => ((convergent_Path.f k bt108.1 bt108.2).bind fun bt110 => ((convergent_Best.f k t101 t102 7).bind fun bt112 => (if bt104.2 = 0 then ((schismalaw04_ints.f k bt104.1 (([0, 1, 1, 2, 2] : List Int))).bind fun t119 => (if t119 = true then (if bt110.2 = 0 then (if bt110.1.toList = ([76, 82, 76] : List UInt8) then (if bt112.2 = 0 then ((schismaref04_Make.f k 1 1).bind fun bt120 => ((schismaref04_Make.f k 1 2).bind fun bt122 => ((schismaref04_Make.f k 3 5).bind fun bt124 => ((schismaref04_Make.f k 4 7).bind fun bt126 => ((schismalaw04_same.f k bt112.1 (([(⟨bt120.1, bt120.2⟩ : S24), (⟨bt122.1, bt122.2⟩ : S24), (⟨bt124.1, bt124.2⟩ : S24), (⟨bt126.1, bt126.2⟩ : S24)] : List (S24)))).bind fun t131 => (some t131)))))) else (some false)) else (some false)) else (some false)) else (some false))) else (some false)))))) = some r := H
 have A1 := Aside0.mk A10
 clear A10
 replace H := Option.bind_eq_some_iff.mp H
 obtain ⟨⟨t104, t107⟩, A20, H⟩ := H
 replace H : ((schismaref04_Make.f k 3 5).bind fun bt108 => ((convergent_Path.f k bt108.1 bt108.2).bind fun bt110 => ((convergent_Best.f k t101 t102 7).bind fun bt112 => (if t107 = 0 then ((schismalaw04_ints.f k t104 (([0, 1, 1, 2, 2] : List Int))).bind fun t119 => (if t119 = true then (if bt110.2 = 0 then (if bt110.1.toList = ([76, 82, 76] : List UInt8) then (if bt112.2 = 0 then ((schismaref04_Make.f k 1 1).bind fun bt120 => ((schismaref04_Make.f k 1 2).bind fun bt122 => ((schismaref04_Make.f k 3 5).bind fun bt124 => ((schismaref04_Make.f k 4 7).bind fun bt126 => ((schismalaw04_same.f k bt112.1 (([(⟨bt120.1, bt120.2⟩ : S24), (⟨bt122.1, bt122.2⟩ : S24), (⟨bt124.1, bt124.2⟩ : S24), (⟨bt126.1, bt126.2⟩ : S24)] : List (S24)))).bind fun t131 => (some t131)))))) else (some false)) else (some false)) else (some false)) else (some false))) else (some false))))) = some r := H
 have A2 := Aside0.mk A20
 clear A20
 replace H := Option.bind_eq_some_iff.mp H
 obtain ⟨⟨t108, t109⟩, A30, H⟩ := H
 replace H : ((convergent_Path.f k t108 t109).bind fun bt110 => ((convergent_Best.f k t101 t102 7).bind fun bt112 => (if t107 = 0 then ((schismalaw04_ints.f k t104 (([0, 1, 1, 2, 2] : List Int))).bind fun t119 => (if t119 = true then (if bt110.2 = 0 then (if bt110.1.toList = ([76, 82, 76] : List UInt8) then (if bt112.2 = 0 then ((schismaref04_Make.f k 1 1).bind fun bt120 => ((schismaref04_Make.f k 1 2).bind fun bt122 => ((schismaref04_Make.f k 3 5).bind fun bt124 => ((schismaref04_Make.f k 4 7).bind fun bt126 => ((schismalaw04_same.f k bt112.1 (([(⟨bt120.1, bt120.2⟩ : S24), (⟨bt122.1, bt122.2⟩ : S24), (⟨bt124.1, bt124.2⟩ : S24), (⟨bt126.1, bt126.2⟩ : S24)] : List (S24)))).bind fun t131 => (some t131)))))) else (some false)) else (some false)) else (some false)) else (some false))) else (some false)))) = some r := H
 have A3 := Aside0.mk A30
 clear A30
 replace H := Option.bind_eq_some_iff.mp H
 obtain ⟨⟨t110, t111⟩, A40, H⟩ := H
 replace H : ((convergent_Best.f k t101 t102 7).bind fun bt112 => (if t107 = 0 then ((schismalaw04_ints.f k t104 (([0, 1, 1, 2, 2] : List Int))).bind fun t119 => (if t119 = true then (if t111 = 0 then (if t110.toList = ([76, 82, 76] : List UInt8) then (if bt112.2 = 0 then ((schismaref04_Make.f k 1 1).bind fun bt120 => ((schismaref04_Make.f k 1 2).bind fun bt122 => ((schismaref04_Make.f k 3 5).bind fun bt124 => ((schismaref04_Make.f k 4 7).bind fun bt126 => ((schismalaw04_same.f k bt112.1 (([(⟨bt120.1, bt120.2⟩ : S24), (⟨bt122.1, bt122.2⟩ : S24), (⟨bt124.1, bt124.2⟩ : S24), (⟨bt126.1, bt126.2⟩ : S24)] : List (S24)))).bind fun t131 => (some t131)))))) else (some false)) else (some false)) else (some false)) else (some false))) else (some false))) = some r := H
 have A4 := Aside0.mk A40
 clear A40
 replace H := Option.bind_eq_some_iff.mp H
 obtain ⟨⟨t112, t115⟩, A50, H⟩ := H
 replace H : (if t107 = 0 then ((schismalaw04_ints.f k t104 (([0, 1, 1, 2, 2] : List Int))).bind fun t119 => (if t119 = true then (if t111 = 0 then (if t110.toList = ([76, 82, 76] : List UInt8) then (if t115 = 0 then ((schismaref04_Make.f k 1 1).bind fun bt120 => ((schismaref04_Make.f k 1 2).bind fun bt122 => ((schismaref04_Make.f k 3 5).bind fun bt124 => ((schismaref04_Make.f k 4 7).bind fun bt126 => ((schismalaw04_same.f k t112 (([(⟨bt120.1, bt120.2⟩ : S24), (⟨bt122.1, bt122.2⟩ : S24), (⟨bt124.1, bt124.2⟩ : S24), (⟨bt126.1, bt126.2⟩ : S24)] : List (S24)))).bind fun t131 => (some t131)))))) else (some false)) else (some false)) else (some false)) else (some false))) else (some false)) = some r := H
 have A5 := Aside0.mk A50
 clear A50
 by_cases c6 : t107 = 0
 ·rw [if_pos c6] at H
  have c6b0 : (t107 == 0) = true := beq_iff_eq.mpr c6
  have c6b1 : (t107 != 0) = false := bne_eq_false_iff_eq.mpr c6
  clear c6
  obtain ⟨y116, hy116⟩ : ∃ y_ : List Int, y_ = (([0, 1, 1, 2, 2] : List Int)) := ⟨_, rfl⟩
  replace H : ((schismalaw04_ints.f k t104 y116).bind fun t119 => (if t119 = true then (if t111 = 0 then (if t110.toList = ([76, 82, 76] : List UInt8) then (if t115 = 0 then ((schismaref04_Make.f k 1 1).bind fun bt120 => ((schismaref04_Make.f k 1 2).bind fun bt122 => ((schismaref04_Make.f k 3 5).bind fun bt124 => ((schismaref04_Make.f k 4 7).bind fun bt126 => ((schismalaw04_same.f k t112 (([(⟨bt120.1, bt120.2⟩ : S24), (⟨bt122.1, bt122.2⟩ : S24), (⟨bt124.1, bt124.2⟩ : S24), (⟨bt126.1, bt126.2⟩ : S24)] : List (S24)))).bind fun t131 => (some t131)))))) else (some false)) else (some false)) else (some false)) else (some false))) = some r := by first | (rw [hy116]; with_reducible exact H) | (have H2_ := (Option.bind_some _ _).symm.trans H; rw [hy116]; with_reducible exact H2_) | (have H2_ := (Option.bind_some _ _).symm.trans H; with_reducible exact H2_) | with_reducible exact H | (rw [hy116]; exact H) | exact H
  have Ny116 := Aside0.mk hy116
  clear hy116
  replace H := Option.bind_eq_some_iff.mp H
  obtain ⟨t119, A70, H⟩ := H
  replace H : (if t119 = true then (if t111 = 0 then (if t110.toList = ([76, 82, 76] : List UInt8) then (if t115 = 0 then ((schismaref04_Make.f k 1 1).bind fun bt120 => ((schismaref04_Make.f k 1 2).bind fun bt122 => ((schismaref04_Make.f k 3 5).bind fun bt124 => ((schismaref04_Make.f k 4 7).bind fun bt126 => ((schismalaw04_same.f k t112 (([(⟨bt120.1, bt120.2⟩ : S24), (⟨bt122.1, bt122.2⟩ : S24), (⟨bt124.1, bt124.2⟩ : S24), (⟨bt126.1, bt126.2⟩ : S24)] : List (S24)))).bind fun t131 => (some t131)))))) else (some false)) else (some false)) else (some false)) else (some false)) = some r := H
  have A7 := Aside0.mk A70
  clear A70
  by_cases c8 : t119 = true
  ·subst c8
   have H1 : (if t111 = 0 then (if t110.toList = ([76, 82, 76] : List UInt8) then (if t115 = 0 then ((schismaref04_Make.f k 1 1).bind fun bt120 => ((schismaref04_Make.f k 1 2).bind fun bt122 => ((schismaref04_Make.f k 3 5).bind fun bt124 => ((schismaref04_Make.f k 4 7).bind fun bt126 => ((schismalaw04_same.f k t112 (([(⟨bt120.1, bt120.2⟩ : S24), (⟨bt122.1, bt122.2⟩ : S24), (⟨bt124.1, bt124.2⟩ : S24), (⟨bt126.1, bt126.2⟩ : S24)] : List (S24)))).bind fun t131 => (some t131)))))) else (some false)) else (some false)) else (some false)) = some r := by rw [if_pos rfl] at H; exact H
   clear H
   have H := H1
   clear H1
   by_cases c9 : t111 = 0
   ·rw [if_pos c9] at H
    have c9b0 : (t111 == 0) = true := beq_iff_eq.mpr c9
    have c9b1 : (t111 != 0) = false := bne_eq_false_iff_eq.mpr c9
    clear c9
    by_cases c10 : t110.toList = ([76, 82, 76] : List UInt8)
    ·rw [if_pos c10] at H
     have c10b0 : (t110.toList == ([76, 82, 76] : List UInt8)) = true := beq_iff_eq.mpr c10
     have c10b1 : (t110.toList != ([76, 82, 76] : List UInt8)) = false := bne_eq_false_iff_eq.mpr c10
     clear c10
     by_cases c11 : t115 = 0
     ·rw [if_pos c11] at H
      have c11b0 : (t115 == 0) = true := beq_iff_eq.mpr c11
      have c11b1 : (t115 != 0) = false := bne_eq_false_iff_eq.mpr c11
      clear c11
      replace H := Option.bind_eq_some_iff.mp H
      obtain ⟨⟨t120, t121⟩, A120, H⟩ := H
      replace H : ((schismaref04_Make.f k 1 2).bind fun bt122 => ((schismaref04_Make.f k 3 5).bind fun bt124 => ((schismaref04_Make.f k 4 7).bind fun bt126 => ((schismalaw04_same.f k t112 (([(⟨t120, t121⟩ : S24), (⟨bt122.1, bt122.2⟩ : S24), (⟨bt124.1, bt124.2⟩ : S24), (⟨bt126.1, bt126.2⟩ : S24)] : List (S24)))).bind fun t131 => (some t131))))) = some r := H
      have A12 := Aside0.mk A120
      clear A120
      replace H := Option.bind_eq_some_iff.mp H
      obtain ⟨⟨t122, t123⟩, A130, H⟩ := H
      replace H : ((schismaref04_Make.f k 3 5).bind fun bt124 => ((schismaref04_Make.f k 4 7).bind fun bt126 => ((schismalaw04_same.f k t112 (([(⟨t120, t121⟩ : S24), (⟨t122, t123⟩ : S24), (⟨bt124.1, bt124.2⟩ : S24), (⟨bt126.1, bt126.2⟩ : S24)] : List (S24)))).bind fun t131 => (some t131)))) = some r := H
      have A13 := Aside0.mk A130
      clear A130
      replace H := Option.bind_eq_some_iff.mp H
      obtain ⟨⟨t124, t125⟩, A140, H⟩ := H
      replace H : ((schismaref04_Make.f k 4 7).bind fun bt126 => ((schismalaw04_same.f k t112 (([(⟨t120, t121⟩ : S24), (⟨t122, t123⟩ : S24), (⟨t124, t125⟩ : S24), (⟨bt126.1, bt126.2⟩ : S24)] : List (S24)))).bind fun t131 => (some t131))) = some r := H
      have A14 := Aside0.mk A140
      clear A140
      replace H := Option.bind_eq_some_iff.mp H
      obtain ⟨⟨t126, t127⟩, A150, H⟩ := H
      replace H : ((schismalaw04_same.f k t112 (([(⟨t120, t121⟩ : S24), (⟨t122, t123⟩ : S24), (⟨t124, t125⟩ : S24), (⟨t126, t127⟩ : S24)] : List (S24)))).bind fun t131 => (some t131)) = some r := H
      have A15 := Aside0.mk A150
      clear A150
      obtain ⟨y128, hy128⟩ : ∃ y_ : List (S24), y_ = (([(⟨t120, t121⟩ : S24), (⟨t122, t123⟩ : S24), (⟨t124, t125⟩ : S24), (⟨t126, t127⟩ : S24)] : List (S24))) := ⟨_, rfl⟩
      replace H : ((schismalaw04_same.f k t112 y128).bind fun t131 => (some t131)) = some r := by first | (rw [hy128]; with_reducible exact H) | (have H2_ := (Option.bind_some _ _).symm.trans H; rw [hy128]; with_reducible exact H2_) | (have H2_ := (Option.bind_some _ _).symm.trans H; with_reducible exact H2_) | with_reducible exact H | (rw [hy128]; exact H) | exact H
      have Ny128 := Aside0.mk hy128
      clear hy128
      replace H := Option.bind_eq_some_iff.mp H
      obtain ⟨t131, A160, H⟩ := H
      replace H : (some t131) = some r := H
      have A16 := Aside0.mk A160
      clear A160
      obtain rfl := Option.some.inj H
      go_enter Tryz.func13, Tryz.ntmps13
      go_wp2_with (first | ((with_reducible refine gate_callee (f := 17) rfl ?_); refine goesL_ (some 8) rfl rfl Tryz.func17 (by kernel_rfl) rfl #[.int .i64 7, .int .i64 12] rfl (by (try simp only [List.map_toArray, List.map_cons, List.map_nil]); try rfl) ?_; (with_reducible refine (schismaref04_Make.calls k 7 12 t101 t102 _ A1.out).mono ?_); rintro e w17 ⟨rfl, hb⟩; refine ⟨_, rfl, ?_⟩; have n0_ := Aside0.mk (below_step (by repeat (first | (with_reducible first | exact HB.out | apply below_alloc | apply pw_below_drewN | apply below_drew1) | exact HB.out)) hb); clear HB; have HB := n0_; clear n0_; (try clear hb); (try clear hb2); (try clear hk); (try clear hi)) | ((with_reducible refine gate_dst (N := 1) rfl ?_); (try (refine gate_guard (by rfl) ?_; dsimp only)); refine box_event ?hg (N := 1) ?hd (cs := #[.string (⟨#[]⟩ : ByteArray), .string (⟨#[]⟩ : ByteArray)]) (t := 24) ?hr ?_; (case hd => rfl); (case hg => rfl); (case hr => first | (go_simp; done) | (go_simp; rfl)); intro gb103 hg w18 hbox hb; have n0_ := Aside0.mk (below_step (by repeat (first | (with_reducible first | exact HB.out | apply below_alloc | apply pw_below_drewN | apply below_drew1) | exact HB.out)) hb); have n1_ := Aside0.mk (hbox); have n2_ := Aside0.mk ((by rw [hg]; exact (below_size (by repeat (first | (with_reducible first | exact HB.out | apply below_alloc | apply pw_below_drewN | apply below_drew1) | exact HB.out))) : w.heap.size ≤ gb103)); have n3_ := Aside0.mk ((by rw [hg]; exact (below_size (by repeat (first | (with_reducible first | exact HB.out | apply below_alloc | apply pw_below_drewN | apply below_drew1) | exact HB.out))) : w.heap.size ≤ gb103)); clear HB; have HB := n0_; have BK103 := n1_; have GW103 := n2_; have GE103 := n3_; clear n0_ n1_ n2_ n3_; clear hb hbox hg; have hcz19_0 : w18.cell? ⟨gb103, 0, none⟩ = some (.string (⟨#[]⟩ : ByteArray)) := (blk_cell BK103.out 0).trans rfl; have hcz19_1 : w18.cell? ⟨gb103, 1, none⟩ = some (.string (⟨#[]⟩ : ByteArray)) := (blk_cell BK103.out 1).trans rfl; have hfz19_0 := blk_frozen BK103.out 0; have hfz19_1 := blk_frozen BK103.out 1) | ((with_reducible refine gate_callee (f := 19) rfl ?_); refine goesL_ (some 11) rfl rfl Tryz.func19 (by kernel_rfl) rfl #[.agg #[.string t101, .string t102]] rfl (by (try simp only [List.map_toArray, List.map_cons, List.map_nil]); try rfl) ?_; (with_reducible refine (convergent_Terms.calls k t101 t102 t104 t107 _ ?side1 A2.out).mono ?_); (case side1 => exact GWorld.below HG.out (by repeat (first | (with_reducible first | exact HB.out | apply below_alloc | apply pw_below_drewN | apply below_drew1 | refine below_set ?_ GE103.out) | exact HB.out))); rintro e w20 ⟨v105, rfl, ho0, hb⟩; refine ⟨_, rfl, ?_⟩; have n0_ := Aside0.mk (Kd.R_lower ho0 (below_size (by repeat (first | (with_reducible first | exact HB.out | apply below_alloc | apply pw_below_drewN | apply below_drew1 | refine below_set ?_ GE103.out) | exact HB.out)))); have n1_ := Aside0.mk (blk_below (g := gb103) (o := .cells #[.string t101, .string t102] 24 (0, 0)) (by (with_reducible repeat (first | refine blk_drewN ?_ _ | refine blk_drew ?_ | refine blk_alloc ?_ _)); refine blk_put (cs := #[.string t101, .string (⟨#[]⟩ : ByteArray)]) ?_ 1 _ rfl; (with_reducible repeat (first | refine blk_drewN ?_ _ | refine blk_drew ?_ | refine blk_alloc ?_ _)); refine blk_put (cs := #[.string (⟨#[]⟩ : ByteArray), .string (⟨#[]⟩ : ByteArray)]) ?_ 0 _ rfl; (with_reducible repeat (first | refine blk_drewN ?_ _ | refine blk_drew ?_ | refine blk_alloc ?_ _)); exact BK103.out) hb); have n2_ := Aside0.mk (below_step (by repeat (first | (with_reducible first | exact HB.out | apply below_alloc | apply pw_below_drewN | apply below_drew1 | refine below_set ?_ GE103.out) | exact HB.out)) hb); clear BK103; clear HB; have HO106 := n0_; have BK103 := n1_; have HB := n2_; clear n0_ n1_ n2_; (try clear hb); (try clear hb2); (try clear hk); (try clear hi); (try clear ho0)) | ((with_reducible refine gate_callee (f := 17) rfl ?_); refine goesL_ (some 15) rfl rfl Tryz.func17 (by kernel_rfl) rfl #[.int .i64 3, .int .i64 5] rfl (by (try simp only [List.map_toArray, List.map_cons, List.map_nil]); try rfl) ?_; (with_reducible refine (schismaref04_Make.calls k 3 5 t108 t109 _ A3.out).mono ?_); rintro e w21 ⟨rfl, hb⟩; refine ⟨_, rfl, ?_⟩; have n0_ := Aside0.mk (Kd.R_below (by (with_reducible repeat (first | apply Kd.R_alloc | apply Kd.R_drewN | apply Kd.R_drew)); exact HO106.out) hb); have n1_ := Aside0.mk (blk_below (g := gb103) (o := .cells #[.string t101, .string t102] 24 (0, 0)) (by (with_reducible repeat (first | refine blk_drewN ?_ _ | refine blk_drew ?_ | refine blk_alloc ?_ _)); exact BK103.out) hb); have n2_ := Aside0.mk (below_step (by repeat (first | (with_reducible first | exact HB.out | apply below_alloc | apply pw_below_drewN | apply below_drew1 | refine below_set ?_ GE103.out) | exact HB.out)) hb); clear HO106; clear BK103; clear HB; have HO106 := n0_; have BK103 := n1_; have HB := n2_; clear n0_ n1_ n2_; (try clear hb); (try clear hb2); (try clear hk); (try clear hi)) | ((with_reducible refine gate_callee (f := 32) rfl ?_); refine goesL_ (some 16) rfl rfl Tryz.func32 (by kernel_rfl) rfl #[.agg #[.string t108, .string t109]] rfl (by (try simp only [List.map_toArray, List.map_cons, List.map_nil]); try rfl) ?_; (with_reducible refine (convergent_Path.calls k t108 t109 t110 t111 _ ?side1 A4.out).mono ?_); (case side1 => exact GWorld.below HG.out (by repeat (first | (with_reducible first | exact HB.out | apply below_alloc | apply pw_below_drewN | apply below_drew1 | refine below_set ?_ GE103.out) | exact HB.out))); rintro e w22 ⟨rfl, hb⟩; refine ⟨_, rfl, ?_⟩; have n0_ := Aside0.mk (Kd.R_below (by (with_reducible repeat (first | apply Kd.R_alloc | apply Kd.R_drewN | apply Kd.R_drew)); exact HO106.out) hb); have n1_ := Aside0.mk (blk_below (g := gb103) (o := .cells #[.string t101, .string t102] 24 (0, 0)) (by (with_reducible repeat (first | refine blk_drewN ?_ _ | refine blk_drew ?_ | refine blk_alloc ?_ _)); exact BK103.out) hb); have n2_ := Aside0.mk (below_step (by repeat (first | (with_reducible first | exact HB.out | apply below_alloc | apply pw_below_drewN | apply below_drew1 | refine below_set ?_ GE103.out) | exact HB.out)) hb); clear HO106; clear BK103; clear HB; have HO106 := n0_; have BK103 := n1_; have HB := n2_; clear n0_ n1_ n2_; (try clear hb); (try clear hb2); (try clear hk); (try clear hi); have hcz23_0 : w22.cell? ⟨gb103, 0, none⟩ = some (.string t101) := (blk_cell BK103.out 0).trans rfl; have hcz23_1 : w22.cell? ⟨gb103, 1, none⟩ = some (.string t102) := (blk_cell BK103.out 1).trans rfl; have hfz23_0 := blk_frozen BK103.out 0; have hfz23_1 := blk_frozen BK103.out 1) | ((with_reducible refine gate_callee (f := 28) rfl ?_); refine goesL_ (some 21) rfl rfl Tryz.func28 (by kernel_rfl) rfl #[.agg #[.string t101, .string t102], .int .i64 7] rfl (by (try simp only [List.map_toArray, List.map_cons, List.map_nil]); try rfl) ?_; (with_reducible refine (convergent_Best.calls k t101 t102 7 t112 t115 _ ?side1 A5.out).mono ?_); (case side1 => exact GWorld.below HG.out (by repeat (first | (with_reducible first | exact HB.out | apply below_alloc | apply pw_below_drewN | apply below_drew1 | refine below_set ?_ GE103.out) | exact HB.out))); rintro e w24 ⟨v113, rfl, ho0, hb⟩; refine ⟨_, rfl, ?_⟩; have n0_ := Aside0.mk (Kd.R_below (by (with_reducible repeat (first | apply Kd.R_alloc | apply Kd.R_drewN | apply Kd.R_drew)); exact HO106.out) hb); have n1_ := Aside0.mk (Kd.R_lower (Kd.R_newB ho0 (g := gb103) (o := .cells #[.string t101, .string t102] 24 (0, 0)) (by (with_reducible repeat (first | refine blk_drewN ?_ _ | refine blk_drew ?_ | refine blk_alloc ?_ _)); exact BK103.out)) (below_size (by repeat (first | (with_reducible first | exact HB.out | apply below_alloc | apply pw_below_drewN | apply below_drew1 | refine below_set ?_ GE103.out) | exact HB.out)))); have n2_ := Aside0.mk (blk_below (g := gb103) (o := .cells #[.string t101, .string t102] 24 (0, 0)) (by (with_reducible repeat (first | refine blk_drewN ?_ _ | refine blk_drew ?_ | refine blk_alloc ?_ _)); exact BK103.out) hb); have n3_ := Aside0.mk (below_step (by repeat (first | (with_reducible first | exact HB.out | apply below_alloc | apply pw_below_drewN | apply below_drew1 | refine below_set ?_ GE103.out) | exact HB.out)) hb); clear HO106; clear BK103; clear HB; have HO106 := n0_; have HO114 := n1_; have BK103 := n2_; have HB := n3_; clear n0_ n1_ n2_ n3_; (try clear hb); (try clear hb2); (try clear hk); (try clear hi); (try clear ho0)) | ((with_reducible refine gate_dst (N := 28) rfl ?_); (try (refine gate_guard (by rfl) ?_; dsimp only)); refine Kd.R_lit (Kd.int .i64) _ 3 ?hg (N := 28) ?hd (xs := ([0, 1, 1, 2, 2] : List Int)) (inner := [.int .i64 0, .int .i64 1, .int .i64 1, .int .i64 2, .int .i64 2]) (ok := fun _ => True) (okp := fun _ => True) ?hr ?hp (fun _ hk => hk) trivial (Below.refl _ _) (Nat.le_refl _) (by simp) ?_; (case hd => rfl); (case hg => rfl); (case hr => first | (go_simp; done) | (go_simp; rfl)); (case hp => exact (Reps.one (show Kd.M (Kd.int .i64) _ _ _ 0 [.int .i64 0] from rfl) (Reps.one (show Kd.M (Kd.int .i64) _ _ _ 1 [.int .i64 1] from rfl) (Reps.one (show Kd.M (Kd.int .i64) _ _ _ 1 [.int .i64 1] from rfl) (Reps.one (show Kd.M (Kd.int .i64) _ _ _ 2 [.int .i64 2] from rfl) (Reps.one (show Kd.M (Kd.int .i64) _ _ _ 2 [.int .i64 2] from rfl) (Reps.none _ _))))))); intro v117 w25 ho26 hb hg_ hnew_; clear hg_ hnew_; (first | rw [← Ny116.out] at ho26 | (simp only [Int.reduceToNat] at ho26; rw [← Ny116.out] at ho26)); have n0_ := Aside0.mk (Kd.R_below (by (with_reducible repeat (first | apply Kd.R_alloc | apply Kd.R_drewN | apply Kd.R_drew)); exact HO106.out) hb); have n1_ := Aside0.mk (Kd.R_below (by (with_reducible repeat (first | apply Kd.R_alloc | apply Kd.R_drewN | apply Kd.R_drew)); exact HO114.out) hb); have n2_ := Aside0.mk (Kd.R_lower ho26 (below_size (by repeat (first | (with_reducible first | exact HB.out | apply below_alloc | apply pw_below_drewN | apply below_drew1 | refine below_set ?_ GE103.out) | exact HB.out)))); have n3_ := Aside0.mk (blk_below (g := gb103) (o := .cells #[.string t101, .string t102] 24 (0, 0)) (by (with_reducible repeat (first | refine blk_drewN ?_ _ | refine blk_drew ?_ | refine blk_alloc ?_ _)); exact BK103.out) hb); have n4_ := Aside0.mk (below_step (by repeat (first | (with_reducible first | exact HB.out | apply below_alloc | apply pw_below_drewN | apply below_drew1 | refine below_set ?_ GE103.out) | exact HB.out)) hb); clear HO106; clear HO114; clear BK103; clear HB; have HO106 := n0_; have HO114 := n1_; have HO118 := n2_; have BK103 := n3_; have HB := n4_; clear n0_ n1_ n2_ n3_ n4_; clear hb ho26; obtain ⟨Ao27, co27, eo27⟩ := Kd.R_slice HO106.out; subst eo27; obtain ⟨Ao28, co28, eo28⟩ := Kd.R_slice HO118.out; subst eo28) | (go_at_call 22; (with_reducible refine (schismalaw04_ints.calls k _ _ t104 _ _ y116 true _ ?side1 ?side2 ?side3 ?side4 A7.out).mono ?_); (case side1 => repeat (first | exact (Kd.R_reads' HO106.out).2.2 | (with_reducible refine Kd.C_alloc ?_ _) | (with_reducible refine Kd.C_drewN ?_ _) | (with_reducible refine Kd.C_drew ?_))); (case side2 => exact (Kd.R_reads' HO106.out).2.1); (case side3 => repeat (first | exact (Kd.R_reads' HO118.out).2.2 | (with_reducible refine Kd.C_alloc ?_ _) | (with_reducible refine Kd.C_drewN ?_ _) | (with_reducible refine Kd.C_drew ?_))); (case side4 => exact (Kd.R_reads' HO118.out).2.1); rintro e w29 ⟨rfl, hb⟩; have n0_ := Aside0.mk (Kd.R_below (by (with_reducible repeat (first | apply Kd.R_alloc | apply Kd.R_drewN | apply Kd.R_drew)); exact HO106.out) hb); have n1_ := Aside0.mk (Kd.R_below (by (with_reducible repeat (first | apply Kd.R_alloc | apply Kd.R_drewN | apply Kd.R_drew)); exact HO114.out) hb); have n2_ := Aside0.mk (Kd.R_below (by (with_reducible repeat (first | apply Kd.R_alloc | apply Kd.R_drewN | apply Kd.R_drew)); exact HO118.out) hb); have n3_ := Aside0.mk (blk_below (g := gb103) (o := .cells #[.string t101, .string t102] 24 (0, 0)) (by (with_reducible repeat (first | refine blk_drewN ?_ _ | refine blk_drew ?_ | refine blk_alloc ?_ _)); exact BK103.out) hb); have n4_ := Aside0.mk (below_step (by repeat (first | (with_reducible first | exact HB.out | apply below_alloc | apply pw_below_drewN | apply below_drew1 | refine below_set ?_ GE103.out) | exact HB.out)) hb); clear HO106; clear HO114; clear HO118; clear BK103; clear HB; have HO106 := n0_; have HO114 := n1_; have HO118 := n2_; have BK103 := n3_; have HB := n4_; clear n0_ n1_ n2_ n3_ n4_; (try clear hb); (try clear hb2); (try clear hk); (try clear hi)) | (go_at_call 17; (with_reducible refine (schismaref04_Make.calls k 1 1 t120 t121 _ A12.out).mono ?_); rintro e w30 ⟨rfl, hb⟩; have n0_ := Aside0.mk (Kd.R_below (by (with_reducible repeat (first | apply Kd.R_alloc | apply Kd.R_drewN | apply Kd.R_drew)); exact HO106.out) hb); have n1_ := Aside0.mk (Kd.R_below (by (with_reducible repeat (first | apply Kd.R_alloc | apply Kd.R_drewN | apply Kd.R_drew)); exact HO114.out) hb); have n2_ := Aside0.mk (Kd.R_below (by (with_reducible repeat (first | apply Kd.R_alloc | apply Kd.R_drewN | apply Kd.R_drew)); exact HO118.out) hb); have n3_ := Aside0.mk (blk_below (g := gb103) (o := .cells #[.string t101, .string t102] 24 (0, 0)) (by (with_reducible repeat (first | refine blk_drewN ?_ _ | refine blk_drew ?_ | refine blk_alloc ?_ _)); exact BK103.out) hb); have n4_ := Aside0.mk (below_step (by repeat (first | (with_reducible first | exact HB.out | apply below_alloc | apply pw_below_drewN | apply below_drew1 | refine below_set ?_ GE103.out) | exact HB.out)) hb); clear HO106; clear HO114; clear HO118; clear BK103; clear HB; have HO106 := n0_; have HO114 := n1_; have HO118 := n2_; have BK103 := n3_; have HB := n4_; clear n0_ n1_ n2_ n3_ n4_; (try clear hb); (try clear hb2); (try clear hk); (try clear hi)) | (go_at_call 17; (with_reducible refine (schismaref04_Make.calls k 1 2 t122 t123 _ A13.out).mono ?_); rintro e w31 ⟨rfl, hb⟩; have n0_ := Aside0.mk (Kd.R_below (by (with_reducible repeat (first | apply Kd.R_alloc | apply Kd.R_drewN | apply Kd.R_drew)); exact HO106.out) hb); have n1_ := Aside0.mk (Kd.R_below (by (with_reducible repeat (first | apply Kd.R_alloc | apply Kd.R_drewN | apply Kd.R_drew)); exact HO114.out) hb); have n2_ := Aside0.mk (Kd.R_below (by (with_reducible repeat (first | apply Kd.R_alloc | apply Kd.R_drewN | apply Kd.R_drew)); exact HO118.out) hb); have n3_ := Aside0.mk (blk_below (g := gb103) (o := .cells #[.string t101, .string t102] 24 (0, 0)) (by (with_reducible repeat (first | refine blk_drewN ?_ _ | refine blk_drew ?_ | refine blk_alloc ?_ _)); exact BK103.out) hb); have n4_ := Aside0.mk (below_step (by repeat (first | (with_reducible first | exact HB.out | apply below_alloc | apply pw_below_drewN | apply below_drew1 | refine below_set ?_ GE103.out) | exact HB.out)) hb); clear HO106; clear HO114; clear HO118; clear BK103; clear HB; have HO106 := n0_; have HO114 := n1_; have HO118 := n2_; have BK103 := n3_; have HB := n4_; clear n0_ n1_ n2_ n3_ n4_; (try clear hb); (try clear hb2); (try clear hk); (try clear hi)) | (go_at_call 17; (with_reducible refine (schismaref04_Make.calls k 3 5 t124 t125 _ A14.out).mono ?_); rintro e w32 ⟨rfl, hb⟩; have n0_ := Aside0.mk (Kd.R_below (by (with_reducible repeat (first | apply Kd.R_alloc | apply Kd.R_drewN | apply Kd.R_drew)); exact HO106.out) hb); have n1_ := Aside0.mk (Kd.R_below (by (with_reducible repeat (first | apply Kd.R_alloc | apply Kd.R_drewN | apply Kd.R_drew)); exact HO114.out) hb); have n2_ := Aside0.mk (Kd.R_below (by (with_reducible repeat (first | apply Kd.R_alloc | apply Kd.R_drewN | apply Kd.R_drew)); exact HO118.out) hb); have n3_ := Aside0.mk (blk_below (g := gb103) (o := .cells #[.string t101, .string t102] 24 (0, 0)) (by (with_reducible repeat (first | refine blk_drewN ?_ _ | refine blk_drew ?_ | refine blk_alloc ?_ _)); exact BK103.out) hb); have n4_ := Aside0.mk (below_step (by repeat (first | (with_reducible first | exact HB.out | apply below_alloc | apply pw_below_drewN | apply below_drew1 | refine below_set ?_ GE103.out) | exact HB.out)) hb); clear HO106; clear HO114; clear HO118; clear BK103; clear HB; have HO106 := n0_; have HO114 := n1_; have HO118 := n2_; have BK103 := n3_; have HB := n4_; clear n0_ n1_ n2_ n3_ n4_; (try clear hb); (try clear hb2); (try clear hk); (try clear hi)) | (go_at_call 17; (with_reducible refine (schismaref04_Make.calls k 4 7 t126 t127 _ A15.out).mono ?_); rintro e w33 ⟨rfl, hb⟩; have n0_ := Aside0.mk (Kd.R_below (by (with_reducible repeat (first | apply Kd.R_alloc | apply Kd.R_drewN | apply Kd.R_drew)); exact HO106.out) hb); have n1_ := Aside0.mk (Kd.R_below (by (with_reducible repeat (first | apply Kd.R_alloc | apply Kd.R_drewN | apply Kd.R_drew)); exact HO114.out) hb); have n2_ := Aside0.mk (Kd.R_below (by (with_reducible repeat (first | apply Kd.R_alloc | apply Kd.R_drewN | apply Kd.R_drew)); exact HO118.out) hb); have n3_ := Aside0.mk (blk_below (g := gb103) (o := .cells #[.string t101, .string t102] 24 (0, 0)) (by (with_reducible repeat (first | refine blk_drewN ?_ _ | refine blk_drew ?_ | refine blk_alloc ?_ _)); exact BK103.out) hb); have n4_ := Aside0.mk (below_step (by repeat (first | (with_reducible first | exact HB.out | apply below_alloc | apply pw_below_drewN | apply below_drew1 | refine below_set ?_ GE103.out) | exact HB.out)) hb); clear HO106; clear HO114; clear HO118; clear BK103; clear HB; have HO106 := n0_; have HO114 := n1_; have HO118 := n2_; have BK103 := n3_; have HB := n4_; clear n0_ n1_ n2_ n3_ n4_; (try clear hb); (try clear hb2); (try clear hk); (try clear hi)) | ((with_reducible refine gate_dst (N := 49) rfl ?_); (try (refine gate_guard (by rfl) ?_; dsimp only)); refine Kd.R_lit k24 _ 24 ?hg (N := 49) ?hd (xs := ([(⟨t120, t121⟩ : S24), (⟨t122, t123⟩ : S24), (⟨t124, t125⟩ : S24), (⟨t126, t127⟩ : S24)] : List (S24))) (inner := [.string t120, .string t121, .string t122, .string t123, .string t124, .string t125, .string t126, .string t127]) (ok := fun _ => True) (okp := fun _ => True) ?hr ?hp (fun _ hk => hk) trivial (Below.refl _ _) (Nat.le_refl _) (by simp) ?_; (case hd => rfl); (case hg => rfl); (case hr => first | (go_simp; done) | (go_simp; rfl)); (case hp => exact (Reps.c2 (show Kd.M k24 _ _ _ (⟨t120, t121⟩ : S24) [.string t120, .string t121] from (k24_mkM _ _ _ (⟨t120, t121⟩ : S24) )) (Reps.c2 (show Kd.M k24 _ _ _ (⟨t122, t123⟩ : S24) [.string t122, .string t123] from (k24_mkM _ _ _ (⟨t122, t123⟩ : S24) )) (Reps.c2 (show Kd.M k24 _ _ _ (⟨t124, t125⟩ : S24) [.string t124, .string t125] from (k24_mkM _ _ _ (⟨t124, t125⟩ : S24) )) (Reps.c2 (show Kd.M k24 _ _ _ (⟨t126, t127⟩ : S24) [.string t126, .string t127] from (k24_mkM _ _ _ (⟨t126, t127⟩ : S24) )) (Reps.none _ _)))))); intro v129 w34 ho35 hb hg_ hnew_; clear hg_ hnew_; (first | rw [← Ny128.out] at ho35 | (simp only [Int.reduceToNat] at ho35; rw [← Ny128.out] at ho35)); have n0_ := Aside0.mk (Kd.R_below (by (with_reducible repeat (first | apply Kd.R_alloc | apply Kd.R_drewN | apply Kd.R_drew)); exact HO106.out) hb); have n1_ := Aside0.mk (Kd.R_elder' (by (with_reducible repeat (first | apply Kd.R_alloc | apply Kd.R_drewN | apply Kd.R_drew)); exact HO114.out) (Kd.R_base ho35) hb); have n2_ := Aside0.mk (Kd.R_below (by (with_reducible repeat (first | apply Kd.R_alloc | apply Kd.R_drewN | apply Kd.R_drew)); exact HO118.out) hb); have n3_ := Aside0.mk (Kd.R_lower (Kd.R_newB (Kd.R_new' ho35 (Kd.R_lt (by (with_reducible repeat (first | apply Kd.R_alloc | apply Kd.R_drewN | apply Kd.R_drew)); exact HO114.out))) (g := gb103) (o := .cells #[.string t101, .string t102] 24 (0, 0)) (by (with_reducible repeat (first | refine blk_drewN ?_ _ | refine blk_drew ?_ | refine blk_alloc ?_ _)); exact BK103.out)) (below_size (by repeat (first | (with_reducible first | exact HB.out | apply below_alloc | apply pw_below_drewN | apply below_drew1 | refine below_set ?_ GE103.out) | exact HB.out)))); have n4_ := Aside0.mk (blk_below (g := gb103) (o := .cells #[.string t101, .string t102] 24 (0, 0)) (by (with_reducible repeat (first | refine blk_drewN ?_ _ | refine blk_drew ?_ | refine blk_alloc ?_ _)); exact BK103.out) hb); have n5_ := Aside0.mk (below_step (by repeat (first | (with_reducible first | exact HB.out | apply below_alloc | apply pw_below_drewN | apply below_drew1 | refine below_set ?_ GE103.out) | exact HB.out)) hb); clear HO106; clear HO114; clear HO118; clear BK103; clear HB; have HO106 := n0_; have HO114 := n1_; have HO118 := n2_; have HO130 := n3_; have BK103 := n4_; have HB := n5_; clear n0_ n1_ n2_ n3_ n4_ n5_; clear hb ho35; obtain ⟨Ao36, co36, eo36⟩ := Kd.R_slice HO114.out; subst eo36; obtain ⟨Ao37, co37, eo37⟩ := Kd.R_slice HO130.out; subst eo37) | (go_at_call 23; (with_reducible refine (schismalaw04_same.calls k _ _ t112 _ _ y128 t131 _ ?side1 ?side2 ?side3 ?side4 A16.out).mono ?_); (case side1 => repeat (first | exact (Kd.R_reads' HO114.out).2.2 | (with_reducible refine Kd.C_alloc ?_ _) | (with_reducible refine Kd.C_drewN ?_ _) | (with_reducible refine Kd.C_drew ?_))); (case side2 => exact (Kd.R_reads' HO114.out).2.1); (case side3 => repeat (first | exact (Kd.R_reads' HO130.out).2.2 | (with_reducible refine Kd.C_alloc ?_ _) | (with_reducible refine Kd.C_drewN ?_ _) | (with_reducible refine Kd.C_drew ?_))); (case side4 => exact (Kd.R_reads' HO130.out).2.1); rintro e w' ⟨rfl, ⟨nd, rfl⟩⟩))
      go_ret
      exact ⟨by first | rfl | (simp [*, errW_none, errW_some] <;> rfl), by repeat (first | (with_reducible first | exact HB.out | apply below_alloc | apply pw_below_drewN | apply below_drew1 | refine below_set ?_ GE103.out) | exact HB.out)⟩
     ·rw [if_neg c11] at H
      have c11b0 : (t115 == 0) = false := beq_eq_false_iff_ne.mpr c11
      have c11b1 : (t115 != 0) = true := bne_iff_ne.mpr c11
      obtain rfl := Option.some.inj H
      go_enter Tryz.func13, Tryz.ntmps13
      go_wp2_with (first | ((with_reducible refine gate_callee (f := 17) rfl ?_); refine goesL_ (some 8) rfl rfl Tryz.func17 (by kernel_rfl) rfl #[.int .i64 7, .int .i64 12] rfl (by (try simp only [List.map_toArray, List.map_cons, List.map_nil]); try rfl) ?_; (with_reducible refine (schismaref04_Make.calls k 7 12 t101 t102 _ A1.out).mono ?_); rintro e w38 ⟨rfl, hb⟩; refine ⟨_, rfl, ?_⟩; have n0_ := Aside0.mk (below_step (by repeat (first | (with_reducible first | exact HB.out | apply below_alloc | apply pw_below_drewN | apply below_drew1) | exact HB.out)) hb); clear HB; have HB := n0_; clear n0_; (try clear hb); (try clear hb2); (try clear hk); (try clear hi)) | ((with_reducible refine gate_dst (N := 1) rfl ?_); (try (refine gate_guard (by rfl) ?_; dsimp only)); refine box_event ?hg (N := 1) ?hd (cs := #[.string (⟨#[]⟩ : ByteArray), .string (⟨#[]⟩ : ByteArray)]) (t := 24) ?hr ?_; (case hd => rfl); (case hg => rfl); (case hr => first | (go_simp; done) | (go_simp; rfl)); intro gb103 hg w39 hbox hb; have n0_ := Aside0.mk (below_step (by repeat (first | (with_reducible first | exact HB.out | apply below_alloc | apply pw_below_drewN | apply below_drew1) | exact HB.out)) hb); have n1_ := Aside0.mk (hbox); have n2_ := Aside0.mk ((by rw [hg]; exact (below_size (by repeat (first | (with_reducible first | exact HB.out | apply below_alloc | apply pw_below_drewN | apply below_drew1) | exact HB.out))) : w.heap.size ≤ gb103)); have n3_ := Aside0.mk ((by rw [hg]; exact (below_size (by repeat (first | (with_reducible first | exact HB.out | apply below_alloc | apply pw_below_drewN | apply below_drew1) | exact HB.out))) : w.heap.size ≤ gb103)); clear HB; have HB := n0_; have BK103 := n1_; have GW103 := n2_; have GE103 := n3_; clear n0_ n1_ n2_ n3_; clear hb hbox hg; have hcz40_0 : w39.cell? ⟨gb103, 0, none⟩ = some (.string (⟨#[]⟩ : ByteArray)) := (blk_cell BK103.out 0).trans rfl; have hcz40_1 : w39.cell? ⟨gb103, 1, none⟩ = some (.string (⟨#[]⟩ : ByteArray)) := (blk_cell BK103.out 1).trans rfl; have hfz40_0 := blk_frozen BK103.out 0; have hfz40_1 := blk_frozen BK103.out 1) | ((with_reducible refine gate_callee (f := 19) rfl ?_); refine goesL_ (some 11) rfl rfl Tryz.func19 (by kernel_rfl) rfl #[.agg #[.string t101, .string t102]] rfl (by (try simp only [List.map_toArray, List.map_cons, List.map_nil]); try rfl) ?_; (with_reducible refine (convergent_Terms.calls k t101 t102 t104 t107 _ ?side1 A2.out).mono ?_); (case side1 => exact GWorld.below HG.out (by repeat (first | (with_reducible first | exact HB.out | apply below_alloc | apply pw_below_drewN | apply below_drew1 | refine below_set ?_ GE103.out) | exact HB.out))); rintro e w41 ⟨v105, rfl, ho0, hb⟩; refine ⟨_, rfl, ?_⟩; have n0_ := Aside0.mk (Kd.R_lower ho0 (below_size (by repeat (first | (with_reducible first | exact HB.out | apply below_alloc | apply pw_below_drewN | apply below_drew1 | refine below_set ?_ GE103.out) | exact HB.out)))); have n1_ := Aside0.mk (blk_below (g := gb103) (o := .cells #[.string t101, .string t102] 24 (0, 0)) (by (with_reducible repeat (first | refine blk_drewN ?_ _ | refine blk_drew ?_ | refine blk_alloc ?_ _)); refine blk_put (cs := #[.string t101, .string (⟨#[]⟩ : ByteArray)]) ?_ 1 _ rfl; (with_reducible repeat (first | refine blk_drewN ?_ _ | refine blk_drew ?_ | refine blk_alloc ?_ _)); refine blk_put (cs := #[.string (⟨#[]⟩ : ByteArray), .string (⟨#[]⟩ : ByteArray)]) ?_ 0 _ rfl; (with_reducible repeat (first | refine blk_drewN ?_ _ | refine blk_drew ?_ | refine blk_alloc ?_ _)); exact BK103.out) hb); have n2_ := Aside0.mk (below_step (by repeat (first | (with_reducible first | exact HB.out | apply below_alloc | apply pw_below_drewN | apply below_drew1 | refine below_set ?_ GE103.out) | exact HB.out)) hb); clear BK103; clear HB; have HO106 := n0_; have BK103 := n1_; have HB := n2_; clear n0_ n1_ n2_; (try clear hb); (try clear hb2); (try clear hk); (try clear hi); (try clear ho0)) | ((with_reducible refine gate_callee (f := 17) rfl ?_); refine goesL_ (some 15) rfl rfl Tryz.func17 (by kernel_rfl) rfl #[.int .i64 3, .int .i64 5] rfl (by (try simp only [List.map_toArray, List.map_cons, List.map_nil]); try rfl) ?_; (with_reducible refine (schismaref04_Make.calls k 3 5 t108 t109 _ A3.out).mono ?_); rintro e w42 ⟨rfl, hb⟩; refine ⟨_, rfl, ?_⟩; have n0_ := Aside0.mk (Kd.R_below (by (with_reducible repeat (first | apply Kd.R_alloc | apply Kd.R_drewN | apply Kd.R_drew)); exact HO106.out) hb); have n1_ := Aside0.mk (blk_below (g := gb103) (o := .cells #[.string t101, .string t102] 24 (0, 0)) (by (with_reducible repeat (first | refine blk_drewN ?_ _ | refine blk_drew ?_ | refine blk_alloc ?_ _)); exact BK103.out) hb); have n2_ := Aside0.mk (below_step (by repeat (first | (with_reducible first | exact HB.out | apply below_alloc | apply pw_below_drewN | apply below_drew1 | refine below_set ?_ GE103.out) | exact HB.out)) hb); clear HO106; clear BK103; clear HB; have HO106 := n0_; have BK103 := n1_; have HB := n2_; clear n0_ n1_ n2_; (try clear hb); (try clear hb2); (try clear hk); (try clear hi)) | ((with_reducible refine gate_callee (f := 32) rfl ?_); refine goesL_ (some 16) rfl rfl Tryz.func32 (by kernel_rfl) rfl #[.agg #[.string t108, .string t109]] rfl (by (try simp only [List.map_toArray, List.map_cons, List.map_nil]); try rfl) ?_; (with_reducible refine (convergent_Path.calls k t108 t109 t110 t111 _ ?side1 A4.out).mono ?_); (case side1 => exact GWorld.below HG.out (by repeat (first | (with_reducible first | exact HB.out | apply below_alloc | apply pw_below_drewN | apply below_drew1 | refine below_set ?_ GE103.out) | exact HB.out))); rintro e w43 ⟨rfl, hb⟩; refine ⟨_, rfl, ?_⟩; have n0_ := Aside0.mk (Kd.R_below (by (with_reducible repeat (first | apply Kd.R_alloc | apply Kd.R_drewN | apply Kd.R_drew)); exact HO106.out) hb); have n1_ := Aside0.mk (blk_below (g := gb103) (o := .cells #[.string t101, .string t102] 24 (0, 0)) (by (with_reducible repeat (first | refine blk_drewN ?_ _ | refine blk_drew ?_ | refine blk_alloc ?_ _)); exact BK103.out) hb); have n2_ := Aside0.mk (below_step (by repeat (first | (with_reducible first | exact HB.out | apply below_alloc | apply pw_below_drewN | apply below_drew1 | refine below_set ?_ GE103.out) | exact HB.out)) hb); clear HO106; clear BK103; clear HB; have HO106 := n0_; have BK103 := n1_; have HB := n2_; clear n0_ n1_ n2_; (try clear hb); (try clear hb2); (try clear hk); (try clear hi); have hcz44_0 : w43.cell? ⟨gb103, 0, none⟩ = some (.string t101) := (blk_cell BK103.out 0).trans rfl; have hcz44_1 : w43.cell? ⟨gb103, 1, none⟩ = some (.string t102) := (blk_cell BK103.out 1).trans rfl; have hfz44_0 := blk_frozen BK103.out 0; have hfz44_1 := blk_frozen BK103.out 1) | ((with_reducible refine gate_callee (f := 28) rfl ?_); refine goesL_ (some 21) rfl rfl Tryz.func28 (by kernel_rfl) rfl #[.agg #[.string t101, .string t102], .int .i64 7] rfl (by (try simp only [List.map_toArray, List.map_cons, List.map_nil]); try rfl) ?_; (with_reducible refine (convergent_Best.calls k t101 t102 7 t112 t115 _ ?side1 A5.out).mono ?_); (case side1 => exact GWorld.below HG.out (by repeat (first | (with_reducible first | exact HB.out | apply below_alloc | apply pw_below_drewN | apply below_drew1 | refine below_set ?_ GE103.out) | exact HB.out))); rintro e w45 ⟨v113, rfl, ho0, hb⟩; refine ⟨_, rfl, ?_⟩; have n0_ := Aside0.mk (Kd.R_below (by (with_reducible repeat (first | apply Kd.R_alloc | apply Kd.R_drewN | apply Kd.R_drew)); exact HO106.out) hb); have n1_ := Aside0.mk (Kd.R_lower (Kd.R_newB ho0 (g := gb103) (o := .cells #[.string t101, .string t102] 24 (0, 0)) (by (with_reducible repeat (first | refine blk_drewN ?_ _ | refine blk_drew ?_ | refine blk_alloc ?_ _)); exact BK103.out)) (below_size (by repeat (first | (with_reducible first | exact HB.out | apply below_alloc | apply pw_below_drewN | apply below_drew1 | refine below_set ?_ GE103.out) | exact HB.out)))); have n2_ := Aside0.mk (blk_below (g := gb103) (o := .cells #[.string t101, .string t102] 24 (0, 0)) (by (with_reducible repeat (first | refine blk_drewN ?_ _ | refine blk_drew ?_ | refine blk_alloc ?_ _)); exact BK103.out) hb); have n3_ := Aside0.mk (below_step (by repeat (first | (with_reducible first | exact HB.out | apply below_alloc | apply pw_below_drewN | apply below_drew1 | refine below_set ?_ GE103.out) | exact HB.out)) hb); clear HO106; clear BK103; clear HB; have HO106 := n0_; have HO114 := n1_; have BK103 := n2_; have HB := n3_; clear n0_ n1_ n2_ n3_; (try clear hb); (try clear hb2); (try clear hk); (try clear hi); (try clear ho0)) | ((with_reducible refine gate_dst (N := 28) rfl ?_); (try (refine gate_guard (by rfl) ?_; dsimp only)); refine Kd.R_lit (Kd.int .i64) _ 3 ?hg (N := 28) ?hd (xs := ([0, 1, 1, 2, 2] : List Int)) (inner := [.int .i64 0, .int .i64 1, .int .i64 1, .int .i64 2, .int .i64 2]) (ok := fun _ => True) (okp := fun _ => True) ?hr ?hp (fun _ hk => hk) trivial (Below.refl _ _) (Nat.le_refl _) (by simp) ?_; (case hd => rfl); (case hg => rfl); (case hr => first | (go_simp; done) | (go_simp; rfl)); (case hp => exact (Reps.one (show Kd.M (Kd.int .i64) _ _ _ 0 [.int .i64 0] from rfl) (Reps.one (show Kd.M (Kd.int .i64) _ _ _ 1 [.int .i64 1] from rfl) (Reps.one (show Kd.M (Kd.int .i64) _ _ _ 1 [.int .i64 1] from rfl) (Reps.one (show Kd.M (Kd.int .i64) _ _ _ 2 [.int .i64 2] from rfl) (Reps.one (show Kd.M (Kd.int .i64) _ _ _ 2 [.int .i64 2] from rfl) (Reps.none _ _))))))); intro v117 w46 ho47 hb hg_ hnew_; clear hg_ hnew_; (first | rw [← Ny116.out] at ho47 | (simp only [Int.reduceToNat] at ho47; rw [← Ny116.out] at ho47)); have n0_ := Aside0.mk (Kd.R_below (by (with_reducible repeat (first | apply Kd.R_alloc | apply Kd.R_drewN | apply Kd.R_drew)); exact HO106.out) hb); have n1_ := Aside0.mk (Kd.R_below (by (with_reducible repeat (first | apply Kd.R_alloc | apply Kd.R_drewN | apply Kd.R_drew)); exact HO114.out) hb); have n2_ := Aside0.mk (Kd.R_lower ho47 (below_size (by repeat (first | (with_reducible first | exact HB.out | apply below_alloc | apply pw_below_drewN | apply below_drew1 | refine below_set ?_ GE103.out) | exact HB.out)))); have n3_ := Aside0.mk (blk_below (g := gb103) (o := .cells #[.string t101, .string t102] 24 (0, 0)) (by (with_reducible repeat (first | refine blk_drewN ?_ _ | refine blk_drew ?_ | refine blk_alloc ?_ _)); exact BK103.out) hb); have n4_ := Aside0.mk (below_step (by repeat (first | (with_reducible first | exact HB.out | apply below_alloc | apply pw_below_drewN | apply below_drew1 | refine below_set ?_ GE103.out) | exact HB.out)) hb); clear HO106; clear HO114; clear BK103; clear HB; have HO106 := n0_; have HO114 := n1_; have HO118 := n2_; have BK103 := n3_; have HB := n4_; clear n0_ n1_ n2_ n3_ n4_; clear hb ho47; obtain ⟨Ao48, co48, eo48⟩ := Kd.R_slice HO106.out; subst eo48; obtain ⟨Ao49, co49, eo49⟩ := Kd.R_slice HO118.out; subst eo49) | (go_at_call 22; (with_reducible refine (schismalaw04_ints.calls k _ _ t104 _ _ y116 true _ ?side1 ?side2 ?side3 ?side4 A7.out).mono ?_); (case side1 => repeat (first | exact (Kd.R_reads' HO106.out).2.2 | (with_reducible refine Kd.C_alloc ?_ _) | (with_reducible refine Kd.C_drewN ?_ _) | (with_reducible refine Kd.C_drew ?_))); (case side2 => exact (Kd.R_reads' HO106.out).2.1); (case side3 => repeat (first | exact (Kd.R_reads' HO118.out).2.2 | (with_reducible refine Kd.C_alloc ?_ _) | (with_reducible refine Kd.C_drewN ?_ _) | (with_reducible refine Kd.C_drew ?_))); (case side4 => exact (Kd.R_reads' HO118.out).2.1); rintro e w50 ⟨rfl, hb⟩; have n0_ := Aside0.mk (Kd.R_below (by (with_reducible repeat (first | apply Kd.R_alloc | apply Kd.R_drewN | apply Kd.R_drew)); exact HO106.out) hb); have n1_ := Aside0.mk (Kd.R_below (by (with_reducible repeat (first | apply Kd.R_alloc | apply Kd.R_drewN | apply Kd.R_drew)); exact HO114.out) hb); have n2_ := Aside0.mk (Kd.R_below (by (with_reducible repeat (first | apply Kd.R_alloc | apply Kd.R_drewN | apply Kd.R_drew)); exact HO118.out) hb); have n3_ := Aside0.mk (blk_below (g := gb103) (o := .cells #[.string t101, .string t102] 24 (0, 0)) (by (with_reducible repeat (first | refine blk_drewN ?_ _ | refine blk_drew ?_ | refine blk_alloc ?_ _)); exact BK103.out) hb); have n4_ := Aside0.mk (below_step (by repeat (first | (with_reducible first | exact HB.out | apply below_alloc | apply pw_below_drewN | apply below_drew1 | refine below_set ?_ GE103.out) | exact HB.out)) hb); clear HO106; clear HO114; clear HO118; clear BK103; clear HB; have HO106 := n0_; have HO114 := n1_; have HO118 := n2_; have BK103 := n3_; have HB := n4_; clear n0_ n1_ n2_ n3_ n4_; (try clear hb); (try clear hb2); (try clear hk); (try clear hi)))
      go_ret
      exact ⟨by first | rfl | (simp [*, errW_none, errW_some] <;> rfl), by repeat (first | (with_reducible first | exact HB.out | apply below_alloc | apply pw_below_drewN | apply below_drew1 | refine below_set ?_ GE103.out) | exact HB.out)⟩
    ·rw [if_neg c10] at H
     have c10b0 : (t110.toList == ([76, 82, 76] : List UInt8)) = false := beq_eq_false_iff_ne.mpr c10
     have c10b1 : (t110.toList != ([76, 82, 76] : List UInt8)) = true := bne_iff_ne.mpr c10
     obtain rfl := Option.some.inj H
     go_enter Tryz.func13, Tryz.ntmps13
     go_wp2_with (first | ((with_reducible refine gate_callee (f := 17) rfl ?_); refine goesL_ (some 8) rfl rfl Tryz.func17 (by kernel_rfl) rfl #[.int .i64 7, .int .i64 12] rfl (by (try simp only [List.map_toArray, List.map_cons, List.map_nil]); try rfl) ?_; (with_reducible refine (schismaref04_Make.calls k 7 12 t101 t102 _ A1.out).mono ?_); rintro e w51 ⟨rfl, hb⟩; refine ⟨_, rfl, ?_⟩; have n0_ := Aside0.mk (below_step (by repeat (first | (with_reducible first | exact HB.out | apply below_alloc | apply pw_below_drewN | apply below_drew1) | exact HB.out)) hb); clear HB; have HB := n0_; clear n0_; (try clear hb); (try clear hb2); (try clear hk); (try clear hi)) | ((with_reducible refine gate_dst (N := 1) rfl ?_); (try (refine gate_guard (by rfl) ?_; dsimp only)); refine box_event ?hg (N := 1) ?hd (cs := #[.string (⟨#[]⟩ : ByteArray), .string (⟨#[]⟩ : ByteArray)]) (t := 24) ?hr ?_; (case hd => rfl); (case hg => rfl); (case hr => first | (go_simp; done) | (go_simp; rfl)); intro gb103 hg w52 hbox hb; have n0_ := Aside0.mk (below_step (by repeat (first | (with_reducible first | exact HB.out | apply below_alloc | apply pw_below_drewN | apply below_drew1) | exact HB.out)) hb); have n1_ := Aside0.mk (hbox); have n2_ := Aside0.mk ((by rw [hg]; exact (below_size (by repeat (first | (with_reducible first | exact HB.out | apply below_alloc | apply pw_below_drewN | apply below_drew1) | exact HB.out))) : w.heap.size ≤ gb103)); have n3_ := Aside0.mk ((by rw [hg]; exact (below_size (by repeat (first | (with_reducible first | exact HB.out | apply below_alloc | apply pw_below_drewN | apply below_drew1) | exact HB.out))) : w.heap.size ≤ gb103)); clear HB; have HB := n0_; have BK103 := n1_; have GW103 := n2_; have GE103 := n3_; clear n0_ n1_ n2_ n3_; clear hb hbox hg; have hcz53_0 : w52.cell? ⟨gb103, 0, none⟩ = some (.string (⟨#[]⟩ : ByteArray)) := (blk_cell BK103.out 0).trans rfl; have hcz53_1 : w52.cell? ⟨gb103, 1, none⟩ = some (.string (⟨#[]⟩ : ByteArray)) := (blk_cell BK103.out 1).trans rfl; have hfz53_0 := blk_frozen BK103.out 0; have hfz53_1 := blk_frozen BK103.out 1) | ((with_reducible refine gate_callee (f := 19) rfl ?_); refine goesL_ (some 11) rfl rfl Tryz.func19 (by kernel_rfl) rfl #[.agg #[.string t101, .string t102]] rfl (by (try simp only [List.map_toArray, List.map_cons, List.map_nil]); try rfl) ?_; (with_reducible refine (convergent_Terms.calls k t101 t102 t104 t107 _ ?side1 A2.out).mono ?_); (case side1 => exact GWorld.below HG.out (by repeat (first | (with_reducible first | exact HB.out | apply below_alloc | apply pw_below_drewN | apply below_drew1 | refine below_set ?_ GE103.out) | exact HB.out))); rintro e w54 ⟨v105, rfl, ho0, hb⟩; refine ⟨_, rfl, ?_⟩; have n0_ := Aside0.mk (Kd.R_lower ho0 (below_size (by repeat (first | (with_reducible first | exact HB.out | apply below_alloc | apply pw_below_drewN | apply below_drew1 | refine below_set ?_ GE103.out) | exact HB.out)))); have n1_ := Aside0.mk (blk_below (g := gb103) (o := .cells #[.string t101, .string t102] 24 (0, 0)) (by (with_reducible repeat (first | refine blk_drewN ?_ _ | refine blk_drew ?_ | refine blk_alloc ?_ _)); refine blk_put (cs := #[.string t101, .string (⟨#[]⟩ : ByteArray)]) ?_ 1 _ rfl; (with_reducible repeat (first | refine blk_drewN ?_ _ | refine blk_drew ?_ | refine blk_alloc ?_ _)); refine blk_put (cs := #[.string (⟨#[]⟩ : ByteArray), .string (⟨#[]⟩ : ByteArray)]) ?_ 0 _ rfl; (with_reducible repeat (first | refine blk_drewN ?_ _ | refine blk_drew ?_ | refine blk_alloc ?_ _)); exact BK103.out) hb); have n2_ := Aside0.mk (below_step (by repeat (first | (with_reducible first | exact HB.out | apply below_alloc | apply pw_below_drewN | apply below_drew1 | refine below_set ?_ GE103.out) | exact HB.out)) hb); clear BK103; clear HB; have HO106 := n0_; have BK103 := n1_; have HB := n2_; clear n0_ n1_ n2_; (try clear hb); (try clear hb2); (try clear hk); (try clear hi); (try clear ho0)) | ((with_reducible refine gate_callee (f := 17) rfl ?_); refine goesL_ (some 15) rfl rfl Tryz.func17 (by kernel_rfl) rfl #[.int .i64 3, .int .i64 5] rfl (by (try simp only [List.map_toArray, List.map_cons, List.map_nil]); try rfl) ?_; (with_reducible refine (schismaref04_Make.calls k 3 5 t108 t109 _ A3.out).mono ?_); rintro e w55 ⟨rfl, hb⟩; refine ⟨_, rfl, ?_⟩; have n0_ := Aside0.mk (Kd.R_below (by (with_reducible repeat (first | apply Kd.R_alloc | apply Kd.R_drewN | apply Kd.R_drew)); exact HO106.out) hb); have n1_ := Aside0.mk (blk_below (g := gb103) (o := .cells #[.string t101, .string t102] 24 (0, 0)) (by (with_reducible repeat (first | refine blk_drewN ?_ _ | refine blk_drew ?_ | refine blk_alloc ?_ _)); exact BK103.out) hb); have n2_ := Aside0.mk (below_step (by repeat (first | (with_reducible first | exact HB.out | apply below_alloc | apply pw_below_drewN | apply below_drew1 | refine below_set ?_ GE103.out) | exact HB.out)) hb); clear HO106; clear BK103; clear HB; have HO106 := n0_; have BK103 := n1_; have HB := n2_; clear n0_ n1_ n2_; (try clear hb); (try clear hb2); (try clear hk); (try clear hi)) | ((with_reducible refine gate_callee (f := 32) rfl ?_); refine goesL_ (some 16) rfl rfl Tryz.func32 (by kernel_rfl) rfl #[.agg #[.string t108, .string t109]] rfl (by (try simp only [List.map_toArray, List.map_cons, List.map_nil]); try rfl) ?_; (with_reducible refine (convergent_Path.calls k t108 t109 t110 t111 _ ?side1 A4.out).mono ?_); (case side1 => exact GWorld.below HG.out (by repeat (first | (with_reducible first | exact HB.out | apply below_alloc | apply pw_below_drewN | apply below_drew1 | refine below_set ?_ GE103.out) | exact HB.out))); rintro e w56 ⟨rfl, hb⟩; refine ⟨_, rfl, ?_⟩; have n0_ := Aside0.mk (Kd.R_below (by (with_reducible repeat (first | apply Kd.R_alloc | apply Kd.R_drewN | apply Kd.R_drew)); exact HO106.out) hb); have n1_ := Aside0.mk (blk_below (g := gb103) (o := .cells #[.string t101, .string t102] 24 (0, 0)) (by (with_reducible repeat (first | refine blk_drewN ?_ _ | refine blk_drew ?_ | refine blk_alloc ?_ _)); exact BK103.out) hb); have n2_ := Aside0.mk (below_step (by repeat (first | (with_reducible first | exact HB.out | apply below_alloc | apply pw_below_drewN | apply below_drew1 | refine below_set ?_ GE103.out) | exact HB.out)) hb); clear HO106; clear BK103; clear HB; have HO106 := n0_; have BK103 := n1_; have HB := n2_; clear n0_ n1_ n2_; (try clear hb); (try clear hb2); (try clear hk); (try clear hi); have hcz57_0 : w56.cell? ⟨gb103, 0, none⟩ = some (.string t101) := (blk_cell BK103.out 0).trans rfl; have hcz57_1 : w56.cell? ⟨gb103, 1, none⟩ = some (.string t102) := (blk_cell BK103.out 1).trans rfl; have hfz57_0 := blk_frozen BK103.out 0; have hfz57_1 := blk_frozen BK103.out 1) | ((with_reducible refine gate_callee (f := 28) rfl ?_); refine goesL_ (some 21) rfl rfl Tryz.func28 (by kernel_rfl) rfl #[.agg #[.string t101, .string t102], .int .i64 7] rfl (by (try simp only [List.map_toArray, List.map_cons, List.map_nil]); try rfl) ?_; (with_reducible refine (convergent_Best.calls k t101 t102 7 t112 t115 _ ?side1 A5.out).mono ?_); (case side1 => exact GWorld.below HG.out (by repeat (first | (with_reducible first | exact HB.out | apply below_alloc | apply pw_below_drewN | apply below_drew1 | refine below_set ?_ GE103.out) | exact HB.out))); rintro e w58 ⟨v113, rfl, ho0, hb⟩; refine ⟨_, rfl, ?_⟩; have n0_ := Aside0.mk (Kd.R_below (by (with_reducible repeat (first | apply Kd.R_alloc | apply Kd.R_drewN | apply Kd.R_drew)); exact HO106.out) hb); have n1_ := Aside0.mk (Kd.R_lower (Kd.R_newB ho0 (g := gb103) (o := .cells #[.string t101, .string t102] 24 (0, 0)) (by (with_reducible repeat (first | refine blk_drewN ?_ _ | refine blk_drew ?_ | refine blk_alloc ?_ _)); exact BK103.out)) (below_size (by repeat (first | (with_reducible first | exact HB.out | apply below_alloc | apply pw_below_drewN | apply below_drew1 | refine below_set ?_ GE103.out) | exact HB.out)))); have n2_ := Aside0.mk (blk_below (g := gb103) (o := .cells #[.string t101, .string t102] 24 (0, 0)) (by (with_reducible repeat (first | refine blk_drewN ?_ _ | refine blk_drew ?_ | refine blk_alloc ?_ _)); exact BK103.out) hb); have n3_ := Aside0.mk (below_step (by repeat (first | (with_reducible first | exact HB.out | apply below_alloc | apply pw_below_drewN | apply below_drew1 | refine below_set ?_ GE103.out) | exact HB.out)) hb); clear HO106; clear BK103; clear HB; have HO106 := n0_; have HO114 := n1_; have BK103 := n2_; have HB := n3_; clear n0_ n1_ n2_ n3_; (try clear hb); (try clear hb2); (try clear hk); (try clear hi); (try clear ho0)) | ((with_reducible refine gate_dst (N := 28) rfl ?_); (try (refine gate_guard (by rfl) ?_; dsimp only)); refine Kd.R_lit (Kd.int .i64) _ 3 ?hg (N := 28) ?hd (xs := ([0, 1, 1, 2, 2] : List Int)) (inner := [.int .i64 0, .int .i64 1, .int .i64 1, .int .i64 2, .int .i64 2]) (ok := fun _ => True) (okp := fun _ => True) ?hr ?hp (fun _ hk => hk) trivial (Below.refl _ _) (Nat.le_refl _) (by simp) ?_; (case hd => rfl); (case hg => rfl); (case hr => first | (go_simp; done) | (go_simp; rfl)); (case hp => exact (Reps.one (show Kd.M (Kd.int .i64) _ _ _ 0 [.int .i64 0] from rfl) (Reps.one (show Kd.M (Kd.int .i64) _ _ _ 1 [.int .i64 1] from rfl) (Reps.one (show Kd.M (Kd.int .i64) _ _ _ 1 [.int .i64 1] from rfl) (Reps.one (show Kd.M (Kd.int .i64) _ _ _ 2 [.int .i64 2] from rfl) (Reps.one (show Kd.M (Kd.int .i64) _ _ _ 2 [.int .i64 2] from rfl) (Reps.none _ _))))))); intro v117 w59 ho60 hb hg_ hnew_; clear hg_ hnew_; (first | rw [← Ny116.out] at ho60 | (simp only [Int.reduceToNat] at ho60; rw [← Ny116.out] at ho60)); have n0_ := Aside0.mk (Kd.R_below (by (with_reducible repeat (first | apply Kd.R_alloc | apply Kd.R_drewN | apply Kd.R_drew)); exact HO106.out) hb); have n1_ := Aside0.mk (Kd.R_below (by (with_reducible repeat (first | apply Kd.R_alloc | apply Kd.R_drewN | apply Kd.R_drew)); exact HO114.out) hb); have n2_ := Aside0.mk (Kd.R_lower ho60 (below_size (by repeat (first | (with_reducible first | exact HB.out | apply below_alloc | apply pw_below_drewN | apply below_drew1 | refine below_set ?_ GE103.out) | exact HB.out)))); have n3_ := Aside0.mk (blk_below (g := gb103) (o := .cells #[.string t101, .string t102] 24 (0, 0)) (by (with_reducible repeat (first | refine blk_drewN ?_ _ | refine blk_drew ?_ | refine blk_alloc ?_ _)); exact BK103.out) hb); have n4_ := Aside0.mk (below_step (by repeat (first | (with_reducible first | exact HB.out | apply below_alloc | apply pw_below_drewN | apply below_drew1 | refine below_set ?_ GE103.out) | exact HB.out)) hb); clear HO106; clear HO114; clear BK103; clear HB; have HO106 := n0_; have HO114 := n1_; have HO118 := n2_; have BK103 := n3_; have HB := n4_; clear n0_ n1_ n2_ n3_ n4_; clear hb ho60; obtain ⟨Ao61, co61, eo61⟩ := Kd.R_slice HO106.out; subst eo61; obtain ⟨Ao62, co62, eo62⟩ := Kd.R_slice HO118.out; subst eo62) | (go_at_call 22; (with_reducible refine (schismalaw04_ints.calls k _ _ t104 _ _ y116 true _ ?side1 ?side2 ?side3 ?side4 A7.out).mono ?_); (case side1 => repeat (first | exact (Kd.R_reads' HO106.out).2.2 | (with_reducible refine Kd.C_alloc ?_ _) | (with_reducible refine Kd.C_drewN ?_ _) | (with_reducible refine Kd.C_drew ?_))); (case side2 => exact (Kd.R_reads' HO106.out).2.1); (case side3 => repeat (first | exact (Kd.R_reads' HO118.out).2.2 | (with_reducible refine Kd.C_alloc ?_ _) | (with_reducible refine Kd.C_drewN ?_ _) | (with_reducible refine Kd.C_drew ?_))); (case side4 => exact (Kd.R_reads' HO118.out).2.1); rintro e w63 ⟨rfl, hb⟩; have n0_ := Aside0.mk (Kd.R_below (by (with_reducible repeat (first | apply Kd.R_alloc | apply Kd.R_drewN | apply Kd.R_drew)); exact HO106.out) hb); have n1_ := Aside0.mk (Kd.R_below (by (with_reducible repeat (first | apply Kd.R_alloc | apply Kd.R_drewN | apply Kd.R_drew)); exact HO114.out) hb); have n2_ := Aside0.mk (Kd.R_below (by (with_reducible repeat (first | apply Kd.R_alloc | apply Kd.R_drewN | apply Kd.R_drew)); exact HO118.out) hb); have n3_ := Aside0.mk (blk_below (g := gb103) (o := .cells #[.string t101, .string t102] 24 (0, 0)) (by (with_reducible repeat (first | refine blk_drewN ?_ _ | refine blk_drew ?_ | refine blk_alloc ?_ _)); exact BK103.out) hb); have n4_ := Aside0.mk (below_step (by repeat (first | (with_reducible first | exact HB.out | apply below_alloc | apply pw_below_drewN | apply below_drew1 | refine below_set ?_ GE103.out) | exact HB.out)) hb); clear HO106; clear HO114; clear HO118; clear BK103; clear HB; have HO106 := n0_; have HO114 := n1_; have HO118 := n2_; have BK103 := n3_; have HB := n4_; clear n0_ n1_ n2_ n3_ n4_; (try clear hb); (try clear hb2); (try clear hk); (try clear hi)))
     go_ret
     exact ⟨by first | rfl | (simp [*, errW_none, errW_some] <;> rfl), by repeat (first | (with_reducible first | exact HB.out | apply below_alloc | apply pw_below_drewN | apply below_drew1 | refine below_set ?_ GE103.out) | exact HB.out)⟩
   ·rw [if_neg c9] at H
    have c9b0 : (t111 == 0) = false := beq_eq_false_iff_ne.mpr c9
    have c9b1 : (t111 != 0) = true := bne_iff_ne.mpr c9
    obtain rfl := Option.some.inj H
    go_enter Tryz.func13, Tryz.ntmps13
    go_wp2_with (first | ((with_reducible refine gate_callee (f := 17) rfl ?_); refine goesL_ (some 8) rfl rfl Tryz.func17 (by kernel_rfl) rfl #[.int .i64 7, .int .i64 12] rfl (by (try simp only [List.map_toArray, List.map_cons, List.map_nil]); try rfl) ?_; (with_reducible refine (schismaref04_Make.calls k 7 12 t101 t102 _ A1.out).mono ?_); rintro e w64 ⟨rfl, hb⟩; refine ⟨_, rfl, ?_⟩; have n0_ := Aside0.mk (below_step (by repeat (first | (with_reducible first | exact HB.out | apply below_alloc | apply pw_below_drewN | apply below_drew1) | exact HB.out)) hb); clear HB; have HB := n0_; clear n0_; (try clear hb); (try clear hb2); (try clear hk); (try clear hi)) | ((with_reducible refine gate_dst (N := 1) rfl ?_); (try (refine gate_guard (by rfl) ?_; dsimp only)); refine box_event ?hg (N := 1) ?hd (cs := #[.string (⟨#[]⟩ : ByteArray), .string (⟨#[]⟩ : ByteArray)]) (t := 24) ?hr ?_; (case hd => rfl); (case hg => rfl); (case hr => first | (go_simp; done) | (go_simp; rfl)); intro gb103 hg w65 hbox hb; have n0_ := Aside0.mk (below_step (by repeat (first | (with_reducible first | exact HB.out | apply below_alloc | apply pw_below_drewN | apply below_drew1) | exact HB.out)) hb); have n1_ := Aside0.mk (hbox); have n2_ := Aside0.mk ((by rw [hg]; exact (below_size (by repeat (first | (with_reducible first | exact HB.out | apply below_alloc | apply pw_below_drewN | apply below_drew1) | exact HB.out))) : w.heap.size ≤ gb103)); have n3_ := Aside0.mk ((by rw [hg]; exact (below_size (by repeat (first | (with_reducible first | exact HB.out | apply below_alloc | apply pw_below_drewN | apply below_drew1) | exact HB.out))) : w.heap.size ≤ gb103)); clear HB; have HB := n0_; have BK103 := n1_; have GW103 := n2_; have GE103 := n3_; clear n0_ n1_ n2_ n3_; clear hb hbox hg; have hcz66_0 : w65.cell? ⟨gb103, 0, none⟩ = some (.string (⟨#[]⟩ : ByteArray)) := (blk_cell BK103.out 0).trans rfl; have hcz66_1 : w65.cell? ⟨gb103, 1, none⟩ = some (.string (⟨#[]⟩ : ByteArray)) := (blk_cell BK103.out 1).trans rfl; have hfz66_0 := blk_frozen BK103.out 0; have hfz66_1 := blk_frozen BK103.out 1) | ((with_reducible refine gate_callee (f := 19) rfl ?_); refine goesL_ (some 11) rfl rfl Tryz.func19 (by kernel_rfl) rfl #[.agg #[.string t101, .string t102]] rfl (by (try simp only [List.map_toArray, List.map_cons, List.map_nil]); try rfl) ?_; (with_reducible refine (convergent_Terms.calls k t101 t102 t104 t107 _ ?side1 A2.out).mono ?_); (case side1 => exact GWorld.below HG.out (by repeat (first | (with_reducible first | exact HB.out | apply below_alloc | apply pw_below_drewN | apply below_drew1 | refine below_set ?_ GE103.out) | exact HB.out))); rintro e w67 ⟨v105, rfl, ho0, hb⟩; refine ⟨_, rfl, ?_⟩; have n0_ := Aside0.mk (Kd.R_lower ho0 (below_size (by repeat (first | (with_reducible first | exact HB.out | apply below_alloc | apply pw_below_drewN | apply below_drew1 | refine below_set ?_ GE103.out) | exact HB.out)))); have n1_ := Aside0.mk (blk_below (g := gb103) (o := .cells #[.string t101, .string t102] 24 (0, 0)) (by (with_reducible repeat (first | refine blk_drewN ?_ _ | refine blk_drew ?_ | refine blk_alloc ?_ _)); refine blk_put (cs := #[.string t101, .string (⟨#[]⟩ : ByteArray)]) ?_ 1 _ rfl; (with_reducible repeat (first | refine blk_drewN ?_ _ | refine blk_drew ?_ | refine blk_alloc ?_ _)); refine blk_put (cs := #[.string (⟨#[]⟩ : ByteArray), .string (⟨#[]⟩ : ByteArray)]) ?_ 0 _ rfl; (with_reducible repeat (first | refine blk_drewN ?_ _ | refine blk_drew ?_ | refine blk_alloc ?_ _)); exact BK103.out) hb); have n2_ := Aside0.mk (below_step (by repeat (first | (with_reducible first | exact HB.out | apply below_alloc | apply pw_below_drewN | apply below_drew1 | refine below_set ?_ GE103.out) | exact HB.out)) hb); clear BK103; clear HB; have HO106 := n0_; have BK103 := n1_; have HB := n2_; clear n0_ n1_ n2_; (try clear hb); (try clear hb2); (try clear hk); (try clear hi); (try clear ho0)) | ((with_reducible refine gate_callee (f := 17) rfl ?_); refine goesL_ (some 15) rfl rfl Tryz.func17 (by kernel_rfl) rfl #[.int .i64 3, .int .i64 5] rfl (by (try simp only [List.map_toArray, List.map_cons, List.map_nil]); try rfl) ?_; (with_reducible refine (schismaref04_Make.calls k 3 5 t108 t109 _ A3.out).mono ?_); rintro e w68 ⟨rfl, hb⟩; refine ⟨_, rfl, ?_⟩; have n0_ := Aside0.mk (Kd.R_below (by (with_reducible repeat (first | apply Kd.R_alloc | apply Kd.R_drewN | apply Kd.R_drew)); exact HO106.out) hb); have n1_ := Aside0.mk (blk_below (g := gb103) (o := .cells #[.string t101, .string t102] 24 (0, 0)) (by (with_reducible repeat (first | refine blk_drewN ?_ _ | refine blk_drew ?_ | refine blk_alloc ?_ _)); exact BK103.out) hb); have n2_ := Aside0.mk (below_step (by repeat (first | (with_reducible first | exact HB.out | apply below_alloc | apply pw_below_drewN | apply below_drew1 | refine below_set ?_ GE103.out) | exact HB.out)) hb); clear HO106; clear BK103; clear HB; have HO106 := n0_; have BK103 := n1_; have HB := n2_; clear n0_ n1_ n2_; (try clear hb); (try clear hb2); (try clear hk); (try clear hi)) | ((with_reducible refine gate_callee (f := 32) rfl ?_); refine goesL_ (some 16) rfl rfl Tryz.func32 (by kernel_rfl) rfl #[.agg #[.string t108, .string t109]] rfl (by (try simp only [List.map_toArray, List.map_cons, List.map_nil]); try rfl) ?_; (with_reducible refine (convergent_Path.calls k t108 t109 t110 t111 _ ?side1 A4.out).mono ?_); (case side1 => exact GWorld.below HG.out (by repeat (first | (with_reducible first | exact HB.out | apply below_alloc | apply pw_below_drewN | apply below_drew1 | refine below_set ?_ GE103.out) | exact HB.out))); rintro e w69 ⟨rfl, hb⟩; refine ⟨_, rfl, ?_⟩; have n0_ := Aside0.mk (Kd.R_below (by (with_reducible repeat (first | apply Kd.R_alloc | apply Kd.R_drewN | apply Kd.R_drew)); exact HO106.out) hb); have n1_ := Aside0.mk (blk_below (g := gb103) (o := .cells #[.string t101, .string t102] 24 (0, 0)) (by (with_reducible repeat (first | refine blk_drewN ?_ _ | refine blk_drew ?_ | refine blk_alloc ?_ _)); exact BK103.out) hb); have n2_ := Aside0.mk (below_step (by repeat (first | (with_reducible first | exact HB.out | apply below_alloc | apply pw_below_drewN | apply below_drew1 | refine below_set ?_ GE103.out) | exact HB.out)) hb); clear HO106; clear BK103; clear HB; have HO106 := n0_; have BK103 := n1_; have HB := n2_; clear n0_ n1_ n2_; (try clear hb); (try clear hb2); (try clear hk); (try clear hi); have hcz70_0 : w69.cell? ⟨gb103, 0, none⟩ = some (.string t101) := (blk_cell BK103.out 0).trans rfl; have hcz70_1 : w69.cell? ⟨gb103, 1, none⟩ = some (.string t102) := (blk_cell BK103.out 1).trans rfl; have hfz70_0 := blk_frozen BK103.out 0; have hfz70_1 := blk_frozen BK103.out 1) | ((with_reducible refine gate_callee (f := 28) rfl ?_); refine goesL_ (some 21) rfl rfl Tryz.func28 (by kernel_rfl) rfl #[.agg #[.string t101, .string t102], .int .i64 7] rfl (by (try simp only [List.map_toArray, List.map_cons, List.map_nil]); try rfl) ?_; (with_reducible refine (convergent_Best.calls k t101 t102 7 t112 t115 _ ?side1 A5.out).mono ?_); (case side1 => exact GWorld.below HG.out (by repeat (first | (with_reducible first | exact HB.out | apply below_alloc | apply pw_below_drewN | apply below_drew1 | refine below_set ?_ GE103.out) | exact HB.out))); rintro e w71 ⟨v113, rfl, ho0, hb⟩; refine ⟨_, rfl, ?_⟩; have n0_ := Aside0.mk (Kd.R_below (by (with_reducible repeat (first | apply Kd.R_alloc | apply Kd.R_drewN | apply Kd.R_drew)); exact HO106.out) hb); have n1_ := Aside0.mk (Kd.R_lower (Kd.R_newB ho0 (g := gb103) (o := .cells #[.string t101, .string t102] 24 (0, 0)) (by (with_reducible repeat (first | refine blk_drewN ?_ _ | refine blk_drew ?_ | refine blk_alloc ?_ _)); exact BK103.out)) (below_size (by repeat (first | (with_reducible first | exact HB.out | apply below_alloc | apply pw_below_drewN | apply below_drew1 | refine below_set ?_ GE103.out) | exact HB.out)))); have n2_ := Aside0.mk (blk_below (g := gb103) (o := .cells #[.string t101, .string t102] 24 (0, 0)) (by (with_reducible repeat (first | refine blk_drewN ?_ _ | refine blk_drew ?_ | refine blk_alloc ?_ _)); exact BK103.out) hb); have n3_ := Aside0.mk (below_step (by repeat (first | (with_reducible first | exact HB.out | apply below_alloc | apply pw_below_drewN | apply below_drew1 | refine below_set ?_ GE103.out) | exact HB.out)) hb); clear HO106; clear BK103; clear HB; have HO106 := n0_; have HO114 := n1_; have BK103 := n2_; have HB := n3_; clear n0_ n1_ n2_ n3_; (try clear hb); (try clear hb2); (try clear hk); (try clear hi); (try clear ho0)) | ((with_reducible refine gate_dst (N := 28) rfl ?_); (try (refine gate_guard (by rfl) ?_; dsimp only)); refine Kd.R_lit (Kd.int .i64) _ 3 ?hg (N := 28) ?hd (xs := ([0, 1, 1, 2, 2] : List Int)) (inner := [.int .i64 0, .int .i64 1, .int .i64 1, .int .i64 2, .int .i64 2]) (ok := fun _ => True) (okp := fun _ => True) ?hr ?hp (fun _ hk => hk) trivial (Below.refl _ _) (Nat.le_refl _) (by simp) ?_; (case hd => rfl); (case hg => rfl); (case hr => first | (go_simp; done) | (go_simp; rfl)); (case hp => exact (Reps.one (show Kd.M (Kd.int .i64) _ _ _ 0 [.int .i64 0] from rfl) (Reps.one (show Kd.M (Kd.int .i64) _ _ _ 1 [.int .i64 1] from rfl) (Reps.one (show Kd.M (Kd.int .i64) _ _ _ 1 [.int .i64 1] from rfl) (Reps.one (show Kd.M (Kd.int .i64) _ _ _ 2 [.int .i64 2] from rfl) (Reps.one (show Kd.M (Kd.int .i64) _ _ _ 2 [.int .i64 2] from rfl) (Reps.none _ _))))))); intro v117 w72 ho73 hb hg_ hnew_; clear hg_ hnew_; (first | rw [← Ny116.out] at ho73 | (simp only [Int.reduceToNat] at ho73; rw [← Ny116.out] at ho73)); have n0_ := Aside0.mk (Kd.R_below (by (with_reducible repeat (first | apply Kd.R_alloc | apply Kd.R_drewN | apply Kd.R_drew)); exact HO106.out) hb); have n1_ := Aside0.mk (Kd.R_below (by (with_reducible repeat (first | apply Kd.R_alloc | apply Kd.R_drewN | apply Kd.R_drew)); exact HO114.out) hb); have n2_ := Aside0.mk (Kd.R_lower ho73 (below_size (by repeat (first | (with_reducible first | exact HB.out | apply below_alloc | apply pw_below_drewN | apply below_drew1 | refine below_set ?_ GE103.out) | exact HB.out)))); have n3_ := Aside0.mk (blk_below (g := gb103) (o := .cells #[.string t101, .string t102] 24 (0, 0)) (by (with_reducible repeat (first | refine blk_drewN ?_ _ | refine blk_drew ?_ | refine blk_alloc ?_ _)); exact BK103.out) hb); have n4_ := Aside0.mk (below_step (by repeat (first | (with_reducible first | exact HB.out | apply below_alloc | apply pw_below_drewN | apply below_drew1 | refine below_set ?_ GE103.out) | exact HB.out)) hb); clear HO106; clear HO114; clear BK103; clear HB; have HO106 := n0_; have HO114 := n1_; have HO118 := n2_; have BK103 := n3_; have HB := n4_; clear n0_ n1_ n2_ n3_ n4_; clear hb ho73; obtain ⟨Ao74, co74, eo74⟩ := Kd.R_slice HO106.out; subst eo74; obtain ⟨Ao75, co75, eo75⟩ := Kd.R_slice HO118.out; subst eo75) | (go_at_call 22; (with_reducible refine (schismalaw04_ints.calls k _ _ t104 _ _ y116 true _ ?side1 ?side2 ?side3 ?side4 A7.out).mono ?_); (case side1 => repeat (first | exact (Kd.R_reads' HO106.out).2.2 | (with_reducible refine Kd.C_alloc ?_ _) | (with_reducible refine Kd.C_drewN ?_ _) | (with_reducible refine Kd.C_drew ?_))); (case side2 => exact (Kd.R_reads' HO106.out).2.1); (case side3 => repeat (first | exact (Kd.R_reads' HO118.out).2.2 | (with_reducible refine Kd.C_alloc ?_ _) | (with_reducible refine Kd.C_drewN ?_ _) | (with_reducible refine Kd.C_drew ?_))); (case side4 => exact (Kd.R_reads' HO118.out).2.1); rintro e w76 ⟨rfl, hb⟩; have n0_ := Aside0.mk (Kd.R_below (by (with_reducible repeat (first | apply Kd.R_alloc | apply Kd.R_drewN | apply Kd.R_drew)); exact HO106.out) hb); have n1_ := Aside0.mk (Kd.R_below (by (with_reducible repeat (first | apply Kd.R_alloc | apply Kd.R_drewN | apply Kd.R_drew)); exact HO114.out) hb); have n2_ := Aside0.mk (Kd.R_below (by (with_reducible repeat (first | apply Kd.R_alloc | apply Kd.R_drewN | apply Kd.R_drew)); exact HO118.out) hb); have n3_ := Aside0.mk (blk_below (g := gb103) (o := .cells #[.string t101, .string t102] 24 (0, 0)) (by (with_reducible repeat (first | refine blk_drewN ?_ _ | refine blk_drew ?_ | refine blk_alloc ?_ _)); exact BK103.out) hb); have n4_ := Aside0.mk (below_step (by repeat (first | (with_reducible first | exact HB.out | apply below_alloc | apply pw_below_drewN | apply below_drew1 | refine below_set ?_ GE103.out) | exact HB.out)) hb); clear HO106; clear HO114; clear HO118; clear BK103; clear HB; have HO106 := n0_; have HO114 := n1_; have HO118 := n2_; have BK103 := n3_; have HB := n4_; clear n0_ n1_ n2_ n3_ n4_; (try clear hb); (try clear hb2); (try clear hk); (try clear hi)))
    go_ret
    exact ⟨by first | rfl | (simp [*, errW_none, errW_some] <;> rfl), by repeat (first | (with_reducible first | exact HB.out | apply below_alloc | apply pw_below_drewN | apply below_drew1 | refine below_set ?_ GE103.out) | exact HB.out)⟩
  ·replace c8 := Bool.eq_false_iff.mpr c8
   subst c8
   have H1 : (some false) = some r := by rw [if_neg (show ¬ (false = true) by decide)] at H; exact H
   clear H
   have H := H1
   clear H1
   obtain rfl := Option.some.inj H
   go_enter Tryz.func13, Tryz.ntmps13
   go_wp2_with (first | ((with_reducible refine gate_callee (f := 17) rfl ?_); refine goesL_ (some 8) rfl rfl Tryz.func17 (by kernel_rfl) rfl #[.int .i64 7, .int .i64 12] rfl (by (try simp only [List.map_toArray, List.map_cons, List.map_nil]); try rfl) ?_; (with_reducible refine (schismaref04_Make.calls k 7 12 t101 t102 _ A1.out).mono ?_); rintro e w77 ⟨rfl, hb⟩; refine ⟨_, rfl, ?_⟩; have n0_ := Aside0.mk (below_step (by repeat (first | (with_reducible first | exact HB.out | apply below_alloc | apply pw_below_drewN | apply below_drew1) | exact HB.out)) hb); clear HB; have HB := n0_; clear n0_; (try clear hb); (try clear hb2); (try clear hk); (try clear hi)) | ((with_reducible refine gate_dst (N := 1) rfl ?_); (try (refine gate_guard (by rfl) ?_; dsimp only)); refine box_event ?hg (N := 1) ?hd (cs := #[.string (⟨#[]⟩ : ByteArray), .string (⟨#[]⟩ : ByteArray)]) (t := 24) ?hr ?_; (case hd => rfl); (case hg => rfl); (case hr => first | (go_simp; done) | (go_simp; rfl)); intro gb103 hg w78 hbox hb; have n0_ := Aside0.mk (below_step (by repeat (first | (with_reducible first | exact HB.out | apply below_alloc | apply pw_below_drewN | apply below_drew1) | exact HB.out)) hb); have n1_ := Aside0.mk (hbox); have n2_ := Aside0.mk ((by rw [hg]; exact (below_size (by repeat (first | (with_reducible first | exact HB.out | apply below_alloc | apply pw_below_drewN | apply below_drew1) | exact HB.out))) : w.heap.size ≤ gb103)); have n3_ := Aside0.mk ((by rw [hg]; exact (below_size (by repeat (first | (with_reducible first | exact HB.out | apply below_alloc | apply pw_below_drewN | apply below_drew1) | exact HB.out))) : w.heap.size ≤ gb103)); clear HB; have HB := n0_; have BK103 := n1_; have GW103 := n2_; have GE103 := n3_; clear n0_ n1_ n2_ n3_; clear hb hbox hg; have hcz79_0 : w78.cell? ⟨gb103, 0, none⟩ = some (.string (⟨#[]⟩ : ByteArray)) := (blk_cell BK103.out 0).trans rfl; have hcz79_1 : w78.cell? ⟨gb103, 1, none⟩ = some (.string (⟨#[]⟩ : ByteArray)) := (blk_cell BK103.out 1).trans rfl; have hfz79_0 := blk_frozen BK103.out 0; have hfz79_1 := blk_frozen BK103.out 1) | ((with_reducible refine gate_callee (f := 19) rfl ?_); refine goesL_ (some 11) rfl rfl Tryz.func19 (by kernel_rfl) rfl #[.agg #[.string t101, .string t102]] rfl (by (try simp only [List.map_toArray, List.map_cons, List.map_nil]); try rfl) ?_; (with_reducible refine (convergent_Terms.calls k t101 t102 t104 t107 _ ?side1 A2.out).mono ?_); (case side1 => exact GWorld.below HG.out (by repeat (first | (with_reducible first | exact HB.out | apply below_alloc | apply pw_below_drewN | apply below_drew1 | refine below_set ?_ GE103.out) | exact HB.out))); rintro e w80 ⟨v105, rfl, ho0, hb⟩; refine ⟨_, rfl, ?_⟩; have n0_ := Aside0.mk (Kd.R_lower ho0 (below_size (by repeat (first | (with_reducible first | exact HB.out | apply below_alloc | apply pw_below_drewN | apply below_drew1 | refine below_set ?_ GE103.out) | exact HB.out)))); have n1_ := Aside0.mk (blk_below (g := gb103) (o := .cells #[.string t101, .string t102] 24 (0, 0)) (by (with_reducible repeat (first | refine blk_drewN ?_ _ | refine blk_drew ?_ | refine blk_alloc ?_ _)); refine blk_put (cs := #[.string t101, .string (⟨#[]⟩ : ByteArray)]) ?_ 1 _ rfl; (with_reducible repeat (first | refine blk_drewN ?_ _ | refine blk_drew ?_ | refine blk_alloc ?_ _)); refine blk_put (cs := #[.string (⟨#[]⟩ : ByteArray), .string (⟨#[]⟩ : ByteArray)]) ?_ 0 _ rfl; (with_reducible repeat (first | refine blk_drewN ?_ _ | refine blk_drew ?_ | refine blk_alloc ?_ _)); exact BK103.out) hb); have n2_ := Aside0.mk (below_step (by repeat (first | (with_reducible first | exact HB.out | apply below_alloc | apply pw_below_drewN | apply below_drew1 | refine below_set ?_ GE103.out) | exact HB.out)) hb); clear BK103; clear HB; have HO106 := n0_; have BK103 := n1_; have HB := n2_; clear n0_ n1_ n2_; (try clear hb); (try clear hb2); (try clear hk); (try clear hi); (try clear ho0)) | ((with_reducible refine gate_callee (f := 17) rfl ?_); refine goesL_ (some 15) rfl rfl Tryz.func17 (by kernel_rfl) rfl #[.int .i64 3, .int .i64 5] rfl (by (try simp only [List.map_toArray, List.map_cons, List.map_nil]); try rfl) ?_; (with_reducible refine (schismaref04_Make.calls k 3 5 t108 t109 _ A3.out).mono ?_); rintro e w81 ⟨rfl, hb⟩; refine ⟨_, rfl, ?_⟩; have n0_ := Aside0.mk (Kd.R_below (by (with_reducible repeat (first | apply Kd.R_alloc | apply Kd.R_drewN | apply Kd.R_drew)); exact HO106.out) hb); have n1_ := Aside0.mk (blk_below (g := gb103) (o := .cells #[.string t101, .string t102] 24 (0, 0)) (by (with_reducible repeat (first | refine blk_drewN ?_ _ | refine blk_drew ?_ | refine blk_alloc ?_ _)); exact BK103.out) hb); have n2_ := Aside0.mk (below_step (by repeat (first | (with_reducible first | exact HB.out | apply below_alloc | apply pw_below_drewN | apply below_drew1 | refine below_set ?_ GE103.out) | exact HB.out)) hb); clear HO106; clear BK103; clear HB; have HO106 := n0_; have BK103 := n1_; have HB := n2_; clear n0_ n1_ n2_; (try clear hb); (try clear hb2); (try clear hk); (try clear hi)) | ((with_reducible refine gate_callee (f := 32) rfl ?_); refine goesL_ (some 16) rfl rfl Tryz.func32 (by kernel_rfl) rfl #[.agg #[.string t108, .string t109]] rfl (by (try simp only [List.map_toArray, List.map_cons, List.map_nil]); try rfl) ?_; (with_reducible refine (convergent_Path.calls k t108 t109 t110 t111 _ ?side1 A4.out).mono ?_); (case side1 => exact GWorld.below HG.out (by repeat (first | (with_reducible first | exact HB.out | apply below_alloc | apply pw_below_drewN | apply below_drew1 | refine below_set ?_ GE103.out) | exact HB.out))); rintro e w82 ⟨rfl, hb⟩; refine ⟨_, rfl, ?_⟩; have n0_ := Aside0.mk (Kd.R_below (by (with_reducible repeat (first | apply Kd.R_alloc | apply Kd.R_drewN | apply Kd.R_drew)); exact HO106.out) hb); have n1_ := Aside0.mk (blk_below (g := gb103) (o := .cells #[.string t101, .string t102] 24 (0, 0)) (by (with_reducible repeat (first | refine blk_drewN ?_ _ | refine blk_drew ?_ | refine blk_alloc ?_ _)); exact BK103.out) hb); have n2_ := Aside0.mk (below_step (by repeat (first | (with_reducible first | exact HB.out | apply below_alloc | apply pw_below_drewN | apply below_drew1 | refine below_set ?_ GE103.out) | exact HB.out)) hb); clear HO106; clear BK103; clear HB; have HO106 := n0_; have BK103 := n1_; have HB := n2_; clear n0_ n1_ n2_; (try clear hb); (try clear hb2); (try clear hk); (try clear hi); have hcz83_0 : w82.cell? ⟨gb103, 0, none⟩ = some (.string t101) := (blk_cell BK103.out 0).trans rfl; have hcz83_1 : w82.cell? ⟨gb103, 1, none⟩ = some (.string t102) := (blk_cell BK103.out 1).trans rfl; have hfz83_0 := blk_frozen BK103.out 0; have hfz83_1 := blk_frozen BK103.out 1) | ((with_reducible refine gate_callee (f := 28) rfl ?_); refine goesL_ (some 21) rfl rfl Tryz.func28 (by kernel_rfl) rfl #[.agg #[.string t101, .string t102], .int .i64 7] rfl (by (try simp only [List.map_toArray, List.map_cons, List.map_nil]); try rfl) ?_; (with_reducible refine (convergent_Best.calls k t101 t102 7 t112 t115 _ ?side1 A5.out).mono ?_); (case side1 => exact GWorld.below HG.out (by repeat (first | (with_reducible first | exact HB.out | apply below_alloc | apply pw_below_drewN | apply below_drew1 | refine below_set ?_ GE103.out) | exact HB.out))); rintro e w84 ⟨v113, rfl, ho0, hb⟩; refine ⟨_, rfl, ?_⟩; have n0_ := Aside0.mk (Kd.R_below (by (with_reducible repeat (first | apply Kd.R_alloc | apply Kd.R_drewN | apply Kd.R_drew)); exact HO106.out) hb); have n1_ := Aside0.mk (Kd.R_lower (Kd.R_newB ho0 (g := gb103) (o := .cells #[.string t101, .string t102] 24 (0, 0)) (by (with_reducible repeat (first | refine blk_drewN ?_ _ | refine blk_drew ?_ | refine blk_alloc ?_ _)); exact BK103.out)) (below_size (by repeat (first | (with_reducible first | exact HB.out | apply below_alloc | apply pw_below_drewN | apply below_drew1 | refine below_set ?_ GE103.out) | exact HB.out)))); have n2_ := Aside0.mk (blk_below (g := gb103) (o := .cells #[.string t101, .string t102] 24 (0, 0)) (by (with_reducible repeat (first | refine blk_drewN ?_ _ | refine blk_drew ?_ | refine blk_alloc ?_ _)); exact BK103.out) hb); have n3_ := Aside0.mk (below_step (by repeat (first | (with_reducible first | exact HB.out | apply below_alloc | apply pw_below_drewN | apply below_drew1 | refine below_set ?_ GE103.out) | exact HB.out)) hb); clear HO106; clear BK103; clear HB; have HO106 := n0_; have HO114 := n1_; have BK103 := n2_; have HB := n3_; clear n0_ n1_ n2_ n3_; (try clear hb); (try clear hb2); (try clear hk); (try clear hi); (try clear ho0)) | ((with_reducible refine gate_dst (N := 28) rfl ?_); (try (refine gate_guard (by rfl) ?_; dsimp only)); refine Kd.R_lit (Kd.int .i64) _ 3 ?hg (N := 28) ?hd (xs := ([0, 1, 1, 2, 2] : List Int)) (inner := [.int .i64 0, .int .i64 1, .int .i64 1, .int .i64 2, .int .i64 2]) (ok := fun _ => True) (okp := fun _ => True) ?hr ?hp (fun _ hk => hk) trivial (Below.refl _ _) (Nat.le_refl _) (by simp) ?_; (case hd => rfl); (case hg => rfl); (case hr => first | (go_simp; done) | (go_simp; rfl)); (case hp => exact (Reps.one (show Kd.M (Kd.int .i64) _ _ _ 0 [.int .i64 0] from rfl) (Reps.one (show Kd.M (Kd.int .i64) _ _ _ 1 [.int .i64 1] from rfl) (Reps.one (show Kd.M (Kd.int .i64) _ _ _ 1 [.int .i64 1] from rfl) (Reps.one (show Kd.M (Kd.int .i64) _ _ _ 2 [.int .i64 2] from rfl) (Reps.one (show Kd.M (Kd.int .i64) _ _ _ 2 [.int .i64 2] from rfl) (Reps.none _ _))))))); intro v117 w85 ho86 hb hg_ hnew_; clear hg_ hnew_; (first | rw [← Ny116.out] at ho86 | (simp only [Int.reduceToNat] at ho86; rw [← Ny116.out] at ho86)); have n0_ := Aside0.mk (Kd.R_below (by (with_reducible repeat (first | apply Kd.R_alloc | apply Kd.R_drewN | apply Kd.R_drew)); exact HO106.out) hb); have n1_ := Aside0.mk (Kd.R_below (by (with_reducible repeat (first | apply Kd.R_alloc | apply Kd.R_drewN | apply Kd.R_drew)); exact HO114.out) hb); have n2_ := Aside0.mk (Kd.R_lower ho86 (below_size (by repeat (first | (with_reducible first | exact HB.out | apply below_alloc | apply pw_below_drewN | apply below_drew1 | refine below_set ?_ GE103.out) | exact HB.out)))); have n3_ := Aside0.mk (blk_below (g := gb103) (o := .cells #[.string t101, .string t102] 24 (0, 0)) (by (with_reducible repeat (first | refine blk_drewN ?_ _ | refine blk_drew ?_ | refine blk_alloc ?_ _)); exact BK103.out) hb); have n4_ := Aside0.mk (below_step (by repeat (first | (with_reducible first | exact HB.out | apply below_alloc | apply pw_below_drewN | apply below_drew1 | refine below_set ?_ GE103.out) | exact HB.out)) hb); clear HO106; clear HO114; clear BK103; clear HB; have HO106 := n0_; have HO114 := n1_; have HO118 := n2_; have BK103 := n3_; have HB := n4_; clear n0_ n1_ n2_ n3_ n4_; clear hb ho86; obtain ⟨Ao87, co87, eo87⟩ := Kd.R_slice HO106.out; subst eo87; obtain ⟨Ao88, co88, eo88⟩ := Kd.R_slice HO118.out; subst eo88) | (go_at_call 22; (with_reducible refine (schismalaw04_ints.calls k _ _ t104 _ _ y116 false _ ?side1 ?side2 ?side3 ?side4 A7.out).mono ?_); (case side1 => repeat (first | exact (Kd.R_reads' HO106.out).2.2 | (with_reducible refine Kd.C_alloc ?_ _) | (with_reducible refine Kd.C_drewN ?_ _) | (with_reducible refine Kd.C_drew ?_))); (case side2 => exact (Kd.R_reads' HO106.out).2.1); (case side3 => repeat (first | exact (Kd.R_reads' HO118.out).2.2 | (with_reducible refine Kd.C_alloc ?_ _) | (with_reducible refine Kd.C_drewN ?_ _) | (with_reducible refine Kd.C_drew ?_))); (case side4 => exact (Kd.R_reads' HO118.out).2.1); rintro e w89 ⟨rfl, hb⟩; have n0_ := Aside0.mk (Kd.R_below (by (with_reducible repeat (first | apply Kd.R_alloc | apply Kd.R_drewN | apply Kd.R_drew)); exact HO106.out) hb); have n1_ := Aside0.mk (Kd.R_below (by (with_reducible repeat (first | apply Kd.R_alloc | apply Kd.R_drewN | apply Kd.R_drew)); exact HO114.out) hb); have n2_ := Aside0.mk (Kd.R_below (by (with_reducible repeat (first | apply Kd.R_alloc | apply Kd.R_drewN | apply Kd.R_drew)); exact HO118.out) hb); have n3_ := Aside0.mk (blk_below (g := gb103) (o := .cells #[.string t101, .string t102] 24 (0, 0)) (by (with_reducible repeat (first | refine blk_drewN ?_ _ | refine blk_drew ?_ | refine blk_alloc ?_ _)); exact BK103.out) hb); have n4_ := Aside0.mk (below_step (by repeat (first | (with_reducible first | exact HB.out | apply below_alloc | apply pw_below_drewN | apply below_drew1 | refine below_set ?_ GE103.out) | exact HB.out)) hb); clear HO106; clear HO114; clear HO118; clear BK103; clear HB; have HO106 := n0_; have HO114 := n1_; have HO118 := n2_; have BK103 := n3_; have HB := n4_; clear n0_ n1_ n2_ n3_ n4_; (try clear hb); (try clear hb2); (try clear hk); (try clear hi)))
   go_ret
   exact ⟨by first | rfl | (simp [*, errW_none, errW_some] <;> rfl), by repeat (first | (with_reducible first | exact HB.out | apply below_alloc | apply pw_below_drewN | apply below_drew1 | refine below_set ?_ GE103.out) | exact HB.out)⟩
 ·rw [if_neg c6] at H
  have c6b0 : (t107 == 0) = false := beq_eq_false_iff_ne.mpr c6
  have c6b1 : (t107 != 0) = true := bne_iff_ne.mpr c6
  obtain rfl := Option.some.inj H
  go_enter Tryz.func13, Tryz.ntmps13
  go_wp2_with (first | ((with_reducible refine gate_callee (f := 17) rfl ?_); refine goesL_ (some 8) rfl rfl Tryz.func17 (by kernel_rfl) rfl #[.int .i64 7, .int .i64 12] rfl (by (try simp only [List.map_toArray, List.map_cons, List.map_nil]); try rfl) ?_; (with_reducible refine (schismaref04_Make.calls k 7 12 t101 t102 _ A1.out).mono ?_); rintro e w90 ⟨rfl, hb⟩; refine ⟨_, rfl, ?_⟩; have n0_ := Aside0.mk (below_step (by repeat (first | (with_reducible first | exact HB.out | apply below_alloc | apply pw_below_drewN | apply below_drew1) | exact HB.out)) hb); clear HB; have HB := n0_; clear n0_; (try clear hb); (try clear hb2); (try clear hk); (try clear hi)) | ((with_reducible refine gate_dst (N := 1) rfl ?_); (try (refine gate_guard (by rfl) ?_; dsimp only)); refine box_event ?hg (N := 1) ?hd (cs := #[.string (⟨#[]⟩ : ByteArray), .string (⟨#[]⟩ : ByteArray)]) (t := 24) ?hr ?_; (case hd => rfl); (case hg => rfl); (case hr => first | (go_simp; done) | (go_simp; rfl)); intro gb103 hg w91 hbox hb; have n0_ := Aside0.mk (below_step (by repeat (first | (with_reducible first | exact HB.out | apply below_alloc | apply pw_below_drewN | apply below_drew1) | exact HB.out)) hb); have n1_ := Aside0.mk (hbox); have n2_ := Aside0.mk ((by rw [hg]; exact (below_size (by repeat (first | (with_reducible first | exact HB.out | apply below_alloc | apply pw_below_drewN | apply below_drew1) | exact HB.out))) : w.heap.size ≤ gb103)); have n3_ := Aside0.mk ((by rw [hg]; exact (below_size (by repeat (first | (with_reducible first | exact HB.out | apply below_alloc | apply pw_below_drewN | apply below_drew1) | exact HB.out))) : w.heap.size ≤ gb103)); clear HB; have HB := n0_; have BK103 := n1_; have GW103 := n2_; have GE103 := n3_; clear n0_ n1_ n2_ n3_; clear hb hbox hg; have hcz92_0 : w91.cell? ⟨gb103, 0, none⟩ = some (.string (⟨#[]⟩ : ByteArray)) := (blk_cell BK103.out 0).trans rfl; have hcz92_1 : w91.cell? ⟨gb103, 1, none⟩ = some (.string (⟨#[]⟩ : ByteArray)) := (blk_cell BK103.out 1).trans rfl; have hfz92_0 := blk_frozen BK103.out 0; have hfz92_1 := blk_frozen BK103.out 1) | ((with_reducible refine gate_callee (f := 19) rfl ?_); refine goesL_ (some 11) rfl rfl Tryz.func19 (by kernel_rfl) rfl #[.agg #[.string t101, .string t102]] rfl (by (try simp only [List.map_toArray, List.map_cons, List.map_nil]); try rfl) ?_; (with_reducible refine (convergent_Terms.calls k t101 t102 t104 t107 _ ?side1 A2.out).mono ?_); (case side1 => exact GWorld.below HG.out (by repeat (first | (with_reducible first | exact HB.out | apply below_alloc | apply pw_below_drewN | apply below_drew1 | refine below_set ?_ GE103.out) | exact HB.out))); rintro e w93 ⟨v105, rfl, ho0, hb⟩; refine ⟨_, rfl, ?_⟩; have n0_ := Aside0.mk (Kd.R_lower ho0 (below_size (by repeat (first | (with_reducible first | exact HB.out | apply below_alloc | apply pw_below_drewN | apply below_drew1 | refine below_set ?_ GE103.out) | exact HB.out)))); have n1_ := Aside0.mk (blk_below (g := gb103) (o := .cells #[.string t101, .string t102] 24 (0, 0)) (by (with_reducible repeat (first | refine blk_drewN ?_ _ | refine blk_drew ?_ | refine blk_alloc ?_ _)); refine blk_put (cs := #[.string t101, .string (⟨#[]⟩ : ByteArray)]) ?_ 1 _ rfl; (with_reducible repeat (first | refine blk_drewN ?_ _ | refine blk_drew ?_ | refine blk_alloc ?_ _)); refine blk_put (cs := #[.string (⟨#[]⟩ : ByteArray), .string (⟨#[]⟩ : ByteArray)]) ?_ 0 _ rfl; (with_reducible repeat (first | refine blk_drewN ?_ _ | refine blk_drew ?_ | refine blk_alloc ?_ _)); exact BK103.out) hb); have n2_ := Aside0.mk (below_step (by repeat (first | (with_reducible first | exact HB.out | apply below_alloc | apply pw_below_drewN | apply below_drew1 | refine below_set ?_ GE103.out) | exact HB.out)) hb); clear BK103; clear HB; have HO106 := n0_; have BK103 := n1_; have HB := n2_; clear n0_ n1_ n2_; (try clear hb); (try clear hb2); (try clear hk); (try clear hi); (try clear ho0)) | ((with_reducible refine gate_callee (f := 17) rfl ?_); refine goesL_ (some 15) rfl rfl Tryz.func17 (by kernel_rfl) rfl #[.int .i64 3, .int .i64 5] rfl (by (try simp only [List.map_toArray, List.map_cons, List.map_nil]); try rfl) ?_; (with_reducible refine (schismaref04_Make.calls k 3 5 t108 t109 _ A3.out).mono ?_); rintro e w94 ⟨rfl, hb⟩; refine ⟨_, rfl, ?_⟩; have n0_ := Aside0.mk (Kd.R_below (by (with_reducible repeat (first | apply Kd.R_alloc | apply Kd.R_drewN | apply Kd.R_drew)); exact HO106.out) hb); have n1_ := Aside0.mk (blk_below (g := gb103) (o := .cells #[.string t101, .string t102] 24 (0, 0)) (by (with_reducible repeat (first | refine blk_drewN ?_ _ | refine blk_drew ?_ | refine blk_alloc ?_ _)); exact BK103.out) hb); have n2_ := Aside0.mk (below_step (by repeat (first | (with_reducible first | exact HB.out | apply below_alloc | apply pw_below_drewN | apply below_drew1 | refine below_set ?_ GE103.out) | exact HB.out)) hb); clear HO106; clear BK103; clear HB; have HO106 := n0_; have BK103 := n1_; have HB := n2_; clear n0_ n1_ n2_; (try clear hb); (try clear hb2); (try clear hk); (try clear hi)) | ((with_reducible refine gate_callee (f := 32) rfl ?_); refine goesL_ (some 16) rfl rfl Tryz.func32 (by kernel_rfl) rfl #[.agg #[.string t108, .string t109]] rfl (by (try simp only [List.map_toArray, List.map_cons, List.map_nil]); try rfl) ?_; (with_reducible refine (convergent_Path.calls k t108 t109 t110 t111 _ ?side1 A4.out).mono ?_); (case side1 => exact GWorld.below HG.out (by repeat (first | (with_reducible first | exact HB.out | apply below_alloc | apply pw_below_drewN | apply below_drew1 | refine below_set ?_ GE103.out) | exact HB.out))); rintro e w95 ⟨rfl, hb⟩; refine ⟨_, rfl, ?_⟩; have n0_ := Aside0.mk (Kd.R_below (by (with_reducible repeat (first | apply Kd.R_alloc | apply Kd.R_drewN | apply Kd.R_drew)); exact HO106.out) hb); have n1_ := Aside0.mk (blk_below (g := gb103) (o := .cells #[.string t101, .string t102] 24 (0, 0)) (by (with_reducible repeat (first | refine blk_drewN ?_ _ | refine blk_drew ?_ | refine blk_alloc ?_ _)); exact BK103.out) hb); have n2_ := Aside0.mk (below_step (by repeat (first | (with_reducible first | exact HB.out | apply below_alloc | apply pw_below_drewN | apply below_drew1 | refine below_set ?_ GE103.out) | exact HB.out)) hb); clear HO106; clear BK103; clear HB; have HO106 := n0_; have BK103 := n1_; have HB := n2_; clear n0_ n1_ n2_; (try clear hb); (try clear hb2); (try clear hk); (try clear hi); have hcz96_0 : w95.cell? ⟨gb103, 0, none⟩ = some (.string t101) := (blk_cell BK103.out 0).trans rfl; have hcz96_1 : w95.cell? ⟨gb103, 1, none⟩ = some (.string t102) := (blk_cell BK103.out 1).trans rfl; have hfz96_0 := blk_frozen BK103.out 0; have hfz96_1 := blk_frozen BK103.out 1) | ((with_reducible refine gate_callee (f := 28) rfl ?_); refine goesL_ (some 21) rfl rfl Tryz.func28 (by kernel_rfl) rfl #[.agg #[.string t101, .string t102], .int .i64 7] rfl (by (try simp only [List.map_toArray, List.map_cons, List.map_nil]); try rfl) ?_; (with_reducible refine (convergent_Best.calls k t101 t102 7 t112 t115 _ ?side1 A5.out).mono ?_); (case side1 => exact GWorld.below HG.out (by repeat (first | (with_reducible first | exact HB.out | apply below_alloc | apply pw_below_drewN | apply below_drew1 | refine below_set ?_ GE103.out) | exact HB.out))); rintro e w97 ⟨v113, rfl, ho0, hb⟩; refine ⟨_, rfl, ?_⟩; have n0_ := Aside0.mk (Kd.R_below (by (with_reducible repeat (first | apply Kd.R_alloc | apply Kd.R_drewN | apply Kd.R_drew)); exact HO106.out) hb); have n1_ := Aside0.mk (Kd.R_lower (Kd.R_newB ho0 (g := gb103) (o := .cells #[.string t101, .string t102] 24 (0, 0)) (by (with_reducible repeat (first | refine blk_drewN ?_ _ | refine blk_drew ?_ | refine blk_alloc ?_ _)); exact BK103.out)) (below_size (by repeat (first | (with_reducible first | exact HB.out | apply below_alloc | apply pw_below_drewN | apply below_drew1 | refine below_set ?_ GE103.out) | exact HB.out)))); have n2_ := Aside0.mk (blk_below (g := gb103) (o := .cells #[.string t101, .string t102] 24 (0, 0)) (by (with_reducible repeat (first | refine blk_drewN ?_ _ | refine blk_drew ?_ | refine blk_alloc ?_ _)); exact BK103.out) hb); have n3_ := Aside0.mk (below_step (by repeat (first | (with_reducible first | exact HB.out | apply below_alloc | apply pw_below_drewN | apply below_drew1 | refine below_set ?_ GE103.out) | exact HB.out)) hb); clear HO106; clear BK103; clear HB; have HO106 := n0_; have HO114 := n1_; have BK103 := n2_; have HB := n3_; clear n0_ n1_ n2_ n3_; (try clear hb); (try clear hb2); (try clear hk); (try clear hi); (try clear ho0)))
  go_ret
  exact ⟨by first | rfl | (simp [*, errW_none, errW_some] <;> rfl), by repeat (first | (with_reducible first | exact HB.out | apply below_alloc | apply pw_below_drewN | apply below_drew1 | refine below_set ?_ GE103.out) | exact HB.out)⟩
end Go.Proofs.YtidajgkepdkcbaaGreatDoor.PL
end
section
namespace Go.Proofs.YtidajgkepdkcbaaGreatDoor
open Go.RowKit Go.Lib Go.Proofs.YtidajgkepdkcbaaGreatDoorW.PrintWords Go.Proofs.YtidajgkepdkcbaaGreatDoorW.PrintLast Go.Proofs.YtidajgkepdkcbaaGreatDoorW.PrintMore PF PL
theorem same_go (l : List S24) : ∀ (m j : Nat), l.length ≤ 1000000 → l.length = j + m → Ev (fun k => schismalaw04_same.l0 k l l (j : Int)) true
 | 0, j, hl, hm => ev_here 1 fun k => by rw [schismalaw04_same.l0, if_neg (by omega)]
 | m + 1, j, hl, hm => by
  refine Ev.step (f := fun k => schismalaw04_same.l0 k l l ((j + 1 : Nat) : Int)) (fun k => ?_) (same_go l m (j + 1) hl (by omega))
  rw [schismalaw04_same.l0, if_pos (by omega), if_pos (by omega), if_pos (by omega), if_neg (by simp), w64 (by omega) (by omega)]
  rfl
theorem Same_self {l : List S24} (hl : l.length ≤ 1000000) : Ev (fun k => schismalaw04_same.f k l l) true := by
 unfold schismalaw04_same.f
 exact Ev.congr (fun k => if_pos rfl) (same_go l l.length 0 hl (by omega))
theorem Small_T {i : Int} (h0 : -9223372036854775808 ≤ i) (h1 : i ≤ 9223372036854775807) : whole_Small.f (T i) = some (i, true) := by
 unfold whole_Small.f strconv_ParseInt.f
 rw [if_pos ⟨rfl, rfl, by have : (T i).size ≤ 20 := T_size_le (k := 19) (by omega) (by omega); omega⟩, T_dataList, parseIntB_itoa h0 h1]
 rfl
theorem S17_small {i : Int} (h : -1000 ≤ i) (h2 : i ≤ 1000) : S17 i := by unfold S17; omega
theorem CTerms_T {ts : List Int} {n d : Int} (h : isCf ts n d) (hn : S17 n) (hd : S17 d) (hF : Fr n d) (hl : ts.length ≤ 1000) : Ev (fun k => convergent_Terms.f k (T n) (T d)) (ts.map T, 0) := by
 unfold convergent_Terms.f
 refine Ev.bind (Wrong_no hn hd hF) (Ev.congr (fun k => if_neg (by simp)) ?_)
 refine Ev.bind (Terms_T h hn hd hF.1 hl) (Ev.congr (fun k => if_neg (by simp; omega)) (ev_const fun _ => rfl))
theorem Path_T {ts : List Int} {n d : Int} (h : isCf ts n d) (hn : S17 n) (hd : S17 d) (hF : Fr n d) (hp : 0 < n) (hl : ts.length ≤ 1000) (a : Int) (ha : ts.getLast? = some a) (hS : S17 a) {r : ByteArray × Int} (hr : pathl 0 ((ts.dropLast ++ [a - 1]).map T) [] = some r) :
  Ev (fun k => convergent_Path.f k (T n) (T d)) r := by
 unfold convergent_Path.f
 refine Ev.bind (Wrong_no hn hd hF) (Ev.congr (fun k => if_neg (by simp)) ?_)
 refine Ev.bind (ev_const (r := (1 : Int)) fun k => ?_) (Ev.congr (fun k => if_neg (by omega)) ?_)
 ·unfold fraction_Sign.f
  rw [whole_Sign_T n, sg_pos hp]
  rfl
 refine Ev.bind (Terms_T h hn hd hF.1 hl) ?_
 have e : (ts.map T).getLast? = some (T a) := by rw [List.getLast?_map, ha]; rfl
 refine Ev.congr (fun k => by rw [e]) ?_
 simp only
 rw [lit1]
 refine Ev.bind (ev_const fun k => Sub_T (a := a) (b := 1) ?_ (by unfold S17; omega) k) (ev_const fun k => ?_)
 ·exact hS
 ·rw [← hr]
  simp [List.map_dropLast]
theorem Known : Ev (fun k => schismalaw04_known.f k) true := by
 unfold schismalaw04_known.f
 have F7 : Fr 7 12 := ⟨by decide, by decide⟩
 have F3 : Fr 3 5 := ⟨by decide, by decide⟩
 have t7 : isCf [0, 1, 1, 2, 2] 7 12 := by simp [isCf]
 have t3 : isCf [0, 1, 1, 2] 3 5 := by simp [isCf]
 have m : ∀ {n d : Int}, n.natAbs < 1000 → 0 < d → d < 1000 → Fr n d → Ev (fun k => schismaref04_Make.f k n d) (T n, T d) := fun h1 h2 h3 h4 => by
  rw [← fr_self h4]; exact RMake (by omega) h2 (by omega)
 refine Ev.bind (m (n := 7) (d := 12) (by decide) (by decide) (by decide) F7) ?_
 refine Ev.bind (CTerms_T t7 (S17_small (by decide) (by decide)) (S17_small (by decide) (by decide)) F7 (by decide)) ?_
 refine Ev.bind (m (n := 3) (d := 5) (by decide) (by decide) (by decide) F3) ?_
 refine Ev.bind (Path_T t3 (S17_small (by decide) (by decide)) (S17_small (by decide) (by decide)) F3 (by decide) (by decide) 2 rfl (S17_small (by decide) (by decide)) (r := (⟨#[76, 82, 76]⟩, 0)) ?_) ?_
 ·simp only [List.dropLast, List.map_cons, List.map_append, List.map_nil, List.nil_append, List.cons_append, pathl]
  rw [Small_T (by decide) (by decide), Small_T (by decide) (by decide), Small_T (by decide) (by decide)]
  rfl
 refine Ev.bind (ev_const fun k => Best_yes (ts := [0, 1, 1, 2, 2]) ⟨rfl, rfl, by decide, by decide, F7, by decide, by decide, by decide, t7, by decide⟩ k) ?_
 refine Ev.congr (fun k => if_pos rfl) ?_
 refine Ev.bind (Ints_T (by decide) (fun a ha => S17_small (by simp at ha; omega) (by simp at ha; omega))) ?_
 refine Ev.congr (fun k => by rw [if_pos rfl, if_pos rfl, if_pos (by simp [ByteArray.toList_eq]), if_pos rfl]) ?_
 refine Ev.bind (m (n := 1) (d := 1) (by decide) (by decide) (by decide) ⟨by decide, by decide⟩) ?_
 refine Ev.bind (m (n := 1) (d := 2) (by decide) (by decide) (by decide) ⟨by decide, by decide⟩) ?_
 refine Ev.bind (m (n := 3) (d := 5) (by decide) (by decide) (by decide) ⟨by decide, by decide⟩) ?_
 refine Ev.bind (m (n := 4) (d := 7) (by decide) (by decide) (by decide) ⟨by decide, by decide⟩) ?_
 have e : (bestRow 7 12 7 [0, 1, 1, 2, 2]).map sf = [⟨T 1, T 1⟩, ⟨T 1, T 2⟩, ⟨T 3, T 5⟩, ⟨T 4, T 7⟩] := by
  have : bestRow 7 12 7 [0, 1, 1, 2, 2] = [(1, 1), (1, 2), (3, 5), (4, 7)] := by decide
  rw [this]; rfl
 rw [e]
 exact Ev.bind (Same_self (by decide)) (ev_const fun _ => rfl)
end Go.Proofs.YtidajgkepdkcbaaGreatDoor
end
section
namespace Go.Proofs.YtidajgkepdkcbaaGreatDoor.PL
open Go.RowKit Go.Proofs.YtidajgkepdkcbaaGreatDoorW.PrintWords Go.Proofs.YtidajgkepdkcbaaGreatDoorW.PrintLast Go.Proofs.YtidajgkepdkcbaaGreatDoorW.PrintMore Go.Proofs.YtidajgkepdkcbaaGreatDoor.PF
attribute [local go_sem] max2_int min2_int max_two min_two max_three min_three max_four min_four
theorem eqA24 (d : Nat) (w : World) (x0 y0 : ByteArray) (x1 y1 : ByteArray) :
  (Op.equalIn (d + 2) 24 (.agg #[.string x0, .string x1]) (.agg #[.string y0, .string y1])).run Tryz.prog w = .ok (x0.toList == y0.toList && (x1.toList == y1.toList)) w := by
 refine eqA_of Tryz.underlying24 (by kernel_rfl) ?_
 refine eqf_cons (by rfl) (by go_simp; rfl) (by go_simp; rfl) (by go_simp) ?_
 exact eqf_last (by rfl) (by go_simp; rfl) (by go_simp; rfl) (by go_simp)
end Go.Proofs.YtidajgkepdkcbaaGreatDoor.PL
end
section
namespace Go.Proofs.YtidajgkepdkcbaaGreatDoor
open Go.RowKit Go.Lib Go.Proofs.YtidajgkepdkcbaaGreatDoorW.PrintWords Go.Proofs.YtidajgkepdkcbaaGreatDoorW.PrintLast Go.Proofs.YtidajgkepdkcbaaGreatDoorW.PrintMore PF PL
theorem T13 {i : Int} (h : (T i).size ≤ 13) : -1000000000000 < i ∧ i < 10000000000000 := by
 have := lt_of_T_size (i := i) (k := 12) (by omega)
 omega
theorem cf_small {n d : Int} (h0 : 0 < d) (hd2 : d < 10000000000000) : ∃ ts, isCf ts n d ∧ ts.length ≤ 1000 := by
 obtain ⟨ts, h1, h2⟩ := isCf_exists 60 n d h0 (by omega)
 exact ⟨ts, h1, by omega⟩
end Go.Proofs.YtidajgkepdkcbaaGreatDoor
end
section
namespace Go.Proofs.YtidajgkepdkcbaaGreatDoor
open Go.RowKit Go.Lib Go.Proofs.YtidajgkepdkcbaaGreatDoorW.PrintWords Go.Proofs.YtidajgkepdkcbaaGreatDoorW.PrintLast Go.Proofs.YtidajgkepdkcbaaGreatDoorW.PrintMore PF PL
def wb (s : Bool) : UInt8 := if s then 76 else 82
def wayT (l : List Bool) : ByteArray := ⟨(l.map wb).toArray⟩
theorem repeatL_one (c : UInt8) : ∀ n : Nat, Lib.repeatL [c] n = List.replicate n c
 | 0 => rfl
 | n + 1 => by rw [Lib.repeatL, repeatL_one c n]; rfl
def lower : List Int → List Int
 | [] => []
 | [a] => [a - 1]
 | a :: b :: l => a :: lower (b :: l)
theorem lower_eq : ∀ {l : List Int} {a : Int}, l.getLast? = some a → lower l = l.dropLast ++ [a - 1]
 | [], _, h => by cases h
 | [b], a, h => by
  have e : b = a := by simpa using h
  subst e; rfl
 | b :: c :: l, a, h => by
  rw [lower, lower_eq (l := c :: l) (a := a) (by rw [← h]; simp [List.getLast?_cons_cons])]
  rfl
theorem sumI_nonneg : ∀ {l : List Int}, (∀ a ∈ l, 0 ≤ a) → 0 ≤ sumI l
 | [], _ => by simp [sumI]
 | a :: l, h => by
  have h1 := h a (by simp)
  have h2 := sumI_nonneg (l := l) (fun x hx => h x (by simp [hx]))
  simp only [sumI, List.foldr_cons] at *; omega
theorem sumI_mem : ∀ {l : List Int} {x : Int}, (∀ a ∈ l, 0 ≤ a) → x ∈ l → x ≤ sumI l
 | [], _, _, h => by cases h
 | a :: l, x, h, hx => by
  have h1 := h a (by simp)
  have h2 := sumI_nonneg (l := l) (fun x hx => h x (by simp [hx]))
  rcases List.mem_cons.1 hx with rfl | hx
  ·simp only [sumI, List.foldr_cons] at *; omega
  ·have h3 := sumI_mem (l := l) (fun x hx => h x (by simp [hx])) hx
   simp only [sumI, List.foldr_cons] at *; omega
theorem pathl_runs : ∀ (l : List Int) (i : Nat) (acc : List UInt8), l ≠ [] → (∀ a ∈ l, 0 ≤ a ∧ a ≤ 1000000000000) → (∀ a, l.getLast? = some a → 1 ≤ a) → acc.length ≤ 1000 →
  pathl i ((lower l).map T) acc = if (acc.length : Int) + sumI l - 1 ≤ 1000 then some (⟨(acc ++ (runs (decide (i % 2 = 1)) l).map wb).toArray⟩, 0) else some (⟨#[]⟩, 16)
 | [], _, _, h, _, _, _ => absurd rfl h
 | [a], i, acc, _, hr, hl, ha => by
  have h1 := hr a (by simp)
  have h2 := hl a (by simp)
  have hs : sumI [a] = a := by simp [sumI]
  simp only [lower, List.map_cons, List.map_nil, pathl]
  rw [Small_T (by omega) (by omega), hs]
  simp only [Option.bind_some]
  by_cases hc : (acc.length : Int) + a - 1 ≤ 1000
  ·rw [if_pos hc, if_neg (by simp; omega), if_neg (by omega), repeatL_one]
   simp only [runs, if_pos]
   rw [List.map_replicate]
   rcases Nat.mod_two_eq_zero_or_one i with hi | hi <;> simp [hi, wb]
  ·rw [if_neg hc, if_pos (by right; omega)]
 | a :: b :: l, i, acc, _, hr, hl, ha => by
  have h1 := hr a (by simp)
  have hr' : ∀ x ∈ b :: l, 0 ≤ x ∧ x ≤ 1000000000000 := fun x hx => hr x (by simp at hx ⊢; right; exact hx)
  have hl' : ∀ x, (b :: l).getLast? = some x → 1 ≤ x := fun x hx => hl x (by rw [List.getLast?_cons_cons]; exact hx)
  have hs : sumI (a :: b :: l) = a + sumI (b :: l) := rfl
  have h3 : 1 ≤ sumI (b :: l) := by
   have hm : (b :: l).getLast (by simp) ∈ b :: l := List.getLast_mem _
   have := sumI_mem (fun x hx => (hr' x hx).1) hm
   have := hl' _ (List.getLast?_eq_some_getLast (by simp))
   omega
  simp only [lower, List.map_cons, pathl]
  rw [Small_T (by omega) (by omega), hs]
  simp only [Option.bind_some]
  by_cases hc : 1000 - (acc.length : Int) < a
  ·rw [if_pos (by right; exact hc), if_neg (by omega)]
  ·rw [if_neg (by simp; omega), if_neg (by omega)]
   have hlen : (acc ++ Lib.repeatL [if i % 2 = 0 then 82 else 76] a.toNat).length = acc.length + a.toNat := by rw [List.length_append, repeat_one]
   rw [pathl_runs (b :: l) (i + 1) _ (by simp) hr' hl' (by rw [hlen]; omega), hlen]
   have e : ((acc.length + a.toNat : Nat) : Int) + sumI (b :: l) - 1 = (acc.length : Int) + (a + sumI (b :: l)) - 1 := by omega
   rw [e]
   have e2 : acc ++ Lib.repeatL [if i % 2 = 0 then 82 else 76] a.toNat ++ (runs (decide ((i + 1) % 2 = 1)) (b :: l)).map wb = acc ++ (runs (decide (i % 2 = 1)) (a :: b :: l)).map wb := by
    rw [repeatL_one, List.append_assoc]
    congr 1
    rw [show runs (decide (i % 2 = 1)) (a :: b :: l) = List.replicate a.toNat (decide (i % 2 = 1)) ++ runs (!decide (i % 2 = 1)) (b :: l) by rw [runs, if_neg (by simp)], List.map_append, List.map_replicate]
    rcases Nat.mod_two_eq_zero_or_one i with hi | hi
    ·have : (i + 1) % 2 = 1 := by omega
     simp [hi, this, wb]
    ·have : ¬ (i + 1) % 2 = 1 := by omega
     simp [hi, this, wb]
   rw [e2]
def Nd.Pos (t : Nd) : Prop := 0 ≤ t.a ∧ 0 ≤ t.b ∧ 0 ≤ t.x ∧ 0 ≤ t.y
theorem Nd.Pos.go {t : Nd} (h : t.Pos) (s : Bool) : (t.go s).Pos := by
 obtain ⟨h1, h2, h3, h4⟩ := h
 cases s <;> (simp only [Nd.go, Nd.Pos]; simp; omega)
theorem Nd.root_pos : Nd.root.Pos := by simp [Nd.root, Nd.Pos]
theorem Nd.grow : ∀ (l : List Bool) (t : Nd), t.Pos → t.a + t.x ≤ (t.walk l).a + (t.walk l).x ∧ t.b + t.y ≤ (t.walk l).b + (t.walk l).y
 | [], _, _ => ⟨Int.le_refl _, Int.le_refl _⟩
 | s :: l, t, h => by
  have ih := Nd.grow l (t.go s) (h.go s)
  have e : t.walk (s :: l) = (t.go s).walk l := rfl
  rw [e]
  obtain ⟨h1, h2, h3, h4⟩ := h
  have : t.a + t.x ≤ (t.go s).a + (t.go s).x ∧ t.b + t.y ≤ (t.go s).b + (t.go s).y := by
   cases s <;> (simp only [Nd.go]; simp; omega)
  omega
theorem atl_T (k : Nat) : ∀ (l : List Bool) (t : Nd), t.Pos → (t.walk l).a + (t.walk l).x < 10000000000000000 → (t.walk l).b + (t.walk l).y < 10000000000000000 →
  atl k (l.map wb) (T t.a) (T t.b) (T t.x) (T t.y) = some (T (t.walk l).a, T (t.walk l).b, T (t.walk l).x, T (t.walk l).y)
 | [], _, _, _, _ => rfl
 | s :: l, t, h, h1, h2 => by
  obtain ⟨g1, g2⟩ := Nd.grow (s :: l) t h
  have ih := atl_T k l (t.go s) (h.go s) h1 h2
  obtain ⟨p1, p2, p3, p4⟩ := h
  have e : t.walk (s :: l) = (t.go s).walk l := rfl
  rw [e, ← ih, List.map_cons, atl, Add_T (by unfold S17; omega) (by unfold S17; omega), Option.bind_some, Add_T (by unfold S17; omega) (by unfold S17; omega), Option.bind_some]
  cases s
  ·rw [if_neg (by decide)]; rfl
  ·rw [if_pos (by decide)]; rfl
theorem At_T (l : List Bool) (hl : l.length ≤ 1000) (h1 : (Nd.root.walk l).a + (Nd.root.walk l).x < 10000000000000000) (h2 : (Nd.root.walk l).b + (Nd.root.walk l).y < 10000000000000000) :
  Ev (fun k => convergent_At.f k (wayT l)) ((fr ((Nd.root.walk l).a + (Nd.root.walk l).x) ((Nd.root.walk l).b + (Nd.root.walk l).y)).1, (fr ((Nd.root.walk l).a + (Nd.root.walk l).x) ((Nd.root.walk l).b + (Nd.root.walk l).y)).2, 0) := by
 have hsz : (wayT l).size = l.length := by simp [wayT, ByteArray.size]
 have hda : (wayT l).data.toList = l.map wb := by simp [wayT]
 unfold convergent_At.f
 have hp : (Nd.root.walk l).Pos := by
  have : ∀ (l : List Bool) (t : Nd), t.Pos → (t.walk l).Pos := by
   intro l
   induction l with
   | nil => intro t h; exact h
   | cons s l ih => intro t h; exact ih _ (h.go s)
  exact this l _ Nd.root_pos
 have hg := Nd.grow l _ Nd.root_pos
 have hb : 0 < (Nd.root.walk l).b + (Nd.root.walk l).y := by
  have : Nd.root.b + Nd.root.y = 1 := rfl
  omega
 have ht : Lib.trimS (l.map wb) [76, 82] = [] := trimS_nil.2 fun x hx => by
  obtain ⟨s, _, rfl⟩ := List.mem_map.1 hx
  cases s <;> decide
 have ha := fun k => atl_T k l Nd.root Nd.root_pos h1 h2
 rw [show T Nd.root.a = ⟨#[48]⟩ from lit0.symm, show T Nd.root.b = ⟨#[49]⟩ from lit1.symm, show T Nd.root.x = ⟨#[49]⟩ from lit1.symm, show T Nd.root.y = ⟨#[48]⟩ from lit0.symm] at ha
 refine Ev.congr (fun k => by rw [if_neg (by omega), hda, if_neg (by simp [ht])]) ?_
 obtain ⟨p1, p2, p3, p4⟩ := hp
 refine Ev.bind (ev_const ha) ?_
 refine Ev.bind (ev_const fun k => Add_T (by unfold S17; omega) (by unfold S17; omega) k) ?_
 refine Ev.bind (ev_const fun k => Add_T (by unfold S17; omega) (by unfold S17; omega) k) ?_
 exact Ev.bind (Over_T (by unfold S17; omega) (by unfold S17; omega) hb) (ev_const fun _ => rfl)
theorem RPath_go (n d : Int) (hn0 : 0 < n) (hn : n < 1000000000) (hd0 : 0 < d) (hd : d < 1000000000) : ∀ (k : Nat) (t : Nd) (acc : List Int), t.Pos →
  (t.walk (way n d k t)).a + (t.walk (way n d k t)).x < 1000000000 → (t.walk (way n d k t)).b + (t.walk (way n d k t)).y < 1000000000 →
  n * ((t.walk (way n d k t)).b + (t.walk (way n d k t)).y) = ((t.walk (way n d k t)).a + (t.walk (way n d k t)).x) * d → acc.length + k ≤ 100000 →
  Ev (fun j => schismaref04_Path.l0 j n d t.a t.b t.x t.y acc) (strOfNums (acc ++ (way n d k t).map fun s => if s then 76 else 82)) := by
 intro k
 have big : ∀ {x y : Int}, 0 ≤ x → x < 1000000000 → 0 ≤ y → y < 1000000000 → 0 ≤ x * y ∧ x * y < 1000000000000000000 := fun h1 h2 h3 h4 => by
  refine ⟨Int.mul_nonneg h1 h3, ?_⟩
  rename_i x y
  have := Int.mul_le_mul (show x ≤ (999999999 : Int) by omega) (show y ≤ (999999999 : Int) by omega) h3 (by omega)
  omega
 induction k with
 | zero =>
  intro t acc hp h1 h2 h3 hl
  simp only [way, Nd.walk, List.foldl_nil] at h1 h2 h3 ⊢
  obtain ⟨p1, p2, p3, p4⟩ := hp
  have b1 := big (x := n) (y := t.b + t.y) (by omega) (by omega) (by omega) (by omega)
  refine ev_here 1 fun j => ?_
  rw [schismaref04_Path.l0, w64 (x := t.b + t.y) (by omega) (by omega), w64 (x := t.a + t.x) (by omega) (by omega), w64 (x := n * (t.b + t.y)) (by omega) (by omega), ← h3, w64 (x := n * (t.b + t.y)) (by omega) (by omega), if_neg (by omega), if_neg (by omega)]
  simp
 | succ k ih =>
  intro t acc hp h1 h2 h3 hl
  obtain ⟨g1, g2⟩ := Nd.grow (way n d (k + 1) t) t hp
  have hp' := hp
  obtain ⟨p1, p2, p3, p4⟩ := hp
  have b1 := big (x := n) (y := t.b + t.y) (by omega) (by omega) (by omega) (by omega)
  have b2 := big (x := t.a + t.x) (y := d) (by omega) (by omega) (by omega) (by omega)
  refine Ev.step (fun j => by rw [schismaref04_Path.l0, w64 (x := t.b + t.y) (by omega) (by omega), w64 (x := t.a + t.x) (by omega) (by omega), w64 (x := n * (t.b + t.y)) (by omega) (by omega), w64 (x := (t.a + t.x) * d) (by omega) (by omega)]) ?_
  by_cases c1 : n * (t.b + t.y) < (t.a + t.x) * d
  ·have e : way n d (k + 1) t = true :: way n d k (t.go true) := by rw [way, if_pos c1]
   rw [e] at h1 h2 h3 ⊢
   have := ih (t.go true) (acc ++ [76]) (hp'.go _) h1 h2 h3 (by simp; omega)
   refine Ev.congr (fun j => by rw [if_pos c1, if_pos (by omega)]) ?_
   simp only [List.append_assoc, List.cons_append, List.nil_append] at this
   exact this
  ·by_cases c2 : (t.a + t.x) * d < n * (t.b + t.y)
   ·have e : way n d (k + 1) t = false :: way n d k (t.go false) := by rw [way, if_neg c1, if_pos c2]
    rw [e] at h1 h2 h3 ⊢
    have := ih (t.go false) (acc ++ [82]) (hp'.go _) h1 h2 h3 (by simp; omega)
    refine Ev.congr (fun j => by rw [if_neg c1, if_pos c2, if_pos (by omega)]) ?_
    simp only [List.append_assoc, List.cons_append, List.nil_append] at this
    exact this
   ·have e : way n d (k + 1) t = [] := by rw [way, if_neg c1, if_neg c2]
    rw [e]
    refine ev_const fun j => ?_
    rw [if_neg c1, if_neg c2]
    simp
theorem strOf_way (l : List Bool) : strOfNums (l.map fun s => if s then 76 else 82) = wayT l := by
 unfold strOfNums wayT
 rw [List.map_map]
 have : ((fun n : Int => UInt8.ofNat n.toNat) ∘ fun s : Bool => if s = true then (76 : Int) else 82) = wb := by
  funext s
  cases s <;> rfl
 rw [this]
theorem runs_length : ∀ (l : List Int) (s : Bool), l ≠ [] → (∀ a ∈ l, 0 ≤ a) → (∀ a, l.getLast? = some a → 1 ≤ a) → ((runs s l).length : Int) = sumI l - 1
 | [], _, h, _, _ => absurd rfl h
 | [a], s, _, h0, h1 => by
  have := h1 a (by simp)
  simp [runs, sumI]
  omega
 | a :: b :: l, s, _, h0, h1 => by
  have ih := runs_length (b :: l) (!s) (by simp) (fun x hx => h0 x (by simp at hx ⊢; right; exact hx)) (fun x hx => h1 x (by rw [List.getLast?_cons_cons]; exact hx))
  have := h0 a (by simp)
  have hs : sumI (a :: b :: l) = a + sumI (b :: l) := rfl
  rw [runs, if_neg (by simp), List.length_append, List.length_replicate, hs]
  omega
end Go.Proofs.YtidajgkepdkcbaaGreatDoor
end
section
namespace Go.Proofs.YtidajgkepdkcbaaGreatDoor.PL
open Go.RowKit Go.Proofs.YtidajgkepdkcbaaGreatDoorW.PrintWords Go.Proofs.YtidajgkepdkcbaaGreatDoorW.PrintLast Go.Proofs.YtidajgkepdkcbaaGreatDoorW.PrintMore Go.Proofs.YtidajgkepdkcbaaGreatDoor.PF
attribute [local go_sem] max2_int min2_int max_two min_two max_three min_three max_four min_four
attribute [local go_sem high] eqA24
mutual
noncomputable def schismalaw04_ConvergentPaths.j0 : Nat → Bool → ByteArray → ByteArray → Option (Bool)
 | 0, _, _, _ => none
 | k + 1, x26, x102000, x102001 => if x26 = true then ((schismalaw04_known.f k).bind fun t103 => (some t103)) else ((convergent_Path.f k x102000 x102001).bind fun bt104 => ((schismaref04_Parts.f k x102000 x102001).bind fun bt106 => (if bt106.2.2 = true then (if bt106.1 ≤ 0 then (if bt104.1.toList = ([] : List UInt8) then (some (bt104.2 == 3)) else (some false)) else ((schismaref04_Terms.f k bt106.1 bt106.2.1).bind fun t109 => (schismalaw04_ConvergentPaths.l0 k bt104.1 bt104.2 bt106.1 bt106.2.1 0 t109 0 x102000 x102001))) else (if bt104.1.toList = ([] : List UInt8) then (some (bt104.2 == 2)) else (some false)))))
noncomputable def schismalaw04_ConvergentPaths.l0 : Nat → ByteArray → Int → Int → Int → Int → List Int → Int → ByteArray → ByteArray → Option (Bool)
 | 0, _, _, _, _, _, _, _, _, _ => none
 | k + 1, x3, x4, x5, x6, x8, x9, x10, x102000, x102001 => if x10 < (x9.length : Int) then (if 0 ≤ x10 then (schismalaw04_ConvergentPaths.l0 k x3 x4 x5 x6 (wrap64 (x8 + (rd x9 x10))) x9 (wrap64 (x10 + 1)) x102000 x102001) else (none)) else (if (wrap64 (x8 - 1)) > 1000 then (if x3.toList = ([] : List UInt8) then (some (x4 == 16)) else (some false)) else ((convergent_At.f k x3).bind fun bt113 => ((schismaref04_Path.f k x5 x6).bind fun t117 => (if x3.toList = t117.toList then (if x4 = 0 then (if (bt113.1.toList == x102000.toList && (bt113.2.1.toList == x102001.toList)) = true then (some (bt113.2.2 == 0)) else (some false)) else (some false)) else (some false)))))
end
noncomputable def schismalaw04_ConvergentPaths.f (k : Nat) (a0_0 : ByteArray) (a0_1 : ByteArray) : Option (Bool) := (schismalaw04_known.f k).bind fun t102 => (if t102 = true then (if (a0_0.size : Int) > 9 then (schismalaw04_ConvergentPaths.j0 k true a0_0 a0_1) else (schismalaw04_ConvergentPaths.j0 k (decide ((a0_1.size : Int) > 9)) a0_0 a0_1)) else (schismalaw04_ConvergentPaths.j0 k true a0_0 a0_1))
set_option maxHeartbeats 8000000 in
set_option maxRecDepth 100000 in
theorem schismalaw04_ConvergentPaths.calls (k : Nat) (a0_0 : ByteArray) (a0_1 : ByteArray) (r : Bool) (w : World) (hG_ : GWorld w) (h : schismalaw04_ConvergentPaths.f k a0_0 a0_1 = some r) :
  Calls Tryz.prog 8 #[.agg #[.string a0_0, .string a0_1]] w fun e w' => e = .returned (.bool r) ∧ Below w.heap.size w w' := by
 have hu24 := Tryz.underlying24
 have HB := Aside0.mk (Below.refl w.heap.size w)
 have HG := Aside0.mk hG_
 clear hG_
 have H : ((schismalaw04_known.f k).bind fun t102 => (if t102 = true then (if (a0_0.size : Int) > 9 then (schismalaw04_ConvergentPaths.j0 k true a0_0 a0_1) else (schismalaw04_ConvergentPaths.j0 k (decide ((a0_1.size : Int) > 9)) a0_0 a0_1)) else (schismalaw04_ConvergentPaths.j0 k true a0_0 a0_1))) = some r := h
 clear h
 have HC2 := Aside0.mk H
 clear H
 go_enter Tryz.func8, Tryz.ntmps8
 go_upto_region 1 with (first | ((with_reducible refine gate_dst (N := 1) rfl ?_); (try (refine gate_guard (by rfl) ?_; dsimp only)); refine box_event ?hg (N := 1) ?hd (cs := #[.string a0_0, .string a0_1]) (t := 24) ?hr ?_; (case hd => rfl); (case hg => rfl); (case hr => first | (go_simp; done) | (go_simp; rfl)); intro gb101 hg w3 hbox hb; have n0_ := Aside0.mk (below_step (by repeat (first | (with_reducible first | exact HB.out | apply below_alloc | apply pw_below_drewN | apply below_drew1) | exact HB.out)) hb); have n1_ := Aside0.mk (hbox); have n2_ := Aside0.mk ((by rw [hg]; exact (below_size (by repeat (first | (with_reducible first | exact HB.out | apply below_alloc | apply pw_below_drewN | apply below_drew1) | exact HB.out))) : w.heap.size ≤ gb101)); have n3_ := Aside0.mk ((by rw [hg]; exact (below_size (by repeat (first | (with_reducible first | exact HB.out | apply below_alloc | apply pw_below_drewN | apply below_drew1) | exact HB.out))) : w.heap.size ≤ gb101)); clear HB; have HB := n0_; have BK101 := n1_; have GW101 := n2_; have GE101 := n3_; clear n0_ n1_ n2_ n3_; clear hb hbox hg))
 (try simp only [Act.put, List.setIfInBounds_toArray, List.set_cons_zero, List.set_cons_succ])
 go_cut [26] (fun v26 wc => ∃ (kq : Nat) (x26_1 : Bool), v26 = .bool x26_1 ∧ Aside0 (schismalaw04_ConvergentPaths.j0 kq x26_1 a0_0 a0_1 = some r) ∧ Aside0 (kq ≤ k) ∧ Aside0 (wc.heap[gb101]? = some (.cells #[.string a0_0, .string a0_1] 24 (0, 0))) ∧ Aside0 (Below w.heap.size w wc))
 case first =>
  have H := HC2.out
  clear HC2
  replace H := Option.bind_eq_some_iff.mp H
  obtain ⟨t102, A40, H⟩ := H
  replace H : (if t102 = true then (if (a0_0.size : Int) > 9 then (schismalaw04_ConvergentPaths.j0 k true a0_0 a0_1) else (schismalaw04_ConvergentPaths.j0 k (decide ((a0_1.size : Int) > 9)) a0_0 a0_1)) else (schismalaw04_ConvergentPaths.j0 k true a0_0 a0_1)) = some r := H
  have A4 := Aside0.mk A40
  clear A40
  by_cases c5 : t102 = true
  ·subst c5
   have H1 : (if (a0_0.size : Int) > 9 then (schismalaw04_ConvergentPaths.j0 k true a0_0 a0_1) else (schismalaw04_ConvergentPaths.j0 k (decide ((a0_1.size : Int) > 9)) a0_0 a0_1)) = some r := by rw [if_pos rfl] at H; exact H
   clear H
   have H := H1
   clear H1
   by_cases c6 : (a0_0.size : Int) > 9
   ·rw [if_pos c6] at H
    have c6b0 : decide (9 < (a0_0.size : Int)) = true := decide_eq_true c6
    have c6b1 : decide (9 < a0_0.size) = true := decide_eq_true (by omega)
    clear c6
    (first | rw [c6b0] | (simp only [i64_w, i32_w]; rw [c6b0]) | skip)
    have H' := Aside0.mk H
    clear H
    go_wp2_with (first | ((with_reducible refine gate_callee (f := 13) rfl ?_); refine goesL_ (some 13) rfl rfl Tryz.func13 (by kernel_rfl) rfl #[] rfl (by (try simp only [List.map_toArray, List.map_cons, List.map_nil]); try rfl) ?_; (with_reducible refine (schismalaw04_known.calls k  true _ ?side1 A4.out).mono ?_); (case side1 => exact GWorld.below HG.out (by repeat (first | (with_reducible first | exact HB.out | apply below_alloc | apply pw_below_drewN | apply below_drew1 | refine below_set ?_ GE101.out) | exact HB.out))); rintro e w7 ⟨rfl, hb⟩; refine ⟨_, rfl, ?_⟩; have n0_ := Aside0.mk (blk_below (g := gb101) (o := .cells #[.string a0_0, .string a0_1] 24 (0, 0)) (by (with_reducible repeat (first | refine blk_drewN ?_ _ | refine blk_drew ?_ | refine blk_alloc ?_ _)); exact BK101.out) hb); have n1_ := Aside0.mk (below_step (by repeat (first | (with_reducible first | exact HB.out | apply below_alloc | apply pw_below_drewN | apply below_drew1 | refine below_set ?_ GE101.out) | exact HB.out)) hb); clear BK101; clear HB; have BK101 := n0_; have HB := n1_; clear n0_ n1_; (try clear hb); (try clear hb2); (try clear hk); (try clear hi); have hcz8_0 : w7.cell? ⟨gb101, 0, none⟩ = some (.string a0_0) := (blk_cell BK101.out 0).trans rfl; have hcz8_1 : w7.cell? ⟨gb101, 1, none⟩ = some (.string a0_1) := (blk_cell BK101.out 1).trans rfl; have hfz8_0 := blk_frozen BK101.out 0; have hfz8_1 := blk_frozen BK101.out 1))
    go_meet
    case rel => exact ⟨_, (true), (by first | rfl | (simp; done) | (simp [*]; done)), H', ⟨by first | omega | exact Nat.le_refl _⟩, ⟨by (with_reducible repeat (first | refine blk_drewN ?_ _ | refine blk_drew ?_ | refine blk_alloc ?_ _)); exact BK101.out⟩, ⟨by repeat (first | (with_reducible first | exact HB.out | apply below_alloc | apply pw_below_drewN | apply below_drew1 | refine below_set ?_ GE101.out) | exact HB.out)⟩⟩
   ·rw [if_neg c6] at H
    have c6b0 : decide (9 < (a0_0.size : Int)) = false := decide_eq_false c6
    have c6b1 : decide (9 < a0_0.size) = false := decide_eq_false (by omega)
    clear c6
    (first | rw [c6b0] | (simp only [i64_w, i32_w]; rw [c6b0]) | skip)
    have H' := Aside0.mk H
    clear H
    go_wp2_with (first | ((with_reducible refine gate_callee (f := 13) rfl ?_); refine goesL_ (some 13) rfl rfl Tryz.func13 (by kernel_rfl) rfl #[] rfl (by (try simp only [List.map_toArray, List.map_cons, List.map_nil]); try rfl) ?_; (with_reducible refine (schismalaw04_known.calls k  true _ ?side1 A4.out).mono ?_); (case side1 => exact GWorld.below HG.out (by repeat (first | (with_reducible first | exact HB.out | apply below_alloc | apply pw_below_drewN | apply below_drew1 | refine below_set ?_ GE101.out) | exact HB.out))); rintro e w9 ⟨rfl, hb⟩; refine ⟨_, rfl, ?_⟩; have n0_ := Aside0.mk (blk_below (g := gb101) (o := .cells #[.string a0_0, .string a0_1] 24 (0, 0)) (by (with_reducible repeat (first | refine blk_drewN ?_ _ | refine blk_drew ?_ | refine blk_alloc ?_ _)); exact BK101.out) hb); have n1_ := Aside0.mk (below_step (by repeat (first | (with_reducible first | exact HB.out | apply below_alloc | apply pw_below_drewN | apply below_drew1 | refine below_set ?_ GE101.out) | exact HB.out)) hb); clear BK101; clear HB; have BK101 := n0_; have HB := n1_; clear n0_ n1_; (try clear hb); (try clear hb2); (try clear hk); (try clear hi); have hcz10_0 : w9.cell? ⟨gb101, 0, none⟩ = some (.string a0_0) := (blk_cell BK101.out 0).trans rfl; have hcz10_1 : w9.cell? ⟨gb101, 1, none⟩ = some (.string a0_1) := (blk_cell BK101.out 1).trans rfl; have hfz10_0 := blk_frozen BK101.out 0; have hfz10_1 := blk_frozen BK101.out 1))
    go_meet
    case rel => exact ⟨_, (decide ((a0_1.size : Int) > 9)), (by first | rfl | (simp; done) | (simp [*]; done)), H', ⟨by first | omega | exact Nat.le_refl _⟩, ⟨by (with_reducible repeat (first | refine blk_drewN ?_ _ | refine blk_drew ?_ | refine blk_alloc ?_ _)); exact BK101.out⟩, ⟨by repeat (first | (with_reducible first | exact HB.out | apply below_alloc | apply pw_below_drewN | apply below_drew1 | refine below_set ?_ GE101.out) | exact HB.out)⟩⟩
  ·replace c5 := Bool.eq_false_iff.mpr c5
   subst c5
   have H1 : (schismalaw04_ConvergentPaths.j0 k true a0_0 a0_1) = some r := by rw [if_neg (show ¬ (false = true) by decide)] at H; exact H
   clear H
   have H := H1
   clear H1
   have H' := Aside0.mk H
   clear H
   go_wp2_with (first | ((with_reducible refine gate_callee (f := 13) rfl ?_); refine goesL_ (some 13) rfl rfl Tryz.func13 (by kernel_rfl) rfl #[] rfl (by (try simp only [List.map_toArray, List.map_cons, List.map_nil]); try rfl) ?_; (with_reducible refine (schismalaw04_known.calls k  false _ ?side1 A4.out).mono ?_); (case side1 => exact GWorld.below HG.out (by repeat (first | (with_reducible first | exact HB.out | apply below_alloc | apply pw_below_drewN | apply below_drew1 | refine below_set ?_ GE101.out) | exact HB.out))); rintro e w11 ⟨rfl, hb⟩; refine ⟨_, rfl, ?_⟩; have n0_ := Aside0.mk (blk_below (g := gb101) (o := .cells #[.string a0_0, .string a0_1] 24 (0, 0)) (by (with_reducible repeat (first | refine blk_drewN ?_ _ | refine blk_drew ?_ | refine blk_alloc ?_ _)); exact BK101.out) hb); have n1_ := Aside0.mk (below_step (by repeat (first | (with_reducible first | exact HB.out | apply below_alloc | apply pw_below_drewN | apply below_drew1 | refine below_set ?_ GE101.out) | exact HB.out)) hb); clear BK101; clear HB; have BK101 := n0_; have HB := n1_; clear n0_ n1_; (try clear hb); (try clear hb2); (try clear hk); (try clear hi)))
   go_meet
   case rel => exact ⟨_, (true), (by first | rfl | (simp; done) | (simp [*]; done)), H', ⟨by first | omega | exact Nat.le_refl _⟩, ⟨by (with_reducible repeat (first | refine blk_drewN ?_ _ | refine blk_drew ?_ | refine blk_alloc ?_ _)); exact BK101.out⟩, ⟨by repeat (first | (with_reducible first | exact HB.out | apply below_alloc | apply pw_below_drewN | apply below_drew1 | refine below_set ?_ GE101.out) | exact HB.out)⟩⟩
 case rest =>
  clear HC2
  try clear c1
  try clear p2
  try clear c5
  try clear c6
  try clear c6b0
  try clear c6b1
  try clear c8
  try clear hcz10_0
  try clear hcz10_1
  try clear hcz8_0
  try clear hcz8_1
  try clear hfz10_0
  try clear hfz10_1
  try clear hfz8_0
  try clear hfz8_1
  obtain ⟨kq, x26_1, rfl, HA, HJ1, BK101, HB⟩ := hcut
  cases kq with
  | zero => exact absurd HA.out (by simp [schismalaw04_ConvergentPaths.j0])
  | succ kj1 =>
   have H := HA.out
   clear HA
   simp only [schismalaw04_ConvergentPaths.j0] at H
   by_cases c12 : x26_1 = true
   ·subst c12
    have H1 : ((schismalaw04_known.f kj1).bind fun t103 => (some t103)) = some r := by rw [if_pos rfl] at H; exact H
    clear H
    have H := H1
    clear H1
    replace H := Option.bind_eq_some_iff.mp H
    obtain ⟨t103, A130, H⟩ := H
    replace H : (some t103) = some r := H
    have A13 := Aside0.mk A130
    clear A130
    obtain rfl := Option.some.inj H
    go_wp2_with (first | ((with_reducible refine gate_callee (f := 13) rfl ?_); refine goesL_ (some 27) rfl rfl Tryz.func13 (by kernel_rfl) rfl #[] rfl (by (try simp only [List.map_toArray, List.map_cons, List.map_nil]); try rfl) ?_; (with_reducible refine (schismalaw04_known.calls kj1  t103 _ ?side1 A13.out).mono ?_); (case side1 => exact GWorld.below HG.out (by repeat (first | (with_reducible first | exact HB.out | apply below_alloc | apply pw_below_drewN | apply below_drew1 | refine below_set ?_ GE101.out) | exact HB.out))); rintro e w14 ⟨rfl, hb⟩; refine ⟨_, rfl, ?_⟩; have n0_ := Aside0.mk (blk_below (g := gb101) (o := .cells #[.string a0_0, .string a0_1] 24 (0, 0)) (by (with_reducible repeat (first | refine blk_drewN ?_ _ | refine blk_drew ?_ | refine blk_alloc ?_ _)); exact BK101.out) hb); have n1_ := Aside0.mk (below_step (by repeat (first | (with_reducible first | exact HB.out | apply below_alloc | apply pw_below_drewN | apply below_drew1 | refine below_set ?_ GE101.out) | exact HB.out)) hb); clear BK101; clear HB; have BK101 := n0_; have HB := n1_; clear n0_ n1_; (try clear hb); (try clear hb2); (try clear hk); (try clear hi)))
    go_ret
    exact ⟨by first | rfl | (simp [*, errW_none, errW_some] <;> rfl), by repeat (first | (with_reducible first | exact HB.out | apply below_alloc | apply pw_below_drewN | apply below_drew1 | refine below_set ?_ GE101.out) | exact HB.out)⟩
   ·replace c12 := Bool.eq_false_iff.mpr c12
    subst c12
    have H1 : ((convergent_Path.f kj1 a0_0 a0_1).bind fun bt104 => ((schismaref04_Parts.f kj1 a0_0 a0_1).bind fun bt106 => (if bt106.2.2 = true then (if bt106.1 ≤ 0 then (if bt104.1.toList = ([] : List UInt8) then (some (bt104.2 == 3)) else (some false)) else ((schismaref04_Terms.f kj1 bt106.1 bt106.2.1).bind fun t109 => (schismalaw04_ConvergentPaths.l0 kj1 bt104.1 bt104.2 bt106.1 bt106.2.1 0 t109 0 a0_0 a0_1))) else (if bt104.1.toList = ([] : List UInt8) then (some (bt104.2 == 2)) else (some false))))) = some r := by rw [if_neg (show ¬ (false = true) by decide)] at H; exact H
    clear H
    have H := H1
    clear H1
    replace H := Option.bind_eq_some_iff.mp H
    obtain ⟨⟨t104, t105⟩, A150, H⟩ := H
    replace H : ((schismaref04_Parts.f kj1 a0_0 a0_1).bind fun bt106 => (if bt106.2.2 = true then (if bt106.1 ≤ 0 then (if t104.toList = ([] : List UInt8) then (some (t105 == 3)) else (some false)) else ((schismaref04_Terms.f kj1 bt106.1 bt106.2.1).bind fun t109 => (schismalaw04_ConvergentPaths.l0 kj1 t104 t105 bt106.1 bt106.2.1 0 t109 0 a0_0 a0_1))) else (if t104.toList = ([] : List UInt8) then (some (t105 == 2)) else (some false)))) = some r := H
    have A15 := Aside0.mk A150
    clear A150
    replace H := Option.bind_eq_some_iff.mp H
    obtain ⟨⟨t106, t107, t108⟩, A160, H⟩ := H
    replace H : (if t108 = true then (if t106 ≤ 0 then (if t104.toList = ([] : List UInt8) then (some (t105 == 3)) else (some false)) else ((schismaref04_Terms.f kj1 t106 t107).bind fun t109 => (schismalaw04_ConvergentPaths.l0 kj1 t104 t105 t106 t107 0 t109 0 a0_0 a0_1))) else (if t104.toList = ([] : List UInt8) then (some (t105 == 2)) else (some false))) = some r := H
    have A16 := Aside0.mk A160
    clear A160
    by_cases c17 : t108 = true
    ·subst c17
     have H1 : (if t106 ≤ 0 then (if t104.toList = ([] : List UInt8) then (some (t105 == 3)) else (some false)) else ((schismaref04_Terms.f kj1 t106 t107).bind fun t109 => (schismalaw04_ConvergentPaths.l0 kj1 t104 t105 t106 t107 0 t109 0 a0_0 a0_1))) = some r := by rw [if_pos rfl] at H; exact H
     clear H
     have H := H1
     clear H1
     by_cases c18 : t106 ≤ 0
     ·rw [if_pos c18] at H
      have c18b0 : decide (t106 ≤ 0) = true := decide_eq_true c18
      clear c18
      by_cases c19 : t104.toList = ([] : List UInt8)
      ·rw [if_pos c19] at H
       have c19b0 : (t104.toList == ([] : List UInt8)) = true := beq_iff_eq.mpr c19
       have c19b1 : (t104.toList != ([] : List UInt8)) = false := bne_eq_false_iff_eq.mpr c19
       clear c19
       obtain rfl := Option.some.inj H
       have hcz20_0 : wc.cell? ⟨gb101, 0, none⟩ = some (.string a0_0) := (blk_cell BK101.out 0).trans rfl
       have hcz20_1 : wc.cell? ⟨gb101, 1, none⟩ = some (.string a0_1) := (blk_cell BK101.out 1).trans rfl
       have hfz20_0 := blk_frozen BK101.out 0
       have hfz20_1 := blk_frozen BK101.out 1
       go_wp2_with (first | ((with_reducible refine gate_callee (f := 32) rfl ?_); refine goesL_ (some 30) rfl rfl Tryz.func32 (by kernel_rfl) rfl #[.agg #[.string a0_0, .string a0_1]] rfl (by (try simp only [List.map_toArray, List.map_cons, List.map_nil]); try rfl) ?_; (with_reducible refine (convergent_Path.calls kj1 a0_0 a0_1 t104 t105 _ ?side1 A15.out).mono ?_); (case side1 => exact GWorld.below HG.out (by repeat (first | (with_reducible first | exact HB.out | apply below_alloc | apply pw_below_drewN | apply below_drew1 | refine below_set ?_ GE101.out) | exact HB.out))); rintro e w21 ⟨rfl, hb⟩; refine ⟨_, rfl, ?_⟩; have n0_ := Aside0.mk (blk_below (g := gb101) (o := .cells #[.string a0_0, .string a0_1] 24 (0, 0)) (by (with_reducible repeat (first | refine blk_drewN ?_ _ | refine blk_drew ?_ | refine blk_alloc ?_ _)); exact BK101.out) hb); have n1_ := Aside0.mk (below_step (by repeat (first | (with_reducible first | exact HB.out | apply below_alloc | apply pw_below_drewN | apply below_drew1 | refine below_set ?_ GE101.out) | exact HB.out)) hb); clear BK101; clear HB; have BK101 := n0_; have HB := n1_; clear n0_ n1_; (try clear hb); (try clear hb2); (try clear hk); (try clear hi); have hcz22_0 : w21.cell? ⟨gb101, 0, none⟩ = some (.string a0_0) := (blk_cell BK101.out 0).trans rfl; have hcz22_1 : w21.cell? ⟨gb101, 1, none⟩ = some (.string a0_1) := (blk_cell BK101.out 1).trans rfl; have hfz22_0 := blk_frozen BK101.out 0; have hfz22_1 := blk_frozen BK101.out 1) | ((with_reducible refine gate_callee (f := 15) rfl ?_); refine goesL_ (some 35) rfl rfl Tryz.func15 (by kernel_rfl) rfl #[.agg #[.string a0_0, .string a0_1]] rfl (by (try simp only [List.map_toArray, List.map_cons, List.map_nil]); try rfl) ?_; (with_reducible refine (schismaref04_Parts.calls kj1 a0_0 a0_1 t106 t107 true _ A16.out).mono ?_); rintro e w23 ⟨rfl, hb⟩; refine ⟨_, rfl, ?_⟩; have n0_ := Aside0.mk (blk_below (g := gb101) (o := .cells #[.string a0_0, .string a0_1] 24 (0, 0)) (by (with_reducible repeat (first | refine blk_drewN ?_ _ | refine blk_drew ?_ | refine blk_alloc ?_ _)); exact BK101.out) hb); have n1_ := Aside0.mk (below_step (by repeat (first | (with_reducible first | exact HB.out | apply below_alloc | apply pw_below_drewN | apply below_drew1 | refine below_set ?_ GE101.out) | exact HB.out)) hb); clear BK101; clear HB; have BK101 := n0_; have HB := n1_; clear n0_ n1_; (try clear hb); (try clear hb2); (try clear hk); (try clear hi)))
       go_ret
       exact ⟨by first | rfl | (simp [*, errW_none, errW_some] <;> rfl), by repeat (first | (with_reducible first | exact HB.out | apply below_alloc | apply pw_below_drewN | apply below_drew1 | refine below_set ?_ GE101.out) | exact HB.out)⟩
      ·rw [if_neg c19] at H
       have c19b0 : (t104.toList == ([] : List UInt8)) = false := beq_eq_false_iff_ne.mpr c19
       have c19b1 : (t104.toList != ([] : List UInt8)) = true := bne_iff_ne.mpr c19
       obtain rfl := Option.some.inj H
       have hcz24_0 : wc.cell? ⟨gb101, 0, none⟩ = some (.string a0_0) := (blk_cell BK101.out 0).trans rfl
       have hcz24_1 : wc.cell? ⟨gb101, 1, none⟩ = some (.string a0_1) := (blk_cell BK101.out 1).trans rfl
       have hfz24_0 := blk_frozen BK101.out 0
       have hfz24_1 := blk_frozen BK101.out 1
       go_wp2_with (first | ((with_reducible refine gate_callee (f := 32) rfl ?_); refine goesL_ (some 30) rfl rfl Tryz.func32 (by kernel_rfl) rfl #[.agg #[.string a0_0, .string a0_1]] rfl (by (try simp only [List.map_toArray, List.map_cons, List.map_nil]); try rfl) ?_; (with_reducible refine (convergent_Path.calls kj1 a0_0 a0_1 t104 t105 _ ?side1 A15.out).mono ?_); (case side1 => exact GWorld.below HG.out (by repeat (first | (with_reducible first | exact HB.out | apply below_alloc | apply pw_below_drewN | apply below_drew1 | refine below_set ?_ GE101.out) | exact HB.out))); rintro e w25 ⟨rfl, hb⟩; refine ⟨_, rfl, ?_⟩; have n0_ := Aside0.mk (blk_below (g := gb101) (o := .cells #[.string a0_0, .string a0_1] 24 (0, 0)) (by (with_reducible repeat (first | refine blk_drewN ?_ _ | refine blk_drew ?_ | refine blk_alloc ?_ _)); exact BK101.out) hb); have n1_ := Aside0.mk (below_step (by repeat (first | (with_reducible first | exact HB.out | apply below_alloc | apply pw_below_drewN | apply below_drew1 | refine below_set ?_ GE101.out) | exact HB.out)) hb); clear BK101; clear HB; have BK101 := n0_; have HB := n1_; clear n0_ n1_; (try clear hb); (try clear hb2); (try clear hk); (try clear hi); have hcz26_0 : w25.cell? ⟨gb101, 0, none⟩ = some (.string a0_0) := (blk_cell BK101.out 0).trans rfl; have hcz26_1 : w25.cell? ⟨gb101, 1, none⟩ = some (.string a0_1) := (blk_cell BK101.out 1).trans rfl; have hfz26_0 := blk_frozen BK101.out 0; have hfz26_1 := blk_frozen BK101.out 1) | ((with_reducible refine gate_callee (f := 15) rfl ?_); refine goesL_ (some 35) rfl rfl Tryz.func15 (by kernel_rfl) rfl #[.agg #[.string a0_0, .string a0_1]] rfl (by (try simp only [List.map_toArray, List.map_cons, List.map_nil]); try rfl) ?_; (with_reducible refine (schismaref04_Parts.calls kj1 a0_0 a0_1 t106 t107 true _ A16.out).mono ?_); rintro e w27 ⟨rfl, hb⟩; refine ⟨_, rfl, ?_⟩; have n0_ := Aside0.mk (blk_below (g := gb101) (o := .cells #[.string a0_0, .string a0_1] 24 (0, 0)) (by (with_reducible repeat (first | refine blk_drewN ?_ _ | refine blk_drew ?_ | refine blk_alloc ?_ _)); exact BK101.out) hb); have n1_ := Aside0.mk (below_step (by repeat (first | (with_reducible first | exact HB.out | apply below_alloc | apply pw_below_drewN | apply below_drew1 | refine below_set ?_ GE101.out) | exact HB.out)) hb); clear BK101; clear HB; have BK101 := n0_; have HB := n1_; clear n0_ n1_; (try clear hb); (try clear hb2); (try clear hk); (try clear hi)))
       go_ret
       exact ⟨by first | rfl | (simp [*, errW_none, errW_some] <;> rfl), by repeat (first | (with_reducible first | exact HB.out | apply below_alloc | apply pw_below_drewN | apply below_drew1 | refine below_set ?_ GE101.out) | exact HB.out)⟩
     ·rw [if_neg c18] at H
      have c18b0 : decide (t106 ≤ 0) = false := decide_eq_false c18
      clear c18
      replace H := Option.bind_eq_some_iff.mp H
      obtain ⟨t109, A280, H⟩ := H
      replace H : (schismalaw04_ConvergentPaths.l0 kj1 t104 t105 t106 t107 0 t109 0 a0_0 a0_1) = some r := H
      have A28 := Aside0.mk A280
      clear A280
      have H' := Aside0.mk H
      clear H
      have hcz29_0 : wc.cell? ⟨gb101, 0, none⟩ = some (.string a0_0) := (blk_cell BK101.out 0).trans rfl
      have hcz29_1 : wc.cell? ⟨gb101, 1, none⟩ = some (.string a0_1) := (blk_cell BK101.out 1).trans rfl
      have hfz29_0 := blk_frozen BK101.out 0
      have hfz29_1 := blk_frozen BK101.out 1
      go_wp2_with (first | ((with_reducible refine gate_callee (f := 32) rfl ?_); refine goesL_ (some 30) rfl rfl Tryz.func32 (by kernel_rfl) rfl #[.agg #[.string a0_0, .string a0_1]] rfl (by (try simp only [List.map_toArray, List.map_cons, List.map_nil]); try rfl) ?_; (with_reducible refine (convergent_Path.calls kj1 a0_0 a0_1 t104 t105 _ ?side1 A15.out).mono ?_); (case side1 => exact GWorld.below HG.out (by repeat (first | (with_reducible first | exact HB.out | apply below_alloc | apply pw_below_drewN | apply below_drew1 | refine below_set ?_ GE101.out) | exact HB.out))); rintro e w30 ⟨rfl, hb⟩; refine ⟨_, rfl, ?_⟩; have n0_ := Aside0.mk (blk_below (g := gb101) (o := .cells #[.string a0_0, .string a0_1] 24 (0, 0)) (by (with_reducible repeat (first | refine blk_drewN ?_ _ | refine blk_drew ?_ | refine blk_alloc ?_ _)); exact BK101.out) hb); have n1_ := Aside0.mk (below_step (by repeat (first | (with_reducible first | exact HB.out | apply below_alloc | apply pw_below_drewN | apply below_drew1 | refine below_set ?_ GE101.out) | exact HB.out)) hb); clear BK101; clear HB; have BK101 := n0_; have HB := n1_; clear n0_ n1_; (try clear hb); (try clear hb2); (try clear hk); (try clear hi); have hcz31_0 : w30.cell? ⟨gb101, 0, none⟩ = some (.string a0_0) := (blk_cell BK101.out 0).trans rfl; have hcz31_1 : w30.cell? ⟨gb101, 1, none⟩ = some (.string a0_1) := (blk_cell BK101.out 1).trans rfl; have hfz31_0 := blk_frozen BK101.out 0; have hfz31_1 := blk_frozen BK101.out 1) | ((with_reducible refine gate_callee (f := 15) rfl ?_); refine goesL_ (some 35) rfl rfl Tryz.func15 (by kernel_rfl) rfl #[.agg #[.string a0_0, .string a0_1]] rfl (by (try simp only [List.map_toArray, List.map_cons, List.map_nil]); try rfl) ?_; (with_reducible refine (schismaref04_Parts.calls kj1 a0_0 a0_1 t106 t107 true _ A16.out).mono ?_); rintro e w32 ⟨rfl, hb⟩; refine ⟨_, rfl, ?_⟩; have n0_ := Aside0.mk (blk_below (g := gb101) (o := .cells #[.string a0_0, .string a0_1] 24 (0, 0)) (by (with_reducible repeat (first | refine blk_drewN ?_ _ | refine blk_drew ?_ | refine blk_alloc ?_ _)); exact BK101.out) hb); have n1_ := Aside0.mk (below_step (by repeat (first | (with_reducible first | exact HB.out | apply below_alloc | apply pw_below_drewN | apply below_drew1 | refine below_set ?_ GE101.out) | exact HB.out)) hb); clear BK101; clear HB; have BK101 := n0_; have HB := n1_; clear n0_ n1_; (try clear hb); (try clear hb2); (try clear hk); (try clear hi)) | ((with_reducible refine gate_callee (f := 21) rfl ?_); refine goesL_ (some 57) rfl rfl Tryz.func21 (by kernel_rfl) rfl #[.int .i64 t106, .int .i64 t107] rfl (by (try simp only [List.map_toArray, List.map_cons, List.map_nil]); try rfl) ?_; (with_reducible refine (schismaref04_Terms.calls kj1 t106 t107 t109 _ A28.out).mono ?_); rintro e w33 ⟨v110, rfl, ho0, hb⟩; refine ⟨_, rfl, ?_⟩; have n0_ := Aside0.mk (Kd.R_lower ho0 (below_size (by repeat (first | (with_reducible first | exact HB.out | apply below_alloc | apply pw_below_drewN | apply below_drew1 | refine below_set ?_ GE101.out) | exact HB.out)))); have n1_ := Aside0.mk (blk_below (g := gb101) (o := .cells #[.string a0_0, .string a0_1] 24 (0, 0)) (by (with_reducible repeat (first | refine blk_drewN ?_ _ | refine blk_drew ?_ | refine blk_alloc ?_ _)); exact BK101.out) hb); have n2_ := Aside0.mk (below_step (by repeat (first | (with_reducible first | exact HB.out | apply below_alloc | apply pw_below_drewN | apply below_drew1 | refine below_set ?_ GE101.out) | exact HB.out)) hb); clear BK101; clear HB; have HO111 := n0_; have BK101 := n1_; have HB := n2_; clear n0_ n1_ n2_; (try clear hb); (try clear hb2); (try clear hk); (try clear hi); (try clear ho0)))
      go_loopg [8, 10] kj1 (fun kq v8 v10 w' => ∃ (x8_2 : Int) (x10_2 : Int), v8 = .int .i64 x8_2 ∧ v10 = .int .i64 x10_2 ∧ Aside0 (schismalaw04_ConvergentPaths.l0 kq t104 t105 t106 t107 x8_2 t109 x10_2 a0_0 a0_1 = some r) ∧ Aside0 (kq ≤ kj1) ∧ Aside0 (Kd.R (Kd.int .i64) 3 w' w.heap.size (fun _ => True) v110 t109) ∧ Aside0 (w'.heap[gb101]? = some (.cells #[.string a0_0, .string a0_1] 24 (0, 0))) ∧ Aside0 (Below w.heap.size w w'))
      case atStart => exact ⟨(0), (0), (by first | rfl | (simp; done) | (simp [*]; done)), (by first | rfl | (simp; done) | (simp [*]; done)), H', ⟨Nat.le_refl _⟩, ⟨by (with_reducible repeat (first | apply Kd.R_alloc | apply Kd.R_drewN | apply Kd.R_drew)); exact HO111.out⟩, ⟨by (with_reducible repeat (first | refine blk_drewN ?_ _ | refine blk_drew ?_ | refine blk_alloc ?_ _)); exact BK101.out⟩, ⟨by repeat (first | (with_reducible first | exact HB.out | apply below_alloc | apply pw_below_drewN | apply below_drew1 | refine below_set ?_ GE101.out) | exact HB.out)⟩⟩
      case round =>
       clear H'
       try clear c1
       try clear c2
       try clear p2
       try clear c3
       try clear c5
       try clear c6
       try clear c6b0
       try clear c6b1
       try clear c8
       try clear c12
       try clear c13
       try clear c15
       try clear c17
       try clear c18
       try clear c18b0
       try clear c19
       try clear c19b0
       try clear c19b1
       try clear c21
       try clear c32
       try clear hcz10_0
       try clear hcz10_1
       try clear hcz20_0
       try clear hcz20_1
       try clear hcz22_0
       try clear hcz22_1
       try clear hcz24_0
       try clear hcz24_1
       try clear hcz26_0
       try clear hcz26_1
       try clear hcz29_0
       try clear hcz29_1
       try clear hcz31_0
       try clear hcz31_1
       try clear hcz8_0
       try clear hcz8_1
       try clear hfz10_0
       try clear hfz10_1
       try clear hfz20_0
       try clear hfz20_1
       try clear hfz22_0
       try clear hfz22_1
       try clear hfz24_0
       try clear hfz24_1
       try clear hfz26_0
       try clear hfz26_1
       try clear hfz29_0
       try clear hfz29_1
       try clear hfz31_0
       try clear hfz31_1
       try clear hfz8_0
       try clear hfz8_1
       try clear p2
       obtain ⟨x8_2, x10_2, rfl, rfl, HA, HK2, HO_9, BK101, HB⟩ := hrel
       cases gk with
       | zero => exact absurd HA.out (by simp [schismalaw04_ConvergentPaths.l0])
       | succ k2 =>
        have H := HA.out
        clear HA
        simp only [schismalaw04_ConvergentPaths.l0] at H
        by_cases c34 : x10_2 < (t109.length : Int)
        ·rw [if_pos c34] at H
         have c34b0 : decide (x10_2 < (t109.length : Int)) = true := decide_eq_true c34
         clear c34
         by_cases c35 : 0 ≤ x10_2
         ·rw [if_pos c35] at H
          have c35b0 : decide (0 ≤ x10_2) = true := decide_eq_true c35
          clear c35
          have H' := Aside0.mk H
          clear H
          obtain ⟨Ao36, co36, eo36⟩ := Kd.R_slice HO_9.out
          subst eo36
          have p112 : 0 ≤ (x10_2 : Int) := of_decide_eq_true (by first | (with_reducible assumption) | assumption)
          have q112 : x10_2 < (t109.length : Int) := of_decide_eq_true (by first | (with_reducible assumption) | assumption)
          obtain ⟨ad112, e112, hx112_0⟩ := Kd.at_int (Kd.R_reads' HO_9.out).2.2 x10_2 p112 q112
          cases e112
          replace p112 := eq_true p112
          replace q112 := eq_true q112
          go_wp2
          go_roundg k2
          case measure => have := HJ1.out; have := HK2.out; omega
          case rel => exact ⟨(wrap64 (x8_2 + (rd t109 x10_2))), (wrap64 (x10_2 + 1)), (by first | rfl | (simp; done) | (simp [*]; done)), (by first | rfl | (simp; done) | (simp [*]; done)), H', ⟨by have := HJ1.out; have := HK2.out; omega⟩, ⟨by (with_reducible repeat (first | apply Kd.R_alloc | apply Kd.R_drewN | apply Kd.R_drew)); exact HO_9.out⟩, ⟨by (with_reducible repeat (first | refine blk_drewN ?_ _ | refine blk_drew ?_ | refine blk_alloc ?_ _)); exact BK101.out⟩, ⟨by repeat (first | (with_reducible first | exact HB.out | apply below_alloc | apply pw_below_drewN | apply below_drew1 | refine below_set ?_ GE101.out) | exact HB.out)⟩⟩
         ·rw [if_neg c35] at H
          exact absurd H (by simp)
        ·rw [if_neg c34] at H
         have c34b0 : decide (x10_2 < (t109.length : Int)) = false := decide_eq_false c34
         clear c34
         by_cases c37 : (wrap64 (x8_2 - 1)) > 1000
         ·rw [if_pos c37] at H
          have c37b0 : decide (1000 < (wrap64 (x8_2 - 1))) = true := decide_eq_true c37
          clear c37
          by_cases c38 : t104.toList = ([] : List UInt8)
          ·rw [if_pos c38] at H
           have c38b0 : (t104.toList == ([] : List UInt8)) = true := beq_iff_eq.mpr c38
           have c38b1 : (t104.toList != ([] : List UInt8)) = false := bne_eq_false_iff_eq.mpr c38
           clear c38
           obtain rfl := Option.some.inj H
           obtain ⟨Ao39, co39, eo39⟩ := Kd.R_slice HO_9.out
           subst eo39
           go_wp2
           go_ret
           exact ⟨by first | rfl | (simp [*, errW_none, errW_some] <;> rfl), by repeat (first | (with_reducible first | exact HB.out | apply below_alloc | apply pw_below_drewN | apply below_drew1 | refine below_set ?_ GE101.out) | exact HB.out)⟩
          ·rw [if_neg c38] at H
           have c38b0 : (t104.toList == ([] : List UInt8)) = false := beq_eq_false_iff_ne.mpr c38
           have c38b1 : (t104.toList != ([] : List UInt8)) = true := bne_iff_ne.mpr c38
           obtain rfl := Option.some.inj H
           obtain ⟨Ao40, co40, eo40⟩ := Kd.R_slice HO_9.out
           subst eo40
           go_wp2
           go_ret
           exact ⟨by first | rfl | (simp [*, errW_none, errW_some] <;> rfl), by repeat (first | (with_reducible first | exact HB.out | apply below_alloc | apply pw_below_drewN | apply below_drew1 | refine below_set ?_ GE101.out) | exact HB.out)⟩
         ·rw [if_neg c37] at H
          have c37b0 : decide (1000 < (wrap64 (x8_2 - 1))) = false := decide_eq_false c37
          clear c37
          replace H := Option.bind_eq_some_iff.mp H
          obtain ⟨⟨t113, t114, t115⟩, A410, H⟩ := H
          replace H : ((schismaref04_Path.f k2 t106 t107).bind fun t117 => (if t104.toList = t117.toList then (if t105 = 0 then (if (t113.toList == a0_0.toList && (t114.toList == a0_1.toList)) = true then (some (t115 == 0)) else (some false)) else (some false)) else (some false))) = some r := H
          have A41 := Aside0.mk A410
          clear A410
          replace H := Option.bind_eq_some_iff.mp H
          obtain ⟨t117, A420, H⟩ := H
          replace H : (if t104.toList = t117.toList then (if t105 = 0 then (if (t113.toList == a0_0.toList && (t114.toList == a0_1.toList)) = true then (some (t115 == 0)) else (some false)) else (some false)) else (some false)) = some r := H
          have A42 := Aside0.mk A420
          clear A420
          by_cases c43 : t104.toList = t117.toList
          ·rw [if_pos c43] at H
           have c43b0 : (t104.toList == t117.toList) = true := beq_iff_eq.mpr c43
           have c43b1 : (t104.toList != t117.toList) = false := bne_eq_false_iff_eq.mpr c43
           clear c43
           by_cases c44 : t105 = 0
           ·rw [if_pos c44] at H
            have c44b0 : (t105 == 0) = true := beq_iff_eq.mpr c44
            have c44b1 : (t105 != 0) = false := bne_eq_false_iff_eq.mpr c44
            clear c44
            by_cases c45 : (t113.toList == a0_0.toList && (t114.toList == a0_1.toList)) = true
            ·rw [if_pos c45] at H
             have c45b0 : (t113.toList == a0_0.toList && (t114.toList == a0_1.toList)) = true := c45
             (try (have c45b1 : decide (t113.toList = a0_0.toList && (t114.toList == a0_1.toList)) = true := by simpa using c45))
             (try (have c45b2 : (t113.toList == a0_0.toList && (t114.toList == a0_1.toList)) = true := by simpa using c45))
             clear c45
             obtain rfl := Option.some.inj H
             obtain ⟨Ao46, co46, eo46⟩ := Kd.R_slice HO_9.out
             subst eo46
             go_wp2_with (first | ((with_reducible refine gate_callee (f := 33) rfl ?_); refine goesL_ (some 81) rfl rfl Tryz.func33 (by kernel_rfl) rfl #[.string t104] rfl (by (try simp only [List.map_toArray, List.map_cons, List.map_nil]); try rfl) ?_; (with_reducible refine (convergent_At.calls k2 t104 t113 t114 t115 _ ?side1 A41.out).mono ?_); (case side1 => exact GWorld.below HG.out (by repeat (first | (with_reducible first | exact HB.out | apply below_alloc | apply pw_below_drewN | apply below_drew1 | refine below_set ?_ GE101.out) | exact HB.out))); rintro e w47 ⟨rfl, hb⟩; refine ⟨_, rfl, ?_⟩; have n0_ := Aside0.mk (Kd.R_below (by (with_reducible repeat (first | apply Kd.R_alloc | apply Kd.R_drewN | apply Kd.R_drew)); exact HO_9.out) hb); have n1_ := Aside0.mk (blk_below (g := gb101) (o := .cells #[.string a0_0, .string a0_1] 24 (0, 0)) (by (with_reducible repeat (first | refine blk_drewN ?_ _ | refine blk_drew ?_ | refine blk_alloc ?_ _)); exact BK101.out) hb); have n2_ := Aside0.mk (below_step (by repeat (first | (with_reducible first | exact HB.out | apply below_alloc | apply pw_below_drewN | apply below_drew1 | refine below_set ?_ GE101.out) | exact HB.out)) hb); clear HO_9; clear BK101; clear HB; have HO_9 := n0_; have BK101 := n1_; have HB := n2_; clear n0_ n1_ n2_; (try clear hb); (try clear hb2); (try clear hk); (try clear hi)) | ((with_reducible refine gate_dst (N := 11) rfl ?_); (try (refine gate_guard (by rfl) ?_; dsimp only)); refine box_event ?hg (N := 11) ?hd (cs := #[.string (⟨#[]⟩ : ByteArray), .string (⟨#[]⟩ : ByteArray)]) (t := 24) ?hr ?_; (case hd => rfl); (case hg => rfl); (case hr => first | (go_simp; done) | (go_simp; rfl)); intro gb116 hg w48 hbox hb; have n0_ := Aside0.mk (Kd.R_below (by (with_reducible repeat (first | apply Kd.R_alloc | apply Kd.R_drewN | apply Kd.R_drew)); exact HO_9.out) hb); have n1_ := Aside0.mk (blk_below (g := gb101) (o := .cells #[.string a0_0, .string a0_1] 24 (0, 0)) (by (with_reducible repeat (first | refine blk_drewN ?_ _ | refine blk_drew ?_ | refine blk_alloc ?_ _)); exact BK101.out) hb); have n2_ := Aside0.mk (below_step (by repeat (first | (with_reducible first | exact HB.out | apply below_alloc | apply pw_below_drewN | apply below_drew1 | refine below_set ?_ GE101.out) | exact HB.out)) hb); have n3_ := Aside0.mk (hbox); have n4_ := Aside0.mk ((by rw [hg]; exact (below_size (by repeat (first | (with_reducible first | exact HB.out | apply below_alloc | apply pw_below_drewN | apply below_drew1 | refine below_set ?_ GE101.out) | exact HB.out))) : w.heap.size ≤ gb116)); have n5_ := Aside0.mk ((by rw [hg]; exact (below_size (by repeat (first | (with_reducible first | exact HB.out | apply below_alloc | apply pw_below_drewN | apply below_drew1 | refine below_set ?_ GE101.out) | exact HB.out))) : w.heap.size ≤ gb116)); have n6_ := Aside0.mk ((by rw [hg]; exact Nat.ne_of_lt (blk_lt (g := gb101) (o := .cells #[.string a0_0, .string a0_1] 24 (0, 0)) (by (with_reducible repeat (first | refine blk_drewN ?_ _ | refine blk_drew ?_ | refine blk_alloc ?_ _)); exact BK101.out)) : gb101 ≠ gb116)); have n7_ := Aside0.mk ((by rw [hg]; exact Nat.ne_of_gt (blk_lt (g := gb101) (o := .cells #[.string a0_0, .string a0_1] 24 (0, 0)) (by (with_reducible repeat (first | refine blk_drewN ?_ _ | refine blk_drew ?_ | refine blk_alloc ?_ _)); exact BK101.out)) : gb116 ≠ gb101)); clear HO_9; clear BK101; clear HB; have HO_9 := n0_; have BK101 := n1_; have HB := n2_; have BK116 := n3_; have GW116 := n4_; have GE116 := n5_; have NB101_116 := n6_; have NB116_101 := n7_; clear n0_ n1_ n2_ n3_ n4_ n5_ n6_ n7_; clear hb hbox hg; have hnb49 := NB116_101.out; have hnc49 := NB101_116.out; have hcz50_0 : w48.cell? ⟨gb116, 0, none⟩ = some (.string (⟨#[]⟩ : ByteArray)) := (blk_cell BK116.out 0).trans rfl; have hcz50_1 : w48.cell? ⟨gb116, 1, none⟩ = some (.string (⟨#[]⟩ : ByteArray)) := (blk_cell BK116.out 1).trans rfl; have hfz50_0 := blk_frozen BK116.out 0; have hfz50_1 := blk_frozen BK116.out 1) | ((with_reducible refine gate_callee (f := 34) rfl ?_); refine goesL_ (some 87) rfl rfl Tryz.func34 (by kernel_rfl) rfl #[.int .i64 t106, .int .i64 t107] rfl (by (try simp only [List.map_toArray, List.map_cons, List.map_nil]); try rfl) ?_; (with_reducible refine (schismaref04_Path.calls k2 t106 t107 t117 _ A42.out).mono ?_); rintro e w51 ⟨rfl, hb⟩; refine ⟨_, rfl, ?_⟩; have n0_ := Aside0.mk (Kd.R_below (by (with_reducible repeat (first | apply Kd.R_alloc | apply Kd.R_drewN | apply Kd.R_drew)); exact (Kd.R_mono (Kd.R_far (p := ⟨gb116, 1, none⟩) (Kd.R_far (p := ⟨gb116, 0, none⟩) (Kd.R_types HO_9.out BK116.out (by decide)) (fun _ hk => hk.2) (.string t113)) (fun _ hk => hk.2) (.string t114)) (fun _ h_ => h_.1))) hb); have n1_ := Aside0.mk (blk_below (g := gb101) (o := .cells #[.string a0_0, .string a0_1] 24 (0, 0)) (by (with_reducible repeat (first | refine blk_drewN ?_ _ | refine blk_drew ?_ | refine blk_alloc ?_ _)); refine blk_far ?_ NB101_116.out _; (with_reducible repeat (first | refine blk_drewN ?_ _ | refine blk_drew ?_ | refine blk_alloc ?_ _)); refine blk_far ?_ NB101_116.out _; (with_reducible repeat (first | refine blk_drewN ?_ _ | refine blk_drew ?_ | refine blk_alloc ?_ _)); exact BK101.out) hb); have n2_ := Aside0.mk (blk_below (g := gb116) (o := .cells #[.string t113, .string t114] 24 (0, 0)) (by (with_reducible repeat (first | refine blk_drewN ?_ _ | refine blk_drew ?_ | refine blk_alloc ?_ _)); refine blk_put (cs := #[.string t113, .string (⟨#[]⟩ : ByteArray)]) ?_ 1 _ rfl; (with_reducible repeat (first | refine blk_drewN ?_ _ | refine blk_drew ?_ | refine blk_alloc ?_ _)); refine blk_put (cs := #[.string (⟨#[]⟩ : ByteArray), .string (⟨#[]⟩ : ByteArray)]) ?_ 0 _ rfl; (with_reducible repeat (first | refine blk_drewN ?_ _ | refine blk_drew ?_ | refine blk_alloc ?_ _)); exact BK116.out) hb); have n3_ := Aside0.mk (below_step (by repeat (first | (with_reducible first | exact HB.out | apply below_alloc | apply pw_below_drewN | apply below_drew1 | refine below_set ?_ GE101.out | refine below_set ?_ GE116.out) | exact HB.out)) hb); clear HO_9; clear BK101; clear BK116; clear HB; have HO_9 := n0_; have BK101 := n1_; have BK116 := n2_; have HB := n3_; clear n0_ n1_ n2_ n3_; (try clear hb); (try clear hb2); (try clear hk); (try clear hi); have hcz52_0 : w51.cell? ⟨gb116, 0, none⟩ = some (.string t113) := (blk_cell BK116.out 0).trans rfl; have hcz52_1 : w51.cell? ⟨gb116, 1, none⟩ = some (.string t114) := (blk_cell BK116.out 1).trans rfl; have hfz52_0 := blk_frozen BK116.out 0; have hfz52_1 := blk_frozen BK116.out 1; have hcz53_0 : w51.cell? ⟨gb101, 0, none⟩ = some (.string a0_0) := (blk_cell BK101.out 0).trans rfl; have hcz53_1 : w51.cell? ⟨gb101, 1, none⟩ = some (.string a0_1) := (blk_cell BK101.out 1).trans rfl; have hfz53_0 := blk_frozen BK101.out 0; have hfz53_1 := blk_frozen BK101.out 1))
             go_ret
             exact ⟨by first | rfl | (simp [*, errW_none, errW_some] <;> rfl), by repeat (first | (with_reducible first | exact HB.out | apply below_alloc | apply pw_below_drewN | apply below_drew1 | refine below_set ?_ GE101.out | refine below_set ?_ GE116.out) | exact HB.out)⟩
            ·rw [if_neg c45] at H
             have c45b0 : (t113.toList == a0_0.toList && (t114.toList == a0_1.toList)) = false := by simpa using c45
             (try (have c45b1 : decide (t113.toList = a0_0.toList && (t114.toList == a0_1.toList)) = false := by simpa using c45))
             (try (have c45b2 : (t113.toList == a0_0.toList && (t114.toList == a0_1.toList)) = false := by simpa using c45))
             (try (have c45b3 : ¬ (t113.toList = a0_0.toList && (t114.toList == a0_1.toList)) := by simpa using c45))
             clear c45
             obtain rfl := Option.some.inj H
             obtain ⟨Ao54, co54, eo54⟩ := Kd.R_slice HO_9.out
             subst eo54
             go_wp2_with (first | ((with_reducible refine gate_callee (f := 33) rfl ?_); refine goesL_ (some 81) rfl rfl Tryz.func33 (by kernel_rfl) rfl #[.string t104] rfl (by (try simp only [List.map_toArray, List.map_cons, List.map_nil]); try rfl) ?_; (with_reducible refine (convergent_At.calls k2 t104 t113 t114 t115 _ ?side1 A41.out).mono ?_); (case side1 => exact GWorld.below HG.out (by repeat (first | (with_reducible first | exact HB.out | apply below_alloc | apply pw_below_drewN | apply below_drew1 | refine below_set ?_ GE101.out) | exact HB.out))); rintro e w55 ⟨rfl, hb⟩; refine ⟨_, rfl, ?_⟩; have n0_ := Aside0.mk (Kd.R_below (by (with_reducible repeat (first | apply Kd.R_alloc | apply Kd.R_drewN | apply Kd.R_drew)); exact HO_9.out) hb); have n1_ := Aside0.mk (blk_below (g := gb101) (o := .cells #[.string a0_0, .string a0_1] 24 (0, 0)) (by (with_reducible repeat (first | refine blk_drewN ?_ _ | refine blk_drew ?_ | refine blk_alloc ?_ _)); exact BK101.out) hb); have n2_ := Aside0.mk (below_step (by repeat (first | (with_reducible first | exact HB.out | apply below_alloc | apply pw_below_drewN | apply below_drew1 | refine below_set ?_ GE101.out) | exact HB.out)) hb); clear HO_9; clear BK101; clear HB; have HO_9 := n0_; have BK101 := n1_; have HB := n2_; clear n0_ n1_ n2_; (try clear hb); (try clear hb2); (try clear hk); (try clear hi)) | ((with_reducible refine gate_dst (N := 11) rfl ?_); (try (refine gate_guard (by rfl) ?_; dsimp only)); refine box_event ?hg (N := 11) ?hd (cs := #[.string (⟨#[]⟩ : ByteArray), .string (⟨#[]⟩ : ByteArray)]) (t := 24) ?hr ?_; (case hd => rfl); (case hg => rfl); (case hr => first | (go_simp; done) | (go_simp; rfl)); intro gb116 hg w56 hbox hb; have n0_ := Aside0.mk (Kd.R_below (by (with_reducible repeat (first | apply Kd.R_alloc | apply Kd.R_drewN | apply Kd.R_drew)); exact HO_9.out) hb); have n1_ := Aside0.mk (blk_below (g := gb101) (o := .cells #[.string a0_0, .string a0_1] 24 (0, 0)) (by (with_reducible repeat (first | refine blk_drewN ?_ _ | refine blk_drew ?_ | refine blk_alloc ?_ _)); exact BK101.out) hb); have n2_ := Aside0.mk (below_step (by repeat (first | (with_reducible first | exact HB.out | apply below_alloc | apply pw_below_drewN | apply below_drew1 | refine below_set ?_ GE101.out) | exact HB.out)) hb); have n3_ := Aside0.mk (hbox); have n4_ := Aside0.mk ((by rw [hg]; exact (below_size (by repeat (first | (with_reducible first | exact HB.out | apply below_alloc | apply pw_below_drewN | apply below_drew1 | refine below_set ?_ GE101.out) | exact HB.out))) : w.heap.size ≤ gb116)); have n5_ := Aside0.mk ((by rw [hg]; exact (below_size (by repeat (first | (with_reducible first | exact HB.out | apply below_alloc | apply pw_below_drewN | apply below_drew1 | refine below_set ?_ GE101.out) | exact HB.out))) : w.heap.size ≤ gb116)); have n6_ := Aside0.mk ((by rw [hg]; exact Nat.ne_of_lt (blk_lt (g := gb101) (o := .cells #[.string a0_0, .string a0_1] 24 (0, 0)) (by (with_reducible repeat (first | refine blk_drewN ?_ _ | refine blk_drew ?_ | refine blk_alloc ?_ _)); exact BK101.out)) : gb101 ≠ gb116)); have n7_ := Aside0.mk ((by rw [hg]; exact Nat.ne_of_gt (blk_lt (g := gb101) (o := .cells #[.string a0_0, .string a0_1] 24 (0, 0)) (by (with_reducible repeat (first | refine blk_drewN ?_ _ | refine blk_drew ?_ | refine blk_alloc ?_ _)); exact BK101.out)) : gb116 ≠ gb101)); clear HO_9; clear BK101; clear HB; have HO_9 := n0_; have BK101 := n1_; have HB := n2_; have BK116 := n3_; have GW116 := n4_; have GE116 := n5_; have NB101_116 := n6_; have NB116_101 := n7_; clear n0_ n1_ n2_ n3_ n4_ n5_ n6_ n7_; clear hb hbox hg; have hnb57 := NB116_101.out; have hnc57 := NB101_116.out; have hcz58_0 : w56.cell? ⟨gb116, 0, none⟩ = some (.string (⟨#[]⟩ : ByteArray)) := (blk_cell BK116.out 0).trans rfl; have hcz58_1 : w56.cell? ⟨gb116, 1, none⟩ = some (.string (⟨#[]⟩ : ByteArray)) := (blk_cell BK116.out 1).trans rfl; have hfz58_0 := blk_frozen BK116.out 0; have hfz58_1 := blk_frozen BK116.out 1) | ((with_reducible refine gate_callee (f := 34) rfl ?_); refine goesL_ (some 87) rfl rfl Tryz.func34 (by kernel_rfl) rfl #[.int .i64 t106, .int .i64 t107] rfl (by (try simp only [List.map_toArray, List.map_cons, List.map_nil]); try rfl) ?_; (with_reducible refine (schismaref04_Path.calls k2 t106 t107 t117 _ A42.out).mono ?_); rintro e w59 ⟨rfl, hb⟩; refine ⟨_, rfl, ?_⟩; have n0_ := Aside0.mk (Kd.R_below (by (with_reducible repeat (first | apply Kd.R_alloc | apply Kd.R_drewN | apply Kd.R_drew)); exact (Kd.R_mono (Kd.R_far (p := ⟨gb116, 1, none⟩) (Kd.R_far (p := ⟨gb116, 0, none⟩) (Kd.R_types HO_9.out BK116.out (by decide)) (fun _ hk => hk.2) (.string t113)) (fun _ hk => hk.2) (.string t114)) (fun _ h_ => h_.1))) hb); have n1_ := Aside0.mk (blk_below (g := gb101) (o := .cells #[.string a0_0, .string a0_1] 24 (0, 0)) (by (with_reducible repeat (first | refine blk_drewN ?_ _ | refine blk_drew ?_ | refine blk_alloc ?_ _)); refine blk_far ?_ NB101_116.out _; (with_reducible repeat (first | refine blk_drewN ?_ _ | refine blk_drew ?_ | refine blk_alloc ?_ _)); refine blk_far ?_ NB101_116.out _; (with_reducible repeat (first | refine blk_drewN ?_ _ | refine blk_drew ?_ | refine blk_alloc ?_ _)); exact BK101.out) hb); have n2_ := Aside0.mk (blk_below (g := gb116) (o := .cells #[.string t113, .string t114] 24 (0, 0)) (by (with_reducible repeat (first | refine blk_drewN ?_ _ | refine blk_drew ?_ | refine blk_alloc ?_ _)); refine blk_put (cs := #[.string t113, .string (⟨#[]⟩ : ByteArray)]) ?_ 1 _ rfl; (with_reducible repeat (first | refine blk_drewN ?_ _ | refine blk_drew ?_ | refine blk_alloc ?_ _)); refine blk_put (cs := #[.string (⟨#[]⟩ : ByteArray), .string (⟨#[]⟩ : ByteArray)]) ?_ 0 _ rfl; (with_reducible repeat (first | refine blk_drewN ?_ _ | refine blk_drew ?_ | refine blk_alloc ?_ _)); exact BK116.out) hb); have n3_ := Aside0.mk (below_step (by repeat (first | (with_reducible first | exact HB.out | apply below_alloc | apply pw_below_drewN | apply below_drew1 | refine below_set ?_ GE101.out | refine below_set ?_ GE116.out) | exact HB.out)) hb); clear HO_9; clear BK101; clear BK116; clear HB; have HO_9 := n0_; have BK101 := n1_; have BK116 := n2_; have HB := n3_; clear n0_ n1_ n2_ n3_; (try clear hb); (try clear hb2); (try clear hk); (try clear hi); have hcz60_0 : w59.cell? ⟨gb116, 0, none⟩ = some (.string t113) := (blk_cell BK116.out 0).trans rfl; have hcz60_1 : w59.cell? ⟨gb116, 1, none⟩ = some (.string t114) := (blk_cell BK116.out 1).trans rfl; have hfz60_0 := blk_frozen BK116.out 0; have hfz60_1 := blk_frozen BK116.out 1; have hcz61_0 : w59.cell? ⟨gb101, 0, none⟩ = some (.string a0_0) := (blk_cell BK101.out 0).trans rfl; have hcz61_1 : w59.cell? ⟨gb101, 1, none⟩ = some (.string a0_1) := (blk_cell BK101.out 1).trans rfl; have hfz61_0 := blk_frozen BK101.out 0; have hfz61_1 := blk_frozen BK101.out 1))
             go_ret
             exact ⟨by first | rfl | (simp [*, errW_none, errW_some] <;> rfl), by repeat (first | (with_reducible first | exact HB.out | apply below_alloc | apply pw_below_drewN | apply below_drew1 | refine below_set ?_ GE101.out | refine below_set ?_ GE116.out) | exact HB.out)⟩
           ·rw [if_neg c44] at H
            have c44b0 : (t105 == 0) = false := beq_eq_false_iff_ne.mpr c44
            have c44b1 : (t105 != 0) = true := bne_iff_ne.mpr c44
            obtain rfl := Option.some.inj H
            obtain ⟨Ao62, co62, eo62⟩ := Kd.R_slice HO_9.out
            subst eo62
            go_wp2_with (first | ((with_reducible refine gate_callee (f := 33) rfl ?_); refine goesL_ (some 81) rfl rfl Tryz.func33 (by kernel_rfl) rfl #[.string t104] rfl (by (try simp only [List.map_toArray, List.map_cons, List.map_nil]); try rfl) ?_; (with_reducible refine (convergent_At.calls k2 t104 t113 t114 t115 _ ?side1 A41.out).mono ?_); (case side1 => exact GWorld.below HG.out (by repeat (first | (with_reducible first | exact HB.out | apply below_alloc | apply pw_below_drewN | apply below_drew1 | refine below_set ?_ GE101.out) | exact HB.out))); rintro e w63 ⟨rfl, hb⟩; refine ⟨_, rfl, ?_⟩; have n0_ := Aside0.mk (Kd.R_below (by (with_reducible repeat (first | apply Kd.R_alloc | apply Kd.R_drewN | apply Kd.R_drew)); exact HO_9.out) hb); have n1_ := Aside0.mk (blk_below (g := gb101) (o := .cells #[.string a0_0, .string a0_1] 24 (0, 0)) (by (with_reducible repeat (first | refine blk_drewN ?_ _ | refine blk_drew ?_ | refine blk_alloc ?_ _)); exact BK101.out) hb); have n2_ := Aside0.mk (below_step (by repeat (first | (with_reducible first | exact HB.out | apply below_alloc | apply pw_below_drewN | apply below_drew1 | refine below_set ?_ GE101.out) | exact HB.out)) hb); clear HO_9; clear BK101; clear HB; have HO_9 := n0_; have BK101 := n1_; have HB := n2_; clear n0_ n1_ n2_; (try clear hb); (try clear hb2); (try clear hk); (try clear hi)) | ((with_reducible refine gate_dst (N := 11) rfl ?_); (try (refine gate_guard (by rfl) ?_; dsimp only)); refine box_event ?hg (N := 11) ?hd (cs := #[.string (⟨#[]⟩ : ByteArray), .string (⟨#[]⟩ : ByteArray)]) (t := 24) ?hr ?_; (case hd => rfl); (case hg => rfl); (case hr => first | (go_simp; done) | (go_simp; rfl)); intro gb116 hg w64 hbox hb; have n0_ := Aside0.mk (Kd.R_below (by (with_reducible repeat (first | apply Kd.R_alloc | apply Kd.R_drewN | apply Kd.R_drew)); exact HO_9.out) hb); have n1_ := Aside0.mk (blk_below (g := gb101) (o := .cells #[.string a0_0, .string a0_1] 24 (0, 0)) (by (with_reducible repeat (first | refine blk_drewN ?_ _ | refine blk_drew ?_ | refine blk_alloc ?_ _)); exact BK101.out) hb); have n2_ := Aside0.mk (below_step (by repeat (first | (with_reducible first | exact HB.out | apply below_alloc | apply pw_below_drewN | apply below_drew1 | refine below_set ?_ GE101.out) | exact HB.out)) hb); have n3_ := Aside0.mk (hbox); have n4_ := Aside0.mk ((by rw [hg]; exact (below_size (by repeat (first | (with_reducible first | exact HB.out | apply below_alloc | apply pw_below_drewN | apply below_drew1 | refine below_set ?_ GE101.out) | exact HB.out))) : w.heap.size ≤ gb116)); have n5_ := Aside0.mk ((by rw [hg]; exact (below_size (by repeat (first | (with_reducible first | exact HB.out | apply below_alloc | apply pw_below_drewN | apply below_drew1 | refine below_set ?_ GE101.out) | exact HB.out))) : w.heap.size ≤ gb116)); have n6_ := Aside0.mk ((by rw [hg]; exact Nat.ne_of_lt (blk_lt (g := gb101) (o := .cells #[.string a0_0, .string a0_1] 24 (0, 0)) (by (with_reducible repeat (first | refine blk_drewN ?_ _ | refine blk_drew ?_ | refine blk_alloc ?_ _)); exact BK101.out)) : gb101 ≠ gb116)); have n7_ := Aside0.mk ((by rw [hg]; exact Nat.ne_of_gt (blk_lt (g := gb101) (o := .cells #[.string a0_0, .string a0_1] 24 (0, 0)) (by (with_reducible repeat (first | refine blk_drewN ?_ _ | refine blk_drew ?_ | refine blk_alloc ?_ _)); exact BK101.out)) : gb116 ≠ gb101)); clear HO_9; clear BK101; clear HB; have HO_9 := n0_; have BK101 := n1_; have HB := n2_; have BK116 := n3_; have GW116 := n4_; have GE116 := n5_; have NB101_116 := n6_; have NB116_101 := n7_; clear n0_ n1_ n2_ n3_ n4_ n5_ n6_ n7_; clear hb hbox hg; have hnb65 := NB116_101.out; have hnc65 := NB101_116.out; have hcz66_0 : w64.cell? ⟨gb116, 0, none⟩ = some (.string (⟨#[]⟩ : ByteArray)) := (blk_cell BK116.out 0).trans rfl; have hcz66_1 : w64.cell? ⟨gb116, 1, none⟩ = some (.string (⟨#[]⟩ : ByteArray)) := (blk_cell BK116.out 1).trans rfl; have hfz66_0 := blk_frozen BK116.out 0; have hfz66_1 := blk_frozen BK116.out 1) | ((with_reducible refine gate_callee (f := 34) rfl ?_); refine goesL_ (some 87) rfl rfl Tryz.func34 (by kernel_rfl) rfl #[.int .i64 t106, .int .i64 t107] rfl (by (try simp only [List.map_toArray, List.map_cons, List.map_nil]); try rfl) ?_; (with_reducible refine (schismaref04_Path.calls k2 t106 t107 t117 _ A42.out).mono ?_); rintro e w67 ⟨rfl, hb⟩; refine ⟨_, rfl, ?_⟩; have n0_ := Aside0.mk (Kd.R_below (by (with_reducible repeat (first | apply Kd.R_alloc | apply Kd.R_drewN | apply Kd.R_drew)); exact (Kd.R_mono (Kd.R_far (p := ⟨gb116, 1, none⟩) (Kd.R_far (p := ⟨gb116, 0, none⟩) (Kd.R_types HO_9.out BK116.out (by decide)) (fun _ hk => hk.2) (.string t113)) (fun _ hk => hk.2) (.string t114)) (fun _ h_ => h_.1))) hb); have n1_ := Aside0.mk (blk_below (g := gb101) (o := .cells #[.string a0_0, .string a0_1] 24 (0, 0)) (by (with_reducible repeat (first | refine blk_drewN ?_ _ | refine blk_drew ?_ | refine blk_alloc ?_ _)); refine blk_far ?_ NB101_116.out _; (with_reducible repeat (first | refine blk_drewN ?_ _ | refine blk_drew ?_ | refine blk_alloc ?_ _)); refine blk_far ?_ NB101_116.out _; (with_reducible repeat (first | refine blk_drewN ?_ _ | refine blk_drew ?_ | refine blk_alloc ?_ _)); exact BK101.out) hb); have n2_ := Aside0.mk (blk_below (g := gb116) (o := .cells #[.string t113, .string t114] 24 (0, 0)) (by (with_reducible repeat (first | refine blk_drewN ?_ _ | refine blk_drew ?_ | refine blk_alloc ?_ _)); refine blk_put (cs := #[.string t113, .string (⟨#[]⟩ : ByteArray)]) ?_ 1 _ rfl; (with_reducible repeat (first | refine blk_drewN ?_ _ | refine blk_drew ?_ | refine blk_alloc ?_ _)); refine blk_put (cs := #[.string (⟨#[]⟩ : ByteArray), .string (⟨#[]⟩ : ByteArray)]) ?_ 0 _ rfl; (with_reducible repeat (first | refine blk_drewN ?_ _ | refine blk_drew ?_ | refine blk_alloc ?_ _)); exact BK116.out) hb); have n3_ := Aside0.mk (below_step (by repeat (first | (with_reducible first | exact HB.out | apply below_alloc | apply pw_below_drewN | apply below_drew1 | refine below_set ?_ GE101.out | refine below_set ?_ GE116.out) | exact HB.out)) hb); clear HO_9; clear BK101; clear BK116; clear HB; have HO_9 := n0_; have BK101 := n1_; have BK116 := n2_; have HB := n3_; clear n0_ n1_ n2_ n3_; (try clear hb); (try clear hb2); (try clear hk); (try clear hi)))
            go_ret
            exact ⟨by first | rfl | (simp [*, errW_none, errW_some] <;> rfl), by repeat (first | (with_reducible first | exact HB.out | apply below_alloc | apply pw_below_drewN | apply below_drew1 | refine below_set ?_ GE101.out | refine below_set ?_ GE116.out) | exact HB.out)⟩
          ·rw [if_neg c43] at H
           have c43b0 : (t104.toList == t117.toList) = false := beq_eq_false_iff_ne.mpr c43
           have c43b1 : (t104.toList != t117.toList) = true := bne_iff_ne.mpr c43
           obtain rfl := Option.some.inj H
           obtain ⟨Ao68, co68, eo68⟩ := Kd.R_slice HO_9.out
           subst eo68
           go_wp2_with (first | ((with_reducible refine gate_callee (f := 33) rfl ?_); refine goesL_ (some 81) rfl rfl Tryz.func33 (by kernel_rfl) rfl #[.string t104] rfl (by (try simp only [List.map_toArray, List.map_cons, List.map_nil]); try rfl) ?_; (with_reducible refine (convergent_At.calls k2 t104 t113 t114 t115 _ ?side1 A41.out).mono ?_); (case side1 => exact GWorld.below HG.out (by repeat (first | (with_reducible first | exact HB.out | apply below_alloc | apply pw_below_drewN | apply below_drew1 | refine below_set ?_ GE101.out) | exact HB.out))); rintro e w69 ⟨rfl, hb⟩; refine ⟨_, rfl, ?_⟩; have n0_ := Aside0.mk (Kd.R_below (by (with_reducible repeat (first | apply Kd.R_alloc | apply Kd.R_drewN | apply Kd.R_drew)); exact HO_9.out) hb); have n1_ := Aside0.mk (blk_below (g := gb101) (o := .cells #[.string a0_0, .string a0_1] 24 (0, 0)) (by (with_reducible repeat (first | refine blk_drewN ?_ _ | refine blk_drew ?_ | refine blk_alloc ?_ _)); exact BK101.out) hb); have n2_ := Aside0.mk (below_step (by repeat (first | (with_reducible first | exact HB.out | apply below_alloc | apply pw_below_drewN | apply below_drew1 | refine below_set ?_ GE101.out) | exact HB.out)) hb); clear HO_9; clear BK101; clear HB; have HO_9 := n0_; have BK101 := n1_; have HB := n2_; clear n0_ n1_ n2_; (try clear hb); (try clear hb2); (try clear hk); (try clear hi)) | ((with_reducible refine gate_dst (N := 11) rfl ?_); (try (refine gate_guard (by rfl) ?_; dsimp only)); refine box_event ?hg (N := 11) ?hd (cs := #[.string (⟨#[]⟩ : ByteArray), .string (⟨#[]⟩ : ByteArray)]) (t := 24) ?hr ?_; (case hd => rfl); (case hg => rfl); (case hr => first | (go_simp; done) | (go_simp; rfl)); intro gb116 hg w70 hbox hb; have n0_ := Aside0.mk (Kd.R_below (by (with_reducible repeat (first | apply Kd.R_alloc | apply Kd.R_drewN | apply Kd.R_drew)); exact HO_9.out) hb); have n1_ := Aside0.mk (blk_below (g := gb101) (o := .cells #[.string a0_0, .string a0_1] 24 (0, 0)) (by (with_reducible repeat (first | refine blk_drewN ?_ _ | refine blk_drew ?_ | refine blk_alloc ?_ _)); exact BK101.out) hb); have n2_ := Aside0.mk (below_step (by repeat (first | (with_reducible first | exact HB.out | apply below_alloc | apply pw_below_drewN | apply below_drew1 | refine below_set ?_ GE101.out) | exact HB.out)) hb); have n3_ := Aside0.mk (hbox); have n4_ := Aside0.mk ((by rw [hg]; exact (below_size (by repeat (first | (with_reducible first | exact HB.out | apply below_alloc | apply pw_below_drewN | apply below_drew1 | refine below_set ?_ GE101.out) | exact HB.out))) : w.heap.size ≤ gb116)); have n5_ := Aside0.mk ((by rw [hg]; exact (below_size (by repeat (first | (with_reducible first | exact HB.out | apply below_alloc | apply pw_below_drewN | apply below_drew1 | refine below_set ?_ GE101.out) | exact HB.out))) : w.heap.size ≤ gb116)); have n6_ := Aside0.mk ((by rw [hg]; exact Nat.ne_of_lt (blk_lt (g := gb101) (o := .cells #[.string a0_0, .string a0_1] 24 (0, 0)) (by (with_reducible repeat (first | refine blk_drewN ?_ _ | refine blk_drew ?_ | refine blk_alloc ?_ _)); exact BK101.out)) : gb101 ≠ gb116)); have n7_ := Aside0.mk ((by rw [hg]; exact Nat.ne_of_gt (blk_lt (g := gb101) (o := .cells #[.string a0_0, .string a0_1] 24 (0, 0)) (by (with_reducible repeat (first | refine blk_drewN ?_ _ | refine blk_drew ?_ | refine blk_alloc ?_ _)); exact BK101.out)) : gb116 ≠ gb101)); clear HO_9; clear BK101; clear HB; have HO_9 := n0_; have BK101 := n1_; have HB := n2_; have BK116 := n3_; have GW116 := n4_; have GE116 := n5_; have NB101_116 := n6_; have NB116_101 := n7_; clear n0_ n1_ n2_ n3_ n4_ n5_ n6_ n7_; clear hb hbox hg; have hnb71 := NB116_101.out; have hnc71 := NB101_116.out; have hcz72_0 : w70.cell? ⟨gb116, 0, none⟩ = some (.string (⟨#[]⟩ : ByteArray)) := (blk_cell BK116.out 0).trans rfl; have hcz72_1 : w70.cell? ⟨gb116, 1, none⟩ = some (.string (⟨#[]⟩ : ByteArray)) := (blk_cell BK116.out 1).trans rfl; have hfz72_0 := blk_frozen BK116.out 0; have hfz72_1 := blk_frozen BK116.out 1) | ((with_reducible refine gate_callee (f := 34) rfl ?_); refine goesL_ (some 87) rfl rfl Tryz.func34 (by kernel_rfl) rfl #[.int .i64 t106, .int .i64 t107] rfl (by (try simp only [List.map_toArray, List.map_cons, List.map_nil]); try rfl) ?_; (with_reducible refine (schismaref04_Path.calls k2 t106 t107 t117 _ A42.out).mono ?_); rintro e w73 ⟨rfl, hb⟩; refine ⟨_, rfl, ?_⟩; have n0_ := Aside0.mk (Kd.R_below (by (with_reducible repeat (first | apply Kd.R_alloc | apply Kd.R_drewN | apply Kd.R_drew)); exact (Kd.R_mono (Kd.R_far (p := ⟨gb116, 1, none⟩) (Kd.R_far (p := ⟨gb116, 0, none⟩) (Kd.R_types HO_9.out BK116.out (by decide)) (fun _ hk => hk.2) (.string t113)) (fun _ hk => hk.2) (.string t114)) (fun _ h_ => h_.1))) hb); have n1_ := Aside0.mk (blk_below (g := gb101) (o := .cells #[.string a0_0, .string a0_1] 24 (0, 0)) (by (with_reducible repeat (first | refine blk_drewN ?_ _ | refine blk_drew ?_ | refine blk_alloc ?_ _)); refine blk_far ?_ NB101_116.out _; (with_reducible repeat (first | refine blk_drewN ?_ _ | refine blk_drew ?_ | refine blk_alloc ?_ _)); refine blk_far ?_ NB101_116.out _; (with_reducible repeat (first | refine blk_drewN ?_ _ | refine blk_drew ?_ | refine blk_alloc ?_ _)); exact BK101.out) hb); have n2_ := Aside0.mk (blk_below (g := gb116) (o := .cells #[.string t113, .string t114] 24 (0, 0)) (by (with_reducible repeat (first | refine blk_drewN ?_ _ | refine blk_drew ?_ | refine blk_alloc ?_ _)); refine blk_put (cs := #[.string t113, .string (⟨#[]⟩ : ByteArray)]) ?_ 1 _ rfl; (with_reducible repeat (first | refine blk_drewN ?_ _ | refine blk_drew ?_ | refine blk_alloc ?_ _)); refine blk_put (cs := #[.string (⟨#[]⟩ : ByteArray), .string (⟨#[]⟩ : ByteArray)]) ?_ 0 _ rfl; (with_reducible repeat (first | refine blk_drewN ?_ _ | refine blk_drew ?_ | refine blk_alloc ?_ _)); exact BK116.out) hb); have n3_ := Aside0.mk (below_step (by repeat (first | (with_reducible first | exact HB.out | apply below_alloc | apply pw_below_drewN | apply below_drew1 | refine below_set ?_ GE101.out | refine below_set ?_ GE116.out) | exact HB.out)) hb); clear HO_9; clear BK101; clear BK116; clear HB; have HO_9 := n0_; have BK101 := n1_; have BK116 := n2_; have HB := n3_; clear n0_ n1_ n2_ n3_; (try clear hb); (try clear hb2); (try clear hk); (try clear hi)))
           go_ret
           exact ⟨by first | rfl | (simp [*, errW_none, errW_some] <;> rfl), by repeat (first | (with_reducible first | exact HB.out | apply below_alloc | apply pw_below_drewN | apply below_drew1 | refine below_set ?_ GE101.out | refine below_set ?_ GE116.out) | exact HB.out)⟩
    ·replace c17 := Bool.eq_false_iff.mpr c17
     subst c17
     have H1 : (if t104.toList = ([] : List UInt8) then (some (t105 == 2)) else (some false)) = some r := by rw [if_neg (show ¬ (false = true) by decide)] at H; exact H
     clear H
     have H := H1
     clear H1
     by_cases c74 : t104.toList = ([] : List UInt8)
     ·rw [if_pos c74] at H
      have c74b0 : (t104.toList == ([] : List UInt8)) = true := beq_iff_eq.mpr c74
      have c74b1 : (t104.toList != ([] : List UInt8)) = false := bne_eq_false_iff_eq.mpr c74
      clear c74
      obtain rfl := Option.some.inj H
      have hcz75_0 : wc.cell? ⟨gb101, 0, none⟩ = some (.string a0_0) := (blk_cell BK101.out 0).trans rfl
      have hcz75_1 : wc.cell? ⟨gb101, 1, none⟩ = some (.string a0_1) := (blk_cell BK101.out 1).trans rfl
      have hfz75_0 := blk_frozen BK101.out 0
      have hfz75_1 := blk_frozen BK101.out 1
      go_wp2_with (first | ((with_reducible refine gate_callee (f := 32) rfl ?_); refine goesL_ (some 30) rfl rfl Tryz.func32 (by kernel_rfl) rfl #[.agg #[.string a0_0, .string a0_1]] rfl (by (try simp only [List.map_toArray, List.map_cons, List.map_nil]); try rfl) ?_; (with_reducible refine (convergent_Path.calls kj1 a0_0 a0_1 t104 t105 _ ?side1 A15.out).mono ?_); (case side1 => exact GWorld.below HG.out (by repeat (first | (with_reducible first | exact HB.out | apply below_alloc | apply pw_below_drewN | apply below_drew1 | refine below_set ?_ GE101.out) | exact HB.out))); rintro e w76 ⟨rfl, hb⟩; refine ⟨_, rfl, ?_⟩; have n0_ := Aside0.mk (blk_below (g := gb101) (o := .cells #[.string a0_0, .string a0_1] 24 (0, 0)) (by (with_reducible repeat (first | refine blk_drewN ?_ _ | refine blk_drew ?_ | refine blk_alloc ?_ _)); exact BK101.out) hb); have n1_ := Aside0.mk (below_step (by repeat (first | (with_reducible first | exact HB.out | apply below_alloc | apply pw_below_drewN | apply below_drew1 | refine below_set ?_ GE101.out) | exact HB.out)) hb); clear BK101; clear HB; have BK101 := n0_; have HB := n1_; clear n0_ n1_; (try clear hb); (try clear hb2); (try clear hk); (try clear hi); have hcz77_0 : w76.cell? ⟨gb101, 0, none⟩ = some (.string a0_0) := (blk_cell BK101.out 0).trans rfl; have hcz77_1 : w76.cell? ⟨gb101, 1, none⟩ = some (.string a0_1) := (blk_cell BK101.out 1).trans rfl; have hfz77_0 := blk_frozen BK101.out 0; have hfz77_1 := blk_frozen BK101.out 1) | ((with_reducible refine gate_callee (f := 15) rfl ?_); refine goesL_ (some 35) rfl rfl Tryz.func15 (by kernel_rfl) rfl #[.agg #[.string a0_0, .string a0_1]] rfl (by (try simp only [List.map_toArray, List.map_cons, List.map_nil]); try rfl) ?_; (with_reducible refine (schismaref04_Parts.calls kj1 a0_0 a0_1 t106 t107 false _ A16.out).mono ?_); rintro e w78 ⟨rfl, hb⟩; refine ⟨_, rfl, ?_⟩; have n0_ := Aside0.mk (blk_below (g := gb101) (o := .cells #[.string a0_0, .string a0_1] 24 (0, 0)) (by (with_reducible repeat (first | refine blk_drewN ?_ _ | refine blk_drew ?_ | refine blk_alloc ?_ _)); exact BK101.out) hb); have n1_ := Aside0.mk (below_step (by repeat (first | (with_reducible first | exact HB.out | apply below_alloc | apply pw_below_drewN | apply below_drew1 | refine below_set ?_ GE101.out) | exact HB.out)) hb); clear BK101; clear HB; have BK101 := n0_; have HB := n1_; clear n0_ n1_; (try clear hb); (try clear hb2); (try clear hk); (try clear hi)))
      go_ret
      exact ⟨by first | rfl | (simp [*, errW_none, errW_some] <;> rfl), by repeat (first | (with_reducible first | exact HB.out | apply below_alloc | apply pw_below_drewN | apply below_drew1 | refine below_set ?_ GE101.out) | exact HB.out)⟩
     ·rw [if_neg c74] at H
      have c74b0 : (t104.toList == ([] : List UInt8)) = false := beq_eq_false_iff_ne.mpr c74
      have c74b1 : (t104.toList != ([] : List UInt8)) = true := bne_iff_ne.mpr c74
      obtain rfl := Option.some.inj H
      have hcz79_0 : wc.cell? ⟨gb101, 0, none⟩ = some (.string a0_0) := (blk_cell BK101.out 0).trans rfl
      have hcz79_1 : wc.cell? ⟨gb101, 1, none⟩ = some (.string a0_1) := (blk_cell BK101.out 1).trans rfl
      have hfz79_0 := blk_frozen BK101.out 0
      have hfz79_1 := blk_frozen BK101.out 1
      go_wp2_with (first | ((with_reducible refine gate_callee (f := 32) rfl ?_); refine goesL_ (some 30) rfl rfl Tryz.func32 (by kernel_rfl) rfl #[.agg #[.string a0_0, .string a0_1]] rfl (by (try simp only [List.map_toArray, List.map_cons, List.map_nil]); try rfl) ?_; (with_reducible refine (convergent_Path.calls kj1 a0_0 a0_1 t104 t105 _ ?side1 A15.out).mono ?_); (case side1 => exact GWorld.below HG.out (by repeat (first | (with_reducible first | exact HB.out | apply below_alloc | apply pw_below_drewN | apply below_drew1 | refine below_set ?_ GE101.out) | exact HB.out))); rintro e w80 ⟨rfl, hb⟩; refine ⟨_, rfl, ?_⟩; have n0_ := Aside0.mk (blk_below (g := gb101) (o := .cells #[.string a0_0, .string a0_1] 24 (0, 0)) (by (with_reducible repeat (first | refine blk_drewN ?_ _ | refine blk_drew ?_ | refine blk_alloc ?_ _)); exact BK101.out) hb); have n1_ := Aside0.mk (below_step (by repeat (first | (with_reducible first | exact HB.out | apply below_alloc | apply pw_below_drewN | apply below_drew1 | refine below_set ?_ GE101.out) | exact HB.out)) hb); clear BK101; clear HB; have BK101 := n0_; have HB := n1_; clear n0_ n1_; (try clear hb); (try clear hb2); (try clear hk); (try clear hi); have hcz81_0 : w80.cell? ⟨gb101, 0, none⟩ = some (.string a0_0) := (blk_cell BK101.out 0).trans rfl; have hcz81_1 : w80.cell? ⟨gb101, 1, none⟩ = some (.string a0_1) := (blk_cell BK101.out 1).trans rfl; have hfz81_0 := blk_frozen BK101.out 0; have hfz81_1 := blk_frozen BK101.out 1) | ((with_reducible refine gate_callee (f := 15) rfl ?_); refine goesL_ (some 35) rfl rfl Tryz.func15 (by kernel_rfl) rfl #[.agg #[.string a0_0, .string a0_1]] rfl (by (try simp only [List.map_toArray, List.map_cons, List.map_nil]); try rfl) ?_; (with_reducible refine (schismaref04_Parts.calls kj1 a0_0 a0_1 t106 t107 false _ A16.out).mono ?_); rintro e w82 ⟨rfl, hb⟩; refine ⟨_, rfl, ?_⟩; have n0_ := Aside0.mk (blk_below (g := gb101) (o := .cells #[.string a0_0, .string a0_1] 24 (0, 0)) (by (with_reducible repeat (first | refine blk_drewN ?_ _ | refine blk_drew ?_ | refine blk_alloc ?_ _)); exact BK101.out) hb); have n1_ := Aside0.mk (below_step (by repeat (first | (with_reducible first | exact HB.out | apply below_alloc | apply pw_below_drewN | apply below_drew1 | refine below_set ?_ GE101.out) | exact HB.out)) hb); clear BK101; clear HB; have BK101 := n0_; have HB := n1_; clear n0_ n1_; (try clear hb); (try clear hb2); (try clear hk); (try clear hi)))
      go_ret
      exact ⟨by first | rfl | (simp [*, errW_none, errW_some] <;> rfl), by repeat (first | (with_reducible first | exact HB.out | apply below_alloc | apply pw_below_drewN | apply below_drew1 | refine below_set ?_ GE101.out) | exact HB.out)⟩
end Go.Proofs.YtidajgkepdkcbaaGreatDoor.PL
end
section
namespace Go.Proofs.YtidajgkepdkcbaaGreatDoor
open Go.RowKit Go.Lib Go.Proofs.YtidajgkepdkcbaaGreatDoorW.PrintWords Go.Proofs.YtidajgkepdkcbaaGreatDoorW.PrintLast Go.Proofs.YtidajgkepdkcbaaGreatDoorW.PrintMore PF PL
theorem cf_terms : ∀ {l : List Int} {n d : Int}, isCf l n d → 0 < d → 0 < n → (∀ a ∈ l, 0 ≤ a) ∧ (∀ a, l.getLast? = some a → 1 ≤ a) ∧ sumI l ≤ n + d
 | [], _, _, h, _, _ => h.elim
 | a :: l, n, d, ⟨ha, hl⟩, hd, hn => by
  have e0 := Int.mul_ediv_add_emod n d
  have r0 := Int.emod_nonneg n (b := d) (by omega)
  have ha0 : 0 ≤ a := by rw [ha]; exact Int.ediv_nonneg (by omega) (by omega)
  have ham : a ≤ d * a := by
   have := Int.mul_le_mul_of_nonneg_right (show 1 ≤ d by omega) ha0
   omega
  rw [← ha] at e0
  rcases hl with ⟨hr, rfl⟩ | ⟨hr, hl⟩
  ·have ha1 : 1 ≤ a := by
    apply Int.not_lt.1; intro h
    have : a = 0 := by omega
    subst this
    omega
   refine ⟨fun x hx => ?_, fun x hx => ?_, ?_⟩
   ·simp at hx; omega
   ·simp at hx; omega
   ·simp [sumI]; omega
  ·obtain ⟨h1, h2, h3⟩ := cf_terms hl (by omega) (by omega)
   have hs : sumI (a :: l) = a + sumI l := rfl
   refine ⟨fun x hx => ?_, fun x hx => ?_, by omega⟩
   ·rcases List.mem_cons.1 hx with rfl | hx
    ·exact ha0
    ·exact h1 x hx
   ·refine h2 x ?_
    rw [← hx]
    cases l with
    | nil => exact absurd rfl hl.ne_nil
    | cons b l => rw [List.getLast?_cons_cons]
theorem sumI_append (x : Int) : ∀ l : List Int, sumI (l ++ [x]) = sumI l + x
 | [] => by simp [sumI]
 | a :: l => by
  have := sumI_append x l
  simp only [sumI, List.cons_append, List.foldr_cons] at *
  omega
theorem sumI_take {l : List Int} (h : ∀ a ∈ l, 0 ≤ a) : ∀ j, sumI (l.take j) ≤ sumI l := by
 induction l with
 | nil => intro j; simp
 | cons a l ih =>
  intro j
  cases j with
  | zero => exact (by simpa using sumI_nonneg h : (0 : Int) ≤ _)
  | succ j =>
   have := ih (fun x hx => h x (by simp [hx])) j
   simp only [sumI, List.take_succ_cons, List.foldr_cons] at *
   omega
theorem pp_true (a b : ByteArray) : Ev (fun k => schismalaw04_ConvergentPaths.j0 k true a b) true := by
 refine Ev.step (fun k => by rw [schismalaw04_ConvergentPaths.j0, if_pos rfl]) ?_
 exact Ev.bind Known (ev_const fun _ => rfl)
theorem pp_sum (p : ByteArray) (e n d : Int) (ts : List Int) (a b : ByteArray) (h : ∀ x ∈ ts, 0 ≤ x) (hs : sumI ts ≤ 1000000000000) (hl : ts.length ≤ 1000)
  (hE : Ev (fun k => schismalaw04_ConvergentPaths.l0 k p e n d (sumI ts) ts (ts.length : Int) a b) true) : ∀ m j : Nat, ts.length = j + m →
  Ev (fun k => schismalaw04_ConvergentPaths.l0 k p e n d (sumI (ts.take j)) ts (j : Int) a b) true
 | 0, j, hj => by
  have : j = ts.length := by omega
  subst this
  rw [List.take_length]
  exact hE
 | m + 1, j, hj => by
  have hlt : j < ts.length := by omega
  have e1 : rd ts (j : Int) = ts[j] := by unfold rd; simp [hlt]
  have e2 : sumI (ts.take (j + 1)) = sumI (ts.take j) + ts[j] := by rw [List.take_succ_eq_append_getElem hlt, sumI_append]
  have h1 := sumI_nonneg (l := ts.take (j + 1)) (fun x hx => h x (List.mem_of_mem_take hx))
  have h2 := sumI_take h (j + 1)
  refine Ev.step (fun k => by rw [schismalaw04_ConvergentPaths.l0, if_pos (by omega), if_pos (by omega), e1, w64 (x := (j : Int) + 1) (by omega) (by omega), w64 (x := sumI (ts.take j) + ts[j]) (by omega) (by omega), ← e2]) ?_
  exact pp_sum p e n d ts a b h hs hl hE m (j + 1) (by omega)
theorem pp_false (a b : ByteArray) (ha : a.size ≤ 9) (hb : b.size ≤ 9) : Ev (fun k => schismalaw04_ConvergentPaths.j0 k false a b) true := by
 refine Ev.step (fun k => by rw [schismalaw04_ConvergentPaths.j0, if_neg (by simp)]) ?_
 rcases said a b with ⟨n, d, rfl, rfl, hF⟩ | h
 ·have hn := lt_of_T_size (i := n) (k := 8) (by omega)
  have hd := lt_of_T_size (i := d) (k := 8) (by omega)
  have h0 := hF.1
  by_cases hp : n ≤ 0
  ·have hP : Ev (fun k => convergent_Path.f k (T n) (T d)) (⟨#[]⟩, 3) := by
    unfold convergent_Path.f
    refine Ev.bind (Wrong_no (by unfold S17; omega) (by unfold S17; omega) hF) (Ev.congr (fun k => if_neg (by simp)) ?_)
    refine Ev.bind (ev_const (r := sg n) fun k => ?_) (ev_const fun k => if_pos ?_)
    ·unfold fraction_Sign.f
     rw [whole_Sign_T n]
     rfl
    ·have := sg_lt n; omega
   refine Ev.bind hP (Ev.bind (Parts_yes (by omega) (by omega) hF) (ev_const fun k => ?_))
   simp only
   rw [if_pos trivial, if_pos hp, if_pos (by simp [ByteArray.toList_eq])]
   rfl
  obtain ⟨ts, hts, hl⟩ := cf_small (n := n) h0 (by omega)
  obtain ⟨t1, t2, t3⟩ := cf_terms hts h0 (by omega)
  obtain ⟨x, hx⟩ : ∃ x, ts.getLast? = some x := by
   cases hh : ts.getLast? with
   | none => exact absurd (List.getLast?_eq_none_iff.1 hh) hts.ne_nil
   | some x => exact ⟨x, rfl⟩
  have hxm : x ∈ ts := List.mem_of_getLast? hx
  have hle := fun y (hy : y ∈ ts) => sumI_mem t1 hy
  have hpl := pathl_runs ts 0 [] hts.ne_nil (fun y hy => ⟨t1 y hy, by have := hle y hy; omega⟩) t2 (by simp)
  rw [lower_eq hx] at hpl
  have hxS : S17 x := by have := hle x hxm; have := t1 x hxm; unfold S17; omega
  have hnn := sumI_nonneg t1
  have hPa := fun r hr => Path_T hts (by unfold S17; omega) (by unfold S17; omega) hF (by omega) hl x hx hxS (r := r) hr
  have hlen0 : (([] : List UInt8).length : Int) = 0 := rfl
  rw [hlen0, Int.zero_add] at hpl
  by_cases hlong : sumI ts - 1 ≤ 1000
  ·rw [if_pos hlong] at hpl
   have e0 : decide (0 % 2 = 1) = false := rfl
   rw [List.nil_append, e0] at hpl
   refine Ev.bind (hPa _ hpl) (Ev.bind (Parts_yes (by omega) (by omega) hF) ?_)
   refine Ev.congr (fun k => by rw [if_pos rfl, if_neg hp]) ?_
   refine Ev.bind (RTerms (n := n) (d := d) hts (by omega) h0 (by omega) (by omega)) ?_
   have hroot : nodeOf CS.begin 1 0 = Nd.root := by simp [nodeOf, CS.begin, Nd.root]
   obtain ⟨w1, p, q, D', w2, w3, w4, w5⟩ := way_cf ts CS.begin n d 1 1000 (CS.At.start n d h0) hts (by omega) (by omega)
   have ef : decide ((1 : Int) = -1) = false := by decide
   rw [hroot, ef] at w1 w4 w5
   have hgr := Nd.grow (runs false ts) Nd.root Nd.root_pos
   have hq : 0 < q := by have : Nd.root.b + Nd.root.y = 1 := rfl; omega
   have hD : 0 < D' := by
    apply Int.not_le.1; intro hh
    have := Int.mul_nonneg (show 0 ≤ q by omega) (show 0 ≤ -D' by omega)
    rw [Int.mul_neg] at this
    omega
   have hD1 : D' = 1 := by
    have hg := Int.dvd_coe_gcd (show D' ∣ n by rw [w2]; exact Int.dvd_mul_left ..) (show D' ∣ d by rw [w3]; exact Int.dvd_mul_left ..)
    rw [hF.2] at hg
    exact Int.eq_one_of_dvd_one (by omega) hg
   subst hD1
   rw [Int.mul_one] at w2 w3
   subst w2 w3
   have hrl := runs_length ts false hts.ne_nil t1 t2
   have hAt := At_T (runs false ts) (by omega) (by omega) (by omega)
   rw [w4, w5, fr_self hF] at hAt
   have hRP : Ev (fun k => schismaref04_Path.f k n d) (wayT (runs false ts)) := by
    have := RPath_go n d (by omega) (by omega) h0 (by omega) 1000 Nd.root [] Nd.root_pos (by rw [w1]; omega) (by rw [w1]; omega) (by rw [w1, w4, w5]) (by simp)
    rw [w1, List.nil_append, strOf_way] at this
    exact this
   have hgo := pp_sum (wayT (runs false ts)) 0 n d ts (T n) (T d) t1 (by omega) hl ?_ ts.length 0 (by omega)
   ·exact hgo
   refine Ev.step (fun k => by rw [schismalaw04_ConvergentPaths.l0, if_neg (by omega), w64 (by omega) (by omega), if_neg (by omega)]) ?_
   refine Ev.bind hAt (Ev.bind hRP (ev_const fun k => ?_))
   rw [if_pos rfl, if_pos rfl]
   simp
  ·rw [if_neg hlong] at hpl
   refine Ev.bind (hPa _ hpl) (Ev.bind (Parts_yes (by omega) (by omega) hF) ?_)
   refine Ev.congr (fun k => by rw [if_pos rfl, if_neg hp]) ?_
   refine Ev.bind (RTerms (n := n) (d := d) hts (by omega) h0 (by omega) (by omega)) ?_
   have hgo := pp_sum ⟨#[]⟩ 16 n d ts (T n) (T d) t1 (by omega) hl ?_ ts.length 0 (by omega)
   ·simpa [sumI] using hgo
   refine Ev.step (fun k => by rw [schismalaw04_ConvergentPaths.l0, if_neg (by omega), w64 (by omega) (by omega), if_pos (by omega)]) (ev_const fun k => ?_)
   rw [if_pos (by simp [ByteArray.toList_eq])]
   rfl
 ·have hP : Ev (fun k => convergent_Path.f k a b) (⟨#[]⟩, 2) := by
   unfold convergent_Path.f
   exact Ev.bind (Wrong_yes (by omega) (by omega) h) (ev_const fun k => if_pos rfl)
  refine Ev.bind hP (Ev.bind (Parts_no (by omega) (by omega) h) (ev_const fun k => ?_))
  simp only
  rw [if_neg (by simp), if_pos (by simp [ByteArray.toList_eq])]
  rfl
theorem ConvergentPaths_true (a b : ByteArray) : ∃ k, schismalaw04_ConvergentPaths.f k a b = some true := by
 refine Ev.rounds (g := fun k => schismalaw04_ConvergentPaths.f k a b) ?_
 unfold schismalaw04_ConvergentPaths.f
 refine Ev.bind Known (Ev.congr (fun k => if_pos rfl) ?_)
 by_cases h1 : (a.size : Int) > 9
 ·exact Ev.congr (fun k => if_pos h1) (pp_true _ _)
 refine Ev.congr (fun k => if_neg h1) ?_
 by_cases h2 : (b.size : Int) > 9
 ·rw [decide_eq_true h2]; exact pp_true _ _
 ·rw [decide_eq_false h2]; exact pp_false _ _ (by omega) (by omega)
end Go.Proofs.YtidajgkepdkcbaaGreatDoor
end
