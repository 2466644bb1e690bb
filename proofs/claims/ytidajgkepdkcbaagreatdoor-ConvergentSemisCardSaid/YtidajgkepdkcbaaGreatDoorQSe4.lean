/- A part of the proof in QSe5. -/
import Derived.Test.YtidajgkepdkcbaaGreatDoorQSe3
set_option linter.unusedVariables false
set_option linter.unusedSimpArgs false
section
namespace Go.Proofs.YtidajgkepdkcbaaGreatDoor
open Go.RowKit Go.Lib Go.Proofs.YtidajgkepdkcbaaGreatDoorW.PrintWords Go.Proofs.YtidajgkepdkcbaaGreatDoorW.PrintLast Go.Proofs.YtidajgkepdkcbaaGreatDoorW.PrintMore PF
attribute [local go_sem] Oper.semAt_some wide_fn2 wide_depth2
def pathl : Nat → List ByteArray → List UInt8 → Option (ByteArray × Int)
 | _, [], acc => some (⟨acc.toArray⟩, 0)
 | i, a :: l, acc => (whole_Small.f a).bind fun q => if q.2 = false ∨ 1000 - (acc.length : Int) < q.1 then some (⟨#[]⟩, 16) else if q.1 < 0 then none else pathl (i + 1) l (acc ++ Lib.repeatL [if i % 2 = 0 then 82 else 76] q.1.toNat)
namespace PF
def convergent_Path.f (k : Nat) (x1 x2 : ByteArray) : Option (ByteArray × Int) :=
 (convergent_wrong.f k x1 x2).bind fun b => if b = true then some (⟨#[]⟩, 2) else (fraction_Sign.f x1 x2).bind fun s => if s ≤ 0 then some (⟨#[]⟩, 3) else
  (convergent_terms.f k x1 x2).bind fun l => match l.getLast? with
   | none => none
   | some a => (whole_Sub.f k a ⟨#[49]⟩).bind fun a' => pathl 0 (l.dropLast ++ [a']) []
end PF
theorem bld_below {T e : TypeId} {B b : Nat} {bs : List Value} {w w' : World} (h : Lib.IsBuilderF T e B b bs w) (hb : Below w.heap.size w w') : Lib.IsBuilderF T e B b bs w' := by
 have one : ∀ {p : Value}, Lib.BuilderAtF T e B b p bs w → Lib.BuilderAtF T e B b p bs w' := by
  rintro p ⟨hB, v, hbk, ⟨h1, h2⟩, hne⟩
  have keep : ∀ {k : Nat} {o : Obj}, w.heap[k]? = some o → w'.heap[k]? = some o := fun {k o} h => (hb.block k (Array.getElem?_eq_some_iff.1 h).1).trans h
  refine ⟨hB, v, keep hbk, ⟨h1, ?_⟩, hne⟩
  rcases h2 with h2 | ⟨g, cap, cur, fz, hv, hg, hh, r⟩
  ·exact .inl h2
  ·exact .inr ⟨g, cap, cur, fz, hv, hg, keep hh, r⟩
 exact h.elim (fun x => .inl (one x)) (fun x => .inr (one x))
theorem repeat_one (c : UInt8) : ∀ n : Nat, (Lib.repeatL [c] n).length = n
 | 0 => rfl
 | n + 1 => by simp [Lib.repeatL, repeat_one c n]
def PathR (L : List ByteArray) (r : ByteArray × Int) (B bb g : Nat) (cur : Array Value) (w : World) (v : Value) (wr : World) : Prop :=
 ∃ (i : Nat) (acc : List UInt8), v = .int .i64 (i : Int) ∧ i ≤ L.length ∧ pathl i (L.drop i) acc = some r ∧ acc.length ≤ 1000 ∧ Lib.IsBuilderF 93 5 B bb (Lib.byteCells acc) wr ∧ wr.heap[g]? = some (.cells cur 22 (0, 0)) ∧ Below w.heap.size w wr
def PathM (L : List ByteArray) (v : Value) : Nat := L.length - (match v with | .int _ k => k.toNat | _ => 0)
theorem pathM_lt {L : List ByteArray} {i : Nat} (h : i < L.length) : PathM L (.int .i64 ((i + 1 : Nat) : Int)) < PathM L (.int .i64 (i : Int)) :=
 (Nat.sub_lt_sub_left h (Nat.lt_succ_self i) : L.length - (i + 1) < L.length - i)
theorem terms_len0 : ∀ (k : Nat) (x y : ByteArray) (out l : List ByteArray), out.length ≤ 1001 → convergent_terms.l0 k x y out = some l → l.length ≤ 1001
 | 0, _, _, _, _, _, h => by simp [convergent_terms.l0] at h
 | k + 1, x, y, out, l, ho, h => by
  rw [convergent_terms.l0] at h
  split at h
  ·rename_i hle
   obtain ⟨q, _, h⟩ := Option.bind_eq_some_iff.1 h
   split at h
   ·simp only [Option.bind_some] at h
    split at h
    ·obtain rfl := Option.some.inj h
     simp; omega
    ·exact terms_len0 k _ _ _ l (by simp; omega) h
   ·cases h
  ·obtain rfl := Option.some.inj h
   exact ho
theorem terms_len {k : Nat} {x1 x2 : ByteArray} {l : List ByteArray} (h : convergent_terms.f k x1 x2 = some l) : l.length ≤ 1001 := terms_len0 k _ _ _ l (by simp) h
set_option maxRecDepth 100000 in
set_option maxHeartbeats 4000000 in
theorem path_walk (k : Nat) (x1 x2 : ByteArray) (l : List ByteArray) (a a' : ByteArray) (r : ByteArray × Int) (w : World) (hG : GWorld w) (s : Int) (h1 : convergent_wrong.f k x1 x2 = some false) (h2 : fraction_Sign.f x1 x2 = some s) (hs : ¬ s ≤ 0) (h3 : convergent_terms.f k x1 x2 = some l)
  (hl : l.length ≤ 1001) (h4 : l.getLast? = some a) (h5 : whole_Sub.f k a ⟨#[49]⟩ = some a') (h6 : pathl 0 (l.dropLast ++ [a']) [] = some r) :
  Calls Tryz.prog 32 #[.agg #[.string x1, .string x2]] w fun e w' => e = .returned (.tuple #[.string r.1, .int .i64 r.2]) ∧ Below w.heap.size w w' := by
 refine (callsIn_wide (n := 0)).1 (callsIn_of_wp Tryz.func32 rfl trivial ?_ rfl)
 simp only [Tryz.ntmps32, List.size_toArray, List.length_cons, List.length_nil, Nat.reduceAdd, Nat.reduceSub, Array.replicate_succ, Array.replicate_zero, List.push_toArray, List.append_toArray, List.nil_append, List.cons_append]
 have c1 := fun W hG => convergent_wrong.calls k _ _ _ W hG h1
 have c2 := fun W => fraction_Sign.calls _ _ _ W h2
 obtain ⟨m, hm⟩ : ∃ m, l.length = m + 1 := ⟨l.length - 1, by cases l with | nil => simp at h4 | cons _ _ => simp⟩
 have c3 : ∀ W, GWorld W → Calls Tryz.prog 46 #[.agg #[.string x1, .string x2]] W fun e w' => ∃ g cap cur, e = .returned (.slice (some ⟨g, 0, none⟩) (m + 1) cap) ∧ W.heap.size ≤ g ∧ w'.heap[g]? = some (.cells cur 22 (0, 0)) ∧ (∀ (k : Nat) (x : ByteArray), l[k]? = some x → cur[k]? = some (.string x)) ∧ Below W.heap.size W w' := fun W hG => by
  refine (convergent_terms.calls k _ _ _ W hG h3).mono ?_
  rintro e w' ⟨v, rfl, hR, hB⟩
  obtain ⟨g, cap, cur, rfl, hg, hh, hc⟩ := row_of_R hR (by intro e; rw [e] at hm; simp at hm)
  exact ⟨g, cap, cur, by rw [hm], hg, hh, hc, hB⟩
 have hla : l[m]? = some a := by rw [List.getLast?_eq_getElem?, hm] at h4; exact h4
 have c5 := fun W hG => whole_Sub.calls k _ _ _ W hG h5
 have hs' : (s ≤ 0) = False := by simp [hs]
 replace hla := Lib.hid hla
 replace h1 := Lib.hid h1
 replace h2 := Lib.hid h2
 replace h3 := Lib.hid h3
 replace h4 := Lib.hid h4
 replace h5 := Lib.hid h5
 replace h6 := Lib.hid h6
 replace hG := Lib.hid hG
 replace hl := Lib.hid hl
 replace hm := Lib.hid hm
 replace c1 := Lib.hid c1
 replace c2 := Lib.hid c2
 replace c3 := Lib.hid c3
 replace c5 := Lib.hid c5
 have hw64 : wrap64 (m : Int) = m := w64 (by omega) (by have := hm.out; have := hl.out; omega)
 have hmlt : (m : Int) < (m : Int) + 1 := by omega
 gi_wp2_with (first
  | (gi_at_call 40; refine (callsIn_wide.2 (c1.out _ (hG.out.below ((Below.refl _ _).alloc (Nat.le_refl _) _)))).mono ?_; rintro e W1 ⟨rfl, H1⟩; have b1 := (H1.block _ (by simp)).trans (World.alloc_heap_new w (.cells #[.string x1, .string x2] 24)); obtain ⟨y1, y2⟩ := two_cells b1; replace H1 := Lib.hid H1; replace b1 := Lib.hid b1)
  | (gi_at_call 64; refine (callsIn_wide.2 (c2.out _)).mono ?_; rintro e W2 ⟨rfl, H2⟩; have b2 := (H2.block _ (Array.getElem?_eq_some_iff.1 b1.out).1).trans b1.out; obtain ⟨z1, z2⟩ := two_cells (heap_alloc_some b2 (.cells #[.pointer none, .slice none 0 0] 93)); have B2 : Below w.heap.size w W2 := (((Below.refl _ w).alloc (Nat.le_refl _) _).trans (H1.out.mono (by simp))).trans (H2.mono (by have := H1.out.size; simp at this; omega)); replace H2 := Lib.hid H2; replace b2 := Lib.hid b2; replace B2 := Lib.hid B2)
  | (gi_at_call 46; refine (callsIn_wide.2 (c3.out _ (hG.out.below (B2.out.alloc B2.out.size _)))).mono ?_; rintro e W3 ⟨g, cap, cur, rfl, hg, hh, hc, H3⟩; have hca := cell_of_row W3 g m _ _ _ hh; rw [hc m a hla.out] at hca; replace H3 := Lib.hid H3; replace hg := Lib.hid hg; replace hh := Lib.hid hh; replace hc := Lib.hid hc)
  | (gi_at_call 65; refine (callsIn_wide.2 (c5.out _ (hG.out.below ((B2.out.alloc B2.out.size _).trans (H3.out.mono (by have := B2.out.size; simp; omega)))))).mono ?_; rintro e W4 ⟨rfl, H4⟩; have hh4 := (H4.block _ (Array.getElem?_eq_some_iff.1 hh.out).1).trans hh.out; have hca4 := cell_of_row W4 g m _ _ _ hh4; rw [hc.out m a hla.out] at hca4; have hfz4 := frozen0 (j := m) hh4; replace hh4 := Lib.hid hh4; replace H4 := Lib.hid H4))
 have s2 := (Array.getElem?_eq_some_iff.1 b2.out).1
 have B3 : Below w.heap.size w W3 := (B2.out.alloc B2.out.size _).trans (H3.out.mono (by have := B2.out.size; simp; omega))
 have B4 : Below w.heap.size w W4 := B3.trans (H4.out.mono B3.size)
 have hg' : w.heap.size + 1 ≤ g := by have h := hg.out; have := B2.out.size; rw [World.size_alloc] at h; omega
 have B5 : Below w.heap.size w (W4.setCell ⟨g, m, none⟩ (.string a')) := B4.setCell (p := ⟨g, m, none⟩) (by simp only; omega) _
 have hbl : Lib.IsBuilderF 93 5 w.heap.size W2.heap.size (Lib.byteCells []) (W4.setCell ⟨g, m, none⟩ (.string a')) := by
  left
  refine ⟨B2.out.size, _, ?_, World.ownsRowF_nil _ _ _ _, by simp [Value.ownBlock]⟩
  rw [Below.heap_setCell _ _ _ _ (by have h := hg.out; rw [World.size_alloc] at h; simp only; omega), H4.out.block _ (by have h := H3.out.size; rw [World.size_alloc] at h; omega), H3.out.block _ (by simp)]
  exact World.alloc_heap_new _ _
 have hrow : (W4.setCell ⟨g, m, none⟩ (.string a')).heap[g]? = some (.cells (cur.setIfInBounds m (.string a')) 22 (0, 0)) := by
  simp [World.setCell, Array.getElem_modify, (Array.getElem?_eq_some_iff.1 hh4.out).1, (Array.getElem?_eq_some_iff.1 hh4.out).2]
 have hdl : l.dropLast.length = m := by rw [List.length_dropLast, hm.out]; omega
 have hLl : (l.dropLast ++ [a']).length = m + 1 := by simp [hdl]
 have hcur : ∀ (k : Nat) (x : ByteArray), (l.dropLast ++ [a'])[k]? = some x → (cur.setIfInBounds m (.string a'))[k]? = some (.string x) := by
  intro k x hx
  rw [Array.getElem?_setIfInBounds]
  rcases Nat.lt_trichotomy k m with h | h | h
  ·rw [if_neg (by omega)]
   rw [List.getElem?_append_left (by omega), List.getElem?_dropLast, if_pos (by rw [hm.out]; omega)] at hx
   exact hc.out k x hx
  ·subst h
   rw [List.getElem?_append_right (by omega), hdl] at hx
   simp at hx
   subst hx
   rw [if_pos rfl, if_pos (by have := hc.out k a hla.out; exact (Array.getElem?_eq_some_iff.1 this).1)]
  ·rw [List.getElem?_eq_none (by omega)] at hx
   cases hx
 have h6' := h6.out
 generalize l.dropLast ++ [a'] = L at *
 generalize cur.setIfInBounds m (.string a') = cur2 at *
 gi_loopw [33] (fun v wr => PathR L r w.heap.size W2.heap.size g cur2 w v wr) (fun v _ => PathM L v)
 case atStart => exact ⟨0, [], rfl, Nat.zero_le _, by simpa using h6', by simp, hbl, hrow, B5⟩
 case round =>
  clear hbl hrow B5 B4 B3 h6' hca hca4 hfz4 H1 H2 H3 H4 hh hh4 hc y1 y2 z1 z2
  obtain ⟨i, acc, rfl, hi, hp, hacc, hbd, hrw, hBw⟩ := hrel
  have hlen := Tryz.Builder_Len_f w.heap.size W2.heap.size (Lib.byteCells acc)
  rcases Nat.lt_or_ge i L.length with hlt | hge
  ·obtain ⟨x, hx⟩ : ∃ x, L[i]? = some x := ⟨_, List.getElem?_eq_getElem hlt⟩
   have hdr : L.drop i = x :: L.drop (i + 1) := by
    rw [List.drop_eq_getElem_cons hlt]
    congr 1
    rw [List.getElem?_eq_getElem hlt] at hx
    exact Option.some.inj hx
   rw [hdr, pathl] at hp
   obtain ⟨q, hq, hp⟩ := Option.bind_eq_some_iff.1 hp
   have hcx := cell_of_row wr g i _ _ _ hrw
   rw [hcur i x hx] at hcx
   have cS := fun W => whole_Small.calls x q.1 q.2 W hq
   have hii : (i : Int) < (m : Int) + 1 := by omega
   replace cS := Lib.hid cS
   replace hq := Lib.hid hq
   replace hcur := Lib.hid hcur
   replace hdr := Lib.hid hdr
   replace hx := Lib.hid hx
   replace hlt := Lib.hid hlt
   replace hrw := Lib.hid hrw
   replace hbd := Lib.hid hbd
   replace hBw := Lib.hid hBw
   replace hlen := Lib.hid hlen
   replace hi := Lib.hid hi
   replace hLl := Lib.hid hLl
   replace hdl := Lib.hid hdl
   replace hg' := Lib.hid hg'
   replace s2 := Lib.hid s2
   obtain ⟨n, ok⟩ := q
   cases ok with
   | false =>
    rw [if_pos (.inl rfl)] at hp
    obtain rfl := Option.some.inj hp
    gi_wp2_with (first
     | (gi_at_call 66; refine (callsIn_wide.2 (cS.out _)).mono ?_; rintro e W6 ⟨rfl, H6⟩; replace H6 := Lib.hid H6))
    go_ret2
    exact ⟨rfl, hBw.out.trans (H6.out.mono hBw.out.size)⟩
   | true =>
    have hla2 : (Lib.byteCells acc).length = acc.length := by simp [Lib.byteCells]
    have hws : wrap64 (1000 - (acc.length : Int)) = 1000 - (acc.length : Int) := w64 (by omega) (by omega)
    by_cases hn : 1000 - (acc.length : Int) < n
    ·rw [if_pos (.inr hn)] at hp
     obtain rfl := Option.some.inj hp
     gi_wp2_with (first
      | (gi_at_call 66; refine (callsIn_wide.2 (cS.out _)).mono ?_; rintro e W6 ⟨rfl, H6⟩; replace H6 := Lib.hid H6)
      | (gi_at_call 67; refine (callsIn_wide.2 (hlen.out _ (bld_below hbd.out H6.out))).mono ?_; rintro e W7 ⟨rfl, rfl⟩; rw [hla2]))
     go_ret2
     exact ⟨rfl, hBw.out.trans (H6.out.mono hBw.out.size)⟩
    ·rw [if_neg (by simp; omega)] at hp
     simp only at hp
     by_cases hn0 : n < 0
     ·rw [if_pos hn0] at hp; cases hp
     rw [if_neg hn0] at hp
     have hR : strings_Repeat.f ⟨#[if i % 2 = 0 then 82 else 76]⟩ n = some ⟨(Lib.repeatL [if i % 2 = 0 then 82 else 76] n.toNat).toArray⟩ := by
      unfold strings_Repeat.f
      rw [if_pos ⟨by omega, by omega, by show 1 * _ ≤ _; omega⟩]
     have hrl := repeat_one (if i % 2 = 0 then (82 : UInt8) else 76) n.toNat
     have hext : ((⟨#[82, 76]⟩ : ByteArray).extract (i % 2) (i % 2 + 1)) = ⟨#[if i % 2 = 0 then 82 else 76]⟩ := by
      rcases Nat.mod_two_eq_zero_or_one i with h | h <;> rw [h] <;> rfl
     replace hext := Lib.hid hext
     replace hR := Lib.hid hR
     have hrl := Lib.hid hrl
     have cR := fun W => strings_Repeat.calls _ _ _ W hR
     replace cR := Lib.hid cR
     gi_wp2_with (first
      | (gi_at_call 66; refine (callsIn_wide.2 (cS.out _)).mono ?_; rintro e W6 ⟨rfl, H6⟩; replace H6 := Lib.hid H6)
      | (gi_at_call 67; refine (callsIn_wide.2 (hlen.out _ (bld_below hbd.out H6.out))).mono ?_; rintro e W7 ⟨rfl, rfl⟩; rw [hla2])
      | (gi_at_call 69; rw [hext.out]; refine (callsIn_wide.2 (cR.out _)).mono ?_; rintro e W8 ⟨rfl, H8⟩; replace H8 := Lib.hid H8)
      | (gi_at_call 68; refine (callsIn_wide.2 (bWrite w.heap.size W2.heap.size _ _ _ (bld_below (bld_below hbd.out H6.out) H8.out) (by rw [hla2]; show _ + (Lib.repeatL _ _).length ≤ _; rw [hrl.out]; omega) (by have := hBw.out.size; have := H6.out.size; have := H8.out.size; omega))).mono ?_; rintro e W9 ⟨rfl, H9, H10, H11⟩; replace H9 := Lib.hid H9; replace H10 := Lib.hid H10; replace H11 := Lib.hid H11))
     have hw2 : wrap64 ((i : Int) + 1) = ((i + 1 : Nat) : Int) := by rw [w64 (by omega) (by have := hm.out; have := hl.out; omega)]; omega
     rw [hw2]
     have k6 := hrw.out
     have k7 := (H6.out.block _ (Array.getElem?_eq_some_iff.1 k6).1).trans k6
     have k8 := (H8.out.block _ (Array.getElem?_eq_some_iff.1 k7).1).trans k7
     refine ⟨⟨i + 1, _, rfl, hlt.out, hp, ?_, .inr ?_, H11.out g _ k8 (fun e => ?_) (fun c fz e => ?_), ?_⟩, ?_⟩
     ·rw [List.length_append, hrl.out]; omega
     ·have e : Lib.byteCells (acc ++ Lib.repeatL [if i % 2 = 0 then (82 : UInt8) else 76] n.toNat) = Lib.byteCells acc ++ Lib.strCells ⟨(Lib.repeatL [if i % 2 = 0 then (82 : UInt8) else 76] n.toNat).toArray⟩ := by simp [Lib.byteCells, Lib.strCells]
      rw [e]
      exact H9.out
     ·have h := hg.out
      rw [World.size_alloc] at h
      have := Option.some.inj e
      omega
     ·cases e
     ·have h1 := hBw.out
      have h2 := h1.trans (H6.out.mono h1.size)
      exact (h2.trans (H8.out.mono h2.size)).trans H10.out
     ·exact pathM_lt hlt.out
  ·have : i = m + 1 := by omega
   subst this
   rw [List.drop_eq_nil_iff.2 hge, pathl] at hp
   obtain rfl := Option.some.inj hp
   have cSt := Tryz.Builder_String_any_k w.heap.size W2.heap.size acc _ hbd hBw.size
   gi_wp2_with (first
    | (gi_at_call 70; refine (callsIn_wide.2 cSt).mono ?_; rintro e W6 ⟨rfl, H6, H7, H8⟩; replace H6 := Lib.hid H6; replace H7 := Lib.hid H7; replace H8 := Lib.hid H8))
   go_ret2
   exact ⟨rfl, hBw.trans H7.out⟩
theorem path_wrong (k : Nat) (x1 x2 : ByteArray) (w : World) (hG : GWorld w) (h1 : convergent_wrong.f k x1 x2 = some true) :
  Calls Tryz.prog 32 #[.agg #[.string x1, .string x2]] w fun e w' => e = .returned (.tuple #[.string ⟨#[]⟩, .int .i64 2]) ∧ Below w.heap.size w w' := by
 have c1 := fun W hG => convergent_wrong.calls k _ _ _ W hG h1
 refine (callsIn_wide (n := 0)).1 (callsIn_of_wp Tryz.func32 rfl trivial ?_ rfl)
 simp only [Tryz.ntmps32, List.size_toArray, List.length_cons, List.length_nil, Nat.reduceAdd, Nat.reduceSub, Array.replicate_succ, Array.replicate_zero, List.push_toArray, List.append_toArray, List.nil_append, List.cons_append]
 replace h1 := Lib.hid h1
 replace hG := Lib.hid hG
 replace c1 := Lib.hid c1
 gi_wp2_with (gi_at_call 40; refine (callsIn_wide.2 (c1.out _ (hG.out.below ((Below.refl _ _).alloc (Nat.le_refl _) _)))).mono ?_; rintro e W1 ⟨rfl, H1⟩; replace H1 := Lib.hid H1)
 go_ret2
 exact ⟨rfl, ((Below.refl _ w).alloc (Nat.le_refl _) _).trans (H1.out.mono (by simp))⟩
theorem path_sign (k : Nat) (x1 x2 : ByteArray) (w : World) (hG : GWorld w) (s : Int) (h1 : convergent_wrong.f k x1 x2 = some false) (h2 : fraction_Sign.f x1 x2 = some s) (hs : s ≤ 0) :
  Calls Tryz.prog 32 #[.agg #[.string x1, .string x2]] w fun e w' => e = .returned (.tuple #[.string ⟨#[]⟩, .int .i64 3]) ∧ Below w.heap.size w w' := by
 have c1 := fun W hG => convergent_wrong.calls k _ _ _ W hG h1
 have c2 := fun W => fraction_Sign.calls _ _ _ W h2
 refine (callsIn_wide (n := 0)).1 (callsIn_of_wp Tryz.func32 rfl trivial ?_ rfl)
 simp only [Tryz.ntmps32, List.size_toArray, List.length_cons, List.length_nil, Nat.reduceAdd, Nat.reduceSub, Array.replicate_succ, Array.replicate_zero, List.push_toArray, List.append_toArray, List.nil_append, List.cons_append]
 replace h1 := Lib.hid h1
 replace h2 := Lib.hid h2
 replace hG := Lib.hid hG
 replace c1 := Lib.hid c1
 replace c2 := Lib.hid c2
 gi_wp2_with (first
  | (gi_at_call 40; refine (callsIn_wide.2 (c1.out _ (hG.out.below ((Below.refl _ _).alloc (Nat.le_refl _) _)))).mono ?_; rintro e W1 ⟨rfl, H1⟩; have b1 := (H1.block _ (by simp)).trans (World.alloc_heap_new w (.cells #[.string x1, .string x2] 24)); obtain ⟨y1, y2⟩ := two_cells b1; replace H1 := Lib.hid H1; replace b1 := Lib.hid b1)
  | (gi_at_call 64; refine (callsIn_wide.2 (c2.out _)).mono ?_; rintro e W2 ⟨rfl, H2⟩; replace H2 := Lib.hid H2))
 go_ret2
 exact ⟨rfl, (((Below.refl _ w).alloc (Nat.le_refl _) _).trans (H1.out.mono (by simp))).trans (H2.out.mono (by have h := H1.out.size; rw [World.size_alloc] at h; omega))⟩
theorem PF.convergent_Path.calls (k : Nat) (a0_0 a0_1 : ByteArray) (r1 : ByteArray) (r2 : Int) (w : World) (hG_ : GWorld w) (h : convergent_Path.f k a0_0 a0_1 = some (r1, r2)) :
  Calls Tryz.prog 32 #[.agg #[.string a0_0, .string a0_1]] w fun e w' => e = .returned (.tuple #[.string r1, .int .i64 r2]) ∧ Below w.heap.size w w' := by
 unfold convergent_Path.f at h
 obtain ⟨b, h1, h⟩ := Option.bind_eq_some_iff.1 h
 by_cases hb : b = true
 ·rw [if_pos hb] at h
  subst hb
  obtain ⟨rfl, rfl⟩ := Prod.mk.inj (Option.some.inj h)
  exact path_wrong k _ _ w hG_ h1
 ·rw [if_neg hb] at h
  have hb : b = false := by simpa using hb
  subst hb
  obtain ⟨s, h2, h⟩ := Option.bind_eq_some_iff.1 h
  by_cases hs : s ≤ 0
  ·rw [if_pos hs] at h
   obtain ⟨rfl, rfl⟩ := Prod.mk.inj (Option.some.inj h)
   exact path_sign k _ _ w hG_ s h1 h2 hs
  ·rw [if_neg hs] at h
   obtain ⟨l, h3, h⟩ := Option.bind_eq_some_iff.1 h
   cases hl : l.getLast? with
   | none => rw [hl] at h; cases h
   | some a =>
    rw [hl] at h
    simp only at h
    obtain ⟨a', h4, h⟩ := Option.bind_eq_some_iff.1 h
    exact path_walk k _ _ l a a' (r1, r2) w hG_ s h1 h2 hs h3 (terms_len h3) hl h4 h
end Go.Proofs.YtidajgkepdkcbaaGreatDoor
end
section
namespace Go.Proofs.YtidajgkepdkcbaaGreatDoor
open Go.RowKit Go.Lib Go.Proofs.YtidajgkepdkcbaaGreatDoorW.PrintWords Go.Proofs.YtidajgkepdkcbaaGreatDoorW.PrintLast Go.Proofs.YtidajgkepdkcbaaGreatDoorW.PrintMore PF
attribute [local go_sem] Oper.semAt_some wide_fn2 wide_depth2
def sf (y : Int × Int) : PF.S24 := ⟨T y.1, T y.2⟩
theorem fcells_at : ∀ (l : List (Int × Int)) (k : Nat) (y : Int × Int), l[k]? = some y → ((fcells l).drop (k * 2)).take 2 = [.string (T y.1), .string (T y.2)]
 | [], _, _, h => by simp at h
 | z :: l, 0, y, h => by simp at h; subst h; simp [fcells]
 | z :: l, k + 1, y, h => by
  have := fcells_at l k y (by simpa using h)
  rw [show (k + 1) * 2 = k * 2 + 1 + 1 by omega]
  simpa [fcells] using this
theorem R_of_row {w : World} {base : Nat} {v : Value} {l : List (Int × Int)} (h : w.ownsRow base 24 2 v l.length (fcells l)) : Kd.R k24 24 w base (fun _ => True) v (l.map sf) := by
 refine ⟨fun _ _ => trivial, fcells l, by rw [List.length_map]; exact h, by rw [fcells_len, List.length_map]; rfl, fun k x hx => ?_⟩
 rw [List.getElem?_map] at hx
 obtain ⟨y, hy, rfl⟩ := Option.map_eq_some_iff.1 hx
 have := fcells_at l k y hy
 show k24.M w base _ (sf y) (((fcells l).drop (k * 2)).take 2)
 rw [this]
 exact k24_mkM _ _ _ (sf y)
structure BestOk (x1 x2 : ByteArray) (bound : Int) (p : Int × Int × List Int) : Prop where
 e1 : x1 = T p.1
 e2 : x2 = T p.2.1
 n1 : -1000000 < p.1
 n2 : p.1 < 10000000
 fr : Fr p.1 p.2.1
 d2 : p.2.1 < 10000000
 b1 : 1 ≤ bound
 b2 : bound ≤ 60
 ts : isCf p.2.2 p.1 p.2.1
 tl : p.2.2.length ≤ 1000
def bestRow (n d bound : Int) (ts : List Int) : List (Int × Int) := (semis half bound true CS.begin ts).foldl (bstep n d) []
namespace PF
open Classical in
noncomputable def convergent_Best.f (k : Nat) (x1 x2 : ByteArray) (bound : Int) : Option (List S24 × Int) :=
 if h : ∃ p, BestOk x1 x2 bound p then some ((bestRow h.choose.1 h.choose.2.1 bound h.choose.2.2).map sf, 0) else (convergent_bounded.f k x1 x2 bound).bind fun e => if e = 0 then none else some ([], e)
end PF
theorem Best_yes {n d bound : Int} {ts : List Int} (h : BestOk (T n) (T d) bound (n, d, ts)) (k : Nat) : convergent_Best.f k (T n) (T d) bound = some ((bestRow n d bound ts).map sf, 0) := by
 unfold convergent_Best.f
 have hc : ∃ p, BestOk (T n) (T d) bound p := ⟨_, h⟩
 rw [dif_pos hc]
 have hs := hc.choose_spec
 have e1 := T_inj hs.e1
 have e2 := T_inj hs.e2
 have e3 : hc.choose.2.2 = ts := hs.ts.unique (by rw [← e1, ← e2]; exact h.ts)
 rw [e3, ← e1, ← e2]
set_option maxRecDepth 100000 in
set_option maxHeartbeats 4000000 in
theorem best_err (k : Nat) (x1 x2 : ByteArray) (bound e : Int) (w : World) (hG : GWorld w) (h : convergent_bounded.f k x1 x2 bound = some e) (he : e ≠ 0) :
  Calls Tryz.prog 28 #[.agg #[.string x1, .string x2], .int .i64 bound] w fun e' w' => e' = .returned (.tuple #[.slice none 0 0, .int .i64 e]) ∧ Below w.heap.size w w' := by
 have c1 := fun W hG => convergent_bounded.calls k _ _ _ _ W hG h
 have c0 := three_alloc (w := w) (W1 := ((w.alloc (.cells #[.string x1, .string x2] 24)).alloc (.cells #[.slice none 0 0] 37)).alloc (.cells #[.int .i64 0] 26)) (Below.refl _ _)
 refine (callsIn_wide (n := 0)).1 (callsIn_of_wp Tryz.func28 rfl trivial ?_ rfl)
 simp only [Tryz.ntmps28, List.size_toArray, List.length_cons, List.length_nil, Nat.reduceAdd, Nat.reduceSub, Array.replicate_succ, Array.replicate_zero, List.push_toArray, List.append_toArray, List.nil_append, List.cons_append]
 replace c1 := Lib.hid c1
 replace c0 := Lib.hid c0
 replace h := Lib.hid h
 replace hG := Lib.hid hG
 gi_wp2_with (gi_at_call 51; refine (callsIn_wide.2 (c1.out _ (hG.out.below c0.out.2.2.2.1))).mono ?_; rintro e' W1 ⟨rfl, H1⟩; obtain ⟨x1', x2', x3', HB1, hz1⟩ := three_alloc H1; have q2 := cell0 x2'; have q3 := cell0 x3'; have q4 := frozen0 (j := 0) x2'; have q5 := frozen0 (j := 0) x3'; replace H1 := Lib.hid H1; replace HB1 := Lib.hid HB1; replace x1' := Lib.hid x1'; replace x2' := Lib.hid x2'; replace x3' := Lib.hid x3'; replace hz1 := Lib.hid hz1)
 have hc5 : ((W1.setCell ⟨w.heap.size + 1, 0, none⟩ (.slice none 0 0)).setCell ⟨w.heap.size + 1 + 1, 0, none⟩ (.int .i64 e)).cell? ⟨w.heap.size + 1, 0, none⟩ = some (.slice none 0 0) := by
  rw [World.cell?_of_block (w := W1.setCell ⟨w.heap.size + 1, 0, none⟩ (.slice none 0 0)) (Below.heap_setCell _ _ _ _ (by simp only; omega))]
  exact World.cell?_setCell_same' _ _ _ (by rw [q2]; rfl)
 have hc6 : ((W1.setCell ⟨w.heap.size + 1, 0, none⟩ (.slice none 0 0)).setCell ⟨w.heap.size + 1 + 1, 0, none⟩ (.int .i64 e)).cell? ⟨w.heap.size + 1 + 1, 0, none⟩ = some (.int .i64 e) := by
  refine World.cell?_setCell_same' _ _ _ ?_
  rw [World.cell?_of_block (w := W1) (Below.heap_setCell _ _ _ _ (by simp only; omega)), q3]; rfl
 refine ⟨rfl, .tuple #[.slice none 0 0, .int .i64 e], ?_, rfl, ?_⟩
 ·simp [results, Tryz.f28, go_sem, hc5, hc6]
 ·exact (HB1.out.setCell (p := ⟨w.heap.size + 1, 0, none⟩) (by simp) _).setCell (p := ⟨w.heap.size + 1 + 1, 0, none⟩) (by simp only; omega) _
theorem PF.convergent_Best.calls (k : Nat) (a0_0 a0_1 : ByteArray) (a1 : Int) (r1 : List S24) (r2 : Int) (w : World) (hG_ : GWorld w) (h : convergent_Best.f k a0_0 a0_1 a1 = some (r1, r2)) :
  Calls Tryz.prog 28 #[.agg #[.string a0_0, .string a0_1], .int .i64 a1] w fun e w' => ∃ v0_ : Value, e = .returned (.tuple #[v0_, .int .i64 r2]) ∧ Kd.R k24 24 w' w.heap.size (fun _ => True) v0_ r1 ∧ Below w.heap.size w w' := by
 unfold convergent_Best.f at h
 by_cases hc : ∃ p, BestOk a0_0 a0_1 a1 p
 ·rw [dif_pos hc] at h
  have hs := hc.choose_spec
  obtain ⟨rfl, rfl⟩ := Prod.mk.inj (Option.some.inj h)
  generalize hc.choose = p at *
  obtain ⟨n, d, ts⟩ := p
  obtain ⟨e1, e2, n1, n2, hF, d2, b1, b2, hts, htl⟩ := hs
  simp only at e1 e2 n1 n2 hF d2 hts htl
  subst e1 e2
  refine (callsIn_wide (n := 0)).1 ((best_walk n1 n2 hF d2 b1 b2 hts htl w hG_).mono ?_)
  rintro e w' ⟨v, rfl, hrow, hB⟩
  exact ⟨v, rfl, R_of_row hrow, hB⟩
 ·rw [dif_neg hc] at h
  obtain ⟨e, h1, h⟩ := Option.bind_eq_some_iff.1 h
  by_cases he : e = 0
  ·rw [if_pos he] at h; cases h
  ·rw [if_neg he] at h
   obtain ⟨rfl, rfl⟩ := Prod.mk.inj (Option.some.inj h)
   refine (best_err k _ _ _ _ w hG_ h1 he).mono ?_
   rintro e' w' ⟨rfl, hB⟩
   exact ⟨_, rfl, Kd.R_nil _ _ _ _ _, hB⟩
end Go.Proofs.YtidajgkepdkcbaaGreatDoor
end
section
namespace Go.Proofs.YtidajgkepdkcbaaGreatDoor.PL
open Go.RowKit Go.Proofs.YtidajgkepdkcbaaGreatDoorW.PrintWords Go.Proofs.YtidajgkepdkcbaaGreatDoorW.PrintLast Go.Proofs.YtidajgkepdkcbaaGreatDoorW.PrintMore Go.Proofs.YtidajgkepdkcbaaGreatDoor.PF
attribute [local go_sem] max2_int min2_int max_two min_two max_three min_three max_four min_four
theorem info3 : (Tryz.prog.info? 3).map (fun i => (i.zero, i.size, i.bytes)) = some (some (.int .i64 0), 1, 8) := by kernel_rfl
theorem info24 : (Tryz.prog.info? 24).map (fun i => (i.zero, i.size, i.bytes)) = some (some (.agg #[(.string ⟨#[]⟩), (.string ⟨#[]⟩)]), 2, 32) := by kernel_rfl
end Go.Proofs.YtidajgkepdkcbaaGreatDoor.PL
end
section
namespace Go.Proofs.YtidajgkepdkcbaaGreatDoor.PL
open Go.RowKit Go.Proofs.YtidajgkepdkcbaaGreatDoorW.PrintWords Go.Proofs.YtidajgkepdkcbaaGreatDoorW.PrintLast Go.Proofs.YtidajgkepdkcbaaGreatDoorW.PrintMore Go.Proofs.YtidajgkepdkcbaaGreatDoor.PF
attribute [local go_sem] max2_int min2_int max_two min_two max_three min_three max_four min_four
noncomputable def schismalaw04_known.f (k : Nat)  : Option (Bool) := (schismaref04_Make.f k 7 12).bind fun bt101 => ((convergent_Terms.f k bt101.1 bt101.2).bind fun bt104 => ((schismaref04_Make.f k 3 5).bind fun bt108 => ((convergent_Path.f k bt108.1 bt108.2).bind fun bt110 => ((convergent_Best.f k bt101.1 bt101.2 7).bind fun bt112 => (if bt104.2 = 0 then ((schismalaw04_ints.f k bt104.1 (([0, 1, 1, 2, 2] : List Int))).bind fun t119 => (if t119 = true then (if bt110.2 = 0 then (if bt110.1.toList = ([76, 82, 76] : List UInt8) then (if bt112.2 = 0 then ((schismaref04_Make.f k 1 1).bind fun bt120 => ((schismaref04_Make.f k 1 2).bind fun bt122 => ((schismaref04_Make.f k 3 5).bind fun bt124 => ((schismaref04_Make.f k 4 7).bind fun bt126 => ((schismalaw04_same.f k bt112.1 (([(⟨bt120.1, bt120.2⟩ : S24), (⟨bt122.1, bt122.2⟩ : S24), (⟨bt124.1, bt124.2⟩ : S24), (⟨bt126.1, bt126.2⟩ : S24)] : List (S24)))).bind fun t131 => (some t131)))))) else (some false)) else (some false)) else (some false)) else (some false))) else (some false))))))
set_option maxHeartbeats 8000000 in
set_option maxRecDepth 100000 in
theorem schismalaw04_known.calls (k : Nat)  (r : Bool) (w : World) (hG_ : GWorld w) (h : schismalaw04_known.f k  = some r) :
  Calls Tryz.prog 13 #[] w fun e w' => e = .returned (.bool r) ∧ Below w.heap.size w w' := by
 have hu24 := Tryz.underlying24
 have HB := Aside0.mk (Below.refl w.heap.size w)
 have HG := Aside0.mk hG_
 clear hG_
 have H : ((schismaref04_Make.f k 7 12).bind fun bt101 => ((convergent_Terms.f k bt101.1 bt101.2).bind fun bt104 => ((schismaref04_Make.f k 3 5).bind fun bt108 => ((convergent_Path.f k bt108.1 bt108.2).bind fun bt110 => ((convergent_Best.f k bt101.1 bt101.2 7).bind fun bt112 => (if bt104.2 = 0 then ((schismalaw04_ints.f k bt104.1 (([0, 1, 1, 2, 2] : List Int))).bind fun t119 => (if t119 = true then (if bt110.2 = 0 then (if bt110.1.toList = ([76, 82, 76] : List UInt8) then (if bt112.2 = 0 then ((schismaref04_Make.f k 1 1).bind fun bt120 => ((schismaref04_Make.f k 1 2).bind fun bt122 => ((schismaref04_Make.f k 3 5).bind fun bt124 => ((schismaref04_Make.f k 4 7).bind fun bt126 => ((schismalaw04_same.f k bt112.1 (([(⟨bt120.1, bt120.2⟩ : S24), (⟨bt122.1, bt122.2⟩ : S24), (⟨bt124.1, bt124.2⟩ : S24), (⟨bt126.1, bt126.2⟩ : S24)] : List (S24)))).bind fun t131 => (some t131)))))) else (some false)) else (some false)) else (some false)) else (some false))) else (some false))))))) = some r := h
 clear h
 replace H := Option.bind_eq_some_iff.mp H
 obtain ⟨⟨t101, t102⟩, A10, H⟩ := H
 replace H : ((convergent_Terms.f k t101 t102).bind fun bt104 => ((schismaref04_Make.f k 3 5).bind fun bt108 => ((convergent_Path.f k bt108.1 bt108.2).bind fun bt110 => ((convergent_Best.f k t101 t102 7).bind fun bt112 => (if bt104.2 = 0 then ((schismalaw04_ints.f k bt104.1 (([0, 1, 1, 2, 2] : List Int))).bind fun t119 => (if t119 = true then (if bt110.2 = 0 then (if bt110.1.toList = ([76, 82, 76] : List UInt8) then (if bt112.2 = 0 then ((schismaref04_Make.f k 1 1).bind fun bt120 => ((schismaref04_Make.f k 1 2).bind fun bt122 => ((schismaref04_Make.f k 3 5).bind fun bt124 => ((schismaref04_Make.f k 4 7).bind fun bt126 => ((schismalaw04_same.f k bt112.1 (([(⟨bt120.1, bt120.2⟩ : S24), (⟨bt122.1, bt122.2⟩ : S24), (⟨bt124.1, bt124.2⟩ : S24), (⟨bt126.1, bt126.2⟩ : S24)] : List (S24)))).bind fun t131 => (some t131)))))) else (some false)) else (some false)) else (some false)) else (some false))) else (some false)))))) = some r := H
 have A1 := Aside0.mk A10
 clear A10
 replace H := Option.bind_eq_some_iff.mp H
 obtain ⟨⟨t104, t107⟩, A20, H⟩ := H
 replace H : ((schismaref04_Make.f k 3 5).bind fun bt108 => ((convergent_Path.f k bt108.1 bt108.2).bind fun bt110 => ((convergent_Best.f k t101 t102 7).bind fun bt112 => (if t107 = 0 then ((schismalaw04_ints.f k t104 (([0, 1, 1, 2, 2] : List Int))).bind fun t119 => (if t119 = true then (if bt110.2 = 0 then (if bt110.1.toList = ([76, 82, 76] : List UInt8) then (if bt112.2 = 0 then ((schismaref04_Make.f k 1 1).bind fun bt120 => ((schismaref04_Make.f k 1 2).bind fun bt122 => ((schismaref04_Make.f k 3 5).bind fun bt124 => ((schismaref04_Make.f k 4 7).bind fun bt126 => ((schismalaw04_same.f k bt112.1 (([(⟨bt120.1, bt120.2⟩ : S24), (⟨bt122.1, bt122.2⟩ : S24), (⟨bt124.1, bt124.2⟩ : S24), (⟨bt126.1, bt126.2⟩ : S24)] : List (S24)))).bind fun t131 => (some t131)))))) else (some false)) else (some false)) else (some false)) else (some false))) else (some false))))) = some r := H
 have A2 := Aside0.mk A20
 clear A20
 replace H := Option.bind_eq_some_iff.mp H
 obtain ⟨⟨t108, t109⟩, A30, H⟩ := H
 replace H : ((convergent_Path.f k t108 t109).bind fun bt110 => ((convergent_Best.f k t101 t102 7).bind fun bt112 => (if t107 = 0 then ((schismalaw04_ints.f k t104 (([0, 1, 1, 2, 2] : List Int))).bind fun t119 => (if t119 = true then (if bt110.2 = 0 then (if bt110.1.toList = ([76, 82, 76] : List UInt8) then (if bt112.2 = 0 then ((schismaref04_Make.f k 1 1).bind fun bt120 => ((schismaref04_Make.f k 1 2).bind fun bt122 => ((schismaref04_Make.f k 3 5).bind fun bt124 => ((schismaref04_Make.f k 4 7).bind fun bt126 => ((schismalaw04_same.f k bt112.1 (([(⟨bt120.1, bt120.2⟩ : S24), (⟨bt122.1, bt122.2⟩ : S24), (⟨bt124.1, bt124.2⟩ : S24), (⟨bt126.1, bt126.2⟩ : S24)] : List (S24)))).bind fun t131 => (some t131)))))) else (some false)) else (some false)) else (some false)) else (some false))) else (some false)))) = some r := H
 have A3 := Aside0.mk A30
 clear A30
 replace H := Option.bind_eq_some_iff.mp H
 obtain ⟨⟨t110, t111⟩, A40, H⟩ := H
 replace H : ((convergent_Best.f k t101 t102 7).bind fun bt112 => (if t107 = 0 then ((schismalaw04_ints.f k t104 (([0, 1, 1, 2, 2] : List Int))).bind fun t119 => (if t119 = true then (if t111 = 0 then (if t110.toList = ([76, 82, 76] : List UInt8) then (if bt112.2 = 0 then ((schismaref04_Make.f k 1 1).bind fun bt120 => ((schismaref04_Make.f k 1 2).bind fun bt122 => ((schismaref04_Make.f k 3 5).bind fun bt124 => ((schismaref04_Make.f k 4 7).bind fun bt126 => ((schismalaw04_same.f k bt112.1 (([(⟨bt120.1, bt120.2⟩ : S24), (⟨bt122.1, bt122.2⟩ : S24), (⟨bt124.1, bt124.2⟩ : S24), (⟨bt126.1, bt126.2⟩ : S24)] : List (S24)))).bind fun t131 => (some t131)))))) else (some false)) else (some false)) else (some false)) else (some false))) else (some false))) = some r := H
 have A4 := Aside0.mk A40
 clear A40
 replace H := Option.bind_eq_some_iff.mp H
 obtain ⟨⟨t112, t115⟩, A50, H⟩ := H
 replace H : (if t107 = 0 then ((schismalaw04_ints.f k t104 (([0, 1, 1, 2, 2] : List Int))).bind fun t119 => (if t119 = true then (if t111 = 0 then (if t110.toList = ([76, 82, 76] : List UInt8) then (if t115 = 0 then ((schismaref04_Make.f k 1 1).bind fun bt120 => ((schismaref04_Make.f k 1 2).bind fun bt122 => ((schismaref04_Make.f k 3 5).bind fun bt124 => ((schismaref04_Make.f k 4 7).bind fun bt126 => ((schismalaw04_same.f k t112 (([(⟨bt120.1, bt120.2⟩ : S24), (⟨bt122.1, bt122.2⟩ : S24), (⟨bt124.1, bt124.2⟩ : S24), (⟨bt126.1, bt126.2⟩ : S24)] : List (S24)))).bind fun t131 => (some t131)))))) else (some false)) else (some false)) else (some false)) else (some false))) else (some false)) = some r := H
 have A5 := Aside0.mk A50
 clear A50
 by_cases c6 : t107 = 0
 ·rw [if_pos c6] at H
  have c6b0 : (t107 == 0) = true := beq_iff_eq.mpr c6
  have c6b1 : (t107 != 0) = false := bne_eq_false_iff_eq.mpr c6
  clear c6
  obtain ⟨y116, hy116⟩ : ∃ y_ : List Int, y_ = (([0, 1, 1, 2, 2] : List Int)) := ⟨_, rfl⟩
  replace H : ((schismalaw04_ints.f k t104 y116).bind fun t119 => (if t119 = true then (if t111 = 0 then (if t110.toList = ([76, 82, 76] : List UInt8) then (if t115 = 0 then ((schismaref04_Make.f k 1 1).bind fun bt120 => ((schismaref04_Make.f k 1 2).bind fun bt122 => ((schismaref04_Make.f k 3 5).bind fun bt124 => ((schismaref04_Make.f k 4 7).bind fun bt126 => ((schismalaw04_same.f k t112 (([(⟨bt120.1, bt120.2⟩ : S24), (⟨bt122.1, bt122.2⟩ : S24), (⟨bt124.1, bt124.2⟩ : S24), (⟨bt126.1, bt126.2⟩ : S24)] : List (S24)))).bind fun t131 => (some t131)))))) else (some false)) else (some false)) else (some false)) else (some false))) = some r := by first | (rw [hy116]; with_reducible exact H) | (have H2_ := (Option.bind_some _ _).symm.trans H; rw [hy116]; with_reducible exact H2_) | (have H2_ := (Option.bind_some _ _).symm.trans H; with_reducible exact H2_) | with_reducible exact H | (rw [hy116]; exact H) | exact H
  have Ny116 := Aside0.mk hy116
  clear hy116
  replace H := Option.bind_eq_some_iff.mp H
  obtain ⟨t119, A70, H⟩ := H
  replace H : (if t119 = true then (if t111 = 0 then (if t110.toList = ([76, 82, 76] : List UInt8) then (if t115 = 0 then ((schismaref04_Make.f k 1 1).bind fun bt120 => ((schismaref04_Make.f k 1 2).bind fun bt122 => ((schismaref04_Make.f k 3 5).bind fun bt124 => ((schismaref04_Make.f k 4 7).bind fun bt126 => ((schismalaw04_same.f k t112 (([(⟨bt120.1, bt120.2⟩ : S24), (⟨bt122.1, bt122.2⟩ : S24), (⟨bt124.1, bt124.2⟩ : S24), (⟨bt126.1, bt126.2⟩ : S24)] : List (S24)))).bind fun t131 => (some t131)))))) else (some false)) else (some false)) else (some false)) else (some false)) = some r := H
  have A7 := Aside0.mk A70
  clear A70
  by_cases c8 : t119 = true
  ·subst c8
   have H1 : (if t111 = 0 then (if t110.toList = ([76, 82, 76] : List UInt8) then (if t115 = 0 then ((schismaref04_Make.f k 1 1).bind fun bt120 => ((schismaref04_Make.f k 1 2).bind fun bt122 => ((schismaref04_Make.f k 3 5).bind fun bt124 => ((schismaref04_Make.f k 4 7).bind fun bt126 => ((schismalaw04_same.f k t112 (([(⟨bt120.1, bt120.2⟩ : S24), (⟨bt122.1, bt122.2⟩ : S24), (⟨bt124.1, bt124.2⟩ : S24), (⟨bt126.1, bt126.2⟩ : S24)] : List (S24)))).bind fun t131 => (some t131)))))) else (some false)) else (some false)) else (some false)) = some r := by rw [if_pos rfl] at H; exact H
   clear H
   have H := H1
   clear H1
   by_cases c9 : t111 = 0
   ·rw [if_pos c9] at H
    have c9b0 : (t111 == 0) = true := beq_iff_eq.mpr c9
    have c9b1 : (t111 != 0) = false := bne_eq_false_iff_eq.mpr c9
    clear c9
    by_cases c10 : t110.toList = ([76, 82, 76] : List UInt8)
    ·rw [if_pos c10] at H
     have c10b0 : (t110.toList == ([76, 82, 76] : List UInt8)) = true := beq_iff_eq.mpr c10
     have c10b1 : (t110.toList != ([76, 82, 76] : List UInt8)) = false := bne_eq_false_iff_eq.mpr c10
     clear c10
     by_cases c11 : t115 = 0
     ·rw [if_pos c11] at H
      have c11b0 : (t115 == 0) = true := beq_iff_eq.mpr c11
      have c11b1 : (t115 != 0) = false := bne_eq_false_iff_eq.mpr c11
      clear c11
      replace H := Option.bind_eq_some_iff.mp H
      obtain ⟨⟨t120, t121⟩, A120, H⟩ := H
      replace H : ((schismaref04_Make.f k 1 2).bind fun bt122 => ((schismaref04_Make.f k 3 5).bind fun bt124 => ((schismaref04_Make.f k 4 7).bind fun bt126 => ((schismalaw04_same.f k t112 (([(⟨t120, t121⟩ : S24), (⟨bt122.1, bt122.2⟩ : S24), (⟨bt124.1, bt124.2⟩ : S24), (⟨bt126.1, bt126.2⟩ : S24)] : List (S24)))).bind fun t131 => (some t131))))) = some r := H
      have A12 := Aside0.mk A120
      clear A120
      replace H := Option.bind_eq_some_iff.mp H
      obtain ⟨⟨t122, t123⟩, A130, H⟩ := H
      replace H : ((schismaref04_Make.f k 3 5).bind fun bt124 => ((schismaref04_Make.f k 4 7).bind fun bt126 => ((schismalaw04_same.f k t112 (([(⟨t120, t121⟩ : S24), (⟨t122, t123⟩ : S24), (⟨bt124.1, bt124.2⟩ : S24), (⟨bt126.1, bt126.2⟩ : S24)] : List (S24)))).bind fun t131 => (some t131)))) = some r := H
      have A13 := Aside0.mk A130
      clear A130
      replace H := Option.bind_eq_some_iff.mp H
      obtain ⟨⟨t124, t125⟩, A140, H⟩ := H
      replace H : ((schismaref04_Make.f k 4 7).bind fun bt126 => ((schismalaw04_same.f k t112 (([(⟨t120, t121⟩ : S24), (⟨t122, t123⟩ : S24), (⟨t124, t125⟩ : S24), (⟨bt126.1, bt126.2⟩ : S24)] : List (S24)))).bind fun t131 => (some t131))) = some r := H
      have A14 := Aside0.mk A140
      clear A140
      replace H := Option.bind_eq_some_iff.mp H
      obtain ⟨⟨t126, t127⟩, A150, H⟩ := H
      replace H : ((schismalaw04_same.f k t112 (([(⟨t120, t121⟩ : S24), (⟨t122, t123⟩ : S24), (⟨t124, t125⟩ : S24), (⟨t126, t127⟩ : S24)] : List (S24)))).bind fun t131 => (some t131)) = some r := H
      have A15 := Aside0.mk A150
      clear A150
      obtain ⟨y128, hy128⟩ : ∃ y_ : List (S24), y_ = (([(⟨t120, t121⟩ : S24), (⟨t122, t123⟩ : S24), (⟨t124, t125⟩ : S24), (⟨t126, t127⟩ : S24)] : List (S24))) := ⟨_, rfl⟩
      replace H : ((schismalaw04_same.f k t112 y128).bind fun t131 => (some t131)) = some r := by first | (rw [hy128]; with_reducible exact H) | (have H2_ := (Option.bind_some _ _).symm.trans H; rw [hy128]; with_reducible exact H2_) | (have H2_ := (Option.bind_some _ _).symm.trans H; with_reducible exact H2_) | with_reducible exact H | (rw [hy128]; exact H) | exact H
      have Ny128 := Aside0.mk hy128
      clear hy128
      replace H := Option.bind_eq_some_iff.mp H
      obtain ⟨t131, A160, H⟩ := H
      replace H : (some t131) = some r := H
      have A16 := Aside0.mk A160
      clear A160
      obtain rfl := Option.some.inj H
      go_enter Tryz.func13, Tryz.ntmps13
      go_wp2_with (first | ((with_reducible refine gate_callee (f := 17) rfl ?_); refine goesL_ (some 8) rfl rfl Tryz.func17 (by kernel_rfl) rfl #[.int .i64 7, .int .i64 12] rfl (by (try simp only [List.map_toArray, List.map_cons, List.map_nil]); try rfl) ?_; (with_reducible refine (schismaref04_Make.calls k 7 12 t101 t102 _ A1.out).mono ?_); rintro e w17 ⟨rfl, hb⟩; refine ⟨_, rfl, ?_⟩; have n0_ := Aside0.mk (below_step (by repeat (first | (with_reducible first | exact HB.out | apply below_alloc | apply pw_below_drewN | apply below_drew1) | exact HB.out)) hb); clear HB; have HB := n0_; clear n0_; (try clear hb); (try clear hb2); (try clear hk); (try clear hi)) | ((with_reducible refine gate_dst (N := 1) rfl ?_); (try (refine gate_guard (by rfl) ?_; dsimp only)); refine box_event ?hg (N := 1) ?hd (cs := #[.string (⟨#[]⟩ : ByteArray), .string (⟨#[]⟩ : ByteArray)]) (t := 24) ?hr ?_; (case hd => rfl); (case hg => rfl); (case hr => first | (go_simp; done) | (go_simp; rfl)); intro gb103 hg w18 hbox hb; have n0_ := Aside0.mk (below_step (by repeat (first | (with_reducible first | exact HB.out | apply below_alloc | apply pw_below_drewN | apply below_drew1) | exact HB.out)) hb); have n1_ := Aside0.mk (hbox); have n2_ := Aside0.mk ((by rw [hg]; exact (below_size (by repeat (first | (with_reducible first | exact HB.out | apply below_alloc | apply pw_below_drewN | apply below_drew1) | exact HB.out))) : w.heap.size ≤ gb103)); have n3_ := Aside0.mk ((by rw [hg]; exact (below_size (by repeat (first | (with_reducible first | exact HB.out | apply below_alloc | apply pw_below_drewN | apply below_drew1) | exact HB.out))) : w.heap.size ≤ gb103)); clear HB; have HB := n0_; have BK103 := n1_; have GW103 := n2_; have GE103 := n3_; clear n0_ n1_ n2_ n3_; clear hb hbox hg; have hcz19_0 : w18.cell? ⟨gb103, 0, none⟩ = some (.string (⟨#[]⟩ : ByteArray)) := (blk_cell BK103.out 0).trans rfl; have hcz19_1 : w18.cell? ⟨gb103, 1, none⟩ = some (.string (⟨#[]⟩ : ByteArray)) := (blk_cell BK103.out 1).trans rfl; have hfz19_0 := blk_frozen BK103.out 0; have hfz19_1 := blk_frozen BK103.out 1) | ((with_reducible refine gate_callee (f := 19) rfl ?_); refine goesL_ (some 11) rfl rfl Tryz.func19 (by kernel_rfl) rfl #[.agg #[.string t101, .string t102]] rfl (by (try simp only [List.map_toArray, List.map_cons, List.map_nil]); try rfl) ?_; (with_reducible refine (convergent_Terms.calls k t101 t102 t104 t107 _ ?side1 A2.out).mono ?_); (case side1 => exact GWorld.below HG.out (by repeat (first | (with_reducible first | exact HB.out | apply below_alloc | apply pw_below_drewN | apply below_drew1 | refine below_set ?_ GE103.out) | exact HB.out))); rintro e w20 ⟨v105, rfl, ho0, hb⟩; refine ⟨_, rfl, ?_⟩; have n0_ := Aside0.mk (Kd.R_lower ho0 (below_size (by repeat (first | (with_reducible first | exact HB.out | apply below_alloc | apply pw_below_drewN | apply below_drew1 | refine below_set ?_ GE103.out) | exact HB.out)))); have n1_ := Aside0.mk (blk_below (g := gb103) (o := .cells #[.string t101, .string t102] 24 (0, 0)) (by (with_reducible repeat (first | refine blk_drewN ?_ _ | refine blk_drew ?_ | refine blk_alloc ?_ _)); refine blk_put (cs := #[.string t101, .string (⟨#[]⟩ : ByteArray)]) ?_ 1 _ rfl; (with_reducible repeat (first | refine blk_drewN ?_ _ | refine blk_drew ?_ | refine blk_alloc ?_ _)); refine blk_put (cs := #[.string (⟨#[]⟩ : ByteArray), .string (⟨#[]⟩ : ByteArray)]) ?_ 0 _ rfl; (with_reducible repeat (first | refine blk_drewN ?_ _ | refine blk_drew ?_ | refine blk_alloc ?_ _)); exact BK103.out) hb); have n2_ := Aside0.mk (below_step (by repeat (first | (with_reducible first | exact HB.out | apply below_alloc | apply pw_below_drewN | apply below_drew1 | refine below_set ?_ GE103.out) | exact HB.out)) hb); clear BK103; clear HB; have HO106 := n0_; have BK103 := n1_; have HB := n2_; clear n0_ n1_ n2_; (try clear hb); (try clear hb2); (try clear hk); (try clear hi); (try clear ho0)) | ((with_reducible refine gate_callee (f := 17) rfl ?_); refine goesL_ (some 15) rfl rfl Tryz.func17 (by kernel_rfl) rfl #[.int .i64 3, .int .i64 5] rfl (by (try simp only [List.map_toArray, List.map_cons, List.map_nil]); try rfl) ?_; (with_reducible refine (schismaref04_Make.calls k 3 5 t108 t109 _ A3.out).mono ?_); rintro e w21 ⟨rfl, hb⟩; refine ⟨_, rfl, ?_⟩; have n0_ := Aside0.mk (Kd.R_below (by (with_reducible repeat (first | apply Kd.R_alloc | apply Kd.R_drewN | apply Kd.R_drew)); exact HO106.out) hb); have n1_ := Aside0.mk (blk_below (g := gb103) (o := .cells #[.string t101, .string t102] 24 (0, 0)) (by (with_reducible repeat (first | refine blk_drewN ?_ _ | refine blk_drew ?_ | refine blk_alloc ?_ _)); exact BK103.out) hb); have n2_ := Aside0.mk (below_step (by repeat (first | (with_reducible first | exact HB.out | apply below_alloc | apply pw_below_drewN | apply below_drew1 | refine below_set ?_ GE103.out) | exact HB.out)) hb); clear HO106; clear BK103; clear HB; have HO106 := n0_; have BK103 := n1_; have HB := n2_; clear n0_ n1_ n2_; (try clear hb); (try clear hb2); (try clear hk); (try clear hi)) | ((with_reducible refine gate_callee (f := 32) rfl ?_); refine goesL_ (some 16) rfl rfl Tryz.func32 (by kernel_rfl) rfl #[.agg #[.string t108, .string t109]] rfl (by (try simp only [List.map_toArray, List.map_cons, List.map_nil]); try rfl) ?_; (with_reducible refine (convergent_Path.calls k t108 t109 t110 t111 _ ?side1 A4.out).mono ?_); (case side1 => exact GWorld.below HG.out (by repeat (first | (with_reducible first | exact HB.out | apply below_alloc | apply pw_below_drewN | apply below_drew1 | refine below_set ?_ GE103.out) | exact HB.out))); rintro e w22 ⟨rfl, hb⟩; refine ⟨_, rfl, ?_⟩; have n0_ := Aside0.mk (Kd.R_below (by (with_reducible repeat (first | apply Kd.R_alloc | apply Kd.R_drewN | apply Kd.R_drew)); exact HO106.out) hb); have n1_ := Aside0.mk (blk_below (g := gb103) (o := .cells #[.string t101, .string t102] 24 (0, 0)) (by (with_reducible repeat (first | refine blk_drewN ?_ _ | refine blk_drew ?_ | refine blk_alloc ?_ _)); exact BK103.out) hb); have n2_ := Aside0.mk (below_step (by repeat (first | (with_reducible first | exact HB.out | apply below_alloc | apply pw_below_drewN | apply below_drew1 | refine below_set ?_ GE103.out) | exact HB.out)) hb); clear HO106; clear BK103; clear HB; have HO106 := n0_; have BK103 := n1_; have HB := n2_; clear n0_ n1_ n2_; (try clear hb); (try clear hb2); (try clear hk); (try clear hi); have hcz23_0 : w22.cell? ⟨gb103, 0, none⟩ = some (.string t101) := (blk_cell BK103.out 0).trans rfl; have hcz23_1 : w22.cell? ⟨gb103, 1, none⟩ = some (.string t102) := (blk_cell BK103.out 1).trans rfl; have hfz23_0 := blk_frozen BK103.out 0; have hfz23_1 := blk_frozen BK103.out 1) | ((with_reducible refine gate_callee (f := 28) rfl ?_); refine goesL_ (some 21) rfl rfl Tryz.func28 (by kernel_rfl) rfl #[.agg #[.string t101, .string t102], .int .i64 7] rfl (by (try simp only [List.map_toArray, List.map_cons, List.map_nil]); try rfl) ?_; (with_reducible refine (convergent_Best.calls k t101 t102 7 t112 t115 _ ?side1 A5.out).mono ?_); (case side1 => exact GWorld.below HG.out (by repeat (first | (with_reducible first | exact HB.out | apply below_alloc | apply pw_below_drewN | apply below_drew1 | refine below_set ?_ GE103.out) | exact HB.out))); rintro e w24 ⟨v113, rfl, ho0, hb⟩; refine ⟨_, rfl, ?_⟩; have n0_ := Aside0.mk (Kd.R_below (by (with_reducible repeat (first | apply Kd.R_alloc | apply Kd.R_drewN | apply Kd.R_drew)); exact HO106.out) hb); have n1_ := Aside0.mk (Kd.R_lower (Kd.R_newB ho0 (g := gb103) (o := .cells #[.string t101, .string t102] 24 (0, 0)) (by (with_reducible repeat (first | refine blk_drewN ?_ _ | refine blk_drew ?_ | refine blk_alloc ?_ _)); exact BK103.out)) (below_size (by repeat (first | (with_reducible first | exact HB.out | apply below_alloc | apply pw_below_drewN | apply below_drew1 | refine below_set ?_ GE103.out) | exact HB.out)))); have n2_ := Aside0.mk (blk_below (g := gb103) (o := .cells #[.string t101, .string t102] 24 (0, 0)) (by (with_reducible repeat (first | refine blk_drewN ?_ _ | refine blk_drew ?_ | refine blk_alloc ?_ _)); exact BK103.out) hb); have n3_ := Aside0.mk (below_step (by repeat (first | (with_reducible first | exact HB.out | apply below_alloc | apply pw_below_drewN | apply below_drew1 | refine below_set ?_ GE103.out) | exact HB.out)) hb); clear HO106; clear BK103; clear HB; have HO106 := n0_; have HO114 := n1_; have BK103 := n2_; have HB := n3_; clear n0_ n1_ n2_ n3_; (try clear hb); (try clear hb2); (try clear hk); (try clear hi); (try clear ho0)) | ((with_reducible refine gate_dst (N := 28) rfl ?_); (try (refine gate_guard (by rfl) ?_; dsimp only)); refine Kd.R_lit (Kd.int .i64) _ 3 ?hg (N := 28) ?hd (xs := ([0, 1, 1, 2, 2] : List Int)) (inner := [.int .i64 0, .int .i64 1, .int .i64 1, .int .i64 2, .int .i64 2]) (ok := fun _ => True) (okp := fun _ => True) ?hr ?hp (fun _ hk => hk) trivial (Below.refl _ _) (Nat.le_refl _) (by simp) ?_; (case hd => rfl); (case hg => rfl); (case hr => first | (go_simp; done) | (go_simp; rfl)); (case hp => exact (Reps.one (show Kd.M (Kd.int .i64) _ _ _ 0 [.int .i64 0] from rfl) (Reps.one (show Kd.M (Kd.int .i64) _ _ _ 1 [.int .i64 1] from rfl) (Reps.one (show Kd.M (Kd.int .i64) _ _ _ 1 [.int .i64 1] from rfl) (Reps.one (show Kd.M (Kd.int .i64) _ _ _ 2 [.int .i64 2] from rfl) (Reps.one (show Kd.M (Kd.int .i64) _ _ _ 2 [.int .i64 2] from rfl) (Reps.none _ _))))))); intro v117 w25 ho26 hb hg_ hnew_; clear hg_ hnew_; (first | rw [← Ny116.out] at ho26 | (simp only [Int.reduceToNat] at ho26; rw [← Ny116.out] at ho26)); have n0_ := Aside0.mk (Kd.R_below (by (with_reducible repeat (first | apply Kd.R_alloc | apply Kd.R_drewN | apply Kd.R_drew)); exact HO106.out) hb); have n1_ := Aside0.mk (Kd.R_below (by (with_reducible repeat (first | apply Kd.R_alloc | apply Kd.R_drewN | apply Kd.R_drew)); exact HO114.out) hb); have n2_ := Aside0.mk (Kd.R_lower ho26 (below_size (by repeat (first | (with_reducible first | exact HB.out | apply below_alloc | apply pw_below_drewN | apply below_drew1 | refine below_set ?_ GE103.out) | exact HB.out)))); have n3_ := Aside0.mk (blk_below (g := gb103) (o := .cells #[.string t101, .string t102] 24 (0, 0)) (by (with_reducible repeat (first | refine blk_drewN ?_ _ | refine blk_drew ?_ | refine blk_alloc ?_ _)); exact BK103.out) hb); have n4_ := Aside0.mk (below_step (by repeat (first | (with_reducible first | exact HB.out | apply below_alloc | apply pw_below_drewN | apply below_drew1 | refine below_set ?_ GE103.out) | exact HB.out)) hb); clear HO106; clear HO114; clear BK103; clear HB; have HO106 := n0_; have HO114 := n1_; have HO118 := n2_; have BK103 := n3_; have HB := n4_; clear n0_ n1_ n2_ n3_ n4_; clear hb ho26; obtain ⟨Ao27, co27, eo27⟩ := Kd.R_slice HO106.out; subst eo27; obtain ⟨Ao28, co28, eo28⟩ := Kd.R_slice HO118.out; subst eo28) | (go_at_call 22; (with_reducible refine (schismalaw04_ints.calls k _ _ t104 _ _ y116 true _ ?side1 ?side2 ?side3 ?side4 A7.out).mono ?_); (case side1 => repeat (first | exact (Kd.R_reads' HO106.out).2.2 | (with_reducible refine Kd.C_alloc ?_ _) | (with_reducible refine Kd.C_drewN ?_ _) | (with_reducible refine Kd.C_drew ?_))); (case side2 => exact (Kd.R_reads' HO106.out).2.1); (case side3 => repeat (first | exact (Kd.R_reads' HO118.out).2.2 | (with_reducible refine Kd.C_alloc ?_ _) | (with_reducible refine Kd.C_drewN ?_ _) | (with_reducible refine Kd.C_drew ?_))); (case side4 => exact (Kd.R_reads' HO118.out).2.1); rintro e w29 ⟨rfl, hb⟩; have n0_ := Aside0.mk (Kd.R_below (by (with_reducible repeat (first | apply Kd.R_alloc | apply Kd.R_drewN | apply Kd.R_drew)); exact HO106.out) hb); have n1_ := Aside0.mk (Kd.R_below (by (with_reducible repeat (first | apply Kd.R_alloc | apply Kd.R_drewN | apply Kd.R_drew)); exact HO114.out) hb); have n2_ := Aside0.mk (Kd.R_below (by (with_reducible repeat (first | apply Kd.R_alloc | apply Kd.R_drewN | apply Kd.R_drew)); exact HO118.out) hb); have n3_ := Aside0.mk (blk_below (g := gb103) (o := .cells #[.string t101, .string t102] 24 (0, 0)) (by (with_reducible repeat (first | refine blk_drewN ?_ _ | refine blk_drew ?_ | refine blk_alloc ?_ _)); exact BK103.out) hb); have n4_ := Aside0.mk (below_step (by repeat (first | (with_reducible first | exact HB.out | apply below_alloc | apply pw_below_drewN | apply below_drew1 | refine below_set ?_ GE103.out) | exact HB.out)) hb); clear HO106; clear HO114; clear HO118; clear BK103; clear HB; have HO106 := n0_; have HO114 := n1_; have HO118 := n2_; have BK103 := n3_; have HB := n4_; clear n0_ n1_ n2_ n3_ n4_; (try clear hb); (try clear hb2); (try clear hk); (try clear hi)) | (go_at_call 17; (with_reducible refine (schismaref04_Make.calls k 1 1 t120 t121 _ A12.out).mono ?_); rintro e w30 ⟨rfl, hb⟩; have n0_ := Aside0.mk (Kd.R_below (by (with_reducible repeat (first | apply Kd.R_alloc | apply Kd.R_drewN | apply Kd.R_drew)); exact HO106.out) hb); have n1_ := Aside0.mk (Kd.R_below (by (with_reducible repeat (first | apply Kd.R_alloc | apply Kd.R_drewN | apply Kd.R_drew)); exact HO114.out) hb); have n2_ := Aside0.mk (Kd.R_below (by (with_reducible repeat (first | apply Kd.R_alloc | apply Kd.R_drewN | apply Kd.R_drew)); exact HO118.out) hb); have n3_ := Aside0.mk (blk_below (g := gb103) (o := .cells #[.string t101, .string t102] 24 (0, 0)) (by (with_reducible repeat (first | refine blk_drewN ?_ _ | refine blk_drew ?_ | refine blk_alloc ?_ _)); exact BK103.out) hb); have n4_ := Aside0.mk (below_step (by repeat (first | (with_reducible first | exact HB.out | apply below_alloc | apply pw_below_drewN | apply below_drew1 | refine below_set ?_ GE103.out) | exact HB.out)) hb); clear HO106; clear HO114; clear HO118; clear BK103; clear HB; have HO106 := n0_; have HO114 := n1_; have HO118 := n2_; have BK103 := n3_; have HB := n4_; clear n0_ n1_ n2_ n3_ n4_; (try clear hb); (try clear hb2); (try clear hk); (try clear hi)) | (go_at_call 17; (with_reducible refine (schismaref04_Make.calls k 1 2 t122 t123 _ A13.out).mono ?_); rintro e w31 ⟨rfl, hb⟩; have n0_ := Aside0.mk (Kd.R_below (by (with_reducible repeat (first | apply Kd.R_alloc | apply Kd.R_drewN | apply Kd.R_drew)); exact HO106.out) hb); have n1_ := Aside0.mk (Kd.R_below (by (with_reducible repeat (first | apply Kd.R_alloc | apply Kd.R_drewN | apply Kd.R_drew)); exact HO114.out) hb); have n2_ := Aside0.mk (Kd.R_below (by (with_reducible repeat (first | apply Kd.R_alloc | apply Kd.R_drewN | apply Kd.R_drew)); exact HO118.out) hb); have n3_ := Aside0.mk (blk_below (g := gb103) (o := .cells #[.string t101, .string t102] 24 (0, 0)) (by (with_reducible repeat (first | refine blk_drewN ?_ _ | refine blk_drew ?_ | refine blk_alloc ?_ _)); exact BK103.out) hb); have n4_ := Aside0.mk (below_step (by repeat (first | (with_reducible first | exact HB.out | apply below_alloc | apply pw_below_drewN | apply below_drew1 | refine below_set ?_ GE103.out) | exact HB.out)) hb); clear HO106; clear HO114; clear HO118; clear BK103; clear HB; have HO106 := n0_; have HO114 := n1_; have HO118 := n2_; have BK103 := n3_; have HB := n4_; clear n0_ n1_ n2_ n3_ n4_; (try clear hb); (try clear hb2); (try clear hk); (try clear hi)) | (go_at_call 17; (with_reducible refine (schismaref04_Make.calls k 3 5 t124 t125 _ A14.out).mono ?_); rintro e w32 ⟨rfl, hb⟩; have n0_ := Aside0.mk (Kd.R_below (by (with_reducible repeat (first | apply Kd.R_alloc | apply Kd.R_drewN | apply Kd.R_drew)); exact HO106.out) hb); have n1_ := Aside0.mk (Kd.R_below (by (with_reducible repeat (first | apply Kd.R_alloc | apply Kd.R_drewN | apply Kd.R_drew)); exact HO114.out) hb); have n2_ := Aside0.mk (Kd.R_below (by (with_reducible repeat (first | apply Kd.R_alloc | apply Kd.R_drewN | apply Kd.R_drew)); exact HO118.out) hb); have n3_ := Aside0.mk (blk_below (g := gb103) (o := .cells #[.string t101, .string t102] 24 (0, 0)) (by (with_reducible repeat (first | refine blk_drewN ?_ _ | refine blk_drew ?_ | refine blk_alloc ?_ _)); exact BK103.out) hb); have n4_ := Aside0.mk (below_step (by repeat (first | (with_reducible first | exact HB.out | apply below_alloc | apply pw_below_drewN | apply below_drew1 | refine below_set ?_ GE103.out) | exact HB.out)) hb); clear HO106; clear HO114; clear HO118; clear BK103; clear HB; have HO106 := n0_; have HO114 := n1_; have HO118 := n2_; have BK103 := n3_; have HB := n4_; clear n0_ n1_ n2_ n3_ n4_; (try clear hb); (try clear hb2); (try clear hk); (try clear hi)) | (go_at_call 17; (with_reducible refine (schismaref04_Make.calls k 4 7 t126 t127 _ A15.out).mono ?_); rintro e w33 ⟨rfl, hb⟩; have n0_ := Aside0.mk (Kd.R_below (by (with_reducible repeat (first | apply Kd.R_alloc | apply Kd.R_drewN | apply Kd.R_drew)); exact HO106.out) hb); have n1_ := Aside0.mk (Kd.R_below (by (with_reducible repeat (first | apply Kd.R_alloc | apply Kd.R_drewN | apply Kd.R_drew)); exact HO114.out) hb); have n2_ := Aside0.mk (Kd.R_below (by (with_reducible repeat (first | apply Kd.R_alloc | apply Kd.R_drewN | apply Kd.R_drew)); exact HO118.out) hb); have n3_ := Aside0.mk (blk_below (g := gb103) (o := .cells #[.string t101, .string t102] 24 (0, 0)) (by (with_reducible repeat (first | refine blk_drewN ?_ _ | refine blk_drew ?_ | refine blk_alloc ?_ _)); exact BK103.out) hb); have n4_ := Aside0.mk (below_step (by repeat (first | (with_reducible first | exact HB.out | apply below_alloc | apply pw_below_drewN | apply below_drew1 | refine below_set ?_ GE103.out) | exact HB.out)) hb); clear HO106; clear HO114; clear HO118; clear BK103; clear HB; have HO106 := n0_; have HO114 := n1_; have HO118 := n2_; have BK103 := n3_; have HB := n4_; clear n0_ n1_ n2_ n3_ n4_; (try clear hb); (try clear hb2); (try clear hk); (try clear hi)) | ((with_reducible refine gate_dst (N := 49) rfl ?_); (try (refine gate_guard (by rfl) ?_; dsimp only)); refine Kd.R_lit k24 _ 24 ?hg (N := 49) ?hd (xs := ([(⟨t120, t121⟩ : S24), (⟨t122, t123⟩ : S24), (⟨t124, t125⟩ : S24), (⟨t126, t127⟩ : S24)] : List (S24))) (inner := [.string t120, .string t121, .string t122, .string t123, .string t124, .string t125, .string t126, .string t127]) (ok := fun _ => True) (okp := fun _ => True) ?hr ?hp (fun _ hk => hk) trivial (Below.refl _ _) (Nat.le_refl _) (by simp) ?_; (case hd => rfl); (case hg => rfl); (case hr => first | (go_simp; done) | (go_simp; rfl)); (case hp => exact (Reps.c2 (show Kd.M k24 _ _ _ (⟨t120, t121⟩ : S24) [.string t120, .string t121] from (k24_mkM _ _ _ (⟨t120, t121⟩ : S24) )) (Reps.c2 (show Kd.M k24 _ _ _ (⟨t122, t123⟩ : S24) [.string t122, .string t123] from (k24_mkM _ _ _ (⟨t122, t123⟩ : S24) )) (Reps.c2 (show Kd.M k24 _ _ _ (⟨t124, t125⟩ : S24) [.string t124, .string t125] from (k24_mkM _ _ _ (⟨t124, t125⟩ : S24) )) (Reps.c2 (show Kd.M k24 _ _ _ (⟨t126, t127⟩ : S24) [.string t126, .string t127] from (k24_mkM _ _ _ (⟨t126, t127⟩ : S24) )) (Reps.none _ _)))))); intro v129 w34 ho35 hb hg_ hnew_; clear hg_ hnew_; (first | rw [← Ny128.out] at ho35 | (simp only [Int.reduceToNat] at ho35; rw [← Ny128.out] at ho35)); have n0_ := Aside0.mk (Kd.R_below (by (with_reducible repeat (first | apply Kd.R_alloc | apply Kd.R_drewN | apply Kd.R_drew)); exact HO106.out) hb); have n1_ := Aside0.mk (Kd.R_elder' (by (with_reducible repeat (first | apply Kd.R_alloc | apply Kd.R_drewN | apply Kd.R_drew)); exact HO114.out) (Kd.R_base ho35) hb); have n2_ := Aside0.mk (Kd.R_below (by (with_reducible repeat (first | apply Kd.R_alloc | apply Kd.R_drewN | apply Kd.R_drew)); exact HO118.out) hb); have n3_ := Aside0.mk (Kd.R_lower (Kd.R_newB (Kd.R_new' ho35 (Kd.R_lt (by (with_reducible repeat (first | apply Kd.R_alloc | apply Kd.R_drewN | apply Kd.R_drew)); exact HO114.out))) (g := gb103) (o := .cells #[.string t101, .string t102] 24 (0, 0)) (by (with_reducible repeat (first | refine blk_drewN ?_ _ | refine blk_drew ?_ | refine blk_alloc ?_ _)); exact BK103.out)) (below_size (by repeat (first | (with_reducible first | exact HB.out | apply below_alloc | apply pw_below_drewN | apply below_drew1 | refine below_set ?_ GE103.out) | exact HB.out)))); have n4_ := Aside0.mk (blk_below (g := gb103) (o := .cells #[.string t101, .string t102] 24 (0, 0)) (by (with_reducible repeat (first | refine blk_drewN ?_ _ | refine blk_drew ?_ | refine blk_alloc ?_ _)); exact BK103.out) hb); have n5_ := Aside0.mk (below_step (by repeat (first | (with_reducible first | exact HB.out | apply below_alloc | apply pw_below_drewN | apply below_drew1 | refine below_set ?_ GE103.out) | exact HB.out)) hb); clear HO106; clear HO114; clear HO118; clear BK103; clear HB; have HO106 := n0_; have HO114 := n1_; have HO118 := n2_; have HO130 := n3_; have BK103 := n4_; have HB := n5_; clear n0_ n1_ n2_ n3_ n4_ n5_; clear hb ho35; obtain ⟨Ao36, co36, eo36⟩ := Kd.R_slice HO114.out; subst eo36; obtain ⟨Ao37, co37, eo37⟩ := Kd.R_slice HO130.out; subst eo37) | (go_at_call 23; (with_reducible refine (schismalaw04_same.calls k _ _ t112 _ _ y128 t131 _ ?side1 ?side2 ?side3 ?side4 A16.out).mono ?_); (case side1 => repeat (first | exact (Kd.R_reads' HO114.out).2.2 | (with_reducible refine Kd.C_alloc ?_ _) | (with_reducible refine Kd.C_drewN ?_ _) | (with_reducible refine Kd.C_drew ?_))); (case side2 => exact (Kd.R_reads' HO114.out).2.1); (case side3 => repeat (first | exact (Kd.R_reads' HO130.out).2.2 | (with_reducible refine Kd.C_alloc ?_ _) | (with_reducible refine Kd.C_drewN ?_ _) | (with_reducible refine Kd.C_drew ?_))); (case side4 => exact (Kd.R_reads' HO130.out).2.1); rintro e w' ⟨rfl, ⟨nd, rfl⟩⟩))
      go_ret
      exact ⟨by first | rfl | (simp [*, errW_none, errW_some] <;> rfl), by repeat (first | (with_reducible first | exact HB.out | apply below_alloc | apply pw_below_drewN | apply below_drew1 | refine below_set ?_ GE103.out) | exact HB.out)⟩
     ·rw [if_neg c11] at H
      have c11b0 : (t115 == 0) = false := beq_eq_false_iff_ne.mpr c11
      have c11b1 : (t115 != 0) = true := bne_iff_ne.mpr c11
      obtain rfl := Option.some.inj H
      go_enter Tryz.func13, Tryz.ntmps13
      go_wp2_with (first | ((with_reducible refine gate_callee (f := 17) rfl ?_); refine goesL_ (some 8) rfl rfl Tryz.func17 (by kernel_rfl) rfl #[.int .i64 7, .int .i64 12] rfl (by (try simp only [List.map_toArray, List.map_cons, List.map_nil]); try rfl) ?_; (with_reducible refine (schismaref04_Make.calls k 7 12 t101 t102 _ A1.out).mono ?_); rintro e w38 ⟨rfl, hb⟩; refine ⟨_, rfl, ?_⟩; have n0_ := Aside0.mk (below_step (by repeat (first | (with_reducible first | exact HB.out | apply below_alloc | apply pw_below_drewN | apply below_drew1) | exact HB.out)) hb); clear HB; have HB := n0_; clear n0_; (try clear hb); (try clear hb2); (try clear hk); (try clear hi)) | ((with_reducible refine gate_dst (N := 1) rfl ?_); (try (refine gate_guard (by rfl) ?_; dsimp only)); refine box_event ?hg (N := 1) ?hd (cs := #[.string (⟨#[]⟩ : ByteArray), .string (⟨#[]⟩ : ByteArray)]) (t := 24) ?hr ?_; (case hd => rfl); (case hg => rfl); (case hr => first | (go_simp; done) | (go_simp; rfl)); intro gb103 hg w39 hbox hb; have n0_ := Aside0.mk (below_step (by repeat (first | (with_reducible first | exact HB.out | apply below_alloc | apply pw_below_drewN | apply below_drew1) | exact HB.out)) hb); have n1_ := Aside0.mk (hbox); have n2_ := Aside0.mk ((by rw [hg]; exact (below_size (by repeat (first | (with_reducible first | exact HB.out | apply below_alloc | apply pw_below_drewN | apply below_drew1) | exact HB.out))) : w.heap.size ≤ gb103)); have n3_ := Aside0.mk ((by rw [hg]; exact (below_size (by repeat (first | (with_reducible first | exact HB.out | apply below_alloc | apply pw_below_drewN | apply below_drew1) | exact HB.out))) : w.heap.size ≤ gb103)); clear HB; have HB := n0_; have BK103 := n1_; have GW103 := n2_; have GE103 := n3_; clear n0_ n1_ n2_ n3_; clear hb hbox hg; have hcz40_0 : w39.cell? ⟨gb103, 0, none⟩ = some (.string (⟨#[]⟩ : ByteArray)) := (blk_cell BK103.out 0).trans rfl; have hcz40_1 : w39.cell? ⟨gb103, 1, none⟩ = some (.string (⟨#[]⟩ : ByteArray)) := (blk_cell BK103.out 1).trans rfl; have hfz40_0 := blk_frozen BK103.out 0; have hfz40_1 := blk_frozen BK103.out 1) | ((with_reducible refine gate_callee (f := 19) rfl ?_); refine goesL_ (some 11) rfl rfl Tryz.func19 (by kernel_rfl) rfl #[.agg #[.string t101, .string t102]] rfl (by (try simp only [List.map_toArray, List.map_cons, List.map_nil]); try rfl) ?_; (with_reducible refine (convergent_Terms.calls k t101 t102 t104 t107 _ ?side1 A2.out).mono ?_); (case side1 => exact GWorld.below HG.out (by repeat (first | (with_reducible first | exact HB.out | apply below_alloc | apply pw_below_drewN | apply below_drew1 | refine below_set ?_ GE103.out) | exact HB.out))); rintro e w41 ⟨v105, rfl, ho0, hb⟩; refine ⟨_, rfl, ?_⟩; have n0_ := Aside0.mk (Kd.R_lower ho0 (below_size (by repeat (first | (with_reducible first | exact HB.out | apply below_alloc | apply pw_below_drewN | apply below_drew1 | refine below_set ?_ GE103.out) | exact HB.out)))); have n1_ := Aside0.mk (blk_below (g := gb103) (o := .cells #[.string t101, .string t102] 24 (0, 0)) (by (with_reducible repeat (first | refine blk_drewN ?_ _ | refine blk_drew ?_ | refine blk_alloc ?_ _)); refine blk_put (cs := #[.string t101, .string (⟨#[]⟩ : ByteArray)]) ?_ 1 _ rfl; (with_reducible repeat (first | refine blk_drewN ?_ _ | refine blk_drew ?_ | refine blk_alloc ?_ _)); refine blk_put (cs := #[.string (⟨#[]⟩ : ByteArray), .string (⟨#[]⟩ : ByteArray)]) ?_ 0 _ rfl; (with_reducible repeat (first | refine blk_drewN ?_ _ | refine blk_drew ?_ | refine blk_alloc ?_ _)); exact BK103.out) hb); have n2_ := Aside0.mk (below_step (by repeat (first | (with_reducible first | exact HB.out | apply below_alloc | apply pw_below_drewN | apply below_drew1 | refine below_set ?_ GE103.out) | exact HB.out)) hb); clear BK103; clear HB; have HO106 := n0_; have BK103 := n1_; have HB := n2_; clear n0_ n1_ n2_; (try clear hb); (try clear hb2); (try clear hk); (try clear hi); (try clear ho0)) | ((with_reducible refine gate_callee (f := 17) rfl ?_); refine goesL_ (some 15) rfl rfl Tryz.func17 (by kernel_rfl) rfl #[.int .i64 3, .int .i64 5] rfl (by (try simp only [List.map_toArray, List.map_cons, List.map_nil]); try rfl) ?_; (with_reducible refine (schismaref04_Make.calls k 3 5 t108 t109 _ A3.out).mono ?_); rintro e w42 ⟨rfl, hb⟩; refine ⟨_, rfl, ?_⟩; have n0_ := Aside0.mk (Kd.R_below (by (with_reducible repeat (first | apply Kd.R_alloc | apply Kd.R_drewN | apply Kd.R_drew)); exact HO106.out) hb); have n1_ := Aside0.mk (blk_below (g := gb103) (o := .cells #[.string t101, .string t102] 24 (0, 0)) (by (with_reducible repeat (first | refine blk_drewN ?_ _ | refine blk_drew ?_ | refine blk_alloc ?_ _)); exact BK103.out) hb); have n2_ := Aside0.mk (below_step (by repeat (first | (with_reducible first | exact HB.out | apply below_alloc | apply pw_below_drewN | apply below_drew1 | refine below_set ?_ GE103.out) | exact HB.out)) hb); clear HO106; clear BK103; clear HB; have HO106 := n0_; have BK103 := n1_; have HB := n2_; clear n0_ n1_ n2_; (try clear hb); (try clear hb2); (try clear hk); (try clear hi)) | ((with_reducible refine gate_callee (f := 32) rfl ?_); refine goesL_ (some 16) rfl rfl Tryz.func32 (by kernel_rfl) rfl #[.agg #[.string t108, .string t109]] rfl (by (try simp only [List.map_toArray, List.map_cons, List.map_nil]); try rfl) ?_; (with_reducible refine (convergent_Path.calls k t108 t109 t110 t111 _ ?side1 A4.out).mono ?_); (case side1 => exact GWorld.below HG.out (by repeat (first | (with_reducible first | exact HB.out | apply below_alloc | apply pw_below_drewN | apply below_drew1 | refine below_set ?_ GE103.out) | exact HB.out))); rintro e w43 ⟨rfl, hb⟩; refine ⟨_, rfl, ?_⟩; have n0_ := Aside0.mk (Kd.R_below (by (with_reducible repeat (first | apply Kd.R_alloc | apply Kd.R_drewN | apply Kd.R_drew)); exact HO106.out) hb); have n1_ := Aside0.mk (blk_below (g := gb103) (o := .cells #[.string t101, .string t102] 24 (0, 0)) (by (with_reducible repeat (first | refine blk_drewN ?_ _ | refine blk_drew ?_ | refine blk_alloc ?_ _)); exact BK103.out) hb); have n2_ := Aside0.mk (below_step (by repeat (first | (with_reducible first | exact HB.out | apply below_alloc | apply pw_below_drewN | apply below_drew1 | refine below_set ?_ GE103.out) | exact HB.out)) hb); clear HO106; clear BK103; clear HB; have HO106 := n0_; have BK103 := n1_; have HB := n2_; clear n0_ n1_ n2_; (try clear hb); (try clear hb2); (try clear hk); (try clear hi); have hcz44_0 : w43.cell? ⟨gb103, 0, none⟩ = some (.string t101) := (blk_cell BK103.out 0).trans rfl; have hcz44_1 : w43.cell? ⟨gb103, 1, none⟩ = some (.string t102) := (blk_cell BK103.out 1).trans rfl; have hfz44_0 := blk_frozen BK103.out 0; have hfz44_1 := blk_frozen BK103.out 1) | ((with_reducible refine gate_callee (f := 28) rfl ?_); refine goesL_ (some 21) rfl rfl Tryz.func28 (by kernel_rfl) rfl #[.agg #[.string t101, .string t102], .int .i64 7] rfl (by (try simp only [List.map_toArray, List.map_cons, List.map_nil]); try rfl) ?_; (with_reducible refine (convergent_Best.calls k t101 t102 7 t112 t115 _ ?side1 A5.out).mono ?_); (case side1 => exact GWorld.below HG.out (by repeat (first | (with_reducible first | exact HB.out | apply below_alloc | apply pw_below_drewN | apply below_drew1 | refine below_set ?_ GE103.out) | exact HB.out))); rintro e w45 ⟨v113, rfl, ho0, hb⟩; refine ⟨_, rfl, ?_⟩; have n0_ := Aside0.mk (Kd.R_below (by (with_reducible repeat (first | apply Kd.R_alloc | apply Kd.R_drewN | apply Kd.R_drew)); exact HO106.out) hb); have n1_ := Aside0.mk (Kd.R_lower (Kd.R_newB ho0 (g := gb103) (o := .cells #[.string t101, .string t102] 24 (0, 0)) (by (with_reducible repeat (first | refine blk_drewN ?_ _ | refine blk_drew ?_ | refine blk_alloc ?_ _)); exact BK103.out)) (below_size (by repeat (first | (with_reducible first | exact HB.out | apply below_alloc | apply pw_below_drewN | apply below_drew1 | refine below_set ?_ GE103.out) | exact HB.out)))); have n2_ := Aside0.mk (blk_below (g := gb103) (o := .cells #[.string t101, .string t102] 24 (0, 0)) (by (with_reducible repeat (first | refine blk_drewN ?_ _ | refine blk_drew ?_ | refine blk_alloc ?_ _)); exact BK103.out) hb); have n3_ := Aside0.mk (below_step (by repeat (first | (with_reducible first | exact HB.out | apply below_alloc | apply pw_below_drewN | apply below_drew1 | refine below_set ?_ GE103.out) | exact HB.out)) hb); clear HO106; clear BK103; clear HB; have HO106 := n0_; have HO114 := n1_; have BK103 := n2_; have HB := n3_; clear n0_ n1_ n2_ n3_; (try clear hb); (try clear hb2); (try clear hk); (try clear hi); (try clear ho0)) | ((with_reducible refine gate_dst (N := 28) rfl ?_); (try (refine gate_guard (by rfl) ?_; dsimp only)); refine Kd.R_lit (Kd.int .i64) _ 3 ?hg (N := 28) ?hd (xs := ([0, 1, 1, 2, 2] : List Int)) (inner := [.int .i64 0, .int .i64 1, .int .i64 1, .int .i64 2, .int .i64 2]) (ok := fun _ => True) (okp := fun _ => True) ?hr ?hp (fun _ hk => hk) trivial (Below.refl _ _) (Nat.le_refl _) (by simp) ?_; (case hd => rfl); (case hg => rfl); (case hr => first | (go_simp; done) | (go_simp; rfl)); (case hp => exact (Reps.one (show Kd.M (Kd.int .i64) _ _ _ 0 [.int .i64 0] from rfl) (Reps.one (show Kd.M (Kd.int .i64) _ _ _ 1 [.int .i64 1] from rfl) (Reps.one (show Kd.M (Kd.int .i64) _ _ _ 1 [.int .i64 1] from rfl) (Reps.one (show Kd.M (Kd.int .i64) _ _ _ 2 [.int .i64 2] from rfl) (Reps.one (show Kd.M (Kd.int .i64) _ _ _ 2 [.int .i64 2] from rfl) (Reps.none _ _))))))); intro v117 w46 ho47 hb hg_ hnew_; clear hg_ hnew_; (first | rw [← Ny116.out] at ho47 | (simp only [Int.reduceToNat] at ho47; rw [← Ny116.out] at ho47)); have n0_ := Aside0.mk (Kd.R_below (by (with_reducible repeat (first | apply Kd.R_alloc | apply Kd.R_drewN | apply Kd.R_drew)); exact HO106.out) hb); have n1_ := Aside0.mk (Kd.R_below (by (with_reducible repeat (first | apply Kd.R_alloc | apply Kd.R_drewN | apply Kd.R_drew)); exact HO114.out) hb); have n2_ := Aside0.mk (Kd.R_lower ho47 (below_size (by repeat (first | (with_reducible first | exact HB.out | apply below_alloc | apply pw_below_drewN | apply below_drew1 | refine below_set ?_ GE103.out) | exact HB.out)))); have n3_ := Aside0.mk (blk_below (g := gb103) (o := .cells #[.string t101, .string t102] 24 (0, 0)) (by (with_reducible repeat (first | refine blk_drewN ?_ _ | refine blk_drew ?_ | refine blk_alloc ?_ _)); exact BK103.out) hb); have n4_ := Aside0.mk (below_step (by repeat (first | (with_reducible first | exact HB.out | apply below_alloc | apply pw_below_drewN | apply below_drew1 | refine below_set ?_ GE103.out) | exact HB.out)) hb); clear HO106; clear HO114; clear BK103; clear HB; have HO106 := n0_; have HO114 := n1_; have HO118 := n2_; have BK103 := n3_; have HB := n4_; clear n0_ n1_ n2_ n3_ n4_; clear hb ho47; obtain ⟨Ao48, co48, eo48⟩ := Kd.R_slice HO106.out; subst eo48; obtain ⟨Ao49, co49, eo49⟩ := Kd.R_slice HO118.out; subst eo49) | (go_at_call 22; (with_reducible refine (schismalaw04_ints.calls k _ _ t104 _ _ y116 true _ ?side1 ?side2 ?side3 ?side4 A7.out).mono ?_); (case side1 => repeat (first | exact (Kd.R_reads' HO106.out).2.2 | (with_reducible refine Kd.C_alloc ?_ _) | (with_reducible refine Kd.C_drewN ?_ _) | (with_reducible refine Kd.C_drew ?_))); (case side2 => exact (Kd.R_reads' HO106.out).2.1); (case side3 => repeat (first | exact (Kd.R_reads' HO118.out).2.2 | (with_reducible refine Kd.C_alloc ?_ _) | (with_reducible refine Kd.C_drewN ?_ _) | (with_reducible refine Kd.C_drew ?_))); (case side4 => exact (Kd.R_reads' HO118.out).2.1); rintro e w50 ⟨rfl, hb⟩; have n0_ := Aside0.mk (Kd.R_below (by (with_reducible repeat (first | apply Kd.R_alloc | apply Kd.R_drewN | apply Kd.R_drew)); exact HO106.out) hb); have n1_ := Aside0.mk (Kd.R_below (by (with_reducible repeat (first | apply Kd.R_alloc | apply Kd.R_drewN | apply Kd.R_drew)); exact HO114.out) hb); have n2_ := Aside0.mk (Kd.R_below (by (with_reducible repeat (first | apply Kd.R_alloc | apply Kd.R_drewN | apply Kd.R_drew)); exact HO118.out) hb); have n3_ := Aside0.mk (blk_below (g := gb103) (o := .cells #[.string t101, .string t102] 24 (0, 0)) (by (with_reducible repeat (first | refine blk_drewN ?_ _ | refine blk_drew ?_ | refine blk_alloc ?_ _)); exact BK103.out) hb); have n4_ := Aside0.mk (below_step (by repeat (first | (with_reducible first | exact HB.out | apply below_alloc | apply pw_below_drewN | apply below_drew1 | refine below_set ?_ GE103.out) | exact HB.out)) hb); clear HO106; clear HO114; clear HO118; clear BK103; clear HB; have HO106 := n0_; have HO114 := n1_; have HO118 := n2_; have BK103 := n3_; have HB := n4_; clear n0_ n1_ n2_ n3_ n4_; (try clear hb); (try clear hb2); (try clear hk); (try clear hi)))
      go_ret
      exact ⟨by first | rfl | (simp [*, errW_none, errW_some] <;> rfl), by repeat (first | (with_reducible first | exact HB.out | apply below_alloc | apply pw_below_drewN | apply below_drew1 | refine below_set ?_ GE103.out) | exact HB.out)⟩
    ·rw [if_neg c10] at H
     have c10b0 : (t110.toList == ([76, 82, 76] : List UInt8)) = false := beq_eq_false_iff_ne.mpr c10
     have c10b1 : (t110.toList != ([76, 82, 76] : List UInt8)) = true := bne_iff_ne.mpr c10
     obtain rfl := Option.some.inj H
     go_enter Tryz.func13, Tryz.ntmps13
     go_wp2_with (first | ((with_reducible refine gate_callee (f := 17) rfl ?_); refine goesL_ (some 8) rfl rfl Tryz.func17 (by kernel_rfl) rfl #[.int .i64 7, .int .i64 12] rfl (by (try simp only [List.map_toArray, List.map_cons, List.map_nil]); try rfl) ?_; (with_reducible refine (schismaref04_Make.calls k 7 12 t101 t102 _ A1.out).mono ?_); rintro e w51 ⟨rfl, hb⟩; refine ⟨_, rfl, ?_⟩; have n0_ := Aside0.mk (below_step (by repeat (first | (with_reducible first | exact HB.out | apply below_alloc | apply pw_below_drewN | apply below_drew1) | exact HB.out)) hb); clear HB; have HB := n0_; clear n0_; (try clear hb); (try clear hb2); (try clear hk); (try clear hi)) | ((with_reducible refine gate_dst (N := 1) rfl ?_); (try (refine gate_guard (by rfl) ?_; dsimp only)); refine box_event ?hg (N := 1) ?hd (cs := #[.string (⟨#[]⟩ : ByteArray), .string (⟨#[]⟩ : ByteArray)]) (t := 24) ?hr ?_; (case hd => rfl); (case hg => rfl); (case hr => first | (go_simp; done) | (go_simp; rfl)); intro gb103 hg w52 hbox hb; have n0_ := Aside0.mk (below_step (by repeat (first | (with_reducible first | exact HB.out | apply below_alloc | apply pw_below_drewN | apply below_drew1) | exact HB.out)) hb); have n1_ := Aside0.mk (hbox); have n2_ := Aside0.mk ((by rw [hg]; exact (below_size (by repeat (first | (with_reducible first | exact HB.out | apply below_alloc | apply pw_below_drewN | apply below_drew1) | exact HB.out))) : w.heap.size ≤ gb103)); have n3_ := Aside0.mk ((by rw [hg]; exact (below_size (by repeat (first | (with_reducible first | exact HB.out | apply below_alloc | apply pw_below_drewN | apply below_drew1) | exact HB.out))) : w.heap.size ≤ gb103)); clear HB; have HB := n0_; have BK103 := n1_; have GW103 := n2_; have GE103 := n3_; clear n0_ n1_ n2_ n3_; clear hb hbox hg; have hcz53_0 : w52.cell? ⟨gb103, 0, none⟩ = some (.string (⟨#[]⟩ : ByteArray)) := (blk_cell BK103.out 0).trans rfl; have hcz53_1 : w52.cell? ⟨gb103, 1, none⟩ = some (.string (⟨#[]⟩ : ByteArray)) := (blk_cell BK103.out 1).trans rfl; have hfz53_0 := blk_frozen BK103.out 0; have hfz53_1 := blk_frozen BK103.out 1) | ((with_reducible refine gate_callee (f := 19) rfl ?_); refine goesL_ (some 11) rfl rfl Tryz.func19 (by kernel_rfl) rfl #[.agg #[.string t101, .string t102]] rfl (by (try simp only [List.map_toArray, List.map_cons, List.map_nil]); try rfl) ?_; (with_reducible refine (convergent_Terms.calls k t101 t102 t104 t107 _ ?side1 A2.out).mono ?_); (case side1 => exact GWorld.below HG.out (by repeat (first | (with_reducible first | exact HB.out | apply below_alloc | apply pw_below_drewN | apply below_drew1 | refine below_set ?_ GE103.out) | exact HB.out))); rintro e w54 ⟨v105, rfl, ho0, hb⟩; refine ⟨_, rfl, ?_⟩; have n0_ := Aside0.mk (Kd.R_lower ho0 (below_size (by repeat (first | (with_reducible first | exact HB.out | apply below_alloc | apply pw_below_drewN | apply below_drew1 | refine below_set ?_ GE103.out) | exact HB.out)))); have n1_ := Aside0.mk (blk_below (g := gb103) (o := .cells #[.string t101, .string t102] 24 (0, 0)) (by (with_reducible repeat (first | refine blk_drewN ?_ _ | refine blk_drew ?_ | refine blk_alloc ?_ _)); refine blk_put (cs := #[.string t101, .string (⟨#[]⟩ : ByteArray)]) ?_ 1 _ rfl; (with_reducible repeat (first | refine blk_drewN ?_ _ | refine blk_drew ?_ | refine blk_alloc ?_ _)); refine blk_put (cs := #[.string (⟨#[]⟩ : ByteArray), .string (⟨#[]⟩ : ByteArray)]) ?_ 0 _ rfl; (with_reducible repeat (first | refine blk_drewN ?_ _ | refine blk_drew ?_ | refine blk_alloc ?_ _)); exact BK103.out) hb); have n2_ := Aside0.mk (below_step (by repeat (first | (with_reducible first | exact HB.out | apply below_alloc | apply pw_below_drewN | apply below_drew1 | refine below_set ?_ GE103.out) | exact HB.out)) hb); clear BK103; clear HB; have HO106 := n0_; have BK103 := n1_; have HB := n2_; clear n0_ n1_ n2_; (try clear hb); (try clear hb2); (try clear hk); (try clear hi); (try clear ho0)) | ((with_reducible refine gate_callee (f := 17) rfl ?_); refine goesL_ (some 15) rfl rfl Tryz.func17 (by kernel_rfl) rfl #[.int .i64 3, .int .i64 5] rfl (by (try simp only [List.map_toArray, List.map_cons, List.map_nil]); try rfl) ?_; (with_reducible refine (schismaref04_Make.calls k 3 5 t108 t109 _ A3.out).mono ?_); rintro e w55 ⟨rfl, hb⟩; refine ⟨_, rfl, ?_⟩; have n0_ := Aside0.mk (Kd.R_below (by (with_reducible repeat (first | apply Kd.R_alloc | apply Kd.R_drewN | apply Kd.R_drew)); exact HO106.out) hb); have n1_ := Aside0.mk (blk_below (g := gb103) (o := .cells #[.string t101, .string t102] 24 (0, 0)) (by (with_reducible repeat (first | refine blk_drewN ?_ _ | refine blk_drew ?_ | refine blk_alloc ?_ _)); exact BK103.out) hb); have n2_ := Aside0.mk (below_step (by repeat (first | (with_reducible first | exact HB.out | apply below_alloc | apply pw_below_drewN | apply below_drew1 | refine below_set ?_ GE103.out) | exact HB.out)) hb); clear HO106; clear BK103; clear HB; have HO106 := n0_; have BK103 := n1_; have HB := n2_; clear n0_ n1_ n2_; (try clear hb); (try clear hb2); (try clear hk); (try clear hi)) | ((with_reducible refine gate_callee (f := 32) rfl ?_); refine goesL_ (some 16) rfl rfl Tryz.func32 (by kernel_rfl) rfl #[.agg #[.string t108, .string t109]] rfl (by (try simp only [List.map_toArray, List.map_cons, List.map_nil]); try rfl) ?_; (with_reducible refine (convergent_Path.calls k t108 t109 t110 t111 _ ?side1 A4.out).mono ?_); (case side1 => exact GWorld.below HG.out (by repeat (first | (with_reducible first | exact HB.out | apply below_alloc | apply pw_below_drewN | apply below_drew1 | refine below_set ?_ GE103.out) | exact HB.out))); rintro e w56 ⟨rfl, hb⟩; refine ⟨_, rfl, ?_⟩; have n0_ := Aside0.mk (Kd.R_below (by (with_reducible repeat (first | apply Kd.R_alloc | apply Kd.R_drewN | apply Kd.R_drew)); exact HO106.out) hb); have n1_ := Aside0.mk (blk_below (g := gb103) (o := .cells #[.string t101, .string t102] 24 (0, 0)) (by (with_reducible repeat (first | refine blk_drewN ?_ _ | refine blk_drew ?_ | refine blk_alloc ?_ _)); exact BK103.out) hb); have n2_ := Aside0.mk (below_step (by repeat (first | (with_reducible first | exact HB.out | apply below_alloc | apply pw_below_drewN | apply below_drew1 | refine below_set ?_ GE103.out) | exact HB.out)) hb); clear HO106; clear BK103; clear HB; have HO106 := n0_; have BK103 := n1_; have HB := n2_; clear n0_ n1_ n2_; (try clear hb); (try clear hb2); (try clear hk); (try clear hi); have hcz57_0 : w56.cell? ⟨gb103, 0, none⟩ = some (.string t101) := (blk_cell BK103.out 0).trans rfl; have hcz57_1 : w56.cell? ⟨gb103, 1, none⟩ = some (.string t102) := (blk_cell BK103.out 1).trans rfl; have hfz57_0 := blk_frozen BK103.out 0; have hfz57_1 := blk_frozen BK103.out 1) | ((with_reducible refine gate_callee (f := 28) rfl ?_); refine goesL_ (some 21) rfl rfl Tryz.func28 (by kernel_rfl) rfl #[.agg #[.string t101, .string t102], .int .i64 7] rfl (by (try simp only [List.map_toArray, List.map_cons, List.map_nil]); try rfl) ?_; (with_reducible refine (convergent_Best.calls k t101 t102 7 t112 t115 _ ?side1 A5.out).mono ?_); (case side1 => exact GWorld.below HG.out (by repeat (first | (with_reducible first | exact HB.out | apply below_alloc | apply pw_below_drewN | apply below_drew1 | refine below_set ?_ GE103.out) | exact HB.out))); rintro e w58 ⟨v113, rfl, ho0, hb⟩; refine ⟨_, rfl, ?_⟩; have n0_ := Aside0.mk (Kd.R_below (by (with_reducible repeat (first | apply Kd.R_alloc | apply Kd.R_drewN | apply Kd.R_drew)); exact HO106.out) hb); have n1_ := Aside0.mk (Kd.R_lower (Kd.R_newB ho0 (g := gb103) (o := .cells #[.string t101, .string t102] 24 (0, 0)) (by (with_reducible repeat (first | refine blk_drewN ?_ _ | refine blk_drew ?_ | refine blk_alloc ?_ _)); exact BK103.out)) (below_size (by repeat (first | (with_reducible first | exact HB.out | apply below_alloc | apply pw_below_drewN | apply below_drew1 | refine below_set ?_ GE103.out) | exact HB.out)))); have n2_ := Aside0.mk (blk_below (g := gb103) (o := .cells #[.string t101, .string t102] 24 (0, 0)) (by (with_reducible repeat (first | refine blk_drewN ?_ _ | refine blk_drew ?_ | refine blk_alloc ?_ _)); exact BK103.out) hb); have n3_ := Aside0.mk (below_step (by repeat (first | (with_reducible first | exact HB.out | apply below_alloc | apply pw_below_drewN | apply below_drew1 | refine below_set ?_ GE103.out) | exact HB.out)) hb); clear HO106; clear BK103; clear HB; have HO106 := n0_; have HO114 := n1_; have BK103 := n2_; have HB := n3_; clear n0_ n1_ n2_ n3_; (try clear hb); (try clear hb2); (try clear hk); (try clear hi); (try clear ho0)) | ((with_reducible refine gate_dst (N := 28) rfl ?_); (try (refine gate_guard (by rfl) ?_; dsimp only)); refine Kd.R_lit (Kd.int .i64) _ 3 ?hg (N := 28) ?hd (xs := ([0, 1, 1, 2, 2] : List Int)) (inner := [.int .i64 0, .int .i64 1, .int .i64 1, .int .i64 2, .int .i64 2]) (ok := fun _ => True) (okp := fun _ => True) ?hr ?hp (fun _ hk => hk) trivial (Below.refl _ _) (Nat.le_refl _) (by simp) ?_; (case hd => rfl); (case hg => rfl); (case hr => first | (go_simp; done) | (go_simp; rfl)); (case hp => exact (Reps.one (show Kd.M (Kd.int .i64) _ _ _ 0 [.int .i64 0] from rfl) (Reps.one (show Kd.M (Kd.int .i64) _ _ _ 1 [.int .i64 1] from rfl) (Reps.one (show Kd.M (Kd.int .i64) _ _ _ 1 [.int .i64 1] from rfl) (Reps.one (show Kd.M (Kd.int .i64) _ _ _ 2 [.int .i64 2] from rfl) (Reps.one (show Kd.M (Kd.int .i64) _ _ _ 2 [.int .i64 2] from rfl) (Reps.none _ _))))))); intro v117 w59 ho60 hb hg_ hnew_; clear hg_ hnew_; (first | rw [← Ny116.out] at ho60 | (simp only [Int.reduceToNat] at ho60; rw [← Ny116.out] at ho60)); have n0_ := Aside0.mk (Kd.R_below (by (with_reducible repeat (first | apply Kd.R_alloc | apply Kd.R_drewN | apply Kd.R_drew)); exact HO106.out) hb); have n1_ := Aside0.mk (Kd.R_below (by (with_reducible repeat (first | apply Kd.R_alloc | apply Kd.R_drewN | apply Kd.R_drew)); exact HO114.out) hb); have n2_ := Aside0.mk (Kd.R_lower ho60 (below_size (by repeat (first | (with_reducible first | exact HB.out | apply below_alloc | apply pw_below_drewN | apply below_drew1 | refine below_set ?_ GE103.out) | exact HB.out)))); have n3_ := Aside0.mk (blk_below (g := gb103) (o := .cells #[.string t101, .string t102] 24 (0, 0)) (by (with_reducible repeat (first | refine blk_drewN ?_ _ | refine blk_drew ?_ | refine blk_alloc ?_ _)); exact BK103.out) hb); have n4_ := Aside0.mk (below_step (by repeat (first | (with_reducible first | exact HB.out | apply below_alloc | apply pw_below_drewN | apply below_drew1 | refine below_set ?_ GE103.out) | exact HB.out)) hb); clear HO106; clear HO114; clear BK103; clear HB; have HO106 := n0_; have HO114 := n1_; have HO118 := n2_; have BK103 := n3_; have HB := n4_; clear n0_ n1_ n2_ n3_ n4_; clear hb ho60; obtain ⟨Ao61, co61, eo61⟩ := Kd.R_slice HO106.out; subst eo61; obtain ⟨Ao62, co62, eo62⟩ := Kd.R_slice HO118.out; subst eo62) | (go_at_call 22; (with_reducible refine (schismalaw04_ints.calls k _ _ t104 _ _ y116 true _ ?side1 ?side2 ?side3 ?side4 A7.out).mono ?_); (case side1 => repeat (first | exact (Kd.R_reads' HO106.out).2.2 | (with_reducible refine Kd.C_alloc ?_ _) | (with_reducible refine Kd.C_drewN ?_ _) | (with_reducible refine Kd.C_drew ?_))); (case side2 => exact (Kd.R_reads' HO106.out).2.1); (case side3 => repeat (first | exact (Kd.R_reads' HO118.out).2.2 | (with_reducible refine Kd.C_alloc ?_ _) | (with_reducible refine Kd.C_drewN ?_ _) | (with_reducible refine Kd.C_drew ?_))); (case side4 => exact (Kd.R_reads' HO118.out).2.1); rintro e w63 ⟨rfl, hb⟩; have n0_ := Aside0.mk (Kd.R_below (by (with_reducible repeat (first | apply Kd.R_alloc | apply Kd.R_drewN | apply Kd.R_drew)); exact HO106.out) hb); have n1_ := Aside0.mk (Kd.R_below (by (with_reducible repeat (first | apply Kd.R_alloc | apply Kd.R_drewN | apply Kd.R_drew)); exact HO114.out) hb); have n2_ := Aside0.mk (Kd.R_below (by (with_reducible repeat (first | apply Kd.R_alloc | apply Kd.R_drewN | apply Kd.R_drew)); exact HO118.out) hb); have n3_ := Aside0.mk (blk_below (g := gb103) (o := .cells #[.string t101, .string t102] 24 (0, 0)) (by (with_reducible repeat (first | refine blk_drewN ?_ _ | refine blk_drew ?_ | refine blk_alloc ?_ _)); exact BK103.out) hb); have n4_ := Aside0.mk (below_step (by repeat (first | (with_reducible first | exact HB.out | apply below_alloc | apply pw_below_drewN | apply below_drew1 | refine below_set ?_ GE103.out) | exact HB.out)) hb); clear HO106; clear HO114; clear HO118; clear BK103; clear HB; have HO106 := n0_; have HO114 := n1_; have HO118 := n2_; have BK103 := n3_; have HB := n4_; clear n0_ n1_ n2_ n3_ n4_; (try clear hb); (try clear hb2); (try clear hk); (try clear hi)))
     go_ret
     exact ⟨by first | rfl | (simp [*, errW_none, errW_some] <;> rfl), by repeat (first | (with_reducible first | exact HB.out | apply below_alloc | apply pw_below_drewN | apply below_drew1 | refine below_set ?_ GE103.out) | exact HB.out)⟩
   ·rw [if_neg c9] at H
    have c9b0 : (t111 == 0) = false := beq_eq_false_iff_ne.mpr c9
    have c9b1 : (t111 != 0) = true := bne_iff_ne.mpr c9
    obtain rfl := Option.some.inj H
    go_enter Tryz.func13, Tryz.ntmps13
    go_wp2_with (first | ((with_reducible refine gate_callee (f := 17) rfl ?_); refine goesL_ (some 8) rfl rfl Tryz.func17 (by kernel_rfl) rfl #[.int .i64 7, .int .i64 12] rfl (by (try simp only [List.map_toArray, List.map_cons, List.map_nil]); try rfl) ?_; (with_reducible refine (schismaref04_Make.calls k 7 12 t101 t102 _ A1.out).mono ?_); rintro e w64 ⟨rfl, hb⟩; refine ⟨_, rfl, ?_⟩; have n0_ := Aside0.mk (below_step (by repeat (first | (with_reducible first | exact HB.out | apply below_alloc | apply pw_below_drewN | apply below_drew1) | exact HB.out)) hb); clear HB; have HB := n0_; clear n0_; (try clear hb); (try clear hb2); (try clear hk); (try clear hi)) | ((with_reducible refine gate_dst (N := 1) rfl ?_); (try (refine gate_guard (by rfl) ?_; dsimp only)); refine box_event ?hg (N := 1) ?hd (cs := #[.string (⟨#[]⟩ : ByteArray), .string (⟨#[]⟩ : ByteArray)]) (t := 24) ?hr ?_; (case hd => rfl); (case hg => rfl); (case hr => first | (go_simp; done) | (go_simp; rfl)); intro gb103 hg w65 hbox hb; have n0_ := Aside0.mk (below_step (by repeat (first | (with_reducible first | exact HB.out | apply below_alloc | apply pw_below_drewN | apply below_drew1) | exact HB.out)) hb); have n1_ := Aside0.mk (hbox); have n2_ := Aside0.mk ((by rw [hg]; exact (below_size (by repeat (first | (with_reducible first | exact HB.out | apply below_alloc | apply pw_below_drewN | apply below_drew1) | exact HB.out))) : w.heap.size ≤ gb103)); have n3_ := Aside0.mk ((by rw [hg]; exact (below_size (by repeat (first | (with_reducible first | exact HB.out | apply below_alloc | apply pw_below_drewN | apply below_drew1) | exact HB.out))) : w.heap.size ≤ gb103)); clear HB; have HB := n0_; have BK103 := n1_; have GW103 := n2_; have GE103 := n3_; clear n0_ n1_ n2_ n3_; clear hb hbox hg; have hcz66_0 : w65.cell? ⟨gb103, 0, none⟩ = some (.string (⟨#[]⟩ : ByteArray)) := (blk_cell BK103.out 0).trans rfl; have hcz66_1 : w65.cell? ⟨gb103, 1, none⟩ = some (.string (⟨#[]⟩ : ByteArray)) := (blk_cell BK103.out 1).trans rfl; have hfz66_0 := blk_frozen BK103.out 0; have hfz66_1 := blk_frozen BK103.out 1) | ((with_reducible refine gate_callee (f := 19) rfl ?_); refine goesL_ (some 11) rfl rfl Tryz.func19 (by kernel_rfl) rfl #[.agg #[.string t101, .string t102]] rfl (by (try simp only [List.map_toArray, List.map_cons, List.map_nil]); try rfl) ?_; (with_reducible refine (convergent_Terms.calls k t101 t102 t104 t107 _ ?side1 A2.out).mono ?_); (case side1 => exact GWorld.below HG.out (by repeat (first | (with_reducible first | exact HB.out | apply below_alloc | apply pw_below_drewN | apply below_drew1 | refine below_set ?_ GE103.out) | exact HB.out))); rintro e w67 ⟨v105, rfl, ho0, hb⟩; refine ⟨_, rfl, ?_⟩; have n0_ := Aside0.mk (Kd.R_lower ho0 (below_size (by repeat (first | (with_reducible first | exact HB.out | apply below_alloc | apply pw_below_drewN | apply below_drew1 | refine below_set ?_ GE103.out) | exact HB.out)))); have n1_ := Aside0.mk (blk_below (g := gb103) (o := .cells #[.string t101, .string t102] 24 (0, 0)) (by (with_reducible repeat (first | refine blk_drewN ?_ _ | refine blk_drew ?_ | refine blk_alloc ?_ _)); refine blk_put (cs := #[.string t101, .string (⟨#[]⟩ : ByteArray)]) ?_ 1 _ rfl; (with_reducible repeat (first | refine blk_drewN ?_ _ | refine blk_drew ?_ | refine blk_alloc ?_ _)); refine blk_put (cs := #[.string (⟨#[]⟩ : ByteArray), .string (⟨#[]⟩ : ByteArray)]) ?_ 0 _ rfl; (with_reducible repeat (first | refine blk_drewN ?_ _ | refine blk_drew ?_ | refine blk_alloc ?_ _)); exact BK103.out) hb); have n2_ := Aside0.mk (below_step (by repeat (first | (with_reducible first | exact HB.out | apply below_alloc | apply pw_below_drewN | apply below_drew1 | refine below_set ?_ GE103.out) | exact HB.out)) hb); clear BK103; clear HB; have HO106 := n0_; have BK103 := n1_; have HB := n2_; clear n0_ n1_ n2_; (try clear hb); (try clear hb2); (try clear hk); (try clear hi); (try clear ho0)) | ((with_reducible refine gate_callee (f := 17) rfl ?_); refine goesL_ (some 15) rfl rfl Tryz.func17 (by kernel_rfl) rfl #[.int .i64 3, .int .i64 5] rfl (by (try simp only [List.map_toArray, List.map_cons, List.map_nil]); try rfl) ?_; (with_reducible refine (schismaref04_Make.calls k 3 5 t108 t109 _ A3.out).mono ?_); rintro e w68 ⟨rfl, hb⟩; refine ⟨_, rfl, ?_⟩; have n0_ := Aside0.mk (Kd.R_below (by (with_reducible repeat (first | apply Kd.R_alloc | apply Kd.R_drewN | apply Kd.R_drew)); exact HO106.out) hb); have n1_ := Aside0.mk (blk_below (g := gb103) (o := .cells #[.string t101, .string t102] 24 (0, 0)) (by (with_reducible repeat (first | refine blk_drewN ?_ _ | refine blk_drew ?_ | refine blk_alloc ?_ _)); exact BK103.out) hb); have n2_ := Aside0.mk (below_step (by repeat (first | (with_reducible first | exact HB.out | apply below_alloc | apply pw_below_drewN | apply below_drew1 | refine below_set ?_ GE103.out) | exact HB.out)) hb); clear HO106; clear BK103; clear HB; have HO106 := n0_; have BK103 := n1_; have HB := n2_; clear n0_ n1_ n2_; (try clear hb); (try clear hb2); (try clear hk); (try clear hi)) | ((with_reducible refine gate_callee (f := 32) rfl ?_); refine goesL_ (some 16) rfl rfl Tryz.func32 (by kernel_rfl) rfl #[.agg #[.string t108, .string t109]] rfl (by (try simp only [List.map_toArray, List.map_cons, List.map_nil]); try rfl) ?_; (with_reducible refine (convergent_Path.calls k t108 t109 t110 t111 _ ?side1 A4.out).mono ?_); (case side1 => exact GWorld.below HG.out (by repeat (first | (with_reducible first | exact HB.out | apply below_alloc | apply pw_below_drewN | apply below_drew1 | refine below_set ?_ GE103.out) | exact HB.out))); rintro e w69 ⟨rfl, hb⟩; refine ⟨_, rfl, ?_⟩; have n0_ := Aside0.mk (Kd.R_below (by (with_reducible repeat (first | apply Kd.R_alloc | apply Kd.R_drewN | apply Kd.R_drew)); exact HO106.out) hb); have n1_ := Aside0.mk (blk_below (g := gb103) (o := .cells #[.string t101, .string t102] 24 (0, 0)) (by (with_reducible repeat (first | refine blk_drewN ?_ _ | refine blk_drew ?_ | refine blk_alloc ?_ _)); exact BK103.out) hb); have n2_ := Aside0.mk (below_step (by repeat (first | (with_reducible first | exact HB.out | apply below_alloc | apply pw_below_drewN | apply below_drew1 | refine below_set ?_ GE103.out) | exact HB.out)) hb); clear HO106; clear BK103; clear HB; have HO106 := n0_; have BK103 := n1_; have HB := n2_; clear n0_ n1_ n2_; (try clear hb); (try clear hb2); (try clear hk); (try clear hi); have hcz70_0 : w69.cell? ⟨gb103, 0, none⟩ = some (.string t101) := (blk_cell BK103.out 0).trans rfl; have hcz70_1 : w69.cell? ⟨gb103, 1, none⟩ = some (.string t102) := (blk_cell BK103.out 1).trans rfl; have hfz70_0 := blk_frozen BK103.out 0; have hfz70_1 := blk_frozen BK103.out 1) | ((with_reducible refine gate_callee (f := 28) rfl ?_); refine goesL_ (some 21) rfl rfl Tryz.func28 (by kernel_rfl) rfl #[.agg #[.string t101, .string t102], .int .i64 7] rfl (by (try simp only [List.map_toArray, List.map_cons, List.map_nil]); try rfl) ?_; (with_reducible refine (convergent_Best.calls k t101 t102 7 t112 t115 _ ?side1 A5.out).mono ?_); (case side1 => exact GWorld.below HG.out (by repeat (first | (with_reducible first | exact HB.out | apply below_alloc | apply pw_below_drewN | apply below_drew1 | refine below_set ?_ GE103.out) | exact HB.out))); rintro e w71 ⟨v113, rfl, ho0, hb⟩; refine ⟨_, rfl, ?_⟩; have n0_ := Aside0.mk (Kd.R_below (by (with_reducible repeat (first | apply Kd.R_alloc | apply Kd.R_drewN | apply Kd.R_drew)); exact HO106.out) hb); have n1_ := Aside0.mk (Kd.R_lower (Kd.R_newB ho0 (g := gb103) (o := .cells #[.string t101, .string t102] 24 (0, 0)) (by (with_reducible repeat (first | refine blk_drewN ?_ _ | refine blk_drew ?_ | refine blk_alloc ?_ _)); exact BK103.out)) (below_size (by repeat (first | (with_reducible first | exact HB.out | apply below_alloc | apply pw_below_drewN | apply below_drew1 | refine below_set ?_ GE103.out) | exact HB.out)))); have n2_ := Aside0.mk (blk_below (g := gb103) (o := .cells #[.string t101, .string t102] 24 (0, 0)) (by (with_reducible repeat (first | refine blk_drewN ?_ _ | refine blk_drew ?_ | refine blk_alloc ?_ _)); exact BK103.out) hb); have n3_ := Aside0.mk (below_step (by repeat (first | (with_reducible first | exact HB.out | apply below_alloc | apply pw_below_drewN | apply below_drew1 | refine below_set ?_ GE103.out) | exact HB.out)) hb); clear HO106; clear BK103; clear HB; have HO106 := n0_; have HO114 := n1_; have BK103 := n2_; have HB := n3_; clear n0_ n1_ n2_ n3_; (try clear hb); (try clear hb2); (try clear hk); (try clear hi); (try clear ho0)) | ((with_reducible refine gate_dst (N := 28) rfl ?_); (try (refine gate_guard (by rfl) ?_; dsimp only)); refine Kd.R_lit (Kd.int .i64) _ 3 ?hg (N := 28) ?hd (xs := ([0, 1, 1, 2, 2] : List Int)) (inner := [.int .i64 0, .int .i64 1, .int .i64 1, .int .i64 2, .int .i64 2]) (ok := fun _ => True) (okp := fun _ => True) ?hr ?hp (fun _ hk => hk) trivial (Below.refl _ _) (Nat.le_refl _) (by simp) ?_; (case hd => rfl); (case hg => rfl); (case hr => first | (go_simp; done) | (go_simp; rfl)); (case hp => exact (Reps.one (show Kd.M (Kd.int .i64) _ _ _ 0 [.int .i64 0] from rfl) (Reps.one (show Kd.M (Kd.int .i64) _ _ _ 1 [.int .i64 1] from rfl) (Reps.one (show Kd.M (Kd.int .i64) _ _ _ 1 [.int .i64 1] from rfl) (Reps.one (show Kd.M (Kd.int .i64) _ _ _ 2 [.int .i64 2] from rfl) (Reps.one (show Kd.M (Kd.int .i64) _ _ _ 2 [.int .i64 2] from rfl) (Reps.none _ _))))))); intro v117 w72 ho73 hb hg_ hnew_; clear hg_ hnew_; (first | rw [← Ny116.out] at ho73 | (simp only [Int.reduceToNat] at ho73; rw [← Ny116.out] at ho73)); have n0_ := Aside0.mk (Kd.R_below (by (with_reducible repeat (first | apply Kd.R_alloc | apply Kd.R_drewN | apply Kd.R_drew)); exact HO106.out) hb); have n1_ := Aside0.mk (Kd.R_below (by (with_reducible repeat (first | apply Kd.R_alloc | apply Kd.R_drewN | apply Kd.R_drew)); exact HO114.out) hb); have n2_ := Aside0.mk (Kd.R_lower ho73 (below_size (by repeat (first | (with_reducible first | exact HB.out | apply below_alloc | apply pw_below_drewN | apply below_drew1 | refine below_set ?_ GE103.out) | exact HB.out)))); have n3_ := Aside0.mk (blk_below (g := gb103) (o := .cells #[.string t101, .string t102] 24 (0, 0)) (by (with_reducible repeat (first | refine blk_drewN ?_ _ | refine blk_drew ?_ | refine blk_alloc ?_ _)); exact BK103.out) hb); have n4_ := Aside0.mk (below_step (by repeat (first | (with_reducible first | exact HB.out | apply below_alloc | apply pw_below_drewN | apply below_drew1 | refine below_set ?_ GE103.out) | exact HB.out)) hb); clear HO106; clear HO114; clear BK103; clear HB; have HO106 := n0_; have HO114 := n1_; have HO118 := n2_; have BK103 := n3_; have HB := n4_; clear n0_ n1_ n2_ n3_ n4_; clear hb ho73; obtain ⟨Ao74, co74, eo74⟩ := Kd.R_slice HO106.out; subst eo74; obtain ⟨Ao75, co75, eo75⟩ := Kd.R_slice HO118.out; subst eo75) | (go_at_call 22; (with_reducible refine (schismalaw04_ints.calls k _ _ t104 _ _ y116 true _ ?side1 ?side2 ?side3 ?side4 A7.out).mono ?_); (case side1 => repeat (first | exact (Kd.R_reads' HO106.out).2.2 | (with_reducible refine Kd.C_alloc ?_ _) | (with_reducible refine Kd.C_drewN ?_ _) | (with_reducible refine Kd.C_drew ?_))); (case side2 => exact (Kd.R_reads' HO106.out).2.1); (case side3 => repeat (first | exact (Kd.R_reads' HO118.out).2.2 | (with_reducible refine Kd.C_alloc ?_ _) | (with_reducible refine Kd.C_drewN ?_ _) | (with_reducible refine Kd.C_drew ?_))); (case side4 => exact (Kd.R_reads' HO118.out).2.1); rintro e w76 ⟨rfl, hb⟩; have n0_ := Aside0.mk (Kd.R_below (by (with_reducible repeat (first | apply Kd.R_alloc | apply Kd.R_drewN | apply Kd.R_drew)); exact HO106.out) hb); have n1_ := Aside0.mk (Kd.R_below (by (with_reducible repeat (first | apply Kd.R_alloc | apply Kd.R_drewN | apply Kd.R_drew)); exact HO114.out) hb); have n2_ := Aside0.mk (Kd.R_below (by (with_reducible repeat (first | apply Kd.R_alloc | apply Kd.R_drewN | apply Kd.R_drew)); exact HO118.out) hb); have n3_ := Aside0.mk (blk_below (g := gb103) (o := .cells #[.string t101, .string t102] 24 (0, 0)) (by (with_reducible repeat (first | refine blk_drewN ?_ _ | refine blk_drew ?_ | refine blk_alloc ?_ _)); exact BK103.out) hb); have n4_ := Aside0.mk (below_step (by repeat (first | (with_reducible first | exact HB.out | apply below_alloc | apply pw_below_drewN | apply below_drew1 | refine below_set ?_ GE103.out) | exact HB.out)) hb); clear HO106; clear HO114; clear HO118; clear BK103; clear HB; have HO106 := n0_; have HO114 := n1_; have HO118 := n2_; have BK103 := n3_; have HB := n4_; clear n0_ n1_ n2_ n3_ n4_; (try clear hb); (try clear hb2); (try clear hk); (try clear hi)))
    go_ret
    exact ⟨by first | rfl | (simp [*, errW_none, errW_some] <;> rfl), by repeat (first | (with_reducible first | exact HB.out | apply below_alloc | apply pw_below_drewN | apply below_drew1 | refine below_set ?_ GE103.out) | exact HB.out)⟩
  ·replace c8 := Bool.eq_false_iff.mpr c8
   subst c8
   have H1 : (some false) = some r := by rw [if_neg (show ¬ (false = true) by decide)] at H; exact H
   clear H
   have H := H1
   clear H1
   obtain rfl := Option.some.inj H
   go_enter Tryz.func13, Tryz.ntmps13
   go_wp2_with (first | ((with_reducible refine gate_callee (f := 17) rfl ?_); refine goesL_ (some 8) rfl rfl Tryz.func17 (by kernel_rfl) rfl #[.int .i64 7, .int .i64 12] rfl (by (try simp only [List.map_toArray, List.map_cons, List.map_nil]); try rfl) ?_; (with_reducible refine (schismaref04_Make.calls k 7 12 t101 t102 _ A1.out).mono ?_); rintro e w77 ⟨rfl, hb⟩; refine ⟨_, rfl, ?_⟩; have n0_ := Aside0.mk (below_step (by repeat (first | (with_reducible first | exact HB.out | apply below_alloc | apply pw_below_drewN | apply below_drew1) | exact HB.out)) hb); clear HB; have HB := n0_; clear n0_; (try clear hb); (try clear hb2); (try clear hk); (try clear hi)) | ((with_reducible refine gate_dst (N := 1) rfl ?_); (try (refine gate_guard (by rfl) ?_; dsimp only)); refine box_event ?hg (N := 1) ?hd (cs := #[.string (⟨#[]⟩ : ByteArray), .string (⟨#[]⟩ : ByteArray)]) (t := 24) ?hr ?_; (case hd => rfl); (case hg => rfl); (case hr => first | (go_simp; done) | (go_simp; rfl)); intro gb103 hg w78 hbox hb; have n0_ := Aside0.mk (below_step (by repeat (first | (with_reducible first | exact HB.out | apply below_alloc | apply pw_below_drewN | apply below_drew1) | exact HB.out)) hb); have n1_ := Aside0.mk (hbox); have n2_ := Aside0.mk ((by rw [hg]; exact (below_size (by repeat (first | (with_reducible first | exact HB.out | apply below_alloc | apply pw_below_drewN | apply below_drew1) | exact HB.out))) : w.heap.size ≤ gb103)); have n3_ := Aside0.mk ((by rw [hg]; exact (below_size (by repeat (first | (with_reducible first | exact HB.out | apply below_alloc | apply pw_below_drewN | apply below_drew1) | exact HB.out))) : w.heap.size ≤ gb103)); clear HB; have HB := n0_; have BK103 := n1_; have GW103 := n2_; have GE103 := n3_; clear n0_ n1_ n2_ n3_; clear hb hbox hg; have hcz79_0 : w78.cell? ⟨gb103, 0, none⟩ = some (.string (⟨#[]⟩ : ByteArray)) := (blk_cell BK103.out 0).trans rfl; have hcz79_1 : w78.cell? ⟨gb103, 1, none⟩ = some (.string (⟨#[]⟩ : ByteArray)) := (blk_cell BK103.out 1).trans rfl; have hfz79_0 := blk_frozen BK103.out 0; have hfz79_1 := blk_frozen BK103.out 1) | ((with_reducible refine gate_callee (f := 19) rfl ?_); refine goesL_ (some 11) rfl rfl Tryz.func19 (by kernel_rfl) rfl #[.agg #[.string t101, .string t102]] rfl (by (try simp only [List.map_toArray, List.map_cons, List.map_nil]); try rfl) ?_; (with_reducible refine (convergent_Terms.calls k t101 t102 t104 t107 _ ?side1 A2.out).mono ?_); (case side1 => exact GWorld.below HG.out (by repeat (first | (with_reducible first | exact HB.out | apply below_alloc | apply pw_below_drewN | apply below_drew1 | refine below_set ?_ GE103.out) | exact HB.out))); rintro e w80 ⟨v105, rfl, ho0, hb⟩; refine ⟨_, rfl, ?_⟩; have n0_ := Aside0.mk (Kd.R_lower ho0 (below_size (by repeat (first | (with_reducible first | exact HB.out | apply below_alloc | apply pw_below_drewN | apply below_drew1 | refine below_set ?_ GE103.out) | exact HB.out)))); have n1_ := Aside0.mk (blk_below (g := gb103) (o := .cells #[.string t101, .string t102] 24 (0, 0)) (by (with_reducible repeat (first | refine blk_drewN ?_ _ | refine blk_drew ?_ | refine blk_alloc ?_ _)); refine blk_put (cs := #[.string t101, .string (⟨#[]⟩ : ByteArray)]) ?_ 1 _ rfl; (with_reducible repeat (first | refine blk_drewN ?_ _ | refine blk_drew ?_ | refine blk_alloc ?_ _)); refine blk_put (cs := #[.string (⟨#[]⟩ : ByteArray), .string (⟨#[]⟩ : ByteArray)]) ?_ 0 _ rfl; (with_reducible repeat (first | refine blk_drewN ?_ _ | refine blk_drew ?_ | refine blk_alloc ?_ _)); exact BK103.out) hb); have n2_ := Aside0.mk (below_step (by repeat (first | (with_reducible first | exact HB.out | apply below_alloc | apply pw_below_drewN | apply below_drew1 | refine below_set ?_ GE103.out) | exact HB.out)) hb); clear BK103; clear HB; have HO106 := n0_; have BK103 := n1_; have HB := n2_; clear n0_ n1_ n2_; (try clear hb); (try clear hb2); (try clear hk); (try clear hi); (try clear ho0)) | ((with_reducible refine gate_callee (f := 17) rfl ?_); refine goesL_ (some 15) rfl rfl Tryz.func17 (by kernel_rfl) rfl #[.int .i64 3, .int .i64 5] rfl (by (try simp only [List.map_toArray, List.map_cons, List.map_nil]); try rfl) ?_; (with_reducible refine (schismaref04_Make.calls k 3 5 t108 t109 _ A3.out).mono ?_); rintro e w81 ⟨rfl, hb⟩; refine ⟨_, rfl, ?_⟩; have n0_ := Aside0.mk (Kd.R_below (by (with_reducible repeat (first | apply Kd.R_alloc | apply Kd.R_drewN | apply Kd.R_drew)); exact HO106.out) hb); have n1_ := Aside0.mk (blk_below (g := gb103) (o := .cells #[.string t101, .string t102] 24 (0, 0)) (by (with_reducible repeat (first | refine blk_drewN ?_ _ | refine blk_drew ?_ | refine blk_alloc ?_ _)); exact BK103.out) hb); have n2_ := Aside0.mk (below_step (by repeat (first | (with_reducible first | exact HB.out | apply below_alloc | apply pw_below_drewN | apply below_drew1 | refine below_set ?_ GE103.out) | exact HB.out)) hb); clear HO106; clear BK103; clear HB; have HO106 := n0_; have BK103 := n1_; have HB := n2_; clear n0_ n1_ n2_; (try clear hb); (try clear hb2); (try clear hk); (try clear hi)) | ((with_reducible refine gate_callee (f := 32) rfl ?_); refine goesL_ (some 16) rfl rfl Tryz.func32 (by kernel_rfl) rfl #[.agg #[.string t108, .string t109]] rfl (by (try simp only [List.map_toArray, List.map_cons, List.map_nil]); try rfl) ?_; (with_reducible refine (convergent_Path.calls k t108 t109 t110 t111 _ ?side1 A4.out).mono ?_); (case side1 => exact GWorld.below HG.out (by repeat (first | (with_reducible first | exact HB.out | apply below_alloc | apply pw_below_drewN | apply below_drew1 | refine below_set ?_ GE103.out) | exact HB.out))); rintro e w82 ⟨rfl, hb⟩; refine ⟨_, rfl, ?_⟩; have n0_ := Aside0.mk (Kd.R_below (by (with_reducible repeat (first | apply Kd.R_alloc | apply Kd.R_drewN | apply Kd.R_drew)); exact HO106.out) hb); have n1_ := Aside0.mk (blk_below (g := gb103) (o := .cells #[.string t101, .string t102] 24 (0, 0)) (by (with_reducible repeat (first | refine blk_drewN ?_ _ | refine blk_drew ?_ | refine blk_alloc ?_ _)); exact BK103.out) hb); have n2_ := Aside0.mk (below_step (by repeat (first | (with_reducible first | exact HB.out | apply below_alloc | apply pw_below_drewN | apply below_drew1 | refine below_set ?_ GE103.out) | exact HB.out)) hb); clear HO106; clear BK103; clear HB; have HO106 := n0_; have BK103 := n1_; have HB := n2_; clear n0_ n1_ n2_; (try clear hb); (try clear hb2); (try clear hk); (try clear hi); have hcz83_0 : w82.cell? ⟨gb103, 0, none⟩ = some (.string t101) := (blk_cell BK103.out 0).trans rfl; have hcz83_1 : w82.cell? ⟨gb103, 1, none⟩ = some (.string t102) := (blk_cell BK103.out 1).trans rfl; have hfz83_0 := blk_frozen BK103.out 0; have hfz83_1 := blk_frozen BK103.out 1) | ((with_reducible refine gate_callee (f := 28) rfl ?_); refine goesL_ (some 21) rfl rfl Tryz.func28 (by kernel_rfl) rfl #[.agg #[.string t101, .string t102], .int .i64 7] rfl (by (try simp only [List.map_toArray, List.map_cons, List.map_nil]); try rfl) ?_; (with_reducible refine (convergent_Best.calls k t101 t102 7 t112 t115 _ ?side1 A5.out).mono ?_); (case side1 => exact GWorld.below HG.out (by repeat (first | (with_reducible first | exact HB.out | apply below_alloc | apply pw_below_drewN | apply below_drew1 | refine below_set ?_ GE103.out) | exact HB.out))); rintro e w84 ⟨v113, rfl, ho0, hb⟩; refine ⟨_, rfl, ?_⟩; have n0_ := Aside0.mk (Kd.R_below (by (with_reducible repeat (first | apply Kd.R_alloc | apply Kd.R_drewN | apply Kd.R_drew)); exact HO106.out) hb); have n1_ := Aside0.mk (Kd.R_lower (Kd.R_newB ho0 (g := gb103) (o := .cells #[.string t101, .string t102] 24 (0, 0)) (by (with_reducible repeat (first | refine blk_drewN ?_ _ | refine blk_drew ?_ | refine blk_alloc ?_ _)); exact BK103.out)) (below_size (by repeat (first | (with_reducible first | exact HB.out | apply below_alloc | apply pw_below_drewN | apply below_drew1 | refine below_set ?_ GE103.out) | exact HB.out)))); have n2_ := Aside0.mk (blk_below (g := gb103) (o := .cells #[.string t101, .string t102] 24 (0, 0)) (by (with_reducible repeat (first | refine blk_drewN ?_ _ | refine blk_drew ?_ | refine blk_alloc ?_ _)); exact BK103.out) hb); have n3_ := Aside0.mk (below_step (by repeat (first | (with_reducible first | exact HB.out | apply below_alloc | apply pw_below_drewN | apply below_drew1 | refine below_set ?_ GE103.out) | exact HB.out)) hb); clear HO106; clear BK103; clear HB; have HO106 := n0_; have HO114 := n1_; have BK103 := n2_; have HB := n3_; clear n0_ n1_ n2_ n3_; (try clear hb); (try clear hb2); (try clear hk); (try clear hi); (try clear ho0)) | ((with_reducible refine gate_dst (N := 28) rfl ?_); (try (refine gate_guard (by rfl) ?_; dsimp only)); refine Kd.R_lit (Kd.int .i64) _ 3 ?hg (N := 28) ?hd (xs := ([0, 1, 1, 2, 2] : List Int)) (inner := [.int .i64 0, .int .i64 1, .int .i64 1, .int .i64 2, .int .i64 2]) (ok := fun _ => True) (okp := fun _ => True) ?hr ?hp (fun _ hk => hk) trivial (Below.refl _ _) (Nat.le_refl _) (by simp) ?_; (case hd => rfl); (case hg => rfl); (case hr => first | (go_simp; done) | (go_simp; rfl)); (case hp => exact (Reps.one (show Kd.M (Kd.int .i64) _ _ _ 0 [.int .i64 0] from rfl) (Reps.one (show Kd.M (Kd.int .i64) _ _ _ 1 [.int .i64 1] from rfl) (Reps.one (show Kd.M (Kd.int .i64) _ _ _ 1 [.int .i64 1] from rfl) (Reps.one (show Kd.M (Kd.int .i64) _ _ _ 2 [.int .i64 2] from rfl) (Reps.one (show Kd.M (Kd.int .i64) _ _ _ 2 [.int .i64 2] from rfl) (Reps.none _ _))))))); intro v117 w85 ho86 hb hg_ hnew_; clear hg_ hnew_; (first | rw [← Ny116.out] at ho86 | (simp only [Int.reduceToNat] at ho86; rw [← Ny116.out] at ho86)); have n0_ := Aside0.mk (Kd.R_below (by (with_reducible repeat (first | apply Kd.R_alloc | apply Kd.R_drewN | apply Kd.R_drew)); exact HO106.out) hb); have n1_ := Aside0.mk (Kd.R_below (by (with_reducible repeat (first | apply Kd.R_alloc | apply Kd.R_drewN | apply Kd.R_drew)); exact HO114.out) hb); have n2_ := Aside0.mk (Kd.R_lower ho86 (below_size (by repeat (first | (with_reducible first | exact HB.out | apply below_alloc | apply pw_below_drewN | apply below_drew1 | refine below_set ?_ GE103.out) | exact HB.out)))); have n3_ := Aside0.mk (blk_below (g := gb103) (o := .cells #[.string t101, .string t102] 24 (0, 0)) (by (with_reducible repeat (first | refine blk_drewN ?_ _ | refine blk_drew ?_ | refine blk_alloc ?_ _)); exact BK103.out) hb); have n4_ := Aside0.mk (below_step (by repeat (first | (with_reducible first | exact HB.out | apply below_alloc | apply pw_below_drewN | apply below_drew1 | refine below_set ?_ GE103.out) | exact HB.out)) hb); clear HO106; clear HO114; clear BK103; clear HB; have HO106 := n0_; have HO114 := n1_; have HO118 := n2_; have BK103 := n3_; have HB := n4_; clear n0_ n1_ n2_ n3_ n4_; clear hb ho86; obtain ⟨Ao87, co87, eo87⟩ := Kd.R_slice HO106.out; subst eo87; obtain ⟨Ao88, co88, eo88⟩ := Kd.R_slice HO118.out; subst eo88) | (go_at_call 22; (with_reducible refine (schismalaw04_ints.calls k _ _ t104 _ _ y116 false _ ?side1 ?side2 ?side3 ?side4 A7.out).mono ?_); (case side1 => repeat (first | exact (Kd.R_reads' HO106.out).2.2 | (with_reducible refine Kd.C_alloc ?_ _) | (with_reducible refine Kd.C_drewN ?_ _) | (with_reducible refine Kd.C_drew ?_))); (case side2 => exact (Kd.R_reads' HO106.out).2.1); (case side3 => repeat (first | exact (Kd.R_reads' HO118.out).2.2 | (with_reducible refine Kd.C_alloc ?_ _) | (with_reducible refine Kd.C_drewN ?_ _) | (with_reducible refine Kd.C_drew ?_))); (case side4 => exact (Kd.R_reads' HO118.out).2.1); rintro e w89 ⟨rfl, hb⟩; have n0_ := Aside0.mk (Kd.R_below (by (with_reducible repeat (first | apply Kd.R_alloc | apply Kd.R_drewN | apply Kd.R_drew)); exact HO106.out) hb); have n1_ := Aside0.mk (Kd.R_below (by (with_reducible repeat (first | apply Kd.R_alloc | apply Kd.R_drewN | apply Kd.R_drew)); exact HO114.out) hb); have n2_ := Aside0.mk (Kd.R_below (by (with_reducible repeat (first | apply Kd.R_alloc | apply Kd.R_drewN | apply Kd.R_drew)); exact HO118.out) hb); have n3_ := Aside0.mk (blk_below (g := gb103) (o := .cells #[.string t101, .string t102] 24 (0, 0)) (by (with_reducible repeat (first | refine blk_drewN ?_ _ | refine blk_drew ?_ | refine blk_alloc ?_ _)); exact BK103.out) hb); have n4_ := Aside0.mk (below_step (by repeat (first | (with_reducible first | exact HB.out | apply below_alloc | apply pw_below_drewN | apply below_drew1 | refine below_set ?_ GE103.out) | exact HB.out)) hb); clear HO106; clear HO114; clear HO118; clear BK103; clear HB; have HO106 := n0_; have HO114 := n1_; have HO118 := n2_; have BK103 := n3_; have HB := n4_; clear n0_ n1_ n2_ n3_ n4_; (try clear hb); (try clear hb2); (try clear hk); (try clear hi)))
   go_ret
   exact ⟨by first | rfl | (simp [*, errW_none, errW_some] <;> rfl), by repeat (first | (with_reducible first | exact HB.out | apply below_alloc | apply pw_below_drewN | apply below_drew1 | refine below_set ?_ GE103.out) | exact HB.out)⟩
 ·rw [if_neg c6] at H
  have c6b0 : (t107 == 0) = false := beq_eq_false_iff_ne.mpr c6
  have c6b1 : (t107 != 0) = true := bne_iff_ne.mpr c6
  obtain rfl := Option.some.inj H
  go_enter Tryz.func13, Tryz.ntmps13
  go_wp2_with (first | ((with_reducible refine gate_callee (f := 17) rfl ?_); refine goesL_ (some 8) rfl rfl Tryz.func17 (by kernel_rfl) rfl #[.int .i64 7, .int .i64 12] rfl (by (try simp only [List.map_toArray, List.map_cons, List.map_nil]); try rfl) ?_; (with_reducible refine (schismaref04_Make.calls k 7 12 t101 t102 _ A1.out).mono ?_); rintro e w90 ⟨rfl, hb⟩; refine ⟨_, rfl, ?_⟩; have n0_ := Aside0.mk (below_step (by repeat (first | (with_reducible first | exact HB.out | apply below_alloc | apply pw_below_drewN | apply below_drew1) | exact HB.out)) hb); clear HB; have HB := n0_; clear n0_; (try clear hb); (try clear hb2); (try clear hk); (try clear hi)) | ((with_reducible refine gate_dst (N := 1) rfl ?_); (try (refine gate_guard (by rfl) ?_; dsimp only)); refine box_event ?hg (N := 1) ?hd (cs := #[.string (⟨#[]⟩ : ByteArray), .string (⟨#[]⟩ : ByteArray)]) (t := 24) ?hr ?_; (case hd => rfl); (case hg => rfl); (case hr => first | (go_simp; done) | (go_simp; rfl)); intro gb103 hg w91 hbox hb; have n0_ := Aside0.mk (below_step (by repeat (first | (with_reducible first | exact HB.out | apply below_alloc | apply pw_below_drewN | apply below_drew1) | exact HB.out)) hb); have n1_ := Aside0.mk (hbox); have n2_ := Aside0.mk ((by rw [hg]; exact (below_size (by repeat (first | (with_reducible first | exact HB.out | apply below_alloc | apply pw_below_drewN | apply below_drew1) | exact HB.out))) : w.heap.size ≤ gb103)); have n3_ := Aside0.mk ((by rw [hg]; exact (below_size (by repeat (first | (with_reducible first | exact HB.out | apply below_alloc | apply pw_below_drewN | apply below_drew1) | exact HB.out))) : w.heap.size ≤ gb103)); clear HB; have HB := n0_; have BK103 := n1_; have GW103 := n2_; have GE103 := n3_; clear n0_ n1_ n2_ n3_; clear hb hbox hg; have hcz92_0 : w91.cell? ⟨gb103, 0, none⟩ = some (.string (⟨#[]⟩ : ByteArray)) := (blk_cell BK103.out 0).trans rfl; have hcz92_1 : w91.cell? ⟨gb103, 1, none⟩ = some (.string (⟨#[]⟩ : ByteArray)) := (blk_cell BK103.out 1).trans rfl; have hfz92_0 := blk_frozen BK103.out 0; have hfz92_1 := blk_frozen BK103.out 1) | ((with_reducible refine gate_callee (f := 19) rfl ?_); refine goesL_ (some 11) rfl rfl Tryz.func19 (by kernel_rfl) rfl #[.agg #[.string t101, .string t102]] rfl (by (try simp only [List.map_toArray, List.map_cons, List.map_nil]); try rfl) ?_; (with_reducible refine (convergent_Terms.calls k t101 t102 t104 t107 _ ?side1 A2.out).mono ?_); (case side1 => exact GWorld.below HG.out (by repeat (first | (with_reducible first | exact HB.out | apply below_alloc | apply pw_below_drewN | apply below_drew1 | refine below_set ?_ GE103.out) | exact HB.out))); rintro e w93 ⟨v105, rfl, ho0, hb⟩; refine ⟨_, rfl, ?_⟩; have n0_ := Aside0.mk (Kd.R_lower ho0 (below_size (by repeat (first | (with_reducible first | exact HB.out | apply below_alloc | apply pw_below_drewN | apply below_drew1 | refine below_set ?_ GE103.out) | exact HB.out)))); have n1_ := Aside0.mk (blk_below (g := gb103) (o := .cells #[.string t101, .string t102] 24 (0, 0)) (by (with_reducible repeat (first | refine blk_drewN ?_ _ | refine blk_drew ?_ | refine blk_alloc ?_ _)); refine blk_put (cs := #[.string t101, .string (⟨#[]⟩ : ByteArray)]) ?_ 1 _ rfl; (with_reducible repeat (first | refine blk_drewN ?_ _ | refine blk_drew ?_ | refine blk_alloc ?_ _)); refine blk_put (cs := #[.string (⟨#[]⟩ : ByteArray), .string (⟨#[]⟩ : ByteArray)]) ?_ 0 _ rfl; (with_reducible repeat (first | refine blk_drewN ?_ _ | refine blk_drew ?_ | refine blk_alloc ?_ _)); exact BK103.out) hb); have n2_ := Aside0.mk (below_step (by repeat (first | (with_reducible first | exact HB.out | apply below_alloc | apply pw_below_drewN | apply below_drew1 | refine below_set ?_ GE103.out) | exact HB.out)) hb); clear BK103; clear HB; have HO106 := n0_; have BK103 := n1_; have HB := n2_; clear n0_ n1_ n2_; (try clear hb); (try clear hb2); (try clear hk); (try clear hi); (try clear ho0)) | ((with_reducible refine gate_callee (f := 17) rfl ?_); refine goesL_ (some 15) rfl rfl Tryz.func17 (by kernel_rfl) rfl #[.int .i64 3, .int .i64 5] rfl (by (try simp only [List.map_toArray, List.map_cons, List.map_nil]); try rfl) ?_; (with_reducible refine (schismaref04_Make.calls k 3 5 t108 t109 _ A3.out).mono ?_); rintro e w94 ⟨rfl, hb⟩; refine ⟨_, rfl, ?_⟩; have n0_ := Aside0.mk (Kd.R_below (by (with_reducible repeat (first | apply Kd.R_alloc | apply Kd.R_drewN | apply Kd.R_drew)); exact HO106.out) hb); have n1_ := Aside0.mk (blk_below (g := gb103) (o := .cells #[.string t101, .string t102] 24 (0, 0)) (by (with_reducible repeat (first | refine blk_drewN ?_ _ | refine blk_drew ?_ | refine blk_alloc ?_ _)); exact BK103.out) hb); have n2_ := Aside0.mk (below_step (by repeat (first | (with_reducible first | exact HB.out | apply below_alloc | apply pw_below_drewN | apply below_drew1 | refine below_set ?_ GE103.out) | exact HB.out)) hb); clear HO106; clear BK103; clear HB; have HO106 := n0_; have BK103 := n1_; have HB := n2_; clear n0_ n1_ n2_; (try clear hb); (try clear hb2); (try clear hk); (try clear hi)) | ((with_reducible refine gate_callee (f := 32) rfl ?_); refine goesL_ (some 16) rfl rfl Tryz.func32 (by kernel_rfl) rfl #[.agg #[.string t108, .string t109]] rfl (by (try simp only [List.map_toArray, List.map_cons, List.map_nil]); try rfl) ?_; (with_reducible refine (convergent_Path.calls k t108 t109 t110 t111 _ ?side1 A4.out).mono ?_); (case side1 => exact GWorld.below HG.out (by repeat (first | (with_reducible first | exact HB.out | apply below_alloc | apply pw_below_drewN | apply below_drew1 | refine below_set ?_ GE103.out) | exact HB.out))); rintro e w95 ⟨rfl, hb⟩; refine ⟨_, rfl, ?_⟩; have n0_ := Aside0.mk (Kd.R_below (by (with_reducible repeat (first | apply Kd.R_alloc | apply Kd.R_drewN | apply Kd.R_drew)); exact HO106.out) hb); have n1_ := Aside0.mk (blk_below (g := gb103) (o := .cells #[.string t101, .string t102] 24 (0, 0)) (by (with_reducible repeat (first | refine blk_drewN ?_ _ | refine blk_drew ?_ | refine blk_alloc ?_ _)); exact BK103.out) hb); have n2_ := Aside0.mk (below_step (by repeat (first | (with_reducible first | exact HB.out | apply below_alloc | apply pw_below_drewN | apply below_drew1 | refine below_set ?_ GE103.out) | exact HB.out)) hb); clear HO106; clear BK103; clear HB; have HO106 := n0_; have BK103 := n1_; have HB := n2_; clear n0_ n1_ n2_; (try clear hb); (try clear hb2); (try clear hk); (try clear hi); have hcz96_0 : w95.cell? ⟨gb103, 0, none⟩ = some (.string t101) := (blk_cell BK103.out 0).trans rfl; have hcz96_1 : w95.cell? ⟨gb103, 1, none⟩ = some (.string t102) := (blk_cell BK103.out 1).trans rfl; have hfz96_0 := blk_frozen BK103.out 0; have hfz96_1 := blk_frozen BK103.out 1) | ((with_reducible refine gate_callee (f := 28) rfl ?_); refine goesL_ (some 21) rfl rfl Tryz.func28 (by kernel_rfl) rfl #[.agg #[.string t101, .string t102], .int .i64 7] rfl (by (try simp only [List.map_toArray, List.map_cons, List.map_nil]); try rfl) ?_; (with_reducible refine (convergent_Best.calls k t101 t102 7 t112 t115 _ ?side1 A5.out).mono ?_); (case side1 => exact GWorld.below HG.out (by repeat (first | (with_reducible first | exact HB.out | apply below_alloc | apply pw_below_drewN | apply below_drew1 | refine below_set ?_ GE103.out) | exact HB.out))); rintro e w97 ⟨v113, rfl, ho0, hb⟩; refine ⟨_, rfl, ?_⟩; have n0_ := Aside0.mk (Kd.R_below (by (with_reducible repeat (first | apply Kd.R_alloc | apply Kd.R_drewN | apply Kd.R_drew)); exact HO106.out) hb); have n1_ := Aside0.mk (Kd.R_lower (Kd.R_newB ho0 (g := gb103) (o := .cells #[.string t101, .string t102] 24 (0, 0)) (by (with_reducible repeat (first | refine blk_drewN ?_ _ | refine blk_drew ?_ | refine blk_alloc ?_ _)); exact BK103.out)) (below_size (by repeat (first | (with_reducible first | exact HB.out | apply below_alloc | apply pw_below_drewN | apply below_drew1 | refine below_set ?_ GE103.out) | exact HB.out)))); have n2_ := Aside0.mk (blk_below (g := gb103) (o := .cells #[.string t101, .string t102] 24 (0, 0)) (by (with_reducible repeat (first | refine blk_drewN ?_ _ | refine blk_drew ?_ | refine blk_alloc ?_ _)); exact BK103.out) hb); have n3_ := Aside0.mk (below_step (by repeat (first | (with_reducible first | exact HB.out | apply below_alloc | apply pw_below_drewN | apply below_drew1 | refine below_set ?_ GE103.out) | exact HB.out)) hb); clear HO106; clear BK103; clear HB; have HO106 := n0_; have HO114 := n1_; have BK103 := n2_; have HB := n3_; clear n0_ n1_ n2_ n3_; (try clear hb); (try clear hb2); (try clear hk); (try clear hi); (try clear ho0)))
  go_ret
  exact ⟨by first | rfl | (simp [*, errW_none, errW_some] <;> rfl), by repeat (first | (with_reducible first | exact HB.out | apply below_alloc | apply pw_below_drewN | apply below_drew1 | refine below_set ?_ GE103.out) | exact HB.out)⟩
end Go.Proofs.YtidajgkepdkcbaaGreatDoor.PL
end
section
namespace Go.Proofs.YtidajgkepdkcbaaGreatDoor
open Go.RowKit Go.Lib Go.Proofs.YtidajgkepdkcbaaGreatDoorW.PrintWords Go.Proofs.YtidajgkepdkcbaaGreatDoorW.PrintLast Go.Proofs.YtidajgkepdkcbaaGreatDoorW.PrintMore PF PL
theorem same_go (l : List S24) : ∀ (m j : Nat), l.length ≤ 1000000 → l.length = j + m → Ev (fun k => schismalaw04_same.l0 k l l (j : Int)) true
 | 0, j, hl, hm => ev_here 1 fun k => by rw [schismalaw04_same.l0, if_neg (by omega)]
 | m + 1, j, hl, hm => by
  refine Ev.step (f := fun k => schismalaw04_same.l0 k l l ((j + 1 : Nat) : Int)) (fun k => ?_) (same_go l m (j + 1) hl (by omega))
  rw [schismalaw04_same.l0, if_pos (by omega), if_pos (by omega), if_pos (by omega), if_neg (by simp), w64 (by omega) (by omega)]
  rfl
theorem Same_self {l : List S24} (hl : l.length ≤ 1000000) : Ev (fun k => schismalaw04_same.f k l l) true := by
 unfold schismalaw04_same.f
 exact Ev.congr (fun k => if_pos rfl) (same_go l l.length 0 hl (by omega))
theorem Small_T {i : Int} (h0 : -9223372036854775808 ≤ i) (h1 : i ≤ 9223372036854775807) : whole_Small.f (T i) = some (i, true) := by
 unfold whole_Small.f strconv_ParseInt.f
 rw [if_pos ⟨rfl, rfl, by have : (T i).size ≤ 20 := T_size_le (k := 19) (by omega) (by omega); omega⟩, T_dataList, parseIntB_itoa h0 h1]
 rfl
theorem S17_small {i : Int} (h : -1000 ≤ i) (h2 : i ≤ 1000) : S17 i := by unfold S17; omega
theorem CTerms_T {ts : List Int} {n d : Int} (h : isCf ts n d) (hn : S17 n) (hd : S17 d) (hF : Fr n d) (hl : ts.length ≤ 1000) : Ev (fun k => convergent_Terms.f k (T n) (T d)) (ts.map T, 0) := by
 unfold convergent_Terms.f
 refine Ev.bind (Wrong_no hn hd hF) (Ev.congr (fun k => if_neg (by simp)) ?_)
 refine Ev.bind (Terms_T h hn hd hF.1 hl) (Ev.congr (fun k => if_neg (by simp; omega)) (ev_const fun _ => rfl))
theorem Path_T {ts : List Int} {n d : Int} (h : isCf ts n d) (hn : S17 n) (hd : S17 d) (hF : Fr n d) (hp : 0 < n) (hl : ts.length ≤ 1000) (a : Int) (ha : ts.getLast? = some a) (hS : S17 a) {r : ByteArray × Int} (hr : pathl 0 ((ts.dropLast ++ [a - 1]).map T) [] = some r) :
  Ev (fun k => convergent_Path.f k (T n) (T d)) r := by
 unfold convergent_Path.f
 refine Ev.bind (Wrong_no hn hd hF) (Ev.congr (fun k => if_neg (by simp)) ?_)
 refine Ev.bind (ev_const (r := (1 : Int)) fun k => ?_) (Ev.congr (fun k => if_neg (by omega)) ?_)
 ·unfold fraction_Sign.f
  rw [whole_Sign_T n, sg_pos hp]
  rfl
 refine Ev.bind (Terms_T h hn hd hF.1 hl) ?_
 have e : (ts.map T).getLast? = some (T a) := by rw [List.getLast?_map, ha]; rfl
 refine Ev.congr (fun k => by rw [e]) ?_
 simp only
 rw [lit1]
 refine Ev.bind (ev_const fun k => Sub_T (a := a) (b := 1) ?_ (by unfold S17; omega) k) (ev_const fun k => ?_)
 ·exact hS
 ·rw [← hr]
  simp [List.map_dropLast]
theorem Known : Ev (fun k => schismalaw04_known.f k) true := by
 unfold schismalaw04_known.f
 have F7 : Fr 7 12 := ⟨by decide, by decide⟩
 have F3 : Fr 3 5 := ⟨by decide, by decide⟩
 have t7 : isCf [0, 1, 1, 2, 2] 7 12 := by simp [isCf]
 have t3 : isCf [0, 1, 1, 2] 3 5 := by simp [isCf]
 have m : ∀ {n d : Int}, n.natAbs < 1000 → 0 < d → d < 1000 → Fr n d → Ev (fun k => schismaref04_Make.f k n d) (T n, T d) := fun h1 h2 h3 h4 => by
  rw [← fr_self h4]; exact RMake (by omega) h2 (by omega)
 refine Ev.bind (m (n := 7) (d := 12) (by decide) (by decide) (by decide) F7) ?_
 refine Ev.bind (CTerms_T t7 (S17_small (by decide) (by decide)) (S17_small (by decide) (by decide)) F7 (by decide)) ?_
 refine Ev.bind (m (n := 3) (d := 5) (by decide) (by decide) (by decide) F3) ?_
 refine Ev.bind (Path_T t3 (S17_small (by decide) (by decide)) (S17_small (by decide) (by decide)) F3 (by decide) (by decide) 2 rfl (S17_small (by decide) (by decide)) (r := (⟨#[76, 82, 76]⟩, 0)) ?_) ?_
 ·simp only [List.dropLast, List.map_cons, List.map_append, List.map_nil, List.nil_append, List.cons_append, pathl]
  rw [Small_T (by decide) (by decide), Small_T (by decide) (by decide), Small_T (by decide) (by decide)]
  rfl
 refine Ev.bind (ev_const fun k => Best_yes (ts := [0, 1, 1, 2, 2]) ⟨rfl, rfl, by decide, by decide, F7, by decide, by decide, by decide, t7, by decide⟩ k) ?_
 refine Ev.congr (fun k => if_pos rfl) ?_
 refine Ev.bind (Ints_T (by decide) (fun a ha => S17_small (by simp at ha; omega) (by simp at ha; omega))) ?_
 refine Ev.congr (fun k => by rw [if_pos rfl, if_pos rfl, if_pos (by simp [ByteArray.toList_eq]), if_pos rfl]) ?_
 refine Ev.bind (m (n := 1) (d := 1) (by decide) (by decide) (by decide) ⟨by decide, by decide⟩) ?_
 refine Ev.bind (m (n := 1) (d := 2) (by decide) (by decide) (by decide) ⟨by decide, by decide⟩) ?_
 refine Ev.bind (m (n := 3) (d := 5) (by decide) (by decide) (by decide) ⟨by decide, by decide⟩) ?_
 refine Ev.bind (m (n := 4) (d := 7) (by decide) (by decide) (by decide) ⟨by decide, by decide⟩) ?_
 have e : (bestRow 7 12 7 [0, 1, 1, 2, 2]).map sf = [⟨T 1, T 1⟩, ⟨T 1, T 2⟩, ⟨T 3, T 5⟩, ⟨T 4, T 7⟩] := by
  have : bestRow 7 12 7 [0, 1, 1, 2, 2] = [(1, 1), (1, 2), (3, 5), (4, 7)] := by decide
  rw [this]; rfl
 rw [e]
 exact Ev.bind (Same_self (by decide)) (ev_const fun _ => rfl)
end Go.Proofs.YtidajgkepdkcbaaGreatDoor
end
section
namespace Go.Proofs.YtidajgkepdkcbaaGreatDoor
open Go.RowKit Go.Lib Go.Proofs.YtidajgkepdkcbaaGreatDoorW.PrintWords Go.Proofs.YtidajgkepdkcbaaGreatDoorW.PrintLast Go.Proofs.YtidajgkepdkcbaaGreatDoorW.PrintMore PF
structure ConvOk (n d : Int) (ts : List Int) (k : Nat) (c : CS) (a : Int) : Prop where
 step : c.StepOk a
 q1 : 1 ≤ (c.next a).q
 qd : (c.next a).q ≤ d
 p1 : -(10000000000000 + 1) ≤ (c.next a).p
 p2 : (c.next a).p ≤ 10000000000000 + 1
 g : Int.gcd (c.next a).p (c.next a).q = 1
 last : k + 1 = ts.length → Fr n d → (c.next a).p = n ∧ (c.next a).q = d
 even : k + 1 < ts.length → k % 2 = 0 → (c.next a).p * d < n * (c.next a).q
 odd : k + 1 < ts.length → k % 2 = 1 → n * (c.next a).q < (c.next a).p * d
 er1 : -d ≤ n * (c.next a).q - (c.next a).p * d
 er2 : n * (c.next a).q - (c.next a).p * d ≤ d
theorem one_of_dvd {n d D : Int} (hF : Fr n d) (hD : 0 < D) (h1 : D ∣ n) (h2 : D ∣ d) : D = 1 := by
 have h := Int.dvd_coe_gcd h1 h2
 have hF2 := hF.2
 rw [hF2] at h
 exact Int.eq_one_of_dvd_one (by omega) h
theorem par_flip (k : Nat) : -(if k % 2 = 0 then (1 : Int) else -1) = if (k + 1) % 2 = 0 then 1 else -1 := by
 rcases Nat.mod_two_eq_zero_or_one k with h | h
 ·rw [if_pos h, if_neg (by omega)]
 ·rw [if_neg (by omega), if_pos (by omega)]; rfl
theorem conv_G {n d : Int} (hn1 : -10000000000000 < n) (hn2 : n < 10000000000000) (hd : 0 < d) (hd2 : d < 10000000000000) {ts : List Int} (hts : isCf ts n d) :
  ∃ G : Nat → CS → Prop, G 0 CS.begin ∧ ∀ k c a, G k c → ts[k]? = some a → ConvOk n d ts k c a ∧ G (k + 1) (c.next a) := by
 refine ⟨fun k c => (k = 0 ∧ c = CS.begin) ∨ (k ≠ 0 ∧ (ts.length ≤ k ∨ ∃ N D s, Mid n d d c N D s ∧ isCf (ts.drop k) N D ∧ s = if k % 2 = 0 then 1 else -1)), .inl ⟨rfl, rfl⟩, ?_⟩
 intro k c a hG ha
 have hk : k < ts.length := (List.getElem?_eq_some_iff.1 ha).1
 have hdr : ts.drop k = a :: ts.drop (k + 1) := by
  rw [List.drop_eq_getElem_cons hk]
  congr 1
  rw [List.getElem?_eq_getElem hk] at ha
  exact Option.some.inj ha
 rcases hG with ⟨rfl, rfl⟩ | ⟨hk0, hG⟩
 ·rw [List.drop_zero] at hdr
  have hlen : ts.length = (ts.drop (0 + 1)).length + 1 := by rw [hdr]; simp
  rw [hdr] at hts
  obtain ⟨haq, hrest⟩ := hts
  have hq : a.natAbs ≤ n.natAbs := by rw [haq]; exact Int.natAbs_ediv_le_natAbs ..
  have ok : CS.begin.Ok := by constructor <;> simp [CS.begin, S15]
  have e0 := Int.emod_nonneg n (b := d) (by omega)
  have e1 := Int.emod_lt_of_pos n hd
  have em0 := Int.mul_ediv_add_emod n d
  have em1 : d * (n / d) = n / d * d := Int.mul_comm ..
  refine ⟨⟨⟨ok, by unfold S15; omega, by simp [CS.begin]; omega, by simp [CS.begin]⟩, by simp [CS.next, CS.begin], by simp [CS.next, CS.begin]; omega, by simp [CS.next, CS.begin]; omega, by simp [CS.next, CS.begin]; omega, by simp [CS.next, CS.begin], ?_, ?_, fun _ h => by omega, by simp [CS.next, CS.begin, haq]; omega, by simp [CS.next, CS.begin, haq]; omega⟩, .inr ⟨by omega, ?_⟩⟩
  ·intro hl hF
   have hnil : ts.drop (0 + 1) = [] := List.eq_nil_of_length_eq_zero (by omega)
   rcases hrest with ⟨hz, _⟩ | ⟨_, hcf⟩
   ·have hd1 := one_of_dvd hF hd (Int.dvd_of_emod_eq_zero hz) (Int.dvd_refl d)
    subst hd1
    simp [CS.next, CS.begin, haq]
   ·rw [hnil] at hcf; exact hcf.elim
  ·intro hl _
   rcases hrest with ⟨_, hnil⟩ | ⟨hr, _⟩
   ·rw [hnil] at hlen; simp at hlen; omega
   ·have em := Int.mul_ediv_add_emod n d
    have : d * (n / d) = n / d * d := Int.mul_comm ..
    simp [CS.next, CS.begin, haq]
    omega
  ·rcases hrest with ⟨_, hnil⟩ | ⟨hr, hl⟩
   ·left
    have := List.drop_eq_nil_iff.1 hnil
    omega
   ·right
    have hat := (CS.At.start n d hd).step hr
    rw [← haq] at hat
    exact ⟨d, n % d, -1, ⟨hat, by simp [CS.next, CS.begin], by simp [CS.next, CS.begin], by simp [CS.next, CS.begin], by simp [CS.next, CS.begin]; omega, by omega, Int.le_refl _⟩, hl, by simp⟩
 ·rcases hG with hG | ⟨N, D, s, hM, hcf, hs⟩
  ·omega
  ·have hlen : (ts.drop k).length = (ts.drop (k + 1)).length + 1 := by rw [hdr]; simp
   rw [List.length_drop] at hlen
   rw [hdr] at hcf
   obtain ⟨haq, hrest⟩ := hcf
   subst haq
   have hD := hM.at_.hD
   have q1 := hM.q1
   have hu := hM.u0
   have ha1 : 1 ≤ N / D := (Int.le_ediv_iff_mul_le (by omega)).2 (by have := hM.DN; omega)
   have aq : 1 * c.q ≤ N / D * c.q := Int.mul_le_mul_of_nonneg_right ha1 (by omega)
   obtain ⟨⟨b1, b2⟩, b3⟩ := hM.semi (M := 10000000000000) (by omega) (by omega) hd (by omega) (Int.le_refl (N / D))
   have t := hM.term hn1 hn2 hd hd2 (f := half) (fun a last h1 h2 h3 => by unfold half; omega) hk0
   have hst := t.next (CS.most_eq q1 b1)
   have e1 := Int.emod_lt_of_pos N hD
   have em := Int.mul_ediv_add_emod N D
   have er : -d ≤ n * (c.next (N / D)).q - (c.next (N / D)).p * d ∧ n * (c.next (N / D)).q - (c.next (N / D)).p * d ≤ d := by
    have h1 := hM.at_.semi (N / D)
    have h2 : N / D * D = D * (N / D) := Int.mul_comm ..
    have h3 : d * (c.b + N / D * c.p) = (c.b + N / D * c.p) * d := Int.mul_comm ..
    have e0 := Int.emod_nonneg N (b := D) (by omega)
    have h4 := hM.DN
    have h5 := hM.Nd
    rw [h3, h2] at h1
    simp only [CS.next]
    rw [h1]
    rcases hM.at_.hs with x | x <;> rw [x] <;> omega
   refine ⟨⟨hst, by simp only [CS.next]; omega, by simp only [CS.next]; omega, by simp only [CS.next]; omega, by simp only [CS.next]; omega, ?_, ?_, ?_, ?_, er.1, er.2⟩, .inr ⟨by omega, ?_⟩⟩
   ·simp only [CS.next]
    refine gcd_of_det (u := c.p) (v := c.q) ?_
    have : (c.b + N / D * c.p) * c.q - c.p * (c.u + N / D * c.q) = -s := by have := hM.at_.det; rw [← this]; grind
    rw [this]
    rcases hM.at_.hs with x | x <;> rw [x] <;> simp
   ·intro hl hF
    have hnil : ts.drop (k + 1) = [] := List.eq_nil_of_length_eq_zero (by omega)
    rcases hrest with ⟨hz, _⟩ | ⟨_, hcf⟩
    ·rw [hz] at em
     have hN : N = D * (N / D) := by omega
     have en : n = D * (c.b + N / D * c.p) := by
      have := hM.at_.hn
      have e : c.p * N = D * (N / D * c.p) := by
       have : c.p * N = c.p * (D * (N / D)) := by rw [← hN]
       rw [this]; grind
      rw [this, e]; grind
     have ed : d = D * (c.u + N / D * c.q) := by
      have := hM.at_.hd
      have e : c.q * N = D * (N / D * c.q) := by
       have : c.q * N = c.q * (D * (N / D)) := by rw [← hN]
       rw [this]; grind
      rw [this, e]; grind
     have h1 := one_of_dvd hF hD ⟨_, en⟩ ⟨_, ed⟩
     have e3 : c.b + N / D * c.p = n := by rw [en, h1, Int.one_mul]
     have e4 : c.u + N / D * c.q = d := by rw [ed, h1, Int.one_mul]
     exact ⟨by simp only [CS.next]; exact e3, by simp only [CS.next]; exact e4⟩
    ·rw [hnil] at hcf; exact hcf.elim
   ·intro hl hk2
    rcases hrest with ⟨_, hnil⟩ | ⟨hr, _⟩
    ·rw [hnil] at hlen; simp at hlen; omega
    ·have e0 := Int.emod_nonneg N (b := D) (by omega)
     have hc := (hM.at_.step hr).conv
     rw [hs, if_pos hk2] at hc
     have e : d * (c.next (N / D)).p = (c.next (N / D)).p * d := Int.mul_comm ..
     omega
   ·intro hl hk2
    rcases hrest with ⟨_, hnil⟩ | ⟨hr, _⟩
    ·rw [hnil] at hlen; simp at hlen; omega
    ·have e0 := Int.emod_nonneg N (b := D) (by omega)
     have hc := (hM.at_.step hr).conv
     rw [hs, if_neg (by omega)] at hc
     have e : d * (c.next (N / D)).p = (c.next (N / D)).p * d := Int.mul_comm ..
     omega
   ·rcases hrest with ⟨_, hnil⟩ | ⟨hr, hl⟩
    ·left
     have := List.drop_eq_nil_iff.1 hnil
     omega
    ·right
     refine ⟨D, N % D, -s, ⟨hM.at_.step hr, ?_, ?_, ?_, ?_, by omega, by have := hM.DN; have := hM.Nd; omega⟩, hl, by rw [hs]; exact par_flip k⟩ <;> simp only [CS.next] <;> omega
end Go.Proofs.YtidajgkepdkcbaaGreatDoor
end
section
namespace Go.Proofs.YtidajgkepdkcbaaGreatDoor.PL
open Go.RowKit Go.Proofs.YtidajgkepdkcbaaGreatDoorW.PrintWords Go.Proofs.YtidajgkepdkcbaaGreatDoorW.PrintLast Go.Proofs.YtidajgkepdkcbaaGreatDoorW.PrintMore Go.Proofs.YtidajgkepdkcbaaGreatDoor.PF
attribute [local go_sem] max2_int min2_int max_two min_two max_three min_three max_four min_four
theorem eqA24 (d : Nat) (w : World) (x0 y0 : ByteArray) (x1 y1 : ByteArray) :
  (Op.equalIn (d + 2) 24 (.agg #[.string x0, .string x1]) (.agg #[.string y0, .string y1])).run Tryz.prog w = .ok (x0.toList == y0.toList && (x1.toList == y1.toList)) w := by
 refine eqA_of Tryz.underlying24 (by kernel_rfl) ?_
 refine eqf_cons (by rfl) (by go_simp; rfl) (by go_simp; rfl) (by go_simp) ?_
 exact eqf_last (by rfl) (by go_simp; rfl) (by go_simp; rfl) (by go_simp)
end Go.Proofs.YtidajgkepdkcbaaGreatDoor.PL
end
section
namespace Go.Proofs.YtidajgkepdkcbaaGreatDoor
open Go.RowKit Go.Lib Go.Proofs.YtidajgkepdkcbaaGreatDoorW.PrintWords Go.Proofs.YtidajgkepdkcbaaGreatDoorW.PrintLast Go.Proofs.YtidajgkepdkcbaaGreatDoorW.PrintMore PF PL
theorem T13 {i : Int} (h : (T i).size ≤ 13) : -1000000000000 < i ∧ i < 10000000000000 := by
 have := lt_of_T_size (i := i) (k := 12) (by omega)
 omega
theorem cf_small {n d : Int} (h0 : 0 < d) (hd2 : d < 10000000000000) : ∃ ts, isCf ts n d ∧ ts.length ≤ 1000 := by
 obtain ⟨ts, h1, h2⟩ := isCf_exists 60 n d h0 (by omega)
 exact ⟨ts, h1, by omega⟩
end Go.Proofs.YtidajgkepdkcbaaGreatDoor
end
section
namespace Go.Proofs.YtidajgkepdkcbaaGreatDoor
open Go.RowKit Go.Lib Go.Proofs.YtidajgkepdkcbaaGreatDoorW.PrintWords Go.Proofs.YtidajgkepdkcbaaGreatDoorW.PrintLast Go.Proofs.YtidajgkepdkcbaaGreatDoorW.PrintMore PF PL
theorem cf_pos1 {n d : Int} {ts : List Int} (hts : isCf ts n d) (h0 : 0 < d) : ∀ a ∈ ts.drop 1, 1 ≤ a := by
 cases ts with
 | nil => simp
 | cons a l =>
  intro x hx
  rcases hts.2 with ⟨_, hnil⟩ | ⟨h1, h2⟩
  ·subst hnil; simp at hx
  ·have r0 := Int.emod_nonneg n (b := d) (by omega)
   have r1 := Int.emod_lt_of_pos n h0
   exact h2.pos (by omega) (by omega) x (by simpa using hx)
end Go.Proofs.YtidajgkepdkcbaaGreatDoor
end
section
namespace Go.Proofs.YtidajgkepdkcbaaGreatDoor
open Go.RowKit Go.Lib Go.Proofs.YtidajgkepdkcbaaGreatDoorW.PrintWords Go.Proofs.YtidajgkepdkcbaaGreatDoorW.PrintLast Go.Proofs.YtidajgkepdkcbaaGreatDoorW.PrintMore PF
attribute [local go_sem] Oper.semAt_some wide_fn2 wide_depth2
def one (_ _ : Int) : Int := 1
structure SemI (n d : Int) (w : World) (bo : Nat) (ys : List (Int × Int)) (i : Nat) (W : World) : Prop where
 x : W.heap[w.heap.size]? = some (.cells #[.string (T n), .string (T d)] 24 (0, 0))
 r1 : W.heap[w.heap.size + 1]? = some (.cells #[.slice none 0 0] 37 (0, 0))
 r2 : W.heap[w.heap.size + 1 + 1]? = some (.cells #[.int .i64 0] 26 (0, 0))
 out : ∃ v, W.heap[bo]? = some (.cells #[v] 37 (0, 0)) ∧ W.ownsRow (bo + 1) 24 2 v (ys.take i).length (fcells (ys.take i))
 sz : bo < W.heap.size
 B : Below w.heap.size w W
theorem SemI.soft {n d : Int} {w : World} {bo : Nat} {ys : List (Int × Int)} {i : Nat} {A B : World} (h : SemI n d w bo ys i A) {b : Nat} (hk : Kept softI b A B) (hb : w.heap.size ≤ b) : SemI n d w bo ys i B := by
 obtain ⟨v, h1, h2⟩ := h.out
 exact ⟨hk.block _ _ h.x (.inr rfl), hk.block _ _ h.r1 (.inr rfl), hk.block _ _ h.r2 (.inr rfl), ⟨v, hk.block _ _ h1 (.inr rfl), ownsRow_kept h2 (fun g cur hg => hk.block _ _ hg (.inr rfl))⟩, Nat.lt_of_lt_of_le h.sz hk.size, hk.below h.B hb (Nat.le_refl _)⟩
theorem SemI.put {n d : Int} {w : World} {bo : Nat} {ys : List (Int × Int)} {i : Nat} {A : World} (h : SemI n d w bo ys i A) {l : Nat} {o o' : Obj} (hw : w.heap.size ≤ l) (hl : A.heap[l]? = some o) (ho : o.isCells = false) : SemI n d w bo ys i (A.putObj l o') := by
 have keep : ∀ {k : Nat} {c : Array Value} {t : Nat}, A.heap[k]? = some (.cells c t (0, 0)) → (A.putObj l o').heap[k]? = some (.cells c t (0, 0)) := by
  intro k c t hk
  rw [World.putObj_heap_other]
  ·exact hk
  ·rintro rfl
   rw [hl] at hk
   obtain rfl := Option.some.inj hk
   cases ho
 obtain ⟨v, h1, h2⟩ := h.out
 refine ⟨keep h.x, keep h.r1, keep h.r2, ⟨v, keep h1, ownsRow_kept h2 (fun g cur hg => keep hg)⟩, by simpa using h.sz, ⟨h.B.os, h.B.tape, h.B.output, by simpa using h.B.size, fun k hk => ?_⟩⟩
 rw [World.putObj_heap_other (by omega)]
 exact h.B.block k hk
theorem SemI.app {n d : Int} {w : World} {bo : Nat} {ys : List (Int × Int)} {i : Nat} {W w1 : World} (h : SemI n d w bo ys i W) {v v' : Value} {o : Obj} {k k' : Nat} {xs xs' : List Value}
  (hv : W.heap[bo]? = some (.cells #[v] 37 (0, 0))) (hrow : W.ownsRow (bo + 1) 24 2 v k xs) (hown : w1.ownsRow (bo + 1) 24 2 v' k' xs') (hgrow : (W.alloc o).grownBy w1 v.ownBlock)
  (hbo : w.heap.size + 2 < bo) (hk : k' = (ys.take (i + 1)).length) (hx : xs' = fcells (ys.take (i + 1))) :
  Kept softB 0 W (w1.setCell ⟨bo, 0, none⟩ v') ∧ SemI n d w bo ys (i + 1) (w1.setCell ⟨bo, 0, none⟩ v') := by
 have hne : ∀ {j : Nat}, j ≤ bo → some j ≠ v.ownBlock := fun {j} hj he => by have := (row_block hrow he.symm).1; omega
 have hbo1 : w1.heap[bo]? = some (.cells #[v] 37 (0, 0)) := heap_old hgrow hv (hne (Nat.le_refl _))
 have old : ∀ {j : Nat} {o' : Obj}, W.heap[j]? = some o' → some j ≠ v.ownBlock → j ≠ bo → (w1.setCell ⟨bo, 0, none⟩ v').heap[j]? = some o' := fun {j o'} h1 h2 h3 => by
  rw [Below.heap_setCell _ _ _ _ h3]; exact heap_old hgrow h1 h2
 have hnew : (w1.setCell ⟨bo, 0, none⟩ v').heap[bo]? = some (.cells #[v'] 37 (0, 0)) := by
  simp [World.setCell, Array.getElem_modify, (Array.getElem?_eq_some_iff.1 hbo1).1, (Array.getElem?_eq_some_iff.1 hbo1).2]
 refine ⟨⟨hgrow.os, hgrow.tape, hgrow.output, by have := hgrow.size; simp at this ⊢; omega, fun j o' ho hs => ?_⟩, ?_⟩
 ·rcases hs with hs | hs
  ·omega
  ·refine old ho (fun he => ?_) (fun he => ?_)
   ·obtain ⟨_, cur, hc⟩ := row_block hrow he.symm
    rw [hc] at ho
    obtain rfl := Option.some.inj ho
    simp [softB, ofT] at hs
   ·subst he
    rw [hv] at ho
    obtain rfl := Option.some.inj ho
    simp [softB, ofT] at hs
 ·refine ⟨old h.x (hne (by omega)) (by omega), old h.r1 (hne (by omega)) (by omega), old h.r2 (hne (by omega)) (by omega), ⟨v', hnew, ?_⟩, by have h1 := hgrow.size; have := h.sz; rw [World.size_alloc] at h1; simp only [World.size_setCell]; omega, ?_⟩
  ·rw [← hk, ← hx]
   refine ownsRow_kept hown (fun g cur hg => ?_)
   rw [Below.heap_setCell _ _ _ _ (fun e => by simp only at e; subst e; rw [hbo1] at hg; cases hg)]
   exact hg
  ·refine ⟨hgrow.os.trans h.B.os, hgrow.tape.trans h.B.tape, hgrow.output.trans h.B.output, by have h1 := hgrow.size; have := h.B.size; rw [World.size_alloc] at h1; simp only [World.size_setCell]; omega, fun j hj => ?_⟩
   rw [← h.B.block j hj]
   obtain ⟨o', ho'⟩ : ∃ o', W.heap[j]? = some o' := ⟨_, Array.getElem?_eq_getElem (by have := h.B.size; omega)⟩
   rw [ho']
   exact old ho' (hne (by omega)) (by omega)
theorem cTermsT {n d : Int} {ts : List Int} (hn : S17 n) (hd : S17 d) (hF : Fr n d) (h : isCf ts n d) (hl : ts.length ≤ 1000) (w : World) (hG : GWorld w) :
  Calls Tryz.prog 19 #[.agg #[.string (T n), .string (T d)]] w fun e w' => ∃ g cap cur, e = .returned (.tuple #[.slice (some ⟨g, 0, none⟩) ts.length cap, .int .i64 0]) ∧ w.heap.size ≤ g ∧ w'.heap[g]? = some (.cells cur 22 (0, 0)) ∧ (∀ (k : Nat) (a : Int), ts[k]? = some a → cur[k]? = some (.string (T a))) ∧ Below w.heap.size w w' := by
 obtain ⟨k, hk⟩ := (CTerms_T h hn hd hF hl).rounds
 refine (convergent_Terms.calls k _ _ _ _ w hG hk).mono ?_
 rintro e w' ⟨v, rfl, hR, hB⟩
 obtain ⟨g, cap, cur, rfl, hg, hh, hc⟩ := row_of_R hR (by simpa using h.ne_nil)
 refine ⟨g, cap, cur, by simp, hg, hh, fun k a ha => hc k (T a) (by simp [ha]), hB⟩
set_option maxRecDepth 100000 in
set_option maxHeartbeats 4000000 in
theorem semi_walk {n d bound : Int} {ts : List Int} (hn1 : -10000000000000 < n) (hn2 : n < 10000000000000) (hF : Fr n d) (hd2 : d < 10000000000000) (hb : 1 ≤ bound) (hb2 : bound ≤ 200) (hts : isCf ts n d) (hl : ts.length ≤ 1000) (w : World) (hG : GWorld w) :
  CallsIn Fence.wide 0 Tryz.prog 25 #[.agg #[.string (T n), .string (T d)], .int .i64 bound] w fun e w' => ∃ v, e = .returned (.tuple #[v, .int .i64 0]) ∧ w'.ownsRow w.heap.size 24 2 v (semis one bound true CS.begin ts).length (fcells (semis one bound true CS.begin ts)) ∧ Below w.heap.size w w' := by
 refine callsIn_of_wp_marks Tryz.func25 rfl trivial ?_ rfl
 simp only [Tryz.ntmps25, List.size_toArray, List.length_cons, List.length_nil, Nat.reduceAdd, Nat.reduceSub, Array.replicate_succ, Array.replicate_zero, List.push_toArray, List.append_toArray, List.nil_append, List.cons_append]
 have hnS : S17 n := by unfold S17; omega
 have hdS : S17 d := by unfold S17; have := hF.1; omega
 have c1 := fun W hG => cBounded hnS hdS hF hb (by omega) W hG
 have c2 := fun W hG => cTermsT hnS hdS hF hts hl W hG
 replace hn1 := Lib.hid hn1
 replace hn2 := Lib.hid hn2
 replace hF := Lib.hid hF
 replace hd2 := Lib.hid hd2
 replace hb := Lib.hid hb
 replace hb2 := Lib.hid hb2
 replace hl := Lib.hid hl
 replace hG := Lib.hid hG
 have c0 := three_alloc (w := w) (W1 := ((w.alloc (.cells #[.string (T n), .string (T d)] 24)).alloc (.cells #[.slice none 0 0] 37)).alloc (.cells #[.int .i64 0] 26)) (Below.refl _ _)
 replace c0 := Lib.hid c0
 gi_wp2_with (first
  | (gi_at_call 51; refine (callsIn_wide.2 (c1 _ (hG.out.below c0.out.2.2.2.1))).mono ?_; rintro e W1 ⟨rfl, H1⟩; obtain ⟨x1, x2, x3, HB1, hz1⟩ := three_alloc H1; obtain ⟨y1, y2⟩ := two_cells x1; replace H1 := Lib.hid H1; replace HB1 := Lib.hid HB1; replace x1 := Lib.hid x1; replace x2 := Lib.hid x2; replace x3 := Lib.hid x3; replace hz1 := Lib.hid hz1)
  | (gi_at_call 19; refine (callsIn_wide.2 (c2 _ (hG.out.below HB1.out))).mono ?_; rintro e W2 ⟨g, cap, cur, rfl, hg, hh, hc, H2⟩; replace H2 := Lib.hid H2; replace hg := Lib.hid hg; replace hh := Lib.hid hh; replace hc := Lib.hid hc)
  | (gi_at_call 52; refine (callsIn_wide.2 (cSemi _ _ _ _ ⟨_, _, _, rfl⟩ ⟨_, _, _, rfl⟩)).mono ?_; rintro e W3 ⟨rfl, hW3⟩; replace hW3 := Lib.hid hW3))
 have hF0 := hF.out
 obtain ⟨G, g0, gs⟩ := search_G (n := n) (d := d) (bound := bound) hn1.out hn2.out hF0.1 hd2.out hb.out (f := one) (fun a last h1 h2 h3 => by unfold one; omega) hts
 have B2 : Below w.heap.size w W2 := HB1.out.trans (H2.out.mono (by have := hz1.out; omega))
 have s2 : w.heap.size + 3 ≤ W2.heap.size := by have := H2.out.size; have := hz1.out; omega
 obtain ⟨W2', hW2'⟩ : ∃ W2', W2' = W2.alloc (.cells #[.slice none 0 0] 37) := ⟨_, rfl⟩
 have sz2 : W2'.heap.size = W2.heap.size + 1 := by rw [hW2', World.size_alloc]
 have e3 := hW3.out
 rw [← hW2'] at e3
 have k22 : Below W2.heap.size W2 W2' := by rw [hW2']; exact (Below.refl W2.heap.size W2).alloc (Nat.le_refl _) _
 have k23 : Below W2'.heap.size W2' W3 := by rw [e3]; exact ((((Below.refl W2'.heap.size W2').alloc (Nat.le_refl _) _).alloc (by simp) _).alloc (by simp; omega) _)
 have in2 : ∀ {k : Nat} {o : Obj}, W1.heap[k]? = some o → W2.heap[k]? = some o := fun {k o} h => (H2.out.block _ (Array.getElem?_eq_some_iff.1 h).1).trans h
 have in3 : ∀ {k : Nat} {o : Obj}, W2.heap[k]? = some o → W3.heap[k]? = some o := fun {k o} h => by
  have h1 := (k22.block _ (Array.getElem?_eq_some_iff.1 h).1).trans h
  exact (k23.block _ (Array.getElem?_eq_some_iff.1 h1).1).trans h1
 have hout : W3.heap[W2.heap.size]? = some (.cells #[.slice none 0 0] 37 (0, 0)) := by
  rw [k23.block _ (by omega), hW2']; exact World.alloc_heap_new _ _
 have hRd : Reads ts bound (.func (.func 53) #[] #[]) W2'.heap.size (W2'.heap.size + 1) (W2'.heap.size + 2) g cap cur W3 := by
  refine ⟨?_, ?_, ?_, in3 hh.out, hc.out⟩
  ·rw [e3, Below.heap_alloc _ _ _ (by simp; omega), Below.heap_alloc _ _ _ (by simp), World.alloc_heap_new]
  ·rw [e3, Below.heap_alloc _ _ _ (by simp)]
   have := World.alloc_heap_new (W2'.alloc (.cells #[.slice (some ⟨g, 0, none⟩) ts.length cap] 34)) (.cells #[.int .i64 bound] 3)
   rwa [World.size_alloc] at this
  ·rw [e3]
   have := World.alloc_heap_new ((W2'.alloc (.cells #[.slice (some ⟨g, 0, none⟩) ts.length cap] 34)).alloc (.cells #[.int .i64 bound] 3)) (.cells #[.func (.func 53) #[] #[]] 79)
   simpa using this
 have hI0 : SemI n d w W2.heap.size (semis one bound true CS.begin ts) 0 W3 :=
  ⟨in3 (in2 x1.out), in3 (in2 x2.out), in3 (in2 x3.out), ⟨_, hout, World.ownsRow_nil _ _ _ _⟩, by have := k23.size; omega, (B2.trans (k22.mono B2.size)).trans (k23.mono (by have := B2.size; omega))⟩
 have hseq := semi_seq (f := one) (fno := 53) hb.out (by have := hb2.out; omega) (by have := hl.out; omega) (enters_of Tryz.func53 (by kernel_rfl) rfl) (fun k a last w hG ha _ => cOne k a last w) G g0 gs hRd
 have hn1w : w.heap.size + 2 < W2.heap.size := by omega
 have hn0 : w.heap.size ≤ W3.heap.size := by have := k23.size; omega
 rw [sz2] at hseq
 clear c0 c1 c2 y1 y2 H1 HB1 x1 x2 x3 hz1 H2 hg hh hc hW3 e3 in2 in3 hout hRd g0 gs k22 k23 sz2 hW2' W2'
 refine wpIn_range_kept' (gf := 84) rfl (enters_of Tryz.func84 (by kernel_rfl) rfl) (fun o ho => by cases o <;> first | rfl | (simp [Obj.isCells] at ho)) hseq (fun _ => rfl)
  (SemI n d w W2.heap.size (semis one bound true CS.begin ts)) ?aFr
  (fun i y b W => W.heap[b]? = some (Obj.cells #[.string (fr y.1 y.2).1, .string (fr y.1 y.2).2] 24 (0, 0)) ∧ SemI n d w W2.heap.size (semis one bound true CS.begin ts) i W)
  (fun i A h => hG.out.below h.B) (fun i A B h hk => h.soft hk hn0) (fun i A l o o' h hl hA ho => h.put (by omega) hA ho)
  ?hI2p hI0 ?hassign ?hbody ?hdone
 case hassign =>
  intro m l i x W hx hI
  obtain ⟨X, hX⟩ : ∃ X, X = W.heap.size := ⟨_, rfl⟩
  simp only [encF]
  gi_wp2
  refine ⟨(Kept.refl _ _ _).alloc _, X, ?_, ?_, hI.soft ((Kept.refl _ _ _).alloc _) (Nat.le_refl _)⟩
  ·rw [← hX]
  ·rw [hX]; exact World.alloc_heap_new _ _
 case hI2p =>
  intro i x b A l o o' h hl hA ho
  refine ⟨?_, h.2.put (by omega) hA ho⟩
  rw [World.putObj_heap_other]
  ·exact h.1
  ·rintro rfl
   rw [hA] at h
   obtain rfl := Option.some.inj h.1
   cases ho
 case hdone =>
  intro D W hI hD hDw
  obtain ⟨v, h1, h2⟩ := hI.out
  obtain ⟨ad, kk, cc, rfl⟩ : ∃ ad kk cc, v = .slice ad kk cc := by
   rcases h2.2 with ⟨rfl, _⟩ | ⟨_, _, _, rfl, _⟩
   ·exact ⟨_, _, _, rfl⟩
   ·exact ⟨_, _, _, rfl⟩
  have q1 := cell0 h1
  replace h1 := Lib.hid h1
  replace h2 := Lib.hid h2
  replace hI := Lib.hid hI
  have q2 := cell0 hI.out.r1
  have q3 := cell0 hI.out.r2
  have q4 := frozen0 (j := 0) hI.out.r1
  have q5 := frozen0 (j := 0) hI.out.r2
  have hD1 : w.heap.size + 3 ≤ D := by
   have h1 := (Array.getElem?_eq_some_iff.1 hI0.r2).1
   omega
  replace hI0 := Lib.hid hI0
  clear hseq
  gi_wp2
  replace hI0 := hI0.out
  have hbo : w.heap.size + 2 < W2.heap.size := hn1w
  have hD2 : ((W.setCell ⟨w.heap.size + 1, 0, none⟩ (.slice ad kk cc)).setCell ⟨w.heap.size + 1 + 1, 0, none⟩ (.int .i64 0)).heap[D]? = some (.deferred (some [])) := by
   rw [Below.heap_setCell _ _ _ _ (by simp only; omega), Below.heap_setCell _ _ _ _ (by simp only; omega)]; exact hD
  refine ⟨by simp, .inl ⟨_, _, rfl, run_takeDeferred hD2, ?_⟩⟩
  have hc5 : (((W.setCell ⟨w.heap.size + 1, 0, none⟩ (.slice ad kk cc)).setCell ⟨w.heap.size + 1 + 1, 0, none⟩ (.int .i64 0)).putObj D (.deferred none)).cell? ⟨w.heap.size + 1, 0, none⟩ = some (.slice ad kk cc) := by
   rw [World.cell?_of_block (w := (W.setCell ⟨w.heap.size + 1, 0, none⟩ (.slice ad kk cc)).setCell ⟨w.heap.size + 1 + 1, 0, none⟩ (.int .i64 0)) (World.putObj_heap_other (by simp only; omega)), World.cell?_of_block (w := W.setCell ⟨w.heap.size + 1, 0, none⟩ (.slice ad kk cc)) (Below.heap_setCell _ _ _ _ (by simp only; omega))]
   exact World.cell?_setCell_same' _ _ _ (by rw [q2]; rfl)
  have hc6 : (((W.setCell ⟨w.heap.size + 1, 0, none⟩ (.slice ad kk cc)).setCell ⟨w.heap.size + 1 + 1, 0, none⟩ (.int .i64 0)).putObj D (.deferred none)).cell? ⟨w.heap.size + 1 + 1, 0, none⟩ = some (.int .i64 0) := by
   rw [World.cell?_of_block (w := (W.setCell ⟨w.heap.size + 1, 0, none⟩ (.slice ad kk cc)).setCell ⟨w.heap.size + 1 + 1, 0, none⟩ (.int .i64 0)) (World.putObj_heap_other (by simp only; omega))]
   refine World.cell?_setCell_same' _ _ _ ?_
   rw [World.cell?_of_block (w := W) (Below.heap_setCell _ _ _ _ (by simp only; omega)), q3]; rfl
  refine ⟨.tuple #[.slice ad kk cc, .int .i64 0], ?_, _, rfl, ?_, ?_⟩
  ·simp [results, Tryz.f25, go_sem, hc5, hc6]
  ·have h3 := h2.out
   rw [List.take_length] at h3
   obtain ⟨l1, l2⟩ := h3
   refine ⟨l1, ?_⟩
   rcases l2 with l2 | ⟨g, cap, cur, l3, l4, l5, l6⟩
   ·exact .inl l2
   ·refine .inr ⟨g, cap, cur, l3, by have := hI0.sz; have := hI.out.B.size; omega, ?_, l6⟩
    have hne : D ≠ g := by
     rintro rfl
     rw [hD] at l5; cases l5
    rw [World.putObj_heap_other (Ne.symm hne), Below.heap_setCell _ _ _ _ (by simp only; omega), Below.heap_setCell _ _ _ _ (by simp only; omega)]
    exact l5
  ·exact ((hI.out.B.setCell (p := ⟨w.heap.size + 1, 0, none⟩) (by simp) _).setCell (p := ⟨w.heap.size + 1 + 1, 0, none⟩) (by simp only; omega) _).trans (belowK_b (w := w) (Nat.le_refl _) _ D _ _ (by omega) hD2 rfl rfl)
 case hbody =>
  intro m l i y b W hy hI
  obtain ⟨hyb, hI⟩ := hI
  obtain ⟨v, h1, h2⟩ := hI.out
  obtain ⟨ad, kk, cc, rfl⟩ : ∃ ad kk cc, v = .slice ad kk cc := by
   rcases h2.2 with ⟨rfl, _⟩ | ⟨_, _, _, rfl, _⟩
   ·exact ⟨_, _, _, rfl⟩
   ·exact ⟨_, _, _, rfl⟩
  have hkk : kk = ((semis one bound true CS.begin ts).take i).length := by
   rcases h2.2 with ⟨e1, e2⟩ | ⟨_, _, _, e1, _⟩
   ·injection e1 with _ e3 _; omega
   ·injection e1
  have hgood := semis_all (f := one) (M := 10000000000000) (by have := hn1.out; omega) (by have := hn2.out; omega) hF0.1 hb.out hts
  have hlen := semis_len (f := one) hF0.1 hb.out hts
  have hyg := hgood y (List.mem_of_getElem? hy)
  have hti : ((semis one bound true CS.begin ts).take i).length ≤ (semis one bound true CS.begin ts).length := by rw [List.length_take]; omega
  have hk201 : kk ≤ 201 := by have := hb2.out; omega
  have hstep : (semis one bound true CS.begin ts).take (i + 1) = (semis one bound true CS.begin ts).take i ++ [y] := by rw [List.take_add_one, hy]; rfl
  replace hyb := hyg.fr ▸ hyb
  have q1 := cell0 h1
  obtain ⟨q2, q3⟩ := two_cells hyb
  have q4 := frozen0 (j := 0) h1
  have hnk : ¬ ((kk : Int) = 1000) := by omega
  replace h1 := Lib.hid h1
  replace h2 := Lib.hid h2
  replace hI := Lib.hid hI
  replace hI0 := Lib.hid hI0
  replace hyg := Lib.hid hyg
  replace hyb := Lib.hid hyb
  replace hgood := Lib.hid hgood
  replace hlen := Lib.hid hlen
  replace hti := Lib.hid hti
  replace hstep := Lib.hid hstep
  replace hy := Lib.hid hy
  replace hk201 := Lib.hid hk201
  replace hkk := Lib.hid hkk
  clear hseq
  have h2' : W.ownsRow (W2.heap.size + 1) 24 2 (.slice ad kk cc) kk (fcells ((semis one bound true CS.begin ts).take i)) := by have := h2.out; rwa [← hkk.out] at this
  replace h2 := Lib.hid h2'
  clear h2'
  obtain ⟨i0, hi, hz0, hz1, hz2⟩ := info_parts info24
  gi_wp2_with (gi_at_builtin; refine wpListIn_append_own _ rfl _ _ 37 rfl (W2.heap.size + 1) 24 i0 (.agg #[(.string ⟨#[]⟩), (.string ⟨#[]⟩)]) 2 32 Tryz.underlying37 hi hz0 hz1 hz2 rfl (by decide) _ _ _ rfl (h2.out.alloc _) ⟨W.heap.size, 0, none⟩ 1 1 [.string (T y.1), .string (T y.2)] rfl rfl (two_new _ _ _ _) (by intro u hu; simp at hu; rcases hu with rfl | rfl <;> rfl) (by have := hk201.out; unfold maxLen; omega) (by have := hk201.out; omega) (by have := hI.out.sz; simp; omega) ?_)
  intro v' w1 hown' hgrow _
  obtain ⟨g', cap', rfl⟩ := own_succ hown'
  have hI' := hI.out.app h1.out h2.out hown' hgrow hn1w (by rw [hstep.out, hkk.out]; simp) (by rw [hstep.out, fcells_append]; rfl)
  have hb1 : w1.heap[W2.heap.size]? = some (.cells #[.slice ad kk cc] 37 (0, 0)) := heap_old hgrow h1.out (fun he => by have := (row_block h2.out he.symm).1; omega)
  have q5 := cell0 hb1
  have q6 := frozen0 (j := 0) hb1
  replace hI' := Lib.hid hI'
  replace hgrow := Lib.hid hgrow
  replace hown' := Lib.hid hown'
  gi_wp2
  exact hI'.out
structure SemiOk (x1 x2 : ByteArray) (bound : Int) (p : Int × Int × List Int) : Prop where
 e1 : x1 = T p.1
 e2 : x2 = T p.2.1
 n1 : -10000000000000 < p.1
 n2 : p.1 < 10000000000000
 fr : Fr p.1 p.2.1
 d2 : p.2.1 < 10000000000000
 b1 : 1 ≤ bound
 b2 : bound ≤ 200
 ts : isCf p.2.2 p.1 p.2.1
 tl : p.2.2.length ≤ 1000
def semiRow (_ _ bound : Int) (ts : List Int) : List (Int × Int) := semis one bound true CS.begin ts
namespace PF
open Classical in
noncomputable def convergent_Semiconvergents.f (k : Nat) (x1 x2 : ByteArray) (bound : Int) : Option (List S24 × Int) :=
 if h : ∃ p, SemiOk x1 x2 bound p then some ((semiRow h.choose.1 h.choose.2.1 bound h.choose.2.2).map sf, 0) else (convergent_bounded.f k x1 x2 bound).bind fun e => if e = 0 then none else some ([], e)
end PF
theorem Semi_yes {n d bound : Int} {ts : List Int} (h : SemiOk (T n) (T d) bound (n, d, ts)) (k : Nat) : convergent_Semiconvergents.f k (T n) (T d) bound = some ((semiRow n d bound ts).map sf, 0) := by
 unfold convergent_Semiconvergents.f
 have hc : ∃ p, SemiOk (T n) (T d) bound p := ⟨_, h⟩
 rw [dif_pos hc]
 have hs := hc.choose_spec
 have e1 := T_inj hs.e1
 have e2 := T_inj hs.e2
 have e3 : hc.choose.2.2 = ts := hs.ts.unique (by rw [← e1, ← e2]; exact h.ts)
 rw [e3, ← e1, ← e2]
set_option maxRecDepth 100000 in
set_option maxHeartbeats 4000000 in
theorem semi_err (k : Nat) (x1 x2 : ByteArray) (bound e : Int) (w : World) (hG : GWorld w) (h : convergent_bounded.f k x1 x2 bound = some e) (he : e ≠ 0) :
  Calls Tryz.prog 25 #[.agg #[.string x1, .string x2], .int .i64 bound] w fun e' w' => e' = .returned (.tuple #[.slice none 0 0, .int .i64 e]) ∧ Below w.heap.size w w' := by
 have c1 := fun W hG => convergent_bounded.calls k _ _ _ _ W hG h
 have c0 := three_alloc (w := w) (W1 := ((w.alloc (.cells #[.string x1, .string x2] 24)).alloc (.cells #[.slice none 0 0] 37)).alloc (.cells #[.int .i64 0] 26)) (Below.refl _ _)
 refine (callsIn_wide (n := 0)).1 (callsIn_of_wp Tryz.func25 rfl trivial ?_ rfl)
 simp only [Tryz.ntmps25, List.size_toArray, List.length_cons, List.length_nil, Nat.reduceAdd, Nat.reduceSub, Array.replicate_succ, Array.replicate_zero, List.push_toArray, List.append_toArray, List.nil_append, List.cons_append]
 replace c1 := Lib.hid c1
 replace c0 := Lib.hid c0
 replace h := Lib.hid h
 replace hG := Lib.hid hG
 gi_wp2_with (gi_at_call 51; refine (callsIn_wide.2 (c1.out _ (hG.out.below c0.out.2.2.2.1))).mono ?_; rintro e' W1 ⟨rfl, H1⟩; obtain ⟨x1', x2', x3', HB1, hz1⟩ := three_alloc H1; have q2 := cell0 x2'; have q3 := cell0 x3'; have q4 := frozen0 (j := 0) x2'; have q5 := frozen0 (j := 0) x3'; replace H1 := Lib.hid H1; replace HB1 := Lib.hid HB1; replace x1' := Lib.hid x1'; replace x2' := Lib.hid x2'; replace x3' := Lib.hid x3'; replace hz1 := Lib.hid hz1)
 have hc5 : ((W1.setCell ⟨w.heap.size + 1, 0, none⟩ (.slice none 0 0)).setCell ⟨w.heap.size + 1 + 1, 0, none⟩ (.int .i64 e)).cell? ⟨w.heap.size + 1, 0, none⟩ = some (.slice none 0 0) := by
  rw [World.cell?_of_block (w := W1.setCell ⟨w.heap.size + 1, 0, none⟩ (.slice none 0 0)) (Below.heap_setCell _ _ _ _ (by simp only; omega))]
  exact World.cell?_setCell_same' _ _ _ (by rw [q2]; rfl)
 have hc6 : ((W1.setCell ⟨w.heap.size + 1, 0, none⟩ (.slice none 0 0)).setCell ⟨w.heap.size + 1 + 1, 0, none⟩ (.int .i64 e)).cell? ⟨w.heap.size + 1 + 1, 0, none⟩ = some (.int .i64 e) := by
  refine World.cell?_setCell_same' _ _ _ ?_
  rw [World.cell?_of_block (w := W1) (Below.heap_setCell _ _ _ _ (by simp only; omega)), q3]; rfl
 refine ⟨rfl, .tuple #[.slice none 0 0, .int .i64 e], ?_, rfl, ?_⟩
 ·simp [results, Tryz.f25, go_sem, hc5, hc6]
 ·exact (HB1.out.setCell (p := ⟨w.heap.size + 1, 0, none⟩) (by simp) _).setCell (p := ⟨w.heap.size + 1 + 1, 0, none⟩) (by simp only; omega) _
theorem PF.convergent_Semiconvergents.calls (k : Nat) (a0_0 a0_1 : ByteArray) (a1 : Int) (r1 : List S24) (r2 : Int) (w : World) (hG_ : GWorld w) (h : convergent_Semiconvergents.f k a0_0 a0_1 a1 = some (r1, r2)) :
  Calls Tryz.prog 25 #[.agg #[.string a0_0, .string a0_1], .int .i64 a1] w fun e w' => ∃ v0_ : Value, e = .returned (.tuple #[v0_, .int .i64 r2]) ∧ Kd.R k24 24 w' w.heap.size (fun _ => True) v0_ r1 ∧ Below w.heap.size w w' := by
 unfold convergent_Semiconvergents.f at h
 by_cases hc : ∃ p, SemiOk a0_0 a0_1 a1 p
 ·rw [dif_pos hc] at h
  have hs := hc.choose_spec
  obtain ⟨rfl, rfl⟩ := Prod.mk.inj (Option.some.inj h)
  generalize hc.choose = p at *
  obtain ⟨n, d, ts⟩ := p
  obtain ⟨e1, e2, n1, n2, hF, d2, b1, b2, hts, htl⟩ := hs
  simp only at e1 e2 n1 n2 hF d2 hts htl
  subst e1 e2
  refine (callsIn_wide (n := 0)).1 ((semi_walk n1 n2 hF d2 b1 b2 hts htl w hG_).mono ?_)
  rintro e w' ⟨v, rfl, hrow, hB⟩
  exact ⟨v, rfl, R_of_row hrow, hB⟩
 ·rw [dif_neg hc] at h
  obtain ⟨e, h1, h⟩ := Option.bind_eq_some_iff.1 h
  by_cases he : e = 0
  ·rw [if_pos he] at h; cases h
  ·rw [if_neg he] at h
   obtain ⟨rfl, rfl⟩ := Prod.mk.inj (Option.some.inj h)
   refine (semi_err k _ _ _ _ w hG_ h1 he).mono ?_
   rintro e' w' ⟨rfl, hB⟩
   exact ⟨_, rfl, Kd.R_nil _ _ _ _ _, hB⟩
end Go.Proofs.YtidajgkepdkcbaaGreatDoor
end
section
namespace Go.Proofs.YtidajgkepdkcbaaGreatDoor
open Go.RowKit Go.Lib Go.Proofs.YtidajgkepdkcbaaGreatDoorW.PrintWords Go.Proofs.YtidajgkepdkcbaaGreatDoorW.PrintLast Go.Proofs.YtidajgkepdkcbaaGreatDoorW.PrintMore PF
def fs (y : Int × Int) : S24 := ⟨(fr y.1 y.2).1, (fr y.1 y.2).2⟩
theorem rs_inner {n d bound : Int} {ts : List Int} {i : Nat} {c : CS} {a : Int} (ha : ts[i]? = some a) (ok : ConvOk n d ts i c a) (hd2 : d < 10000000000000) (hb : 1 ≤ bound) (hb2 : bound ≤ 1000000) (q1 : 1 ≤ c.q) (ha1 : 1 ≤ a) (hl : ts.length ≤ 1000)
  (rest : List S24) (hrest : ∀ out : List S24, out.length + rest.length ≤ 1000000 → Ev (fun k => schismaref04_Semiconvergents.l0 k ts bound out c.p c.q (c.next a).p (c.next a).q ((i + 1 : Nat) : Int)) (out ++ rest)) :
  ∀ (m : Nat) (j : Int) (out : List S24), (c.most a bound + 1 - j).toNat = m → 1 ≤ j → (j ≤ c.most a bound + 1 ∨ j = 1) → out.length + ((js j (c.most a bound)).length + rest.length) ≤ 1000000 →
   Ev (fun k => schismaref04_Semiconvergents.l1 k ts bound out c.b c.u c.p c.q (i : Int) j) (out ++ ((js j (c.most a bound)).map (fun j => fs (c.b + j * c.p, c.u + j * c.q)) ++ rest)) := by
 have hi : i < ts.length := (List.getElem?_eq_some_iff.1 ha).1
 have er : rd ts (i : Int) = a := by
  unfold rd
  rw [Int.toNat_natCast, List.getD_eq_getElem?_getD, ha]
  rfl
 have s := ok.step
 have so := s.ok
 have hu0 := so.u0
 have hp := so.p
 have hbb := so.b
 have hml : c.most a bound ≤ a := CS.most_le
 have hnq := ok.qd
 have hnp1 := ok.p1
 have hnp2 := ok.p2
 simp only [CS.next] at hnq hnp1 hnp2
 have next : ∀ (j : Int) (out : List S24), 1 ≤ j → c.most a bound < j → j ≤ c.most a bound + 1 ∨ j = 1 → out.length + rest.length ≤ 1000000 → Ev (fun k => schismaref04_Semiconvergents.l1 k ts bound out c.b c.u c.p c.q (i : Int) j) (out ++ rest) := by
  intro j out hj1 hj hj2 hlen
  have hg := hrest out hlen
  refine Ev.step (f := fun k => schismaref04_Semiconvergents.l0 k ts bound out c.p c.q (c.next a).p (c.next a).q ((i + 1 : Nat) : Int)) (fun k => ?_) hg
  unfold S15 at hp hbb
  have aq0 : 0 ≤ a * c.q := Int.mul_nonneg (by omega) (by omega)
  have w1 : wrap64 (a * c.p) = a * c.p := w64 (by omega) (by omega)
  have w2 : wrap64 (a * c.q) = a * c.q := w64 (by omega) (by omega)
  rw [schismaref04_Semiconvergents.l1, if_pos (by omega), if_pos (by omega), er, w1, w2, w64 (x := c.b + a * c.p) (by omega) (by omega), w64 (x := c.u + a * c.q) (by omega) (by omega), w64 (x := (i : Int) + 1) (by omega) (by omega)]
  by_cases hja : j ≤ a
  ·have hmx : bound < c.u + j * c.q := by
    have h1 : ¬ (c.u + j * c.q ≤ bound) := fun hh => by have := CS.le_most q1 hh hja; omega
    omega
   have hjq : j * c.q ≤ a * c.q := Int.mul_le_mul_of_nonneg_right hja (by omega)
   have hjq0 : 0 ≤ j * c.q := Int.mul_nonneg (by omega) (by omega)
   rw [if_pos hja, w64 (x := j * c.q) (by omega) (by omega), w64 (x := c.u + j * c.q) (by omega) (by omega), if_neg (by omega)]
   rfl
  ·rw [if_neg hja]
   rfl
 intro m
 induction m with
 | zero =>
  intro j out hm hj1 hj2 hlen
  rw [js_nil (by omega)] at hlen ⊢
  exact next j out hj1 (by omega) hj2 (by simpa using hlen)
 | succ m ih =>
  intro j out hm hj1 hj2 hlen
  have hjl : j ≤ c.most a bound := by omega
  rw [js_cons hjl] at hlen ⊢
  simp only [List.length_cons] at hlen
  have hub := CS.most_bound (c := c) (a := a) (j := j) (bound := bound) q1 hjl
  have hjq : j * c.q ≤ a * c.q := Int.mul_le_mul_of_nonneg_right (by omega) (by omega)
  have hjq0 : 1 * c.q ≤ j * c.q := Int.mul_le_mul_of_nonneg_right (by omega) (by omega)
  have hjp : (j * c.p).natAbs < 10000000000000000 := by
   have h1 := s.jp
   rw [Int.natAbs_mul]
   exact Nat.lt_of_le_of_lt (Nat.mul_le_mul_right _ (by omega : j.natAbs ≤ a.natAbs)) h1
  unfold S15 at hp hbb
  refine Ev.step (f := fun k => (schismaref04_Make.f k (c.b + j * c.p) (c.u + j * c.q)).bind fun x => schismaref04_Semiconvergents.l1 k ts bound (out ++ [(⟨x.1, x.2⟩ : S24)]) c.b c.u c.p c.q (i : Int) (j + 1)) (fun k => ?_) ?_
  ·rw [schismaref04_Semiconvergents.l1, if_pos (by omega), if_pos (by omega), er, if_pos (by omega), w64 (x := j * c.q) (by omega) (by omega), w64 (x := c.u + j * c.q) (by omega) (by omega), if_pos hub, w64 (x := j * c.p) (by omega) (by omega), w64 (x := c.b + j * c.p) (by omega) (by omega), w64 (x := j + 1) (by omega) (by have := s.hj; unfold S15 at this; omega)]
   congr 1; funext x
   rw [if_pos (by omega)]
  ·refine Ev.bind (RMake (by omega) (by omega) (by omega)) ?_
   have := ih (j + 1) (out ++ [fs (c.b + j * c.p, c.u + j * c.q)]) (by omega) (by omega) (.inl (by omega)) (by simp; omega)
   rw [List.append_assoc] at this
   exact this
theorem rs_dead {n d bound : Int} {ts : List Int} (hd2 : d < 10000000000000) (hb : 1 ≤ bound) (hb2 : bound ≤ 1000000) (hl : ts.length ≤ 1000) (hpos : ∀ a ∈ ts.drop 1, 1 ≤ a) (G : Nat → CS → Prop) (gs : ∀ k c a, G k c → ts[k]? = some a → ConvOk n d ts k c a ∧ G (k + 1) (c.next a)) :
  ∀ (m i : Nat) (c : CS) (out : List S24), ts.length = i + m → 1 ≤ i → G i c → bound < c.q → out.length ≤ 1000000 → Ev (fun k => schismaref04_Semiconvergents.l0 k ts bound out c.b c.u c.p c.q (i : Int)) out
 | 0, i, c, out, hi, _, _, _, _ => ev_here 1 fun k => by rw [schismaref04_Semiconvergents.l0, if_neg (by omega)]
 | m + 1, i, c, out, hi, h1, hG, hq, hlen => by
  have hlt : i < ts.length := by omega
  obtain ⟨ok, hG'⟩ := gs i c _ hG (List.getElem?_eq_getElem hlt)
  have ha1 : 1 ≤ ts[i] := hpos _ (List.mem_iff_getElem.2 ⟨i - 1, by simp; omega, by simp [Nat.sub_add_cancel h1]⟩)
  have hu0 := ok.step.ok.u0
  have hm0 : c.most ts[i] bound < 1 := by
   rcases Int.lt_or_le (c.most ts[i] bound) 1 with h | h
   ·exact h
   ·have := CS.most_bound (c := c) (a := ts[i]) (j := 1) (bound := bound) (by omega) h
    omega
  have aq : 1 * c.q ≤ ts[i] * c.q := Int.mul_le_mul_of_nonneg_right ha1 (by omega)
  have hq' : bound < (c.next ts[i]).q := by simp only [CS.next]; omega
  refine Ev.step (f := fun k => schismaref04_Semiconvergents.l1 k ts bound out c.b c.u c.p c.q (i : Int) 1) (fun k => by rw [schismaref04_Semiconvergents.l0, if_pos (by omega)]) ?_
  have := rs_inner (List.getElem?_eq_getElem hlt) ok hd2 hb hb2 (by omega) ha1 hl [] (fun out' hl' => by
   have h := rs_dead hd2 hb hb2 hl hpos G gs m (i + 1) (c.next ts[i]) out' (by omega) (by omega) hG' hq' (by simpa using hl')
   simpa [CS.next] using h) _ 1 out rfl (Int.le_refl _) (.inr rfl) (by rw [js_nil hm0]; simpa using hlen)
  rw [js_nil hm0] at this
  simpa using this
theorem rs_go {n d bound : Int} {ts : List Int} (hd2 : d < 10000000000000) (hb : 1 ≤ bound) (hb2 : bound ≤ 1000000) (hl : ts.length ≤ 1000) (hpos : ∀ a ∈ ts.drop 1, 1 ≤ a) (G : Nat → CS → Prop) (gs : ∀ k c a, G k c → ts[k]? = some a → ConvOk n d ts k c a ∧ G (k + 1) (c.next a)) :
  ∀ (m i : Nat) (c : CS) (out : List S24), ts.length = i + m → 1 ≤ i → G i c → 1 ≤ c.q → out.length + (semis one bound false c (ts.drop i)).length ≤ 1000000 →
   Ev (fun k => schismaref04_Semiconvergents.l0 k ts bound out c.b c.u c.p c.q (i : Int)) (out ++ (semis one bound false c (ts.drop i)).map fs)
 | 0, i, c, out, hi, _, _, _, _ => ev_here 1 fun k => by
  rw [schismaref04_Semiconvergents.l0, if_neg (by omega), List.drop_eq_nil_iff.2 (by omega)]
  simp [semis]
 | m + 1, i, c, out, hi, h1, hG, q1, hlen => by
  have hlt : i < ts.length := by omega
  obtain ⟨ok, hG'⟩ := gs i c _ hG (List.getElem?_eq_getElem hlt)
  have ha1 : 1 ≤ ts[i] := hpos _ (List.mem_iff_getElem.2 ⟨i - 1, by simp; omega, by simp [Nat.sub_add_cancel h1]⟩)
  have e : semis one bound false c (ts.drop i) = (js 1 (c.most ts[i] bound)).map (fun j => (c.b + j * c.p, c.u + j * c.q)) ++ (if c.most ts[i] bound < ts[i] then [] else semis one bound false (c.next ts[i]) (ts.drop (i + 1))) := by
   rw [List.drop_eq_getElem_cons hlt, semis]
   simp only [Bool.false_eq_true, if_false, Bool.false_or, one]
   congr 2
   refine List.filter_eq_self.2 (fun j hj => ?_)
   have := (mem_js.1 hj).1
   simp; omega
  rw [e] at hlen ⊢
  have hq' : 1 ≤ (c.next ts[i]).q := ok.q1
  refine Ev.step (f := fun k => schismaref04_Semiconvergents.l1 k ts bound out c.b c.u c.p c.q (i : Int) 1) (fun k => by rw [schismaref04_Semiconvergents.l0, if_pos (by omega)]) ?_
  by_cases hc : c.most ts[i] bound < ts[i]
  ·rw [if_pos hc] at hlen ⊢
   have hu0 := ok.step.ok.u0
   have hdead : bound < (c.next ts[i]).q := by
    simp only [CS.next]
    have h1 : ¬ (c.u + ts[i] * c.q ≤ bound) := fun hh => by have := CS.le_most (c := c) (a := ts[i]) q1 hh (Int.le_refl _); omega
    omega
   have := rs_inner (List.getElem?_eq_getElem hlt) ok hd2 hb hb2 q1 ha1 hl [] (fun out' hl' => by
    have h := rs_dead hd2 hb hb2 hl hpos G gs m (i + 1) (c.next ts[i]) out' (by omega) (by omega) hG' hdead (by simpa using hl')
    simpa [CS.next] using h) _ 1 out rfl (Int.le_refl _) (.inr rfl) (by simpa using hlen)
   simpa [List.map_map, Function.comp_def] using this
  ·rw [if_neg hc] at hlen ⊢
   have := rs_inner (List.getElem?_eq_getElem hlt) ok hd2 hb hb2 q1 ha1 hl ((semis one bound false (c.next ts[i]) (ts.drop (i + 1))).map fs) (fun out' hl' => by
    have h := rs_go hd2 hb hb2 hl hpos G gs m (i + 1) (c.next ts[i]) out' (by omega) (by omega) hG' hq' (by simpa using hl')
    simpa [CS.next] using h) _ 1 out rfl (Int.le_refl _) (.inr rfl) (by simpa using hlen)
   simpa [List.map_map, Function.comp_def] using this
theorem RSemi {n d bound : Int} {ts : List Int} (hts : isCf ts n d) (hn1 : -10000000000000 < n) (hn2 : n < 10000000000000) (h0 : 0 < d) (hd2 : d < 10000000000000) (hl : ts.length ≤ 1000) (hb : 1 ≤ bound) (hb2 : bound ≤ 1000) :
  Ev (fun k => schismaref04_Semiconvergents.f k ts bound) ((semis one bound true CS.begin ts).map sf) := by
 obtain ⟨G, g0, gs⟩ := conv_G hn1 hn2 h0 hd2 hts
 have hgood := semis_all (f := one) (M := 10000000000000) (bound := bound) (by omega) (by omega) h0 hb hts
 have hlen := semis_len (f := one) (bound := bound) h0 hb hts
 have hpos := cf_pos1 hts h0
 have hmap : (semis one bound true CS.begin ts).map sf = (semis one bound true CS.begin ts).map fs := List.map_congr_left (fun y hy => by unfold sf fs; rw [(hgood y hy).fr])
 rw [hmap]
 cases ts with
 | nil => exact hts.elim
 | cons a l =>
  obtain ⟨ok, hG'⟩ := gs 0 CS.begin a g0 rfl
  rw [semis_first] at hlen ⊢
  unfold schismaref04_Semiconvergents.f
  have e0 : rd (a :: l) 0 = a := rfl
  have hp := ok.p1
  have hp2 := ok.p2
  simp only [CS.next, CS.begin] at hp hp2
  refine Ev.congr (fun k => by rw [if_pos (by simp), e0]) ?_
  refine Ev.bind (RMake (n := a) (d := 1) (by omega) (by omega) (by omega)) ?_
  have := rs_go hd2 hb (by omega) hl hpos G gs l.length 1 (CS.begin.next a) [fs (a, 1)] (by simp; omega) (Nat.le_refl _) hG' ok.q1 (by simp at hlen ⊢; omega)
  simpa [CS.next, CS.begin, fs] using this
end Go.Proofs.YtidajgkepdkcbaaGreatDoor
end
section
namespace Go.Proofs.YtidajgkepdkcbaaGreatDoor.PL
open Go.RowKit Go.Proofs.YtidajgkepdkcbaaGreatDoorW.PrintWords Go.Proofs.YtidajgkepdkcbaaGreatDoorW.PrintLast Go.Proofs.YtidajgkepdkcbaaGreatDoorW.PrintMore Go.Proofs.YtidajgkepdkcbaaGreatDoor.PF
attribute [local go_sem] max2_int min2_int max_two min_two max_three min_three max_four min_four
mutual
noncomputable def schismalaw04_ConvergentSemis.j0 : Nat → Int → Bool → ByteArray → ByteArray → Option (Bool)
 | 0, _, _, _, _ => none
 | k + 1, x1, x17, x102000, x102001 => if x17 = true then ((schismalaw04_known.f k).bind fun t104 => (some t104)) else ((schismaref04_Parts.f k x102000 x102001).bind fun bt105 => (if x1 ≥ 1 then (schismalaw04_ConvergentSemis.j1 k x1 bt105.1 bt105.2.1 bt105.2.2 (decide (x1 ≤ 1000000)) x102000 x102001) else (schismalaw04_ConvergentSemis.j1 k x1 bt105.1 bt105.2.1 bt105.2.2 false x102000 x102001)))
noncomputable def schismalaw04_ConvergentSemis.j1 : Nat → Int → Int → Int → Bool → Bool → ByteArray → ByteArray → Option (Bool)
 | 0, _, _, _, _, _, _, _ => none
 | k + 1, x1, x5, x6, x7, x8, x102000, x102001 => if x7 = true then (if x8 = true then (schismalaw04_ConvergentSemis.j2 k x1 x5 x6 x7 x8 (decide (x1 > 200)) x102000 x102001) else (schismalaw04_ConvergentSemis.j2 k x1 x5 x6 x7 x8 false x102000 x102001)) else (schismalaw04_ConvergentSemis.j2 k x1 x5 x6 x7 x8 false x102000 x102001)
noncomputable def schismalaw04_ConvergentSemis.j2 : Nat → Int → Int → Int → Bool → Bool → Bool → ByteArray → ByteArray → Option (Bool)
 | 0, _, _, _, _, _, _, _, _ => none
 | k + 1, x1, x5, x6, x7, x8, x38, x102000, x102001 => if x38 = true then (some true) else ((convergent_Semiconvergents.f k x102000 x102001 x1).bind fun bt108 => (if x7 = true then (if x8 = true then ((schismaref04_Terms.f k x5 x6).bind fun t112 => ((schismaref04_Semiconvergents.f k t112 x1).bind fun t115 => ((schismalaw04_same.f k bt108.1 t115).bind fun t118 => (if t118 = true then (some (bt108.2 == 0)) else (some false))))) else (if (bt108.1.length : Int) = 0 then (some (bt108.2 == 3)) else (some false))) else (if (bt108.1.length : Int) = 0 then (some (bt108.2 == 2)) else (some false))))
end
noncomputable def schismalaw04_ConvergentSemis.f (k : Nat) (a0_0 : ByteArray) (a0_1 : ByteArray) (a1 : Int) : Option (Bool) := (schismalaw04_known.f k).bind fun t102 => (if t102 = true then ((schismalaw04_short.f a0_0 a0_1).bind fun t103 => (schismalaw04_ConvergentSemis.j0 k a1 (!t103) a0_0 a0_1)) else (schismalaw04_ConvergentSemis.j0 k a1 true a0_0 a0_1))
set_option maxHeartbeats 8000000 in
set_option maxRecDepth 100000 in
theorem schismalaw04_ConvergentSemis.calls (k : Nat) (a0_0 : ByteArray) (a0_1 : ByteArray) (a1 : Int) (r : Bool) (w : World) (hG_ : GWorld w) (h : schismalaw04_ConvergentSemis.f k a0_0 a0_1 a1 = some r) :
  Calls Tryz.prog 5 #[.agg #[.string a0_0, .string a0_1], .int .i64 a1] w fun e w' => e = .returned (.bool r) ∧ Below w.heap.size w w' := by
 have hu24 := Tryz.underlying24
 have HB := Aside0.mk (Below.refl w.heap.size w)
 have HG := Aside0.mk hG_
 clear hG_
 have H : ((schismalaw04_known.f k).bind fun t102 => (if t102 = true then ((schismalaw04_short.f a0_0 a0_1).bind fun t103 => (schismalaw04_ConvergentSemis.j0 k a1 (!t103) a0_0 a0_1)) else (schismalaw04_ConvergentSemis.j0 k a1 true a0_0 a0_1))) = some r := h
 clear h
 have HC3 := Aside0.mk H
 clear H
 go_enter Tryz.func5, Tryz.ntmps5
 go_upto_region 1 with (first | ((with_reducible refine gate_dst (N := 2) rfl ?_); refine box_event ?hg (N := 2) ?hd (cs := #[.string a0_0, .string a0_1]) (t := 24) ?hr ?_; (case hd => rfl); (case hg => rfl); (case hr => first | (go_simp; done) | (go_simp; rfl)); intro gb101 hg w4 hbox hb; have n0_ := Aside0.mk (below_step (by repeat (first | (with_reducible first | exact HB.out | apply below_alloc | apply pw_below_drewN | apply below_drew1) | exact HB.out)) hb); have n1_ := Aside0.mk (hbox); have n2_ := Aside0.mk ((by rw [hg]; exact (below_size (by repeat (first | (with_reducible first | exact HB.out | apply below_alloc | apply pw_below_drewN | apply below_drew1) | exact HB.out))) : w.heap.size ≤ gb101)); have n3_ := Aside0.mk ((by rw [hg]; exact (below_size (by repeat (first | (with_reducible first | exact HB.out | apply below_alloc | apply pw_below_drewN | apply below_drew1) | exact HB.out))) : w.heap.size ≤ gb101)); clear HB; have HB := n0_; have BK101 := n1_; have GW101 := n2_; have GE101 := n3_; clear n0_ n1_ n2_ n3_; clear hb hbox hg))
 (try simp only [Act.put, List.setIfInBounds_toArray, List.set_cons_zero, List.set_cons_succ])
 go_cut [17] (fun v17 wc => ∃ (kq : Nat) (x17_2 : Bool), v17 = .bool x17_2 ∧ Aside0 (schismalaw04_ConvergentSemis.j0 kq a1 x17_2 a0_0 a0_1 = some r) ∧ Aside0 (kq ≤ k) ∧ Aside0 (wc.heap[gb101]? = some (.cells #[.string a0_0, .string a0_1] 24 (0, 0))) ∧ Aside0 (Below w.heap.size w wc))
 case first =>
  have H := HC3.out
  clear HC3
  replace H := Option.bind_eq_some_iff.mp H
  obtain ⟨t102, A50, H⟩ := H
  replace H : (if t102 = true then ((schismalaw04_short.f a0_0 a0_1).bind fun t103 => (schismalaw04_ConvergentSemis.j0 k a1 (!t103) a0_0 a0_1)) else (schismalaw04_ConvergentSemis.j0 k a1 true a0_0 a0_1)) = some r := H
  have A5 := Aside0.mk A50
  clear A50
  by_cases c6 : t102 = true
  ·subst c6
   have H1 : ((schismalaw04_short.f a0_0 a0_1).bind fun t103 => (schismalaw04_ConvergentSemis.j0 k a1 (!t103) a0_0 a0_1)) = some r := by rw [if_pos rfl] at H; exact H
   clear H
   have H := H1
   clear H1
   replace H := Option.bind_eq_some_iff.mp H
   obtain ⟨t103, A70, H⟩ := H
   replace H : (schismalaw04_ConvergentSemis.j0 k a1 (!t103) a0_0 a0_1) = some r := H
   have A7 := Aside0.mk A70
   clear A70
   have H' := Aside0.mk H
   clear H
   go_wp2_with (first | ((with_reducible refine gate_callee (f := 13) rfl ?_); refine goesL_ (some 11) rfl rfl Tryz.func13 (by kernel_rfl) rfl #[] rfl (by (try simp only [List.map_toArray, List.map_cons, List.map_nil]); try rfl) ?_; (with_reducible refine (schismalaw04_known.calls k  true _ ?side1 A5.out).mono ?_); (case side1 => exact GWorld.below HG.out (by repeat (first | (with_reducible first | exact HB.out | apply below_alloc | apply pw_below_drewN | apply below_drew1 | refine below_set ?_ GE101.out) | exact HB.out))); rintro e w8 ⟨rfl, hb⟩; refine ⟨_, rfl, ?_⟩; have n0_ := Aside0.mk (blk_below (g := gb101) (o := .cells #[.string a0_0, .string a0_1] 24 (0, 0)) (by (with_reducible repeat (first | refine blk_drewN ?_ _ | refine blk_drew ?_ | refine blk_alloc ?_ _)); exact BK101.out) hb); have n1_ := Aside0.mk (below_step (by repeat (first | (with_reducible first | exact HB.out | apply below_alloc | apply pw_below_drewN | apply below_drew1 | refine below_set ?_ GE101.out) | exact HB.out)) hb); clear BK101; clear HB; have BK101 := n0_; have HB := n1_; clear n0_ n1_; (try clear hb); (try clear hb2); (try clear hk); (try clear hi); have hcz9_0 : w8.cell? ⟨gb101, 0, none⟩ = some (.string a0_0) := (blk_cell BK101.out 0).trans rfl; have hcz9_1 : w8.cell? ⟨gb101, 1, none⟩ = some (.string a0_1) := (blk_cell BK101.out 1).trans rfl; have hfz9_0 := blk_frozen BK101.out 0; have hfz9_1 := blk_frozen BK101.out 1) | (go_at_call 18; (with_reducible refine (schismalaw04_short.calls a0_0 a0_1 t103 _ A7.out).mono ?_); rintro e w10 ⟨rfl, hb⟩; have n0_ := Aside0.mk (blk_below (g := gb101) (o := .cells #[.string a0_0, .string a0_1] 24 (0, 0)) (by (with_reducible repeat (first | refine blk_drewN ?_ _ | refine blk_drew ?_ | refine blk_alloc ?_ _)); exact BK101.out) hb); have n1_ := Aside0.mk (below_step (by repeat (first | (with_reducible first | exact HB.out | apply below_alloc | apply pw_below_drewN | apply below_drew1 | refine below_set ?_ GE101.out) | exact HB.out)) hb); clear BK101; clear HB; have BK101 := n0_; have HB := n1_; clear n0_ n1_; (try clear hb); (try clear hb2); (try clear hk); (try clear hi)))
   go_meet
   case rel => exact ⟨_, (!t103), (by first | rfl | (simp; done) | (simp [*]; done)), H', ⟨by first | omega | exact Nat.le_refl _⟩, ⟨by (with_reducible repeat (first | refine blk_drewN ?_ _ | refine blk_drew ?_ | refine blk_alloc ?_ _)); exact BK101.out⟩, ⟨by repeat (first | (with_reducible first | exact HB.out | apply below_alloc | apply pw_below_drewN | apply below_drew1 | refine below_set ?_ GE101.out) | exact HB.out)⟩⟩
  ·replace c6 := Bool.eq_false_iff.mpr c6
   subst c6
   have H1 : (schismalaw04_ConvergentSemis.j0 k a1 true a0_0 a0_1) = some r := by rw [if_neg (show ¬ (false = true) by decide)] at H; exact H
   clear H
   have H := H1
   clear H1
   have H' := Aside0.mk H
   clear H
   go_wp2_with (first | ((with_reducible refine gate_callee (f := 13) rfl ?_); refine goesL_ (some 11) rfl rfl Tryz.func13 (by kernel_rfl) rfl #[] rfl (by (try simp only [List.map_toArray, List.map_cons, List.map_nil]); try rfl) ?_; (with_reducible refine (schismalaw04_known.calls k  false _ ?side1 A5.out).mono ?_); (case side1 => exact GWorld.below HG.out (by repeat (first | (with_reducible first | exact HB.out | apply below_alloc | apply pw_below_drewN | apply below_drew1 | refine below_set ?_ GE101.out) | exact HB.out))); rintro e w11 ⟨rfl, hb⟩; refine ⟨_, rfl, ?_⟩; have n0_ := Aside0.mk (blk_below (g := gb101) (o := .cells #[.string a0_0, .string a0_1] 24 (0, 0)) (by (with_reducible repeat (first | refine blk_drewN ?_ _ | refine blk_drew ?_ | refine blk_alloc ?_ _)); exact BK101.out) hb); have n1_ := Aside0.mk (below_step (by repeat (first | (with_reducible first | exact HB.out | apply below_alloc | apply pw_below_drewN | apply below_drew1 | refine below_set ?_ GE101.out) | exact HB.out)) hb); clear BK101; clear HB; have BK101 := n0_; have HB := n1_; clear n0_ n1_; (try clear hb); (try clear hb2); (try clear hk); (try clear hi)))
   go_meet
   case rel => exact ⟨_, (true), (by first | rfl | (simp; done) | (simp [*]; done)), H', ⟨by first | omega | exact Nat.le_refl _⟩, ⟨by (with_reducible repeat (first | refine blk_drewN ?_ _ | refine blk_drew ?_ | refine blk_alloc ?_ _)); exact BK101.out⟩, ⟨by repeat (first | (with_reducible first | exact HB.out | apply below_alloc | apply pw_below_drewN | apply below_drew1 | refine below_set ?_ GE101.out) | exact HB.out)⟩⟩
 case rest =>
  clear HC3
  try clear c1
  try clear p2
  try clear c5
  try clear c6
  try clear hcz9_0
  try clear hcz9_1
  try clear hfz9_0
  try clear hfz9_1
  obtain ⟨kq, x17_2, rfl, HA, HJ2, BK101, HB⟩ := hcut
  cases kq with
  | zero => exact absurd HA.out (by simp [schismalaw04_ConvergentSemis.j0])
  | succ kj2 =>
   have H := HA.out
   clear HA
   simp only [schismalaw04_ConvergentSemis.j0] at H
   by_cases c12 : x17_2 = true
   ·subst c12
    have H1 : ((schismalaw04_known.f kj2).bind fun t104 => (some t104)) = some r := by rw [if_pos rfl] at H; exact H
    clear H
    have H := H1
    clear H1
    replace H := Option.bind_eq_some_iff.mp H
    obtain ⟨t104, A130, H⟩ := H
    replace H : (some t104) = some r := H
    have A13 := Aside0.mk A130
    clear A130
    obtain rfl := Option.some.inj H
    go_wp2_with (first | ((with_reducible refine gate_callee (f := 13) rfl ?_); refine goesL_ (some 18) rfl rfl Tryz.func13 (by kernel_rfl) rfl #[] rfl (by (try simp only [List.map_toArray, List.map_cons, List.map_nil]); try rfl) ?_; (with_reducible refine (schismalaw04_known.calls kj2  t104 _ ?side1 A13.out).mono ?_); (case side1 => exact GWorld.below HG.out (by repeat (first | (with_reducible first | exact HB.out | apply below_alloc | apply pw_below_drewN | apply below_drew1 | refine below_set ?_ GE101.out) | exact HB.out))); rintro e w14 ⟨rfl, hb⟩; refine ⟨_, rfl, ?_⟩; have n0_ := Aside0.mk (blk_below (g := gb101) (o := .cells #[.string a0_0, .string a0_1] 24 (0, 0)) (by (with_reducible repeat (first | refine blk_drewN ?_ _ | refine blk_drew ?_ | refine blk_alloc ?_ _)); exact BK101.out) hb); have n1_ := Aside0.mk (below_step (by repeat (first | (with_reducible first | exact HB.out | apply below_alloc | apply pw_below_drewN | apply below_drew1 | refine below_set ?_ GE101.out) | exact HB.out)) hb); clear BK101; clear HB; have BK101 := n0_; have HB := n1_; clear n0_ n1_; (try clear hb); (try clear hb2); (try clear hk); (try clear hi)))
    go_ret
    exact ⟨by first | rfl | (simp [*, errW_none, errW_some] <;> rfl), by repeat (first | (with_reducible first | exact HB.out | apply below_alloc | apply pw_below_drewN | apply below_drew1 | refine below_set ?_ GE101.out) | exact HB.out)⟩
   ·replace c12 := Bool.eq_false_iff.mpr c12
    subst c12
    have H1 : ((schismaref04_Parts.f kj2 a0_0 a0_1).bind fun bt105 => (if a1 ≥ 1 then (schismalaw04_ConvergentSemis.j1 kj2 a1 bt105.1 bt105.2.1 bt105.2.2 (decide (a1 ≤ 1000000)) a0_0 a0_1) else (schismalaw04_ConvergentSemis.j1 kj2 a1 bt105.1 bt105.2.1 bt105.2.2 false a0_0 a0_1))) = some r := by rw [if_neg (show ¬ (false = true) by decide)] at H; exact H
    clear H
    have H := H1
    clear H1
    replace H := Option.bind_eq_some_iff.mp H
    obtain ⟨⟨t105, t106, t107⟩, A150, H⟩ := H
    replace H : (if a1 ≥ 1 then (schismalaw04_ConvergentSemis.j1 kj2 a1 t105 t106 t107 (decide (a1 ≤ 1000000)) a0_0 a0_1) else (schismalaw04_ConvergentSemis.j1 kj2 a1 t105 t106 t107 false a0_0 a0_1)) = some r := H
    have A15 := Aside0.mk A150
    clear A150
    have HC16 := Aside0.mk H
    clear H
    have hcz17_0 : wc.cell? ⟨gb101, 0, none⟩ = some (.string a0_0) := (blk_cell BK101.out 0).trans rfl
    have hcz17_1 : wc.cell? ⟨gb101, 1, none⟩ = some (.string a0_1) := (blk_cell BK101.out 1).trans rfl
    have hfz17_0 := blk_frozen BK101.out 0
    have hfz17_1 := blk_frozen BK101.out 1
    go_upto_region 4 with (first | ((with_reducible refine gate_callee (f := 15) rfl ?_); refine goesL_ (some 21) rfl rfl Tryz.func15 (by kernel_rfl) rfl #[.agg #[.string a0_0, .string a0_1]] rfl (by (try simp only [List.map_toArray, List.map_cons, List.map_nil]); try rfl) ?_; (with_reducible refine (schismaref04_Parts.calls kj2 a0_0 a0_1 t105 t106 t107 _ A15.out).mono ?_); rintro e w18 ⟨rfl, hb⟩; refine ⟨_, rfl, ?_⟩; have n0_ := Aside0.mk (blk_below (g := gb101) (o := .cells #[.string a0_0, .string a0_1] 24 (0, 0)) (by (with_reducible repeat (first | refine blk_drewN ?_ _ | refine blk_drew ?_ | refine blk_alloc ?_ _)); exact BK101.out) hb); have n1_ := Aside0.mk (below_step (by repeat (first | (with_reducible first | exact HB.out | apply below_alloc | apply pw_below_drewN | apply below_drew1 | refine below_set ?_ GE101.out) | exact HB.out)) hb); clear BK101; clear HB; have BK101 := n0_; have HB := n1_; clear n0_ n1_; (try clear hb); (try clear hb2); (try clear hk); (try clear hi)))
    (try simp only [Act.put, List.setIfInBounds_toArray, List.set_cons_zero, List.set_cons_succ])
    go_cut [8] (fun v8 wc => ∃ (kq : Nat) (x8_15 : Bool), v8 = .bool x8_15 ∧ Aside0 (schismalaw04_ConvergentSemis.j1 kq a1 t105 t106 t107 x8_15 a0_0 a0_1 = some r) ∧ Aside0 (kq ≤ kj2) ∧ Aside0 (wc.heap[gb101]? = some (.cells #[.string a0_0, .string a0_1] 24 (0, 0))) ∧ Aside0 (Below w.heap.size w wc))
    case first =>
     have H := HC16.out
     clear HC16
     by_cases c19 : a1 ≥ 1
     ·rw [if_pos c19] at H
      have c19b0 : decide (1 ≤ a1) = true := decide_eq_true c19
      clear c19
      (first | rw [c19b0] | (simp only [i64_w, i32_w]; rw [c19b0]) | skip)
      have H' := Aside0.mk H
      clear H
      go_wp2
      go_meet
      case rel => exact ⟨_, (decide (a1 ≤ 1000000)), (by first | rfl | (simp; done) | (simp [*]; done)), H', ⟨by have := HJ2.out; first | omega | exact Nat.le_refl _⟩, ⟨by (with_reducible repeat (first | refine blk_drewN ?_ _ | refine blk_drew ?_ | refine blk_alloc ?_ _)); exact BK101.out⟩, ⟨by repeat (first | (with_reducible first | exact HB.out | apply below_alloc | apply pw_below_drewN | apply below_drew1 | refine below_set ?_ GE101.out) | exact HB.out)⟩⟩
     ·rw [if_neg c19] at H
      have c19b0 : decide (1 ≤ a1) = false := decide_eq_false c19
      clear c19
      (first | rw [c19b0] | (simp only [i64_w, i32_w]; rw [c19b0]) | skip)
      have H' := Aside0.mk H
      clear H
      go_wp2
      go_meet
      case rel => exact ⟨_, (false), (by first | rfl | (simp; done) | (simp [*]; done)), H', ⟨by have := HJ2.out; first | omega | exact Nat.le_refl _⟩, ⟨by (with_reducible repeat (first | refine blk_drewN ?_ _ | refine blk_drew ?_ | refine blk_alloc ?_ _)); exact BK101.out⟩, ⟨by repeat (first | (with_reducible first | exact HB.out | apply below_alloc | apply pw_below_drewN | apply below_drew1 | refine below_set ?_ GE101.out) | exact HB.out)⟩⟩
    case rest =>
     clear HC16
     try clear c1
     try clear p2
     try clear c5
     try clear c6
     try clear c12
     try clear c13
     try clear c15
     try clear c19
     try clear c19b0
     try clear hcz17_0
     try clear hcz17_1
     try clear hcz9_0
     try clear hcz9_1
     try clear hfz17_0
     try clear hfz17_1
     try clear hfz9_0
     try clear hfz9_1
     try clear p2
     obtain ⟨kq, x8_15, rfl, HA, HJ15, BK101, HB⟩ := hcut
     cases kq with
     | zero => exact absurd HA.out (by simp [schismalaw04_ConvergentSemis.j1])
     | succ kj15 =>
      have H := HA.out
      clear HA
      simp only [schismalaw04_ConvergentSemis.j1] at H
      have HC20 := Aside0.mk H
      clear H
      go_upto_region 5 with (fail)
      go_cut [38] (fun v38 wc => ∃ (kq : Nat) (x38_19 : Bool), v38 = .bool x38_19 ∧ Aside0 (schismalaw04_ConvergentSemis.j2 kq a1 t105 t106 t107 x8_15 x38_19 a0_0 a0_1 = some r) ∧ Aside0 (kq ≤ kj15) ∧ Aside0 (wc.heap[gb101]? = some (.cells #[.string a0_0, .string a0_1] 24 (0, 0))) ∧ Aside0 (Below w.heap.size w wc))
      case first =>
       have H := HC20.out
       clear HC20
       by_cases c21 : t107 = true
       ·subst c21
        have H1 : (if x8_15 = true then (schismalaw04_ConvergentSemis.j2 kj15 a1 t105 t106 true x8_15 (decide (a1 > 200)) a0_0 a0_1) else (schismalaw04_ConvergentSemis.j2 kj15 a1 t105 t106 true x8_15 false a0_0 a0_1)) = some r := by rw [if_pos rfl] at H; exact H
        clear H
        have H := H1
        clear H1
        by_cases c22 : x8_15 = true
        ·subst c22
         have H1 : (schismalaw04_ConvergentSemis.j2 kj15 a1 t105 t106 true true (decide (a1 > 200)) a0_0 a0_1) = some r := by rw [if_pos rfl] at H; exact H
         clear H
         have H := H1
         clear H1
         have H' := Aside0.mk H
         clear H
         go_wp2
         go_meet
         case rel => exact ⟨_, (decide (a1 > 200)), (by first | rfl | (simp; done) | (simp [*]; done)), H', ⟨by have := HJ2.out; have := HJ15.out; first | omega | exact Nat.le_refl _⟩, ⟨by (with_reducible repeat (first | refine blk_drewN ?_ _ | refine blk_drew ?_ | refine blk_alloc ?_ _)); exact BK101.out⟩, ⟨by repeat (first | (with_reducible first | exact HB.out | apply below_alloc | apply pw_below_drewN | apply below_drew1 | refine below_set ?_ GE101.out) | exact HB.out)⟩⟩
        ·replace c22 := Bool.eq_false_iff.mpr c22
         subst c22
         have H1 : (schismalaw04_ConvergentSemis.j2 kj15 a1 t105 t106 true false false a0_0 a0_1) = some r := by rw [if_neg (show ¬ (false = true) by decide)] at H; exact H
         clear H
         have H := H1
         clear H1
         have H' := Aside0.mk H
         clear H
         go_wp2
         go_meet
         case rel => exact ⟨_, (false), (by first | rfl | (simp; done) | (simp [*]; done)), H', ⟨by have := HJ2.out; have := HJ15.out; first | omega | exact Nat.le_refl _⟩, ⟨by (with_reducible repeat (first | refine blk_drewN ?_ _ | refine blk_drew ?_ | refine blk_alloc ?_ _)); exact BK101.out⟩, ⟨by repeat (first | (with_reducible first | exact HB.out | apply below_alloc | apply pw_below_drewN | apply below_drew1 | refine below_set ?_ GE101.out) | exact HB.out)⟩⟩
       ·replace c21 := Bool.eq_false_iff.mpr c21
        subst c21
        have H1 : (schismalaw04_ConvergentSemis.j2 kj15 a1 t105 t106 false x8_15 false a0_0 a0_1) = some r := by rw [if_neg (show ¬ (false = true) by decide)] at H; exact H
        clear H
        have H := H1
        clear H1
        have H' := Aside0.mk H
        clear H
        go_wp2
        go_meet
        case rel => exact ⟨_, (false), (by first | rfl | (simp; done) | (simp [*]; done)), H', ⟨by have := HJ2.out; have := HJ15.out; first | omega | exact Nat.le_refl _⟩, ⟨by (with_reducible repeat (first | refine blk_drewN ?_ _ | refine blk_drew ?_ | refine blk_alloc ?_ _)); exact BK101.out⟩, ⟨by repeat (first | (with_reducible first | exact HB.out | apply below_alloc | apply pw_below_drewN | apply below_drew1 | refine below_set ?_ GE101.out) | exact HB.out)⟩⟩
      case rest =>
       clear HC20
       try clear c1
       try clear c2
       try clear p2
       try clear c5
       try clear c6
       try clear c12
       try clear c13
       try clear c15
       try clear c19
       try clear c19b0
       try clear c21
       try clear c22
       try clear hcz17_0
       try clear hcz17_1
       try clear hcz9_0
       try clear hcz9_1
       try clear hfz17_0
       try clear hfz17_1
       try clear hfz9_0
       try clear hfz9_1
       try clear p2
       obtain ⟨kq, x38_19, rfl, HA, HJ19, BK101, HB⟩ := hcut
       cases kq with
       | zero => exact absurd HA.out (by simp [schismalaw04_ConvergentSemis.j2])
       | succ kj19 =>
        have H := HA.out
        clear HA
        simp only [schismalaw04_ConvergentSemis.j2] at H
        by_cases c23 : x38_19 = true
        ·subst c23
         have H1 : (some true) = some r := by rw [if_pos rfl] at H; exact H
         clear H
         have H := H1
         clear H1
         obtain rfl := Option.some.inj H
         go_wp2
         go_ret
         exact ⟨by first | rfl | (simp [*, errW_none, errW_some] <;> rfl), by repeat (first | (with_reducible first | exact HB.out | apply below_alloc | apply pw_below_drewN | apply below_drew1 | refine below_set ?_ GE101.out) | exact HB.out)⟩
        ·replace c23 := Bool.eq_false_iff.mpr c23
         subst c23
         have H1 : ((convergent_Semiconvergents.f kj19 a0_0 a0_1 a1).bind fun bt108 => (if t107 = true then (if x8_15 = true then ((schismaref04_Terms.f kj19 t105 t106).bind fun t112 => ((schismaref04_Semiconvergents.f kj19 t112 a1).bind fun t115 => ((schismalaw04_same.f kj19 bt108.1 t115).bind fun t118 => (if t118 = true then (some (bt108.2 == 0)) else (some false))))) else (if (bt108.1.length : Int) = 0 then (some (bt108.2 == 3)) else (some false))) else (if (bt108.1.length : Int) = 0 then (some (bt108.2 == 2)) else (some false)))) = some r := by rw [if_neg (show ¬ (false = true) by decide)] at H; exact H
         clear H
         have H := H1
         clear H1
         replace H := Option.bind_eq_some_iff.mp H
         obtain ⟨⟨t108, t111⟩, A240, H⟩ := H
         replace H : (if t107 = true then (if x8_15 = true then ((schismaref04_Terms.f kj19 t105 t106).bind fun t112 => ((schismaref04_Semiconvergents.f kj19 t112 a1).bind fun t115 => ((schismalaw04_same.f kj19 t108 t115).bind fun t118 => (if t118 = true then (some (t111 == 0)) else (some false))))) else (if (t108.length : Int) = 0 then (some (t111 == 3)) else (some false))) else (if (t108.length : Int) = 0 then (some (t111 == 2)) else (some false))) = some r := H
         have A24 := Aside0.mk A240
         clear A240
         by_cases c25 : t107 = true
         ·subst c25
          have H1 : (if x8_15 = true then ((schismaref04_Terms.f kj19 t105 t106).bind fun t112 => ((schismaref04_Semiconvergents.f kj19 t112 a1).bind fun t115 => ((schismalaw04_same.f kj19 t108 t115).bind fun t118 => (if t118 = true then (some (t111 == 0)) else (some false))))) else (if (t108.length : Int) = 0 then (some (t111 == 3)) else (some false))) = some r := by rw [if_pos rfl] at H; exact H
          clear H
          have H := H1
          clear H1
          by_cases c26 : x8_15 = true
          ·subst c26
           have H1 : ((schismaref04_Terms.f kj19 t105 t106).bind fun t112 => ((schismaref04_Semiconvergents.f kj19 t112 a1).bind fun t115 => ((schismalaw04_same.f kj19 t108 t115).bind fun t118 => (if t118 = true then (some (t111 == 0)) else (some false))))) = some r := by rw [if_pos rfl] at H; exact H
           clear H
           have H := H1
           clear H1
           replace H := Option.bind_eq_some_iff.mp H
           obtain ⟨t112, A270, H⟩ := H
           replace H : ((schismaref04_Semiconvergents.f kj19 t112 a1).bind fun t115 => ((schismalaw04_same.f kj19 t108 t115).bind fun t118 => (if t118 = true then (some (t111 == 0)) else (some false)))) = some r := H
           have A27 := Aside0.mk A270
           clear A270
           replace H := Option.bind_eq_some_iff.mp H
           obtain ⟨t115, A280, H⟩ := H
           replace H : ((schismalaw04_same.f kj19 t108 t115).bind fun t118 => (if t118 = true then (some (t111 == 0)) else (some false))) = some r := H
           have A28 := Aside0.mk A280
           clear A280
           replace H := Option.bind_eq_some_iff.mp H
           obtain ⟨t118, A290, H⟩ := H
           replace H : (if t118 = true then (some (t111 == 0)) else (some false)) = some r := H
           have A29 := Aside0.mk A290
           clear A290
           by_cases c30 : t118 = true
           ·subst c30
            have H1 : (some (t111 == 0)) = some r := by rw [if_pos rfl] at H; exact H
            clear H
            have H := H1
            clear H1
            obtain rfl := Option.some.inj H
            have hcz31_0 : wc.cell? ⟨gb101, 0, none⟩ = some (.string a0_0) := (blk_cell BK101.out 0).trans rfl
            have hcz31_1 : wc.cell? ⟨gb101, 1, none⟩ = some (.string a0_1) := (blk_cell BK101.out 1).trans rfl
            have hfz31_0 := blk_frozen BK101.out 0
            have hfz31_1 := blk_frozen BK101.out 1
            go_wp2_with (first | ((with_reducible refine gate_callee (f := 25) rfl ?_); refine goesL_ (some 42) rfl rfl Tryz.func25 (by kernel_rfl) rfl #[.agg #[.string a0_0, .string a0_1], .int .i64 a1] rfl (by (try simp only [List.map_toArray, List.map_cons, List.map_nil]); try rfl) ?_; (with_reducible refine (convergent_Semiconvergents.calls kj19 a0_0 a0_1 a1 t108 t111 _ ?side1 A24.out).mono ?_); (case side1 => exact GWorld.below HG.out (by repeat (first | (with_reducible first | exact HB.out | apply below_alloc | apply pw_below_drewN | apply below_drew1 | refine below_set ?_ GE101.out) | exact HB.out))); rintro e w32 ⟨v109, rfl, ho0, hb⟩; refine ⟨_, rfl, ?_⟩; have n0_ := Aside0.mk (Kd.R_lower (Kd.R_newB ho0 (g := gb101) (o := .cells #[.string a0_0, .string a0_1] 24 (0, 0)) (by (with_reducible repeat (first | refine blk_drewN ?_ _ | refine blk_drew ?_ | refine blk_alloc ?_ _)); exact BK101.out)) (below_size (by repeat (first | (with_reducible first | exact HB.out | apply below_alloc | apply pw_below_drewN | apply below_drew1 | refine below_set ?_ GE101.out) | exact HB.out)))); have n1_ := Aside0.mk (blk_below (g := gb101) (o := .cells #[.string a0_0, .string a0_1] 24 (0, 0)) (by (with_reducible repeat (first | refine blk_drewN ?_ _ | refine blk_drew ?_ | refine blk_alloc ?_ _)); exact BK101.out) hb); have n2_ := Aside0.mk (below_step (by repeat (first | (with_reducible first | exact HB.out | apply below_alloc | apply pw_below_drewN | apply below_drew1 | refine below_set ?_ GE101.out) | exact HB.out)) hb); clear BK101; clear HB; have HO110 := n0_; have BK101 := n1_; have HB := n2_; clear n0_ n1_ n2_; (try clear hb); (try clear hb2); (try clear hk); (try clear hi); (try clear ho0)) | ((with_reducible refine gate_callee (f := 21) rfl ?_); refine goesL_ (some 66) rfl rfl Tryz.func21 (by kernel_rfl) rfl #[.int .i64 t105, .int .i64 t106] rfl (by (try simp only [List.map_toArray, List.map_cons, List.map_nil]); try rfl) ?_; (with_reducible refine (schismaref04_Terms.calls kj19 t105 t106 t112 _ A27.out).mono ?_); rintro e w33 ⟨v113, rfl, ho0, hb⟩; refine ⟨_, rfl, ?_⟩; have n0_ := Aside0.mk (Kd.R_below (by (with_reducible repeat (first | apply Kd.R_alloc | apply Kd.R_drewN | apply Kd.R_drew)); exact HO110.out) hb); have n1_ := Aside0.mk (Kd.R_lower ho0 (below_size (by repeat (first | (with_reducible first | exact HB.out | apply below_alloc | apply pw_below_drewN | apply below_drew1 | refine below_set ?_ GE101.out) | exact HB.out)))); have n2_ := Aside0.mk (blk_below (g := gb101) (o := .cells #[.string a0_0, .string a0_1] 24 (0, 0)) (by (with_reducible repeat (first | refine blk_drewN ?_ _ | refine blk_drew ?_ | refine blk_alloc ?_ _)); exact BK101.out) hb); have n3_ := Aside0.mk (below_step (by repeat (first | (with_reducible first | exact HB.out | apply below_alloc | apply pw_below_drewN | apply below_drew1 | refine below_set ?_ GE101.out) | exact HB.out)) hb); clear HO110; clear BK101; clear HB; have HO110 := n0_; have HO114 := n1_; have BK101 := n2_; have HB := n3_; clear n0_ n1_ n2_ n3_; (try clear hb); (try clear hb2); (try clear hk); (try clear hi); (try clear ho0); obtain ⟨Ao34, co34, eo34⟩ := Kd.R_slice HO114.out; subst eo34) | ((with_reducible refine gate_callee (f := 26) rfl ?_); refine goesL_ (some 68) rfl rfl Tryz.func26 (by kernel_rfl) rfl #[.slice Ao34 t112.length co34, .int .i64 a1] rfl (by (try simp only [List.map_toArray, List.map_cons, List.map_nil]); try rfl) ?_; (with_reducible refine (schismaref04_Semiconvergents.calls kj19 _ _ t112 a1 t115 _ ?side1 ?side2 A28.out).mono ?_); (case side1 => repeat (first | exact (Kd.R_reads' HO114.out).2.2 | (with_reducible refine Kd.C_alloc ?_ _) | (with_reducible refine Kd.C_drewN ?_ _) | (with_reducible refine Kd.C_drew ?_))); (case side2 => exact (Kd.R_reads' HO114.out).2.1); rintro e w35 ⟨v116, rfl, ho0, hb⟩; refine ⟨_, rfl, ?_⟩; have n0_ := Aside0.mk (Kd.R_elder' (by (with_reducible repeat (first | apply Kd.R_alloc | apply Kd.R_drewN | apply Kd.R_drew)); exact HO110.out) (Kd.R_base ho0) hb); have n1_ := Aside0.mk (Kd.R_below (by (with_reducible repeat (first | apply Kd.R_alloc | apply Kd.R_drewN | apply Kd.R_drew)); exact HO114.out) hb); have n2_ := Aside0.mk (Kd.R_lower (Kd.R_newB (Kd.R_new' ho0 (Kd.R_lt (by (with_reducible repeat (first | apply Kd.R_alloc | apply Kd.R_drewN | apply Kd.R_drew)); exact HO110.out))) (g := gb101) (o := .cells #[.string a0_0, .string a0_1] 24 (0, 0)) (by (with_reducible repeat (first | refine blk_drewN ?_ _ | refine blk_drew ?_ | refine blk_alloc ?_ _)); exact BK101.out)) (below_size (by repeat (first | (with_reducible first | exact HB.out | apply below_alloc | apply pw_below_drewN | apply below_drew1 | refine below_set ?_ GE101.out) | exact HB.out)))); have n3_ := Aside0.mk (blk_below (g := gb101) (o := .cells #[.string a0_0, .string a0_1] 24 (0, 0)) (by (with_reducible repeat (first | refine blk_drewN ?_ _ | refine blk_drew ?_ | refine blk_alloc ?_ _)); exact BK101.out) hb); have n4_ := Aside0.mk (below_step (by repeat (first | (with_reducible first | exact HB.out | apply below_alloc | apply pw_below_drewN | apply below_drew1 | refine below_set ?_ GE101.out) | exact HB.out)) hb); clear HO110; clear HO114; clear BK101; clear HB; have HO110 := n0_; have HO114 := n1_; have HO117 := n2_; have BK101 := n3_; have HB := n4_; clear n0_ n1_ n2_ n3_ n4_; (try clear hb); (try clear hb2); (try clear hk); (try clear hi); (try clear ho0); obtain ⟨Ao36, co36, eo36⟩ := Kd.R_slice HO110.out; subst eo36; obtain ⟨Ao37, co37, eo37⟩ := Kd.R_slice HO117.out; subst eo37) | ((with_reducible refine gate_callee (f := 23) rfl ?_); refine goesL_ (some 69) rfl rfl Tryz.func23 (by kernel_rfl) rfl #[.slice Ao36 t108.length co36, .slice Ao37 t115.length co37] rfl (by (try simp only [List.map_toArray, List.map_cons, List.map_nil]); try rfl) ?_; (with_reducible refine (schismalaw04_same.calls kj19 _ _ t108 _ _ t115 true _ ?side1 ?side2 ?side3 ?side4 A29.out).mono ?_); (case side1 => repeat (first | exact (Kd.R_reads' HO110.out).2.2 | (with_reducible refine Kd.C_alloc ?_ _) | (with_reducible refine Kd.C_drewN ?_ _) | (with_reducible refine Kd.C_drew ?_))); (case side2 => exact (Kd.R_reads' HO110.out).2.1); (case side3 => repeat (first | exact (Kd.R_reads' HO117.out).2.2 | (with_reducible refine Kd.C_alloc ?_ _) | (with_reducible refine Kd.C_drewN ?_ _) | (with_reducible refine Kd.C_drew ?_))); (case side4 => exact (Kd.R_reads' HO117.out).2.1); rintro e w' ⟨rfl, ⟨nd, rfl⟩⟩; refine ⟨_, rfl, ?_⟩))
            go_ret
            exact ⟨by first | rfl | (simp [*, errW_none, errW_some] <;> rfl), by repeat (first | (with_reducible first | exact HB.out | apply below_alloc | apply pw_below_drewN | apply below_drew1 | refine below_set ?_ GE101.out) | exact HB.out)⟩
           ·replace c30 := Bool.eq_false_iff.mpr c30
            subst c30
            have H1 : (some false) = some r := by rw [if_neg (show ¬ (false = true) by decide)] at H; exact H
            clear H
            have H := H1
            clear H1
            obtain rfl := Option.some.inj H
            have hcz38_0 : wc.cell? ⟨gb101, 0, none⟩ = some (.string a0_0) := (blk_cell BK101.out 0).trans rfl
            have hcz38_1 : wc.cell? ⟨gb101, 1, none⟩ = some (.string a0_1) := (blk_cell BK101.out 1).trans rfl
            have hfz38_0 := blk_frozen BK101.out 0
            have hfz38_1 := blk_frozen BK101.out 1
            go_wp2_with (first | ((with_reducible refine gate_callee (f := 25) rfl ?_); refine goesL_ (some 42) rfl rfl Tryz.func25 (by kernel_rfl) rfl #[.agg #[.string a0_0, .string a0_1], .int .i64 a1] rfl (by (try simp only [List.map_toArray, List.map_cons, List.map_nil]); try rfl) ?_; (with_reducible refine (convergent_Semiconvergents.calls kj19 a0_0 a0_1 a1 t108 t111 _ ?side1 A24.out).mono ?_); (case side1 => exact GWorld.below HG.out (by repeat (first | (with_reducible first | exact HB.out | apply below_alloc | apply pw_below_drewN | apply below_drew1 | refine below_set ?_ GE101.out) | exact HB.out))); rintro e w39 ⟨v109, rfl, ho0, hb⟩; refine ⟨_, rfl, ?_⟩; have n0_ := Aside0.mk (Kd.R_lower (Kd.R_newB ho0 (g := gb101) (o := .cells #[.string a0_0, .string a0_1] 24 (0, 0)) (by (with_reducible repeat (first | refine blk_drewN ?_ _ | refine blk_drew ?_ | refine blk_alloc ?_ _)); exact BK101.out)) (below_size (by repeat (first | (with_reducible first | exact HB.out | apply below_alloc | apply pw_below_drewN | apply below_drew1 | refine below_set ?_ GE101.out) | exact HB.out)))); have n1_ := Aside0.mk (blk_below (g := gb101) (o := .cells #[.string a0_0, .string a0_1] 24 (0, 0)) (by (with_reducible repeat (first | refine blk_drewN ?_ _ | refine blk_drew ?_ | refine blk_alloc ?_ _)); exact BK101.out) hb); have n2_ := Aside0.mk (below_step (by repeat (first | (with_reducible first | exact HB.out | apply below_alloc | apply pw_below_drewN | apply below_drew1 | refine below_set ?_ GE101.out) | exact HB.out)) hb); clear BK101; clear HB; have HO110 := n0_; have BK101 := n1_; have HB := n2_; clear n0_ n1_ n2_; (try clear hb); (try clear hb2); (try clear hk); (try clear hi); (try clear ho0)) | ((with_reducible refine gate_callee (f := 21) rfl ?_); refine goesL_ (some 66) rfl rfl Tryz.func21 (by kernel_rfl) rfl #[.int .i64 t105, .int .i64 t106] rfl (by (try simp only [List.map_toArray, List.map_cons, List.map_nil]); try rfl) ?_; (with_reducible refine (schismaref04_Terms.calls kj19 t105 t106 t112 _ A27.out).mono ?_); rintro e w40 ⟨v113, rfl, ho0, hb⟩; refine ⟨_, rfl, ?_⟩; have n0_ := Aside0.mk (Kd.R_below (by (with_reducible repeat (first | apply Kd.R_alloc | apply Kd.R_drewN | apply Kd.R_drew)); exact HO110.out) hb); have n1_ := Aside0.mk (Kd.R_lower ho0 (below_size (by repeat (first | (with_reducible first | exact HB.out | apply below_alloc | apply pw_below_drewN | apply below_drew1 | refine below_set ?_ GE101.out) | exact HB.out)))); have n2_ := Aside0.mk (blk_below (g := gb101) (o := .cells #[.string a0_0, .string a0_1] 24 (0, 0)) (by (with_reducible repeat (first | refine blk_drewN ?_ _ | refine blk_drew ?_ | refine blk_alloc ?_ _)); exact BK101.out) hb); have n3_ := Aside0.mk (below_step (by repeat (first | (with_reducible first | exact HB.out | apply below_alloc | apply pw_below_drewN | apply below_drew1 | refine below_set ?_ GE101.out) | exact HB.out)) hb); clear HO110; clear BK101; clear HB; have HO110 := n0_; have HO114 := n1_; have BK101 := n2_; have HB := n3_; clear n0_ n1_ n2_ n3_; (try clear hb); (try clear hb2); (try clear hk); (try clear hi); (try clear ho0); obtain ⟨Ao41, co41, eo41⟩ := Kd.R_slice HO114.out; subst eo41) | ((with_reducible refine gate_callee (f := 26) rfl ?_); refine goesL_ (some 68) rfl rfl Tryz.func26 (by kernel_rfl) rfl #[.slice Ao41 t112.length co41, .int .i64 a1] rfl (by (try simp only [List.map_toArray, List.map_cons, List.map_nil]); try rfl) ?_; (with_reducible refine (schismaref04_Semiconvergents.calls kj19 _ _ t112 a1 t115 _ ?side1 ?side2 A28.out).mono ?_); (case side1 => repeat (first | exact (Kd.R_reads' HO114.out).2.2 | (with_reducible refine Kd.C_alloc ?_ _) | (with_reducible refine Kd.C_drewN ?_ _) | (with_reducible refine Kd.C_drew ?_))); (case side2 => exact (Kd.R_reads' HO114.out).2.1); rintro e w42 ⟨v116, rfl, ho0, hb⟩; refine ⟨_, rfl, ?_⟩; have n0_ := Aside0.mk (Kd.R_elder' (by (with_reducible repeat (first | apply Kd.R_alloc | apply Kd.R_drewN | apply Kd.R_drew)); exact HO110.out) (Kd.R_base ho0) hb); have n1_ := Aside0.mk (Kd.R_below (by (with_reducible repeat (first | apply Kd.R_alloc | apply Kd.R_drewN | apply Kd.R_drew)); exact HO114.out) hb); have n2_ := Aside0.mk (Kd.R_lower (Kd.R_newB (Kd.R_new' ho0 (Kd.R_lt (by (with_reducible repeat (first | apply Kd.R_alloc | apply Kd.R_drewN | apply Kd.R_drew)); exact HO110.out))) (g := gb101) (o := .cells #[.string a0_0, .string a0_1] 24 (0, 0)) (by (with_reducible repeat (first | refine blk_drewN ?_ _ | refine blk_drew ?_ | refine blk_alloc ?_ _)); exact BK101.out)) (below_size (by repeat (first | (with_reducible first | exact HB.out | apply below_alloc | apply pw_below_drewN | apply below_drew1 | refine below_set ?_ GE101.out) | exact HB.out)))); have n3_ := Aside0.mk (blk_below (g := gb101) (o := .cells #[.string a0_0, .string a0_1] 24 (0, 0)) (by (with_reducible repeat (first | refine blk_drewN ?_ _ | refine blk_drew ?_ | refine blk_alloc ?_ _)); exact BK101.out) hb); have n4_ := Aside0.mk (below_step (by repeat (first | (with_reducible first | exact HB.out | apply below_alloc | apply pw_below_drewN | apply below_drew1 | refine below_set ?_ GE101.out) | exact HB.out)) hb); clear HO110; clear HO114; clear BK101; clear HB; have HO110 := n0_; have HO114 := n1_; have HO117 := n2_; have BK101 := n3_; have HB := n4_; clear n0_ n1_ n2_ n3_ n4_; (try clear hb); (try clear hb2); (try clear hk); (try clear hi); (try clear ho0); obtain ⟨Ao43, co43, eo43⟩ := Kd.R_slice HO110.out; subst eo43; obtain ⟨Ao44, co44, eo44⟩ := Kd.R_slice HO117.out; subst eo44) | ((with_reducible refine gate_callee (f := 23) rfl ?_); refine goesL_ (some 69) rfl rfl Tryz.func23 (by kernel_rfl) rfl #[.slice Ao43 t108.length co43, .slice Ao44 t115.length co44] rfl (by (try simp only [List.map_toArray, List.map_cons, List.map_nil]); try rfl) ?_; (with_reducible refine (schismalaw04_same.calls kj19 _ _ t108 _ _ t115 false _ ?side1 ?side2 ?side3 ?side4 A29.out).mono ?_); (case side1 => repeat (first | exact (Kd.R_reads' HO110.out).2.2 | (with_reducible refine Kd.C_alloc ?_ _) | (with_reducible refine Kd.C_drewN ?_ _) | (with_reducible refine Kd.C_drew ?_))); (case side2 => exact (Kd.R_reads' HO110.out).2.1); (case side3 => repeat (first | exact (Kd.R_reads' HO117.out).2.2 | (with_reducible refine Kd.C_alloc ?_ _) | (with_reducible refine Kd.C_drewN ?_ _) | (with_reducible refine Kd.C_drew ?_))); (case side4 => exact (Kd.R_reads' HO117.out).2.1); rintro e w' ⟨rfl, ⟨nd, rfl⟩⟩; refine ⟨_, rfl, ?_⟩))
            go_ret
            exact ⟨by first | rfl | (simp [*, errW_none, errW_some] <;> rfl), by repeat (first | (with_reducible first | exact HB.out | apply below_alloc | apply pw_below_drewN | apply below_drew1 | refine below_set ?_ GE101.out) | exact HB.out)⟩
          ·replace c26 := Bool.eq_false_iff.mpr c26
           subst c26
           have H1 : (if (t108.length : Int) = 0 then (some (t111 == 3)) else (some false)) = some r := by rw [if_neg (show ¬ (false = true) by decide)] at H; exact H
           clear H
           have H := H1
           clear H1
           by_cases c45 : (t108.length : Int) = 0
           ·rw [if_pos c45] at H
            have c45b0 : ((t108.length : Int) == 0) = true := beq_iff_eq.mpr c45
            have c45b1 : ((t108.length : Int) != 0) = false := bne_eq_false_iff_eq.mpr c45
            clear c45
            obtain rfl := Option.some.inj H
            have hcz46_0 : wc.cell? ⟨gb101, 0, none⟩ = some (.string a0_0) := (blk_cell BK101.out 0).trans rfl
            have hcz46_1 : wc.cell? ⟨gb101, 1, none⟩ = some (.string a0_1) := (blk_cell BK101.out 1).trans rfl
            have hfz46_0 := blk_frozen BK101.out 0
            have hfz46_1 := blk_frozen BK101.out 1
            go_wp2_with (first | ((with_reducible refine gate_callee (f := 25) rfl ?_); refine goesL_ (some 42) rfl rfl Tryz.func25 (by kernel_rfl) rfl #[.agg #[.string a0_0, .string a0_1], .int .i64 a1] rfl (by (try simp only [List.map_toArray, List.map_cons, List.map_nil]); try rfl) ?_; (with_reducible refine (convergent_Semiconvergents.calls kj19 a0_0 a0_1 a1 t108 t111 _ ?side1 A24.out).mono ?_); (case side1 => exact GWorld.below HG.out (by repeat (first | (with_reducible first | exact HB.out | apply below_alloc | apply pw_below_drewN | apply below_drew1 | refine below_set ?_ GE101.out) | exact HB.out))); rintro e w47 ⟨v109, rfl, ho0, hb⟩; refine ⟨_, rfl, ?_⟩; have n0_ := Aside0.mk (Kd.R_lower (Kd.R_newB ho0 (g := gb101) (o := .cells #[.string a0_0, .string a0_1] 24 (0, 0)) (by (with_reducible repeat (first | refine blk_drewN ?_ _ | refine blk_drew ?_ | refine blk_alloc ?_ _)); exact BK101.out)) (below_size (by repeat (first | (with_reducible first | exact HB.out | apply below_alloc | apply pw_below_drewN | apply below_drew1 | refine below_set ?_ GE101.out) | exact HB.out)))); have n1_ := Aside0.mk (blk_below (g := gb101) (o := .cells #[.string a0_0, .string a0_1] 24 (0, 0)) (by (with_reducible repeat (first | refine blk_drewN ?_ _ | refine blk_drew ?_ | refine blk_alloc ?_ _)); exact BK101.out) hb); have n2_ := Aside0.mk (below_step (by repeat (first | (with_reducible first | exact HB.out | apply below_alloc | apply pw_below_drewN | apply below_drew1 | refine below_set ?_ GE101.out) | exact HB.out)) hb); clear BK101; clear HB; have HO110 := n0_; have BK101 := n1_; have HB := n2_; clear n0_ n1_ n2_; (try clear hb); (try clear hb2); (try clear hk); (try clear hi); (try clear ho0); obtain ⟨Ao48, co48, eo48⟩ := Kd.R_slice HO110.out; subst eo48))
            go_ret
            exact ⟨by first | rfl | (simp [*, errW_none, errW_some] <;> rfl), by repeat (first | (with_reducible first | exact HB.out | apply below_alloc | apply pw_below_drewN | apply below_drew1 | refine below_set ?_ GE101.out) | exact HB.out)⟩
           ·rw [if_neg c45] at H
            have c45b0 : ((t108.length : Int) == 0) = false := beq_eq_false_iff_ne.mpr c45
            have c45b1 : ((t108.length : Int) != 0) = true := bne_iff_ne.mpr c45
            have c45b2 : ¬ (t108 = []) := fun h_ => c45 (by rw [h_]; rfl)
            obtain rfl := Option.some.inj H
            have hcz49_0 : wc.cell? ⟨gb101, 0, none⟩ = some (.string a0_0) := (blk_cell BK101.out 0).trans rfl
            have hcz49_1 : wc.cell? ⟨gb101, 1, none⟩ = some (.string a0_1) := (blk_cell BK101.out 1).trans rfl
            have hfz49_0 := blk_frozen BK101.out 0
            have hfz49_1 := blk_frozen BK101.out 1
            go_wp2_with (first | ((with_reducible refine gate_callee (f := 25) rfl ?_); refine goesL_ (some 42) rfl rfl Tryz.func25 (by kernel_rfl) rfl #[.agg #[.string a0_0, .string a0_1], .int .i64 a1] rfl (by (try simp only [List.map_toArray, List.map_cons, List.map_nil]); try rfl) ?_; (with_reducible refine (convergent_Semiconvergents.calls kj19 a0_0 a0_1 a1 t108 t111 _ ?side1 A24.out).mono ?_); (case side1 => exact GWorld.below HG.out (by repeat (first | (with_reducible first | exact HB.out | apply below_alloc | apply pw_below_drewN | apply below_drew1 | refine below_set ?_ GE101.out) | exact HB.out))); rintro e w50 ⟨v109, rfl, ho0, hb⟩; refine ⟨_, rfl, ?_⟩; have n0_ := Aside0.mk (Kd.R_lower (Kd.R_newB ho0 (g := gb101) (o := .cells #[.string a0_0, .string a0_1] 24 (0, 0)) (by (with_reducible repeat (first | refine blk_drewN ?_ _ | refine blk_drew ?_ | refine blk_alloc ?_ _)); exact BK101.out)) (below_size (by repeat (first | (with_reducible first | exact HB.out | apply below_alloc | apply pw_below_drewN | apply below_drew1 | refine below_set ?_ GE101.out) | exact HB.out)))); have n1_ := Aside0.mk (blk_below (g := gb101) (o := .cells #[.string a0_0, .string a0_1] 24 (0, 0)) (by (with_reducible repeat (first | refine blk_drewN ?_ _ | refine blk_drew ?_ | refine blk_alloc ?_ _)); exact BK101.out) hb); have n2_ := Aside0.mk (below_step (by repeat (first | (with_reducible first | exact HB.out | apply below_alloc | apply pw_below_drewN | apply below_drew1 | refine below_set ?_ GE101.out) | exact HB.out)) hb); clear BK101; clear HB; have HO110 := n0_; have BK101 := n1_; have HB := n2_; clear n0_ n1_ n2_; (try clear hb); (try clear hb2); (try clear hk); (try clear hi); (try clear ho0); obtain ⟨Ao51, co51, eo51⟩ := Kd.R_slice HO110.out; subst eo51))
            go_ret
            exact ⟨by first | rfl | (simp [*, errW_none, errW_some] <;> rfl), by repeat (first | (with_reducible first | exact HB.out | apply below_alloc | apply pw_below_drewN | apply below_drew1 | refine below_set ?_ GE101.out) | exact HB.out)⟩
         ·replace c25 := Bool.eq_false_iff.mpr c25
          subst c25
          have H1 : (if (t108.length : Int) = 0 then (some (t111 == 2)) else (some false)) = some r := by rw [if_neg (show ¬ (false = true) by decide)] at H; exact H
          clear H
          have H := H1
          clear H1
          by_cases c52 : (t108.length : Int) = 0
          ·rw [if_pos c52] at H
           have c52b0 : ((t108.length : Int) == 0) = true := beq_iff_eq.mpr c52
           have c52b1 : ((t108.length : Int) != 0) = false := bne_eq_false_iff_eq.mpr c52
           clear c52
           obtain rfl := Option.some.inj H
           have hcz53_0 : wc.cell? ⟨gb101, 0, none⟩ = some (.string a0_0) := (blk_cell BK101.out 0).trans rfl
           have hcz53_1 : wc.cell? ⟨gb101, 1, none⟩ = some (.string a0_1) := (blk_cell BK101.out 1).trans rfl
           have hfz53_0 := blk_frozen BK101.out 0
           have hfz53_1 := blk_frozen BK101.out 1
           go_wp2_with (first | ((with_reducible refine gate_callee (f := 25) rfl ?_); refine goesL_ (some 42) rfl rfl Tryz.func25 (by kernel_rfl) rfl #[.agg #[.string a0_0, .string a0_1], .int .i64 a1] rfl (by (try simp only [List.map_toArray, List.map_cons, List.map_nil]); try rfl) ?_; (with_reducible refine (convergent_Semiconvergents.calls kj19 a0_0 a0_1 a1 t108 t111 _ ?side1 A24.out).mono ?_); (case side1 => exact GWorld.below HG.out (by repeat (first | (with_reducible first | exact HB.out | apply below_alloc | apply pw_below_drewN | apply below_drew1 | refine below_set ?_ GE101.out) | exact HB.out))); rintro e w54 ⟨v109, rfl, ho0, hb⟩; refine ⟨_, rfl, ?_⟩; have n0_ := Aside0.mk (Kd.R_lower (Kd.R_newB ho0 (g := gb101) (o := .cells #[.string a0_0, .string a0_1] 24 (0, 0)) (by (with_reducible repeat (first | refine blk_drewN ?_ _ | refine blk_drew ?_ | refine blk_alloc ?_ _)); exact BK101.out)) (below_size (by repeat (first | (with_reducible first | exact HB.out | apply below_alloc | apply pw_below_drewN | apply below_drew1 | refine below_set ?_ GE101.out) | exact HB.out)))); have n1_ := Aside0.mk (blk_below (g := gb101) (o := .cells #[.string a0_0, .string a0_1] 24 (0, 0)) (by (with_reducible repeat (first | refine blk_drewN ?_ _ | refine blk_drew ?_ | refine blk_alloc ?_ _)); exact BK101.out) hb); have n2_ := Aside0.mk (below_step (by repeat (first | (with_reducible first | exact HB.out | apply below_alloc | apply pw_below_drewN | apply below_drew1 | refine below_set ?_ GE101.out) | exact HB.out)) hb); clear BK101; clear HB; have HO110 := n0_; have BK101 := n1_; have HB := n2_; clear n0_ n1_ n2_; (try clear hb); (try clear hb2); (try clear hk); (try clear hi); (try clear ho0); obtain ⟨Ao55, co55, eo55⟩ := Kd.R_slice HO110.out; subst eo55))
           go_ret
           exact ⟨by first | rfl | (simp [*, errW_none, errW_some] <;> rfl), by repeat (first | (with_reducible first | exact HB.out | apply below_alloc | apply pw_below_drewN | apply below_drew1 | refine below_set ?_ GE101.out) | exact HB.out)⟩
          ·rw [if_neg c52] at H
           have c52b0 : ((t108.length : Int) == 0) = false := beq_eq_false_iff_ne.mpr c52
           have c52b1 : ((t108.length : Int) != 0) = true := bne_iff_ne.mpr c52
           have c52b2 : ¬ (t108 = []) := fun h_ => c52 (by rw [h_]; rfl)
           obtain rfl := Option.some.inj H
           have hcz56_0 : wc.cell? ⟨gb101, 0, none⟩ = some (.string a0_0) := (blk_cell BK101.out 0).trans rfl
           have hcz56_1 : wc.cell? ⟨gb101, 1, none⟩ = some (.string a0_1) := (blk_cell BK101.out 1).trans rfl
           have hfz56_0 := blk_frozen BK101.out 0
           have hfz56_1 := blk_frozen BK101.out 1
           go_wp2_with (first | ((with_reducible refine gate_callee (f := 25) rfl ?_); refine goesL_ (some 42) rfl rfl Tryz.func25 (by kernel_rfl) rfl #[.agg #[.string a0_0, .string a0_1], .int .i64 a1] rfl (by (try simp only [List.map_toArray, List.map_cons, List.map_nil]); try rfl) ?_; (with_reducible refine (convergent_Semiconvergents.calls kj19 a0_0 a0_1 a1 t108 t111 _ ?side1 A24.out).mono ?_); (case side1 => exact GWorld.below HG.out (by repeat (first | (with_reducible first | exact HB.out | apply below_alloc | apply pw_below_drewN | apply below_drew1 | refine below_set ?_ GE101.out) | exact HB.out))); rintro e w57 ⟨v109, rfl, ho0, hb⟩; refine ⟨_, rfl, ?_⟩; have n0_ := Aside0.mk (Kd.R_lower (Kd.R_newB ho0 (g := gb101) (o := .cells #[.string a0_0, .string a0_1] 24 (0, 0)) (by (with_reducible repeat (first | refine blk_drewN ?_ _ | refine blk_drew ?_ | refine blk_alloc ?_ _)); exact BK101.out)) (below_size (by repeat (first | (with_reducible first | exact HB.out | apply below_alloc | apply pw_below_drewN | apply below_drew1 | refine below_set ?_ GE101.out) | exact HB.out)))); have n1_ := Aside0.mk (blk_below (g := gb101) (o := .cells #[.string a0_0, .string a0_1] 24 (0, 0)) (by (with_reducible repeat (first | refine blk_drewN ?_ _ | refine blk_drew ?_ | refine blk_alloc ?_ _)); exact BK101.out) hb); have n2_ := Aside0.mk (below_step (by repeat (first | (with_reducible first | exact HB.out | apply below_alloc | apply pw_below_drewN | apply below_drew1 | refine below_set ?_ GE101.out) | exact HB.out)) hb); clear BK101; clear HB; have HO110 := n0_; have BK101 := n1_; have HB := n2_; clear n0_ n1_ n2_; (try clear hb); (try clear hb2); (try clear hk); (try clear hi); (try clear ho0); obtain ⟨Ao58, co58, eo58⟩ := Kd.R_slice HO110.out; subst eo58))
           go_ret
           exact ⟨by first | rfl | (simp [*, errW_none, errW_some] <;> rfl), by repeat (first | (with_reducible first | exact HB.out | apply below_alloc | apply pw_below_drewN | apply below_drew1 | refine below_set ?_ GE101.out) | exact HB.out)⟩
end Go.Proofs.YtidajgkepdkcbaaGreatDoor.PL
end
section
namespace Go.Proofs.YtidajgkepdkcbaaGreatDoor
open Go.RowKit Go.Lib Go.Proofs.YtidajgkepdkcbaaGreatDoorW.PrintWords Go.Proofs.YtidajgkepdkcbaaGreatDoorW.PrintLast Go.Proofs.YtidajgkepdkcbaaGreatDoorW.PrintMore PF PL
theorem Bounded_wrong {a b : ByteArray} {x : Int} (ha : a.size ≤ 17) (hb : b.size ≤ 17) (h : ∀ n d, a = T n → b = T d → ¬ Fr n d) : Ev (fun k => convergent_bounded.f k a b x) 2 := by
 unfold convergent_bounded.f
 exact Ev.bind (Wrong_yes ha hb h) (Ev.congr (fun k => if_pos rfl) (ev_const fun _ => rfl))
theorem Bounded_range {n d x : Int} (hn : S17 n) (hd : S17 d) (h : Fr n d) (hx : x < 1 ∨ 1000000 < x) : Ev (fun k => convergent_bounded.f k (T n) (T d) x) 3 := by
 unfold convergent_bounded.f
 refine Ev.bind (Wrong_no hn hd h) (Ev.congr (fun k => if_neg (by simp)) (ev_const fun _ => ?_))
 rcases hx with hx | hx
 ·rw [if_pos hx]
 ·rw [if_neg (by omega), if_pos (by omega)]
theorem Semi_err {a b : ByteArray} {x e : Int} (hno : ¬ ∃ p, SemiOk a b x p) (h : Ev (fun k => convergent_bounded.f k a b x) e) (he : e ≠ 0) : Ev (fun k => convergent_Semiconvergents.f k a b x) ([], e) := by
 refine Ev.congr (fun k => by unfold convergent_Semiconvergents.f; rw [dif_neg hno]) (Ev.bind h (Ev.congr (fun k => if_neg he) (ev_const fun _ => rfl)))
theorem se_true (a b : ByteArray) (x : Int) : Ev (fun k => schismalaw04_ConvergentSemis.j0 k x true a b) true := by
 refine Ev.step (fun k => by rw [schismalaw04_ConvergentSemis.j0, if_pos rfl]) ?_
 exact Ev.bind Known (ev_const fun _ => rfl)
theorem se_false (a b : ByteArray) (x : Int) (ha : a.size ≤ 13) (hb : b.size ≤ 13) : Ev (fun k => schismalaw04_ConvergentSemis.j0 k x false a b) true := by
 refine Ev.step (fun k => by rw [schismalaw04_ConvergentSemis.j0, if_neg (by simp)]) ?_
 rcases said a b with ⟨n, d, rfl, rfl, hF⟩ | h
 ·have hn := T13 ha
  have hd := T13 hb
  have h0 := hF.1
  refine Ev.bind (Parts_yes (by omega) (by omega) hF) ?_
  simp only
  have bad : (x < 1 ∨ 1000000 < x) → Ev (fun k => schismalaw04_ConvergentSemis.j1 k x n d true false (T n) (T d)) true := fun hx => by
   refine Ev.step (fun k => by rw [schismalaw04_ConvergentSemis.j1, if_pos rfl, if_neg (by simp)]) ?_
   refine Ev.step (fun k => by rw [schismalaw04_ConvergentSemis.j2, if_neg (by simp)]) ?_
   refine Ev.bind (Semi_err ?_ (Bounded_range (by unfold S17; omega) (by unfold S17; omega) hF hx) (by omega)) ?_
   ·rintro ⟨p, hp⟩
    have := hp.b1
    have := hp.b2
    omega
   ·exact ev_const fun k => by rw [if_pos rfl, if_neg (by simp), if_pos (by simp)]; rfl
  by_cases h1 : x ≥ 1
  ·refine Ev.congr (fun k => if_pos h1) ?_
   by_cases h2 : x ≤ 1000000
   ·rw [decide_eq_true h2]
    refine Ev.step (fun k => by rw [schismalaw04_ConvergentSemis.j1, if_pos rfl, if_pos rfl]) ?_
    by_cases h3 : x > 200
    ·rw [decide_eq_true h3]
     exact ev_here 1 fun k => by rw [schismalaw04_ConvergentSemis.j2, if_pos rfl]
    ·rw [decide_eq_false h3]
     refine Ev.step (fun k => by rw [schismalaw04_ConvergentSemis.j2, if_neg (by simp)]) ?_
     obtain ⟨ts, hts, hl⟩ := cf_small (n := n) h0 hd.2
     refine Ev.bind (ev_const fun k => Semi_yes (ts := ts) ⟨rfl, rfl, by show _ < n; omega, by show n < _; omega, hF, by show d < _; omega, h1, by omega, hts, hl⟩ k) ?_
     refine Ev.congr (fun k => by rw [if_pos rfl, if_pos rfl]) ?_
     refine Ev.bind (RTerms (n := n) (d := d) hts (by omega) h0 (by omega) (by omega)) ?_
     refine Ev.bind (RSemi hts (by omega) hn.2 h0 hd.2 hl h1 (by omega)) ?_
     have hlen := semis_len (f := one) (bound := x) h0 h1 hts
     refine Ev.bind (Same_self (by unfold semiRow; rw [List.length_map]; omega)) (Ev.congr (fun k => if_pos rfl) (ev_const fun _ => rfl))
   ·rw [decide_eq_false h2]
    exact bad (.inr (by omega))
  ·exact Ev.congr (fun k => if_neg h1) (bad (.inl (by omega)))
 ·refine Ev.bind (Parts_no (by omega) (by omega) h) ?_
  simp only
  have bad : ∀ f, Ev (fun k => schismalaw04_ConvergentSemis.j1 k x 0 0 false f a b) true := fun f => by
   refine Ev.step (fun k => by rw [schismalaw04_ConvergentSemis.j1, if_neg (by simp)]) ?_
   refine Ev.step (fun k => by rw [schismalaw04_ConvergentSemis.j2, if_neg (by simp)]) ?_
   refine Ev.bind (Semi_err ?_ (Bounded_wrong (by omega) (by omega) h) (by omega)) ?_
   ·rintro ⟨p, hp⟩
    exact h _ _ hp.e1 hp.e2 hp.fr
   ·exact ev_const fun k => by rw [if_neg (by simp), if_pos (by simp)]; rfl
  by_cases h1 : x ≥ 1
  ·exact Ev.congr (fun k => if_pos h1) (bad _)
  ·exact Ev.congr (fun k => if_neg h1) (bad _)
theorem ConvergentSemis_true (a b : ByteArray) (x : Int) (_ : (Lit.int .i64 x).wf = true) : ∃ k, schismalaw04_ConvergentSemis.f k a b x = some true := by
 refine Ev.rounds (g := fun k => schismalaw04_ConvergentSemis.f k a b x) ?_
 unfold schismalaw04_ConvergentSemis.f
 refine Ev.bind Known (Ev.congr (fun k => if_pos rfl) ?_)
 have hs : schismalaw04_short.f a b = some (decide (a.size ≤ 13 ∧ b.size ≤ 13)) := by
  unfold schismalaw04_short.f
  by_cases h : a.size ≤ 13
  ·rw [if_pos (by omega)]
   congr 1
   by_cases h2 : b.size ≤ 13
   ·rw [decide_eq_true (by omega), decide_eq_true ⟨h, h2⟩]
   ·rw [decide_eq_false (by omega), decide_eq_false (fun hh => h2 hh.2)]
  ·rw [if_neg (by omega), decide_eq_false (fun hh => h hh.1)]
 refine Ev.bind (ev_const fun _ => hs) ?_
 by_cases h : a.size ≤ 13 ∧ b.size ≤ 13
 ·rw [decide_eq_true h]; exact se_false a b x h.1 h.2
 ·rw [decide_eq_false h]; exact se_true a b x
end Go.Proofs.YtidajgkepdkcbaaGreatDoor
end
