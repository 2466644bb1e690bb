/- A part of the proof in QBw5. -/
import Derived.Test.YtidajgkepdkcbaaGreatDoorQBw2
import Derived.RangeFuncLeaves
import Derived.OwnWalkIn
set_option linter.unusedVariables false
set_option linter.unusedSimpArgs false
section
namespace Go.Proofs.YtidajgkepdkcbaaGreatDoor
open Go.RowKit Go.Lib Go.Proofs.YtidajgkepdkcbaaGreatDoorW.PrintWords Go.Proofs.YtidajgkepdkcbaaGreatDoorW.PrintLast Go.Proofs.YtidajgkepdkcbaaGreatDoorW.PrintMore PF
theorem wide_fn2 (f : Nat) : Fence.wide.fn f = True := rfl
theorem wide_depth2 : Fence.wide.depth = none := rfl
attribute [local go_sem] Oper.semAt_some wide_fn2 wide_depth2
theorem row_of_R {w : World} {base : Nat} {ok : Nat → Prop} {v : Value} {xs : List ByteArray} (h : Kd.R Kd.string 22 w base ok v xs) (hne : xs ≠ []) :
  ∃ g cap cur, v = .slice (some ⟨g, 0, none⟩) xs.length cap ∧ base ≤ g ∧ w.heap[g]? = some (.cells cur 22 (0, 0)) ∧ ∀ (k : Nat) (x : ByteArray), xs[k]? = some x → cur[k]? = some (.string x) := by
 obtain ⟨h0, inner, ho, hr⟩ := h
 have hpos : 0 < xs.length := List.length_pos_iff.2 hne
 obtain ⟨hl, hr⟩ := hr
 rcases ho.2 with ⟨_, h1⟩ | ⟨g, cap, cur, rfl, hg, hh, _, _, _, ht⟩
 ·omega
 ·refine ⟨g, cap, cur, rfl, hg, hh, fun k x hx => ?_⟩
  have h1 := hr k x hx
  have hk : k < xs.length := (List.getElem?_eq_some_iff.1 hx).1
  have h2 : (inner.drop (k * 1)).take 1 = [.string x] := h1
  have hk2 : k < inner.length := by rw [hl]; show k < xs.length * 1; omega
  have h3 : inner[k]? = some (.string x) := by
   rw [Nat.mul_one, List.drop_eq_getElem_cons hk2] at h2
   simp only [List.take_succ_cons, List.take_zero] at h2
   rw [List.getElem?_eq_getElem hk2]
   exact congrArg some (List.cons.inj h2).1
  have h4 : cur.toList[k]? = some (.string x) := by
   rw [← ht, List.getElem?_take] at h3
   split at h3
   ·exact h3
   ·cases h3
  simpa using h4
theorem cSemi (v fv : Value) (bound : Int) (w : World) (hv : ∃ a n c, v = .slice a n c) (hf : ∃ f a b, fv = .func f a b) :
  Calls Tryz.prog 52 #[v, .int .i64 bound, fv] w fun e w' => e = .returned (.func (.func 84) #[] #[.pointer (some ⟨w.heap.size, 0, none⟩), .pointer (some ⟨w.heap.size + 1, 0, none⟩), .pointer (some ⟨w.heap.size + 2, 0, none⟩)]) ∧
   w' = ((w.alloc (.cells #[v] 34)).alloc (.cells #[.int .i64 bound] 3)).alloc (.cells #[fv] 79) := by
 obtain ⟨a, n, c, rfl⟩ := hv
 obtain ⟨f, x, y, rfl⟩ := hf
 go_enter Tryz.func52, Tryz.ntmps52
 go_wp2
 go_ret
 exact ⟨rfl, rfl⟩
theorem Bounded_T {n d bound : Int} (hn : S17 n) (hd : S17 d) (h : Fr n d) (h1 : 1 ≤ bound) (h2 : bound ≤ 1000000) : Ev (fun k => convergent_bounded.f k (T n) (T d) bound) 0 := by
 unfold convergent_bounded.f
 refine Ev.bind (Wrong_no hn hd h) (Ev.congr (fun k => if_neg (by simp)) (ev_const fun _ => ?_))
 rw [if_neg (by omega), if_neg (by omega)]
theorem cBounded {n d bound : Int} (hn : S17 n) (hd : S17 d) (h : Fr n d) (h1 : 1 ≤ bound) (h2 : bound ≤ 1000000) (w : World) (hG : GWorld w) :
  Calls Tryz.prog 51 #[.agg #[.string (T n), .string (T d)], .int .i64 bound] w fun e w' => e = .returned (.int .i64 0) ∧ Below w.heap.size w w' := by
 obtain ⟨k, hk⟩ := (Bounded_T hn hd h h1 h2).rounds
 exact convergent_bounded.calls k _ _ _ _ w hG hk
theorem cTerms {n d : Int} {ts : List Int} (hn : S17 n) (hd : S17 d) (h0 : 0 < d) (h : isCf ts n d) (hl : ts.length ≤ 1000) (w : World) (hG : GWorld w) :
  Calls Tryz.prog 46 #[.agg #[.string (T n), .string (T d)]] w fun e w' => ∃ g cap cur, e = .returned (.slice (some ⟨g, 0, none⟩) ts.length cap) ∧ w.heap.size ≤ g ∧ w'.heap[g]? = some (.cells cur 22 (0, 0)) ∧ (∀ (k : Nat) (a : Int), ts[k]? = some a → cur[k]? = some (.string (T a))) ∧ Below w.heap.size w w' := by
 obtain ⟨k, hk⟩ := (Terms_T h hn hd h0 hl).rounds
 refine (convergent_terms.calls k _ _ _ w hG hk).mono ?_
 rintro e w' ⟨v, rfl, hR, hB⟩
 obtain ⟨g, cap, cur, rfl, hg, hh, hc⟩ := row_of_R hR (by simpa using h.ne_nil)
 refine ⟨g, cap, cur, by simp, hg, hh, fun k a ha => hc k (T a) (by simp [ha]), hB⟩
theorem three_alloc {w W1 : World} {o1 o2 o3 : Obj} (H : Below (((w.alloc o1).alloc o2).alloc o3).heap.size (((w.alloc o1).alloc o2).alloc o3) W1) :
  W1.heap[w.heap.size]? = some o1 ∧ W1.heap[w.heap.size + 1]? = some o2 ∧ W1.heap[w.heap.size + 1 + 1]? = some o3 ∧ Below w.heap.size w W1 ∧ w.heap.size + 3 ≤ W1.heap.size := by
 have s1 : (((w.alloc o1).alloc o2).alloc o3).heap.size = w.heap.size + 3 := by simp
 have hs := H.size
 refine ⟨?_, ?_, ?_, ?_, by omega⟩
 ·rw [H.block _ (by omega), Below.heap_alloc _ _ _ (by simp; omega), Below.heap_alloc _ _ _ (by simp), World.alloc_heap_new]
 ·rw [H.block _ (by omega), Below.heap_alloc _ _ _ (by simp)]
  have := World.alloc_heap_new (w.alloc o1) o2
  rwa [World.size_alloc] at this
 ·rw [H.block _ (by omega)]
  have := World.alloc_heap_new ((w.alloc o1).alloc o2) o3
  simpa using this
 ·exact (((Below.refl w.heap.size w).alloc (Nat.le_refl _) _).alloc (by simp) _ |>.alloc (by simp; omega) _).trans (H.mono (by omega))
theorem heap_alloc_some {W : World} {k : Nat} {o : Obj} (h : W.heap[k]? = some o) (o' : Obj) : (W.alloc o').heap[k]? = some o := by
 rw [Below.heap_alloc _ _ _ (Array.getElem?_eq_some_iff.1 h).1]; exact h
theorem two_cells {W : World} {b : Nat} {x y : Value} {t : Nat} (h : W.heap[b]? = some (.cells #[x, y] t (0, 0))) : W.cell? ⟨b, 0, none⟩ = some x ∧ W.cell? ⟨b, 1, none⟩ = some y := by
 constructor <;> (rw [cell_of_row W b _ _ _ _ h]; rfl)
theorem frozen0 {W : World} {b j : Nat} {c : Array Value} {t : Nat} (h : W.heap[b]? = some (.cells c t (0, 0))) : W.frozen? ⟨b, j, none⟩ = false := by simp [World.frozen?, h]
def fcells (l : List (Int × Int)) : List Value := l.flatMap fun y => [.string (T y.1), .string (T y.2)]
structure BestI (n d : Int) (w : World) (bo : Nat) (ys : List (Int × Int)) (i : Nat) (W : World) : Prop where
 x : W.heap[w.heap.size]? = some (.cells #[.string (T n), .string (T d)] 24 (0, 0))
 r1 : W.heap[w.heap.size + 1]? = some (.cells #[.slice none 0 0] 37 (0, 0))
 r2 : W.heap[w.heap.size + 1 + 1]? = some (.cells #[.int .i64 0] 26 (0, 0))
 out : ∃ v, W.heap[bo]? = some (.cells #[v] 37 (0, 0)) ∧ W.ownsRow (bo + 1) 24 2 v ((ys.take i).foldl (bstep n d) []).length (fcells ((ys.take i).foldl (bstep n d) []))
 sz : bo < W.heap.size
 B : Below w.heap.size w W
theorem ownsRow_kept {A B : World} {base : Nat} {e : TypeId} {size k : Nat} {v : Value} {xs : List Value} (h : A.ownsRow base e size v k xs) (hk : ∀ (g : Nat) (cur : Array Value), A.heap[g]? = some (.cells cur e (0, 0)) → B.heap[g]? = some (.cells cur e (0, 0))) : B.ownsRow base e size v k xs := by
 refine ⟨h.1, ?_⟩
 rcases h.2 with h2 | ⟨g, cap, cur, rfl, hg, hh, r⟩
 ·exact .inl h2
 ·exact .inr ⟨g, cap, cur, rfl, hg, hk g cur hh, r⟩
theorem fcells_len (l : List (Int × Int)) : (fcells l).length = l.length * 2 := by
 induction l with
 | nil => rfl
 | cons y l ih => simp only [fcells, List.flatMap_cons, List.length_append, List.length_cons, List.length_nil] at *; omega
theorem fcells_append (l m : List (Int × Int)) : fcells (l ++ m) = fcells l ++ fcells m := by simp [fcells]
theorem fcells_last0 (pre : List (Int × Int)) (z : Int × Int) : (fcells (pre ++ [z]))[pre.length * 2]? = some (.string (T z.1)) := by
 rw [fcells_append, List.getElem?_append_right (by rw [fcells_len]; omega), fcells_len]
 simp [fcells]
theorem fcells_last1 (pre : List (Int × Int)) (z : Int × Int) : (fcells (pre ++ [z]))[pre.length * 2 + 1]? = some (.string (T z.2)) := by
 rw [fcells_append, List.getElem?_append_right (by rw [fcells_len]; omega), fcells_len]
 simp [fcells]
theorem two_new (w : World) (x y : Value) (t : TypeId) : ∀ (j : Nat) (u : Value), [x, y][j]? = some u → (w.alloc (.cells #[x, y] t)).cell? ((⟨w.heap.size, 0, none⟩ : Addr).add j) = some u := by
 intro j u hj
 obtain ⟨c0, c1⟩ := two_cells (World.alloc_heap_new w (.cells #[x, y] t))
 match j, hj with
 | 0, hj => simp at hj; subst hj; exact c0
 | 1, hj => simp at hj; subst hj; exact c1
theorem add0 (b j : Nat) : (⟨b, 0, none⟩ : Addr).add j = ⟨b, j, none⟩ := by unfold Addr.add; split <;> simp_all
theorem BestI.soft {n d : Int} {w : World} {bo : Nat} {ys : List (Int × Int)} {i : Nat} {A B : World} (h : BestI n d w bo ys i A) {b : Nat} (hk : Kept softI b A B) (hb : w.heap.size ≤ b) : BestI n d w bo ys i B := by
 obtain ⟨v, h1, h2⟩ := h.out
 exact ⟨hk.block _ _ h.x (.inr rfl), hk.block _ _ h.r1 (.inr rfl), hk.block _ _ h.r2 (.inr rfl), ⟨v, hk.block _ _ h1 (.inr rfl), ownsRow_kept h2 (fun g cur hg => hk.block _ _ hg (.inr rfl))⟩, Nat.lt_of_lt_of_le h.sz hk.size, hk.below h.B hb (Nat.le_refl _)⟩
theorem BestI.put {n d : Int} {w : World} {bo : Nat} {ys : List (Int × Int)} {i : Nat} {A : World} (h : BestI n d w bo ys i A) {l : Nat} {o o' : Obj} (hw : w.heap.size ≤ l) (hl : A.heap[l]? = some o) (ho : o.isCells = false) : BestI n d w bo ys i (A.putObj l o') := by
 have keep : ∀ {k : Nat} {c : Array Value} {t : Nat}, A.heap[k]? = some (.cells c t (0, 0)) → (A.putObj l o').heap[k]? = some (.cells c t (0, 0)) := by
  intro k c t hk
  rw [World.putObj_heap_other]
  ·exact hk
  ·rintro rfl
   rw [hl] at hk
   obtain rfl := Option.some.inj hk
   cases ho
 obtain ⟨v, h1, h2⟩ := h.out
 refine ⟨keep h.x, keep h.r1, keep h.r2, ⟨v, keep h1, ownsRow_kept h2 (fun g cur hg => keep hg)⟩, by simpa using h.sz, ⟨h.B.os, h.B.tape, h.B.output, by simpa using h.B.size, fun k hk => ?_⟩⟩
 rw [World.putObj_heap_other (by omega)]
 exact h.B.block k hk
theorem in_round {P : Program} {n f : Nat} {args : Array Value} {w : World} {R : Ending → World → Prop} (l : Nat) (h : Calls P f args w R) : CallsIn (Fence.wide.inRound l) n P f args w R :=
 (callsIn_wide.2 h : CallsIn Fence.wide n P f args w R)
theorem own_succ {W : World} {base : Nat} {e : TypeId} {size : Nat} {v : Value} {k : Nat} {xs : List Value} (h : W.ownsRow base e size v (k + 1) xs) : ∃ g cap, v = .slice (some ⟨g, 0, none⟩) (k + 1) cap := by
 rcases h.2 with ⟨_, h0⟩ | ⟨g, cap, _, rfl, _⟩
 ·omega
 ·exact ⟨g, cap, rfl⟩
theorem row_block {W : World} {base e size k : Nat} {v : Value} {xs : List Value} (h : W.ownsRow base e size v k xs) {j : Nat} (hj : v.ownBlock = some j) : base ≤ j ∧ ∃ cur, W.heap[j]? = some (.cells cur e (0, 0)) := by
 rcases h.2 with ⟨rfl, _⟩ | ⟨g, cap, cur, rfl, hg, hh, _⟩
 ·simp [Value.ownBlock] at hj
 ·obtain rfl : g = j := by simpa [Value.ownBlock] using hj
  exact ⟨hg, cur, hh⟩
theorem heap_old {W w1 : World} {o : Obj} {row : Option Nat} (hg : (W.alloc o).grownBy w1 row) {k : Nat} {o' : Obj} (hk : W.heap[k]? = some o') (hne : some k ≠ row) : w1.heap[k]? = some o' := by
 have h1 := heap_alloc_some hk o
 exact (hg.block k (Array.getElem?_eq_some_iff.1 h1).1 hne).trans h1
theorem BestI.stay {n d : Int} {w : World} {bo : Nat} {ys : List (Int × Int)} {i : Nat} {W w1 : World} (h : BestI n d w bo ys i W) {v : Value} {k : Nat} {xs : List Value}
  (hv : W.heap[bo]? = some (.cells #[v] 37 (0, 0))) (hrow : W.ownsRow (bo + 1) 24 2 v k xs) (hB : Below W.heap.size W w1)
  (hk : k = ((ys.take (i + 1)).foldl (bstep n d) []).length) (hx : xs = fcells ((ys.take (i + 1)).foldl (bstep n d) [])) :
  Kept softB 0 W w1 ∧ BestI n d w bo ys (i + 1) w1 := by
 have keep : ∀ {k : Nat} {o : Obj}, W.heap[k]? = some o → w1.heap[k]? = some o := fun {k o} h => (hB.block k (Array.getElem?_eq_some_iff.1 h).1).trans h
 refine ⟨.of_below hB, keep h.x, keep h.r1, keep h.r2, ⟨v, keep hv, ?_⟩, Nat.lt_of_lt_of_le h.sz hB.size, h.B.trans (hB.mono h.B.size)⟩
 rw [← hk, ← hx]
 exact ownsRow_kept hrow (fun g cur hg => keep hg)
theorem own_put {w : World} {base e size n cap g : Nat} {xs : List Value} (h : w.ownsRow base e size (.slice (some ⟨g, 0, none⟩) n cap) n xs) (j : Nat) (u : Value) :
  (w.setCell ⟨g, j, none⟩ u).ownsRow base e size (.slice (some ⟨g, 0, none⟩) n cap) n (xs.set j u) := by
 obtain ⟨h1, h2⟩ := h
 refine ⟨by simp [h1], ?_⟩
 rcases h2 with ⟨h2, _⟩ | ⟨g', cap', cur, hv, hg, hh, h3, h4, h5, h6⟩
 ·cases h2
 ·injection hv with e1 e2 e3
  injection e1 with e1
  injection e1 with e1
  subst e1 e3
  refine .inr ⟨g, cap, cur.setIfInBounds j u, rfl, hg, ?_, h3, h4, by simp [h5], ?_⟩
  ·simp [World.setCell, Array.getElem_modify, (Array.getElem?_eq_some_iff.1 hh).1, (Array.getElem?_eq_some_iff.1 hh).2]
  ·rw [← h6, Array.toList_setIfInBounds, List.take_set]
theorem fcells_set (pre : List (Int × Int)) (z : Int × Int) (a b : Value) : ((fcells (pre ++ [z])).set (pre.length * 2) a).set (pre.length * 2 + 1) b = fcells pre ++ [a, b] := by
 rw [fcells_append, List.set_append_right _ _ (by rw [fcells_len]; omega), List.set_append_right _ _ (by rw [fcells_len]; omega), fcells_len]
 simp [fcells]
theorem BestI.swap {n d : Int} {w : World} {bo : Nat} {ys : List (Int × Int)} {i : Nat} {W w1 : World} (h : BestI n d w bo ys i W) {g k cap : Nat} {xs : List Value}
  (hv : W.heap[bo]? = some (.cells #[.slice (some ⟨g, 0, none⟩) k cap] 37 (0, 0))) (hrow : W.ownsRow (bo + 1) 24 2 (.slice (some ⟨g, 0, none⟩) k cap) k xs) (hB : Below W.heap.size W w1)
  (hbo : w.heap.size + 2 < bo) (j1 j2 : Nat) (u1 u2 : Value) (hk : k = ((ys.take (i + 1)).foldl (bstep n d) []).length) (hx : (xs.set j1 u1).set j2 u2 = fcells ((ys.take (i + 1)).foldl (bstep n d) [])) :
  Kept softB 0 W ((w1.setCell ⟨g, j1, none⟩ u1).setCell ⟨g, j2, none⟩ u2) ∧ BestI n d w bo ys (i + 1) ((w1.setCell ⟨g, j1, none⟩ u1).setCell ⟨g, j2, none⟩ u2) := by
 obtain ⟨hg, cur, hc⟩ := row_block hrow (j := g) (by simp [Value.ownBlock])
 have old : ∀ {j : Nat} {o' : Obj}, W.heap[j]? = some o' → j ≠ g → ((w1.setCell ⟨g, j1, none⟩ u1).setCell ⟨g, j2, none⟩ u2).heap[j]? = some o' := fun {j o'} h1 h2 => by
  rw [Below.heap_setCell _ _ _ _ h2, Below.heap_setCell _ _ _ _ h2]
  exact (hB.block j (Array.getElem?_eq_some_iff.1 h1).1).trans h1
 have hrow1 : w1.ownsRow (bo + 1) 24 2 (.slice (some ⟨g, 0, none⟩) k cap) k xs := ownsRow_kept hrow (fun g cur hg => (hB.block _ (Array.getElem?_eq_some_iff.1 hg).1).trans hg)
 refine ⟨⟨hB.os, hB.tape, hB.output, by simpa using hB.size, fun j o' ho hs => ?_⟩, ?_⟩
 ·rcases hs with hs | hs
  ·omega
  ·refine old ho (fun he => ?_)
   subst he
   rw [hc] at ho
   obtain rfl := Option.some.inj ho
   simp [softB, ofT] at hs
 ·refine ⟨old h.x (by omega), old h.r1 (by omega), old h.r2 (by omega), ⟨_, old hv (by omega), ?_⟩, by have := h.sz; have := hB.size; simp only [World.size_setCell]; omega, ?_⟩
  ·rw [← hk, ← hx]
   exact own_put (own_put hrow1 j1 u1) j2 u2
  ·exact ((h.B.trans (hB.mono h.B.size)).setCell (p := ⟨g, j1, none⟩) (by simp only; omega) _).setCell (p := ⟨g, j2, none⟩) (by simp only; omega) _
theorem BestI.app {n d : Int} {w : World} {bo : Nat} {ys : List (Int × Int)} {i : Nat} {W w1 : World} (h : BestI n d w bo ys i W) {v v' : Value} {o : Obj} {k k' : Nat} {xs xs' : List Value}
  (hv : W.heap[bo]? = some (.cells #[v] 37 (0, 0))) (hrow : W.ownsRow (bo + 1) 24 2 v k xs) (hown : w1.ownsRow (bo + 1) 24 2 v' k' xs') (hgrow : (W.alloc o).grownBy w1 v.ownBlock)
  (hbo : w.heap.size + 2 < bo) (hk : k' = ((ys.take (i + 1)).foldl (bstep n d) []).length) (hx : xs' = fcells ((ys.take (i + 1)).foldl (bstep n d) [])) :
  Kept softB 0 W (w1.setCell ⟨bo, 0, none⟩ v') ∧ BestI n d w bo ys (i + 1) (w1.setCell ⟨bo, 0, none⟩ v') := by
 have hne : ∀ {j : Nat}, j ≤ bo → some j ≠ v.ownBlock := fun {j} hj he => by have := (row_block hrow he.symm).1; omega
 have hbo1 : w1.heap[bo]? = some (.cells #[v] 37 (0, 0)) := heap_old hgrow hv (hne (Nat.le_refl _))
 have old : ∀ {j : Nat} {o' : Obj}, W.heap[j]? = some o' → some j ≠ v.ownBlock → j ≠ bo → (w1.setCell ⟨bo, 0, none⟩ v').heap[j]? = some o' := fun {j o'} h1 h2 h3 => by
  rw [Below.heap_setCell _ _ _ _ h3]; exact heap_old hgrow h1 h2
 have hnew : (w1.setCell ⟨bo, 0, none⟩ v').heap[bo]? = some (.cells #[v'] 37 (0, 0)) := by
  simp [World.setCell, Array.getElem_modify, (Array.getElem?_eq_some_iff.1 hbo1).1, (Array.getElem?_eq_some_iff.1 hbo1).2]
 refine ⟨⟨hgrow.os, hgrow.tape, hgrow.output, by have := hgrow.size; simp at this ⊢; omega, fun j o' ho hs => ?_⟩, ?_⟩
 ·rcases hs with hs | hs
  ·omega
  ·refine old ho (fun he => ?_) (fun he => ?_)
   ·obtain ⟨_, cur, hc⟩ := row_block hrow he.symm
    rw [hc] at ho
    obtain rfl := Option.some.inj ho
    simp [softB, ofT] at hs
   ·subst he
    rw [hv] at ho
    obtain rfl := Option.some.inj ho
    simp [softB, ofT] at hs
 ·refine ⟨old h.x (hne (by omega)) (by omega), old h.r1 (hne (by omega)) (by omega), old h.r2 (hne (by omega)) (by omega), ⟨v', hnew, ?_⟩, by have h1 := hgrow.size; have := h.sz; rw [World.size_alloc] at h1; simp only [World.size_setCell]; omega, ?_⟩
  ·rw [← hk, ← hx]
   refine ownsRow_kept hown (fun g cur hg => ?_)
   rw [Below.heap_setCell _ _ _ _ (fun e => by simp only at e; subst e; rw [hbo1] at hg; cases hg)]
   exact hg
  ·refine ⟨hgrow.os.trans h.B.os, hgrow.tape.trans h.B.tape, hgrow.output.trans h.B.output, by have h1 := hgrow.size; have := h.B.size; rw [World.size_alloc] at h1; simp only [World.size_setCell]; omega, fun j hj => ?_⟩
   rw [← h.B.block j hj]
   obtain ⟨o', ho'⟩ : ∃ o', W.heap[j]? = some o' := ⟨_, Array.getElem?_eq_getElem (by have := h.B.size; omega)⟩
   rw [ho']
   exact old ho' (hne (by omega)) (by omega)
set_option maxRecDepth 100000 in
set_option maxHeartbeats 4000000 in
theorem best_walk {n d bound : Int} {ts : List Int} (hn1 : -1000000 < n) (hn2 : n < 10000000) (hF : Fr n d) (hd2 : d < 10000000) (hb : 1 ≤ bound) (hb2 : bound ≤ 60) (hts : isCf ts n d) (hl : ts.length ≤ 1000) (w : World) (hG : GWorld w) :
  CallsIn Fence.wide 0 Tryz.prog 28 #[.agg #[.string (T n), .string (T d)], .int .i64 bound] w fun e w' => ∃ v, e = .returned (.tuple #[v, .int .i64 0]) ∧ w'.ownsRow w.heap.size 24 2 v ((semis half bound true CS.begin ts).foldl (bstep n d) []).length (fcells ((semis half bound true CS.begin ts).foldl (bstep n d) [])) ∧ Below w.heap.size w w' := by
 refine callsIn_of_wp_marks Tryz.func28 rfl trivial ?_ rfl
 simp only [Tryz.ntmps28, List.size_toArray, List.length_cons, List.length_nil, Nat.reduceAdd, Nat.reduceSub, Array.replicate_succ, Array.replicate_zero, List.push_toArray, List.append_toArray, List.nil_append, List.cons_append]
 have hnS : S17 n := by unfold S17; omega
 have hdS : S17 d := by unfold S17; have := hF.1; omega
 have c1 := fun W hG => cBounded hnS hdS hF hb (by omega) W hG
 have c2 := fun W hG => cTerms hnS hdS hF.1 hts hl W hG
 replace hn1 := Lib.hid hn1
 replace hn2 := Lib.hid hn2
 replace hF := Lib.hid hF
 replace hd2 := Lib.hid hd2
 replace hb := Lib.hid hb
 replace hb2 := Lib.hid hb2
 replace hl := Lib.hid hl
 replace hG := Lib.hid hG
 have c0 := three_alloc (w := w) (W1 := ((w.alloc (.cells #[.string (T n), .string (T d)] 24)).alloc (.cells #[.slice none 0 0] 37)).alloc (.cells #[.int .i64 0] 26)) (Below.refl _ _)
 replace c0 := Lib.hid c0
 gi_wp2_with (first
  | (gi_at_call 51; refine (callsIn_wide.2 (c1 _ (hG.out.below c0.out.2.2.2.1))).mono ?_; rintro e W1 ⟨rfl, H1⟩; obtain ⟨x1, x2, x3, HB1, hz1⟩ := three_alloc H1; obtain ⟨y1, y2⟩ := two_cells (heap_alloc_some x1 (.cells #[.slice none 0 0] 37)); replace H1 := Lib.hid H1; replace HB1 := Lib.hid HB1; replace x1 := Lib.hid x1; replace x2 := Lib.hid x2; replace x3 := Lib.hid x3; replace hz1 := Lib.hid hz1)
  | (gi_at_call 46; refine (callsIn_wide.2 (c2 _ (hG.out.below (HB1.out.alloc (by have := hz1.out; omega) _)))).mono ?_; rintro e W2 ⟨g, cap, cur, rfl, hg, hh, hc, H2⟩; replace H2 := Lib.hid H2; replace hg := Lib.hid hg; replace hh := Lib.hid hh; replace hc := Lib.hid hc)
  | (gi_at_call 52; refine (callsIn_wide.2 (cSemi _ _ _ _ ⟨_, _, _, rfl⟩ ⟨_, _, _, rfl⟩)).mono ?_; rintro e W3 ⟨rfl, hW3⟩; replace hW3 := Lib.hid hW3))
 have hF0 := hF.out
 obtain ⟨G, g0, gs⟩ := search_G (n := n) (d := d) (bound := bound) (by have := hn1.out; omega) (by have := hn2.out; omega) hF0.1 (by have := hd2.out; omega) hb.out (f := half) (fun a last h1 h2 h3 => by unfold half; omega) hts
 have B2 : Below w.heap.size w W2 := (HB1.out.alloc (by have := hz1.out; omega) _).trans (H2.out.mono (by have := hz1.out; simp; omega))
 have s2 : W1.heap.size + 1 ≤ W2.heap.size := by have := H2.out.size; simpa using this
 have e3 := hW3.out
 have k23 : Below W2.heap.size W2 W3 := by rw [e3]; exact ((((Below.refl W2.heap.size W2).alloc (Nat.le_refl _) _).alloc (by simp) _).alloc (by simp; omega) _)
 have in2 : ∀ {k : Nat} {o : Obj}, W1.heap[k]? = some o → W2.heap[k]? = some o := fun {k o} h => by
  have h' := heap_alloc_some h (.cells #[.slice none 0 0] 37)
  exact (H2.out.block _ (Array.getElem?_eq_some_iff.1 h').1).trans h'
 have in3 : ∀ {k : Nat} {o : Obj}, W2.heap[k]? = some o → W3.heap[k]? = some o := fun {k o} h => (k23.block _ (Array.getElem?_eq_some_iff.1 h).1).trans h
 have hout : W2.heap[W1.heap.size]? = some (.cells #[.slice none 0 0] 37 (0, 0)) := by
  rw [H2.out.block _ (by simp)]; exact World.alloc_heap_new _ _
 have hRd : Reads ts bound (.func (.func 54) #[] #[]) W2.heap.size (W2.heap.size + 1) (W2.heap.size + 2) g cap cur W3 := by
  refine ⟨?_, ?_, ?_, in3 hh.out, hc.out⟩
  ·rw [e3, Below.heap_alloc _ _ _ (by simp; omega), Below.heap_alloc _ _ _ (by simp), World.alloc_heap_new]
  ·rw [e3, Below.heap_alloc _ _ _ (by simp)]
   have := World.alloc_heap_new (W2.alloc (.cells #[.slice (some ⟨g, 0, none⟩) ts.length cap] 34)) (.cells #[.int .i64 bound] 3)
   rwa [World.size_alloc] at this
  ·rw [e3]
   have := World.alloc_heap_new ((W2.alloc (.cells #[.slice (some ⟨g, 0, none⟩) ts.length cap] 34)).alloc (.cells #[.int .i64 bound] 3)) (.cells #[.func (.func 54) #[] #[]] 79)
   simpa using this
 have hI0 : BestI n d w W1.heap.size (semis half bound true CS.begin ts) 0 W3 :=
  ⟨in3 (in2 x1.out), in3 (in2 x2.out), in3 (in2 x3.out), ⟨_, in3 hout, World.ownsRow_nil _ _ _ _⟩, by have := k23.size; omega, B2.trans (k23.mono B2.size)⟩
 have hseq := semi_seq (fno := 54) hb.out (by have := hb2.out; omega) (by have := hl.out; omega) (enters_of Tryz.func54 (by kernel_rfl) rfl) (fun k a last w hG ha _ => cHalf k a last w hG ha) G g0 gs hRd
 have hn1w : w.heap.size + 2 < W1.heap.size := by have := hz1.out; omega
 have hn0 : w.heap.size ≤ W3.heap.size := by have := B2.size; have := k23.size; omega
 clear c0 c1 c2 y1 y2 H1 HB1 x1 x2 x3 hz1 H2 hg hh hc hW3 e3 in2 in3 hout hRd g0 gs
 refine wpIn_range_kept' (gf := 84) rfl (enters_of Tryz.func84 (by kernel_rfl) rfl) (fun o ho => by cases o <;> first | rfl | (simp [Obj.isCells] at ho)) hseq (fun _ => rfl)
  (BestI n d w W1.heap.size (semis half bound true CS.begin ts)) ?aFr
  (fun i y b W => W.heap[b]? = some (Obj.cells #[.string (fr y.1 y.2).1, .string (fr y.1 y.2).2] 24 (0, 0)) ∧ BestI n d w W1.heap.size (semis half bound true CS.begin ts) i W)
  (fun i A h => hG.out.below h.B) (fun i A B h hk => h.soft hk hn0) (fun i A l o o' h hl hA ho => h.put (by omega) hA ho)
  ?hI2p hI0 ?hassign ?hbody ?hdone
 case hassign =>
  intro m l i x W hx hI
  obtain ⟨X, hX⟩ : ∃ X, X = W.heap.size := ⟨_, rfl⟩
  simp only [encF]
  gi_wp2
  refine ⟨(Kept.refl _ _ _).alloc _, X, ?_, ?_, hI.soft ((Kept.refl _ _ _).alloc _) (Nat.le_refl _)⟩
  ·rw [← hX]
  ·rw [hX]; exact World.alloc_heap_new _ _
 case hI2p =>
  intro i x b A l o o' h hl hA ho
  refine ⟨?_, h.2.put (by omega) hA ho⟩
  rw [World.putObj_heap_other]
  ·exact h.1
  ·rintro rfl
   rw [hA] at h
   obtain rfl := Option.some.inj h.1
   cases ho
 case hdone =>
  intro D W hI hD hDw
  obtain ⟨v, h1, h2⟩ := hI.out
  obtain ⟨ad, kk, cc, rfl⟩ : ∃ ad kk cc, v = .slice ad kk cc := by
   rcases h2.2 with ⟨rfl, _⟩ | ⟨_, _, _, rfl, _⟩
   ·exact ⟨_, _, _, rfl⟩
   ·exact ⟨_, _, _, rfl⟩
  have q1 := cell0 h1
  replace h1 := Lib.hid h1
  replace h2 := Lib.hid h2
  replace hI := Lib.hid hI
  have q2 := cell0 hI.out.r1
  have q3 := cell0 hI.out.r2
  have q4 := frozen0 (j := 0) hI.out.r1
  have q5 := frozen0 (j := 0) hI.out.r2
  have hD1 : w.heap.size + 3 ≤ D := by
   have h1 := (Array.getElem?_eq_some_iff.1 hI0.r2).1
   omega
  replace hI0 := Lib.hid hI0
  clear hseq
  gi_wp2
  replace hI0 := hI0.out
  have hbo : w.heap.size + 2 < W1.heap.size := hn1w
  have hD2 : ((W.setCell ⟨w.heap.size + 1, 0, none⟩ (.slice ad kk cc)).setCell ⟨w.heap.size + 1 + 1, 0, none⟩ (.int .i64 0)).heap[D]? = some (.deferred (some [])) := by
   rw [Below.heap_setCell _ _ _ _ (by simp only; omega), Below.heap_setCell _ _ _ _ (by simp only; omega)]; exact hD
  refine ⟨by simp, .inl ⟨_, _, rfl, run_takeDeferred hD2, ?_⟩⟩
  have hc5 : (((W.setCell ⟨w.heap.size + 1, 0, none⟩ (.slice ad kk cc)).setCell ⟨w.heap.size + 1 + 1, 0, none⟩ (.int .i64 0)).putObj D (.deferred none)).cell? ⟨w.heap.size + 1, 0, none⟩ = some (.slice ad kk cc) := by
   rw [World.cell?_of_block (w := (W.setCell ⟨w.heap.size + 1, 0, none⟩ (.slice ad kk cc)).setCell ⟨w.heap.size + 1 + 1, 0, none⟩ (.int .i64 0)) (World.putObj_heap_other (by simp only; omega)), World.cell?_of_block (w := W.setCell ⟨w.heap.size + 1, 0, none⟩ (.slice ad kk cc)) (Below.heap_setCell _ _ _ _ (by simp only; omega))]
   exact World.cell?_setCell_same' _ _ _ (by rw [q2]; rfl)
  have hc6 : (((W.setCell ⟨w.heap.size + 1, 0, none⟩ (.slice ad kk cc)).setCell ⟨w.heap.size + 1 + 1, 0, none⟩ (.int .i64 0)).putObj D (.deferred none)).cell? ⟨w.heap.size + 1 + 1, 0, none⟩ = some (.int .i64 0) := by
   rw [World.cell?_of_block (w := (W.setCell ⟨w.heap.size + 1, 0, none⟩ (.slice ad kk cc)).setCell ⟨w.heap.size + 1 + 1, 0, none⟩ (.int .i64 0)) (World.putObj_heap_other (by simp only; omega))]
   refine World.cell?_setCell_same' _ _ _ ?_
   rw [World.cell?_of_block (w := W) (Below.heap_setCell _ _ _ _ (by simp only; omega)), q3]; rfl
  refine ⟨.tuple #[.slice ad kk cc, .int .i64 0], ?_, _, rfl, ?_, ?_⟩
  ·simp [results, Tryz.f28, go_sem, hc5, hc6]
  ·have h3 := h2.out
   rw [List.take_length] at h3
   obtain ⟨l1, l2⟩ := h3
   refine ⟨l1, ?_⟩
   rcases l2 with l2 | ⟨g, cap, cur, l3, l4, l5, l6⟩
   ·exact .inl l2
   ·refine .inr ⟨g, cap, cur, l3, by have := hI0.sz; have := hI.out.B.size; omega, ?_, l6⟩
    have hne : D ≠ g := by
     rintro rfl
     rw [hD] at l5; cases l5
    rw [World.putObj_heap_other (Ne.symm hne), Below.heap_setCell _ _ _ _ (by simp only; omega), Below.heap_setCell _ _ _ _ (by simp only; omega)]
    exact l5
  ·exact ((hI.out.B.setCell (p := ⟨w.heap.size + 1, 0, none⟩) (by simp) _).setCell (p := ⟨w.heap.size + 1 + 1, 0, none⟩) (by simp only; omega) _).trans (belowK_b (w := w) (Nat.le_refl _) _ D _ _ (by omega) hD2 rfl rfl)
 case hbody =>
  intro m l i y b W hy hI
  obtain ⟨hyb, hI⟩ := hI
  obtain ⟨v, h1, h2⟩ := hI.out
  obtain ⟨ad, kk, cc, rfl⟩ : ∃ ad kk cc, v = .slice ad kk cc := by
   rcases h2.2 with ⟨rfl, _⟩ | ⟨_, _, _, rfl, _⟩
   ·exact ⟨_, _, _, rfl⟩
   ·exact ⟨_, _, _, rfl⟩
  have hkk : kk = ((( semis half bound true CS.begin ts).take i).foldl (bstep n d) []).length := by
   rcases h2.2 with ⟨e1, e2⟩ | ⟨_, _, _, e1, _⟩
   ·injection e1 with _ e3 _; omega
   ·injection e1
  have hgood := semis_all (f := half) (M := 10000000) (by have := hn1.out; omega) (by have := hn2.out; omega) hF0.1 hb.out hts
  have hlen := semis_len (f := half) hF0.1 hb.out hts
  have hyg := hgood y (List.mem_of_getElem? hy)
  have hfl := fold_len n d ((semis half bound true CS.begin ts).take i) []
  have hti : ((semis half bound true CS.begin ts).take i).length ≤ (semis half bound true CS.begin ts).length := by rw [List.length_take]; omega
  have hbo := hb2.out
  have hk60 : kk ≤ 61 := by simp only [List.length_nil] at hfl; omega
  have hstep := fold_take (bstep n d) [] _ i y hy
  have houtg : ∀ z ∈ ((semis half bound true CS.begin ts).take i).foldl (bstep n d) [], Good n d bound 10000000 z := fun z hz => by
   rcases fold_mem _ _ hz with hz | hz
   ·cases hz
   ·exact hgood z (List.mem_of_mem_take hz)
  generalize ((semis half bound true CS.begin ts).take i).foldl (bstep n d) [] = out at *
  replace hyb := hyg.fr ▸ hyb
  have q1 := cell0 h1
  obtain ⟨q2, q3⟩ := two_cells hyb
  have q4 := frozen0 (j := 0) h1
  replace h1 := Lib.hid h1
  replace h2 := Lib.hid h2
  replace hI := Lib.hid hI
  replace hI0 := Lib.hid hI0
  replace hyg := Lib.hid hyg
  replace hyb := Lib.hid hyb
  replace hgood := Lib.hid hgood
  replace houtg := Lib.hid houtg
  replace hlen := Lib.hid hlen
  replace hfl := Lib.hid hfl
  replace hti := Lib.hid hti
  replace hstep := Lib.hid hstep
  replace hy := Lib.hid hy
  replace hk60 := Lib.hid hk60
  clear hseq hbo
  rcases List.eq_nil_or_concat out with rfl | ⟨pre, z, rfl⟩
  ·have hk0 : kk = 0 := hkk
   subst hk0
   replace hkk := Lib.hid hkk
   obtain ⟨i0, hi, hz0, hz1, hz2⟩ := info_parts info24
   gi_wp2_with (gi_at_builtin; refine wpListIn_append_own _ rfl _ _ 37 rfl (W1.heap.size + 1) 24 i0 (.agg #[(.string ⟨#[]⟩), (.string ⟨#[]⟩)]) 2 32 Tryz.underlying37 hi hz0 hz1 hz2 rfl (by decide) _ _ _ rfl (h2.out.alloc _) ⟨W.heap.size, 0, none⟩ 1 1 [.string (T y.1), .string (T y.2)] rfl rfl (two_new _ _ _ _) (by intro u hu; simp at hu; rcases hu with rfl | rfl <;> rfl) (by decide) (by decide) (by have := hI.out.sz; simp; omega) ?_)
   intro v' w1 hown' hgrow _
   obtain ⟨g', cap', rfl⟩ := own_succ hown'
   have hI' := hI.out.app h1.out h2.out hown' hgrow hn1w (by rw [hstep.out]; rfl) (by rw [hstep.out]; rfl)
   have hb1 : w1.heap[W1.heap.size]? = some (.cells #[.slice ad 0 cc] 37 (0, 0)) := heap_old hgrow h1.out (fun he => by have := (row_block h2.out he.symm).1; omega)
   have q5 := cell0 hb1
   have q6 := frozen0 (j := 0) hb1
   gi_wp2
  ·have hk0 : kk = pre.length + 1 := by rw [hkk]; simp
   subst hk0
   replace hkk := Lib.hid hkk
   rw [List.concat_eq_append] at *
   obtain ⟨i0, hi, hz0, hz1, hz2⟩ := info_parts info24
   have h2' : W.ownsRow (W1.heap.size + 1) 24 2 (.slice ad (pre.length + 1) cc) (pre.length + 1) (fcells (pre ++ [z])) := by have := h2.out; rwa [List.length_append] at this
   replace h2 := Lib.hid h2'
   clear h2'
   obtain ⟨g0, cc', hv0⟩ := own_succ h2.out
   obtain ⟨rfl, rfl⟩ : ad = some ⟨g0, 0, none⟩ ∧ cc = cc' := by injection hv0 with e1 e2 e3; exact ⟨e1, e3⟩
   have hw64 : wrap64 (pre.length : Int) = pre.length := w64 (by omega) (by have := hk60.out; omega)
   have hpos : ¬ ((pre.length : Int) < 0) := by omega
   have hzg := houtg.out z (by simp)
   have hce := h2.out.cells (g := g0) (by simp [Value.ownBlock])
   have e0 : W.cell? ⟨g0, pre.length * 2, none⟩ = some (.string (T z.1)) := by rw [← add0]; exact hce (pre.length * 2) _ (fcells_last0 pre z)
   have e1 : W.cell? ⟨g0, pre.length * 2 + 1, none⟩ = some (.string (T z.2)) := by rw [← add0]; exact hce (pre.length * 2 + 1) _ (fcells_last1 pre z)
   replace hzg := Lib.hid hzg
   replace hv0 := Lib.hid hv0
   clear hce
   have g12 : ∀ w', Below W.heap.size W w' → w'.cell? ⟨w.heap.size, 0, none⟩ = some (.string (T n)) ∧ w'.cell? ⟨w.heap.size, 1, none⟩ = some (.string (T d)) ∧ w'.cell? ⟨b, 0, none⟩ = some (.string (T y.1)) ∧ w'.cell? ⟨b, 1, none⟩ = some (.string (T y.2)) ∧
     w'.cell? ⟨W1.heap.size, 0, none⟩ = some (.slice (some ⟨g0, 0, none⟩) (pre.length + 1) cc) ∧ w'.cell? ⟨g0, pre.length * 2, none⟩ = some (.string (T z.1)) ∧ w'.cell? ⟨g0, pre.length * 2 + 1, none⟩ = some (.string (T z.2)) ∧ GWorld w' := by
    intro w' hB'
    have hx := hI.out.x
    have keep : ∀ {k : Nat} {o : Obj}, W.heap[k]? = some o → w'.heap[k]? = some o := fun {k o} h => (hB'.block k (Array.getElem?_eq_some_iff.1 h).1).trans h
    obtain ⟨x0, x1⟩ := two_cells (keep hx)
    obtain ⟨x2, x3⟩ := two_cells (keep hyb.out)
    obtain ⟨_, cur0, hc0⟩ := row_block h2.out (j := g0) (by simp [Value.ownBlock])
    have same : w'.heap[g0]? = W.heap[g0]? := (keep hc0).trans hc0.symm
    refine ⟨x0, x1, x2, x3, cell0 (keep h1.out), ?_, ?_, hG.out.below (hI.out.B.trans (hB'.mono hI.out.B.size))⟩
    ·rw [World.cell?_of_block (w := W) same]; exact e0
    ·rw [World.cell?_of_block (w := W) same]; exact e1
   replace g12 := Lib.hid g12
   obtain ⟨k1, hk1⟩ := (Dist_T (hyg.out.sumOk hn1.out hn2.out hF0.1 hd2.out hb2.out (by omega))).rounds
   obtain ⟨k2, hk2⟩ := (Dist_T (hzg.out.sumOk hn1.out hn2.out hF0.1 hd2.out hb2.out (by omega))).rounds
   have hdy := hyg.out.dist hF0.1 hd2.out hb2.out
   have hdz := hzg.out.dist hF0.1 hd2.out hb2.out
   have c1 := fun w' hG => convergent_distance.calls k1 _ _ _ _ _ _ w' hG hk1
   have c2 := fun w' hG => convergent_distance.calls k2 _ _ _ _ _ _ w' hG hk2
   have c3 := fun w' hG => fraction_Compare.calls 0 _ _ _ _ _ w' hG (FCompare_little hdy.1 hdy.2 hdz.1 hdz.2 0)
   gi_wp2
   refine wpIn_region_vals (by kernel_rfl) [(0, 38, .agg #[.string (T n), .string (T d)]), (1, 39, .agg #[.string (T y.1), .string (T y.2)]), (2, 40, .agg #[.string (T (dst n d y.1 y.2).1), .string (T (dst n d y.1 y.2).2)]),
    (3, 41, .agg #[.string (T n), .string (T d)]), (4, 42, .slice (some ⟨g0, 0, none⟩) (pre.length + 1) cc), (5, 43, .int .i64 pre.length), (6, 44, .pointer (some ⟨g0, pre.length * 2, none⟩)), (7, 45, .agg #[.string (T z.1), .string (T z.2)]),
    (8, 46, .agg #[.string (T (dst n d z.1 z.2).1), .string (T (dst n d z.1 z.2).2)]), (9, 47, .int .i64 (cmp ((dst n d y.1 y.2).1 * (dst n d z.1 z.2).2) ((dst n d z.1 z.2).1 * (dst n d y.1 y.2).2))),
    (10, 48, .bool (decide (0 ≤ cmp ((dst n d y.1 y.2).1 * (dst n d z.1 z.2).2) ((dst n d z.1 z.2).1 * (dst n d y.1 y.2).2)))), (11, 37, .bool (decide (0 ≤ cmp ((dst n d y.1 y.2).1 * (dst n d z.1 z.2).2) ((dst n d z.1 z.2).1 * (dst n d y.1 y.2).2))))]
    (Below W.heap.size W) ?hlt ?h0 ?hB ?hV ?hs ?hend
   case hlt =>
    intro i' o ho e he hbe
    have hlt : i' < 12 := by simpa using (Array.getElem?_eq_some_iff.1 ho).1
    rcases i' with _ | _ | _ | _ | _ | _ | _ | _ | _ | _ | _ | _ | i'
    all_goals try (exfalso; omega)
    all_goals (
     simp only [List.getElem?_toArray, List.getElem?_cons_zero, List.getElem?_cons_succ, Option.some.injEq] at ho
     subst ho
     simp at he
     try (rcases he with rfl | rfl | rfl <;> simp)
     try (rcases he with rfl | rfl <;> simp)
     try (rcases he with rfl <;> simp))
   case h0 => simp [putV, sel]
   case hB => exact ⟨rfl, rfl, rfl, Nat.le_refl _, fun _ _ => rfl⟩
   case hV => intro e he; simp at he; rcases he with rfl | rfl | rfl | rfl | rfl | rfl | rfl | rfl | rfl | rfl | rfl | rfl <;> simp
   case hend =>
    intro w' hB'
    obtain ⟨p0, p1, p2, p3, p4, p5, p6, p7⟩ := g12.out w' hB'
    simp only [putV, List.foldl_cons, List.foldl_nil, List.setIfInBounds_toArray, List.set_cons_zero, List.set_cons_succ, sel_true]
    replace c1 := Lib.hid c1
    replace c2 := Lib.hid c2
    replace c3 := Lib.hid c3
    replace hk1 := Lib.hid hk1
    replace hk2 := Lib.hid hk2
    replace hdy := Lib.hid hdy
    replace hdz := Lib.hid hdz
    replace hB' := Lib.hid hB'
    replace p7 := Lib.hid p7
    gi_wp2
    ·rename_i hcmp
     have hnn : ¬ nearer n d y z := fun hh => by
      have h1 := cmp_neg.2 ((dst_nearer hF0.1 (show 0 < y.2 by have := hyg.out.q1; omega) (show 0 < z.2 by have := hzg.out.q1; omega)).2 (by unfold nearer er at hh; rwa [Int.mul_comm d y.1, Int.mul_comm d z.1] at hh))
      omega
     have hst := hstep.out
     rw [bstep_snoc, if_neg hnn] at hst
     exact hI.out.stay h1.out h2.out hB'.out (by rw [hst]; simp) (by rw [hst])
    rename_i hcmp K1 hK1
    have hnn : nearer n d y z := by
     unfold nearer er
     rw [Int.mul_comm d y.1, Int.mul_comm d z.1]
     refine (dst_nearer hF0.1 (show 0 < y.2 by have := hyg.out.q1; omega) (show 0 < z.2 by have := hzg.out.q1; omega)).1 (cmp_neg.1 ?_)
     omega
    have hst := hstep.out
    rw [bstep_snoc, if_pos hnn] at hst
    have hTT : ((T y.2).toList == (T z.2).toList) = decide (y.2 = z.2) := by
     by_cases e : y.2 = z.2
     ·simp [e]
     ·rw [decide_eq_false e]
      refine beq_eq_false_iff_ne.2 ?_
      rw [T_toList, T_toList]
      exact fun hh => e (itoa_inj hh)
    replace hst := Lib.hid hst
    replace hnn := Lib.hid hnn
    replace hcmp := Lib.hid hcmp
    clear p0 p1 p2 p3 p4 p5 p6 p7
    refine wpIn_region_vals (by kernel_rfl) [(0, 50, .pointer (some ⟨b, 1, none⟩)), (1, 51, .string (T y.2)), (2, 52, .slice (some ⟨g0, 0, none⟩) (pre.length + 1) cc), (3, 53, .int .i64 pre.length), (4, 54, .pointer (some ⟨g0, pre.length * 2, none⟩)),
     (5, 55, .pointer (some ⟨g0, pre.length * 2 + 1, none⟩)), (6, 56, .string (T z.2)), (7, 57, .bool (decide (y.2 = z.2))), (8, 49, .bool (decide (y.2 = z.2)))] (Below W.heap.size W) ?rhlt ?rh0 ?rhB ?rhV ?rhs ?rhend
    case rhlt =>
     intro i' o ho e he hbe
     have hlt : i' < 9 := by simpa using (Array.getElem?_eq_some_iff.1 ho).1
     rcases i' with _ | _ | _ | _ | _ | _ | _ | _ | _ | i'
     all_goals try (exfalso; omega)
     all_goals (
      simp only [List.getElem?_toArray, List.getElem?_cons_zero, List.getElem?_cons_succ, Option.some.injEq] at ho
      subst ho
      simp at he
      try (rcases he with rfl | rfl | rfl <;> simp)
      try (rcases he with rfl | rfl <;> simp)
      try (rcases he with rfl <;> simp))
    case rh0 => simp [putV, sel]
    case rhB => exact ⟨hB'.out.os, hB'.out.tape, hB'.out.output, hB'.out.size, hB'.out.block⟩
    case rhV => intro e he; simp at he; rcases he with rfl | rfl | rfl | rfl | rfl | rfl | rfl | rfl | rfl <;> simp
    case rhs =>
     intro b' i' o w'' ho hB2 hbi hdep
     obtain ⟨p0, p1, p2, p3, p4, p5, p6, p7⟩ := g12.out w'' hB2
     replace hB2 := Lib.hid hB2
     clear p7
     have hlt : i' < 9 := by simpa using (Array.getElem?_eq_some_iff.1 ho).1
     rcases i' with _ | _ | _ | _ | _ | _ | _ | _ | _ | i'
     all_goals try (exfalso; omega)
     all_goals (
      simp only [List.getElem?_toArray, List.getElem?_cons_zero, List.getElem?_cons_succ, Option.some.injEq, Nat.zero_add, Nat.reduceAdd] at ho
      subst ho
      clear hlt
      try simp [Region.binds] at hdep
      simp only [putV, List.foldl_cons, List.foldl_nil, List.setIfInBounds_toArray, List.set_cons_zero, List.set_cons_succ]
      refine wpOpIn_step rfl (fun K hK => ?_)
      rw [if_pos (by rfl)]
      try simp only [Nat.zero_add, Nat.reduceAdd] at hbi
      try simp only [Nat.zero_add, Nat.reduceAdd] at hK
      try simp only [hdep, sel_true]
      replace hK := Lib.hid hK
      gi_wp2)
     all_goals first
      | exact hK.out _ _ ⟨by simp [putV, sel_true, hdep], hB2.out⟩
      | exact hK.out _ _ ⟨by simp [putV, sel_true, hdep, hTT], hB2.out⟩
      | skip
    case rhend =>
     intro w'' hB2
     obtain ⟨p0, p1, p2, p3, p4, p5, p6, p7⟩ := g12.out w'' hB2
     simp only [putV, List.foldl_cons, List.foldl_nil, List.setIfInBounds_toArray, List.set_cons_zero, List.set_cons_succ, sel_true]
     replace hB2 := Lib.hid hB2
     replace p7 := Lib.hid p7
     have hnk : ¬ ((pre.length : Int) + 1 = 1000) := by have := hk60.out; omega
     have hrow2 : w''.ownsRow (W1.heap.size + 1) 24 2 (.slice (some ⟨g0, 0, none⟩) (pre.length + 1) cc) (pre.length + 1) (fcells (pre ++ [z])) := ownsRow_kept h2.out (fun g cur hg => (hB2.out.block _ (Array.getElem?_eq_some_iff.1 hg).1).trans hg)
     obtain ⟨hgb, cur2, hc2⟩ := row_block hrow2 (j := g0) (by simp [Value.ownBlock])
     have hfz := frozen0 (j := pre.length * 2) hc2
     have hfz2 := frozen0 (j := pre.length * 2 + 1) hc2
     replace hc2 := Lib.hid hc2
     replace hgb := Lib.hid hgb
     replace hrow2 := Lib.hid hrow2
     gi_wp2_with (gi_at_builtin; refine wpListIn_append_own _ rfl _ _ 37 rfl (W1.heap.size + 1) 24 i0 (.agg #[(.string ⟨#[]⟩), (.string ⟨#[]⟩)]) 2 32 Tryz.underlying37 hi hz0 hz1 hz2 rfl (by decide) _ _ _ rfl (hrow2.out.alloc _) ⟨w''.heap.size, 0, none⟩ 1 1 [.string (T y.1), .string (T y.2)] rfl rfl (two_new _ _ _ _) (by intro u hu; simp at hu; rcases hu with rfl | rfl <;> rfl) (by have := hk60.out; unfold maxLen; omega) (by have := hk60.out; omega) (by have := hI.out.sz; have := hB2.out.size; simp; omega) ?_)
     ·rename_i heq
      have hs := hst.out
      rw [if_pos heq] at hs
      refine hI.out.swap h1.out h2.out hB2.out hn1w _ _ _ _ (by rw [hs]; simp) ?_
      rw [hs, fcells_set, fcells_append, ← heq]
      rfl
     ·have hne : ¬ y.2 = z.2 := by assumption
      intro v' w1 hown' hgrow _
      have hs := hst.out
      rw [if_neg hne] at hs
      obtain ⟨g', cap', rfl⟩ := own_succ hown'
      have hI2 := hI.out.soft (Kept.of_below (b := w.heap.size) hB2.out) (Nat.le_refl _)
      have h12 := (hB2.out.block _ (Array.getElem?_eq_some_iff.1 h1.out).1).trans h1.out
      have hI' := hI2.app h12 hrow2.out hown' hgrow hn1w (by rw [hs]; simp) (by rw [hs]; simp [fcells])
      have hb1 : w1.heap[W1.heap.size]? = some (.cells #[.slice (some ⟨g0, 0, none⟩) (pre.length + 1) cc] 37 (0, 0)) := heap_old hgrow h12 (fun he => by have := (row_block h2.out he.symm).1; omega)
      have q5 := cell0 hb1
      have q6 := frozen0 (j := 0) hb1
      replace hI' := Lib.hid hI'
      replace h12 := Lib.hid h12
      replace hI2 := Lib.hid hI2
      replace hgrow := Lib.hid hgrow
      replace hown' := Lib.hid hown'
      gi_wp2
      exact ⟨(Kept.of_below hB2.out).trans hI'.out.1, hI'.out.2⟩
   case hs =>
    intro b' i' o w' ho hB' hbi hdep
    obtain ⟨p0, p1, p2, p3, p4, p5, p6, p7⟩ := g12.out w' hB'
    replace c1 := Lib.hid (c1 w' p7)
    replace c2 := Lib.hid (c2 w' p7)
    replace c3 := Lib.hid (c3 w' p7)
    replace hk1 := Lib.hid hk1
    replace hk2 := Lib.hid hk2
    replace hdy := Lib.hid hdy
    replace hdz := Lib.hid hdz
    replace hB' := Lib.hid hB'
    clear p7
    have hlt : i' < 12 := by simpa using (Array.getElem?_eq_some_iff.1 ho).1
    rcases i' with _ | _ | _ | _ | _ | _ | _ | _ | _ | _ | _ | _ | i'
    all_goals try (exfalso; omega)
    all_goals (
     simp only [List.getElem?_toArray, List.getElem?_cons_zero, List.getElem?_cons_succ, Option.some.injEq, Nat.zero_add, Nat.reduceAdd] at ho
     subst ho
     clear hlt
     try simp [Region.binds] at hdep
     simp only [putV, List.foldl_cons, List.foldl_nil, List.setIfInBounds_toArray, List.set_cons_zero, List.set_cons_succ]
     refine wpOpIn_step rfl (fun K hK => ?_)
     rw [if_pos (by rfl)]
     try simp only [Nat.zero_add, Nat.reduceAdd] at hbi
     try simp only [Nat.zero_add, Nat.reduceAdd] at hK
     try simp only [hdep, sel_true]
     replace hK := Lib.hid hK
     gi_wp2)
    all_goals first
     | exact hK.out _ _ ⟨by simp [putV, sel_true, hdep], hB'.out⟩
     | (refine (in_round _ c1.out).mono ?_; rintro e w1 ⟨rfl, H1⟩; exact hK.out _ _ ⟨by simp [putV, sel_true, hdep], hB'.out.trans (H1.mono hB'.out.size)⟩)
     | (refine (in_round _ c2.out).mono ?_; rintro e w1 ⟨rfl, H1⟩; exact hK.out _ _ ⟨by simp [putV, sel_true, hdep], hB'.out.trans (H1.mono hB'.out.size)⟩)
     | (refine (in_round _ c3.out).mono ?_; rintro e w1 ⟨rfl, H1⟩; exact hK.out _ _ ⟨by simp [putV, sel_true, hdep], hB'.out.trans (H1.mono hB'.out.size)⟩)
end Go.Proofs.YtidajgkepdkcbaaGreatDoor
end
section
namespace Go.Proofs.YtidajgkepdkcbaaGreatDoor
open Go.RowKit Go.Lib
theorem sizeBld : (Tryz.prog.info? 93).map (·.size) = some 2 := by kernel_rfl
theorem liesBld : liesAt Tryz.prog Tryz.prog.depth 93 (2 / Tryz.prog.cellsOf 93) 0 93 1 = true := by kernel_rfl
theorem infoByte : (Tryz.prog.info? 5).map (fun i => (i.zero, i.size, i.bytes)) = some (some (.int .u8 0), 1, 1) := by kernel_rfl
set_option maxHeartbeats 1000000 in
set_option maxRecDepth 100000 in
theorem bUsed (b : Nat) (w : World) (h0 : w.cell? ⟨b, 0, none⟩ = some (.pointer (some ⟨b, 0, none⟩))) :
  Calls Tryz.prog 97 #[.pointer (some ⟨b, 0, none⟩)] w fun e w' => e = .returned (.tuple #[]) ∧ w' = w := by
 obtain ⟨j, hj, _⟩ := Option.map_eq_some_iff.1 sizeBld
 go_enter Tryz.func97, Tryz.ntmps97
 go_wp2
 rw [Lib.run_neq_ptr_same w _ Tryz.underlying90 hj]
 go_wp2
 go_end0
 exact ⟨rfl, rfl⟩
set_option maxHeartbeats 1000000 in
set_option maxRecDepth 100000 in
theorem bFresh (b : Nat) (w : World) (h0 : w.cell? ⟨b, 0, none⟩ = some (.pointer none)) (hsh : w.shape? b = some (93, 2)) (hfz : w.frozen? ⟨b, 0, none⟩ = false) :
  Calls Tryz.prog 97 #[.pointer (some ⟨b, 0, none⟩)] w fun e w' => e = .returned (.tuple #[]) ∧ w' = w.setCell ⟨b, 0, none⟩ (.pointer (some ⟨b, 0, none⟩)) := by
 obtain ⟨j, hj, hjs⟩ := Option.map_eq_some_iff.1 sizeBld
 go_enter Tryz.func97, Tryz.ntmps97
 go_wp2
 rw [Lib.run_to_unsafe w ⟨b, 0, none⟩ Tryz.underlying90 Tryz.underlying151 hj (by rw [hjs]; decide) hsh (Nat.zero_lt_succ 1)]
 simp only [Result.andThen]
 rw [Oper.upon_value]
 go_wp2
 rw [run_callFunc_extern Tryz.func131 (by kernel_rfl) (by kernel_rfl) (by kernel_rfl) (e := Extern.AbiNoEscape.same) (by kernel_rfl)]
 rw [Lib.run_noEscape]
 simp only [Result.andThen]
 rw [Oper.upon_value]
 go_wp2
 rw [Lib.run_from_unsafe w ⟨b, 0, none⟩ Tryz.underlying151 Tryz.underlying90 hj hsh liesBld]
 simp only [Result.andThen]
 rw [Oper.upon_value]
 go_wp2
 go_end0
 exact ⟨rfl, rfl⟩
theorem bCheck (B b : Nat) (bs : List Value) (w : World) (h : Lib.IsBuilderF 93 5 B b bs w) :
  Calls Tryz.prog 97 #[.pointer (some ⟨b, 0, none⟩)] w fun e w' => e = .returned (.tuple #[]) ∧ (Lib.BuilderAtF 93 5 B b (.pointer (some ⟨b, 0, none⟩)) bs w' ∧ Below B w w' ∧ Lib.OthersKept 5 (some b) w w') := by
 rcases h with h | h
 ·refine (bFresh b w h.cell0 h.shape h.frozen0).mono ?_
  rintro e w' ⟨rfl, rfl⟩
  exact ⟨rfl, h.used _, (Below.refl B w).setCell (p := ⟨b, 0, none⟩) h.1 _, (Lib.OthersKept.refl _ _ w).setCell ⟨b, 0, none⟩ rfl _⟩
 ·refine (bUsed b w h.cell0).mono ?_
  rintro e w' ⟨rfl, rfl⟩
  exact ⟨rfl, h, Below.refl B _, Lib.OthersKept.refl _ _ _⟩
set_option maxHeartbeats 2000000 in
set_option maxRecDepth 100000 in
theorem bWrite (B b : Nat) (bs : List Value) (s : ByteArray) (w : World) (h : Lib.IsBuilderF 93 5 B b bs w) (hlen : bs.length + s.size ≤ 140737488355328) (hBw : B ≤ w.heap.size) :
  Calls Tryz.prog 68 #[.pointer (some ⟨b, 0, none⟩), .string s] w fun e w' => e = .returned (.tuple #[.int .i64 s.size, .nilIface]) ∧ (Lib.BuilderAtF 93 5 B b (.pointer (some ⟨b, 0, none⟩)) (bs ++ Lib.strCells s) w' ∧ Below B w w' ∧ Lib.OthersKept 5 (some b) w w') := by
 obtain ⟨i0, hi, hz0, hz1, hz2⟩ := info_parts infoByte
 go_enter Tryz.func68, Tryz.ntmps68
 go_wp2_with (go_at_call 97; refine (bCheck B b bs _ h).mono ?_)
 rintro e w1 ⟨rfl, h1, hb1, hk1⟩
 obtain ⟨hB, v, hbk, hown, hne⟩ := h1
 have c0 : w1.cell? ⟨b, 0, none⟩ = some (.pointer (some ⟨b, 0, none⟩)) := by rw [Lib.cell_of_heap hbk]; rfl
 have c1 : w1.cell? ⟨b, 1, none⟩ = some v := by rw [Lib.cell_of_heap hbk]; rfl
 go_wp2_with (at_builtin; refine Lib.wpList_append_own_stringF _ rfl _ _ 91 9 rfl B 5 i0 Tryz.underlying91 Tryz.underlying9 hi hz0 hz1 hz2 _ _ _ rfl hown s rfl ?c3 ?c4 ?c5 ?_)
 case c3 => unfold maxLen; omega
 case c4 => omega
 case c5 => have := hb1.size; omega
 intro v' w2 hown' hgrow _
 have hlt : b < w1.heap.size := (Array.getElem?_eq_some_iff.1 hbk).1
 have hb2 : w2.heap[b]? = some (.cells #[.pointer (some ⟨b, 0, none⟩), v] 93 (0, 0)) := by
  rw [hgrow.block b hlt (fun e => hne e.symm)]
  exact hbk
 have d0 : w2.cell? ⟨b, 0, none⟩ = some (.pointer (some ⟨b, 0, none⟩)) := by rw [Lib.cell_of_heap hb2]; rfl
 have d1 : w2.cell? ⟨b, 1, none⟩ = some v := by rw [Lib.cell_of_heap hb2]; rfl
 have f1 : w2.frozen? ⟨b, 1, none⟩ = false := Lib.frozen_of_heap hb2 1
 obtain ⟨ao, n', cap, rfl⟩ : ∃ ao n' cap, v' = .slice ao n' cap := by
  rcases hown'.2 with ⟨hv, _⟩ | ⟨g, cap, cur, fz, hv, _⟩
  ·exact ⟨_, _, _, hv⟩
  ·exact ⟨_, _, _, hv⟩
 go_wp2
 go_ret2
 refine ⟨rfl, ?_, ?_, (hk1.grown hgrow (Lib.ownsRowF_kind hown)).setCell ⟨b, 1, none⟩ rfl _⟩
 ·exact Lib.BuilderAtF.put (T := 93) (e := 5) hB hb2 (bs' := bs ++ Lib.strCells s) (by simpa [Lib.strCells_length] using hown') (by decide)
 ·exact (hb1.grown hgrow (by have := hb1.size; omega) (fun k hk => (hown.lt k hk).1)).setCell (p := ⟨b, 1, none⟩) hB _
end Go.Proofs.YtidajgkepdkcbaaGreatDoor
end
section
namespace Go.Proofs.YtidajgkepdkcbaaGreatDoor
open Go.RowKit Go.Lib Go.Proofs.YtidajgkepdkcbaaGreatDoorW.PrintWords Go.Proofs.YtidajgkepdkcbaaGreatDoorW.PrintLast Go.Proofs.YtidajgkepdkcbaaGreatDoorW.PrintMore PF
attribute [local go_sem] Oper.semAt_some wide_fn2 wide_depth2
def pathl : Nat → List ByteArray → List UInt8 → Option (ByteArray × Int)
 | _, [], acc => some (⟨acc.toArray⟩, 0)
 | i, a :: l, acc => (whole_Small.f a).bind fun q => if q.2 = false ∨ 1000 - (acc.length : Int) < q.1 then some (⟨#[]⟩, 16) else if q.1 < 0 then none else pathl (i + 1) l (acc ++ Lib.repeatL [if i % 2 = 0 then 82 else 76] q.1.toNat)
namespace PF
def convergent_Path.f (k : Nat) (x1 x2 : ByteArray) : Option (ByteArray × Int) :=
 (convergent_wrong.f k x1 x2).bind fun b => if b = true then some (⟨#[]⟩, 2) else (fraction_Sign.f x1 x2).bind fun s => if s ≤ 0 then some (⟨#[]⟩, 3) else
  (convergent_terms.f k x1 x2).bind fun l => match l.getLast? with
   | none => none
   | some a => (whole_Sub.f k a ⟨#[49]⟩).bind fun a' => pathl 0 (l.dropLast ++ [a']) []
end PF
theorem bld_below {T e : TypeId} {B b : Nat} {bs : List Value} {w w' : World} (h : Lib.IsBuilderF T e B b bs w) (hb : Below w.heap.size w w') : Lib.IsBuilderF T e B b bs w' := by
 have one : ∀ {p : Value}, Lib.BuilderAtF T e B b p bs w → Lib.BuilderAtF T e B b p bs w' := by
  rintro p ⟨hB, v, hbk, ⟨h1, h2⟩, hne⟩
  have keep : ∀ {k : Nat} {o : Obj}, w.heap[k]? = some o → w'.heap[k]? = some o := fun {k o} h => (hb.block k (Array.getElem?_eq_some_iff.1 h).1).trans h
  refine ⟨hB, v, keep hbk, ⟨h1, ?_⟩, hne⟩
  rcases h2 with h2 | ⟨g, cap, cur, fz, hv, hg, hh, r⟩
  ·exact .inl h2
  ·exact .inr ⟨g, cap, cur, fz, hv, hg, keep hh, r⟩
 exact h.elim (fun x => .inl (one x)) (fun x => .inr (one x))
theorem repeat_one (c : UInt8) : ∀ n : Nat, (Lib.repeatL [c] n).length = n
 | 0 => rfl
 | n + 1 => by simp [Lib.repeatL, repeat_one c n]
def PathR (L : List ByteArray) (r : ByteArray × Int) (B bb g : Nat) (cur : Array Value) (w : World) (v : Value) (wr : World) : Prop :=
 ∃ (i : Nat) (acc : List UInt8), v = .int .i64 (i : Int) ∧ i ≤ L.length ∧ pathl i (L.drop i) acc = some r ∧ acc.length ≤ 1000 ∧ Lib.IsBuilderF 93 5 B bb (Lib.byteCells acc) wr ∧ wr.heap[g]? = some (.cells cur 22 (0, 0)) ∧ Below w.heap.size w wr
def PathM (L : List ByteArray) (v : Value) : Nat := L.length - (match v with | .int _ k => k.toNat | _ => 0)
theorem pathM_lt {L : List ByteArray} {i : Nat} (h : i < L.length) : PathM L (.int .i64 ((i + 1 : Nat) : Int)) < PathM L (.int .i64 (i : Int)) :=
 (Nat.sub_lt_sub_left h (Nat.lt_succ_self i) : L.length - (i + 1) < L.length - i)
theorem terms_len0 : ∀ (k : Nat) (x y : ByteArray) (out l : List ByteArray), out.length ≤ 1001 → convergent_terms.l0 k x y out = some l → l.length ≤ 1001
 | 0, _, _, _, _, _, h => by simp [convergent_terms.l0] at h
 | k + 1, x, y, out, l, ho, h => by
  rw [convergent_terms.l0] at h
  split at h
  ·rename_i hle
   obtain ⟨q, _, h⟩ := Option.bind_eq_some_iff.1 h
   split at h
   ·simp only [Option.bind_some] at h
    split at h
    ·obtain rfl := Option.some.inj h
     simp; omega
    ·exact terms_len0 k _ _ _ l (by simp; omega) h
   ·cases h
  ·obtain rfl := Option.some.inj h
   exact ho
theorem terms_len {k : Nat} {x1 x2 : ByteArray} {l : List ByteArray} (h : convergent_terms.f k x1 x2 = some l) : l.length ≤ 1001 := terms_len0 k _ _ _ l (by simp) h
set_option maxRecDepth 100000 in
set_option maxHeartbeats 4000000 in
theorem path_walk (k : Nat) (x1 x2 : ByteArray) (l : List ByteArray) (a a' : ByteArray) (r : ByteArray × Int) (w : World) (hG : GWorld w) (s : Int) (h1 : convergent_wrong.f k x1 x2 = some false) (h2 : fraction_Sign.f x1 x2 = some s) (hs : ¬ s ≤ 0) (h3 : convergent_terms.f k x1 x2 = some l)
  (hl : l.length ≤ 1001) (h4 : l.getLast? = some a) (h5 : whole_Sub.f k a ⟨#[49]⟩ = some a') (h6 : pathl 0 (l.dropLast ++ [a']) [] = some r) :
  Calls Tryz.prog 32 #[.agg #[.string x1, .string x2]] w fun e w' => e = .returned (.tuple #[.string r.1, .int .i64 r.2]) ∧ Below w.heap.size w w' := by
 refine (callsIn_wide (n := 0)).1 (callsIn_of_wp Tryz.func32 rfl trivial ?_ rfl)
 simp only [Tryz.ntmps32, List.size_toArray, List.length_cons, List.length_nil, Nat.reduceAdd, Nat.reduceSub, Array.replicate_succ, Array.replicate_zero, List.push_toArray, List.append_toArray, List.nil_append, List.cons_append]
 have c1 := fun W hG => convergent_wrong.calls k _ _ _ W hG h1
 have c2 := fun W => fraction_Sign.calls _ _ _ W h2
 obtain ⟨m, hm⟩ : ∃ m, l.length = m + 1 := ⟨l.length - 1, by cases l with | nil => simp at h4 | cons _ _ => simp⟩
 have c3 : ∀ W, GWorld W → Calls Tryz.prog 46 #[.agg #[.string x1, .string x2]] W fun e w' => ∃ g cap cur, e = .returned (.slice (some ⟨g, 0, none⟩) (m + 1) cap) ∧ W.heap.size ≤ g ∧ w'.heap[g]? = some (.cells cur 22 (0, 0)) ∧ (∀ (k : Nat) (x : ByteArray), l[k]? = some x → cur[k]? = some (.string x)) ∧ Below W.heap.size W w' := fun W hG => by
  refine (convergent_terms.calls k _ _ _ W hG h3).mono ?_
  rintro e w' ⟨v, rfl, hR, hB⟩
  obtain ⟨g, cap, cur, rfl, hg, hh, hc⟩ := row_of_R hR (by intro e; rw [e] at hm; simp at hm)
  exact ⟨g, cap, cur, by rw [hm], hg, hh, hc, hB⟩
 have hla : l[m]? = some a := by rw [List.getLast?_eq_getElem?, hm] at h4; exact h4
 have c5 := fun W hG => whole_Sub.calls k _ _ _ W hG h5
 have hs' : (s ≤ 0) = False := by simp [hs]
 replace hla := Lib.hid hla
 replace h1 := Lib.hid h1
 replace h2 := Lib.hid h2
 replace h3 := Lib.hid h3
 replace h4 := Lib.hid h4
 replace h5 := Lib.hid h5
 replace h6 := Lib.hid h6
 replace hG := Lib.hid hG
 replace hl := Lib.hid hl
 replace hm := Lib.hid hm
 replace c1 := Lib.hid c1
 replace c2 := Lib.hid c2
 replace c3 := Lib.hid c3
 replace c5 := Lib.hid c5
 have hw64 : wrap64 (m : Int) = m := w64 (by omega) (by have := hm.out; have := hl.out; omega)
 have hmlt : (m : Int) < (m : Int) + 1 := by omega
 gi_wp2_with (first
  | (gi_at_call 40; refine (callsIn_wide.2 (c1.out _ (hG.out.below ((Below.refl _ _).alloc (Nat.le_refl _) _)))).mono ?_; rintro e W1 ⟨rfl, H1⟩; have b1 := (H1.block _ (by simp)).trans (World.alloc_heap_new w (.cells #[.string x1, .string x2] 24)); obtain ⟨y1, y2⟩ := two_cells b1; replace H1 := Lib.hid H1; replace b1 := Lib.hid b1)
  | (gi_at_call 64; refine (callsIn_wide.2 (c2.out _)).mono ?_; rintro e W2 ⟨rfl, H2⟩; have b2 := (H2.block _ (Array.getElem?_eq_some_iff.1 b1.out).1).trans b1.out; obtain ⟨z1, z2⟩ := two_cells (heap_alloc_some b2 (.cells #[.pointer none, .slice none 0 0] 93)); have B2 : Below w.heap.size w W2 := (((Below.refl _ w).alloc (Nat.le_refl _) _).trans (H1.out.mono (by simp))).trans (H2.mono (by have := H1.out.size; simp at this; omega)); replace H2 := Lib.hid H2; replace b2 := Lib.hid b2; replace B2 := Lib.hid B2)
  | (gi_at_call 46; refine (callsIn_wide.2 (c3.out _ (hG.out.below (B2.out.alloc B2.out.size _)))).mono ?_; rintro e W3 ⟨g, cap, cur, rfl, hg, hh, hc, H3⟩; have hca := cell_of_row W3 g m _ _ _ hh; rw [hc m a hla.out] at hca; replace H3 := Lib.hid H3; replace hg := Lib.hid hg; replace hh := Lib.hid hh; replace hc := Lib.hid hc)
  | (gi_at_call 65; refine (callsIn_wide.2 (c5.out _ (hG.out.below ((B2.out.alloc B2.out.size _).trans (H3.out.mono (by have := B2.out.size; simp; omega)))))).mono ?_; rintro e W4 ⟨rfl, H4⟩; have hh4 := (H4.block _ (Array.getElem?_eq_some_iff.1 hh.out).1).trans hh.out; have hca4 := cell_of_row W4 g m _ _ _ hh4; rw [hc.out m a hla.out] at hca4; have hfz4 := frozen0 (j := m) hh4; replace hh4 := Lib.hid hh4; replace H4 := Lib.hid H4))
 have s2 := (Array.getElem?_eq_some_iff.1 b2.out).1
 have B3 : Below w.heap.size w W3 := (B2.out.alloc B2.out.size _).trans (H3.out.mono (by have := B2.out.size; simp; omega))
 have B4 : Below w.heap.size w W4 := B3.trans (H4.out.mono B3.size)
 have hg' : w.heap.size + 1 ≤ g := by have h := hg.out; have := B2.out.size; rw [World.size_alloc] at h; omega
 have B5 : Below w.heap.size w (W4.setCell ⟨g, m, none⟩ (.string a')) := B4.setCell (p := ⟨g, m, none⟩) (by simp only; omega) _
 have hbl : Lib.IsBuilderF 93 5 w.heap.size W2.heap.size (Lib.byteCells []) (W4.setCell ⟨g, m, none⟩ (.string a')) := by
  left
  refine ⟨B2.out.size, _, ?_, World.ownsRowF_nil _ _ _ _, by simp [Value.ownBlock]⟩
  rw [Below.heap_setCell _ _ _ _ (by have h := hg.out; rw [World.size_alloc] at h; simp only; omega), H4.out.block _ (by have h := H3.out.size; rw [World.size_alloc] at h; omega), H3.out.block _ (by simp)]
  exact World.alloc_heap_new _ _
 have hrow : (W4.setCell ⟨g, m, none⟩ (.string a')).heap[g]? = some (.cells (cur.setIfInBounds m (.string a')) 22 (0, 0)) := by
  simp [World.setCell, Array.getElem_modify, (Array.getElem?_eq_some_iff.1 hh4.out).1, (Array.getElem?_eq_some_iff.1 hh4.out).2]
 have hdl : l.dropLast.length = m := by rw [List.length_dropLast, hm.out]; omega
 have hLl : (l.dropLast ++ [a']).length = m + 1 := by simp [hdl]
 have hcur : ∀ (k : Nat) (x : ByteArray), (l.dropLast ++ [a'])[k]? = some x → (cur.setIfInBounds m (.string a'))[k]? = some (.string x) := by
  intro k x hx
  rw [Array.getElem?_setIfInBounds]
  rcases Nat.lt_trichotomy k m with h | h | h
  ·rw [if_neg (by omega)]
   rw [List.getElem?_append_left (by omega), List.getElem?_dropLast, if_pos (by rw [hm.out]; omega)] at hx
   exact hc.out k x hx
  ·subst h
   rw [List.getElem?_append_right (by omega), hdl] at hx
   simp at hx
   subst hx
   rw [if_pos rfl, if_pos (by have := hc.out k a hla.out; exact (Array.getElem?_eq_some_iff.1 this).1)]
  ·rw [List.getElem?_eq_none (by omega)] at hx
   cases hx
 have h6' := h6.out
 generalize l.dropLast ++ [a'] = L at *
 generalize cur.setIfInBounds m (.string a') = cur2 at *
 gi_loopw [33] (fun v wr => PathR L r w.heap.size W2.heap.size g cur2 w v wr) (fun v _ => PathM L v)
 case atStart => exact ⟨0, [], rfl, Nat.zero_le _, by simpa using h6', by simp, hbl, hrow, B5⟩
 case round =>
  clear hbl hrow B5 B4 B3 h6' hca hca4 hfz4 H1 H2 H3 H4 hh hh4 hc y1 y2 z1 z2
  obtain ⟨i, acc, rfl, hi, hp, hacc, hbd, hrw, hBw⟩ := hrel
  have hlen := Tryz.Builder_Len_f w.heap.size W2.heap.size (Lib.byteCells acc)
  rcases Nat.lt_or_ge i L.length with hlt | hge
  ·obtain ⟨x, hx⟩ : ∃ x, L[i]? = some x := ⟨_, List.getElem?_eq_getElem hlt⟩
   have hdr : L.drop i = x :: L.drop (i + 1) := by
    rw [List.drop_eq_getElem_cons hlt]
    congr 1
    rw [List.getElem?_eq_getElem hlt] at hx
    exact Option.some.inj hx
   rw [hdr, pathl] at hp
   obtain ⟨q, hq, hp⟩ := Option.bind_eq_some_iff.1 hp
   have hcx := cell_of_row wr g i _ _ _ hrw
   rw [hcur i x hx] at hcx
   have cS := fun W => whole_Small.calls x q.1 q.2 W hq
   have hii : (i : Int) < (m : Int) + 1 := by omega
   replace cS := Lib.hid cS
   replace hq := Lib.hid hq
   replace hcur := Lib.hid hcur
   replace hdr := Lib.hid hdr
   replace hx := Lib.hid hx
   replace hlt := Lib.hid hlt
   replace hrw := Lib.hid hrw
   replace hbd := Lib.hid hbd
   replace hBw := Lib.hid hBw
   replace hlen := Lib.hid hlen
   replace hi := Lib.hid hi
   replace hLl := Lib.hid hLl
   replace hdl := Lib.hid hdl
   replace hg' := Lib.hid hg'
   replace s2 := Lib.hid s2
   obtain ⟨n, ok⟩ := q
   cases ok with
   | false =>
    rw [if_pos (.inl rfl)] at hp
    obtain rfl := Option.some.inj hp
    gi_wp2_with (first
     | (gi_at_call 66; refine (callsIn_wide.2 (cS.out _)).mono ?_; rintro e W6 ⟨rfl, H6⟩; replace H6 := Lib.hid H6))
    go_ret2
    exact ⟨rfl, hBw.out.trans (H6.out.mono hBw.out.size)⟩
   | true =>
    have hla2 : (Lib.byteCells acc).length = acc.length := by simp [Lib.byteCells]
    have hws : wrap64 (1000 - (acc.length : Int)) = 1000 - (acc.length : Int) := w64 (by omega) (by omega)
    by_cases hn : 1000 - (acc.length : Int) < n
    ·rw [if_pos (.inr hn)] at hp
     obtain rfl := Option.some.inj hp
     gi_wp2_with (first
      | (gi_at_call 66; refine (callsIn_wide.2 (cS.out _)).mono ?_; rintro e W6 ⟨rfl, H6⟩; replace H6 := Lib.hid H6)
      | (gi_at_call 67; refine (callsIn_wide.2 (hlen.out _ (bld_below hbd.out H6.out))).mono ?_; rintro e W7 ⟨rfl, rfl⟩; rw [hla2]))
     go_ret2
     exact ⟨rfl, hBw.out.trans (H6.out.mono hBw.out.size)⟩
    ·rw [if_neg (by simp; omega)] at hp
     simp only at hp
     by_cases hn0 : n < 0
     ·rw [if_pos hn0] at hp; cases hp
     rw [if_neg hn0] at hp
     have hR : strings_Repeat.f ⟨#[if i % 2 = 0 then 82 else 76]⟩ n = some ⟨(Lib.repeatL [if i % 2 = 0 then 82 else 76] n.toNat).toArray⟩ := by
      unfold strings_Repeat.f
      rw [if_pos ⟨by omega, by omega, by show 1 * _ ≤ _; omega⟩]
     have hrl := repeat_one (if i % 2 = 0 then (82 : UInt8) else 76) n.toNat
     have hext : ((⟨#[82, 76]⟩ : ByteArray).extract (i % 2) (i % 2 + 1)) = ⟨#[if i % 2 = 0 then 82 else 76]⟩ := by
      rcases Nat.mod_two_eq_zero_or_one i with h | h <;> rw [h] <;> rfl
     replace hext := Lib.hid hext
     replace hR := Lib.hid hR
     have hrl := Lib.hid hrl
     have cR := fun W => strings_Repeat.calls _ _ _ W hR
     replace cR := Lib.hid cR
     gi_wp2_with (first
      | (gi_at_call 66; refine (callsIn_wide.2 (cS.out _)).mono ?_; rintro e W6 ⟨rfl, H6⟩; replace H6 := Lib.hid H6)
      | (gi_at_call 67; refine (callsIn_wide.2 (hlen.out _ (bld_below hbd.out H6.out))).mono ?_; rintro e W7 ⟨rfl, rfl⟩; rw [hla2])
      | (gi_at_call 69; rw [hext.out]; refine (callsIn_wide.2 (cR.out _)).mono ?_; rintro e W8 ⟨rfl, H8⟩; replace H8 := Lib.hid H8)
      | (gi_at_call 68; refine (callsIn_wide.2 (bWrite w.heap.size W2.heap.size _ _ _ (bld_below (bld_below hbd.out H6.out) H8.out) (by rw [hla2]; show _ + (Lib.repeatL _ _).length ≤ _; rw [hrl.out]; omega) (by have := hBw.out.size; have := H6.out.size; have := H8.out.size; omega))).mono ?_; rintro e W9 ⟨rfl, H9, H10, H11⟩; replace H9 := Lib.hid H9; replace H10 := Lib.hid H10; replace H11 := Lib.hid H11))
     have hw2 : wrap64 ((i : Int) + 1) = ((i + 1 : Nat) : Int) := by rw [w64 (by omega) (by have := hm.out; have := hl.out; omega)]; omega
     rw [hw2]
     have k6 := hrw.out
     have k7 := (H6.out.block _ (Array.getElem?_eq_some_iff.1 k6).1).trans k6
     have k8 := (H8.out.block _ (Array.getElem?_eq_some_iff.1 k7).1).trans k7
     refine ⟨⟨i + 1, _, rfl, hlt.out, hp, ?_, .inr ?_, H11.out g _ k8 (fun e => ?_) (fun c fz e => ?_), ?_⟩, ?_⟩
     ·rw [List.length_append, hrl.out]; omega
     ·have e : Lib.byteCells (acc ++ Lib.repeatL [if i % 2 = 0 then (82 : UInt8) else 76] n.toNat) = Lib.byteCells acc ++ Lib.strCells ⟨(Lib.repeatL [if i % 2 = 0 then (82 : UInt8) else 76] n.toNat).toArray⟩ := by simp [Lib.byteCells, Lib.strCells]
      rw [e]
      exact H9.out
     ·have h := hg.out
      rw [World.size_alloc] at h
      have := Option.some.inj e
      omega
     ·cases e
     ·have h1 := hBw.out
      have h2 := h1.trans (H6.out.mono h1.size)
      exact (h2.trans (H8.out.mono h2.size)).trans H10.out
     ·exact pathM_lt hlt.out
  ·have : i = m + 1 := by omega
   subst this
   rw [List.drop_eq_nil_iff.2 hge, pathl] at hp
   obtain rfl := Option.some.inj hp
   have cSt := Tryz.Builder_String_any_k w.heap.size W2.heap.size acc _ hbd hBw.size
   gi_wp2_with (first
    | (gi_at_call 70; refine (callsIn_wide.2 cSt).mono ?_; rintro e W6 ⟨rfl, H6, H7, H8⟩; replace H6 := Lib.hid H6; replace H7 := Lib.hid H7; replace H8 := Lib.hid H8))
   go_ret2
   exact ⟨rfl, hBw.trans H7.out⟩
theorem path_wrong (k : Nat) (x1 x2 : ByteArray) (w : World) (hG : GWorld w) (h1 : convergent_wrong.f k x1 x2 = some true) :
  Calls Tryz.prog 32 #[.agg #[.string x1, .string x2]] w fun e w' => e = .returned (.tuple #[.string ⟨#[]⟩, .int .i64 2]) ∧ Below w.heap.size w w' := by
 have c1 := fun W hG => convergent_wrong.calls k _ _ _ W hG h1
 refine (callsIn_wide (n := 0)).1 (callsIn_of_wp Tryz.func32 rfl trivial ?_ rfl)
 simp only [Tryz.ntmps32, List.size_toArray, List.length_cons, List.length_nil, Nat.reduceAdd, Nat.reduceSub, Array.replicate_succ, Array.replicate_zero, List.push_toArray, List.append_toArray, List.nil_append, List.cons_append]
 replace h1 := Lib.hid h1
 replace hG := Lib.hid hG
 replace c1 := Lib.hid c1
 gi_wp2_with (gi_at_call 40; refine (callsIn_wide.2 (c1.out _ (hG.out.below ((Below.refl _ _).alloc (Nat.le_refl _) _)))).mono ?_; rintro e W1 ⟨rfl, H1⟩; replace H1 := Lib.hid H1)
 go_ret2
 exact ⟨rfl, ((Below.refl _ w).alloc (Nat.le_refl _) _).trans (H1.out.mono (by simp))⟩
theorem path_sign (k : Nat) (x1 x2 : ByteArray) (w : World) (hG : GWorld w) (s : Int) (h1 : convergent_wrong.f k x1 x2 = some false) (h2 : fraction_Sign.f x1 x2 = some s) (hs : s ≤ 0) :
  Calls Tryz.prog 32 #[.agg #[.string x1, .string x2]] w fun e w' => e = .returned (.tuple #[.string ⟨#[]⟩, .int .i64 3]) ∧ Below w.heap.size w w' := by
 have c1 := fun W hG => convergent_wrong.calls k _ _ _ W hG h1
 have c2 := fun W => fraction_Sign.calls _ _ _ W h2
 refine (callsIn_wide (n := 0)).1 (callsIn_of_wp Tryz.func32 rfl trivial ?_ rfl)
 simp only [Tryz.ntmps32, List.size_toArray, List.length_cons, List.length_nil, Nat.reduceAdd, Nat.reduceSub, Array.replicate_succ, Array.replicate_zero, List.push_toArray, List.append_toArray, List.nil_append, List.cons_append]
 replace h1 := Lib.hid h1
 replace h2 := Lib.hid h2
 replace hG := Lib.hid hG
 replace c1 := Lib.hid c1
 replace c2 := Lib.hid c2
 gi_wp2_with (first
  | (gi_at_call 40; refine (callsIn_wide.2 (c1.out _ (hG.out.below ((Below.refl _ _).alloc (Nat.le_refl _) _)))).mono ?_; rintro e W1 ⟨rfl, H1⟩; have b1 := (H1.block _ (by simp)).trans (World.alloc_heap_new w (.cells #[.string x1, .string x2] 24)); obtain ⟨y1, y2⟩ := two_cells b1; replace H1 := Lib.hid H1; replace b1 := Lib.hid b1)
  | (gi_at_call 64; refine (callsIn_wide.2 (c2.out _)).mono ?_; rintro e W2 ⟨rfl, H2⟩; replace H2 := Lib.hid H2))
 go_ret2
 exact ⟨rfl, (((Below.refl _ w).alloc (Nat.le_refl _) _).trans (H1.out.mono (by simp))).trans (H2.out.mono (by have h := H1.out.size; rw [World.size_alloc] at h; omega))⟩
theorem PF.convergent_Path.calls (k : Nat) (a0_0 a0_1 : ByteArray) (r1 : ByteArray) (r2 : Int) (w : World) (hG_ : GWorld w) (h : convergent_Path.f k a0_0 a0_1 = some (r1, r2)) :
  Calls Tryz.prog 32 #[.agg #[.string a0_0, .string a0_1]] w fun e w' => e = .returned (.tuple #[.string r1, .int .i64 r2]) ∧ Below w.heap.size w w' := by
 unfold convergent_Path.f at h
 obtain ⟨b, h1, h⟩ := Option.bind_eq_some_iff.1 h
 by_cases hb : b = true
 ·rw [if_pos hb] at h
  subst hb
  obtain ⟨rfl, rfl⟩ := Prod.mk.inj (Option.some.inj h)
  exact path_wrong k _ _ w hG_ h1
 ·rw [if_neg hb] at h
  have hb : b = false := by simpa using hb
  subst hb
  obtain ⟨s, h2, h⟩ := Option.bind_eq_some_iff.1 h
  by_cases hs : s ≤ 0
  ·rw [if_pos hs] at h
   obtain ⟨rfl, rfl⟩ := Prod.mk.inj (Option.some.inj h)
   exact path_sign k _ _ w hG_ s h1 h2 hs
  ·rw [if_neg hs] at h
   obtain ⟨l, h3, h⟩ := Option.bind_eq_some_iff.1 h
   cases hl : l.getLast? with
   | none => rw [hl] at h; cases h
   | some a =>
    rw [hl] at h
    simp only at h
    obtain ⟨a', h4, h⟩ := Option.bind_eq_some_iff.1 h
    exact path_walk k _ _ l a a' (r1, r2) w hG_ s h1 h2 hs h3 (terms_len h3) hl h4 h
end Go.Proofs.YtidajgkepdkcbaaGreatDoor
end
section
namespace Go.Proofs.YtidajgkepdkcbaaGreatDoor
open Go.RowKit Go.Lib Go.Proofs.YtidajgkepdkcbaaGreatDoorW.PrintWords Go.Proofs.YtidajgkepdkcbaaGreatDoorW.PrintLast Go.Proofs.YtidajgkepdkcbaaGreatDoorW.PrintMore PF
attribute [local go_sem] Oper.semAt_some wide_fn2 wide_depth2
def sf (y : Int × Int) : PF.S24 := ⟨T y.1, T y.2⟩
theorem fcells_at : ∀ (l : List (Int × Int)) (k : Nat) (y : Int × Int), l[k]? = some y → ((fcells l).drop (k * 2)).take 2 = [.string (T y.1), .string (T y.2)]
 | [], _, _, h => by simp at h
 | z :: l, 0, y, h => by simp at h; subst h; simp [fcells]
 | z :: l, k + 1, y, h => by
  have := fcells_at l k y (by simpa using h)
  rw [show (k + 1) * 2 = k * 2 + 1 + 1 by omega]
  simpa [fcells] using this
theorem R_of_row {w : World} {base : Nat} {v : Value} {l : List (Int × Int)} (h : w.ownsRow base 24 2 v l.length (fcells l)) : Kd.R k24 24 w base (fun _ => True) v (l.map sf) := by
 refine ⟨fun _ _ => trivial, fcells l, by rw [List.length_map]; exact h, by rw [fcells_len, List.length_map]; rfl, fun k x hx => ?_⟩
 rw [List.getElem?_map] at hx
 obtain ⟨y, hy, rfl⟩ := Option.map_eq_some_iff.1 hx
 have := fcells_at l k y hy
 show k24.M w base _ (sf y) (((fcells l).drop (k * 2)).take 2)
 rw [this]
 exact k24_mkM _ _ _ (sf y)
structure BestOk (x1 x2 : ByteArray) (bound : Int) (p : Int × Int × List Int) : Prop where
 e1 : x1 = T p.1
 e2 : x2 = T p.2.1
 n1 : -1000000 < p.1
 n2 : p.1 < 10000000
 fr : Fr p.1 p.2.1
 d2 : p.2.1 < 10000000
 b1 : 1 ≤ bound
 b2 : bound ≤ 60
 ts : isCf p.2.2 p.1 p.2.1
 tl : p.2.2.length ≤ 1000
def bestRow (n d bound : Int) (ts : List Int) : List (Int × Int) := (semis half bound true CS.begin ts).foldl (bstep n d) []
namespace PF
open Classical in
noncomputable def convergent_Best.f (k : Nat) (x1 x2 : ByteArray) (bound : Int) : Option (List S24 × Int) :=
 if h : ∃ p, BestOk x1 x2 bound p then some ((bestRow h.choose.1 h.choose.2.1 bound h.choose.2.2).map sf, 0) else (convergent_bounded.f k x1 x2 bound).bind fun e => if e = 0 then none else some ([], e)
end PF
theorem Best_yes {n d bound : Int} {ts : List Int} (h : BestOk (T n) (T d) bound (n, d, ts)) (k : Nat) : convergent_Best.f k (T n) (T d) bound = some ((bestRow n d bound ts).map sf, 0) := by
 unfold convergent_Best.f
 have hc : ∃ p, BestOk (T n) (T d) bound p := ⟨_, h⟩
 rw [dif_pos hc]
 have hs := hc.choose_spec
 have e1 := T_inj hs.e1
 have e2 := T_inj hs.e2
 have e3 : hc.choose.2.2 = ts := hs.ts.unique (by rw [← e1, ← e2]; exact h.ts)
 rw [e3, ← e1, ← e2]
set_option maxRecDepth 100000 in
set_option maxHeartbeats 4000000 in
theorem best_err (k : Nat) (x1 x2 : ByteArray) (bound e : Int) (w : World) (hG : GWorld w) (h : convergent_bounded.f k x1 x2 bound = some e) (he : e ≠ 0) :
  Calls Tryz.prog 28 #[.agg #[.string x1, .string x2], .int .i64 bound] w fun e' w' => e' = .returned (.tuple #[.slice none 0 0, .int .i64 e]) ∧ Below w.heap.size w w' := by
 have c1 := fun W hG => convergent_bounded.calls k _ _ _ _ W hG h
 have c0 := three_alloc (w := w) (W1 := ((w.alloc (.cells #[.string x1, .string x2] 24)).alloc (.cells #[.slice none 0 0] 37)).alloc (.cells #[.int .i64 0] 26)) (Below.refl _ _)
 refine (callsIn_wide (n := 0)).1 (callsIn_of_wp Tryz.func28 rfl trivial ?_ rfl)
 simp only [Tryz.ntmps28, List.size_toArray, List.length_cons, List.length_nil, Nat.reduceAdd, Nat.reduceSub, Array.replicate_succ, Array.replicate_zero, List.push_toArray, List.append_toArray, List.nil_append, List.cons_append]
 replace c1 := Lib.hid c1
 replace c0 := Lib.hid c0
 replace h := Lib.hid h
 replace hG := Lib.hid hG
 gi_wp2_with (gi_at_call 51; refine (callsIn_wide.2 (c1.out _ (hG.out.below c0.out.2.2.2.1))).mono ?_; rintro e' W1 ⟨rfl, H1⟩; obtain ⟨x1', x2', x3', HB1, hz1⟩ := three_alloc H1; have q2 := cell0 x2'; have q3 := cell0 x3'; have q4 := frozen0 (j := 0) x2'; have q5 := frozen0 (j := 0) x3'; replace H1 := Lib.hid H1; replace HB1 := Lib.hid HB1; replace x1' := Lib.hid x1'; replace x2' := Lib.hid x2'; replace x3' := Lib.hid x3'; replace hz1 := Lib.hid hz1)
 have hc5 : ((W1.setCell ⟨w.heap.size + 1, 0, none⟩ (.slice none 0 0)).setCell ⟨w.heap.size + 1 + 1, 0, none⟩ (.int .i64 e)).cell? ⟨w.heap.size + 1, 0, none⟩ = some (.slice none 0 0) := by
  rw [World.cell?_of_block (w := W1.setCell ⟨w.heap.size + 1, 0, none⟩ (.slice none 0 0)) (Below.heap_setCell _ _ _ _ (by simp only; omega))]
  exact World.cell?_setCell_same' _ _ _ (by rw [q2]; rfl)
 have hc6 : ((W1.setCell ⟨w.heap.size + 1, 0, none⟩ (.slice none 0 0)).setCell ⟨w.heap.size + 1 + 1, 0, none⟩ (.int .i64 e)).cell? ⟨w.heap.size + 1 + 1, 0, none⟩ = some (.int .i64 e) := by
  refine World.cell?_setCell_same' _ _ _ ?_
  rw [World.cell?_of_block (w := W1) (Below.heap_setCell _ _ _ _ (by simp only; omega)), q3]; rfl
 refine ⟨rfl, .tuple #[.slice none 0 0, .int .i64 e], ?_, rfl, ?_⟩
 ·simp [results, Tryz.f28, go_sem, hc5, hc6]
 ·exact (HB1.out.setCell (p := ⟨w.heap.size + 1, 0, none⟩) (by simp) _).setCell (p := ⟨w.heap.size + 1 + 1, 0, none⟩) (by simp only; omega) _
theorem PF.convergent_Best.calls (k : Nat) (a0_0 a0_1 : ByteArray) (a1 : Int) (r1 : List S24) (r2 : Int) (w : World) (hG_ : GWorld w) (h : convergent_Best.f k a0_0 a0_1 a1 = some (r1, r2)) :
  Calls Tryz.prog 28 #[.agg #[.string a0_0, .string a0_1], .int .i64 a1] w fun e w' => ∃ v0_ : Value, e = .returned (.tuple #[v0_, .int .i64 r2]) ∧ Kd.R k24 24 w' w.heap.size (fun _ => True) v0_ r1 ∧ Below w.heap.size w w' := by
 unfold convergent_Best.f at h
 by_cases hc : ∃ p, BestOk a0_0 a0_1 a1 p
 ·rw [dif_pos hc] at h
  have hs := hc.choose_spec
  obtain ⟨rfl, rfl⟩ := Prod.mk.inj (Option.some.inj h)
  generalize hc.choose = p at *
  obtain ⟨n, d, ts⟩ := p
  obtain ⟨e1, e2, n1, n2, hF, d2, b1, b2, hts, htl⟩ := hs
  simp only at e1 e2 n1 n2 hF d2 hts htl
  subst e1 e2
  refine (callsIn_wide (n := 0)).1 ((best_walk n1 n2 hF d2 b1 b2 hts htl w hG_).mono ?_)
  rintro e w' ⟨v, rfl, hrow, hB⟩
  exact ⟨v, rfl, R_of_row hrow, hB⟩
 ·rw [dif_neg hc] at h
  obtain ⟨e, h1, h⟩ := Option.bind_eq_some_iff.1 h
  by_cases he : e = 0
  ·rw [if_pos he] at h; cases h
  ·rw [if_neg he] at h
   obtain ⟨rfl, rfl⟩ := Prod.mk.inj (Option.some.inj h)
   refine (best_err k _ _ _ _ w hG_ h1 he).mono ?_
   rintro e' w' ⟨rfl, hB⟩
   exact ⟨_, rfl, Kd.R_nil _ _ _ _ _, hB⟩
end Go.Proofs.YtidajgkepdkcbaaGreatDoor
end
section
namespace Go.Proofs.YtidajgkepdkcbaaGreatDoor.PL
open Go.RowKit Go.Proofs.YtidajgkepdkcbaaGreatDoorW.PrintWords Go.Proofs.YtidajgkepdkcbaaGreatDoorW.PrintLast Go.Proofs.YtidajgkepdkcbaaGreatDoorW.PrintMore Go.Proofs.YtidajgkepdkcbaaGreatDoor.PF
attribute [local go_sem] max2_int min2_int max_two min_two max_three min_three max_four min_four
theorem info24 : (Tryz.prog.info? 24).map (fun i => (i.zero, i.size, i.bytes)) = some (some (.agg #[(.string ⟨#[]⟩), (.string ⟨#[]⟩)]), 2, 32) := by kernel_rfl
end Go.Proofs.YtidajgkepdkcbaaGreatDoor.PL
end
section
namespace Go.Proofs.YtidajgkepdkcbaaGreatDoor.PL
open Go.RowKit Go.Proofs.YtidajgkepdkcbaaGreatDoorW.PrintWords Go.Proofs.YtidajgkepdkcbaaGreatDoorW.PrintLast Go.Proofs.YtidajgkepdkcbaaGreatDoorW.PrintMore Go.Proofs.YtidajgkepdkcbaaGreatDoor.PF
attribute [local go_sem] max2_int min2_int max_two min_two max_three min_three max_four min_four
noncomputable def schismalaw04_known.f (k : Nat)  : Option (Bool) := (schismaref04_Make.f k 7 12).bind fun bt101 => ((convergent_Terms.f k bt101.1 bt101.2).bind fun bt104 => ((schismaref04_Make.f k 3 5).bind fun bt108 => ((convergent_Path.f k bt108.1 bt108.2).bind fun bt110 => ((convergent_Best.f k bt101.1 bt101.2 7).bind fun bt112 => (if bt104.2 = 0 then ((schismalaw04_ints.f k bt104.1 (([0, 1, 1, 2, 2] : List Int))).bind fun t119 => (if t119 = true then (if bt110.2 = 0 then (if bt110.1.toList = ([76, 82, 76] : List UInt8) then (if bt112.2 = 0 then ((schismaref04_Make.f k 1 1).bind fun bt120 => ((schismaref04_Make.f k 1 2).bind fun bt122 => ((schismaref04_Make.f k 3 5).bind fun bt124 => ((schismaref04_Make.f k 4 7).bind fun bt126 => ((schismalaw04_same.f k bt112.1 (([(⟨bt120.1, bt120.2⟩ : S24), (⟨bt122.1, bt122.2⟩ : S24), (⟨bt124.1, bt124.2⟩ : S24), (⟨bt126.1, bt126.2⟩ : S24)] : List (S24)))).bind fun t131 => (some t131)))))) else (some false)) else (some false)) else (some false)) else (some false))) else (some false))))))
set_option maxHeartbeats 8000000 in
set_option maxRecDepth 100000 in
theorem schismalaw04_known.calls (k : Nat)  (r : Bool) (w : World) (hG_ : GWorld w) (h : schismalaw04_known.f k  = some r) :
  Calls Tryz.prog 13 #[] w fun e w' => e = .returned (.bool r) ∧ Below w.heap.size w w' := by
 have hu24 := Tryz.underlying24
 have HB := Aside0.mk (Below.refl w.heap.size w)
 have HG := Aside0.mk hG_
 clear hG_
 have H : ((schismaref04_Make.f k 7 12).bind fun bt101 => ((convergent_Terms.f k bt101.1 bt101.2).bind fun bt104 => ((schismaref04_Make.f k 3 5).bind fun bt108 => ((convergent_Path.f k bt108.1 bt108.2).bind fun bt110 => ((convergent_Best.f k bt101.1 bt101.2 7).bind fun bt112 => (if bt104.2 = 0 then ((schismalaw04_ints.f k bt104.1 (([0, 1, 1, 2, 2] : List Int))).bind fun t119 => (if t119 = true then (if bt110.2 = 0 then (if bt110.1.toList = ([76, 82, 76] : List UInt8) then (if bt112.2 = 0 then ((schismaref04_Make.f k 1 1).bind fun bt120 => ((schismaref04_Make.f k 1 2).bind fun bt122 => ((schismaref04_Make.f k 3 5).bind fun bt124 => ((schismaref04_Make.f k 4 7).bind fun bt126 => ((schismalaw04_same.f k bt112.1 (([(⟨bt120.1, bt120.2⟩ : S24), (⟨bt122.1, bt122.2⟩ : S24), (⟨bt124.1, bt124.2⟩ : S24), (⟨bt126.1, bt126.2⟩ : S24)] : List (S24)))).bind fun t131 => (some t131)))))) else (some false)) else (some false)) else (some false)) else (some false))) else (some false))))))) = some r := h
 clear h
 replace H := Option.bind_eq_some_iff.mp H
 obtain ⟨⟨t101, t102⟩, A10, H⟩ := H
 replace H : ((convergent_Terms.f k t101 t102).bind fun bt104 => ((schismaref04_Make.f k 3 5).bind fun bt108 => ((convergent_Path.f k bt108.1 bt108.2).bind fun bt110 => ((convergent_Best.f k t101 t102 7).bind fun bt112 => (if bt104.2 = 0 then ((schismalaw04_ints.f k bt104.1 (([0, 1, 1, 2, 2] : List Int))).bind fun t119 => (if t119 = true then (if bt110.2 = 0 then (if bt110.1.toList = ([76, 82, 76] : List UInt8) then (if bt112.2 = 0 then ((schismaref04_Make.f k 1 1).bind fun bt120 => ((schismaref04_Make.f k 1 2).bind fun bt122 => ((schismaref04_Make.f k 3 5).bind fun bt124 => ((schismaref04_Make.f k 4 7).bind fun bt126 => ((schismalaw04_same.f k bt112.1 (([(⟨bt120.1, bt120.2⟩ : S24), (⟨bt122.1, bt122.2⟩ : S24), (⟨bt124.1, bt124.2⟩ : S24), (⟨bt126.1, bt126.2⟩ : S24)] : List (S24)))).bind fun t131 => (some t131)))))) else (some false)) else (some false)) else (some false)) else (some false))) else (some false)))))) = some r := H
 have A1 := Aside0.mk A10
 clear A10
 replace H := Option.bind_eq_some_iff.mp H
 obtain ⟨⟨t104, t107⟩, A20, H⟩ := H
 replace H : ((schismaref04_Make.f k 3 5).bind fun bt108 => ((convergent_Path.f k bt108.1 bt108.2).bind fun bt110 => ((convergent_Best.f k t101 t102 7).bind fun bt112 => (if t107 = 0 then ((schismalaw04_ints.f k t104 (([0, 1, 1, 2, 2] : List Int))).bind fun t119 => (if t119 = true then (if bt110.2 = 0 then (if bt110.1.toList = ([76, 82, 76] : List UInt8) then (if bt112.2 = 0 then ((schismaref04_Make.f k 1 1).bind fun bt120 => ((schismaref04_Make.f k 1 2).bind fun bt122 => ((schismaref04_Make.f k 3 5).bind fun bt124 => ((schismaref04_Make.f k 4 7).bind fun bt126 => ((schismalaw04_same.f k bt112.1 (([(⟨bt120.1, bt120.2⟩ : S24), (⟨bt122.1, bt122.2⟩ : S24), (⟨bt124.1, bt124.2⟩ : S24), (⟨bt126.1, bt126.2⟩ : S24)] : List (S24)))).bind fun t131 => (some t131)))))) else (some false)) else (some false)) else (some false)) else (some false))) else (some false))))) = some r := H
 have A2 := Aside0.mk A20
 clear A20
 replace H := Option.bind_eq_some_iff.mp H
 obtain ⟨⟨t108, t109⟩, A30, H⟩ := H
 replace H : ((convergent_Path.f k t108 t109).bind fun bt110 => ((convergent_Best.f k t101 t102 7).bind fun bt112 => (if t107 = 0 then ((schismalaw04_ints.f k t104 (([0, 1, 1, 2, 2] : List Int))).bind fun t119 => (if t119 = true then (if bt110.2 = 0 then (if bt110.1.toList = ([76, 82, 76] : List UInt8) then (if bt112.2 = 0 then ((schismaref04_Make.f k 1 1).bind fun bt120 => ((schismaref04_Make.f k 1 2).bind fun bt122 => ((schismaref04_Make.f k 3 5).bind fun bt124 => ((schismaref04_Make.f k 4 7).bind fun bt126 => ((schismalaw04_same.f k bt112.1 (([(⟨bt120.1, bt120.2⟩ : S24), (⟨bt122.1, bt122.2⟩ : S24), (⟨bt124.1, bt124.2⟩ : S24), (⟨bt126.1, bt126.2⟩ : S24)] : List (S24)))).bind fun t131 => (some t131)))))) else (some false)) else (some false)) else (some false)) else (some false))) else (some false)))) = some r := H
 have A3 := Aside0.mk A30
 clear A30
 replace H := Option.bind_eq_some_iff.mp H
 obtain ⟨⟨t110, t111⟩, A40, H⟩ := H
 replace H : ((convergent_Best.f k t101 t102 7).bind fun bt112 => (if t107 = 0 then ((schismalaw04_ints.f k t104 (([0, 1, 1, 2, 2] : List Int))).bind fun t119 => (if t119 = true then (if t111 = 0 then (if t110.toList = ([76, 82, 76] : List UInt8) then (if bt112.2 = 0 then ((schismaref04_Make.f k 1 1).bind fun bt120 => ((schismaref04_Make.f k 1 2).bind fun bt122 => ((schismaref04_Make.f k 3 5).bind fun bt124 => ((schismaref04_Make.f k 4 7).bind fun bt126 => ((schismalaw04_same.f k bt112.1 (([(⟨bt120.1, bt120.2⟩ : S24), (⟨bt122.1, bt122.2⟩ : S24), (⟨bt124.1, bt124.2⟩ : S24), (⟨bt126.1, bt126.2⟩ : S24)] : List (S24)))).bind fun t131 => (some t131)))))) else (some false)) else (some false)) else (some false)) else (some false))) else (some false))) = some r := H
 have A4 := Aside0.mk A40
 clear A40
 replace H := Option.bind_eq_some_iff.mp H
 obtain ⟨⟨t112, t115⟩, A50, H⟩ := H
 replace H : (if t107 = 0 then ((schismalaw04_ints.f k t104 (([0, 1, 1, 2, 2] : List Int))).bind fun t119 => (if t119 = true then (if t111 = 0 then (if t110.toList = ([76, 82, 76] : List UInt8) then (if t115 = 0 then ((schismaref04_Make.f k 1 1).bind fun bt120 => ((schismaref04_Make.f k 1 2).bind fun bt122 => ((schismaref04_Make.f k 3 5).bind fun bt124 => ((schismaref04_Make.f k 4 7).bind fun bt126 => ((schismalaw04_same.f k t112 (([(⟨bt120.1, bt120.2⟩ : S24), (⟨bt122.1, bt122.2⟩ : S24), (⟨bt124.1, bt124.2⟩ : S24), (⟨bt126.1, bt126.2⟩ : S24)] : List (S24)))).bind fun t131 => (some t131)))))) else (some false)) else (some false)) else (some false)) else (some false))) else (some false)) = some r := H
 have A5 := Aside0.mk A50
 clear A50
 by_cases c6 : t107 = 0
 ·rw [if_pos c6] at H
  have c6b0 : (t107 == 0) = true := beq_iff_eq.mpr c6
  have c6b1 : (t107 != 0) = false := bne_eq_false_iff_eq.mpr c6
  clear c6
  obtain ⟨y116, hy116⟩ : ∃ y_ : List Int, y_ = (([0, 1, 1, 2, 2] : List Int)) := ⟨_, rfl⟩
  replace H : ((schismalaw04_ints.f k t104 y116).bind fun t119 => (if t119 = true then (if t111 = 0 then (if t110.toList = ([76, 82, 76] : List UInt8) then (if t115 = 0 then ((schismaref04_Make.f k 1 1).bind fun bt120 => ((schismaref04_Make.f k 1 2).bind fun bt122 => ((schismaref04_Make.f k 3 5).bind fun bt124 => ((schismaref04_Make.f k 4 7).bind fun bt126 => ((schismalaw04_same.f k t112 (([(⟨bt120.1, bt120.2⟩ : S24), (⟨bt122.1, bt122.2⟩ : S24), (⟨bt124.1, bt124.2⟩ : S24), (⟨bt126.1, bt126.2⟩ : S24)] : List (S24)))).bind fun t131 => (some t131)))))) else (some false)) else (some false)) else (some false)) else (some false))) = some r := by first | (rw [hy116]; with_reducible exact H) | (have H2_ := (Option.bind_some _ _).symm.trans H; rw [hy116]; with_reducible exact H2_) | (have H2_ := (Option.bind_some _ _).symm.trans H; with_reducible exact H2_) | with_reducible exact H | (rw [hy116]; exact H) | exact H
  have Ny116 := Aside0.mk hy116
  clear hy116
  replace H := Option.bind_eq_some_iff.mp H
  obtain ⟨t119, A70, H⟩ := H
  replace H : (if t119 = true then (if t111 = 0 then (if t110.toList = ([76, 82, 76] : List UInt8) then (if t115 = 0 then ((schismaref04_Make.f k 1 1).bind fun bt120 => ((schismaref04_Make.f k 1 2).bind fun bt122 => ((schismaref04_Make.f k 3 5).bind fun bt124 => ((schismaref04_Make.f k 4 7).bind fun bt126 => ((schismalaw04_same.f k t112 (([(⟨bt120.1, bt120.2⟩ : S24), (⟨bt122.1, bt122.2⟩ : S24), (⟨bt124.1, bt124.2⟩ : S24), (⟨bt126.1, bt126.2⟩ : S24)] : List (S24)))).bind fun t131 => (some t131)))))) else (some false)) else (some false)) else (some false)) else (some false)) = some r := H
  have A7 := Aside0.mk A70
  clear A70
  by_cases c8 : t119 = true
  ·subst c8
   have H1 : (if t111 = 0 then (if t110.toList = ([76, 82, 76] : List UInt8) then (if t115 = 0 then ((schismaref04_Make.f k 1 1).bind fun bt120 => ((schismaref04_Make.f k 1 2).bind fun bt122 => ((schismaref04_Make.f k 3 5).bind fun bt124 => ((schismaref04_Make.f k 4 7).bind fun bt126 => ((schismalaw04_same.f k t112 (([(⟨bt120.1, bt120.2⟩ : S24), (⟨bt122.1, bt122.2⟩ : S24), (⟨bt124.1, bt124.2⟩ : S24), (⟨bt126.1, bt126.2⟩ : S24)] : List (S24)))).bind fun t131 => (some t131)))))) else (some false)) else (some false)) else (some false)) = some r := by rw [if_pos rfl] at H; exact H
   clear H
   have H := H1
   clear H1
   by_cases c9 : t111 = 0
   ·rw [if_pos c9] at H
    have c9b0 : (t111 == 0) = true := beq_iff_eq.mpr c9
    have c9b1 : (t111 != 0) = false := bne_eq_false_iff_eq.mpr c9
    clear c9
    by_cases c10 : t110.toList = ([76, 82, 76] : List UInt8)
    ·rw [if_pos c10] at H
     have c10b0 : (t110.toList == ([76, 82, 76] : List UInt8)) = true := beq_iff_eq.mpr c10
     have c10b1 : (t110.toList != ([76, 82, 76] : List UInt8)) = false := bne_eq_false_iff_eq.mpr c10
     clear c10
     by_cases c11 : t115 = 0
     ·rw [if_pos c11] at H
      have c11b0 : (t115 == 0) = true := beq_iff_eq.mpr c11
      have c11b1 : (t115 != 0) = false := bne_eq_false_iff_eq.mpr c11
      clear c11
      replace H := Option.bind_eq_some_iff.mp H
      obtain ⟨⟨t120, t121⟩, A120, H⟩ := H
      replace H : ((schismaref04_Make.f k 1 2).bind fun bt122 => ((schismaref04_Make.f k 3 5).bind fun bt124 => ((schismaref04_Make.f k 4 7).bind fun bt126 => ((schismalaw04_same.f k t112 (([(⟨t120, t121⟩ : S24), (⟨bt122.1, bt122.2⟩ : S24), (⟨bt124.1, bt124.2⟩ : S24), (⟨bt126.1, bt126.2⟩ : S24)] : List (S24)))).bind fun t131 => (some t131))))) = some r := H
      have A12 := Aside0.mk A120
      clear A120
      replace H := Option.bind_eq_some_iff.mp H
      obtain ⟨⟨t122, t123⟩, A130, H⟩ := H
      replace H : ((schismaref04_Make.f k 3 5).bind fun bt124 => ((schismaref04_Make.f k 4 7).bind fun bt126 => ((schismalaw04_same.f k t112 (([(⟨t120, t121⟩ : S24), (⟨t122, t123⟩ : S24), (⟨bt124.1, bt124.2⟩ : S24), (⟨bt126.1, bt126.2⟩ : S24)] : List (S24)))).bind fun t131 => (some t131)))) = some r := H
      have A13 := Aside0.mk A130
      clear A130
      replace H := Option.bind_eq_some_iff.mp H
      obtain ⟨⟨t124, t125⟩, A140, H⟩ := H
      replace H : ((schismaref04_Make.f k 4 7).bind fun bt126 => ((schismalaw04_same.f k t112 (([(⟨t120, t121⟩ : S24), (⟨t122, t123⟩ : S24), (⟨t124, t125⟩ : S24), (⟨bt126.1, bt126.2⟩ : S24)] : List (S24)))).bind fun t131 => (some t131))) = some r := H
      have A14 := Aside0.mk A140
      clear A140
      replace H := Option.bind_eq_some_iff.mp H
      obtain ⟨⟨t126, t127⟩, A150, H⟩ := H
      replace H : ((schismalaw04_same.f k t112 (([(⟨t120, t121⟩ : S24), (⟨t122, t123⟩ : S24), (⟨t124, t125⟩ : S24), (⟨t126, t127⟩ : S24)] : List (S24)))).bind fun t131 => (some t131)) = some r := H
      have A15 := Aside0.mk A150
      clear A150
      obtain ⟨y128, hy128⟩ : ∃ y_ : List (S24), y_ = (([(⟨t120, t121⟩ : S24), (⟨t122, t123⟩ : S24), (⟨t124, t125⟩ : S24), (⟨t126, t127⟩ : S24)] : List (S24))) := ⟨_, rfl⟩
      replace H : ((schismalaw04_same.f k t112 y128).bind fun t131 => (some t131)) = some r := by first | (rw [hy128]; with_reducible exact H) | (have H2_ := (Option.bind_some _ _).symm.trans H; rw [hy128]; with_reducible exact H2_) | (have H2_ := (Option.bind_some _ _).symm.trans H; with_reducible exact H2_) | with_reducible exact H | (rw [hy128]; exact H) | exact H
      have Ny128 := Aside0.mk hy128
      clear hy128
      replace H := Option.bind_eq_some_iff.mp H
      obtain ⟨t131, A160, H⟩ := H
      replace H : (some t131) = some r := H
      have A16 := Aside0.mk A160
      clear A160
      obtain rfl := Option.some.inj H
      go_enter Tryz.func13, Tryz.ntmps13
      go_wp2_with (first | ((with_reducible refine gate_callee (f := 17) rfl ?_); refine goesL_ (some 8) rfl rfl Tryz.func17 (by kernel_rfl) rfl #[.int .i64 7, .int .i64 12] rfl mp_ ?_; (with_reducible refine (schismaref04_Make.calls k 7 12 t101 t102 _ A1.out).mono ?_); rintro e w17 ⟨rfl, hb⟩; refine ⟨_, rfl, ?_⟩; replace HB := bs_ hb; (try clear hb); (try clear hb2); (try clear hk); (try clear hi)) | ((with_reducible refine gate_dst (N := 1) rfl ?_); (try (refine gate_guard (by rfl) ?_; dsimp only)); refine bx_ 1 #[.string (⟨#[]⟩ : ByteArray), .string (⟨#[]⟩ : ByteArray)] 24 ?_; clear HB; intro gb103 w18 BK103 GW103 HB; have GE103 := GW103; obtain ⟨hcz19_0, hcz19_1, hfz19_0, hfz19_1⟩ := c2_ BK103) | ((with_reducible refine gate_callee (f := 19) rfl ?_); refine goesL_ (some 11) rfl rfl Tryz.func19 (by kernel_rfl) rfl #[.agg #[.string t101, .string t102]] rfl mp_ ?_; (with_reducible refine (convergent_Terms.calls k t101 t102 t104 t107 _ ?side1 A2.out).mono ?_); (case side1 => exact gw_ HG); rintro e w20 ⟨v105, rfl, ho0, hb⟩; refine ⟨_, rfl, ?_⟩; have HO106 := Aside0.mk (Kd.R_lower ho0 (below_size bl_)); replace BK103 := Aside0.mk (blk_below (g := gb103) (o := .cells #[.string t101, .string t102] 24 (0, 0)) (by (with_reducible repeat (first | refine blk_drewN ?_ _ | refine blk_drew ?_ | refine blk_alloc ?_ _)); refine blk_put (cs := #[.string t101, .string (⟨#[]⟩ : ByteArray)]) ?_ 1 _ rfl; (with_reducible repeat (first | refine blk_drewN ?_ _ | refine blk_drew ?_ | refine blk_alloc ?_ _)); refine blk_put (cs := #[.string (⟨#[]⟩ : ByteArray), .string (⟨#[]⟩ : ByteArray)]) ?_ 0 _ rfl; (with_reducible repeat (first | refine blk_drewN ?_ _ | refine blk_drew ?_ | refine blk_alloc ?_ _)); exact BK103.out) hb); replace HB := bs_ hb; (try clear hb); (try clear hb2); (try clear hk); (try clear hi); (try clear ho0)) | ((with_reducible refine gate_callee (f := 17) rfl ?_); refine goesL_ (some 15) rfl rfl Tryz.func17 (by kernel_rfl) rfl #[.int .i64 3, .int .i64 5] rfl mp_ ?_; (with_reducible refine (schismaref04_Make.calls k 3 5 t108 t109 _ A3.out).mono ?_); rintro e w21 ⟨rfl, hb⟩; refine ⟨_, rfl, ?_⟩; replace HO106 := rb_ HO106 hb; replace BK103 := kb_ BK103 hb; replace HB := bs_ hb; (try clear hb); (try clear hb2); (try clear hk); (try clear hi)) | ((with_reducible refine gate_callee (f := 32) rfl ?_); refine goesL_ (some 16) rfl rfl Tryz.func32 (by kernel_rfl) rfl #[.agg #[.string t108, .string t109]] rfl mp_ ?_; (with_reducible refine (convergent_Path.calls k t108 t109 t110 t111 _ ?side1 A4.out).mono ?_); (case side1 => exact gw_ HG); rintro e w22 ⟨rfl, hb⟩; refine ⟨_, rfl, ?_⟩; replace HO106 := rb_ HO106 hb; replace BK103 := kb_ BK103 hb; replace HB := bs_ hb; (try clear hb); (try clear hb2); (try clear hk); (try clear hi); obtain ⟨hcz23_0, hcz23_1, hfz23_0, hfz23_1⟩ := c2_ BK103) | ((with_reducible refine gate_callee (f := 28) rfl ?_); refine goesL_ (some 21) rfl rfl Tryz.func28 (by kernel_rfl) rfl #[.agg #[.string t101, .string t102], .int .i64 7] rfl mp_ ?_; (with_reducible refine (convergent_Best.calls k t101 t102 7 t112 t115 _ ?side1 A5.out).mono ?_); (case side1 => exact gw_ HG); rintro e w24 ⟨v113, rfl, ho0, hb⟩; refine ⟨_, rfl, ?_⟩; replace HO106 := rb_ HO106 hb; have HO114 := Aside0.mk (Kd.R_lower (Kd.R_newB ho0 (g := gb103) (o := .cells #[.string t101, .string t102] 24 (0, 0)) bk_) (below_size bl_)); replace BK103 := kb_ BK103 hb; replace HB := bs_ hb; (try clear hb); (try clear hb2); (try clear hk); (try clear hi); (try clear ho0)) | ((with_reducible refine gate_dst (N := 28) rfl ?_); (try (refine gate_guard (by rfl) ?_; dsimp only)); refine Kd.R_lit (Kd.int .i64) _ 3 ?hg (N := 28) ?hd (xs := ([0, 1, 1, 2, 2] : List Int)) (inner := [.int .i64 0, .int .i64 1, .int .i64 1, .int .i64 2, .int .i64 2]) (ok := fun _ => True) (okp := fun _ => True) ?hr ?hp (fun _ hk => hk) trivial (Below.refl _ _) (Nat.le_refl _) (by simp) ?_; (case hd => rfl); (case hg => rfl); (case hr => first | (go_simp; done) | (go_simp; rfl)); (case hp => exact (Reps.one (show Kd.M (Kd.int .i64) _ _ _ 0 [.int .i64 0] from rfl) (Reps.one (show Kd.M (Kd.int .i64) _ _ _ 1 [.int .i64 1] from rfl) (Reps.one (show Kd.M (Kd.int .i64) _ _ _ 1 [.int .i64 1] from rfl) (Reps.one (show Kd.M (Kd.int .i64) _ _ _ 2 [.int .i64 2] from rfl) (Reps.one (show Kd.M (Kd.int .i64) _ _ _ 2 [.int .i64 2] from rfl) (Reps.none _ _))))))); intro v117 w25 ho26 hb hg_ hnew_; clear hg_ hnew_; (first | rw [← Ny116.out] at ho26 | (simp only [Int.reduceToNat] at ho26; rw [← Ny116.out] at ho26)); replace HO106 := rb_ HO106 hb; replace HO114 := rb_ HO114 hb; have HO118 := Aside0.mk (Kd.R_lower ho26 (below_size bl_)); replace BK103 := kb_ BK103 hb; replace HB := bs_ hb; clear hb ho26; obtain ⟨Ao27, co27, eo27⟩ := Kd.R_slice HO106.out; subst eo27; obtain ⟨Ao28, co28, eo28⟩ := Kd.R_slice HO118.out; subst eo28) | (go_at_call 22; (with_reducible refine (schismalaw04_ints.calls k _ _ t104 _ _ y116 true _ ?side1 ?side2 ?side3 ?side4 A7.out).mono ?_); (case side1 => repeat (first | exact (Kd.R_reads' HO106.out).2.2 | (with_reducible refine Kd.C_alloc ?_ _) | (with_reducible refine Kd.C_drewN ?_ _) | (with_reducible refine Kd.C_drew ?_))); (case side2 => exact (Kd.R_reads' HO106.out).2.1); (case side3 => repeat (first | exact (Kd.R_reads' HO118.out).2.2 | (with_reducible refine Kd.C_alloc ?_ _) | (with_reducible refine Kd.C_drewN ?_ _) | (with_reducible refine Kd.C_drew ?_))); (case side4 => exact (Kd.R_reads' HO118.out).2.1); rintro e w29 ⟨rfl, hb⟩; replace HO106 := rb_ HO106 hb; replace HO114 := rb_ HO114 hb; replace HO118 := rb_ HO118 hb; replace BK103 := kb_ BK103 hb; replace HB := bs_ hb; (try clear hb); (try clear hb2); (try clear hk); (try clear hi)) | (go_at_call 17; (with_reducible refine (schismaref04_Make.calls k 1 1 t120 t121 _ A12.out).mono ?_); rintro e w30 ⟨rfl, hb⟩; replace HO106 := rb_ HO106 hb; replace HO114 := rb_ HO114 hb; replace HO118 := rb_ HO118 hb; replace BK103 := kb_ BK103 hb; replace HB := bs_ hb; (try clear hb); (try clear hb2); (try clear hk); (try clear hi)) | (go_at_call 17; (with_reducible refine (schismaref04_Make.calls k 1 2 t122 t123 _ A13.out).mono ?_); rintro e w31 ⟨rfl, hb⟩; replace HO106 := rb_ HO106 hb; replace HO114 := rb_ HO114 hb; replace HO118 := rb_ HO118 hb; replace BK103 := kb_ BK103 hb; replace HB := bs_ hb; (try clear hb); (try clear hb2); (try clear hk); (try clear hi)) | (go_at_call 17; (with_reducible refine (schismaref04_Make.calls k 3 5 t124 t125 _ A14.out).mono ?_); rintro e w32 ⟨rfl, hb⟩; replace HO106 := rb_ HO106 hb; replace HO114 := rb_ HO114 hb; replace HO118 := rb_ HO118 hb; replace BK103 := kb_ BK103 hb; replace HB := bs_ hb; (try clear hb); (try clear hb2); (try clear hk); (try clear hi)) | (go_at_call 17; (with_reducible refine (schismaref04_Make.calls k 4 7 t126 t127 _ A15.out).mono ?_); rintro e w33 ⟨rfl, hb⟩; replace HO106 := rb_ HO106 hb; replace HO114 := rb_ HO114 hb; replace HO118 := rb_ HO118 hb; replace BK103 := kb_ BK103 hb; replace HB := bs_ hb; (try clear hb); (try clear hb2); (try clear hk); (try clear hi)) | ((with_reducible refine gate_dst (N := 49) rfl ?_); (try (refine gate_guard (by rfl) ?_; dsimp only)); refine Kd.R_lit k24 _ 24 ?hg (N := 49) ?hd (xs := ([(⟨t120, t121⟩ : S24), (⟨t122, t123⟩ : S24), (⟨t124, t125⟩ : S24), (⟨t126, t127⟩ : S24)] : List (S24))) (inner := [.string t120, .string t121, .string t122, .string t123, .string t124, .string t125, .string t126, .string t127]) (ok := fun _ => True) (okp := fun _ => True) ?hr ?hp (fun _ hk => hk) trivial (Below.refl _ _) (Nat.le_refl _) (by simp) ?_; (case hd => rfl); (case hg => rfl); (case hr => first | (go_simp; done) | (go_simp; rfl)); (case hp => exact (Reps.c2 (show Kd.M k24 _ _ _ (⟨t120, t121⟩ : S24) [.string t120, .string t121] from (k24_mkM _ _ _ (⟨t120, t121⟩ : S24) )) (Reps.c2 (show Kd.M k24 _ _ _ (⟨t122, t123⟩ : S24) [.string t122, .string t123] from (k24_mkM _ _ _ (⟨t122, t123⟩ : S24) )) (Reps.c2 (show Kd.M k24 _ _ _ (⟨t124, t125⟩ : S24) [.string t124, .string t125] from (k24_mkM _ _ _ (⟨t124, t125⟩ : S24) )) (Reps.c2 (show Kd.M k24 _ _ _ (⟨t126, t127⟩ : S24) [.string t126, .string t127] from (k24_mkM _ _ _ (⟨t126, t127⟩ : S24) )) (Reps.none _ _)))))); intro v129 w34 ho35 hb hg_ hnew_; clear hg_ hnew_; (first | rw [← Ny128.out] at ho35 | (simp only [Int.reduceToNat] at ho35; rw [← Ny128.out] at ho35)); replace HO106 := rb_ HO106 hb; replace HO118 := rb_ HO118 hb; have HO130 := Aside0.mk (Kd.R_lower (Kd.R_newB (Kd.R_new' ho35 (Kd.R_lt (by (with_reducible repeat (first | apply Kd.R_alloc | apply Kd.R_drewN | apply Kd.R_drew)); exact HO114.out))) (g := gb103) (o := .cells #[.string t101, .string t102] 24 (0, 0)) bk_) (below_size bl_)); replace HO114 := Aside0.mk (Kd.R_elder' (by (with_reducible repeat (first | apply Kd.R_alloc | apply Kd.R_drewN | apply Kd.R_drew)); exact HO114.out) (Kd.R_base ho35) hb); replace BK103 := kb_ BK103 hb; replace HB := bs_ hb; clear hb ho35; obtain ⟨Ao36, co36, eo36⟩ := Kd.R_slice HO114.out; subst eo36; obtain ⟨Ao37, co37, eo37⟩ := Kd.R_slice HO130.out; subst eo37) | (go_at_call 23; (with_reducible refine (schismalaw04_same.calls k _ _ t112 _ _ y128 t131 _ ?side1 ?side2 ?side3 ?side4 A16.out).mono ?_); (case side1 => repeat (first | exact (Kd.R_reads' HO114.out).2.2 | (with_reducible refine Kd.C_alloc ?_ _) | (with_reducible refine Kd.C_drewN ?_ _) | (with_reducible refine Kd.C_drew ?_))); (case side2 => exact (Kd.R_reads' HO114.out).2.1); (case side3 => repeat (first | exact (Kd.R_reads' HO130.out).2.2 | (with_reducible refine Kd.C_alloc ?_ _) | (with_reducible refine Kd.C_drewN ?_ _) | (with_reducible refine Kd.C_drew ?_))); (case side4 => exact (Kd.R_reads' HO130.out).2.1); rintro e w' ⟨rfl, ⟨nd, rfl⟩⟩))
      go_ret
      exact ⟨er_, bl_⟩
     ·rw [if_neg c11] at H
      have c11b0 : (t115 == 0) = false := beq_eq_false_iff_ne.mpr c11
      have c11b1 : (t115 != 0) = true := bne_iff_ne.mpr c11
      obtain rfl := Option.some.inj H
      go_enter Tryz.func13, Tryz.ntmps13
      go_wp2_with (first | ((with_reducible refine gate_callee (f := 17) rfl ?_); refine goesL_ (some 8) rfl rfl Tryz.func17 (by kernel_rfl) rfl #[.int .i64 7, .int .i64 12] rfl mp_ ?_; (with_reducible refine (schismaref04_Make.calls k 7 12 t101 t102 _ A1.out).mono ?_); rintro e w38 ⟨rfl, hb⟩; refine ⟨_, rfl, ?_⟩; replace HB := bs_ hb; (try clear hb); (try clear hb2); (try clear hk); (try clear hi)) | ((with_reducible refine gate_dst (N := 1) rfl ?_); (try (refine gate_guard (by rfl) ?_; dsimp only)); refine bx_ 1 #[.string (⟨#[]⟩ : ByteArray), .string (⟨#[]⟩ : ByteArray)] 24 ?_; clear HB; intro gb103 w39 BK103 GW103 HB; have GE103 := GW103; obtain ⟨hcz40_0, hcz40_1, hfz40_0, hfz40_1⟩ := c2_ BK103) | ((with_reducible refine gate_callee (f := 19) rfl ?_); refine goesL_ (some 11) rfl rfl Tryz.func19 (by kernel_rfl) rfl #[.agg #[.string t101, .string t102]] rfl mp_ ?_; (with_reducible refine (convergent_Terms.calls k t101 t102 t104 t107 _ ?side1 A2.out).mono ?_); (case side1 => exact gw_ HG); rintro e w41 ⟨v105, rfl, ho0, hb⟩; refine ⟨_, rfl, ?_⟩; have HO106 := Aside0.mk (Kd.R_lower ho0 (below_size bl_)); replace BK103 := Aside0.mk (blk_below (g := gb103) (o := .cells #[.string t101, .string t102] 24 (0, 0)) (by (with_reducible repeat (first | refine blk_drewN ?_ _ | refine blk_drew ?_ | refine blk_alloc ?_ _)); refine blk_put (cs := #[.string t101, .string (⟨#[]⟩ : ByteArray)]) ?_ 1 _ rfl; (with_reducible repeat (first | refine blk_drewN ?_ _ | refine blk_drew ?_ | refine blk_alloc ?_ _)); refine blk_put (cs := #[.string (⟨#[]⟩ : ByteArray), .string (⟨#[]⟩ : ByteArray)]) ?_ 0 _ rfl; (with_reducible repeat (first | refine blk_drewN ?_ _ | refine blk_drew ?_ | refine blk_alloc ?_ _)); exact BK103.out) hb); replace HB := bs_ hb; (try clear hb); (try clear hb2); (try clear hk); (try clear hi); (try clear ho0)) | ((with_reducible refine gate_callee (f := 17) rfl ?_); refine goesL_ (some 15) rfl rfl Tryz.func17 (by kernel_rfl) rfl #[.int .i64 3, .int .i64 5] rfl mp_ ?_; (with_reducible refine (schismaref04_Make.calls k 3 5 t108 t109 _ A3.out).mono ?_); rintro e w42 ⟨rfl, hb⟩; refine ⟨_, rfl, ?_⟩; replace HO106 := rb_ HO106 hb; replace BK103 := kb_ BK103 hb; replace HB := bs_ hb; (try clear hb); (try clear hb2); (try clear hk); (try clear hi)) | ((with_reducible refine gate_callee (f := 32) rfl ?_); refine goesL_ (some 16) rfl rfl Tryz.func32 (by kernel_rfl) rfl #[.agg #[.string t108, .string t109]] rfl mp_ ?_; (with_reducible refine (convergent_Path.calls k t108 t109 t110 t111 _ ?side1 A4.out).mono ?_); (case side1 => exact gw_ HG); rintro e w43 ⟨rfl, hb⟩; refine ⟨_, rfl, ?_⟩; replace HO106 := rb_ HO106 hb; replace BK103 := kb_ BK103 hb; replace HB := bs_ hb; (try clear hb); (try clear hb2); (try clear hk); (try clear hi); obtain ⟨hcz44_0, hcz44_1, hfz44_0, hfz44_1⟩ := c2_ BK103) | ((with_reducible refine gate_callee (f := 28) rfl ?_); refine goesL_ (some 21) rfl rfl Tryz.func28 (by kernel_rfl) rfl #[.agg #[.string t101, .string t102], .int .i64 7] rfl mp_ ?_; (with_reducible refine (convergent_Best.calls k t101 t102 7 t112 t115 _ ?side1 A5.out).mono ?_); (case side1 => exact gw_ HG); rintro e w45 ⟨v113, rfl, ho0, hb⟩; refine ⟨_, rfl, ?_⟩; replace HO106 := rb_ HO106 hb; have HO114 := Aside0.mk (Kd.R_lower (Kd.R_newB ho0 (g := gb103) (o := .cells #[.string t101, .string t102] 24 (0, 0)) bk_) (below_size bl_)); replace BK103 := kb_ BK103 hb; replace HB := bs_ hb; (try clear hb); (try clear hb2); (try clear hk); (try clear hi); (try clear ho0)) | ((with_reducible refine gate_dst (N := 28) rfl ?_); (try (refine gate_guard (by rfl) ?_; dsimp only)); refine Kd.R_lit (Kd.int .i64) _ 3 ?hg (N := 28) ?hd (xs := ([0, 1, 1, 2, 2] : List Int)) (inner := [.int .i64 0, .int .i64 1, .int .i64 1, .int .i64 2, .int .i64 2]) (ok := fun _ => True) (okp := fun _ => True) ?hr ?hp (fun _ hk => hk) trivial (Below.refl _ _) (Nat.le_refl _) (by simp) ?_; (case hd => rfl); (case hg => rfl); (case hr => first | (go_simp; done) | (go_simp; rfl)); (case hp => exact (Reps.one (show Kd.M (Kd.int .i64) _ _ _ 0 [.int .i64 0] from rfl) (Reps.one (show Kd.M (Kd.int .i64) _ _ _ 1 [.int .i64 1] from rfl) (Reps.one (show Kd.M (Kd.int .i64) _ _ _ 1 [.int .i64 1] from rfl) (Reps.one (show Kd.M (Kd.int .i64) _ _ _ 2 [.int .i64 2] from rfl) (Reps.one (show Kd.M (Kd.int .i64) _ _ _ 2 [.int .i64 2] from rfl) (Reps.none _ _))))))); intro v117 w46 ho47 hb hg_ hnew_; clear hg_ hnew_; (first | rw [← Ny116.out] at ho47 | (simp only [Int.reduceToNat] at ho47; rw [← Ny116.out] at ho47)); replace HO106 := rb_ HO106 hb; replace HO114 := rb_ HO114 hb; have HO118 := Aside0.mk (Kd.R_lower ho47 (below_size bl_)); replace BK103 := kb_ BK103 hb; replace HB := bs_ hb; clear hb ho47; obtain ⟨Ao48, co48, eo48⟩ := Kd.R_slice HO106.out; subst eo48; obtain ⟨Ao49, co49, eo49⟩ := Kd.R_slice HO118.out; subst eo49) | (go_at_call 22; (with_reducible refine (schismalaw04_ints.calls k _ _ t104 _ _ y116 true _ ?side1 ?side2 ?side3 ?side4 A7.out).mono ?_); (case side1 => repeat (first | exact (Kd.R_reads' HO106.out).2.2 | (with_reducible refine Kd.C_alloc ?_ _) | (with_reducible refine Kd.C_drewN ?_ _) | (with_reducible refine Kd.C_drew ?_))); (case side2 => exact (Kd.R_reads' HO106.out).2.1); (case side3 => repeat (first | exact (Kd.R_reads' HO118.out).2.2 | (with_reducible refine Kd.C_alloc ?_ _) | (with_reducible refine Kd.C_drewN ?_ _) | (with_reducible refine Kd.C_drew ?_))); (case side4 => exact (Kd.R_reads' HO118.out).2.1); rintro e w50 ⟨rfl, hb⟩; replace HO106 := rb_ HO106 hb; replace HO114 := rb_ HO114 hb; replace HO118 := rb_ HO118 hb; replace BK103 := kb_ BK103 hb; replace HB := bs_ hb; (try clear hb); (try clear hb2); (try clear hk); (try clear hi)))
      go_ret
      exact ⟨er_, bl_⟩
    ·rw [if_neg c10] at H
     have c10b0 : (t110.toList == ([76, 82, 76] : List UInt8)) = false := beq_eq_false_iff_ne.mpr c10
     have c10b1 : (t110.toList != ([76, 82, 76] : List UInt8)) = true := bne_iff_ne.mpr c10
     obtain rfl := Option.some.inj H
     go_enter Tryz.func13, Tryz.ntmps13
     go_wp2_with (first | ((with_reducible refine gate_callee (f := 17) rfl ?_); refine goesL_ (some 8) rfl rfl Tryz.func17 (by kernel_rfl) rfl #[.int .i64 7, .int .i64 12] rfl mp_ ?_; (with_reducible refine (schismaref04_Make.calls k 7 12 t101 t102 _ A1.out).mono ?_); rintro e w51 ⟨rfl, hb⟩; refine ⟨_, rfl, ?_⟩; replace HB := bs_ hb; (try clear hb); (try clear hb2); (try clear hk); (try clear hi)) | ((with_reducible refine gate_dst (N := 1) rfl ?_); (try (refine gate_guard (by rfl) ?_; dsimp only)); refine bx_ 1 #[.string (⟨#[]⟩ : ByteArray), .string (⟨#[]⟩ : ByteArray)] 24 ?_; clear HB; intro gb103 w52 BK103 GW103 HB; have GE103 := GW103; obtain ⟨hcz53_0, hcz53_1, hfz53_0, hfz53_1⟩ := c2_ BK103) | ((with_reducible refine gate_callee (f := 19) rfl ?_); refine goesL_ (some 11) rfl rfl Tryz.func19 (by kernel_rfl) rfl #[.agg #[.string t101, .string t102]] rfl mp_ ?_; (with_reducible refine (convergent_Terms.calls k t101 t102 t104 t107 _ ?side1 A2.out).mono ?_); (case side1 => exact gw_ HG); rintro e w54 ⟨v105, rfl, ho0, hb⟩; refine ⟨_, rfl, ?_⟩; have HO106 := Aside0.mk (Kd.R_lower ho0 (below_size bl_)); replace BK103 := Aside0.mk (blk_below (g := gb103) (o := .cells #[.string t101, .string t102] 24 (0, 0)) (by (with_reducible repeat (first | refine blk_drewN ?_ _ | refine blk_drew ?_ | refine blk_alloc ?_ _)); refine blk_put (cs := #[.string t101, .string (⟨#[]⟩ : ByteArray)]) ?_ 1 _ rfl; (with_reducible repeat (first | refine blk_drewN ?_ _ | refine blk_drew ?_ | refine blk_alloc ?_ _)); refine blk_put (cs := #[.string (⟨#[]⟩ : ByteArray), .string (⟨#[]⟩ : ByteArray)]) ?_ 0 _ rfl; (with_reducible repeat (first | refine blk_drewN ?_ _ | refine blk_drew ?_ | refine blk_alloc ?_ _)); exact BK103.out) hb); replace HB := bs_ hb; (try clear hb); (try clear hb2); (try clear hk); (try clear hi); (try clear ho0)) | ((with_reducible refine gate_callee (f := 17) rfl ?_); refine goesL_ (some 15) rfl rfl Tryz.func17 (by kernel_rfl) rfl #[.int .i64 3, .int .i64 5] rfl mp_ ?_; (with_reducible refine (schismaref04_Make.calls k 3 5 t108 t109 _ A3.out).mono ?_); rintro e w55 ⟨rfl, hb⟩; refine ⟨_, rfl, ?_⟩; replace HO106 := rb_ HO106 hb; replace BK103 := kb_ BK103 hb; replace HB := bs_ hb; (try clear hb); (try clear hb2); (try clear hk); (try clear hi)) | ((with_reducible refine gate_callee (f := 32) rfl ?_); refine goesL_ (some 16) rfl rfl Tryz.func32 (by kernel_rfl) rfl #[.agg #[.string t108, .string t109]] rfl mp_ ?_; (with_reducible refine (convergent_Path.calls k t108 t109 t110 t111 _ ?side1 A4.out).mono ?_); (case side1 => exact gw_ HG); rintro e w56 ⟨rfl, hb⟩; refine ⟨_, rfl, ?_⟩; replace HO106 := rb_ HO106 hb; replace BK103 := kb_ BK103 hb; replace HB := bs_ hb; (try clear hb); (try clear hb2); (try clear hk); (try clear hi); obtain ⟨hcz57_0, hcz57_1, hfz57_0, hfz57_1⟩ := c2_ BK103) | ((with_reducible refine gate_callee (f := 28) rfl ?_); refine goesL_ (some 21) rfl rfl Tryz.func28 (by kernel_rfl) rfl #[.agg #[.string t101, .string t102], .int .i64 7] rfl mp_ ?_; (with_reducible refine (convergent_Best.calls k t101 t102 7 t112 t115 _ ?side1 A5.out).mono ?_); (case side1 => exact gw_ HG); rintro e w58 ⟨v113, rfl, ho0, hb⟩; refine ⟨_, rfl, ?_⟩; replace HO106 := rb_ HO106 hb; have HO114 := Aside0.mk (Kd.R_lower (Kd.R_newB ho0 (g := gb103) (o := .cells #[.string t101, .string t102] 24 (0, 0)) bk_) (below_size bl_)); replace BK103 := kb_ BK103 hb; replace HB := bs_ hb; (try clear hb); (try clear hb2); (try clear hk); (try clear hi); (try clear ho0)) | ((with_reducible refine gate_dst (N := 28) rfl ?_); (try (refine gate_guard (by rfl) ?_; dsimp only)); refine Kd.R_lit (Kd.int .i64) _ 3 ?hg (N := 28) ?hd (xs := ([0, 1, 1, 2, 2] : List Int)) (inner := [.int .i64 0, .int .i64 1, .int .i64 1, .int .i64 2, .int .i64 2]) (ok := fun _ => True) (okp := fun _ => True) ?hr ?hp (fun _ hk => hk) trivial (Below.refl _ _) (Nat.le_refl _) (by simp) ?_; (case hd => rfl); (case hg => rfl); (case hr => first | (go_simp; done) | (go_simp; rfl)); (case hp => exact (Reps.one (show Kd.M (Kd.int .i64) _ _ _ 0 [.int .i64 0] from rfl) (Reps.one (show Kd.M (Kd.int .i64) _ _ _ 1 [.int .i64 1] from rfl) (Reps.one (show Kd.M (Kd.int .i64) _ _ _ 1 [.int .i64 1] from rfl) (Reps.one (show Kd.M (Kd.int .i64) _ _ _ 2 [.int .i64 2] from rfl) (Reps.one (show Kd.M (Kd.int .i64) _ _ _ 2 [.int .i64 2] from rfl) (Reps.none _ _))))))); intro v117 w59 ho60 hb hg_ hnew_; clear hg_ hnew_; (first | rw [← Ny116.out] at ho60 | (simp only [Int.reduceToNat] at ho60; rw [← Ny116.out] at ho60)); replace HO106 := rb_ HO106 hb; replace HO114 := rb_ HO114 hb; have HO118 := Aside0.mk (Kd.R_lower ho60 (below_size bl_)); replace BK103 := kb_ BK103 hb; replace HB := bs_ hb; clear hb ho60; obtain ⟨Ao61, co61, eo61⟩ := Kd.R_slice HO106.out; subst eo61; obtain ⟨Ao62, co62, eo62⟩ := Kd.R_slice HO118.out; subst eo62) | (go_at_call 22; (with_reducible refine (schismalaw04_ints.calls k _ _ t104 _ _ y116 true _ ?side1 ?side2 ?side3 ?side4 A7.out).mono ?_); (case side1 => repeat (first | exact (Kd.R_reads' HO106.out).2.2 | (with_reducible refine Kd.C_alloc ?_ _) | (with_reducible refine Kd.C_drewN ?_ _) | (with_reducible refine Kd.C_drew ?_))); (case side2 => exact (Kd.R_reads' HO106.out).2.1); (case side3 => repeat (first | exact (Kd.R_reads' HO118.out).2.2 | (with_reducible refine Kd.C_alloc ?_ _) | (with_reducible refine Kd.C_drewN ?_ _) | (with_reducible refine Kd.C_drew ?_))); (case side4 => exact (Kd.R_reads' HO118.out).2.1); rintro e w63 ⟨rfl, hb⟩; replace HO106 := rb_ HO106 hb; replace HO114 := rb_ HO114 hb; replace HO118 := rb_ HO118 hb; replace BK103 := kb_ BK103 hb; replace HB := bs_ hb; (try clear hb); (try clear hb2); (try clear hk); (try clear hi)))
     go_ret
     exact ⟨er_, bl_⟩
   ·rw [if_neg c9] at H
    have c9b0 : (t111 == 0) = false := beq_eq_false_iff_ne.mpr c9
    have c9b1 : (t111 != 0) = true := bne_iff_ne.mpr c9
    obtain rfl := Option.some.inj H
    go_enter Tryz.func13, Tryz.ntmps13
    go_wp2_with (first | ((with_reducible refine gate_callee (f := 17) rfl ?_); refine goesL_ (some 8) rfl rfl Tryz.func17 (by kernel_rfl) rfl #[.int .i64 7, .int .i64 12] rfl mp_ ?_; (with_reducible refine (schismaref04_Make.calls k 7 12 t101 t102 _ A1.out).mono ?_); rintro e w64 ⟨rfl, hb⟩; refine ⟨_, rfl, ?_⟩; replace HB := bs_ hb; (try clear hb); (try clear hb2); (try clear hk); (try clear hi)) | ((with_reducible refine gate_dst (N := 1) rfl ?_); (try (refine gate_guard (by rfl) ?_; dsimp only)); refine bx_ 1 #[.string (⟨#[]⟩ : ByteArray), .string (⟨#[]⟩ : ByteArray)] 24 ?_; clear HB; intro gb103 w65 BK103 GW103 HB; have GE103 := GW103; obtain ⟨hcz66_0, hcz66_1, hfz66_0, hfz66_1⟩ := c2_ BK103) | ((with_reducible refine gate_callee (f := 19) rfl ?_); refine goesL_ (some 11) rfl rfl Tryz.func19 (by kernel_rfl) rfl #[.agg #[.string t101, .string t102]] rfl mp_ ?_; (with_reducible refine (convergent_Terms.calls k t101 t102 t104 t107 _ ?side1 A2.out).mono ?_); (case side1 => exact gw_ HG); rintro e w67 ⟨v105, rfl, ho0, hb⟩; refine ⟨_, rfl, ?_⟩; have HO106 := Aside0.mk (Kd.R_lower ho0 (below_size bl_)); replace BK103 := Aside0.mk (blk_below (g := gb103) (o := .cells #[.string t101, .string t102] 24 (0, 0)) (by (with_reducible repeat (first | refine blk_drewN ?_ _ | refine blk_drew ?_ | refine blk_alloc ?_ _)); refine blk_put (cs := #[.string t101, .string (⟨#[]⟩ : ByteArray)]) ?_ 1 _ rfl; (with_reducible repeat (first | refine blk_drewN ?_ _ | refine blk_drew ?_ | refine blk_alloc ?_ _)); refine blk_put (cs := #[.string (⟨#[]⟩ : ByteArray), .string (⟨#[]⟩ : ByteArray)]) ?_ 0 _ rfl; (with_reducible repeat (first | refine blk_drewN ?_ _ | refine blk_drew ?_ | refine blk_alloc ?_ _)); exact BK103.out) hb); replace HB := bs_ hb; (try clear hb); (try clear hb2); (try clear hk); (try clear hi); (try clear ho0)) | ((with_reducible refine gate_callee (f := 17) rfl ?_); refine goesL_ (some 15) rfl rfl Tryz.func17 (by kernel_rfl) rfl #[.int .i64 3, .int .i64 5] rfl mp_ ?_; (with_reducible refine (schismaref04_Make.calls k 3 5 t108 t109 _ A3.out).mono ?_); rintro e w68 ⟨rfl, hb⟩; refine ⟨_, rfl, ?_⟩; replace HO106 := rb_ HO106 hb; replace BK103 := kb_ BK103 hb; replace HB := bs_ hb; (try clear hb); (try clear hb2); (try clear hk); (try clear hi)) | ((with_reducible refine gate_callee (f := 32) rfl ?_); refine goesL_ (some 16) rfl rfl Tryz.func32 (by kernel_rfl) rfl #[.agg #[.string t108, .string t109]] rfl mp_ ?_; (with_reducible refine (convergent_Path.calls k t108 t109 t110 t111 _ ?side1 A4.out).mono ?_); (case side1 => exact gw_ HG); rintro e w69 ⟨rfl, hb⟩; refine ⟨_, rfl, ?_⟩; replace HO106 := rb_ HO106 hb; replace BK103 := kb_ BK103 hb; replace HB := bs_ hb; (try clear hb); (try clear hb2); (try clear hk); (try clear hi); obtain ⟨hcz70_0, hcz70_1, hfz70_0, hfz70_1⟩ := c2_ BK103) | ((with_reducible refine gate_callee (f := 28) rfl ?_); refine goesL_ (some 21) rfl rfl Tryz.func28 (by kernel_rfl) rfl #[.agg #[.string t101, .string t102], .int .i64 7] rfl mp_ ?_; (with_reducible refine (convergent_Best.calls k t101 t102 7 t112 t115 _ ?side1 A5.out).mono ?_); (case side1 => exact gw_ HG); rintro e w71 ⟨v113, rfl, ho0, hb⟩; refine ⟨_, rfl, ?_⟩; replace HO106 := rb_ HO106 hb; have HO114 := Aside0.mk (Kd.R_lower (Kd.R_newB ho0 (g := gb103) (o := .cells #[.string t101, .string t102] 24 (0, 0)) bk_) (below_size bl_)); replace BK103 := kb_ BK103 hb; replace HB := bs_ hb; (try clear hb); (try clear hb2); (try clear hk); (try clear hi); (try clear ho0)) | ((with_reducible refine gate_dst (N := 28) rfl ?_); (try (refine gate_guard (by rfl) ?_; dsimp only)); refine Kd.R_lit (Kd.int .i64) _ 3 ?hg (N := 28) ?hd (xs := ([0, 1, 1, 2, 2] : List Int)) (inner := [.int .i64 0, .int .i64 1, .int .i64 1, .int .i64 2, .int .i64 2]) (ok := fun _ => True) (okp := fun _ => True) ?hr ?hp (fun _ hk => hk) trivial (Below.refl _ _) (Nat.le_refl _) (by simp) ?_; (case hd => rfl); (case hg => rfl); (case hr => first | (go_simp; done) | (go_simp; rfl)); (case hp => exact (Reps.one (show Kd.M (Kd.int .i64) _ _ _ 0 [.int .i64 0] from rfl) (Reps.one (show Kd.M (Kd.int .i64) _ _ _ 1 [.int .i64 1] from rfl) (Reps.one (show Kd.M (Kd.int .i64) _ _ _ 1 [.int .i64 1] from rfl) (Reps.one (show Kd.M (Kd.int .i64) _ _ _ 2 [.int .i64 2] from rfl) (Reps.one (show Kd.M (Kd.int .i64) _ _ _ 2 [.int .i64 2] from rfl) (Reps.none _ _))))))); intro v117 w72 ho73 hb hg_ hnew_; clear hg_ hnew_; (first | rw [← Ny116.out] at ho73 | (simp only [Int.reduceToNat] at ho73; rw [← Ny116.out] at ho73)); replace HO106 := rb_ HO106 hb; replace HO114 := rb_ HO114 hb; have HO118 := Aside0.mk (Kd.R_lower ho73 (below_size bl_)); replace BK103 := kb_ BK103 hb; replace HB := bs_ hb; clear hb ho73; obtain ⟨Ao74, co74, eo74⟩ := Kd.R_slice HO106.out; subst eo74; obtain ⟨Ao75, co75, eo75⟩ := Kd.R_slice HO118.out; subst eo75) | (go_at_call 22; (with_reducible refine (schismalaw04_ints.calls k _ _ t104 _ _ y116 true _ ?side1 ?side2 ?side3 ?side4 A7.out).mono ?_); (case side1 => repeat (first | exact (Kd.R_reads' HO106.out).2.2 | (with_reducible refine Kd.C_alloc ?_ _) | (with_reducible refine Kd.C_drewN ?_ _) | (with_reducible refine Kd.C_drew ?_))); (case side2 => exact (Kd.R_reads' HO106.out).2.1); (case side3 => repeat (first | exact (Kd.R_reads' HO118.out).2.2 | (with_reducible refine Kd.C_alloc ?_ _) | (with_reducible refine Kd.C_drewN ?_ _) | (with_reducible refine Kd.C_drew ?_))); (case side4 => exact (Kd.R_reads' HO118.out).2.1); rintro e w76 ⟨rfl, hb⟩; replace HO106 := rb_ HO106 hb; replace HO114 := rb_ HO114 hb; replace HO118 := rb_ HO118 hb; replace BK103 := kb_ BK103 hb; replace HB := bs_ hb; (try clear hb); (try clear hb2); (try clear hk); (try clear hi)))
    go_ret
    exact ⟨er_, bl_⟩
  ·replace c8 := Bool.eq_false_iff.mpr c8
   subst c8
   have H1 : (some false) = some r := by rw [if_neg (show ¬ (false = true) by decide)] at H; exact H
   clear H
   have H := H1
   clear H1
   obtain rfl := Option.some.inj H
   go_enter Tryz.func13, Tryz.ntmps13
   go_wp2_with (first | ((with_reducible refine gate_callee (f := 17) rfl ?_); refine goesL_ (some 8) rfl rfl Tryz.func17 (by kernel_rfl) rfl #[.int .i64 7, .int .i64 12] rfl mp_ ?_; (with_reducible refine (schismaref04_Make.calls k 7 12 t101 t102 _ A1.out).mono ?_); rintro e w77 ⟨rfl, hb⟩; refine ⟨_, rfl, ?_⟩; replace HB := bs_ hb; (try clear hb); (try clear hb2); (try clear hk); (try clear hi)) | ((with_reducible refine gate_dst (N := 1) rfl ?_); (try (refine gate_guard (by rfl) ?_; dsimp only)); refine bx_ 1 #[.string (⟨#[]⟩ : ByteArray), .string (⟨#[]⟩ : ByteArray)] 24 ?_; clear HB; intro gb103 w78 BK103 GW103 HB; have GE103 := GW103; obtain ⟨hcz79_0, hcz79_1, hfz79_0, hfz79_1⟩ := c2_ BK103) | ((with_reducible refine gate_callee (f := 19) rfl ?_); refine goesL_ (some 11) rfl rfl Tryz.func19 (by kernel_rfl) rfl #[.agg #[.string t101, .string t102]] rfl mp_ ?_; (with_reducible refine (convergent_Terms.calls k t101 t102 t104 t107 _ ?side1 A2.out).mono ?_); (case side1 => exact gw_ HG); rintro e w80 ⟨v105, rfl, ho0, hb⟩; refine ⟨_, rfl, ?_⟩; have HO106 := Aside0.mk (Kd.R_lower ho0 (below_size bl_)); replace BK103 := Aside0.mk (blk_below (g := gb103) (o := .cells #[.string t101, .string t102] 24 (0, 0)) (by (with_reducible repeat (first | refine blk_drewN ?_ _ | refine blk_drew ?_ | refine blk_alloc ?_ _)); refine blk_put (cs := #[.string t101, .string (⟨#[]⟩ : ByteArray)]) ?_ 1 _ rfl; (with_reducible repeat (first | refine blk_drewN ?_ _ | refine blk_drew ?_ | refine blk_alloc ?_ _)); refine blk_put (cs := #[.string (⟨#[]⟩ : ByteArray), .string (⟨#[]⟩ : ByteArray)]) ?_ 0 _ rfl; (with_reducible repeat (first | refine blk_drewN ?_ _ | refine blk_drew ?_ | refine blk_alloc ?_ _)); exact BK103.out) hb); replace HB := bs_ hb; (try clear hb); (try clear hb2); (try clear hk); (try clear hi); (try clear ho0)) | ((with_reducible refine gate_callee (f := 17) rfl ?_); refine goesL_ (some 15) rfl rfl Tryz.func17 (by kernel_rfl) rfl #[.int .i64 3, .int .i64 5] rfl mp_ ?_; (with_reducible refine (schismaref04_Make.calls k 3 5 t108 t109 _ A3.out).mono ?_); rintro e w81 ⟨rfl, hb⟩; refine ⟨_, rfl, ?_⟩; replace HO106 := rb_ HO106 hb; replace BK103 := kb_ BK103 hb; replace HB := bs_ hb; (try clear hb); (try clear hb2); (try clear hk); (try clear hi)) | ((with_reducible refine gate_callee (f := 32) rfl ?_); refine goesL_ (some 16) rfl rfl Tryz.func32 (by kernel_rfl) rfl #[.agg #[.string t108, .string t109]] rfl mp_ ?_; (with_reducible refine (convergent_Path.calls k t108 t109 t110 t111 _ ?side1 A4.out).mono ?_); (case side1 => exact gw_ HG); rintro e w82 ⟨rfl, hb⟩; refine ⟨_, rfl, ?_⟩; replace HO106 := rb_ HO106 hb; replace BK103 := kb_ BK103 hb; replace HB := bs_ hb; (try clear hb); (try clear hb2); (try clear hk); (try clear hi); obtain ⟨hcz83_0, hcz83_1, hfz83_0, hfz83_1⟩ := c2_ BK103) | ((with_reducible refine gate_callee (f := 28) rfl ?_); refine goesL_ (some 21) rfl rfl Tryz.func28 (by kernel_rfl) rfl #[.agg #[.string t101, .string t102], .int .i64 7] rfl mp_ ?_; (with_reducible refine (convergent_Best.calls k t101 t102 7 t112 t115 _ ?side1 A5.out).mono ?_); (case side1 => exact gw_ HG); rintro e w84 ⟨v113, rfl, ho0, hb⟩; refine ⟨_, rfl, ?_⟩; replace HO106 := rb_ HO106 hb; have HO114 := Aside0.mk (Kd.R_lower (Kd.R_newB ho0 (g := gb103) (o := .cells #[.string t101, .string t102] 24 (0, 0)) bk_) (below_size bl_)); replace BK103 := kb_ BK103 hb; replace HB := bs_ hb; (try clear hb); (try clear hb2); (try clear hk); (try clear hi); (try clear ho0)) | ((with_reducible refine gate_dst (N := 28) rfl ?_); (try (refine gate_guard (by rfl) ?_; dsimp only)); refine Kd.R_lit (Kd.int .i64) _ 3 ?hg (N := 28) ?hd (xs := ([0, 1, 1, 2, 2] : List Int)) (inner := [.int .i64 0, .int .i64 1, .int .i64 1, .int .i64 2, .int .i64 2]) (ok := fun _ => True) (okp := fun _ => True) ?hr ?hp (fun _ hk => hk) trivial (Below.refl _ _) (Nat.le_refl _) (by simp) ?_; (case hd => rfl); (case hg => rfl); (case hr => first | (go_simp; done) | (go_simp; rfl)); (case hp => exact (Reps.one (show Kd.M (Kd.int .i64) _ _ _ 0 [.int .i64 0] from rfl) (Reps.one (show Kd.M (Kd.int .i64) _ _ _ 1 [.int .i64 1] from rfl) (Reps.one (show Kd.M (Kd.int .i64) _ _ _ 1 [.int .i64 1] from rfl) (Reps.one (show Kd.M (Kd.int .i64) _ _ _ 2 [.int .i64 2] from rfl) (Reps.one (show Kd.M (Kd.int .i64) _ _ _ 2 [.int .i64 2] from rfl) (Reps.none _ _))))))); intro v117 w85 ho86 hb hg_ hnew_; clear hg_ hnew_; (first | rw [← Ny116.out] at ho86 | (simp only [Int.reduceToNat] at ho86; rw [← Ny116.out] at ho86)); replace HO106 := rb_ HO106 hb; replace HO114 := rb_ HO114 hb; have HO118 := Aside0.mk (Kd.R_lower ho86 (below_size bl_)); replace BK103 := kb_ BK103 hb; replace HB := bs_ hb; clear hb ho86; obtain ⟨Ao87, co87, eo87⟩ := Kd.R_slice HO106.out; subst eo87; obtain ⟨Ao88, co88, eo88⟩ := Kd.R_slice HO118.out; subst eo88) | (go_at_call 22; (with_reducible refine (schismalaw04_ints.calls k _ _ t104 _ _ y116 false _ ?side1 ?side2 ?side3 ?side4 A7.out).mono ?_); (case side1 => repeat (first | exact (Kd.R_reads' HO106.out).2.2 | (with_reducible refine Kd.C_alloc ?_ _) | (with_reducible refine Kd.C_drewN ?_ _) | (with_reducible refine Kd.C_drew ?_))); (case side2 => exact (Kd.R_reads' HO106.out).2.1); (case side3 => repeat (first | exact (Kd.R_reads' HO118.out).2.2 | (with_reducible refine Kd.C_alloc ?_ _) | (with_reducible refine Kd.C_drewN ?_ _) | (with_reducible refine Kd.C_drew ?_))); (case side4 => exact (Kd.R_reads' HO118.out).2.1); rintro e w89 ⟨rfl, hb⟩; replace HO106 := rb_ HO106 hb; replace HO114 := rb_ HO114 hb; replace HO118 := rb_ HO118 hb; replace BK103 := kb_ BK103 hb; replace HB := bs_ hb; (try clear hb); (try clear hb2); (try clear hk); (try clear hi)))
   go_ret
   exact ⟨er_, bl_⟩
 ·rw [if_neg c6] at H
  have c6b0 : (t107 == 0) = false := beq_eq_false_iff_ne.mpr c6
  have c6b1 : (t107 != 0) = true := bne_iff_ne.mpr c6
  obtain rfl := Option.some.inj H
  go_enter Tryz.func13, Tryz.ntmps13
  go_wp2_with (first | ((with_reducible refine gate_callee (f := 17) rfl ?_); refine goesL_ (some 8) rfl rfl Tryz.func17 (by kernel_rfl) rfl #[.int .i64 7, .int .i64 12] rfl mp_ ?_; (with_reducible refine (schismaref04_Make.calls k 7 12 t101 t102 _ A1.out).mono ?_); rintro e w90 ⟨rfl, hb⟩; refine ⟨_, rfl, ?_⟩; replace HB := bs_ hb; (try clear hb); (try clear hb2); (try clear hk); (try clear hi)) | ((with_reducible refine gate_dst (N := 1) rfl ?_); (try (refine gate_guard (by rfl) ?_; dsimp only)); refine bx_ 1 #[.string (⟨#[]⟩ : ByteArray), .string (⟨#[]⟩ : ByteArray)] 24 ?_; clear HB; intro gb103 w91 BK103 GW103 HB; have GE103 := GW103; obtain ⟨hcz92_0, hcz92_1, hfz92_0, hfz92_1⟩ := c2_ BK103) | ((with_reducible refine gate_callee (f := 19) rfl ?_); refine goesL_ (some 11) rfl rfl Tryz.func19 (by kernel_rfl) rfl #[.agg #[.string t101, .string t102]] rfl mp_ ?_; (with_reducible refine (convergent_Terms.calls k t101 t102 t104 t107 _ ?side1 A2.out).mono ?_); (case side1 => exact gw_ HG); rintro e w93 ⟨v105, rfl, ho0, hb⟩; refine ⟨_, rfl, ?_⟩; have HO106 := Aside0.mk (Kd.R_lower ho0 (below_size bl_)); replace BK103 := Aside0.mk (blk_below (g := gb103) (o := .cells #[.string t101, .string t102] 24 (0, 0)) (by (with_reducible repeat (first | refine blk_drewN ?_ _ | refine blk_drew ?_ | refine blk_alloc ?_ _)); refine blk_put (cs := #[.string t101, .string (⟨#[]⟩ : ByteArray)]) ?_ 1 _ rfl; (with_reducible repeat (first | refine blk_drewN ?_ _ | refine blk_drew ?_ | refine blk_alloc ?_ _)); refine blk_put (cs := #[.string (⟨#[]⟩ : ByteArray), .string (⟨#[]⟩ : ByteArray)]) ?_ 0 _ rfl; (with_reducible repeat (first | refine blk_drewN ?_ _ | refine blk_drew ?_ | refine blk_alloc ?_ _)); exact BK103.out) hb); replace HB := bs_ hb; (try clear hb); (try clear hb2); (try clear hk); (try clear hi); (try clear ho0)) | ((with_reducible refine gate_callee (f := 17) rfl ?_); refine goesL_ (some 15) rfl rfl Tryz.func17 (by kernel_rfl) rfl #[.int .i64 3, .int .i64 5] rfl mp_ ?_; (with_reducible refine (schismaref04_Make.calls k 3 5 t108 t109 _ A3.out).mono ?_); rintro e w94 ⟨rfl, hb⟩; refine ⟨_, rfl, ?_⟩; replace HO106 := rb_ HO106 hb; replace BK103 := kb_ BK103 hb; replace HB := bs_ hb; (try clear hb); (try clear hb2); (try clear hk); (try clear hi)) | ((with_reducible refine gate_callee (f := 32) rfl ?_); refine goesL_ (some 16) rfl rfl Tryz.func32 (by kernel_rfl) rfl #[.agg #[.string t108, .string t109]] rfl mp_ ?_; (with_reducible refine (convergent_Path.calls k t108 t109 t110 t111 _ ?side1 A4.out).mono ?_); (case side1 => exact gw_ HG); rintro e w95 ⟨rfl, hb⟩; refine ⟨_, rfl, ?_⟩; replace HO106 := rb_ HO106 hb; replace BK103 := kb_ BK103 hb; replace HB := bs_ hb; (try clear hb); (try clear hb2); (try clear hk); (try clear hi); obtain ⟨hcz96_0, hcz96_1, hfz96_0, hfz96_1⟩ := c2_ BK103) | ((with_reducible refine gate_callee (f := 28) rfl ?_); refine goesL_ (some 21) rfl rfl Tryz.func28 (by kernel_rfl) rfl #[.agg #[.string t101, .string t102], .int .i64 7] rfl mp_ ?_; (with_reducible refine (convergent_Best.calls k t101 t102 7 t112 t115 _ ?side1 A5.out).mono ?_); (case side1 => exact gw_ HG); rintro e w97 ⟨v113, rfl, ho0, hb⟩; refine ⟨_, rfl, ?_⟩; replace HO106 := rb_ HO106 hb; have HO114 := Aside0.mk (Kd.R_lower (Kd.R_newB ho0 (g := gb103) (o := .cells #[.string t101, .string t102] 24 (0, 0)) bk_) (below_size bl_)); replace BK103 := kb_ BK103 hb; replace HB := bs_ hb; (try clear hb); (try clear hb2); (try clear hk); (try clear hi); (try clear ho0)))
  go_ret
  exact ⟨er_, bl_⟩
end Go.Proofs.YtidajgkepdkcbaaGreatDoor.PL
end
section
namespace Go.Proofs.YtidajgkepdkcbaaGreatDoor
open Go.RowKit Go.Lib Go.Proofs.YtidajgkepdkcbaaGreatDoorW.PrintWords Go.Proofs.YtidajgkepdkcbaaGreatDoorW.PrintLast Go.Proofs.YtidajgkepdkcbaaGreatDoorW.PrintMore PF PL
theorem same_go (l : List S24) : ∀ (m j : Nat), l.length ≤ 1000000 → l.length = j + m → Ev (fun k => schismalaw04_same.l0 k l l (j : Int)) true
 | 0, j, hl, hm => ev_here 1 fun k => by rw [schismalaw04_same.l0, if_neg (by omega)]
 | m + 1, j, hl, hm => by
  refine Ev.step (f := fun k => schismalaw04_same.l0 k l l ((j + 1 : Nat) : Int)) (fun k => ?_) (same_go l m (j + 1) hl (by omega))
  rw [schismalaw04_same.l0, if_pos (by omega), if_pos (by omega), if_pos (by omega), if_neg (by simp), w64 (by omega) (by omega)]
  rfl
theorem Same_self {l : List S24} (hl : l.length ≤ 1000000) : Ev (fun k => schismalaw04_same.f k l l) true := by
 unfold schismalaw04_same.f
 exact Ev.congr (fun k => if_pos rfl) (same_go l l.length 0 hl (by omega))
theorem Small_T {i : Int} (h0 : -9223372036854775808 ≤ i) (h1 : i ≤ 9223372036854775807) : whole_Small.f (T i) = some (i, true) := by
 unfold whole_Small.f strconv_ParseInt.f
 rw [if_pos ⟨rfl, rfl, by have : (T i).size ≤ 20 := T_size_le (k := 19) (by omega) (by omega); omega⟩, T_dataList, parseIntB_itoa h0 h1]
 rfl
theorem S17_small {i : Int} (h : -1000 ≤ i) (h2 : i ≤ 1000) : S17 i := by unfold S17; omega
theorem CTerms_T {ts : List Int} {n d : Int} (h : isCf ts n d) (hn : S17 n) (hd : S17 d) (hF : Fr n d) (hl : ts.length ≤ 1000) : Ev (fun k => convergent_Terms.f k (T n) (T d)) (ts.map T, 0) := by
 unfold convergent_Terms.f
 refine Ev.bind (Wrong_no hn hd hF) (Ev.congr (fun k => if_neg (by simp)) ?_)
 refine Ev.bind (Terms_T h hn hd hF.1 hl) (Ev.congr (fun k => if_neg (by simp; omega)) (ev_const fun _ => rfl))
theorem Path_T {ts : List Int} {n d : Int} (h : isCf ts n d) (hn : S17 n) (hd : S17 d) (hF : Fr n d) (hp : 0 < n) (hl : ts.length ≤ 1000) (a : Int) (ha : ts.getLast? = some a) (hS : S17 a) {r : ByteArray × Int} (hr : pathl 0 ((ts.dropLast ++ [a - 1]).map T) [] = some r) :
  Ev (fun k => convergent_Path.f k (T n) (T d)) r := by
 unfold convergent_Path.f
 refine Ev.bind (Wrong_no hn hd hF) (Ev.congr (fun k => if_neg (by simp)) ?_)
 refine Ev.bind (ev_const (r := (1 : Int)) fun k => ?_) (Ev.congr (fun k => if_neg (by omega)) ?_)
 ·unfold fraction_Sign.f
  rw [whole_Sign_T n, sg_pos hp]
  rfl
 refine Ev.bind (Terms_T h hn hd hF.1 hl) ?_
 have e : (ts.map T).getLast? = some (T a) := by rw [List.getLast?_map, ha]; rfl
 refine Ev.congr (fun k => by rw [e]) ?_
 simp only
 rw [lit1]
 refine Ev.bind (ev_const fun k => Sub_T (a := a) (b := 1) ?_ (by unfold S17; omega) k) (ev_const fun k => ?_)
 ·exact hS
 ·rw [← hr]
  simp [List.map_dropLast]
theorem Known : Ev (fun k => schismalaw04_known.f k) true := by
 unfold schismalaw04_known.f
 have F7 : Fr 7 12 := ⟨by decide, by decide⟩
 have F3 : Fr 3 5 := ⟨by decide, by decide⟩
 have t7 : isCf [0, 1, 1, 2, 2] 7 12 := by simp [isCf]
 have t3 : isCf [0, 1, 1, 2] 3 5 := by simp [isCf]
 have m : ∀ {n d : Int}, n.natAbs < 1000 → 0 < d → d < 1000 → Fr n d → Ev (fun k => schismaref04_Make.f k n d) (T n, T d) := fun h1 h2 h3 h4 => by
  rw [← fr_self h4]; exact RMake (by omega) h2 (by omega)
 refine Ev.bind (m (n := 7) (d := 12) (by decide) (by decide) (by decide) F7) ?_
 refine Ev.bind (CTerms_T t7 (S17_small (by decide) (by decide)) (S17_small (by decide) (by decide)) F7 (by decide)) ?_
 refine Ev.bind (m (n := 3) (d := 5) (by decide) (by decide) (by decide) F3) ?_
 refine Ev.bind (Path_T t3 (S17_small (by decide) (by decide)) (S17_small (by decide) (by decide)) F3 (by decide) (by decide) 2 rfl (S17_small (by decide) (by decide)) (r := (⟨#[76, 82, 76]⟩, 0)) ?_) ?_
 ·simp only [List.dropLast, List.map_cons, List.map_append, List.map_nil, List.nil_append, List.cons_append, pathl]
  rw [Small_T (by decide) (by decide), Small_T (by decide) (by decide), Small_T (by decide) (by decide)]
  rfl
 refine Ev.bind (ev_const fun k => Best_yes (ts := [0, 1, 1, 2, 2]) ⟨rfl, rfl, by decide, by decide, F7, by decide, by decide, by decide, t7, by decide⟩ k) ?_
 refine Ev.congr (fun k => if_pos rfl) ?_
 refine Ev.bind (Ints_T (by decide) (fun a ha => S17_small (by simp at ha; omega) (by simp at ha; omega))) ?_
 refine Ev.congr (fun k => by rw [if_pos rfl, if_pos rfl, if_pos (by simp [ByteArray.toList_eq]), if_pos rfl]) ?_
 refine Ev.bind (m (n := 1) (d := 1) (by decide) (by decide) (by decide) ⟨by decide, by decide⟩) ?_
 refine Ev.bind (m (n := 1) (d := 2) (by decide) (by decide) (by decide) ⟨by decide, by decide⟩) ?_
 refine Ev.bind (m (n := 3) (d := 5) (by decide) (by decide) (by decide) ⟨by decide, by decide⟩) ?_
 refine Ev.bind (m (n := 4) (d := 7) (by decide) (by decide) (by decide) ⟨by decide, by decide⟩) ?_
 have e : (bestRow 7 12 7 [0, 1, 1, 2, 2]).map sf = [⟨T 1, T 1⟩, ⟨T 1, T 2⟩, ⟨T 3, T 5⟩, ⟨T 4, T 7⟩] := by
  have : bestRow 7 12 7 [0, 1, 1, 2, 2] = [(1, 1), (1, 2), (3, 5), (4, 7)] := by decide
  rw [this]; rfl
 rw [e]
 exact Ev.bind (Same_self (by decide)) (ev_const fun _ => rfl)
end Go.Proofs.YtidajgkepdkcbaaGreatDoor
end
section
namespace Go.Proofs.YtidajgkepdkcbaaGreatDoor.PL
open Go.RowKit Go.Proofs.YtidajgkepdkcbaaGreatDoorW.PrintWords Go.Proofs.YtidajgkepdkcbaaGreatDoorW.PrintLast Go.Proofs.YtidajgkepdkcbaaGreatDoorW.PrintMore Go.Proofs.YtidajgkepdkcbaaGreatDoor.PF
attribute [local go_sem] max2_int min2_int max_two min_two max_three min_three max_four min_four
theorem eqA24 (d : Nat) (w : World) (x0 y0 : ByteArray) (x1 y1 : ByteArray) :
  (Op.equalIn (d + 2) 24 (.agg #[.string x0, .string x1]) (.agg #[.string y0, .string y1])).run Tryz.prog w = .ok (x0.toList == y0.toList && (x1.toList == y1.toList)) w := by
 refine eqA_of Tryz.underlying24 (by kernel_rfl) ?_
 refine eqf_cons (by rfl) (by go_simp; rfl) (by go_simp; rfl) (by go_simp) ?_
 exact eqf_last (by rfl) (by go_simp; rfl) (by go_simp; rfl) (by go_simp)
end Go.Proofs.YtidajgkepdkcbaaGreatDoor.PL
end
section
namespace Go.Proofs.YtidajgkepdkcbaaGreatDoor
open Go.RowKit Go.Lib Go.Proofs.YtidajgkepdkcbaaGreatDoorW.PrintWords Go.Proofs.YtidajgkepdkcbaaGreatDoorW.PrintLast Go.Proofs.YtidajgkepdkcbaaGreatDoorW.PrintMore PF PL
theorem T13 {i : Int} (h : (T i).size ≤ 13) : -1000000000000 < i ∧ i < 10000000000000 := by
 have := lt_of_T_size (i := i) (k := 12) (by omega)
 omega
theorem cf_small {n d : Int} (h0 : 0 < d) (hd2 : d < 10000000000000) : ∃ ts, isCf ts n d ∧ ts.length ≤ 1000 := by
 obtain ⟨ts, h1, h2⟩ := isCf_exists 60 n d h0 (by omega)
 exact ⟨ts, h1, by omega⟩
end Go.Proofs.YtidajgkepdkcbaaGreatDoor
end
section
namespace Go.Proofs.YtidajgkepdkcbaaGreatDoor
open Go.RowKit Go.Lib Go.Proofs.YtidajgkepdkcbaaGreatDoorW.PrintWords Go.Proofs.YtidajgkepdkcbaaGreatDoorW.PrintLast Go.Proofs.YtidajgkepdkcbaaGreatDoorW.PrintMore PF
attribute [local go_sem] Oper.semAt_some wide_fn2 wide_depth2
def one (_ _ : Int) : Int := 1
structure SemI (n d : Int) (w : World) (bo : Nat) (ys : List (Int × Int)) (i : Nat) (W : World) : Prop where
 x : W.heap[w.heap.size]? = some (.cells #[.string (T n), .string (T d)] 24 (0, 0))
 r1 : W.heap[w.heap.size + 1]? = some (.cells #[.slice none 0 0] 37 (0, 0))
 r2 : W.heap[w.heap.size + 1 + 1]? = some (.cells #[.int .i64 0] 26 (0, 0))
 out : ∃ v, W.heap[bo]? = some (.cells #[v] 37 (0, 0)) ∧ W.ownsRow (bo + 1) 24 2 v (ys.take i).length (fcells (ys.take i))
 sz : bo < W.heap.size
 B : Below w.heap.size w W
theorem SemI.soft {n d : Int} {w : World} {bo : Nat} {ys : List (Int × Int)} {i : Nat} {A B : World} (h : SemI n d w bo ys i A) {b : Nat} (hk : Kept softI b A B) (hb : w.heap.size ≤ b) : SemI n d w bo ys i B := by
 obtain ⟨v, h1, h2⟩ := h.out
 exact ⟨hk.block _ _ h.x (.inr rfl), hk.block _ _ h.r1 (.inr rfl), hk.block _ _ h.r2 (.inr rfl), ⟨v, hk.block _ _ h1 (.inr rfl), ownsRow_kept h2 (fun g cur hg => hk.block _ _ hg (.inr rfl))⟩, Nat.lt_of_lt_of_le h.sz hk.size, hk.below h.B hb (Nat.le_refl _)⟩
theorem SemI.put {n d : Int} {w : World} {bo : Nat} {ys : List (Int × Int)} {i : Nat} {A : World} (h : SemI n d w bo ys i A) {l : Nat} {o o' : Obj} (hw : w.heap.size ≤ l) (hl : A.heap[l]? = some o) (ho : o.isCells = false) : SemI n d w bo ys i (A.putObj l o') := by
 have keep : ∀ {k : Nat} {c : Array Value} {t : Nat}, A.heap[k]? = some (.cells c t (0, 0)) → (A.putObj l o').heap[k]? = some (.cells c t (0, 0)) := by
  intro k c t hk
  rw [World.putObj_heap_other]
  ·exact hk
  ·rintro rfl
   rw [hl] at hk
   obtain rfl := Option.some.inj hk
   cases ho
 obtain ⟨v, h1, h2⟩ := h.out
 refine ⟨keep h.x, keep h.r1, keep h.r2, ⟨v, keep h1, ownsRow_kept h2 (fun g cur hg => keep hg)⟩, by simpa using h.sz, ⟨h.B.os, h.B.tape, h.B.output, by simpa using h.B.size, fun k hk => ?_⟩⟩
 rw [World.putObj_heap_other (by omega)]
 exact h.B.block k hk
theorem SemI.app {n d : Int} {w : World} {bo : Nat} {ys : List (Int × Int)} {i : Nat} {W w1 : World} (h : SemI n d w bo ys i W) {v v' : Value} {o : Obj} {k k' : Nat} {xs xs' : List Value}
  (hv : W.heap[bo]? = some (.cells #[v] 37 (0, 0))) (hrow : W.ownsRow (bo + 1) 24 2 v k xs) (hown : w1.ownsRow (bo + 1) 24 2 v' k' xs') (hgrow : (W.alloc o).grownBy w1 v.ownBlock)
  (hbo : w.heap.size + 2 < bo) (hk : k' = (ys.take (i + 1)).length) (hx : xs' = fcells (ys.take (i + 1))) :
  Kept softB 0 W (w1.setCell ⟨bo, 0, none⟩ v') ∧ SemI n d w bo ys (i + 1) (w1.setCell ⟨bo, 0, none⟩ v') := by
 have hne : ∀ {j : Nat}, j ≤ bo → some j ≠ v.ownBlock := fun {j} hj he => by have := (row_block hrow he.symm).1; omega
 have hbo1 : w1.heap[bo]? = some (.cells #[v] 37 (0, 0)) := heap_old hgrow hv (hne (Nat.le_refl _))
 have old : ∀ {j : Nat} {o' : Obj}, W.heap[j]? = some o' → some j ≠ v.ownBlock → j ≠ bo → (w1.setCell ⟨bo, 0, none⟩ v').heap[j]? = some o' := fun {j o'} h1 h2 h3 => by
  rw [Below.heap_setCell _ _ _ _ h3]; exact heap_old hgrow h1 h2
 have hnew : (w1.setCell ⟨bo, 0, none⟩ v').heap[bo]? = some (.cells #[v'] 37 (0, 0)) := by
  simp [World.setCell, Array.getElem_modify, (Array.getElem?_eq_some_iff.1 hbo1).1, (Array.getElem?_eq_some_iff.1 hbo1).2]
 refine ⟨⟨hgrow.os, hgrow.tape, hgrow.output, by have := hgrow.size; simp at this ⊢; omega, fun j o' ho hs => ?_⟩, ?_⟩
 ·rcases hs with hs | hs
  ·omega
  ·refine old ho (fun he => ?_) (fun he => ?_)
   ·obtain ⟨_, cur, hc⟩ := row_block hrow he.symm
    rw [hc] at ho
    obtain rfl := Option.some.inj ho
    simp [softB, ofT] at hs
   ·subst he
    rw [hv] at ho
    obtain rfl := Option.some.inj ho
    simp [softB, ofT] at hs
 ·refine ⟨old h.x (hne (by omega)) (by omega), old h.r1 (hne (by omega)) (by omega), old h.r2 (hne (by omega)) (by omega), ⟨v', hnew, ?_⟩, by have h1 := hgrow.size; have := h.sz; rw [World.size_alloc] at h1; simp only [World.size_setCell]; omega, ?_⟩
  ·rw [← hk, ← hx]
   refine ownsRow_kept hown (fun g cur hg => ?_)
   rw [Below.heap_setCell _ _ _ _ (fun e => by simp only at e; subst e; rw [hbo1] at hg; cases hg)]
   exact hg
  ·refine ⟨hgrow.os.trans h.B.os, hgrow.tape.trans h.B.tape, hgrow.output.trans h.B.output, by have h1 := hgrow.size; have := h.B.size; rw [World.size_alloc] at h1; simp only [World.size_setCell]; omega, fun j hj => ?_⟩
   rw [← h.B.block j hj]
   obtain ⟨o', ho'⟩ : ∃ o', W.heap[j]? = some o' := ⟨_, Array.getElem?_eq_getElem (by have := h.B.size; omega)⟩
   rw [ho']
   exact old ho' (hne (by omega)) (by omega)
theorem cTermsT {n d : Int} {ts : List Int} (hn : S17 n) (hd : S17 d) (hF : Fr n d) (h : isCf ts n d) (hl : ts.length ≤ 1000) (w : World) (hG : GWorld w) :
  Calls Tryz.prog 19 #[.agg #[.string (T n), .string (T d)]] w fun e w' => ∃ g cap cur, e = .returned (.tuple #[.slice (some ⟨g, 0, none⟩) ts.length cap, .int .i64 0]) ∧ w.heap.size ≤ g ∧ w'.heap[g]? = some (.cells cur 22 (0, 0)) ∧ (∀ (k : Nat) (a : Int), ts[k]? = some a → cur[k]? = some (.string (T a))) ∧ Below w.heap.size w w' := by
 obtain ⟨k, hk⟩ := (CTerms_T h hn hd hF hl).rounds
 refine (convergent_Terms.calls k _ _ _ _ w hG hk).mono ?_
 rintro e w' ⟨v, rfl, hR, hB⟩
 obtain ⟨g, cap, cur, rfl, hg, hh, hc⟩ := row_of_R hR (by simpa using h.ne_nil)
 refine ⟨g, cap, cur, by simp, hg, hh, fun k a ha => hc k (T a) (by simp [ha]), hB⟩
set_option maxRecDepth 100000 in
set_option maxHeartbeats 4000000 in
theorem semi_walk {n d bound : Int} {ts : List Int} (hn1 : -10000000000000 < n) (hn2 : n < 10000000000000) (hF : Fr n d) (hd2 : d < 10000000000000) (hb : 1 ≤ bound) (hb2 : bound ≤ 200) (hts : isCf ts n d) (hl : ts.length ≤ 1000) (w : World) (hG : GWorld w) :
  CallsIn Fence.wide 0 Tryz.prog 25 #[.agg #[.string (T n), .string (T d)], .int .i64 bound] w fun e w' => ∃ v, e = .returned (.tuple #[v, .int .i64 0]) ∧ w'.ownsRow w.heap.size 24 2 v (semis one bound true CS.begin ts).length (fcells (semis one bound true CS.begin ts)) ∧ Below w.heap.size w w' := by
 refine callsIn_of_wp_marks Tryz.func25 rfl trivial ?_ rfl
 simp only [Tryz.ntmps25, List.size_toArray, List.length_cons, List.length_nil, Nat.reduceAdd, Nat.reduceSub, Array.replicate_succ, Array.replicate_zero, List.push_toArray, List.append_toArray, List.nil_append, List.cons_append]
 have hnS : S17 n := by unfold S17; omega
 have hdS : S17 d := by unfold S17; have := hF.1; omega
 have c1 := fun W hG => cBounded hnS hdS hF hb (by omega) W hG
 have c2 := fun W hG => cTermsT hnS hdS hF hts hl W hG
 replace hn1 := Lib.hid hn1
 replace hn2 := Lib.hid hn2
 replace hF := Lib.hid hF
 replace hd2 := Lib.hid hd2
 replace hb := Lib.hid hb
 replace hb2 := Lib.hid hb2
 replace hl := Lib.hid hl
 replace hG := Lib.hid hG
 have c0 := three_alloc (w := w) (W1 := ((w.alloc (.cells #[.string (T n), .string (T d)] 24)).alloc (.cells #[.slice none 0 0] 37)).alloc (.cells #[.int .i64 0] 26)) (Below.refl _ _)
 replace c0 := Lib.hid c0
 gi_wp2_with (first
  | (gi_at_call 51; refine (callsIn_wide.2 (c1 _ (hG.out.below c0.out.2.2.2.1))).mono ?_; rintro e W1 ⟨rfl, H1⟩; obtain ⟨x1, x2, x3, HB1, hz1⟩ := three_alloc H1; obtain ⟨y1, y2⟩ := two_cells x1; replace H1 := Lib.hid H1; replace HB1 := Lib.hid HB1; replace x1 := Lib.hid x1; replace x2 := Lib.hid x2; replace x3 := Lib.hid x3; replace hz1 := Lib.hid hz1)
  | (gi_at_call 19; refine (callsIn_wide.2 (c2 _ (hG.out.below HB1.out))).mono ?_; rintro e W2 ⟨g, cap, cur, rfl, hg, hh, hc, H2⟩; replace H2 := Lib.hid H2; replace hg := Lib.hid hg; replace hh := Lib.hid hh; replace hc := Lib.hid hc)
  | (gi_at_call 52; refine (callsIn_wide.2 (cSemi _ _ _ _ ⟨_, _, _, rfl⟩ ⟨_, _, _, rfl⟩)).mono ?_; rintro e W3 ⟨rfl, hW3⟩; replace hW3 := Lib.hid hW3))
 have hF0 := hF.out
 obtain ⟨G, g0, gs⟩ := search_G (n := n) (d := d) (bound := bound) hn1.out hn2.out hF0.1 hd2.out hb.out (f := one) (fun a last h1 h2 h3 => by unfold one; omega) hts
 have B2 : Below w.heap.size w W2 := HB1.out.trans (H2.out.mono (by have := hz1.out; omega))
 have s2 : w.heap.size + 3 ≤ W2.heap.size := by have := H2.out.size; have := hz1.out; omega
 obtain ⟨W2', hW2'⟩ : ∃ W2', W2' = W2.alloc (.cells #[.slice none 0 0] 37) := ⟨_, rfl⟩
 have sz2 : W2'.heap.size = W2.heap.size + 1 := by rw [hW2', World.size_alloc]
 have e3 := hW3.out
 rw [← hW2'] at e3
 have k22 : Below W2.heap.size W2 W2' := by rw [hW2']; exact (Below.refl W2.heap.size W2).alloc (Nat.le_refl _) _
 have k23 : Below W2'.heap.size W2' W3 := by rw [e3]; exact ((((Below.refl W2'.heap.size W2').alloc (Nat.le_refl _) _).alloc (by simp) _).alloc (by simp; omega) _)
 have in2 : ∀ {k : Nat} {o : Obj}, W1.heap[k]? = some o → W2.heap[k]? = some o := fun {k o} h => (H2.out.block _ (Array.getElem?_eq_some_iff.1 h).1).trans h
 have in3 : ∀ {k : Nat} {o : Obj}, W2.heap[k]? = some o → W3.heap[k]? = some o := fun {k o} h => by
  have h1 := (k22.block _ (Array.getElem?_eq_some_iff.1 h).1).trans h
  exact (k23.block _ (Array.getElem?_eq_some_iff.1 h1).1).trans h1
 have hout : W3.heap[W2.heap.size]? = some (.cells #[.slice none 0 0] 37 (0, 0)) := by
  rw [k23.block _ (by omega), hW2']; exact World.alloc_heap_new _ _
 have hRd : Reads ts bound (.func (.func 53) #[] #[]) W2'.heap.size (W2'.heap.size + 1) (W2'.heap.size + 2) g cap cur W3 := by
  refine ⟨?_, ?_, ?_, in3 hh.out, hc.out⟩
  ·rw [e3, Below.heap_alloc _ _ _ (by simp; omega), Below.heap_alloc _ _ _ (by simp), World.alloc_heap_new]
  ·rw [e3, Below.heap_alloc _ _ _ (by simp)]
   have := World.alloc_heap_new (W2'.alloc (.cells #[.slice (some ⟨g, 0, none⟩) ts.length cap] 34)) (.cells #[.int .i64 bound] 3)
   rwa [World.size_alloc] at this
  ·rw [e3]
   have := World.alloc_heap_new ((W2'.alloc (.cells #[.slice (some ⟨g, 0, none⟩) ts.length cap] 34)).alloc (.cells #[.int .i64 bound] 3)) (.cells #[.func (.func 53) #[] #[]] 79)
   simpa using this
 have hI0 : SemI n d w W2.heap.size (semis one bound true CS.begin ts) 0 W3 :=
  ⟨in3 (in2 x1.out), in3 (in2 x2.out), in3 (in2 x3.out), ⟨_, hout, World.ownsRow_nil _ _ _ _⟩, by have := k23.size; omega, (B2.trans (k22.mono B2.size)).trans (k23.mono (by have := B2.size; omega))⟩
 have hseq := semi_seq (f := one) (fno := 53) hb.out (by have := hb2.out; omega) (by have := hl.out; omega) (enters_of Tryz.func53 (by kernel_rfl) rfl) (fun k a last w hG ha _ => cOne k a last w) G g0 gs hRd
 have hn1w : w.heap.size + 2 < W2.heap.size := by omega
 have hn0 : w.heap.size ≤ W3.heap.size := by have := k23.size; omega
 rw [sz2] at hseq
 clear c0 c1 c2 y1 y2 H1 HB1 x1 x2 x3 hz1 H2 hg hh hc hW3 e3 in2 in3 hout hRd g0 gs k22 k23 sz2 hW2' W2'
 refine wpIn_range_kept' (gf := 84) rfl (enters_of Tryz.func84 (by kernel_rfl) rfl) (fun o ho => by cases o <;> first | rfl | (simp [Obj.isCells] at ho)) hseq (fun _ => rfl)
  (SemI n d w W2.heap.size (semis one bound true CS.begin ts)) ?aFr
  (fun i y b W => W.heap[b]? = some (Obj.cells #[.string (fr y.1 y.2).1, .string (fr y.1 y.2).2] 24 (0, 0)) ∧ SemI n d w W2.heap.size (semis one bound true CS.begin ts) i W)
  (fun i A h => hG.out.below h.B) (fun i A B h hk => h.soft hk hn0) (fun i A l o o' h hl hA ho => h.put (by omega) hA ho)
  ?hI2p hI0 ?hassign ?hbody ?hdone
 case hassign =>
  intro m l i x W hx hI
  obtain ⟨X, hX⟩ : ∃ X, X = W.heap.size := ⟨_, rfl⟩
  simp only [encF]
  gi_wp2
  refine ⟨(Kept.refl _ _ _).alloc _, X, ?_, ?_, hI.soft ((Kept.refl _ _ _).alloc _) (Nat.le_refl _)⟩
  ·rw [← hX]
  ·rw [hX]; exact World.alloc_heap_new _ _
 case hI2p =>
  intro i x b A l o o' h hl hA ho
  refine ⟨?_, h.2.put (by omega) hA ho⟩
  rw [World.putObj_heap_other]
  ·exact h.1
  ·rintro rfl
   rw [hA] at h
   obtain rfl := Option.some.inj h.1
   cases ho
 case hdone =>
  intro D W hI hD hDw
  obtain ⟨v, h1, h2⟩ := hI.out
  obtain ⟨ad, kk, cc, rfl⟩ : ∃ ad kk cc, v = .slice ad kk cc := by
   rcases h2.2 with ⟨rfl, _⟩ | ⟨_, _, _, rfl, _⟩
   ·exact ⟨_, _, _, rfl⟩
   ·exact ⟨_, _, _, rfl⟩
  have q1 := cell0 h1
  replace h1 := Lib.hid h1
  replace h2 := Lib.hid h2
  replace hI := Lib.hid hI
  have q2 := cell0 hI.out.r1
  have q3 := cell0 hI.out.r2
  have q4 := frozen0 (j := 0) hI.out.r1
  have q5 := frozen0 (j := 0) hI.out.r2
  have hD1 : w.heap.size + 3 ≤ D := by
   have h1 := (Array.getElem?_eq_some_iff.1 hI0.r2).1
   omega
  replace hI0 := Lib.hid hI0
  clear hseq
  gi_wp2
  replace hI0 := hI0.out
  have hbo : w.heap.size + 2 < W2.heap.size := hn1w
  have hD2 : ((W.setCell ⟨w.heap.size + 1, 0, none⟩ (.slice ad kk cc)).setCell ⟨w.heap.size + 1 + 1, 0, none⟩ (.int .i64 0)).heap[D]? = some (.deferred (some [])) := by
   rw [Below.heap_setCell _ _ _ _ (by simp only; omega), Below.heap_setCell _ _ _ _ (by simp only; omega)]; exact hD
  refine ⟨by simp, .inl ⟨_, _, rfl, run_takeDeferred hD2, ?_⟩⟩
  have hc5 : (((W.setCell ⟨w.heap.size + 1, 0, none⟩ (.slice ad kk cc)).setCell ⟨w.heap.size + 1 + 1, 0, none⟩ (.int .i64 0)).putObj D (.deferred none)).cell? ⟨w.heap.size + 1, 0, none⟩ = some (.slice ad kk cc) := by
   rw [World.cell?_of_block (w := (W.setCell ⟨w.heap.size + 1, 0, none⟩ (.slice ad kk cc)).setCell ⟨w.heap.size + 1 + 1, 0, none⟩ (.int .i64 0)) (World.putObj_heap_other (by simp only; omega)), World.cell?_of_block (w := W.setCell ⟨w.heap.size + 1, 0, none⟩ (.slice ad kk cc)) (Below.heap_setCell _ _ _ _ (by simp only; omega))]
   exact World.cell?_setCell_same' _ _ _ (by rw [q2]; rfl)
  have hc6 : (((W.setCell ⟨w.heap.size + 1, 0, none⟩ (.slice ad kk cc)).setCell ⟨w.heap.size + 1 + 1, 0, none⟩ (.int .i64 0)).putObj D (.deferred none)).cell? ⟨w.heap.size + 1 + 1, 0, none⟩ = some (.int .i64 0) := by
   rw [World.cell?_of_block (w := (W.setCell ⟨w.heap.size + 1, 0, none⟩ (.slice ad kk cc)).setCell ⟨w.heap.size + 1 + 1, 0, none⟩ (.int .i64 0)) (World.putObj_heap_other (by simp only; omega))]
   refine World.cell?_setCell_same' _ _ _ ?_
   rw [World.cell?_of_block (w := W) (Below.heap_setCell _ _ _ _ (by simp only; omega)), q3]; rfl
  refine ⟨.tuple #[.slice ad kk cc, .int .i64 0], ?_, _, rfl, ?_, ?_⟩
  ·simp [results, Tryz.f25, go_sem, hc5, hc6]
  ·have h3 := h2.out
   rw [List.take_length] at h3
   obtain ⟨l1, l2⟩ := h3
   refine ⟨l1, ?_⟩
   rcases l2 with l2 | ⟨g, cap, cur, l3, l4, l5, l6⟩
   ·exact .inl l2
   ·refine .inr ⟨g, cap, cur, l3, by have := hI0.sz; have := hI.out.B.size; omega, ?_, l6⟩
    have hne : D ≠ g := by
     rintro rfl
     rw [hD] at l5; cases l5
    rw [World.putObj_heap_other (Ne.symm hne), Below.heap_setCell _ _ _ _ (by simp only; omega), Below.heap_setCell _ _ _ _ (by simp only; omega)]
    exact l5
  ·exact ((hI.out.B.setCell (p := ⟨w.heap.size + 1, 0, none⟩) (by simp) _).setCell (p := ⟨w.heap.size + 1 + 1, 0, none⟩) (by simp only; omega) _).trans (belowK_b (w := w) (Nat.le_refl _) _ D _ _ (by omega) hD2 rfl rfl)
 case hbody =>
  intro m l i y b W hy hI
  obtain ⟨hyb, hI⟩ := hI
  obtain ⟨v, h1, h2⟩ := hI.out
  obtain ⟨ad, kk, cc, rfl⟩ : ∃ ad kk cc, v = .slice ad kk cc := by
   rcases h2.2 with ⟨rfl, _⟩ | ⟨_, _, _, rfl, _⟩
   ·exact ⟨_, _, _, rfl⟩
   ·exact ⟨_, _, _, rfl⟩
  have hkk : kk = ((semis one bound true CS.begin ts).take i).length := by
   rcases h2.2 with ⟨e1, e2⟩ | ⟨_, _, _, e1, _⟩
   ·injection e1 with _ e3 _; omega
   ·injection e1
  have hgood := semis_all (f := one) (M := 10000000000000) (by have := hn1.out; omega) (by have := hn2.out; omega) hF0.1 hb.out hts
  have hlen := semis_len (f := one) hF0.1 hb.out hts
  have hyg := hgood y (List.mem_of_getElem? hy)
  have hti : ((semis one bound true CS.begin ts).take i).length ≤ (semis one bound true CS.begin ts).length := by rw [List.length_take]; omega
  have hk201 : kk ≤ 201 := by have := hb2.out; omega
  have hstep : (semis one bound true CS.begin ts).take (i + 1) = (semis one bound true CS.begin ts).take i ++ [y] := by rw [List.take_add_one, hy]; rfl
  replace hyb := hyg.fr ▸ hyb
  have q1 := cell0 h1
  obtain ⟨q2, q3⟩ := two_cells hyb
  have q4 := frozen0 (j := 0) h1
  have hnk : ¬ ((kk : Int) = 1000) := by omega
  replace h1 := Lib.hid h1
  replace h2 := Lib.hid h2
  replace hI := Lib.hid hI
  replace hI0 := Lib.hid hI0
  replace hyg := Lib.hid hyg
  replace hyb := Lib.hid hyb
  replace hgood := Lib.hid hgood
  replace hlen := Lib.hid hlen
  replace hti := Lib.hid hti
  replace hstep := Lib.hid hstep
  replace hy := Lib.hid hy
  replace hk201 := Lib.hid hk201
  replace hkk := Lib.hid hkk
  clear hseq
  have h2' : W.ownsRow (W2.heap.size + 1) 24 2 (.slice ad kk cc) kk (fcells ((semis one bound true CS.begin ts).take i)) := by have := h2.out; rwa [← hkk.out] at this
  replace h2 := Lib.hid h2'
  clear h2'
  obtain ⟨i0, hi, hz0, hz1, hz2⟩ := info_parts info24
  gi_wp2_with (gi_at_builtin; refine wpListIn_append_own _ rfl _ _ 37 rfl (W2.heap.size + 1) 24 i0 (.agg #[(.string ⟨#[]⟩), (.string ⟨#[]⟩)]) 2 32 Tryz.underlying37 hi hz0 hz1 hz2 rfl (by decide) _ _ _ rfl (h2.out.alloc _) ⟨W.heap.size, 0, none⟩ 1 1 [.string (T y.1), .string (T y.2)] rfl rfl (two_new _ _ _ _) (by intro u hu; simp at hu; rcases hu with rfl | rfl <;> rfl) (by have := hk201.out; unfold maxLen; omega) (by have := hk201.out; omega) (by have := hI.out.sz; simp; omega) ?_)
  intro v' w1 hown' hgrow _
  obtain ⟨g', cap', rfl⟩ := own_succ hown'
  have hI' := hI.out.app h1.out h2.out hown' hgrow hn1w (by rw [hstep.out, hkk.out]; simp) (by rw [hstep.out, fcells_append]; rfl)
  have hb1 : w1.heap[W2.heap.size]? = some (.cells #[.slice ad kk cc] 37 (0, 0)) := heap_old hgrow h1.out (fun he => by have := (row_block h2.out he.symm).1; omega)
  have q5 := cell0 hb1
  have q6 := frozen0 (j := 0) hb1
  replace hI' := Lib.hid hI'
  replace hgrow := Lib.hid hgrow
  replace hown' := Lib.hid hown'
  gi_wp2
  exact hI'.out
structure SemiOk (x1 x2 : ByteArray) (bound : Int) (p : Int × Int × List Int) : Prop where
 e1 : x1 = T p.1
 e2 : x2 = T p.2.1
 n1 : -10000000000000 < p.1
 n2 : p.1 < 10000000000000
 fr : Fr p.1 p.2.1
 d2 : p.2.1 < 10000000000000
 b1 : 1 ≤ bound
 b2 : bound ≤ 200
 ts : isCf p.2.2 p.1 p.2.1
 tl : p.2.2.length ≤ 1000
def semiRow (_ _ bound : Int) (ts : List Int) : List (Int × Int) := semis one bound true CS.begin ts
namespace PF
open Classical in
noncomputable def convergent_Semiconvergents.f (k : Nat) (x1 x2 : ByteArray) (bound : Int) : Option (List S24 × Int) :=
 if h : ∃ p, SemiOk x1 x2 bound p then some ((semiRow h.choose.1 h.choose.2.1 bound h.choose.2.2).map sf, 0) else (convergent_bounded.f k x1 x2 bound).bind fun e => if e = 0 then none else some ([], e)
end PF
theorem Semi_yes {n d bound : Int} {ts : List Int} (h : SemiOk (T n) (T d) bound (n, d, ts)) (k : Nat) : convergent_Semiconvergents.f k (T n) (T d) bound = some ((semiRow n d bound ts).map sf, 0) := by
 unfold convergent_Semiconvergents.f
 have hc : ∃ p, SemiOk (T n) (T d) bound p := ⟨_, h⟩
 rw [dif_pos hc]
 have hs := hc.choose_spec
 have e1 := T_inj hs.e1
 have e2 := T_inj hs.e2
 have e3 : hc.choose.2.2 = ts := hs.ts.unique (by rw [← e1, ← e2]; exact h.ts)
 rw [e3, ← e1, ← e2]
set_option maxRecDepth 100000 in
set_option maxHeartbeats 4000000 in
theorem semi_err (k : Nat) (x1 x2 : ByteArray) (bound e : Int) (w : World) (hG : GWorld w) (h : convergent_bounded.f k x1 x2 bound = some e) (he : e ≠ 0) :
  Calls Tryz.prog 25 #[.agg #[.string x1, .string x2], .int .i64 bound] w fun e' w' => e' = .returned (.tuple #[.slice none 0 0, .int .i64 e]) ∧ Below w.heap.size w w' := by
 have c1 := fun W hG => convergent_bounded.calls k _ _ _ _ W hG h
 have c0 := three_alloc (w := w) (W1 := ((w.alloc (.cells #[.string x1, .string x2] 24)).alloc (.cells #[.slice none 0 0] 37)).alloc (.cells #[.int .i64 0] 26)) (Below.refl _ _)
 refine (callsIn_wide (n := 0)).1 (callsIn_of_wp Tryz.func25 rfl trivial ?_ rfl)
 simp only [Tryz.ntmps25, List.size_toArray, List.length_cons, List.length_nil, Nat.reduceAdd, Nat.reduceSub, Array.replicate_succ, Array.replicate_zero, List.push_toArray, List.append_toArray, List.nil_append, List.cons_append]
 replace c1 := Lib.hid c1
 replace c0 := Lib.hid c0
 replace h := Lib.hid h
 replace hG := Lib.hid hG
 gi_wp2_with (gi_at_call 51; refine (callsIn_wide.2 (c1.out _ (hG.out.below c0.out.2.2.2.1))).mono ?_; rintro e' W1 ⟨rfl, H1⟩; obtain ⟨x1', x2', x3', HB1, hz1⟩ := three_alloc H1; have q2 := cell0 x2'; have q3 := cell0 x3'; have q4 := frozen0 (j := 0) x2'; have q5 := frozen0 (j := 0) x3'; replace H1 := Lib.hid H1; replace HB1 := Lib.hid HB1; replace x1' := Lib.hid x1'; replace x2' := Lib.hid x2'; replace x3' := Lib.hid x3'; replace hz1 := Lib.hid hz1)
 have hc5 : ((W1.setCell ⟨w.heap.size + 1, 0, none⟩ (.slice none 0 0)).setCell ⟨w.heap.size + 1 + 1, 0, none⟩ (.int .i64 e)).cell? ⟨w.heap.size + 1, 0, none⟩ = some (.slice none 0 0) := by
  rw [World.cell?_of_block (w := W1.setCell ⟨w.heap.size + 1, 0, none⟩ (.slice none 0 0)) (Below.heap_setCell _ _ _ _ (by simp only; omega))]
  exact World.cell?_setCell_same' _ _ _ (by rw [q2]; rfl)
 have hc6 : ((W1.setCell ⟨w.heap.size + 1, 0, none⟩ (.slice none 0 0)).setCell ⟨w.heap.size + 1 + 1, 0, none⟩ (.int .i64 e)).cell? ⟨w.heap.size + 1 + 1, 0, none⟩ = some (.int .i64 e) := by
  refine World.cell?_setCell_same' _ _ _ ?_
  rw [World.cell?_of_block (w := W1) (Below.heap_setCell _ _ _ _ (by simp only; omega)), q3]; rfl
 refine ⟨rfl, .tuple #[.slice none 0 0, .int .i64 e], ?_, rfl, ?_⟩
 ·simp [results, Tryz.f25, go_sem, hc5, hc6]
 ·exact (HB1.out.setCell (p := ⟨w.heap.size + 1, 0, none⟩) (by simp) _).setCell (p := ⟨w.heap.size + 1 + 1, 0, none⟩) (by simp only; omega) _
theorem PF.convergent_Semiconvergents.calls (k : Nat) (a0_0 a0_1 : ByteArray) (a1 : Int) (r1 : List S24) (r2 : Int) (w : World) (hG_ : GWorld w) (h : convergent_Semiconvergents.f k a0_0 a0_1 a1 = some (r1, r2)) :
  Calls Tryz.prog 25 #[.agg #[.string a0_0, .string a0_1], .int .i64 a1] w fun e w' => ∃ v0_ : Value, e = .returned (.tuple #[v0_, .int .i64 r2]) ∧ Kd.R k24 24 w' w.heap.size (fun _ => True) v0_ r1 ∧ Below w.heap.size w w' := by
 unfold convergent_Semiconvergents.f at h
 by_cases hc : ∃ p, SemiOk a0_0 a0_1 a1 p
 ·rw [dif_pos hc] at h
  have hs := hc.choose_spec
  obtain ⟨rfl, rfl⟩ := Prod.mk.inj (Option.some.inj h)
  generalize hc.choose = p at *
  obtain ⟨n, d, ts⟩ := p
  obtain ⟨e1, e2, n1, n2, hF, d2, b1, b2, hts, htl⟩ := hs
  simp only at e1 e2 n1 n2 hF d2 hts htl
  subst e1 e2
  refine (callsIn_wide (n := 0)).1 ((semi_walk n1 n2 hF d2 b1 b2 hts htl w hG_).mono ?_)
  rintro e w' ⟨v, rfl, hrow, hB⟩
  exact ⟨v, rfl, R_of_row hrow, hB⟩
 ·rw [dif_neg hc] at h
  obtain ⟨e, h1, h⟩ := Option.bind_eq_some_iff.1 h
  by_cases he : e = 0
  ·rw [if_pos he] at h; cases h
  ·rw [if_neg he] at h
   obtain ⟨rfl, rfl⟩ := Prod.mk.inj (Option.some.inj h)
   refine (semi_err k _ _ _ _ w hG_ h1 he).mono ?_
   rintro e' w' ⟨rfl, hB⟩
   exact ⟨_, rfl, Kd.R_nil _ _ _ _ _, hB⟩
end Go.Proofs.YtidajgkepdkcbaaGreatDoor
end
section
namespace Go.Proofs.YtidajgkepdkcbaaGreatDoor
open Go.RowKit Go.Lib Go.Proofs.YtidajgkepdkcbaaGreatDoorW.PrintWords Go.Proofs.YtidajgkepdkcbaaGreatDoorW.PrintLast Go.Proofs.YtidajgkepdkcbaaGreatDoorW.PrintMore PF
def fs (y : Int × Int) : S24 := ⟨(fr y.1 y.2).1, (fr y.1 y.2).2⟩
end Go.Proofs.YtidajgkepdkcbaaGreatDoor
end
section
namespace Go.Proofs.YtidajgkepdkcbaaGreatDoor
open Go.RowKit Go.Lib Go.Proofs.YtidajgkepdkcbaaGreatDoorW.PrintWords Go.Proofs.YtidajgkepdkcbaaGreatDoorW.PrintLast Go.Proofs.YtidajgkepdkcbaaGreatDoorW.PrintMore PF
attribute [local go_sem] Oper.semAt_some wide_fn2 wide_depth2
def opc : Option (Int × Int) → Array Value
 | none => #[.string ⟨#[]⟩, .string ⟨#[]⟩]
 | some y => #[.string (T y.1), .string (T y.2)]
theorem opc_two (o : Option (Int × Int)) : ∃ u v, opc o = #[.string u, .string v] := by
 cases o with
 | none => exact ⟨_, _, rfl⟩
 | some y => exact ⟨_, _, rfl⟩
theorem foldAr_snoc (n d : Int) : ∀ (ys : List (Int × Int)) (y : Int × Int) (lo hi : Option (Int × Int)),
  foldAr n d lo hi (ys ++ [y]) = if y.1 * d < n * y.2 then (some y, (foldAr n d lo hi ys).2) else ((foldAr n d lo hi ys).1, some y)
 | [], y, lo, hi => by simp only [List.nil_append, foldAr]
 | z :: ys, y, lo, hi => by
  simp only [List.cons_append, foldAr]
  split <;> exact foldAr_snoc n d ys y _ _
structure ArI (n d : Int) (w : World) (ys : List (Int × Int)) (i : Nat) (W : World) : Prop where
 x : W.heap[w.heap.size]? = some (.cells #[.string (T n), .string (T d)] 24 (0, 0))
 lo : W.heap[w.heap.size + 1]? = some (.cells (opc (foldAr n d none none (ys.take i)).1) 24 (0, 0))
 hi : W.heap[w.heap.size + 1 + 1]? = some (.cells (opc (foldAr n d none none (ys.take i)).2) 24 (0, 0))
 sz : w.heap.size + 3 ≤ W.heap.size
 B : Below w.heap.size w W
theorem ArI.soft {n d : Int} {w : World} {ys : List (Int × Int)} {i : Nat} {A B : World} (h : ArI n d w ys i A) {b : Nat} (hk : Kept softI b A B) (hb : w.heap.size ≤ b) : ArI n d w ys i B :=
 ⟨hk.block _ _ h.x (.inr rfl), hk.block _ _ h.lo (.inr rfl), hk.block _ _ h.hi (.inr rfl), Nat.le_trans h.sz hk.size, hk.below h.B hb (Nat.le_refl _)⟩
theorem ArI.put {n d : Int} {w : World} {ys : List (Int × Int)} {i : Nat} {A : World} (h : ArI n d w ys i A) {l : Nat} {o o' : Obj} (hw : w.heap.size ≤ l) (hl : A.heap[l]? = some o) (ho : o.isCells = false) : ArI n d w ys i (A.putObj l o') := by
 have keep : ∀ {k : Nat} {c : Array Value} {t : Nat}, A.heap[k]? = some (.cells c t (0, 0)) → (A.putObj l o').heap[k]? = some (.cells c t (0, 0)) := by
  intro k c t hk
  rw [World.putObj_heap_other]
  ·exact hk
  ·rintro rfl
   rw [hl] at hk
   obtain rfl := Option.some.inj hk
   cases ho
 refine ⟨keep h.x, keep h.lo, keep h.hi, by simpa using h.sz, ⟨h.B.os, h.B.tape, h.B.output, by simpa using h.B.size, fun k hk => ?_⟩⟩
 rw [World.putObj_heap_other (by omega)]
 exact h.B.block k hk
theorem put_two {w : World} {g t : Nat} {a b u v : Value} (h : w.heap[g]? = some (.cells #[a, b] t (0, 0))) : ((w.setCell ⟨g, 0, none⟩ u).setCell ⟨g, 1, none⟩ v).heap[g]? = some (.cells #[u, v] t (0, 0)) := by
 simp [World.setCell, Array.getElem_modify, (Array.getElem?_eq_some_iff.1 h).1, (Array.getElem?_eq_some_iff.1 h).2]
theorem ArI.set {n d : Int} {w : World} {ys : List (Int × Int)} {i g : Nat} {W w1 : World} (h : ArI n d w ys i W) (hB : Below W.heap.size W w1) (hg : g = w.heap.size + 1 ∨ g = w.heap.size + 1 + 1) {a b : Value} (hcur : W.heap[g]? = some (.cells #[a, b] 24 (0, 0))) {y : Int × Int}
  (hlo : (foldAr n d none none (ys.take (i + 1))).1 = if g = w.heap.size + 1 then some y else (foldAr n d none none (ys.take i)).1) (hhi : (foldAr n d none none (ys.take (i + 1))).2 = if g = w.heap.size + 1 then (foldAr n d none none (ys.take i)).2 else some y) :
  Kept softB 0 W ((w1.setCell ⟨g, 0, none⟩ (.string (T y.1))).setCell ⟨g, 1, none⟩ (.string (T y.2))) ∧ ArI n d w ys (i + 1) ((w1.setCell ⟨g, 0, none⟩ (.string (T y.1))).setCell ⟨g, 1, none⟩ (.string (T y.2))) := by
 have old : ∀ {j : Nat} {o' : Obj}, W.heap[j]? = some o' → j ≠ g → ((w1.setCell ⟨g, 0, none⟩ (.string (T y.1))).setCell ⟨g, 1, none⟩ (.string (T y.2))).heap[j]? = some o' := fun {j o'} h1 h2 => by
  rw [Below.heap_setCell _ _ _ _ h2, Below.heap_setCell _ _ _ _ h2]
  exact (hB.block j (Array.getElem?_eq_some_iff.1 h1).1).trans h1
 have hnew : ((w1.setCell ⟨g, 0, none⟩ (.string (T y.1))).setCell ⟨g, 1, none⟩ (.string (T y.2))).heap[g]? = some (.cells #[.string (T y.1), .string (T y.2)] 24 (0, 0)) :=
  put_two ((hB.block g (Array.getElem?_eq_some_iff.1 hcur).1).trans hcur)
 refine ⟨⟨hB.os, hB.tape, hB.output, by simpa using hB.size, fun j o' ho hs => ?_⟩, ?_⟩
 ·rcases hs with hs | hs
  ·omega
  ·refine old ho (fun he => ?_)
   subst he
   rw [hcur] at ho
   obtain rfl := Option.some.inj ho
   simp [softB, ofT] at hs
 ·refine ⟨old h.x (by omega), ?_, ?_, by have := h.sz; have := hB.size; simp only [World.size_setCell]; omega, ((h.B.trans (hB.mono h.B.size)).setCell (p := ⟨g, 0, none⟩) (by simp only; omega) _).setCell (p := ⟨g, 1, none⟩) (by simp only; omega) _⟩
  ·rw [hlo]
   rcases hg with rfl | rfl
   ·rw [if_pos rfl]; exact hnew
   ·rw [if_neg (by omega)]; exact old h.lo (by omega)
  ·rw [hhi]
   rcases hg with rfl | rfl
   ·rw [if_pos rfl]; exact old h.hi (by omega)
   ·rw [if_neg (by omega)]; exact hnew
theorem SumOk.swap {a b c e : Int} (h : SumOk a b c e) : SumOk c e a b := ⟨h.sc, h.se, h.sa, h.sb, h.e0, h.b0, h.cb, h.ae, by rw [Nat.mul_comm]; exact h.be⟩
set_option maxRecDepth 100000 in
set_option maxHeartbeats 4000000 in
theorem around_walk {n d bound : Int} {ts : List Int} {A B C E : Int} (hn1 : -1000000 < n) (hn2 : n < 10000000) (hF : Fr n d) (hd2 : d < 10000000) (hb : 1 ≤ bound) (hb2 : bound ≤ 60) (hts : isCf ts n d) (hl : ts.length ≤ 1000)
  (hres : foldAr n d none none (semis lastF bound true CS.begin ts) = (some (A, B), some (C, E))) (w : World) (hG : GWorld w) :
  CallsIn Fence.wide 0 Tryz.prog 60 #[.agg #[.string (T n), .string (T d)], .int .i64 bound] w fun e w' => e = .returned (.tuple #[.agg #[.string (T A), .string (T B)], .agg #[.string (T C), .string (T E)]]) ∧ Below w.heap.size w w' := by
 refine callsIn_of_wp_marks Tryz.func60 rfl trivial ?_ rfl
 simp only [Tryz.ntmps60, List.size_toArray, List.length_cons, List.length_nil, Nat.reduceAdd, Nat.reduceSub, Array.replicate_succ, Array.replicate_zero, List.push_toArray, List.append_toArray, List.nil_append, List.cons_append]
 have hnS : S17 n := by unfold S17; omega
 have hdS : S17 d := by unfold S17; have := hF.1; omega
 have c2 := fun W hG => cTerms hnS hdS hF.1 hts hl W hG
 replace hn1 := Lib.hid hn1
 replace hn2 := Lib.hid hn2
 replace hF := Lib.hid hF
 replace hd2 := Lib.hid hd2
 replace hb := Lib.hid hb
 replace hb2 := Lib.hid hb2
 replace hl := Lib.hid hl
 replace hG := Lib.hid hG
 replace hres := Lib.hid hres
 have c0 := three_alloc (w := w) (W1 := ((w.alloc (.cells #[.string (T n), .string (T d)] 24)).alloc (.cells #[.string ⟨#[]⟩, .string ⟨#[]⟩] 24)).alloc (.cells #[.string ⟨#[]⟩, .string ⟨#[]⟩] 24)) (Below.refl _ _)
 replace c0 := Lib.hid c0
 gi_wp2_with (first
  | (gi_at_call 46; refine (callsIn_wide.2 (c2 _ (hG.out.below c0.out.2.2.2.1))).mono ?_; rintro e W2 ⟨g, cap, cur, rfl, hg, hh, hc, H2⟩; obtain ⟨x1, x2, x3, HB2, hz2⟩ := three_alloc H2; replace H2 := Lib.hid H2; replace hg := Lib.hid hg; replace hh := Lib.hid hh; replace hc := Lib.hid hc; replace HB2 := Lib.hid HB2; replace x1 := Lib.hid x1; replace x2 := Lib.hid x2; replace x3 := Lib.hid x3; replace hz2 := Lib.hid hz2)
  | (gi_at_call 52; refine (callsIn_wide.2 (cSemi _ _ _ _ ⟨_, _, _, rfl⟩ ⟨_, _, _, rfl⟩)).mono ?_; rintro e W3 ⟨rfl, hW3⟩; replace hW3 := Lib.hid hW3))
 have hF0 := hF.out
 obtain ⟨G, g0, gs⟩ := search_G (n := n) (d := d) (bound := bound) (by have := hn1.out; omega) (by have := hn2.out; omega) hF0.1 (by have := hd2.out; omega) hb.out (f := lastF) (fun a last h1 h2 h3 => by unfold lastF; omega) hts
 have e3 := hW3.out
 have k23 : Below W2.heap.size W2 W3 := by rw [e3]; exact ((((Below.refl W2.heap.size W2).alloc (Nat.le_refl _) _).alloc (by simp) _).alloc (by simp; omega) _)
 have in3 : ∀ {k : Nat} {o : Obj}, W2.heap[k]? = some o → W3.heap[k]? = some o := fun {k o} h => (k23.block _ (Array.getElem?_eq_some_iff.1 h).1).trans h
 have hRd : Reads ts bound (.func (.func 92) #[] #[]) W2.heap.size (W2.heap.size + 1) (W2.heap.size + 2) g cap cur W3 := by
  refine ⟨?_, ?_, ?_, in3 hh.out, hc.out⟩
  ·rw [e3, Below.heap_alloc _ _ _ (by simp; omega), Below.heap_alloc _ _ _ (by simp), World.alloc_heap_new]
  ·rw [e3, Below.heap_alloc _ _ _ (by simp)]
   have := World.alloc_heap_new (W2.alloc (.cells #[.slice (some ⟨g, 0, none⟩) ts.length cap] 34)) (.cells #[.int .i64 bound] 3)
   rwa [World.size_alloc] at this
  ·rw [e3]
   have := World.alloc_heap_new ((W2.alloc (.cells #[.slice (some ⟨g, 0, none⟩) ts.length cap] 34)).alloc (.cells #[.int .i64 bound] 3)) (.cells #[.func (.func 92) #[] #[]] 79)
   simpa using this
 have hI0 : ArI n d w (semis lastF bound true CS.begin ts) 0 W3 :=
  ⟨in3 x1.out, in3 x2.out, in3 x3.out, by have := hz2.out; have := k23.size; omega, HB2.out.trans (k23.mono (by have := HB2.out.size; omega))⟩
 have hseq := semi_seq (f := lastF) (fno := 92) hb.out (by have := hb2.out; omega) (by have := hl.out; omega) (enters_of Tryz.func92 (by kernel_rfl) rfl) (fun k a last w hG ha _ => cLast k a last w) G g0 gs hRd
 have hn0 : w.heap.size + 3 ≤ W3.heap.size := hI0.sz
 clear c0 c2 H2 hg hh hc HB2 x1 x2 x3 hz2 hW3 e3 in3 hRd g0 gs k23
 refine wpIn_range_kept' (gf := 84) rfl (enters_of Tryz.func84 (by kernel_rfl) rfl) (fun o ho => by cases o <;> first | rfl | (simp [Obj.isCells] at ho)) hseq (fun _ => rfl)
  (ArI n d w (semis lastF bound true CS.begin ts)) ?aFr
  (fun i y b W => W.heap[b]? = some (Obj.cells #[.string (fr y.1 y.2).1, .string (fr y.1 y.2).2] 24 (0, 0)) ∧ ArI n d w (semis lastF bound true CS.begin ts) i W)
  (fun i A h => hG.out.below h.B) (fun i A B h hk => h.soft hk (by omega)) (fun i A l o o' h hl hA ho => h.put (by omega) hA ho)
  ?hI2p hI0 ?hassign ?hbody ?hdone
 case hassign =>
  intro m l i x W hx hI
  obtain ⟨X, hX⟩ : ∃ X, X = W.heap.size := ⟨_, rfl⟩
  simp only [encF]
  gi_wp2
  refine ⟨(Kept.refl _ _ _).alloc _, X, ?_, ?_, hI.soft ((Kept.refl _ _ _).alloc _) (Nat.le_refl _)⟩
  ·rw [← hX]
  ·rw [hX]; exact World.alloc_heap_new _ _
 case hI2p =>
  intro i x b A l o o' h hl hA ho
  refine ⟨?_, h.2.put (by omega) hA ho⟩
  rw [World.putObj_heap_other]
  ·exact h.1
  ·rintro rfl
   rw [hA] at h
   obtain rfl := Option.some.inj h.1
   cases ho
 case hdone =>
  intro D W hI hD hDw
  have hlo := hI.lo
  have hhi := hI.hi
  rw [List.take_length, hres.out] at hlo hhi
  simp only [opc] at hlo hhi
  obtain ⟨q0, q1⟩ := two_cells hlo
  obtain ⟨q2, q3⟩ := two_cells hhi
  replace hlo := Lib.hid hlo
  replace hhi := Lib.hid hhi
  replace hI := Lib.hid hI
  replace hI0 := Lib.hid hI0
  replace hD := Lib.hid hD
  replace hDw := Lib.hid hDw
  clear hseq
  have hne : ¬ ((T C).toList = []) := by rw [T_toList]; intro h; have := itoa_pos_len C; rw [h] at this; simp at this
  have hD1 : w.heap.size + 3 ≤ D := by have := hDw.out; omega
  gi_wp2
  refine wpIn_region_vals (by kernel_rfl) [(0, 27, .agg #[.string (T A), .string (T B)]), (1, 28, .agg #[.string (T C), .string (T E)])]
   (fun W' => W'.heap[w.heap.size + 1]? = some (.cells #[.string (T A), .string (T B)] 24 (0, 0)) ∧ W'.heap[w.heap.size + 1 + 1]? = some (.cells #[.string (T C), .string (T E)] 24 (0, 0)) ∧ W'.heap[D]? = some (.deferred (some [])) ∧ Below w.heap.size w W') ?rhlt ?rh0 ?rhB ?rhV ?rhs ?rhend
  case rhlt =>
   intro i' o ho e he hbe
   have hlt : i' < 4 := by simpa using (Array.getElem?_eq_some_iff.1 ho).1
   rcases i' with _ | _ | _ | _ | i'
   all_goals try (exfalso; omega)
   all_goals (
    simp only [List.getElem?_toArray, List.getElem?_cons_zero, List.getElem?_cons_succ, Option.some.injEq] at ho
    subst ho
    simp at he
    try (rcases he with rfl | rfl | rfl | rfl | rfl <;> simp)
    try (rcases he with rfl | rfl | rfl <;> simp))
  case rh0 => simp [putV, sel]
  case rhB => exact ⟨hlo.out, hhi.out, hD.out, ⟨hI.out.B.os, hI.out.B.tape, hI.out.B.output, hI.out.B.size, hI.out.B.block⟩⟩
  case rhV => intro e he; simp at he; rcases he with rfl | rfl <;> simp
  case rhend =>
   intro W' hB
   obtain ⟨b1, b2, b3, b4⟩ := hB
   simp only [putV, List.foldl_cons, List.foldl_nil, List.setIfInBounds_toArray, List.set_cons_zero, List.set_cons_succ, sel_true]
   obtain ⟨c1, c2⟩ := two_cells b1
   obtain ⟨c3, c4⟩ := two_cells b2
   replace b1 := Lib.hid b1
   replace b2 := Lib.hid b2
   replace b3 := Lib.hid b3
   replace b4 := Lib.hid b4
   gi_wp2
   refine ⟨by simp, .inl ⟨_, _, rfl, run_takeDeferred b3.out, ?_⟩⟩
   have k1 : (W'.putObj D (.deferred none)).heap[w.heap.size + 1]? = W'.heap[w.heap.size + 1]? := World.putObj_heap_other (by omega)
   have k2 : (W'.putObj D (.deferred none)).heap[w.heap.size + 1 + 1]? = W'.heap[w.heap.size + 1 + 1]? := World.putObj_heap_other (by omega)
   obtain ⟨d1, d2⟩ := two_cells (k1.trans b1.out)
   obtain ⟨d3, d4⟩ := two_cells (k2.trans b2.out)
   refine ⟨.tuple #[.agg #[.string (T A), .string (T B)], .agg #[.string (T C), .string (T E)]], ?_, rfl, ?_⟩
   ·simp [results, Tryz.f60, go_sem, d1, d2, d3, d4]
   ·exact b4.out.trans (belowK_b (w := w) (Nat.le_refl _) _ D _ _ (by omega) b3.out rfl rfl)
  case rhs =>
   intro b' i' o w'' ho hB hbi hdep
   obtain ⟨b1, b2, b3, b4⟩ := hB
   obtain ⟨c1, c2⟩ := two_cells b1
   obtain ⟨c3, c4⟩ := two_cells b2
   have f1 := frozen0 (j := 0) b1
   have f2 := frozen0 (j := 1) b1
   have f3 := frozen0 (j := 0) b2
   have f4 := frozen0 (j := 1) b2
   replace b1 := Lib.hid b1
   replace b2 := Lib.hid b2
   replace b3 := Lib.hid b3
   replace b4 := Lib.hid b4
   have hlt : i' < 4 := by simpa using (Array.getElem?_eq_some_iff.1 ho).1
   rcases i' with _ | _ | _ | _ | i'
   all_goals try (exfalso; omega)
   all_goals (
    simp only [List.getElem?_toArray, List.getElem?_cons_zero, List.getElem?_cons_succ, Option.some.injEq, Nat.zero_add, Nat.reduceAdd] at ho
    subst ho
    clear hlt
    try simp [Region.binds] at hdep
    simp only [putV, List.foldl_cons, List.foldl_nil, List.setIfInBounds_toArray, List.set_cons_zero, List.set_cons_succ]
    refine wpOpIn_step rfl (fun K hK => ?_)
    rw [if_pos (by rfl)]
    try simp only [Nat.zero_add, Nat.reduceAdd] at hbi
    try simp only [Nat.zero_add, Nat.reduceAdd] at hK
    try simp only [hdep, sel_true]
    replace hK := Lib.hid hK
    gi_wp2)
   all_goals first
    | exact hK.out _ _ ⟨by simp [sel_true], b1.out, b2.out, b3.out, b4.out⟩
    | exact hK.out _ _ ⟨by simp [sel_true, hdep], put_two b1.out, by rw [Below.heap_setCell _ _ _ _ (by simp only; omega), Below.heap_setCell _ _ _ _ (by simp only; omega)]; exact b2.out, by rw [Below.heap_setCell _ _ _ _ (by simp only; omega), Below.heap_setCell _ _ _ _ (by simp only; omega)]; exact b3.out, (b4.out.setCell (p := ⟨w.heap.size + 1, 0, none⟩) (by simp only; omega) _).setCell (p := ⟨w.heap.size + 1, 1, none⟩) (by simp only; omega) _⟩
    | exact hK.out _ _ ⟨by simp [sel_true, hdep], by rw [Below.heap_setCell _ _ _ _ (by simp only; omega), Below.heap_setCell _ _ _ _ (by simp only; omega)]; exact b1.out, put_two b2.out, by rw [Below.heap_setCell _ _ _ _ (by simp only; omega), Below.heap_setCell _ _ _ _ (by simp only; omega)]; exact b3.out, (b4.out.setCell (p := ⟨w.heap.size + 1 + 1, 0, none⟩) (by simp only; omega) _).setCell (p := ⟨w.heap.size + 1 + 1, 1, none⟩) (by simp only; omega) _⟩
 case hbody =>
  intro m l i y b W hy hI
  obtain ⟨hyb, hI⟩ := hI
  have hgood := semis_all (f := lastF) (M := 10000000) (by have := hn1.out; omega) (by have := hn2.out; omega) hF0.1 hb.out hts
  have hyg := hgood y (List.mem_of_getElem? hy)
  have hstep : (semis lastF bound true CS.begin ts).take (i + 1) = (semis lastF bound true CS.begin ts).take i ++ [y] := by rw [List.take_add_one, hy]; rfl
  have hfold := foldAr_snoc n d ((semis lastF bound true CS.begin ts).take i) y none none
  rw [← hstep] at hfold
  replace hyb := hyg.fr ▸ hyb
  obtain ⟨q2, q3⟩ := two_cells hyb
  obtain ⟨q0, q1⟩ := two_cells hI.x
  obtain ⟨k1, hk1⟩ := (FCompare_T (hyg.sumOk hn1.out hn2.out hF0.1 hd2.out hb2.out (by omega)).swap).rounds
  have c1 := fun w' hG => fraction_Compare.calls k1 _ _ _ _ _ w' hG hk1
  obtain ⟨u1, v1, e1⟩ := opc_two (foldAr n d none none ((semis lastF bound true CS.begin ts).take i)).1
  obtain ⟨u2, v2, e2⟩ := opc_two (foldAr n d none none ((semis lastF bound true CS.begin ts).take i)).2
  have hlo := hI.lo
  have hhi := hI.hi
  rw [e1] at hlo
  rw [e2] at hhi
  replace c1 := Lib.hid c1
  replace hk1 := Lib.hid hk1
  replace e1 := Lib.hid e1
  replace e2 := Lib.hid e2
  replace hlo := Lib.hid hlo
  replace hhi := Lib.hid hhi
  replace hI := Lib.hid hI
  replace hI0 := Lib.hid hI0
  replace hyg := Lib.hid hyg
  replace hyb := Lib.hid hyb
  replace hgood := Lib.hid hgood
  replace hstep := Lib.hid hstep
  replace hfold := Lib.hid hfold
  replace hy := Lib.hid hy
  clear hseq
  gi_wp2_with (gi_at_call 56; refine (in_round _ (c1.out _ (hG.out.below hI.out.B))).mono ?_; rintro e w1 ⟨rfl, H1⟩; obtain ⟨r2, r3⟩ := two_cells ((H1.block _ (Array.getElem?_eq_some_iff.1 hyb.out).1).trans hyb.out); have l1 := (H1.block _ (Array.getElem?_eq_some_iff.1 hlo.out).1).trans hlo.out; have l2 := (H1.block _ (Array.getElem?_eq_some_iff.1 hhi.out).1).trans hhi.out; obtain ⟨r4, r5⟩ := two_cells l1; obtain ⟨r6, r7⟩ := two_cells l2; have f1 := frozen0 (j := 0) l1; have f2 := frozen0 (j := 1) l1; have f3 := frozen0 (j := 0) l2; have f4 := frozen0 (j := 1) l2; replace l1 := Lib.hid l1; replace l2 := Lib.hid l2; replace H1 := Lib.hid H1)
  ·have hc : y.1 * d < n * y.2 := cmp_neg.1 (by assumption)
   have hf := hfold.out
   rw [if_pos hc] at hf
   exact hI.out.set H1.out (.inl rfl) hlo.out (by rw [hf, if_pos rfl]) (by rw [hf, if_pos rfl])
  ·have hc : ¬ y.1 * d < n * y.2 := fun h => by have := cmp_neg.2 h; omega
   have hf := hfold.out
   rw [if_neg hc] at hf
   exact hI.out.set H1.out (.inr rfl) hhi.out (by rw [hf, if_neg (by omega)]) (by rw [hf, if_neg (by omega)])
theorem around_some {n d bound : Int} {ts : List Int} (hF : Fr n d) (hb : 1 ≤ bound) (hbd : bound < d) (hts : isCf ts n d) :
  ∃ A B C E, foldAr n d none none (semis lastF bound true CS.begin ts) = (some (A, B), some (C, E)) ∧ Nb n d bound A B C E := by
 cases ts with
 | nil => exact hts.elim
 | cons a l =>
  obtain ⟨ha, hl⟩ := hts
  have hd := hF.1
  have e0 := Int.mul_ediv_add_emod n d
  have r0 := Int.emod_nonneg n (b := d) (by omega)
  have r1 := Int.emod_lt_of_pos n hd
  have hg : ∀ t p q : Int, 0 < t → n = p * t → d = q * t → t = 1 := by
   intro t p q ht hn hd'
   have h1 : t ∣ (Int.gcd n d : Int) := Int.dvd_coe_gcd ⟨p, by rw [hn, Int.mul_comm]⟩ ⟨q, by rw [hd', Int.mul_comm]⟩
   rw [hF.2] at h1
   have := Int.le_of_dvd (by decide) h1
   omega
  rcases hl with ⟨hr, _⟩ | ⟨hr, hl⟩
  ·exfalso
   have := hg d (n / d) 1 hd (by rw [hr] at e0; rw [Int.mul_comm]; omega) (by omega)
   omega
  ·rw [semis_first, foldAr, if_pos (by simp only; rw [ha, Int.mul_comm]; omega)]
   have hat := (CS.At.start n d hd).step hr
   rw [← ha] at hat
   refine around_nb hd hbd hg l (CS.begin.next a) d (n % d) (-1) (some (a, 1)) none hat hl (by omega) ?_ ?_ ?_ ?_ ?_ ?_ ?_
   ·simp [next_begin]
   ·simp [next_begin]
   ·simp [next_begin]
   ·simp [next_begin]; omega
   ·right; simp [next_begin]; omega
   ·intro h; omega
   ·intro _; simp [next_begin]
structure AroundOk (x1 x2 : ByteArray) (bound : Int) (p : Int × Int × List Int) (r : (Int × Int) × (Int × Int)) : Prop where
 e1 : x1 = T p.1
 e2 : x2 = T p.2.1
 n1 : -1000000 < p.1
 n2 : p.1 < 10000000
 fr : Fr p.1 p.2.1
 d2 : p.2.1 < 10000000
 b1 : 1 ≤ bound
 b2 : bound ≤ 60
 ts : isCf p.2.2 p.1 p.2.1
 tl : p.2.2.length ≤ 1000
 res : foldAr p.1 p.2.1 none none (semis lastF bound true CS.begin p.2.2) = (some r.1, some r.2)
namespace PF
open Classical in
noncomputable def convergent_around.f (x1 x2 : ByteArray) (bound : Int) : Option (ByteArray × ByteArray × ByteArray × ByteArray) :=
 if h : ∃ p : (Int × Int × List Int) × ((Int × Int) × (Int × Int)), AroundOk x1 x2 bound p.1 p.2 then some (T h.choose.2.1.1, T h.choose.2.1.2, T h.choose.2.2.1, T h.choose.2.2.2) else none
end PF
theorem Around_yes {n d bound : Int} {ts : List Int} {a b : Int × Int} (h : AroundOk (T n) (T d) bound (n, d, ts) (a, b)) : convergent_around.f (T n) (T d) bound = some (T a.1, T a.2, T b.1, T b.2) := by
 unfold convergent_around.f
 have hc : ∃ p : (Int × Int × List Int) × ((Int × Int) × (Int × Int)), AroundOk (T n) (T d) bound p.1 p.2 := ⟨((n, d, ts), (a, b)), h⟩
 rw [dif_pos hc]
 have hs := hc.choose_spec
 have e1 := T_inj hs.e1
 have e2 := T_inj hs.e2
 have e3 : hc.choose.1.2.2 = ts := hs.ts.unique (by rw [← e1, ← e2]; exact h.ts)
 have e4 := hs.res
 rw [e3, ← e1, ← e2] at e4
 have e5 := h.res
 simp only at e5
 rw [e5] at e4
 simp only [Prod.mk.injEq, Option.some.injEq] at e4
 rw [← e4.1, ← e4.2]
theorem PF.convergent_around.calls (a0_0 a0_1 : ByteArray) (a1 : Int) (r1 r2 r3 r4 : ByteArray) (w : World) (hG_ : GWorld w) (h : convergent_around.f a0_0 a0_1 a1 = some (r1, r2, r3, r4)) :
  Calls Tryz.prog 60 #[.agg #[.string a0_0, .string a0_1], .int .i64 a1] w fun e w' => e = .returned (.tuple #[.agg #[.string r1, .string r2], .agg #[.string r3, .string r4]]) ∧ Below w.heap.size w w' := by
 unfold convergent_around.f at h
 by_cases hc : ∃ p : (Int × Int × List Int) × ((Int × Int) × (Int × Int)), AroundOk a0_0 a0_1 a1 p.1 p.2
 ·rw [dif_pos hc] at h
  have hs := hc.choose_spec
  obtain ⟨rfl, rfl, rfl, rfl⟩ : T hc.choose.2.1.1 = r1 ∧ T hc.choose.2.1.2 = r2 ∧ T hc.choose.2.2.1 = r3 ∧ T hc.choose.2.2.2 = r4 := by simpa using h
  generalize hc.choose = p at *
  obtain ⟨⟨n, d, ts⟩, ⟨A, B⟩, ⟨C, E⟩⟩ := p
  obtain ⟨e1, e2, n1, n2, hF, d2, b1, b2, hts, htl, hres⟩ := hs
  simp only at e1 e2 n1 n2 hF d2 hts htl hres
  subst e1 e2
  exact (callsIn_wide (n := 0)).1 (around_walk n1 n2 hF d2 b1 b2 hts htl hres w hG_)
 ·rw [dif_neg hc] at h; cases h
end Go.Proofs.YtidajgkepdkcbaaGreatDoor
end
section
namespace Go.Proofs.YtidajgkepdkcbaaGreatDoor
def lastG (n d : Int) : Int × Int → List (Int × Int) → Int × Int
 | z, [] => z
 | z, y :: ys => if nearer n d y z then lastG n d y ys else lastG n d z ys
structure Best1 (n d q : Int) (z : Int × Int) : Prop where
 nr : z.1 = near n d z.2
 z1 : 1 ≤ z.2
 zq : z.2 < q
 no : ∀ R S, 1 ≤ S → S < q → ¬ nearer n d (R, S) z
 less : ∀ R S, 1 ≤ S → S < z.2 → nearer n d z (R, S)
theorem Best1.start {n d : Int} (hd : 0 < d) : Best1 n d 2 (near n d 1, 1) where
 nr := rfl
 z1 := by simp
 zq := by simp
 no := fun R S h1 h2 h3 => by
  have : S = 1 := by omega
  subst this
  have := near_same hd 1 R (n := n)
  unfold nearer at h3
  simp only at h3
  omega
 less := fun R S h1 h2 => by simp only at h2; omega
theorem Best1.step {n d q : Int} (hd : 0 < d) {z : Int × Int} (hq : 1 ≤ q) (h : Best1 n d q z) : Best1 n d (q + 1) (if nearer n d (near n d q, q) z then (near n d q, q) else z) := by
 have hz := h.z1
 by_cases hn : nearer n d (near n d q, q) z
 ·rw [if_pos hn]
  have hless : ∀ R S, 1 ≤ S → S < q → nearer n d (near n d q, q) (R, S) := fun R S h1 h2 => by
   have h3 := h.no R S h1 h2
   unfold nearer at *
   simp only at *
   generalize er n d (near n d q, q) = ey at *
   generalize er n d (R, S) = eR at *
   have a1 : ey * z.2 * S < er n d z * q * S := Int.mul_lt_mul_of_pos_right hn (by omega)
   have a2 : er n d z * S * q ≤ eR * z.2 * q := Int.mul_le_mul_of_nonneg_right (by omega) (by omega)
   have a3 : ey * S * z.2 < eR * q * z.2 := by grind
   exact Int.lt_of_mul_lt_mul_right a3 (by omega)
  refine ⟨rfl, hq, by simp only; omega, fun R S h1 h2 h3 => ?_, hless⟩
  by_cases hS : S < q
  ·have := hless R S h1 hS
   unfold nearer at *
   simp only at *
   omega
  ·have hS : S = q := by omega
   subst hS
   have := near_same hd S R (n := n)
   unfold nearer at h3
   simp only at h3
   have : er n d (near n d S, S) * S ≤ er n d (R, S) * S := Int.mul_le_mul_of_nonneg_right this (by omega)
   omega
 ·rw [if_neg hn]
  refine ⟨h.nr, hz, by have := h.zq; omega, fun R S h1 h2 h3 => ?_, h.less⟩
  by_cases hS : S < q
  ·exact h.no R S h1 hS h3
  ·have hS : S = q := by omega
   subst hS
   apply hn
   have := near_same hd S R (n := n)
   unfold nearer at *
   simp only at *
   have : er n d (near n d S, S) * z.2 ≤ er n d (R, S) * z.2 := Int.mul_le_mul_of_nonneg_right this (by omega)
   omega
theorem Best1.all {n d : Int} (hd : 0 < d) : ∀ (k : Nat) (q : Int) (z : Int × Int), 1 ≤ q → Best1 n d q z → Best1 n d (q + k) (lastG n d z (nears n d q k))
 | 0, q, z, _, h => by simpa [nears, lastG] using h
 | k + 1, q, z, hq, h => by
  have h1 := Best1.all hd k (q + 1) _ (by omega) (h.step hd hq)
  rw [show q + ((k + 1 : Nat) : Int) = q + 1 + (k : Int) by omega]
  simp only [nears, lastG]
  split <;> rename_i hn
  ·rwa [if_pos hn] at h1
  ·rwa [if_neg hn] at h1
end Go.Proofs.YtidajgkepdkcbaaGreatDoor
end
section
namespace Go.Proofs.YtidajgkepdkcbaaGreatDoor.PL
open Go.RowKit Go.Proofs.YtidajgkepdkcbaaGreatDoorW.PrintWords Go.Proofs.YtidajgkepdkcbaaGreatDoorW.PrintLast Go.Proofs.YtidajgkepdkcbaaGreatDoorW.PrintMore Go.Proofs.YtidajgkepdkcbaaGreatDoor.PF
attribute [local go_sem] max2_int min2_int max_two min_two max_three min_three max_four min_four
noncomputable def convergent_Nearest.T7 : Bool × List (List Nat × List Nat) := (true, [([], []), ([], []), ([0, 1], [0, 1]), ([], []), ([], []), ([3, 4, 2], [3, 4]), ([2, 5, 5], [2, 5]), ([6, 6, 0, 1, 2, 3, 4, 5, 6], [6])])
noncomputable def convergent_Nearest.B7 : List Nat := [0, 0, 3, 0, 0, 31, 63, 127]
theorem convergent_Nearest.tab7 : rtab .any (opsOf Tryz.f29 7) = convergent_Nearest.T7 := by kernel_rfl
theorem convergent_Nearest.bits7 : waitsOk convergent_Nearest.T7.2 convergent_Nearest.B7 = true := by kernel_rfl
end Go.Proofs.YtidajgkepdkcbaaGreatDoor.PL
end
section
namespace Go.Proofs.YtidajgkepdkcbaaGreatDoor
open Go.RowKit Go.Lib Go.Proofs.YtidajgkepdkcbaaGreatDoorW.PrintWords Go.Proofs.YtidajgkepdkcbaaGreatDoorW.PrintLast Go.Proofs.YtidajgkepdkcbaaGreatDoorW.PrintMore PF PL
theorem mulb {x y a b : Int} (hx : -a ≤ x ∧ x ≤ a) (hy : -b ≤ y ∧ y ≤ b) (ha : 0 ≤ a) (hb : 0 ≤ b) : -(a * b) ≤ x * y ∧ x * y ≤ a * b := by
 have h1 : (x * y).natAbs ≤ a.natAbs * b.natAbs := by rw [Int.natAbs_mul]; exact Nat.mul_le_mul (by omega) (by omega)
 have h2 : ((a.natAbs * b.natAbs : Nat) : Int) = a * b := by rw [Int.natCast_mul]; congr 1 <;> omega
 omega
theorem foldAr_mem {n d : Int} : ∀ (ys : List (Int × Int)) (lo hi : Option (Int × Int)), ((foldAr n d lo hi ys).1 = lo ∨ ∃ y ∈ ys, (foldAr n d lo hi ys).1 = some y) ∧ ((foldAr n d lo hi ys).2 = hi ∨ ∃ y ∈ ys, (foldAr n d lo hi ys).2 = some y)
 | [], lo, hi => ⟨.inl rfl, .inl rfl⟩
 | y :: ys, lo, hi => by
  simp only [foldAr]
  split
  ·obtain ⟨h1, h2⟩ := foldAr_mem ys (some y) hi
   refine ⟨.inr ?_, ?_⟩
   ·rcases h1 with h1 | ⟨z, hz, h1⟩
    ·exact ⟨y, by simp, h1⟩
    ·exact ⟨z, by simp [hz], h1⟩
   ·rcases h2 with h2 | ⟨z, hz, h2⟩
    ·exact .inl h2
    ·exact .inr ⟨z, by simp [hz], h2⟩
  ·obtain ⟨h1, h2⟩ := foldAr_mem ys lo (some y)
   refine ⟨?_, .inr ?_⟩
   ·rcases h1 with h1 | ⟨z, hz, h1⟩
    ·exact .inl h1
    ·exact .inr ⟨z, by simp [hz], h1⟩
   ·rcases h2 with h2 | ⟨z, hz, h2⟩
    ·exact ⟨y, by simp, h2⟩
    ·exact ⟨z, by simp [hz], h2⟩
theorem around_all {n d bound : Int} {ts : List Int} (hn1 : -1000000 < n) (hn2 : n < 10000000) (hF : Fr n d) (hd2 : d < 10000000) (hb : 1 ≤ bound) (hb2 : bound ≤ 60) (hbd : bound < d) (hts : isCf ts n d) (hl : ts.length ≤ 1000) :
  ∃ A B C E, convergent_around.f (T n) (T d) bound = some (T A, T B, T C, T E) ∧ Nb n d bound A B C E ∧ Good n d bound 10000000 (A, B) ∧ Good n d bound 10000000 (C, E) := by
 obtain ⟨A, B, C, E, h1, h2⟩ := around_some hF hb hbd hts
 have hg := semis_all (f := lastF) (bound := bound) (M := 10000000) (by omega) (by omega) hF.1 hb hts
 obtain ⟨m1, m2⟩ := foldAr_mem (n := n) (d := d) (semis lastF bound true CS.begin ts) none none
 rw [h1] at m1 m2
 refine ⟨A, B, C, E, Around_yes (a := (A, B)) (b := (C, E)) ⟨rfl, rfl, hn1, hn2, hF, hd2, hb, hb2, hts, hl, h1⟩, h2, ?_, ?_⟩
 ·rcases m1 with h | ⟨y, hy, h⟩
  ·cases h
  ·obtain rfl := Option.some.inj h; exact hg _ hy
 ·rcases m2 with h | ⟨y, hy, h⟩
  ·cases h
  ·obtain rfl := Option.some.inj h; exact hg _ hy
theorem T7 {i : Int} (h : (T i).size ≤ 7) : -1000000 < i ∧ i < 10000000 := by
 have := lt_of_T_size (i := i) (k := 6) (by omega)
 omega
end Go.Proofs.YtidajgkepdkcbaaGreatDoor
end
section
namespace Go.Proofs.YtidajgkepdkcbaaGreatDoor
open Go.RowKit Go.Lib Go.Proofs.YtidajgkepdkcbaaGreatDoorW.PrintWords Go.Proofs.YtidajgkepdkcbaaGreatDoorW.PrintLast Go.Proofs.YtidajgkepdkcbaaGreatDoorW.PrintMore PF
attribute [local go_sem] Oper.semAt_some wide_fn2 wide_depth2
theorem nb_results {W : World} {l h : Nat} {tmps : Array Value} {a b c d : ByteArray} {e : Int} (h4 : tmps.getD 4 undef = .pointer (some ⟨l, 0, none⟩)) (h5 : tmps.getD 5 undef = .pointer (some ⟨h, 0, none⟩)) (h6 : tmps.getD 6 undef = .int .i64 e)
  (x1 : W.heap[l]? = some (.cells #[.string a, .string b] 24 (0, 0))) (x2 : W.heap[h]? = some (.cells #[.string c, .string d] 24 (0, 0))) :
  (results Tryz.f35 tmps).run Tryz.prog W = .ok (.tuple #[.agg #[.string a, .string b], .agg #[.string c, .string d], .int .i64 e]) W := by
 obtain ⟨c1, c2⟩ := two_cells x1
 obtain ⟨c3, c4⟩ := two_cells x2
 have h4' : tmps[4]?.getD undef = .pointer (some ⟨l, 0, none⟩) := by simpa using h4
 have h5' : tmps[5]?.getD undef = .pointer (some ⟨h, 0, none⟩) := by simpa using h5
 have h6' : tmps[6]?.getD undef = .int .i64 e := by simpa using h6
 simp [results, Tryz.f35, go_sem, h4', h5', h6', c1, c2, c3, c4]
set_option maxRecDepth 100000 in
set_option maxHeartbeats 4000000 in
theorem nb_err (k : Nat) (x1 x2 : ByteArray) (bound e : Int) (w : World) (hG : GWorld w) (h : convergent_bounded.f k x1 x2 bound = some e) (he : e ≠ 0) :
  Calls Tryz.prog 35 #[.agg #[.string x1, .string x2], .int .i64 bound] w fun e' w' => e' = .returned (.tuple #[.agg #[.string ⟨#[]⟩, .string ⟨#[]⟩], .agg #[.string ⟨#[]⟩, .string ⟨#[]⟩], .int .i64 e]) ∧ Below w.heap.size w w' := by
 have c1 := fun W hG => convergent_bounded.calls k _ _ _ _ W hG h
 have c0 := three_alloc (w := w) (W1 := ((w.alloc (.cells #[.string x1, .string x2] 24)).alloc (.cells #[.string ⟨#[]⟩, .string ⟨#[]⟩] 24)).alloc (.cells #[.string ⟨#[]⟩, .string ⟨#[]⟩] 24)) (Below.refl _ _)
 refine (callsIn_wide (n := 0)).1 (callsIn_of_wp Tryz.func35 rfl trivial ?_ rfl)
 simp only [Tryz.ntmps35, List.size_toArray, List.length_cons, List.length_nil, Nat.reduceAdd, Nat.reduceSub, Array.replicate_succ, Array.replicate_zero, List.push_toArray, List.append_toArray, List.nil_append, List.cons_append]
 replace c1 := Lib.hid c1
 replace c0 := Lib.hid c0
 replace h := Lib.hid h
 replace hG := Lib.hid hG
 gi_wp2_with (gi_at_call 51; refine (callsIn_wide.2 (c1.out _ (hG.out.below c0.out.2.2.2.1))).mono ?_; rintro e' W1 ⟨rfl, H1⟩; obtain ⟨y1, y2, y3, HB1, hz1⟩ := three_alloc H1; obtain ⟨q1, q2⟩ := two_cells y2; obtain ⟨q3, q4⟩ := two_cells y3; have f1 := frozen0 (j := 0) y2; have f2 := frozen0 (j := 1) y2; have f3 := frozen0 (j := 0) y3; have f4 := frozen0 (j := 1) y3; replace H1 := Lib.hid H1; replace HB1 := Lib.hid HB1; replace y1 := Lib.hid y1; replace y2 := Lib.hid y2; replace y3 := Lib.hid y3; replace hz1 := Lib.hid hz1)
 have z1 := put_two (u := .string ⟨#[]⟩) (v := .string ⟨#[]⟩) y2.out
 have z2 : ((W1.setCell ⟨w.heap.size + 1, 0, none⟩ (.string ⟨#[]⟩)).setCell ⟨w.heap.size + 1, 1, none⟩ (.string ⟨#[]⟩)).heap[w.heap.size + 1 + 1]? = some (.cells #[.string ⟨#[]⟩, .string ⟨#[]⟩] 24 (0, 0)) := by
  rw [Below.heap_setCell _ _ _ _ (by simp only; omega), Below.heap_setCell _ _ _ _ (by simp only; omega)]; exact y3.out
 have z3 := put_two (u := .string ⟨#[]⟩) (v := .string ⟨#[]⟩) z2
 have z4 : ((((W1.setCell ⟨w.heap.size + 1, 0, none⟩ (.string ⟨#[]⟩)).setCell ⟨w.heap.size + 1, 1, none⟩ (.string ⟨#[]⟩)).setCell ⟨w.heap.size + 1 + 1, 0, none⟩ (.string ⟨#[]⟩)).setCell ⟨w.heap.size + 1 + 1, 1, none⟩ (.string ⟨#[]⟩)).heap[w.heap.size + 1]? = some (.cells #[.string ⟨#[]⟩, .string ⟨#[]⟩] 24 (0, 0)) := by
  rw [Below.heap_setCell _ _ _ _ (by simp only; omega), Below.heap_setCell _ _ _ _ (by simp only; omega)]; exact z1
 refine ⟨rfl, _, nb_results rfl rfl rfl z4 z3, rfl, ?_⟩
 exact (((HB1.out.setCell (p := ⟨w.heap.size + 1, 0, none⟩) (by simp) _).setCell (p := ⟨w.heap.size + 1, 1, none⟩) (by simp) _).setCell (p := ⟨w.heap.size + 1 + 1, 0, none⟩) (by simp only; omega) _).setCell (p := ⟨w.heap.size + 1 + 1, 1, none⟩) (by simp only; omega) _
def lc (b : Bool) (u v : ByteArray) : Array Value := if b = true then #[.string u, .string v] else #[.string ⟨#[]⟩, .string ⟨#[]⟩]
theorem lc_two (b : Bool) (u v : ByteArray) : ∃ p q, lc b u v = #[.string p, .string q] := by
 cases b
 ·exact ⟨_, _, rfl⟩
 ·exact ⟨_, _, rfl⟩
structure NbW (w : World) (x1 x2 l1 l2 h1 h2 : ByteArray) (b6 b7 : Bool) (W : World) : Prop where
 x : W.heap[w.heap.size]? = some (.cells #[.string x1, .string x2] 24 (0, 0))
 lo : W.heap[w.heap.size + 1]? = some (.cells (lc b6 l1 l2) 24 (0, 0))
 hi : W.heap[w.heap.size + 1 + 1]? = some (.cells (lc b7 h1 h2) 24 (0, 0))
 B : Below w.heap.size w W
theorem NbW.keep {w : World} {x1 x2 l1 l2 h1 h2 : ByteArray} {b6 b7 : Bool} {W W' : World} (h : NbW w x1 x2 l1 l2 h1 h2 b6 b7 W) (H : Below W.heap.size W W') : NbW w x1 x2 l1 l2 h1 h2 b6 b7 W' :=
 have keep : ∀ {k : Nat} {o : Obj}, W.heap[k]? = some o → W'.heap[k]? = some o := fun {k o} h => (H.block k (Array.getElem?_eq_some_iff.1 h).1).trans h
 ⟨keep h.x, keep h.lo, keep h.hi, h.B.trans (H.mono h.B.size)⟩
theorem NbW.setLo {w : World} {x1 x2 l1 l2 h1 h2 : ByteArray} {b6 b7 : Bool} {W : World} (h : NbW w x1 x2 l1 l2 h1 h2 b6 b7 W) : NbW w x1 x2 l1 l2 h1 h2 true b7 ((W.setCell ⟨w.heap.size + 1, 0, none⟩ (.string l1)).setCell ⟨w.heap.size + 1, 1, none⟩ (.string l2)) := by
 obtain ⟨p, q, e⟩ := lc_two b6 l1 l2
 have hl := h.lo
 rw [e] at hl
 refine ⟨?_, put_two hl, ?_, (h.B.setCell (p := ⟨w.heap.size + 1, 0, none⟩) (by simp) _).setCell (p := ⟨w.heap.size + 1, 1, none⟩) (by simp) _⟩
 ·rw [Below.heap_setCell _ _ _ _ (by simp only; omega), Below.heap_setCell _ _ _ _ (by simp only; omega)]; exact h.x
 ·rw [Below.heap_setCell _ _ _ _ (by simp only; omega), Below.heap_setCell _ _ _ _ (by simp only; omega)]; exact h.hi
theorem NbW.setHi {w : World} {x1 x2 l1 l2 h1 h2 : ByteArray} {b6 b7 : Bool} {W : World} (h : NbW w x1 x2 l1 l2 h1 h2 b6 b7 W) : NbW w x1 x2 l1 l2 h1 h2 b6 true ((W.setCell ⟨w.heap.size + 1 + 1, 0, none⟩ (.string h1)).setCell ⟨w.heap.size + 1 + 1, 1, none⟩ (.string h2)) := by
 obtain ⟨p, q, e⟩ := lc_two b7 h1 h2
 have hl := h.hi
 rw [e] at hl
 refine ⟨?_, ?_, put_two hl, (h.B.setCell (p := ⟨w.heap.size + 1 + 1, 0, none⟩) (by simp only; omega) _).setCell (p := ⟨w.heap.size + 1 + 1, 1, none⟩) (by simp only; omega) _⟩
 ·rw [Below.heap_setCell _ _ _ _ (by simp only; omega), Below.heap_setCell _ _ _ _ (by simp only; omega)]; exact h.x
 ·rw [Below.heap_setCell _ _ _ _ (by simp only; omega), Below.heap_setCell _ _ _ _ (by simp only; omega)]; exact h.lo
theorem NbW.cells {w : World} {x1 x2 l1 l2 h1 h2 : ByteArray} {b6 b7 : Bool} {W : World} (h : NbW w x1 x2 l1 l2 h1 h2 b6 b7 W) : ∃ p q r s, W.cell? ⟨w.heap.size, 0, none⟩ = some (.string x1) ∧ W.cell? ⟨w.heap.size, 1, none⟩ = some (.string x2) ∧
  W.cell? ⟨w.heap.size + 1, 0, none⟩ = some (.string p) ∧ W.cell? ⟨w.heap.size + 1, 1, none⟩ = some (.string q) ∧ W.cell? ⟨w.heap.size + 1 + 1, 0, none⟩ = some (.string r) ∧ W.cell? ⟨w.heap.size + 1 + 1, 1, none⟩ = some (.string s) ∧
  W.frozen? ⟨w.heap.size + 1, 0, none⟩ = false ∧ W.frozen? ⟨w.heap.size + 1, 1, none⟩ = false ∧ W.frozen? ⟨w.heap.size + 1 + 1, 0, none⟩ = false ∧ W.frozen? ⟨w.heap.size + 1 + 1, 1, none⟩ = false := by
 obtain ⟨p, q, e⟩ := lc_two b6 l1 l2
 obtain ⟨r, s, e'⟩ := lc_two b7 h1 h2
 have hl := h.lo
 have hh := h.hi
 rw [e] at hl
 rw [e'] at hh
 obtain ⟨c1, c2⟩ := two_cells h.x
 obtain ⟨c3, c4⟩ := two_cells hl
 obtain ⟨c5, c6⟩ := two_cells hh
 exact ⟨p, q, r, s, c1, c2, c3, c4, c5, c6, frozen0 hl, frozen0 hl, frozen0 hh, frozen0 hh⟩
set_option maxRecDepth 100000 in
set_option maxHeartbeats 1000000 in
theorem nb_near (k : Nat) (x1 x2 t l1 l2 h1 h2 : ByteArray) (bound c : Int) (w : World) (hG : GWorld w) (h : convergent_bounded.f k x1 x2 bound = some 0) (hO : whole_Of.f bound = some t) (hC : whole_Compare.f x2 t = some c) (hc : c ≤ 0)
  (hL : convergent_beside.f k x1 x2 bound 1 = some (l1, l2)) (hH : convergent_beside.f k x1 x2 bound (-1) = some (h1, h2)) :
  Calls Tryz.prog 35 #[.agg #[.string x1, .string x2], .int .i64 bound] w fun e' w' => e' = .returned (.tuple #[.agg #[.string l1, .string l2], .agg #[.string h1, .string h2], .int .i64 0]) ∧ Below w.heap.size w w' := by
 have c1 := fun W hG => convergent_bounded.calls k _ _ _ _ W hG h
 have c2 := fun W hG => whole_Of.calls _ _ W hG hO
 have c3 := fun W => whole_Compare.calls _ _ _ W hC
 have c4 := fun W hG => convergent_beside.calls k _ _ _ _ _ _ W hG hL
 have c5 := fun W hG => convergent_beside.calls k _ _ _ _ _ _ W hG hH
 have c0 := three_alloc (w := w) (W1 := ((w.alloc (.cells #[.string x1, .string x2] 24)).alloc (.cells #[.string ⟨#[]⟩, .string ⟨#[]⟩] 24)).alloc (.cells #[.string ⟨#[]⟩, .string ⟨#[]⟩] 24)) (Below.refl _ _)
 refine (callsIn_wide (n := 0)).1 (callsIn_of_wp Tryz.func35 rfl trivial ?_ rfl)
 simp only [Tryz.ntmps35, List.size_toArray, List.length_cons, List.length_nil, Nat.reduceAdd, Nat.reduceSub, Array.replicate_succ, Array.replicate_zero, List.push_toArray, List.append_toArray, List.nil_append, List.cons_append]
 replace c1 := Lib.hid c1
 replace c2 := Lib.hid c2
 replace c3 := Lib.hid c3
 replace c4 := Lib.hid c4
 replace c5 := Lib.hid c5
 replace c0 := Lib.hid c0
 replace h := Lib.hid h
 replace hO := Lib.hid hO
 replace hC := Lib.hid hC
 replace hL := Lib.hid hL
 replace hH := Lib.hid hH
 replace hG := Lib.hid hG
 have hcd : decide (c ≤ 0) = true := decide_eq_true hc
 replace hc := Lib.hid hc
 gi_wp2_with (gi_at_call 51; refine (callsIn_wide.2 (c1.out _ (hG.out.below c0.out.2.2.2.1))).mono ?_; rintro e' W1 ⟨rfl, H1⟩; obtain ⟨y1, y2, y3, HB1, hz1⟩ := three_alloc H1; have hN : NbW w x1 x2 l1 l2 h1 h2 false false W1 := ⟨y1, y2, y3, HB1⟩; replace H1 := Lib.hid H1; replace HB1 := Lib.hid HB1; replace y1 := Lib.hid y1; replace y2 := Lib.hid y2; replace y3 := Lib.hid y3; replace hz1 := Lib.hid hz1; replace hN := Lib.hid hN)
 refine wpIn_region_vals (by kernel_rfl) [(0, 16, .pointer (some ⟨w.heap.size, 1, none⟩)), (1, 17, .string x2), (2, 18, .int .i64 bound), (3, 19, .string t), (4, 20, .int .i64 c), (5, 21, .bool true)] (NbW w x1 x2 l1 l2 h1 h2 false false) ?hlt ?h0 ?hB ?hV ?hs ?hend
 case hlt =>
  intro i' o ho e he hbe
  have hlt : i' < 6 := by simpa using (Array.getElem?_eq_some_iff.1 ho).1
  rcases i' with _ | _ | _ | _ | _ | _ | i'
  all_goals try (exfalso; omega)
  all_goals (
   simp only [List.getElem?_toArray, List.getElem?_cons_zero, List.getElem?_cons_succ, Option.some.injEq] at ho
   subst ho
   simp at he
   try (rcases he with rfl | rfl | rfl <;> simp)
   try (rcases he with rfl | rfl <;> simp)
   try (rcases he with rfl <;> simp))
 case h0 => simp [putV, sel]
 case hB => exact ⟨hN.out.x, hN.out.lo, hN.out.hi, ⟨hN.out.B.os, hN.out.B.tape, hN.out.B.output, hN.out.B.size, hN.out.B.block⟩⟩
 case hV => intro e he; simp at he; rcases he with rfl | rfl | rfl | rfl | rfl | rfl <;> simp
 case hs =>
  intro b' i' o w' ho hB' hbi hdep
  obtain ⟨p, q, r, s, p0, p1, p2, p3, p4, p5, p6, p7, p8, p9⟩ := hB'.cells
  have d2 := c2.out w' (hG.out.below hB'.B)
  have d3 := c3.out w'
  replace d2 := Lib.hid d2
  replace d3 := Lib.hid d3
  replace hB' := Lib.hid hB'
  clear p2 p3 p4 p5 p6 p7 p8 p9
  have hlt : i' < 6 := by simpa using (Array.getElem?_eq_some_iff.1 ho).1
  rcases i' with _ | _ | _ | _ | _ | _ | i'
  all_goals try (exfalso; omega)
  all_goals (
   simp only [List.getElem?_toArray, List.getElem?_cons_zero, List.getElem?_cons_succ, Option.some.injEq, Nat.zero_add, Nat.reduceAdd] at ho
   subst ho
   clear hlt
   try simp [Region.binds] at hdep
   simp only [putV, List.foldl_cons, List.foldl_nil, List.setIfInBounds_toArray, List.set_cons_zero, List.set_cons_succ]
   refine wpOpIn_step rfl (fun K hK => ?_)
   rw [if_pos (by rfl)]
   try simp only [Nat.zero_add, Nat.reduceAdd] at hbi
   try simp only [Nat.zero_add, Nat.reduceAdd] at hK
   try simp only [hdep, sel_true]
   replace hK := Lib.hid hK
   gi_wp2)
  all_goals first
   | exact hK.out _ _ ⟨by simp [putV, sel_true, hdep], hB'.out⟩
   | (refine (callsIn_wide.2 d2.out).mono ?_; rintro e w1 ⟨rfl, H1⟩; exact hK.out _ _ ⟨by simp [putV, sel_true, hdep], hB'.out.keep H1⟩)
   | (refine (callsIn_wide.2 d3.out).mono ?_; rintro e w1 ⟨rfl, H1⟩; exact hK.out _ _ ⟨by simp [putV, sel_true, hdep], hB'.out.keep H1⟩)
   | skip
 case hend =>
  intro w2 hB2
  simp only [putV, List.foldl_cons, List.foldl_nil, List.setIfInBounds_toArray, List.set_cons_zero, List.set_cons_succ, sel_true]
  replace hB2 := Lib.hid hB2
  gi_wp2
  obtain ⟨A0, hA0⟩ : ∃ A0 : Act, A0 = { tmps := #[.agg #[.string x1, .string x2], .int .i64 bound, .pointer (some ⟨w.heap.size, 0, none⟩), undef, .pointer (some ⟨w.heap.size + 1, 0, none⟩), .pointer (some ⟨w.heap.size + 1 + 1, 0, none⟩), .int .i64 0, .int .i64 0, .agg #[.string x1, .string x2], .int .i64 bound, .int .i64 0, .int .i64 0, .bool false, undef, undef, undef, .pointer (some ⟨w.heap.size, 1, none⟩), .string x2, .int .i64 bound, .string t, .int .i64 c, .bool true, undef, undef, undef, undef, undef, undef, undef, undef, undef, undef, undef, undef, undef, undef], defers := [] } := ⟨_, rfl⟩
  refine wpIn_region_inv (by kernel_rfl) (fun b a W => a = putV A0 b [(0, 22, .agg #[.string x1, .string x2]), (1, 23, .int .i64 bound), (2, 24, .agg #[.string l1, .string l2]), (3, 25, .agg #[.string x1, .string x2]), (4, 26, .int .i64 bound), (5, 27, .agg #[.string h1, .string h2])] ∧ NbW w x1 x2 l1 l2 h1 h2 (b 6) (b 7) W) ?ilt ?i0 ?is ?iend
  case ilt =>
   intro i' o ho e he hbe
   have hlt : i' < 9 := by simpa using (Array.getElem?_eq_some_iff.1 ho).1
   rcases i' with _ | _ | _ | _ | _ | _ | _ | _ | _ | i'
   all_goals try (exfalso; omega)
   all_goals (
    simp only [List.getElem?_toArray, List.getElem?_cons_zero, List.getElem?_cons_succ, Option.some.injEq] at ho
    subst ho
    simp at he
    try (rcases he with rfl | rfl | rfl | rfl | rfl | rfl | rfl | rfl | rfl <;> simp)
    try (rcases he with rfl | rfl | rfl | rfl | rfl | rfl | rfl | rfl <;> simp)
    try (rcases he with rfl | rfl | rfl <;> simp)
    try (rcases he with rfl | rfl <;> simp)
    try (rcases he with rfl <;> simp))
  case i0 =>
   refine ⟨by rw [hA0]; simp [putV, sel], ?_⟩
   exact ⟨hB2.out.x, hB2.out.lo, hB2.out.hi, ⟨hB2.out.B.os, hB2.out.B.tape, hB2.out.B.output, hB2.out.B.size, hB2.out.B.block⟩⟩
  case iend =>
   rintro b a W hall ⟨rfl, hW⟩
   rw [hall 6 (by simp), hall 7 (by simp)] at hW
   have e1 : putV A0 b [(0, 22, .agg #[.string x1, .string x2]), (1, 23, .int .i64 bound), (2, 24, .agg #[.string l1, .string l2]), (3, 25, .agg #[.string x1, .string x2]), (4, 26, .int .i64 bound), (5, 27, .agg #[.string h1, .string h2])] = putV A0 (fun _ => true) [(0, 22, .agg #[.string x1, .string x2]), (1, 23, .int .i64 bound), (2, 24, .agg #[.string l1, .string l2]), (3, 25, .agg #[.string x1, .string x2]), (4, 26, .int .i64 bound), (5, 27, .agg #[.string h1, .string h2])] := by
    simp only [putV, List.foldl_cons, List.foldl_nil]
    rw [hall 0 (by simp), hall 1 (by simp), hall 2 (by simp), hall 3 (by simp), hall 4 (by simp), hall 5 (by simp)]
   rw [e1, hA0]
   simp only [putV, List.foldl_cons, List.foldl_nil, List.setIfInBounds_toArray, List.set_cons_zero, List.set_cons_succ, sel_true]
   replace hW := Lib.hid hW
   clear e1 hA0 hall
   gi_wp2
   refine ⟨rfl, _, nb_results rfl rfl rfl hW.out.lo hW.out.hi, rfl, hW.out.B⟩
  case is =>
   rintro b' i' o a w' ho ⟨rfl, hW⟩ hbi hdep
   obtain ⟨p, q, r, s, p0, p1, p2, p3, p4, p5, p6, p7, p8, p9⟩ := hW.cells
   have d4 := c4.out w' (hG.out.below hW.B)
   have d5 := c5.out w' (hG.out.below hW.B)
   replace d4 := Lib.hid d4
   replace d5 := Lib.hid d5
   have hW4 := Lib.hid (fun W H => hW.keep (W' := W) H)
   have hWl := Lib.hid hW.setLo
   have hWh := Lib.hid hW.setHi
   replace hW := Lib.hid hW
   have hlt : i' < 9 := by simpa using (Array.getElem?_eq_some_iff.1 ho).1
   rcases i' with _ | _ | _ | _ | _ | _ | _ | _ | _ | i'
   all_goals try (exfalso; omega)
   all_goals (
    simp only [List.getElem?_toArray, List.getElem?_cons_zero, List.getElem?_cons_succ, Option.some.injEq, Nat.zero_add, Nat.reduceAdd] at ho
    subst ho
    clear hlt
    try simp [Region.binds] at hdep
    rw [hA0]
    simp only [putV, List.foldl_cons, List.foldl_nil, List.setIfInBounds_toArray, List.set_cons_zero, List.set_cons_succ]
    refine wpOpIn_step rfl (fun K hK => ?_)
    rw [if_pos (by rfl)]
    try simp only [Nat.zero_add, Nat.reduceAdd] at hbi
    try simp only [Nat.zero_add, Nat.reduceAdd] at hK
    try simp only [hdep, sel_true]
    replace hK := Lib.hid hK
    gi_wp2)
   ·exact hK.out _ _ ⟨by simp [sel_true], hW.out⟩
   ·exact hK.out _ _ ⟨by simp [sel_true], hW.out⟩
   ·refine (callsIn_wide.2 d4.out).mono ?_
    rintro e w1 ⟨rfl, H1⟩
    exact hK.out _ _ ⟨by simp [sel_true, hdep], hW4.out _ H1⟩
   ·exact hK.out _ _ ⟨by simp [sel_true, hdep], hW.out⟩
   ·exact hK.out _ _ ⟨by simp [sel_true, hdep], hW.out⟩
   ·refine (callsIn_wide.2 d5.out).mono ?_
    rintro e w1 ⟨rfl, H1⟩
    exact hK.out _ _ ⟨by simp [sel_true, hdep], hW4.out _ H1⟩
   ·exact hK.out _ _ ⟨by simp [sel_true, hdep], hWl.out⟩
   ·exact hK.out _ _ ⟨by simp [sel_true, hdep], hWh.out⟩
   ·exact hK.out _ _ ⟨by simp [sel_true, hdep], hW.out⟩
set_option maxRecDepth 100000 in
set_option maxHeartbeats 1000000 in
theorem nb_far (k : Nat) (x1 x2 t l1 l2 h1 h2 : ByteArray) (bound c : Int) (w : World) (hG : GWorld w) (h : convergent_bounded.f k x1 x2 bound = some 0) (hO : whole_Of.f bound = some t) (hC : whole_Compare.f x2 t = some c) (hc : ¬ c ≤ 0)
  (hL : convergent_around.f x1 x2 bound = some (l1, l2, h1, h2)) :
  Calls Tryz.prog 35 #[.agg #[.string x1, .string x2], .int .i64 bound] w fun e' w' => e' = .returned (.tuple #[.agg #[.string l1, .string l2], .agg #[.string h1, .string h2], .int .i64 0]) ∧ Below w.heap.size w w' := by
 have c1 := fun W hG => convergent_bounded.calls k _ _ _ _ W hG h
 have c2 := fun W hG => whole_Of.calls _ _ W hG hO
 have c3 := fun W => whole_Compare.calls _ _ _ W hC
 have c4 := fun W hG => PF.convergent_around.calls _ _ _ _ _ _ _ W hG hL
 have c0 := three_alloc (w := w) (W1 := ((w.alloc (.cells #[.string x1, .string x2] 24)).alloc (.cells #[.string ⟨#[]⟩, .string ⟨#[]⟩] 24)).alloc (.cells #[.string ⟨#[]⟩, .string ⟨#[]⟩] 24)) (Below.refl _ _)
 refine (callsIn_wide (n := 0)).1 (callsIn_of_wp Tryz.func35 rfl trivial ?_ rfl)
 simp only [Tryz.ntmps35, List.size_toArray, List.length_cons, List.length_nil, Nat.reduceAdd, Nat.reduceSub, Array.replicate_succ, Array.replicate_zero, List.push_toArray, List.append_toArray, List.nil_append, List.cons_append]
 replace c1 := Lib.hid c1
 replace c2 := Lib.hid c2
 replace c3 := Lib.hid c3
 replace c4 := Lib.hid c4
 replace c0 := Lib.hid c0
 replace h := Lib.hid h
 replace hO := Lib.hid hO
 replace hC := Lib.hid hC
 replace hL := Lib.hid hL
 replace hG := Lib.hid hG
 have hcd : decide (c ≤ 0) = false := decide_eq_false hc
 replace hc := Lib.hid hc
 gi_wp2_with (gi_at_call 51; refine (callsIn_wide.2 (c1.out _ (hG.out.below c0.out.2.2.2.1))).mono ?_; rintro e' W1 ⟨rfl, H1⟩; obtain ⟨y1, y2, y3, HB1, hz1⟩ := three_alloc H1; have hN : NbW w x1 x2 l1 l2 h1 h2 false false W1 := ⟨y1, y2, y3, HB1⟩; replace H1 := Lib.hid H1; replace HB1 := Lib.hid HB1; replace y1 := Lib.hid y1; replace y2 := Lib.hid y2; replace y3 := Lib.hid y3; replace hz1 := Lib.hid hz1; replace hN := Lib.hid hN)
 refine wpIn_region_vals (by kernel_rfl) [(0, 16, .pointer (some ⟨w.heap.size, 1, none⟩)), (1, 17, .string x2), (2, 18, .int .i64 bound), (3, 19, .string t), (4, 20, .int .i64 c), (5, 21, .bool false)] (NbW w x1 x2 l1 l2 h1 h2 false false) ?hlt ?h0 ?hB ?hV ?hs ?hend
 case hlt =>
  intro i' o ho e he hbe
  have hlt : i' < 6 := by simpa using (Array.getElem?_eq_some_iff.1 ho).1
  rcases i' with _ | _ | _ | _ | _ | _ | i'
  all_goals try (exfalso; omega)
  all_goals (
   simp only [List.getElem?_toArray, List.getElem?_cons_zero, List.getElem?_cons_succ, Option.some.injEq] at ho
   subst ho
   simp at he
   try (rcases he with rfl | rfl | rfl <;> simp)
   try (rcases he with rfl | rfl <;> simp)
   try (rcases he with rfl <;> simp))
 case h0 => simp [putV, sel]
 case hB => exact ⟨hN.out.x, hN.out.lo, hN.out.hi, ⟨hN.out.B.os, hN.out.B.tape, hN.out.B.output, hN.out.B.size, hN.out.B.block⟩⟩
 case hV => intro e he; simp at he; rcases he with rfl | rfl | rfl | rfl | rfl | rfl <;> simp
 case hs =>
  intro b' i' o w' ho hB' hbi hdep
  obtain ⟨p, q, r, s, p0, p1, p2, p3, p4, p5, p6, p7, p8, p9⟩ := hB'.cells
  have d2 := c2.out w' (hG.out.below hB'.B)
  have d3 := c3.out w'
  replace d2 := Lib.hid d2
  replace d3 := Lib.hid d3
  replace hB' := Lib.hid hB'
  clear p2 p3 p4 p5 p6 p7 p8 p9
  have hlt : i' < 6 := by simpa using (Array.getElem?_eq_some_iff.1 ho).1
  rcases i' with _ | _ | _ | _ | _ | _ | i'
  all_goals try (exfalso; omega)
  all_goals (
   simp only [List.getElem?_toArray, List.getElem?_cons_zero, List.getElem?_cons_succ, Option.some.injEq, Nat.zero_add, Nat.reduceAdd] at ho
   subst ho
   clear hlt
   try simp [Region.binds] at hdep
   simp only [putV, List.foldl_cons, List.foldl_nil, List.setIfInBounds_toArray, List.set_cons_zero, List.set_cons_succ]
   refine wpOpIn_step rfl (fun K hK => ?_)
   rw [if_pos (by rfl)]
   try simp only [Nat.zero_add, Nat.reduceAdd] at hbi
   try simp only [Nat.zero_add, Nat.reduceAdd] at hK
   try simp only [hdep, sel_true]
   replace hK := Lib.hid hK
   gi_wp2)
  all_goals first
   | exact hK.out _ _ ⟨by simp [putV, sel_true, hdep], hB'.out⟩
   | (refine (callsIn_wide.2 d2.out).mono ?_; rintro e w1 ⟨rfl, H1⟩; exact hK.out _ _ ⟨by simp [putV, sel_true, hdep], hB'.out.keep H1⟩)
   | (refine (callsIn_wide.2 d3.out).mono ?_; rintro e w1 ⟨rfl, H1⟩; exact hK.out _ _ ⟨by simp [putV, sel_true, hdep], hB'.out.keep H1⟩)
   | skip
 case hend =>
  intro w2 hB2
  simp only [putV, List.foldl_cons, List.foldl_nil, List.setIfInBounds_toArray, List.set_cons_zero, List.set_cons_succ, sel_true]
  have c4' := c4.out w2 (hG.out.below hB2.B)
  obtain ⟨p, q, r, s, p0, p1, _⟩ := hB2.cells
  replace c4' := Lib.hid c4'
  replace hB2 := Lib.hid hB2
  gi_wp2_with (gi_at_call 60; refine (callsIn_wide.2 c4'.out).mono ?_; rintro e' W3 ⟨rfl, H3⟩; have hN3 := hB2.out.keep H3; obtain ⟨p', q', r', s', _, _, g2, g3, g4, g5, g6, g7, g8, g9⟩ := hN3.cells; replace H3 := Lib.hid H3; replace hN3 := Lib.hid hN3)
  have hF := hN3.out.setLo.setHi
  replace hF := Lib.hid hF
  refine wpIn_region_vals (by kernel_rfl) [(0, 34, .agg #[.string l1, .string l2]), (1, 35, .agg #[.string h1, .string h2])] (NbW w x1 x2 l1 l2 h1 h2 true true) ?rhlt ?rh0 ?rhB ?rhV ?rhs ?rhend
  case rhlt =>
   intro i' o ho e he hbe
   have hlt : i' < 5 := by simpa using (Array.getElem?_eq_some_iff.1 ho).1
   rcases i' with _ | _ | _ | _ | _ | i'
   all_goals try (exfalso; omega)
   all_goals (
    simp only [List.getElem?_toArray, List.getElem?_cons_zero, List.getElem?_cons_succ, Option.some.injEq] at ho
    subst ho
    simp [Region.binds] at he hbe
    try (rcases he with rfl | rfl | rfl | rfl | rfl <;> simp at hbe ⊢)
    try (rcases he with rfl | rfl | rfl <;> simp at hbe ⊢)
    try (rcases he with rfl <;> simp at hbe ⊢))
  case rh0 => simp [putV, sel]
  case rhB => exact ⟨hF.out.x, hF.out.lo, hF.out.hi, ⟨hF.out.B.os, hF.out.B.tape, hF.out.B.output, hF.out.B.size, hF.out.B.block⟩⟩
  case rhV => intro e he; simp at he; rcases he with rfl | rfl <;> simp
  case rhend =>
   intro W' hB
   simp only [putV, List.foldl_cons, List.foldl_nil, List.setIfInBounds_toArray, List.set_cons_zero, List.set_cons_succ, sel_true]
   replace hB := Lib.hid hB
   gi_wp2
   exact ⟨rfl, _, nb_results rfl rfl rfl hB.out.lo hB.out.hi, rfl, hB.out.B⟩
  case rhs =>
   intro b' i' o w'' ho hB hbi hdep
   obtain ⟨f1, f2⟩ := two_cells hB.lo
   obtain ⟨f3, f4⟩ := two_cells hB.hi
   have f5 := frozen0 (j := 0) hB.lo
   have f6 := frozen0 (j := 1) hB.lo
   have f7 := frozen0 (j := 0) hB.hi
   have f8 := frozen0 (j := 1) hB.hi
   have hWl := Lib.hid hB.setLo
   have hWh := Lib.hid hB.setHi
   replace hB := Lib.hid hB
   have hlt : i' < 5 := by simpa using (Array.getElem?_eq_some_iff.1 ho).1
   rcases i' with _ | _ | _ | _ | _ | i'
   all_goals try (exfalso; omega)
   all_goals (
    simp only [List.getElem?_toArray, List.getElem?_cons_zero, List.getElem?_cons_succ, Option.some.injEq, Nat.zero_add, Nat.reduceAdd] at ho
    subst ho
    clear hlt
    try simp [Region.binds] at hdep
    simp only [putV, List.foldl_cons, List.foldl_nil, List.setIfInBounds_toArray, List.set_cons_zero, List.set_cons_succ]
    refine wpOpIn_step rfl (fun K hK => ?_)
    rw [if_pos (by rfl)]
    try simp only [Nat.zero_add, Nat.reduceAdd] at hbi
    try simp only [Nat.zero_add, Nat.reduceAdd] at hK
    try simp only [hdep, sel_true]
    replace hK := Lib.hid hK
    gi_wp2)
   ·exact hK.out _ _ ⟨by simp [sel_true], hB.out⟩
   ·exact hK.out _ _ ⟨by simp [sel_true, hdep], hB.out⟩
   ·exact hK.out _ _ ⟨by simp [sel_true, hdep], hWl.out⟩
   ·exact hK.out _ _ ⟨by simp [sel_true, hdep], hWh.out⟩
   ·exact hK.out _ _ ⟨by simp [sel_true, hdep], hB.out⟩
namespace PF
noncomputable def convergent_Neighbours.f (k : Nat) (x1 x2 : ByteArray) (bound : Int) : Option (ByteArray × ByteArray × ByteArray × ByteArray × Int) :=
 (convergent_bounded.f k x1 x2 bound).bind fun e => if e = 0 then (whole_Of.f bound).bind fun t => (whole_Compare.f x2 t).bind fun c => if c ≤ 0 then (convergent_beside.f k x1 x2 bound 1).bind fun l => (convergent_beside.f k x1 x2 bound (-1)).bind fun h => some (l.1, l.2, h.1, h.2, 0) else (convergent_around.f x1 x2 bound).bind fun r => some (r.1, r.2.1, r.2.2.1, r.2.2.2, 0)
  else some (⟨#[]⟩, ⟨#[]⟩, ⟨#[]⟩, ⟨#[]⟩, e)
end PF
theorem PF.convergent_Neighbours.calls (k : Nat) (a0_0 a0_1 : ByteArray) (a1 : Int) (r1 r2 r3 r4 : ByteArray) (r5 : Int) (w : World) (hG_ : GWorld w) (h : convergent_Neighbours.f k a0_0 a0_1 a1 = some (r1, r2, r3, r4, r5)) :
  Calls Tryz.prog 35 #[.agg #[.string a0_0, .string a0_1], .int .i64 a1] w fun e w' => e = .returned (.tuple #[.agg #[.string r1, .string r2], .agg #[.string r3, .string r4], .int .i64 r5]) ∧ Below w.heap.size w w' := by
 unfold convergent_Neighbours.f at h
 obtain ⟨e, h1, h⟩ := Option.bind_eq_some_iff.1 h
 by_cases he : e = 0
 ·subst he
  rw [if_pos rfl] at h
  obtain ⟨t, h2, h⟩ := Option.bind_eq_some_iff.1 h
  obtain ⟨c, h3, h⟩ := Option.bind_eq_some_iff.1 h
  by_cases hc : c ≤ 0
  ·rw [if_pos hc] at h
   obtain ⟨⟨l1, l2⟩, h4, h⟩ := Option.bind_eq_some_iff.1 h
   obtain ⟨⟨q1, q2⟩, h5, h⟩ := Option.bind_eq_some_iff.1 h
   simp only [Option.some.injEq, Prod.mk.injEq] at h
   obtain ⟨rfl, rfl, rfl, rfl, rfl⟩ := h
   exact nb_near k _ _ _ _ _ _ _ _ _ w hG_ h1 h2 h3 hc h4 h5
  ·rw [if_neg hc] at h
   obtain ⟨⟨l1, l2, q1, q2⟩, h4, h⟩ := Option.bind_eq_some_iff.1 h
   simp only [Option.some.injEq, Prod.mk.injEq] at h
   obtain ⟨rfl, rfl, rfl, rfl, rfl⟩ := h
   exact nb_far k _ _ _ _ _ _ _ _ _ w hG_ h1 h2 h3 hc h4
 ·rw [if_neg he] at h
  simp only [Option.some.injEq, Prod.mk.injEq] at h
  obtain ⟨rfl, rfl, rfl, rfl, rfl⟩ := h
  exact nb_err k _ _ _ _ w hG_ h1 he
end Go.Proofs.YtidajgkepdkcbaaGreatDoor
end
section
namespace Go.Proofs.YtidajgkepdkcbaaGreatDoor
open Go.RowKit Go.Lib Go.Proofs.YtidajgkepdkcbaaGreatDoorW.PrintWords Go.Proofs.YtidajgkepdkcbaaGreatDoorW.PrintLast Go.Proofs.YtidajgkepdkcbaaGreatDoorW.PrintMore PF PL
theorem bezout : ∀ (N : Nat) (n d : Int), d.toNat = N → 0 < d → Int.gcd n d = 1 → ∃ x y, n * x - d * y = 1 := by
 intro N
 induction N using Nat.strongRecOn with
 | _ N ih =>
  intro n d hN hd hg
  have e0 := Int.mul_ediv_add_emod n d
  have r0 := Int.emod_nonneg n (b := d) (by omega)
  have r1 := Int.emod_lt_of_pos n hd
  by_cases hr : n % d = 0
  ·have hdv : d ∣ n := Int.dvd_of_emod_eq_zero hr
   have h1 : (Int.gcd n d : Int) = d := by
    have h2 : d ∣ (Int.gcd n d : Int) := Int.dvd_coe_gcd hdv (Int.dvd_refl d)
    exact Int.le_antisymm (gcd_le hd).2 (Int.le_of_dvd (by rw [hg]; decide) h2)
   rw [hg] at h1
   exact ⟨0, -1, by omega⟩
  ·have hg2 : Int.gcd d (n % d) = 1 := by
    rw [Int.gcd_comm, ← hg]
    have : n = n % d + d * (n / d) := by omega
    conv => rhs; rw [this]
    simp
   obtain ⟨x, y, h⟩ := ih (n % d).toNat (by omega) d (n % d) rfl (by omega) hg2
   refine ⟨-y, -(n / d) * y - x, ?_⟩
   have hn : n = d * (n / d) + n % d := by omega
   generalize n / d = q at *
   generalize n % d = r at *
   rw [hn]
   grind
theorem beside_ex {n d bound s : Int} (hF : Fr n d) : ∃ e c, bound - d < e ∧ e ≤ bound ∧ n * e - d * c = s := by
 obtain ⟨x, y, h⟩ := bezout _ n d rfl hF.1 hF.2
 have hd := hF.1
 have e0 := Int.mul_ediv_add_emod (bound - s * x) d
 have r0 := Int.emod_nonneg (bound - s * x) (b := d) (by omega)
 have r1 := Int.emod_lt_of_pos (bound - s * x) hd
 refine ⟨bound - (bound - s * x) % d, s * y + n * ((bound - s * x) / d), by omega, by omega, ?_⟩
 have : bound - (bound - s * x) % d = s * x + d * ((bound - s * x) / d) := by omega
 rw [this]
 generalize (bound - s * x) / d = q
 grind
theorem beside_go {n d bound s : Int} (hn1 : -1000000 < n) (hn2 : n < 10000000) (hF : Fr n d) (hb : d ≤ bound) (hb2 : bound ≤ 60) (hs : s = 1 ∨ s = -1) {e0 c0 : Int} (h1 : bound - d < e0) (h0 : n * e0 - d * c0 = s) :
  ∀ (m : Nat) (cur : Int), cur - e0 = m → cur ≤ bound → ∃ e c, bound - d < e ∧ e ≤ bound ∧ n * e - d * c = s ∧ Ev (fun k => convergent_beside.l0 k bound s d (n % d) cur (T n) (T d)) (T c, T e) := by
 have hd := hF.1
 have r0 := Int.emod_nonneg n (b := d) (by omega)
 have r1 := Int.emod_lt_of_pos n hd
 have en := Int.mul_ediv_add_emod n d
 have test : ∀ cur : Int, 1 ≤ cur → cur ≤ bound → (Int.tmod (wrap64 (wrap64 (n % d * Int.tmod cur d) - s)) d = 0 ↔ d ∣ n * cur - s) := by
  intro cur hc1 hc2
  have m0 := Int.emod_nonneg cur (b := d) (by omega)
  have m1 := Int.emod_lt_of_pos cur hd
  have ec := Int.mul_ediv_add_emod cur d
  rw [show Int.tmod cur d = cur % d from Int.tmod_eq_emod_of_nonneg (by omega)]
  have p0 : 0 ≤ n % d * (cur % d) := Int.mul_nonneg r0 m0
  have p1 : n % d * (cur % d) ≤ 60 * 60 := Int.mul_le_mul (by omega) (by omega) m0 (by omega)
  rw [w64 (x := n % d * (cur % d)) (by omega) (by omega), w64 (x := n % d * (cur % d) - s) (by omega) (by omega)]
  have e1 : Int.tmod (n % d * (cur % d) - s) d = 0 ↔ d ∣ n % d * (cur % d) - s := ⟨Int.dvd_of_tmod_eq_zero, Int.tmod_eq_zero_of_dvd⟩
  rw [e1]
  have e2 : n * cur - s = (n % d * (cur % d) - s) + d * (n / d * cur + n % d * (cur / d)) := by
   have h5 : n * cur = (d * (n / d) + n % d) * cur := by rw [en]
   have h6 : n % d * cur = n % d * (d * (cur / d) + cur % d) := by rw [ec]
   generalize n / d = q at *
   generalize n % d = r at *
   generalize cur / d = q' at *
   generalize cur % d = r' at *
   grind
  rw [e2]
  constructor
  ·intro h; exact Int.dvd_add h ⟨_, rfl⟩
  ·intro h; exact (Int.dvd_add_left ⟨_, rfl⟩).1 h
 have hit : ∀ cur : Int, 1 ≤ cur → cur ≤ bound → bound - d < cur → d ∣ n * cur - s → ∃ e c, bound - d < e ∧ e ≤ bound ∧ n * e - d * c = s ∧ Ev (fun k => convergent_beside.l0 k bound s d (n % d) cur (T n) (T d)) (T c, T e) := by
  intro cur hc1 hc2 hc3 hdv
  obtain ⟨c, hc⟩ := hdv
  have hg : Int.gcd c cur = 1 := by
   refine gcd_of_det (u := n) (v := d) ?_ |> fun h => h
   have : c * d - n * cur = -s := by have := Int.mul_comm d c; omega
   rcases hs with rfl | rfl
   ·right; omega
   ·left; omega
  have hmc : -(10000000 * 60) ≤ n * cur ∧ n * cur ≤ 10000000 * 60 := mulb (show -10000000 ≤ n ∧ n ≤ 10000000 by omega) (show -60 ≤ cur ∧ cur ≤ 60 by omega) (by decide) (by decide)
  have hfr : fr c cur = (T c, T cur) := by unfold fr; rw [hg]; simp
  have hcd : (n * cur - s) / d = c := by rw [hc]; exact Int.mul_ediv_cancel_left _ (by omega)
  have hcb : c.natAbs ≤ (n * cur - s).natAbs := by rw [← hcd]; exact Int.natAbs_ediv_le_natAbs ..
  have S : ∀ i : Int, -100000000000000000 < i → i < 100000000000000000 → S17 i := fun i h1 h2 => ⟨h1, h2⟩
  refine ⟨cur, c, hc3, hc2, by omega, ?_⟩
  refine Ev.step (f := fun k => convergent_beside.j1 k s cur (T n) (T d)) (fun k => ?_) ?_
  ·rw [convergent_beside.l0, if_pos (by rw [w64 (by omega) (by omega)]; omega), if_neg (by omega), if_pos ((test cur hc1 hc2).2 ⟨c, hc⟩)]
  ·refine Ev.step (fun k => by rw [convergent_beside.j1]) ?_
   refine Ev.bind (ev_const fun _ => whole_Of_T (i := cur) (by omega) (by omega)) ?_
   refine Ev.bind (Mul_T (S n (by omega) (by omega)) (S cur (by omega) (by omega)) (by rw [← Int.natAbs_mul]; omega)) ?_
   refine Ev.bind (ev_const fun _ => whole_Of_T (i := s) (by omega) (by omega)) ?_
   refine Ev.bind (ev_const fun k => Sub_T (S (n * cur) (by omega) (by omega)) (S s (by omega) (by omega)) k) ?_
   refine Ev.bind (DivMod_T (S (n * cur - s) (by omega) (by omega)) (S d (by omega) (by omega)) hd) ?_
   refine Ev.bind (ev_const fun _ => whole_Of_T (i := cur) (by omega) (by omega)) ?_
   simp only
   rw [hcd]
   refine Ev.bind (Over_T (S c (by omega) (by omega)) (S cur (by omega) (by omega)) (by omega)) (ev_const fun _ => ?_)
   rw [hfr]
 intro m
 induction m with
 | zero =>
  intro cur hm hcb
  have : cur = e0 := by omega
  subst this
  exact hit cur (by omega) hcb h1 ⟨c0, by omega⟩
 | succ m ih =>
  intro cur hm hcb
  by_cases hdv : d ∣ n * cur - s
  ·exact hit cur (by omega) hcb (by omega) hdv
  ·obtain ⟨e, c, g1, g2, g3, g4⟩ := ih (cur - 1) (by omega) (by omega)
   refine ⟨e, c, g1, g2, g3, Ev.step (fun k => ?_) g4⟩
   rw [convergent_beside.l0, if_pos (by rw [w64 (by omega) (by omega)]; omega), if_neg (by omega), if_neg (fun h => hdv ((test cur (by omega) hcb).1 h)), w64 (by omega) (by omega)]
theorem Beside_T {n d bound s : Int} (hn1 : -1000000 < n) (hn2 : n < 10000000) (hF : Fr n d) (hb : d ≤ bound) (hb2 : bound ≤ 60) (hs : s = 1 ∨ s = -1) :
  ∃ e c, bound - d < e ∧ e ≤ bound ∧ n * e - d * c = s ∧ Ev (fun k => convergent_beside.f k (T n) (T d) bound s) (T c, T e) := by
 have hd := hF.1
 obtain ⟨e0, c0, h1, h2, h3⟩ := beside_ex (bound := bound) (s := s) hF
 obtain ⟨e, c, g1, g2, g3, g4⟩ := beside_go hn1 hn2 hF hb hb2 hs h1 h3 (bound - e0).toNat bound (by omega) (by omega)
 have r0 := Int.emod_nonneg n (b := d) (by omega)
 have r1 := Int.emod_lt_of_pos n hd
 refine ⟨e, c, g1, g2, g3, ?_⟩
 unfold convergent_beside.f
 refine Ev.bind (ev_const fun _ => Small_T (i := d) (by omega) (by omega)) (Ev.bind (DivMod_T (by unfold S17; omega) (by unfold S17; omega) hd) (Ev.bind (ev_const fun _ => Small_T (i := n % d) (by omega) (by omega)) g4))
theorem Neighbours_T {n d bound : Int} {ts : List Int} (hn1 : -1000000 < n) (hn2 : n < 10000000) (hF : Fr n d) (hd2 : d < 10000000) (hb : 1 ≤ bound) (hb2 : bound ≤ 60) (hts : isCf ts n d) (hl : ts.length ≤ 1000) :
  ∃ A B C E, Ev (fun k => convergent_Neighbours.f k (T n) (T d) bound) (T A, T B, T C, T E, 0) ∧ LowN n d bound A B ∧ HighN n d bound C E ∧ Int.gcd A B = 1 ∧ Int.gcd C E = 1 ∧ (bound < d → Nb n d bound A B C E) ∧
   (-1000000000 < A ∧ A < 1000000000) ∧ (-1000000000 < C ∧ C < 1000000000) := by
 have hd := hF.1
 have hnS : S17 n := by unfold S17; omega
 have hdS : S17 d := by unfold S17; omega
 have hbS : S17 bound := by unfold S17; omega
 by_cases hbd : d ≤ bound
 ·obtain ⟨B, A, a1, a2, a3, a4⟩ := Beside_T (s := 1) hn1 hn2 hF hbd hb2 (.inl rfl)
  obtain ⟨E, C, c1, c2, c3, c4⟩ := Beside_T (s := -1) hn1 hn2 hF hbd hb2 (.inr rfl)
  have bd : ∀ {c e s : Int}, n * e - d * c = s → 1 ≤ e → e ≤ 60 → s = 1 ∨ s = -1 → -1000000000 < c ∧ c < 1000000000 := by
   intro c e s h h1 h2 h3
   have hm := mulb (show -10000000 ≤ n ∧ n ≤ 10000000 by omega) (show -60 ≤ e ∧ e ≤ 60 by omega) (by decide) (by decide)
   have hc : c.natAbs * 1 ≤ c.natAbs * d.natAbs := Nat.mul_le_mul_left _ (by omega)
   have : c.natAbs * d.natAbs = (d * c).natAbs := by rw [Int.natAbs_mul, Nat.mul_comm]
   omega
  refine ⟨A, B, C, E, ?_, beside_low hd a3 (by omega) a2 (by omega), beside_high hd c3 (by omega) c2 (by omega), ?_, ?_, fun h => by omega, bd a3 (by omega) (by omega) (.inl rfl), bd c3 (by omega) (by omega) (.inr rfl)⟩
  ·unfold convergent_Neighbours.f
   refine Ev.bind (Bounded_T hnS hdS hF hb (by omega)) (Ev.congr (fun k => if_pos rfl) ?_)
   refine Ev.bind (ev_const fun _ => whole_Of_T (i := bound) (by omega) (by omega)) (Ev.bind (ev_const fun _ => Compare_T (by have := hdS.size; omega) (by have := hbS.size; omega)) ?_)
   have hc : cmp d bound ≤ 0 := by unfold cmp; split; omega; rw [if_neg (by omega)]; omega
   exact Ev.congr (fun k => if_pos hc) (Ev.bind a4 (Ev.bind c4 (ev_const fun _ => rfl)))
  ·refine gcd_of_det (u := n) (v := d) ?_
   right
   have := Int.mul_comm d A
   omega
  ·refine gcd_of_det (u := n) (v := d) ?_
   left
   have := Int.mul_comm d C
   omega
 ·obtain ⟨A, B, C, E, h1, hN, gA, gC⟩ := around_all hn1 hn2 hF hd2 hb hb2 (by omega) hts hl
  have p1 := gA.p1
  have p2 := gA.p2
  have p3 := gC.p1
  have p4 := gC.p2
  simp only at p1 p2 p3 p4
  refine ⟨A, B, C, E, ?_, hN.low hd, hN.high hd, gA.g, gC.g, fun _ => hN, by omega, by omega⟩
  unfold convergent_Neighbours.f
  refine Ev.bind (Bounded_T hnS hdS hF hb (by omega)) (Ev.congr (fun k => if_pos rfl) ?_)
  refine Ev.bind (ev_const fun _ => whole_Of_T (i := bound) (by omega) (by omega)) (Ev.bind (ev_const fun _ => Compare_T (by have := hdS.size; omega) (by have := hbS.size; omega)) ?_)
  have hc : ¬ cmp d bound ≤ 0 := by unfold cmp; rw [if_neg (by omega), if_pos (by omega)]; omega
  exact Ev.congr (fun k => if_neg hc) (Ev.bind (ev_const fun _ => h1) (ev_const fun _ => rfl))
theorem T_9 {i : Int} (h1 : -1000000000 < i) (h2 : i < 1000000000) : (T i).size ≤ 17 := by
 have : (T i).size ≤ 9 + 1 := T_size_le (by omega) (by omega)
 omega
end Go.Proofs.YtidajgkepdkcbaaGreatDoor
end
