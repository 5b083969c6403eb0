/- Failed, where one delta failed, the one that is asked for. -/
import Derived.Test.YtbllpnjappddeaaGreatKLrA
import Derived.Test.YtbllpnjappddeaaGreatKOvL
import Derived.RangeFuncBox
set_option linter.unusedVariables false
set_option linter.unusedSimpArgs false
set_option linter.unusedSimpArgs false
set_option linter.unusedVariables false
namespace Go.Proofs.YtbllpnjappddeaaGreat
open Go.RowKit Go.Shelf
attribute [local go_sem] Oper.semAt_some
abbrev flF (i1 i2 a1 a2 s e : Int) : Value := .agg #[.int .i64 i1, .int .i64 i2, .int .i64 a1, .int .i64 a2, .int .i64 s, .int .i64 e]
/-- Six numbers, from a place on. -/
def SixAt (W : World) (b o : Nat) (i1 i2 a1 a2 s e : Int) : Prop :=
  W.cell? ⟨b, o, none⟩ = some (.int .i64 i1) ∧ W.cell? ⟨b, o + 1, none⟩ = some (.int .i64 i2) ∧ W.cell? ⟨b, o + 2, none⟩ = some (.int .i64 a1) ∧ W.cell? ⟨b, o + 3, none⟩ = some (.int .i64 a2) ∧ W.cell? ⟨b, o + 4, none⟩ = some (.int .i64 s) ∧ W.cell? ⟨b, o + 5, none⟩ = some (.int .i64 e)
theorem SixAt.below {n₀ : Nat} {A B : World} (h : Below n₀ A B) {b o : Nat} (hb : b < n₀) {i1 i2 a1 a2 s e : Int} (k : SixAt A b o i1 i2 a1 a2 s e) : SixAt B b o i1 i2 a1 a2 s e := by
  obtain ⟨k0, k1, k2, k3, k4, k5⟩ := k
  exact ⟨(h.cell hb).trans k0, (h.cell hb).trans k1, (h.cell hb).trans k2, (h.cell hb).trans k3, (h.cell hb).trans k4, (h.cell hb).trans k5⟩
set_option maxRecDepth 100000 in
set_option maxHeartbeats 2000000 in
theorem fl1_seq_in (F : Fence) (n : Nat) (h7 : F.fn 164) (hro : F.round = none) (hn : 1 ≤ n) (l Bs n₀ fb fo cap : Nat) (i1 i2 a1 a2 s e : Int) (hb : fb < n₀) (hBn : Bs < n₀) (J Jx : List Unit → World → Prop)
    (hY : ∀ pre x W, J pre W → pre.length < 1 → YieldAt F (n - 1) Tryz.prog l #[.int .i64 0, flF i1 i2 a1 a2 s e] W fun ee W' =>
      (ee = .returned (.bool true) ∧ J (pre ++ [x]) W' ∧ Below n₀ W W') ∨ (ee = .returned (.bool false) ∧ Jx (pre ++ [x]) W'))
    (W : World) (hBs : W.cell? ⟨Bs, 0, none⟩ = some (.slice (some ⟨fb, fo, none⟩) 1 cap)) (hc : SixAt W fb fo i1 i2 a1 a2 s e) (h0 : J [] W) :
    CallsIn F n Tryz.prog 164 #[.func (.yield l) #[] #[], .pointer (some ⟨Bs, 0, none⟩)] W fun ee W' => (∃ v, ee = .returned v) ∧
      ((∃ ys, ys = [()] ∧ J ys W') ∨ (∃ pre, pre = [()] ∧ Jx pre W')) := by
  refine callsIn_of_wp Tryz.func164 rfl h7 ?_ hro
  simp only [Tryz.ntmps164, List.size_toArray, List.length_cons, List.length_nil, Nat.reduceAdd, Nat.reduceSub, Array.replicate_succ, Array.replicate_zero, List.push_toArray, List.append_toArray, List.nil_append, List.cons_append]
  gi_wp2
  gi_loopw [3] (fun i wr => (i = .int .i64 0 ∧ J [] wr ∧ Below n₀ W wr) ∨ (i = .int .i64 (-1) ∧ J [()] wr)) (fun i _ => (intOf i + 1).toNat)
  case atStart => exact .inl ⟨rfl, h0, Below.refl _ _⟩
  case round =>
    rcases hrel with ⟨rfl, hJs, hnx⟩ | ⟨rfl, hJs⟩
    · have hBs' := (hnx.cell (p := ⟨Bs, 0, none⟩) hBn).trans hBs
      obtain ⟨k0, k1, k2, k3, k4, k5⟩ := hc.below hnx hb
      obtain ⟨fn, tmps, assign, body, hy, hR⟩ := hY [] () wr hJs (by simp)
      gi_wp2
      refine hR.mono ?_
      rintro ee W3 (⟨rfl, hJ3, hk3⟩ | ⟨rfl, hJx3⟩)
      · gi_wp2
        go_roundw
        case rel => exact .inr ⟨by simp, hJ3⟩
        case measure => simp [intOf]
      · gi_wp2
        refine bodyPost_ret (results_none rfl _ _ _) rfl ?_
        exact ⟨⟨_, rfl⟩, .inr ⟨_, rfl, hJx3⟩⟩
    · gi_wp2
      go_end0
      exact ⟨⟨_, rfl⟩, .inl ⟨_, rfl, hJs⟩⟩
set_option maxHeartbeats 1000000 in
theorem fl1_back_in (F : Fence) (n : Nat) (h5 : F.fn 89) (hro : F.round = none) (fb fo cap : Nat) (w : World) :
    CallsIn F n Tryz.prog 89 #[.slice (some ⟨fb, fo, none⟩) 1 cap] w fun e w' => e = .returned (.func (.func 164) #[] #[.pointer (some ⟨w.heap.size, 0, none⟩)]) ∧ w' = w.alloc (.cells #[.slice (some ⟨fb, fo, none⟩) 1 cap] 123) := by
  refine callsIn_of_wp Tryz.func89 rfl h5 ?_ hro
  simp only [Tryz.ntmps89, List.size_toArray, List.length_cons, List.length_nil, Nat.reduceAdd, Nat.reduceSub, Array.replicate_succ, Array.replicate_zero, List.push_toArray, List.append_toArray, List.nil_append, List.cons_append]
  gi_wp2
  go_ret
  exact ⟨rfl, rfl⟩
theorem fl1_stops (F : Fence) (n : Nat) (h7 : F.fn 164) (hro : F.round = none) (hn : 1 ≤ n) (Bs n₀ fb fo cap : Nat) (i1 i2 a1 a2 s e : Int) (w : World) (hn₀ : n₀ ≤ w.heap.size) (hb : fb < n₀) (hBs : Bs < n₀) (hc : w.cell? ⟨Bs, 0, none⟩ = some (.slice (some ⟨fb, fo, none⟩) 1 cap)) (h6 : SixAt w fb fo i1 i2 a1 a2 s e) :
    SeqStopsK F n Tryz.prog 164 #[.pointer (some ⟨Bs, 0, none⟩)] (fun _ : Unit => #[.int .i64 0, flF i1 i2 a1 a2 s e]) (Below n₀) (fun ys => ys = [()]) (fun ys => ys = [()]) 1 w := fun l J Jx W hW _ _ hY h0 =>
  fl1_seq_in F n h7 hro hn l Bs n₀ fb fo cap i1 i2 a1 a2 s e hb hBs J Jx hY W (((hW.mono hn₀).cell (p := ⟨Bs, 0, none⟩) hBs).trans hc) (h6.below (hW.mono hn₀) hb) h0
theorem six_own {β : Type} (b o : Nat) (i1 i2 a1 a2 s e : Int) : Own (fun (_ : β) W => SixAt W b o i1 i2 a1 a2 s e) := by
  rintro _ X Y row ⟨k0, k1, k2, k3, k4, k5⟩ hg hr
  exact ⟨cell_kept k0 hg hr, cell_kept k1 hg hr, cell_kept k2 hg hr, cell_kept k3 hg hr, cell_kept k4 hg hr, cell_kept k5 hg hr⟩
theorem cell_own {β : Type} (a : Addr) (v : Value) : Own (fun (_ : β) W => W.cell? a = some v) := fun _ X Y row h hg hr => cell_kept h hg hr
set_option maxRecDepth 100000 in
set_option maxHeartbeats 4000000 in
theorem failed1_in (F : Fence) (n : Nat) (h1f : F.fn 27) (h2f : F.fn 89) (h3f : F.fn 164) (hro : F.round = none) (hn : 3 ≤ n)
    (b o fb fo cap : Nat) (i1 i2 a1 a2 s e : Int) (w : World) (hc : w.cell? ⟨b, o + 7, none⟩ = some (.slice (some ⟨fb, fo, none⟩) 1 cap)) (h6 : SixAt w fb fo i1 i2 a1 a2 s e) :
    CallsIn F n Tryz.prog 27 #[.pointer (some ⟨b, o, none⟩), .agg #[.int .i64 i1, .int .i64 i2], .agg #[.int .i64 a1, .int .i64 a2], .int .i64 s] w fun ee W' => ee = .returned (.tuple #[flF i1 i2 a1 a2 s e, .bool true]) ∧ Below w.heap.size w W' := by
  have h1 : 1 ≤ n := by omega
  have hb : b < w.heap.size := block_lt_of_cell hc
  have hfb : fb < w.heap.size := block_lt_of_cell h6.1
  refine callsIn_of_wp_marks Tryz.func27 rfl h1f ?_ hro
  simp only [Tryz.ntmps27, List.size_toArray, List.length_cons, List.length_nil, Nat.reduceAdd, Nat.reduceSub, Array.replicate_succ, Array.replicate_zero, List.push_toArray, List.append_toArray, List.nil_append, List.cons_append]
  have hc1 : (((((w.alloc (.cells #[.int .i64 i1, .int .i64 i2] 31)).alloc (.cells #[.int .i64 a1, .int .i64 a2] 28)).alloc (.cells #[.int .i64 s] 3)).alloc (.cells #[.int .i64 0, .int .i64 0, .int .i64 0, .int .i64 0, .int .i64 0, .int .i64 0] 76)).alloc (.cells #[.bool false] 4)).cell? ⟨b, o + 7, none⟩ = some (.slice (some ⟨fb, fo, none⟩) 1 cap) := by
    rw [World.cell?_alloc_past _ b _ (by simp; omega), World.cell?_alloc_past _ b _ (by simp; omega), World.cell?_alloc_past _ b _ (by simp; omega), World.cell?_alloc_past _ b _ (by simp; omega), World.cell?_alloc_past _ b _ hb]; exact hc
  gi_wp2_with (gi_at_call 89; refine (fl1_back_in F (n - 1) h2f hro fb fo cap _).mono ?_; rintro ee w' ⟨rfl, rfl⟩)
  obtain ⟨W0, hW0⟩ : ∃ W0, ((((((w.alloc (.cells #[.int .i64 i1, .int .i64 i2] 31)).alloc (.cells #[.int .i64 a1, .int .i64 a2] 28)).alloc (.cells #[.int .i64 s] 3)).alloc (.cells #[.int .i64 0, .int .i64 0, .int .i64 0, .int .i64 0, .int .i64 0, .int .i64 0] 76)).alloc (.cells #[.bool false] 4)).alloc (.cells #[.slice (some ⟨fb, fo, none⟩) 1 cap] 123)) = W0 := ⟨_, rfl⟩
  have hs0 : W0.heap.size = w.heap.size + 6 := by rw [← hW0]; simp
  have hcb : W0.cell? ⟨w.heap.size + 1 + 1 + 1 + 1 + 1, 0, none⟩ = some (.slice (some ⟨fb, fo, none⟩) 1 cap) := by
    rw [← hW0, World.cell?_alloc_at _ _ _ 0 (by simp)]; rfl
  have h0 : W0.heap[w.heap.size]? = some (.cells #[.int .i64 i1, .int .i64 i2] 31 (0, 0)) := by
    rw [← hW0]; refine (Below.heap_alloc _ _ _ (by simp; omega)).trans ((Below.heap_alloc _ _ _ (by simp; omega)).trans ((Below.heap_alloc _ _ _ (by simp; omega)).trans ((Below.heap_alloc _ _ _ (by simp; omega)).trans ((Below.heap_alloc _ _ _ (by simp)).trans ?_)))); exact World.alloc_heap_new w _
  have g1 : W0.heap[w.heap.size + 1]? = some (.cells #[.int .i64 a1, .int .i64 a2] 28 (0, 0)) := by
    rw [← hW0]; refine (Below.heap_alloc _ _ _ (by simp <;> omega)).trans ((Below.heap_alloc _ _ _ (by simp <;> omega)).trans ((Below.heap_alloc _ _ _ (by simp <;> omega)).trans ((Below.heap_alloc _ _ _ (by simp)).trans ?_))); have := World.alloc_heap_new (w.alloc (.cells #[.int .i64 i1, .int .i64 i2] 31)) (.cells #[.int .i64 a1, .int .i64 a2] 28); simpa using this
  have g2 : W0.heap[w.heap.size + 1 + 1]? = some (.cells #[.int .i64 s] 3 (0, 0)) := by
    rw [← hW0]; refine (Below.heap_alloc _ _ _ (by simp <;> omega)).trans ((Below.heap_alloc _ _ _ (by simp <;> omega)).trans ((Below.heap_alloc _ _ _ (by simp)).trans ?_)); have := World.alloc_heap_new ((w.alloc (.cells #[.int .i64 i1, .int .i64 i2] 31)).alloc (.cells #[.int .i64 a1, .int .i64 a2] 28)) (.cells #[.int .i64 s] 3); simpa using this
  have h3 : W0.heap[w.heap.size + 1 + 1 + 1]? = some (.cells #[.int .i64 0, .int .i64 0, .int .i64 0, .int .i64 0, .int .i64 0, .int .i64 0] 76 (0, 0)) := by
    rw [← hW0]; refine (Below.heap_alloc _ _ _ (by simp)).trans ((Below.heap_alloc _ _ _ (by simp)).trans ?_); have := World.alloc_heap_new (((w.alloc (.cells #[.int .i64 i1, .int .i64 i2] 31)).alloc (.cells #[.int .i64 a1, .int .i64 a2] 28)).alloc (.cells #[.int .i64 s] 3)) (.cells #[.int .i64 0, .int .i64 0, .int .i64 0, .int .i64 0, .int .i64 0, .int .i64 0] 76); simpa using this
  have h4 : W0.heap[w.heap.size + 1 + 1 + 1 + 1]? = some (.cells #[.bool false] 4 (0, 0)) := by
    rw [← hW0]; refine (Below.heap_alloc _ _ _ (by simp)).trans ?_; have := World.alloc_heap_new ((((w.alloc (.cells #[.int .i64 i1, .int .i64 i2] 31)).alloc (.cells #[.int .i64 a1, .int .i64 a2] 28)).alloc (.cells #[.int .i64 s] 3)).alloc (.cells #[.int .i64 0, .int .i64 0, .int .i64 0, .int .i64 0, .int .i64 0, .int .i64 0] 76)) (.cells #[.bool false] 4); simpa using this
  have hwW : Below w.heap.size w W0 := by
    rw [← hW0]; exact ((((((Below.refl _ w).alloc (Nat.le_refl _) _).alloc (by simp) _).alloc (by simp; omega) _).alloc (by simp; omega) _).alloc (by simp; omega) _).alloc (by simp; omega) _
  have h6W := h6.below hwW hfb
  rw [hW0]
  clear hc1
  refine wpIn_rangeFunc_ownH hro h1 (gf := 164) (lb := #[.pointer (some ⟨w.heap.size + 1 + 1 + 1 + 1 + 1, 0, none⟩)]) rfl h3f (enters_of Tryz.func164 (by kernel_rfl) rfl)
    (fl1_stops F (n - 1) h3f hro (by omega) (w.heap.size + 1 + 1 + 1 + 1 + 1) W0.heap.size fb fo cap i1 i2 a1 a2 s e W0 (Nat.le_refl _) (by omega) (by omega) hcb h6W) belowK_t (belowK_b (Nat.le_refl _)) (Below.refl _ _) (fun _ => rfl)
    (fun pre W => pre = [] ∧ Below W0.heap.size W0 W)
    (fun c _ W => c = .ret ∧ (Below w.heap.size w W ∧ (SixAt W (w.heap.size + 1 + 1 + 1) 0 i1 i2 a1 a2 s e ∧ W.cell? ⟨w.heap.size + 1 + 1 + 1 + 1, 0, none⟩ = some (.bool true))))
    (OwnFrom.and (ownFrom_pure _ _) (ownFrom_below (Nat.le_refl _) (Nat.le_refl _)))
    (fun c => OwnFrom.and (ownFrom_pure _ _) (OwnFrom.and (ownFrom_below (Nat.le_refl _) (by omega)) (OwnFrom.and (Own.from (six_own _ _ _ _ _ _ _ _) _) (Own.from (cell_own _ _) _))))
    ⟨rfl, Below.refl _ _⟩
    (fun _ a' W => ∃ Bx, W0.heap.size ≤ Bx ∧ SixAt W Bx 0 i1 i2 a1 a2 s e ∧ a' = { tmps := #[.pointer (some ⟨b, o, none⟩), .agg #[.int .i64 i1, .int .i64 i2], .agg #[.int .i64 a1, .int .i64 a2], .int .i64 s, undef, .pointer (some ⟨w.heap.size, 0, none⟩), .pointer (some ⟨w.heap.size + 1, 0, none⟩), .pointer (some ⟨w.heap.size + 1 + 1, 0, none⟩), .pointer (some ⟨w.heap.size + 1 + 1 + 1, 0, none⟩), .pointer (some ⟨w.heap.size + 1 + 1 + 1 + 1, 0, none⟩), undef, .pointer (some ⟨Bx, 0, none⟩), .pointer (some ⟨b, o, none⟩), .pointer (some ⟨b, o, none⟩), .pointer (some ⟨b, o + 7, none⟩), .slice (some ⟨fb, fo, none⟩) 1 cap, .func (.func 164) #[] #[.pointer (some ⟨w.heap.size + 1 + 1 + 1 + 1 + 1, 0, none⟩)], .int .i64 0, flF i1 i2 a1 a2 s e, undef, undef, undef, undef, undef, undef, undef, undef, undef, undef, undef, undef, undef, undef, undef, undef, undef, undef], defers := [] })
    (fun _ a' _ X Y row hs hg hr => by obtain ⟨Bx, k1, k2, k3⟩ := hs; exact ⟨Bx, k1, six_own (β := Unit) Bx 0 i1 i2 a1 a2 s e () X Y row k2 hg (fun r e => (hr r e).2), k3⟩)
    ?assign ?body ?done ?stop
  case assign =>
    rintro l pre x W K ⟨rfl, hB⟩ hK
    gi_wp2
    refine hK _ _ ((KeepsOthers.alloc _ _).from _) ((Below.refl _ W).alloc hB.size _) ⟨trivial, hB.alloc hB.size _⟩ ⟨W.heap.size, hB.size, ⟨?_, ?_, ?_, ?_, ?_, ?_⟩, rfl⟩ <;> (rw [World.cell?_alloc_at _ _ _ _ (by simp)]; rfl)
  case body =>
    rintro l pre x a' W hl ⟨r, hr⟩ ⟨rfl, hB⟩ ⟨Bx, hBx, ⟨k0, k1, k2, k3, k4, k5⟩, rfl⟩ hlt
    have q0 := (hB.block _ (by omega)).trans h0
    have q1 := (hB.block _ (by omega)).trans g1
    have q2 := (hB.block _ (by omega)).trans g2
    have q3 := (hB.block _ (by omega)).trans h3
    have q4 := (hB.block _ (by omega)).trans h4
    have c00 := Den.cell_of_heap q0 0
    have c01 := Den.cell_of_heap q0 1
    have c10 := Den.cell_of_heap q1 0
    have c11 := Den.cell_of_heap q1 1
    have c20 := Den.cell_of_heap q2 0
    have c30 := Den.cell_of_heap q3 0
    have c31 := Den.cell_of_heap q3 1
    have c32 := Den.cell_of_heap q3 2
    have c33 := Den.cell_of_heap q3 3
    have c34 := Den.cell_of_heap q3 4
    have c35 := Den.cell_of_heap q3 5
    have c40 := Den.cell_of_heap q4 0
    have f30 := Den.frozen_of_heap q3 rfl 0
    have f31 := Den.frozen_of_heap q3 rfl 1
    have f32 := Den.frozen_of_heap q3 rfl 2
    have f33 := Den.frozen_of_heap q3 rfl 3
    have f34 := Den.frozen_of_heap q3 rfl 4
    have f35 := Den.frozen_of_heap q3 rfl 5
    have f40 := Den.frozen_of_heap q4 rfl 0
    simp at c00 c01 c10 c11 c20 c30 c31 c32 c33 c34 c35 c40
    simp only [Nat.zero_add] at k0 k1 k2 k3 k4 k5
    gi_wp2
    have hisz : ∀ j, j < 6 → (W.cell? ⟨w.heap.size + 1 + 1 + 1, 0 + j, none⟩).isSome = true := fun j hj => by
      rw [Den.cell_of_heap q3, Nat.zero_add]
      match j, hj with
      | 0, _ => rfl
      | 1, _ => rfl
      | 2, _ => rfl
      | 3, _ => rfl
      | 4, _ => rfl
      | 5, _ => rfl
    change ownPostG _ _ _ _ _ W .ret _ ((W.setCells (w.heap.size + 1 + 1 + 1) 0 [.int .i64 i1, .int .i64 i2, .int .i64 a1, .int .i64 a2, .int .i64 s, .int .i64 e]).setCells (w.heap.size + 1 + 1 + 1 + 1) 0 [.bool true])
    have hKO : KeepsOthers W ((W.setCells (w.heap.size + 1 + 1 + 1) 0 [.int .i64 i1, .int .i64 i2, .int .i64 a1, .int .i64 a2, .int .i64 s, .int .i64 e]).setCells (w.heap.size + 1 + 1 + 1 + 1) 0 [.bool true]) :=
      ((((((KeepsOthers.setCell _ _ _).trans (KeepsOthers.setCell _ _ _)).trans (KeepsOthers.setCell _ _ _)).trans (KeepsOthers.setCell _ _ _)).trans (KeepsOthers.setCell _ _ _)).trans (KeepsOthers.setCell _ _ _)).trans (KeepsOthers.setCell _ _ _)
    have hBB : Below w.heap.size w ((W.setCells (w.heap.size + 1 + 1 + 1) 0 [.int .i64 i1, .int .i64 i2, .int .i64 a1, .int .i64 a2, .int .i64 s, .int .i64 e]).setCells (w.heap.size + 1 + 1 + 1 + 1) 0 [.bool true]) :=
      (((((((hwW.trans (hB.mono (by omega))).setCell (p := ⟨w.heap.size + 1 + 1 + 1, 0, none⟩) (by simp; omega) _).setCell (p := ⟨w.heap.size + 1 + 1 + 1, 1, none⟩) (by simp; omega) _).setCell (p := ⟨w.heap.size + 1 + 1 + 1, 2, none⟩) (by simp; omega) _).setCell (p := ⟨w.heap.size + 1 + 1 + 1, 3, none⟩) (by simp; omega) _).setCell (p := ⟨w.heap.size + 1 + 1 + 1, 4, none⟩) (by simp; omega) _).setCell (p := ⟨w.heap.size + 1 + 1 + 1, 5, none⟩) (by simp; omega) _).setCell (p := ⟨w.heap.size + 1 + 1 + 1 + 1, 0, none⟩) (by simp; omega) _
    have hcs : ∀ j, j < 6 → ((W.setCells (w.heap.size + 1 + 1 + 1) 0 [.int .i64 i1, .int .i64 i2, .int .i64 a1, .int .i64 a2, .int .i64 s, .int .i64 e]).setCells (w.heap.size + 1 + 1 + 1 + 1) 0 [.bool true]).cell? ⟨w.heap.size + 1 + 1 + 1, 0 + j, none⟩ = [Value.int .i64 i1, .int .i64 i2, .int .i64 a1, .int .i64 a2, .int .i64 s, .int .i64 e][j]? := fun j hj => by
      rw [World.cell?_setCells_out (w.heap.size + 1 + 1 + 1 + 1) [.bool true] 0 _ ⟨w.heap.size + 1 + 1 + 1, 0 + j, none⟩ (fun h _ => absurd h (by omega : w.heap.size + 1 + 1 + 1 ≠ w.heap.size + 1 + 1 + 1 + 1))]
      exact (World.cell?_setCells_in (w.heap.size + 1 + 1 + 1) [Value.int .i64 i1, .int .i64 i2, .int .i64 a1, .int .i64 a2, .int .i64 s, .int .i64 e] 0 W (fun j hj => hisz j hj) j hj).trans (List.getElem?_eq_getElem (by simpa using hj)).symm
    have hcz := World.cell?_setCells_in (w.heap.size + 1 + 1 + 1 + 1) [.bool true] 0 (W.setCells (w.heap.size + 1 + 1 + 1) 0 [.int .i64 i1, .int .i64 i2, .int .i64 a1, .int .i64 a2, .int .i64 s, .int .i64 e]) (fun j hj => by
      rw [World.cell?_setCells_out (w.heap.size + 1 + 1 + 1) [Value.int .i64 i1, .int .i64 i2, .int .i64 a1, .int .i64 a2, .int .i64 s, .int .i64 e] 0 W ⟨w.heap.size + 1 + 1 + 1 + 1, 0 + j, none⟩ (fun h _ => absurd h (by omega : w.heap.size + 1 + 1 + 1 + 1 ≠ w.heap.size + 1 + 1 + 1)), Den.cell_of_heap q4]
      match j, hj with
      | 0, _ => rfl) 0 (by simp)
    exact ⟨hKO.from _, rfl, hBB, ⟨hcs 0 (by omega), hcs 1 (by omega), hcs 2 (by omega), hcs 3 (by omega), hcs 4 (by omega), hcs 5 (by omega)⟩, hcz⟩
  case done =>
    rintro D xs W hD rfl ⟨hx, _⟩
    cases hx
  case stop =>
    rintro D c pre W hD _ ⟨rfl, hB, ⟨k0, k1, k2, k3, k4, k5⟩, k6⟩ hK
    gi_wp2
    refine ⟨by simp, .inl ⟨_, _, rfl, run_takeDeferred hK, ?_⟩⟩
    have kept : ∀ {a : Addr} {v : Value}, W.cell? a = some v → _ := fun {a v} h => cell_kept h (grownBy_putObj' _ D (.deferred none)) (fun r e => by cases e; exact ⟨_, hK, rfl⟩)
    have d0 := kept k0
    have d1 := kept k1
    have d2 := kept k2
    have d3 := kept k3
    have d4 := kept k4
    have d5 := kept k5
    have d6 := kept k6
    refine ⟨.tuple #[flF i1 i2 a1 a2 s e, .bool true], ?_, rfl, hB.trans (belowK_b (w := w) (Nat.le_refl _) W D _ _ (by omega) hK rfl rfl)⟩
    simp only [Nat.zero_add, Nat.add_zero] at d0 d1 d2 d3 d4 d5 d6
    simp [results, Tryz.f27, go_sem, d0, d1, d2, d3, d4, d5, d6]
theorem failed_one (b o fb fo cap : Nat) (i1 i2 a1 a2 s e : Int) (w : World) (hc : w.cell? ⟨b, o + 7, none⟩ = some (.slice (some ⟨fb, fo, none⟩) 1 cap)) (h6 : SixAt w fb fo i1 i2 a1 a2 s e) :
    Calls Tryz.prog 27 #[.pointer (some ⟨b, o, none⟩), .agg #[.int .i64 i1, .int .i64 i2], .agg #[.int .i64 a1, .int .i64 a2], .int .i64 s] w fun ee W' => ee = .returned (.tuple #[flF i1 i2 a1 a2 s e, .bool true]) ∧ Below w.heap.size w W' :=
  (callsIn_wide (n := 3)).1 (failed1_in Fence.wide 3 trivial trivial trivial rfl (Nat.le_refl _) b o fb fo cap i1 i2 a1 a2 s e w hc h6)
namespace Den
/-- One failed, the one that is asked for. -/
def failed1S : Spec := fun args nm H =>
  match args with
  | [.ptr q 0, .agg [.val (.int .i64 i1), .val (.int .i64 i2)], .agg [.val (.int .i64 a1), .val (.int .i64 a2)], .val (.int .i64 s)] =>
    match H q with
    | some row =>
      match row[7]? with
      | some (AV.sl n off 1 6) =>
        match H n with
        | some cells =>
          match cells.drop off with
          | .val (.int .i64 j1) :: .val (.int .i64 j2) :: .val (.int .i64 b1) :: .val (.int .i64 b2) :: .val (.int .i64 s') :: .val (.int .i64 e) :: _ =>
            if j1 = i1 ∧ j2 = i2 ∧ b1 = a1 ∧ b2 = a2 ∧ s' = s then some (.tup [.agg [vi i1, vi i2, vi a1, vi a2, vi s, vi e], vb true], H) else none
          | _ => none
        | none => none
      | _ => none
    | none => none
  | _ => none
theorem failed1_ok : FnOK Tryz.prog 27 failed1S := by
  refine ⟨by kernel_rfl, fun args nm H r H' hs => ?_⟩
  unfold failed1S at hs
  split at hs
  · rename_i q i1 i2 a1 a2 s
    split at hs
    · rename_i row hrow
      split at hs
      · rename_i n off h7
        split at hs
        · rename_i cells hcells
          split at hs
          · rename_i j1 j2 b1 b2 s' e rest hdrop
            split at hs
            · rename_i heq
              obtain ⟨rfl, rfl, rfl, rfl, rfl⟩ := heq
              cases hs
              intro σ I w vs hfr hv har
              generalize hL : vs.toList = L at hv
              cases hv with
              | cons hv1 ht =>
                cases ht with
                | cons hv2 ht =>
                  cases ht with
                  | cons hv3 ht =>
                    cases ht with
                    | cons hv4 ht =>
                      cases ht
                      cases hv4
                      cases hv1 with
                      | @ptr _ _ p hp =>
                        cases hv2 with
                        | @agg _ ar2 g2 =>
                          cases hv3 with
                          | @agg _ ar3 g3 =>
                            generalize h2 : ar2.toList = l2 at g2
                            generalize h3 : ar3.toList = l3 at g3
                            cases g2 with
                            | cons k1 t =>
                              cases t with
                              | cons k2 t =>
                                cases t
                                cases k1
                                cases k2
                                cases g3 with
                                | cons k1 t =>
                                  cases t with
                                  | cons k2 t =>
                                    cases t
                                    cases k1
                                    cases k2
                                    have e2 : ar2 = #[.int .i64 j1, .int .i64 j2] := Array.ext' h2
                                    have e3 : ar3 = #[.int .i64 b1, .int .i64 b2] := Array.ext' h3
                                    subst e2 e3
                                    have hvs : vs = #[.pointer (some ⟨p.b, p.o + 0, none⟩), .agg #[.int .i64 j1, .int .i64 j2], .agg #[.int .i64 b1, .int .i64 b2], .int .i64 s'] := Array.ext' hL
                                    rw [hvs]
                                    obtain ⟨v, hv7, hr7, _⟩ := har.cell hrow hp h7
                                    cases hr7 with
                                    | @sl _ _ _ _ cap p' hp' hl hcap =>
                                      have cell : ∀ (k : Nat) (x : Int), (cells.drop off)[k]? = some (.val (.int .i64 x)) → w.cell? ⟨p'.b, p'.o + off + k, none⟩ = some (.int .i64 x) := fun k x hk => by
                                        rw [List.getElem?_drop] at hk
                                        obtain ⟨v, g1, g2, _⟩ := har.cell hcells hp' hk
                                        cases g2
                                        rw [Nat.add_assoc]; exact g1
                                      refine (failed_one p.b p.o p'.b (p'.o + off) cap j1 j2 b1 b2 s' e w (by simpa using hv7) ⟨cell 0 _ (by rw [hdrop]; rfl), cell 1 _ (by rw [hdrop]; rfl), cell 2 _ (by rw [hdrop]; rfl), cell 3 _ (by rw [hdrop]; rfl), cell 4 _ (by rw [hdrop]; rfl), cell 5 _ (by rw [hdrop]; rfl)⟩).mono ?_
                                      rintro ee w' ⟨rfl, hb⟩
                                      exact ⟨_, σ, I, rfl, Step.below har hb, .tup (.cons (.agg (.cons (.val _) (.cons (.val _) (.cons (.val _) (.cons (.val _) (.cons (.val _) (.cons (.val _) .nil))))))) (.cons (.val _) .nil))⟩
            · cases hs
          · cases hs
        · cases hs
      · cases hs
    · cases hs
  · cases hs
end Den
end Go.Proofs.YtbllpnjappddeaaGreat
