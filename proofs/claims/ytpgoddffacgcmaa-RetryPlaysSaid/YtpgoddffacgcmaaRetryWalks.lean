/- The timers of package retry and of the reference of chapter 17, walked. -/
import Derived.Test.YtpgoddffacgcmaaRows
import Derived.Test.YtpgoddffacgcmaaFloatInt
import Derived.WalkKit
import Derived.WalkSpells
import Derived.WalkLawsBesides
import Derived.Lib.Hide
namespace Go.Proofs.Ytpgoddffacgcmaa
open Go.RowKit

set_option maxHeartbeats 400000 in
theorem reset_any (now : Int) (w : World) :
    Calls Try.prog 8 #[.int .i64 now] w fun e w' => e = .returned (.agg #[.int .i64 now, .int .i64 1]) ∧ Below w.heap.size w w' := by
  go_enter Try.func8, Try.ntmps8
  go_wp2
  exact bodyPost_ret (v := .agg #[.int .i64 now, .int .i64 1]) (by simp [results, Try.results8, go_sem]) rfl ⟨rfl, (Below.refl _ _).alloc (Nat.le_refl _) _⟩

set_option maxHeartbeats 400000 in
theorem xreset_any (now : Int) (w : World) :
    Calls Try.prog 9 #[.int .i64 now] w fun e w' => e = .returned (.agg #[.int .i64 now, .int .i64 1]) ∧ Below w.heap.size w w' := by
  go_enter Try.func9, Try.ntmps9
  go_wp2
  exact bodyPost_ret (v := .agg #[.int .i64 now, .int .i64 1]) (by simp [results, Try.results9, go_sem]) rfl ⟨rfl, (Below.refl _ _).alloc (Nat.le_refl _) _⟩

set_option maxHeartbeats 400000 in
theorem ready_any (d t now : Int) (w : World) :
    Calls Try.prog 10 #[.agg #[.int .i64 d, .int .i64 t], .int .i64 now] w fun e w' => e = .returned (.bool (decide (d ≤ now))) ∧ Below w.heap.size w w' := by
  go_enter Try.func10, Try.ntmps10
  go_wp2
  go_ret
  exact ⟨rfl, (Below.refl _ _).alloc (Nat.le_refl _) _⟩

set_option maxHeartbeats 400000 in
theorem xready_any (d t now : Int) (w : World) :
    Calls Try.prog 11 #[.agg #[.int .i64 d, .int .i64 t], .int .i64 now] w fun e w' => e = .returned (.bool (decide (d ≤ now))) ∧ Below w.heap.size w w' := by
  go_enter Try.func11, Try.ntmps11
  go_wp2
  go_ret
  exact ⟨rfl, (Below.refl _ _).alloc (Nat.le_refl _) _⟩

set_option maxHeartbeats 400000 in
theorem number_any (d t : Int) (w : World) :
    Calls Try.prog 14 #[.agg #[.int .i64 d, .int .i64 t]] w fun e w' => e = .returned (.complex .f64 (floatOfInt .f64 d) (floatOfInt .f64 t)) ∧ Below w.heap.size w w' := by
  go_enter Try.func14, Try.ntmps14
  go_wp2
  go_ret
  exact ⟨rfl, (Below.refl _ _).alloc (Nat.le_refl _) _⟩

theorem F2 : FI.F 2 = 4611686018427387904 := by decide
theorem F8 : FI.F 8 = 4620693217682128896 := by decide

theorem wait_le (t : Nat) (h : t ≤ 8) (k : t ≤ 4) : FloatKind.f64.format.order (FI.F (2 * t)) 4620693217682128896 = some .lt ∨ FloatKind.f64.format.order (FI.F (2 * t)) 4620693217682128896 = some .eq := by
  rw [← F8, FI.order_f64 _ _ (by omega) (by decide)]
  rcases Nat.lt_or_ge (2 * t) 8 with h1 | h1
  · exact .inl (by rw [FI.cmp_lt h1])
  · obtain rfl : t = 4 := by omega
    exact .inr (by decide)

theorem bcell {W w1 : World} (hb : Below W.heap.size W w1) : (∀ b o, b < W.heap.size → w1.cell? ⟨b, o, none⟩ = W.cell? ⟨b, o, none⟩) ∧ (∀ b o, b < W.heap.size → w1.frozen? ⟨b, o, none⟩ = W.frozen? ⟨b, o, none⟩) :=
  ⟨fun b o h => hb.cell (p := ⟨b, o, none⟩) h, fun b o h => hb.frozen (p := ⟨b, o, none⟩) h⟩

set_option maxHeartbeats 400000 in
theorem sent_low (d now : Int) (t : Nat) (h : t ≤ 4) (w : World) :
    Calls Try.prog 12 #[.agg #[.int .i64 d, .int .i64 t], .int .i64 now] w fun e w' => e = .returned (.agg #[.int .i64 (wrap64 (now + t)), .int .i64 ((2 * t : Nat) : Int)]) ∧ Below w.heap.size w w' := by
  have hm : ∀ w, (binOp .mul 38 (.float .f64 4611686018427387904) (.float .f64 (floatOfInt .f64 (t : Int)))).run Try.prog w = .ok (.float .f64 (FI.F (2 * t))) w := fun w => by
    refine run_float_arith w .mul _ .f64 _ _ _ ?_
    rw [FI.ofInt_F, ← F2]; exact FI.bits_mul 2 t (by omega) (by decide) (by omega)
  have hc : (FloatKind.f64.format.order (FI.F (2 * t)) 4620693217682128896 == some .lt || FloatKind.f64.format.order (FI.F (2 * t)) 4620693217682128896 == some .eq) = true := by
    rcases wait_le t (by omega) h with h1 | h1 <;> rw [h1] <;> rfl
  have hi : ∀ w, (convert 38 3 (.float .f64 (FI.F (2 * t)))).run Try.prog w = .ok (.int .i64 ((2 * t : Nat) : Int)) w := fun w =>
    run_convert_float_int w _ _ .f64 .i64 _ _ (by rw [Try.underlying38]; rfl) Try.underlying3 (FI.int_F _ (by omega))
  generalize hk : ((2 * t : Nat) : Int) = k at *
  have HK := Lib.hid hk
  clear hk
  generalize hf : FI.F (2 * t) = f at *
  have HF := Lib.hid hf
  clear hf
  go_enter Try.func12, Try.ntmps12
  go_wp2
  refine wp_scope_jumps 0 (fun a' w' => Below w.heap.size w w' ∧ w'.cell? ⟨w.heap.size, 1, none⟩ = some (.int .i64 t) ∧ w'.cell? ⟨w.heap.size + 1, 0, none⟩ = some (.int .i64 0) ∧ w'.cell? ⟨w.heap.size + 1, 1, none⟩ = some (.int .i64 0) ∧ w'.frozen? ⟨w.heap.size + 1, 0, none⟩ = false ∧ w'.frozen? ⟨w.heap.size + 1, 1, none⟩ = false ∧ w.heap.size + 1 < w'.heap.size ∧
    ∃ (u0 u5 u7 u8 u9 u10 u11 u12 u13 u14 u15 u16 u17 u18 u19 u20 : Value), a' = { tmps := #[u0, .int .i64 now, .pointer (some ⟨w.heap.size, 0, none⟩), undef, .pointer (some ⟨w.heap.size + 1, 0, none⟩), u5, .float .f64 f, u7, u8, u9, u10, u11, u12, u13, u14, u15, u16, u17, u18, u19, u20], defers := [] }) (fun _ _ => 0) rfl ?_ ?_
  · go_wp2_with (go_at_call 14; refine (number_any _ _ _).mono ?_; rintro e w1 ⟨rfl, hb⟩; obtain ⟨hc1, hf1⟩ := bcell hb; have hz := hb.size)
    go_step3
    show (_ ∧ _)
    have hbb : Below w.heap.size w w1 := (((Below.refl _ _).alloc (Nat.le_refl _) _).alloc (by simp) _).trans (hb.mono (by simp; omega))
    refine ⟨rfl, hbb, ?_, ?_, ?_, ?_, ?_, ?_, _, _, _, _, _, _, _, _, _, _, _, _, _, _, _, _, rfl⟩
    · go_simp
    · go_simp
    · go_simp
    · go_simp
    · go_simp
    · simp at hz; omega
  · rintro a' w' ⟨hb, h1, h2, h3, h4, h5, h6, u0, u5, u7, u8, u9, u10, u11, u12, u13, u14, u15, u16, u17, u18, u19, u20, rfl⟩
    go_wp2
    simp only [Exit.jump]
    exact bodyPost_ret (v := .agg #[.int .i64 (wrap64 (now + t)), .int .i64 k]) (by simp [results, Try.results12, go_sem, h2, h3]) rfl ⟨rfl, (hb.setCell (by simp) _).setCell (by simp) _⟩

theorem wait_gt : (FloatKind.f64.format.order (FI.F 16) 4620693217682128896 == some .lt || FloatKind.f64.format.order (FI.F 16) 4620693217682128896 == some .eq) = false := by
  rw [← F8, FI.order_f64 _ _ (by decide) (by decide)]; decide

set_option maxHeartbeats 400000 in
theorem sent_high (d now : Int) (w : World) :
    Calls Try.prog 12 #[.agg #[.int .i64 d, .int .i64 8], .int .i64 now] w fun e w' => e = .returned (.agg #[.int .i64 (wrap64 (now + 8)), .int .i64 8]) ∧ Below w.heap.size w w' := by
  have hm : ∀ w, (binOp .mul 38 (.float .f64 4611686018427387904) (.float .f64 (floatOfInt .f64 8))).run Try.prog w = .ok (.float .f64 (FI.F 16)) w := fun w => by
    refine run_float_arith w .mul _ .f64 _ _ _ ?_
    rw [show (8 : Int) = ((8 : Nat) : Int) from rfl, FI.ofInt_F, ← F2]; exact FI.bits_mul 2 8 (by decide) (by decide) (by decide)
  have hc := wait_gt
  have hi : ∀ w, (convert 38 3 (.float .f64 4620693217682128896)).run Try.prog w = .ok (.int .i64 8) w := fun w =>
    run_convert_float_int w _ _ .f64 .i64 _ _ (by rw [Try.underlying38]; rfl) Try.underlying3 (by rw [← F8]; exact FI.int_F 8 (by decide))
  generalize hf : FI.F 16 = f at *
  have HF := Lib.hid hf
  clear hf
  go_enter Try.func12, Try.ntmps12
  go_wp2
  go_step3
  go_wp2_with (go_at_call 14; refine (number_any _ _ _).mono ?_; rintro e w1 ⟨rfl, hb⟩; obtain ⟨hc1, hf1⟩ := bcell hb; have hz := hb.size)
  go_step3
  go_wp2
  have hbb : Below w.heap.size w w1 := (((Below.refl _ _).alloc (Nat.le_refl _) _).alloc (by simp) _).trans (hb.mono (by simp; omega))
  simp only [Exit.noGoto_ret]
  exact bodyPost_ret (v := .agg #[.int .i64 (wrap64 (now + 8)), .int .i64 8]) (by simp [results, Try.results12, go_sem, hc1]) rfl ⟨rfl, (hbb.setCell (by simp) _).setCell (by simp) _⟩

/-- The next wait. -/
def nextWait (t : Nat) : Nat := if t ≤ 4 then 2 * t else 8

theorem sent_any (d now : Int) (t : Nat) (h : t ≤ 4 ∨ t = 8) (w : World) :
    Calls Try.prog 12 #[.agg #[.int .i64 d, .int .i64 t], .int .i64 now] w fun e w' => e = .returned (.agg #[.int .i64 (wrap64 (now + t)), .int .i64 (nextWait t)]) ∧ Below w.heap.size w w' := by
  rcases h with h | rfl
  · rw [show nextWait t = 2 * t from if_pos h]; exact sent_low d now t h w
  · exact sent_high d now w

set_option maxHeartbeats 400000 in
theorem xsent_low (d now : Int) (t : Nat) (h : t ≤ 4) (w : World) :
    Calls Try.prog 13 #[.agg #[.int .i64 d, .int .i64 t], .int .i64 now] w fun e w' => e = .returned (.agg #[.int .i64 (wrap64 (now + t)), .int .i64 (2 * t)]) ∧ Below w.heap.size w w' := by
  have ht0 : 0 ≤ (t : Int) := by omega
  have ht8 : (t : Int) ≤ 4 := by omega
  have hlt : ¬ (8 < 2 * (t : Int)) := by omega
  go_enter Try.func13, Try.ntmps13
  go_wp2
  exact bodyPost_ret (v := .agg #[.int .i64 (wrap64 (now + t)), .int .i64 (2 * t)]) (by simp [results, Try.results13, go_sem]) rfl ⟨rfl, ((Below.refl _ _).alloc (Nat.le_refl _) _).alloc (by simp) _⟩

set_option maxHeartbeats 400000 in
theorem xsent_high (d now : Int) (w : World) :
    Calls Try.prog 13 #[.agg #[.int .i64 d, .int .i64 8], .int .i64 now] w fun e w' => e = .returned (.agg #[.int .i64 (wrap64 (now + 8)), .int .i64 8]) ∧ Below w.heap.size w w' := by
  go_enter Try.func13, Try.ntmps13
  go_wp2
  exact bodyPost_ret (v := .agg #[.int .i64 (wrap64 (now + 8)), .int .i64 8]) (by simp [results, Try.results13, go_sem]) rfl ⟨rfl, ((Below.refl _ _).alloc (Nat.le_refl _) _).alloc (by simp) _⟩

theorem xsent_any (d now : Int) (t : Nat) (h : t ≤ 4 ∨ t = 8) (w : World) :
    Calls Try.prog 13 #[.agg #[.int .i64 d, .int .i64 t], .int .i64 now] w fun e w' => e = .returned (.agg #[.int .i64 (wrap64 (now + t)), .int .i64 (nextWait t)]) ∧ Below w.heap.size w w' := by
  rcases h with h | rfl
  · rw [show nextWait t = 2 * t from if_pos h]
    exact xsent_low d now t h w
  · exact xsent_high d now w

theorem field_due (a b : Int) (w : World) : (Instr.field 26 (.agg #[.int .i64 a, .int .i64 b]) 0).run Try.prog w = .ok (.int .i64 a) w := by kernel_rfl
theorem field_wait (a b : Int) (w : World) : (Instr.field 26 (.agg #[.int .i64 a, .int .i64 b]) 1).run Try.prog w = .ok (.int .i64 b) w := by kernel_rfl

set_option maxHeartbeats 400000 in
theorem known_any (w : World) :
    Calls Try.prog 6 #[] w fun e w' => e = .returned (.bool true) ∧ Below w.heap.size w w' := by
  have f0 := field_due 5 1
  have f1 := field_wait 5 1
  go_enter Try.func6, Try.ntmps6
  go_wp2_with fail
  refine (reset_any _ _).mono ?_
  rintro e w1 ⟨rfl, hb1⟩
  go_wp2_with fail
  refine (reset_any _ _).mono ?_
  rintro e w2 ⟨rfl, hb2⟩
  go_wp2
  go_ret
  exact ⟨rfl, hb1.trans (hb2.mono hb1.size)⟩

theorem wrap64_id (x : Int) (h0 : -9223372036854775808 ≤ x) (h1 : x ≤ 9223372036854775807) : wrap64 x = x := by unfold wrap64; omega

theorem tmod_neg (a n : Int) (hn : 0 < n) (h : a.tmod n < 0) : a.tmod n + n = a % n := by
  have h1 := Int.tmod_eq_emod_of_nonneg (a := a) (b := n)
  by_cases ha : 0 ≤ a
  · have := Int.tmod_nonneg n ha; omega
  · have h2 := Int.emod_add_mul_ediv a n
    have h3 := Int.emod_nonneg a (by omega : n ≠ 0)
    have h4 := Int.emod_lt_of_pos a hn
    have h5 := Int.tmod_add_mul_tdiv a n
    have h6 : -n < a.tmod n := by have := Int.lt_tmod_of_pos a hn; omega
    have h7 : a % n = (a.tmod n) % n := by rw [← Int.add_mul_emod_self_left (a.tmod n) n (a.tdiv n), h5]
    rw [h7, ← Int.add_emod_right, Int.emod_eq_of_lt (by omega) (by omega)]

theorem tmod_pos (a n : Int) (hn : 0 < n) (h : 0 ≤ a.tmod n) : a.tmod n = a % n := by
  have h5 := Int.tmod_add_mul_tdiv a n
  have h8 := Int.tmod_lt_of_pos a hn
  have h7 : a % n = (a.tmod n) % n := by rw [← Int.add_mul_emod_self_left (a.tmod n) n (a.tdiv n), h5]
  rw [h7, Int.emod_eq_of_lt h h8]

set_option maxHeartbeats 400000 in
theorem within_any (a n : Int) (hn : 0 < n) (hn2 : n ≤ 9223372036854775807) (w : World) :
    Calls Try.prog 7 #[.int .i64 a, .int .i64 n] w fun e w' => e = .returned (.int .i64 (a % n)) ∧ w = w' := by
  have hn0 : n ≠ 0 := by omega
  by_cases h : a.tmod n < 0
  · have e := tmod_neg a n hn h
    have h0 := Int.emod_nonneg a hn0
    have h1 := Int.emod_lt_of_pos a hn
    have e2 : wrap64 (a.tmod n + n) = a % n := by rw [e]; exact wrap64_id _ (by omega) (by omega)
    have E := Lib.hid e2
    clear e e2 h0 h1
    go_enter Try.func7, Try.ntmps7
    go_wp2
    rw [E.out]
    go_ret
    exact ⟨rfl, rfl⟩
  · have h' : 0 ≤ a.tmod n := by omega
    have e := tmod_pos a n hn h'
    have E := Lib.hid e
    clear e
    go_enter Try.func7, Try.ntmps7
    go_wp2
    rw [E.out]
    go_ret
    exact ⟨rfl, rfl⟩

end Go.Proofs.Ytpgoddffacgcmaa
