/- RetryDoubles, walked: sent again and again the waits are doubled, up to eight. -/
import Derived.Test.YtpgoddffacgcmaaRetryWalks
namespace Go.Proofs.Ytpgoddffacgcmaa
open Go.RowKit

def DRel (w : World) (B : Nat) (n : Nat) (wait i : Value) (wr : World) : Prop :=
  ∃ (k : Nat) (d : Int) (t : Nat), k ≤ n ∧ 0 ≤ d ∧ d ≤ 1099511627776 ∧ (t = 1 ∨ t = 2 ∨ t = 4 ∨ t = 8) ∧ i = .int .i64 k ∧ wait = .int .i64 t ∧ Below w.heap.size w wr ∧ B < wr.heap.size ∧
    wr.cell? ⟨B, 0, none⟩ = some (.int .i64 d) ∧ wr.cell? ⟨B, 1, none⟩ = some (.int .i64 t) ∧ wr.frozen? ⟨B, 0, none⟩ = false ∧ wr.frozen? ⟨B, 1, none⟩ = false

theorem sent_1 (d now : Int) (w : World) : Calls Try.prog 12 #[.agg #[.int .i64 d, .int .i64 1], .int .i64 now] w fun e w' => e = .returned (.agg #[.int .i64 (wrap64 (now + 1)), .int .i64 2]) ∧ Below w.heap.size w w' := sent_any d now 1 (by decide) w
theorem sent_2 (d now : Int) (w : World) : Calls Try.prog 12 #[.agg #[.int .i64 d, .int .i64 2], .int .i64 now] w fun e w' => e = .returned (.agg #[.int .i64 (wrap64 (now + 2)), .int .i64 4]) ∧ Below w.heap.size w w' := sent_any d now 2 (by decide) w
theorem sent_4 (d now : Int) (w : World) : Calls Try.prog 12 #[.agg #[.int .i64 d, .int .i64 4], .int .i64 now] w fun e w' => e = .returned (.agg #[.int .i64 (wrap64 (now + 4)), .int .i64 8]) ∧ Below w.heap.size w w' := sent_any d now 4 (by decide) w
theorem sent_8 (d now : Int) (w : World) : Calls Try.prog 12 #[.agg #[.int .i64 d, .int .i64 8], .int .i64 now] w fun e w' => e = .returned (.agg #[.int .i64 (wrap64 (now + 8)), .int .i64 8]) ∧ Below w.heap.size w w' := sent_any d now 8 (by decide) w

set_option maxHeartbeats 1000000 in
theorem doubles_any (a b : Int) (w : World) :
    Calls Try.prog 5 #[.int .i64 a, .int .i64 b] w fun e w' => e = .returned (.bool true) ∧ Below w.heap.size w w' := by
  have hp := Int.emod_nonneg a (by decide : (549755813888 : Int) ≠ 0)
  have hq := Int.emod_lt_of_pos a (by decide : (0 : Int) < 549755813888)
  have hp2 := Int.emod_nonneg b (by decide : (20 : Int) ≠ 0)
  have hq2 := Int.emod_lt_of_pos b (by decide : (0 : Int) < 20)
  go_enter Try.func5, Try.ntmps5
  go_wp2_with fail
  refine (known_any _).mono ?_
  rintro e w1 ⟨rfl, hb1⟩
  go_wp2_with fail
  refine (within_any _ _ (by decide) (by decide) _).mono ?_
  rintro e w' ⟨rfl, rfl⟩
  go_wp2_with fail
  refine (within_any _ _ (by decide) (by decide) _).mono ?_
  rintro e w' ⟨rfl, rfl⟩
  generalize a % 549755813888 = now at *
  generalize hn : b % 20 = n0 at *
  obtain ⟨n, rfl⟩ := Int.eq_ofNat_of_zero_le hp2
  clear hn
  go_wp2_with fail
  refine (reset_any _ _).mono ?_
  rintro e w2 ⟨rfl, hb2⟩
  go_wp2
  have hb12 : Below w.heap.size w w2 := hb1.trans (hb2.mono hb1.size)
  have hwB : w.heap.size ≤ w2.heap.size := hb12.size
  have hBB : Below w.heap.size w (w2.alloc (Obj.cells #[Value.int IntKind.i64 now, Value.int IntKind.i64 1] 26)) := hb12.alloc hwB _
  generalize hB : w2.heap.size = B at *
  have HB := Lib.hid hB
  clear hB
  go_loopw [6, 7] (DRel w B n) (fun _ i _ => n - (intOf i).toNat)
  case atStart =>
    refine ⟨0, now, 1, Nat.zero_le _, hp, by omega, .inl rfl, rfl, rfl, ?_, ?_, ?_, ?_, ?_, ?_⟩
    · exact hBB
    · rw [← HB.out]; simp
    · rw [← HB.out]; go_simp
    · rw [← HB.out]; go_simp
    · rw [← HB.out]; go_simp
    · rw [← HB.out]; go_simp
  case round =>
    obtain ⟨k, d, t, hk, hd0, hd1, ht, rfl, rfl, hb, hsz, c0, c1, f0, f1⟩ := hrel
    by_cases hlt : k < n
    · have hne : ∀ x : Int, (x != x) = false := fun x => by simp
      have e1 := wrap64_id (now + 1) (by omega) (by omega)
      have e2 := wrap64_id (now + 2) (by omega) (by omega)
      have e4 := wrap64_id (now + 4) (by omega) (by omega)
      have e8 := wrap64_id (now + 8) (by omega) (by omega)
      rcases ht with rfl | rfl | rfl | rfl
      · clear e2 e4 e8
        go_wp2_with fail
        refine (sent_1 _ _ _).mono ?_
        rintro e w3 ⟨rfl, hb3⟩
        simp only [e1]
        obtain ⟨hc3, hf3⟩ := bcell hb3
        have hs3 := hb3.size
        have hs4 : B < w3.heap.size := by omega
        have hbw : Below w.heap.size w w3 := hb.trans (hb3.mono hb.size)
        go_wp2
        refine ⟨⟨k + 1, now + 1, 2, by omega, by omega, by omega, by decide, rfl, rfl, ?_, ?_, ?_, ?_, ?_, ?_⟩, ?_⟩
        · exact (hbw.setCell hwB _).setCell hwB _
        · simp; omega
        · go_simp
        · go_simp
        · go_simp
        · go_simp
        · simp [intOf]; omega
      · clear e1 e4 e8
        go_wp2_with fail
        refine (sent_2 _ _ _).mono ?_
        rintro e w3 ⟨rfl, hb3⟩
        simp only [e2]
        obtain ⟨hc3, hf3⟩ := bcell hb3
        have hs3 := hb3.size
        have hs4 : B < w3.heap.size := by omega
        have hbw : Below w.heap.size w w3 := hb.trans (hb3.mono hb.size)
        go_wp2
        refine ⟨⟨k + 1, now + 2, 4, by omega, by omega, by omega, by decide, rfl, rfl, ?_, ?_, ?_, ?_, ?_, ?_⟩, ?_⟩
        · exact (hbw.setCell hwB _).setCell hwB _
        · simp; omega
        · go_simp
        · go_simp
        · go_simp
        · go_simp
        · simp [intOf]; omega
      · clear e1 e2 e8
        go_wp2_with fail
        refine (sent_4 _ _ _).mono ?_
        rintro e w3 ⟨rfl, hb3⟩
        simp only [e4]
        obtain ⟨hc3, hf3⟩ := bcell hb3
        have hs3 := hb3.size
        have hs4 : B < w3.heap.size := by omega
        have hbw : Below w.heap.size w w3 := hb.trans (hb3.mono hb.size)
        go_wp2
        refine ⟨⟨k + 1, now + 4, 8, by omega, by omega, by omega, by decide, rfl, rfl, ?_, ?_, ?_, ?_, ?_, ?_⟩, ?_⟩
        · exact (hbw.setCell hwB _).setCell hwB _
        · simp; omega
        · go_simp
        · go_simp
        · go_simp
        · go_simp
        · simp [intOf]; omega
      · clear e1 e2 e4
        go_wp2_with fail
        refine (sent_8 _ _ _).mono ?_
        rintro e w3 ⟨rfl, hb3⟩
        simp only [e8]
        obtain ⟨hc3, hf3⟩ := bcell hb3
        have hs3 := hb3.size
        have hs4 : B < w3.heap.size := by omega
        have hbw : Below w.heap.size w w3 := hb.trans (hb3.mono hb.size)
        go_wp2
        refine ⟨⟨k + 1, now + 8, 8, by omega, by omega, by omega, by decide, rfl, rfl, ?_, ?_, ?_, ?_, ?_, ?_⟩, ?_⟩
        · exact (hbw.setCell hwB _).setCell hwB _
        · simp; omega
        · go_simp
        · go_simp
        · go_simp
        · go_simp
        · simp [intOf]; omega
    · go_wp2_with fail
      refine (ready_any _ _ _ _).mono ?_
      rintro e w4 ⟨rfl, hb4⟩
      obtain ⟨hc4, hf4⟩ := bcell hb4
      have hs4 := hb4.size
      have hs5 : B < w4.heap.size := by omega
      have hdd : ¬ (d ≤ d - 1) := by omega
      have hde : (decide (d ≤ d - 1)) = false := by simpa using hdd
      have hbw : Below w.heap.size w w4 := hb.trans (hb4.mono hb.size)
      go_wp2_with fail
      refine (ready_any _ _ _ _).mono ?_
      rintro e w5 ⟨rfl, hb5⟩
      have hs6 := hb5.size
      have hbw5 : Below w.heap.size w w5 := hbw.trans (hb5.mono hbw.size)
      go_wp2_with fail
      refine (reset_any _ _).mono ?_
      rintro e w6 ⟨rfl, hb6⟩
      have hbw6 : Below w.heap.size w w6 := hbw5.trans (hb6.mono hbw5.size)
      go_wp2
      go_ret
      exact ⟨rfl, hbw6⟩

end Go.Proofs.Ytpgoddffacgcmaa
