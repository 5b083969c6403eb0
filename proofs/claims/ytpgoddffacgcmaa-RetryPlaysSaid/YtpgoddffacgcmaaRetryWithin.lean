/- RetryWithin, walked: asked at each moment and sent whenever it is ready, the waits are 1, 2, 4, 8, and 8 from then on. -/
import Derived.Test.YtpgoddffacgcmaaRetryCalls
set_option linter.unusedSimpArgs false
namespace Go.Proofs.Ytpgoddffacgcmaa.Den
open Go.RowKit

theorem szT : szOf Try.prog 26 = some 2 := by kernel_rfl
theorem szX : szOf Try.prog 28 = some 2 := by kernel_rfl
theorem szI : szOf Try.prog 3 = some 1 := by kernel_rfl
theorem agI : aggB Try.prog 3 = some false := by kernel_rfl
theorem agT : aggB Try.prog 26 = some true := by kernel_rfl
theorem agX : aggB Try.prog 28 = some true := by kernel_rfl
theorem zT : zeroCellsA Try.prog 26 = some [vi 0, vi 0] := by kernel_rfl
theorem zX : zeroCellsA Try.prog 28 = some [vi 0, vi 0] := by kernel_rfl

theorem wrap_in {x : Int} (h : -9223372036854775808 ≤ x) (k : x ≤ 9223372036854775807) : IntKind.i64.wrap x = x := by
  rw [IntKind.wrap_i64]; omega

/-- At a round's head. -/
def WInv (now : Int) (n : Nat) (q : Name) (m : Nat) (_ : Nat) (T : Temps) (H : AHeap) : Prop :=
  ∃ (k D t v : Nat) (L : Int), k ≤ n + 1 ∧ m = n + 1 - k ∧ T 0 = vi now ∧ T 1 = vi n ∧ T 5 = .ptr q 0 ∧ T 6 = vi L ∧ T 7 = vi v ∧ T 8 = vi k ∧ H q = some [vi (now + D), vi t] ∧
    ((k = 0 ∧ D = 0 ∧ t = 1 ∧ v = 0 ∧ L = -1) ∨
     (0 ≤ L ∧ (D : Int) = L + v ∧ L < k ∧ k ≤ D ∧ D ≤ n + 8 ∧ ((v = 1 ∧ t = 2) ∨ (v = 2 ∧ t = 4) ∨ (v = 4 ∧ t = 8) ∨ (v = 8 ∧ t = 8))))

set_option maxHeartbeats 4000000 in
theorem within_sim (a b : Int) (nm : Name) : Sim Try.prog 4 [vi a, vi b] nm (fun _ => none) (vb true) (fun _ => none) := by
  refine sim_go Try.func4 rfl rfl (Nat.le_of_ble_eq_true rfl) fun hH => ?_
  have hp := Int.emod_nonneg a (by decide : (549755813888 : Int) ≠ 0)
  have hq := Int.emod_lt_of_pos a (by decide : (0 : Int) < 549755813888)
  have hp2 := Int.emod_nonneg b (by decide : (100 : Int) ≠ 0)
  have hq2 := Int.emod_lt_of_pos b (by decide : (0 : Int) < 100)
  repeat refine AWP.seq ?_
  refine AWP.region_last callR_ok rfl fun K hK => ?_
  simp [runList, aop, awanted, ayielded, env, T0, tput, tset, List.range, List.range.loop, Ran, acall, callR, astore, aload, AV.cells, AV.one, setMany, upd, binV, afieldAddr, szT, agT, szI, agI, zT]
  apply hK; clear hK K; simp only [onNormal]
  repeat refine AWP.seq ?_
  refine AWP.region_last callR_ok rfl fun K hK => ?_
  simp [runList, aop, awanted, ayielded, env, T0, tput, tset, List.range, List.range.loop, Ran, acall, callR, astore, aload, AV.cells, AV.one, setMany, upd, binV, afieldAddr, szT, agT, szI, agI, zT]
  apply hK; clear hK K; simp only [onNormal]
  refine AWP.cond (b := false) rfl (AWP.skip ?_)
  simp only [onNormal]
  repeat refine AWP.seq ?_
  refine AWP.region_last callR_ok rfl fun K hK => ?_
  simp [runList, aop, awanted, ayielded, env, T0, tput, tset, List.range, List.range.loop, Ran, acall, callR, astore, aload, AV.cells, AV.one, setMany, upd, binV, afieldAddr, szT, agT, szI, agI, zT]
  generalize a % 549755813888 = now at *
  generalize hn : b % 100 = n0 at *
  obtain ⟨n, rfl⟩ := Int.eq_ofNat_of_zero_le hp2
  clear hn
  apply hK; clear hK K; simp only [onNormal]
  repeat refine AWP.seq ?_
  refine AWP.region_last callR_ok rfl fun K hK => ?_
  simp [runList, aop, awanted, ayielded, env, T0, tput, tset, List.range, List.range.loop, Ran, acall, callR, astore, aload, AV.cells, AV.one, setMany, upd, binV, afieldAddr, szT, agT, szI, agI, zT]
  apply hK; clear hK K; simp only [onNormal]
  repeat refine AWP.seq ?_
  refine AWP.region_last callR_ok rfl fun K hK => ?_
  simp [runList, aop, awanted, ayielded, env, T0, tput, tset, List.range, List.range.loop, Ran, acall, callR, astore, aload, AV.cells, AV.one, setMany, upd, binV, afieldAddr, szT, agT, szI, agI, zT]
  apply hK; clear hK K; simp only [onNormal]
  repeat refine AWP.seq ?_
  refine AWP.region_last callR_ok rfl fun K hK => ?_
  simp [runList, aop, awanted, ayielded, env, T0, tput, tset, List.range, List.range.loop, Ran, acall, callR, astore, aload, AV.cells, AV.one, setMany, upd, binV, afieldAddr, szT, agT, szI, agI, zT]
  apply hK; clear hK K; simp only [onNormal]
  refine AWP.block ?_
  refine AWP.loop (WInv now n (11 :: nm)) (n + 1) ?_ ?_
  · exact ⟨0, 0, 1, 0, -1, by omega, rfl, by simp [tset], by simp [tset], by simp [tset], by simp [tset], by simp [tset], by simp [tset], by simp [upd], .inl ⟨rfl, rfl, rfl, rfl, rfl⟩⟩
  have w0 : IntKind.i64.wrap 0 = 0 := rfl
  have w2 : IntKind.i64.wrap 2 = 2 := rfl
  have w4 : IntKind.i64.wrap 4 = 4 := rfl
  have w8 : IntKind.i64.wrap 8 = 8 := rfl
  have w16 : IntKind.i64.wrap 16 = 16 := rfl
  rintro m c T H ⟨k, D, t, v, L, hk, rfl, t0, t1, t5, t6, t7, t8, hq', hcase⟩
  by_cases hle : k ≤ n
  · have hle' : (k : Int) ≤ n := by omega
    have e1 : IntKind.i64.wrap (now + k) = now + k := wrap_in (by omega) (by omega)
    have e2 : IntKind.i64.wrap ((k : Int) + 1) = k + 1 := wrap_in (by omega) (by omega)
    rcases hcase with ⟨rfl, rfl, rfl, rfl, rfl⟩ | ⟨hL0, hD, hLk, hkD, hDn, hv⟩
    · have e3 : wrap64 (now + 1) = now + 1 := by simp only [wrap64]; omega
      have e4 : IntKind.i64.wrap now = now := wrap_in (by omega) (by omega)
      repeat refine AWP.seq ?_
      refine AWP.region_last callR_ok rfl fun K hK => ?_
      simp [runList, aop, awanted, ayielded, env, T0, tput, tset, List.range, List.range.loop, Ran, acall, callR, abuiltin, astore, aload, AV.cells, AV.one, setMany, upd, binV, afieldAddr, szT, agT, szI, agI, zT, t0, t1, t5, t6, t7, t8, hq', e1, e2, w0, w2, w4, w8, w16, hle', e3]
      apply hK; clear hK K; simp only [onNormal, onExit]
      refine AWP.cond (b := true) (by simp [env, tset]) (AWP.skip ?_)
      simp only [onNormal, onExit]
      refine AWP.seq (AWP.block ?_)
      repeat refine AWP.seq ?_
      refine AWP.region_last callR_ok rfl fun K hK => ?_
      simp [runList, aop, awanted, ayielded, env, T0, tput, tset, List.range, List.range.loop, Ran, acall, callR, abuiltin, astore, aload, AV.cells, AV.one, setMany, upd, binV, afieldAddr, szT, agT, szI, agI, zT, t0, t1, t5, t6, t7, t8, hq', e1, e2, w0, w2, w4, w8, w16, hle', e4, e3]
      apply hK; clear hK K; simp only [onNormal, onExit]
      refine AWP.cond (b := false) (by simp [env, tset]) (AWP.skip ?_)
      simp only [onNormal, onExit]
      repeat refine AWP.seq ?_
      refine AWP.region_last callR_ok rfl fun K hK => ?_
      simp [runList, aop, awanted, ayielded, env, T0, tput, tset, List.range, List.range.loop, Ran, acall, callR, abuiltin, astore, aload, AV.cells, AV.one, setMany, upd, binV, afieldAddr, szT, agT, szI, agI, zT, t0, t1, t5, t6, t7, t8, hq', e1, e2, w0, w2, w4, w8, w16, hle', e4, e3]
      apply hK; clear hK K; simp only [onNormal, onExit]
      refine AWP.cond (b := false) (by simp [env, tset]) (AWP.skip ?_)
      simp only [onNormal, onExit]
      repeat refine AWP.seq ?_
      refine AWP.region_last callR_ok rfl fun K hK => ?_
      simp [runList, aop, awanted, ayielded, env, T0, tput, tset, List.range, List.range.loop, Ran, acall, callR, abuiltin, astore, aload, AV.cells, AV.one, setMany, upd, binV, afieldAddr, szT, agT, szI, agI, zT, t0, t1, t5, t6, t7, t8, hq', e1, e2, w0, w2, w4, w8, w16, hle', e3, e4]
      apply hK; clear hK K; simp only [onNormal, onExit]
      repeat refine AWP.seq ?_
      refine AWP.region_last callR_ok rfl fun K hK => ?_
      simp [runList, aop, awanted, ayielded, env, T0, tput, tset, List.range, List.range.loop, Ran, acall, callR, abuiltin, astore, aload, AV.cells, AV.one, setMany, upd, binV, afieldAddr, szT, agT, szI, agI, zT, t0, t1, t5, t6, t7, t8, hq', e1, e2, w0, w2, w4, w8, w16, hle', e3, e4]
      apply hK; clear hK K; simp only [onNormal, onExit]
      repeat refine AWP.seq ?_
      refine AWP.region_last callR_ok rfl fun K hK => ?_
      simp [runList, aop, awanted, ayielded, env, T0, tput, tset, List.range, List.range.loop, Ran, acall, callR, abuiltin, astore, aload, AV.cells, AV.one, setMany, upd, binV, afieldAddr, szT, agT, szI, agI, zT, t0, t1, t5, t6, t7, t8, hq', e1, e2, w0, w2, w4, w8, w16, hle', e3, e4, nextWait]
      apply hK; clear hK K; simp only [onNormal, onExit]
      repeat refine AWP.seq ?_
      refine AWP.region_last callR_ok rfl fun K hK => ?_
      simp [runList, aop, awanted, ayielded, env, T0, tput, tset, List.range, List.range.loop, Ran, acall, callR, abuiltin, astore, aload, AV.cells, AV.one, setMany, upd, binV, afieldAddr, szT, agT, szI, agI, zT, t0, t1, t5, t6, t7, t8, hq', e1, e2, w0, w2, w4, w8, w16, hle', show IntKind.i64.wrap 1 = 1 from rfl]
      apply hK; clear hK K; simp only [onNormal, onExit]
      refine ⟨n, by omega, 1, 1, 2, 1, 0, by omega, by omega, ?_, ?_, ?_, ?_, ?_, ?_, ?_, .inr ⟨by omega, by omega, by omega, by omega, by omega, .inl ⟨rfl, rfl⟩⟩⟩ <;> simp [tset, upd, t0, t1, t5, t6, t7, t8]
    · by_cases hrd : k = D
      · have h1 : (k : Int) - L = v := by omega
        have h2 : ¬ L < 0 := by omega
        subst hrd
        have e3 : wrap64 (now + k + t) = now + k + t := by simp only [wrap64]; omega
        have e5 : IntKind.i64.wrap ((k : Int) - L) = v := by rw [h1]; exact wrap_in (by omega) (by omega)
        have fin : ∀ v' t' : Nat, t' = min (2 * t) 8 → v' = t → ((v' = 1 ∧ t' = 2) ∨ (v' = 2 ∧ t' = 4) ∨ (v' = 4 ∧ t' = 8) ∨ (v' = 8 ∧ t' = 8)) → ∀ c' T' H', T' 0 = vi now → T' 1 = vi n → T' 5 = .ptr (11 :: nm) 0 → T' 6 = vi k → T' 7 = vi v' → T' 8 = vi ((k : Int) + 1) → H' (11 :: nm) = some [vi (now + k + t), vi t'] →
            ∃ m', m' < n + 1 - k ∧ WInv now n (11 :: nm) m' c' T' H' := by
          intro v' t' ht' hv' hvt c' T' H' a0 a1 a5 a6 a7 a8 aH
          refine ⟨n + 1 - (k + 1), by omega, k + 1, k + t, t', v', k, by omega, by omega, a0, a1, a5, a6, a7, by rw [a8]; rfl, ?_, .inr ⟨by omega, by omega, by omega, by omega, by omega, hvt⟩⟩
          rw [aH, show now + ((k + t : Nat) : Int) = now + k + t by omega]
        have hv0 : (v : Int) ≠ 0 := by omega
        rcases hv with ⟨rfl, rfl⟩ | ⟨rfl, rfl⟩ | ⟨rfl, rfl⟩ | ⟨rfl, rfl⟩
        all_goals
          simp only [Int.ofNat_one, Int.cast_ofNat_Int] at *
          repeat refine AWP.seq ?_
          refine AWP.region_last callR_ok rfl fun K hK => ?_
          simp [runList, aop, awanted, ayielded, env, T0, tput, tset, List.range, List.range.loop, Ran, acall, callR, abuiltin, astore, aload, AV.cells, AV.one, setMany, upd, binV, afieldAddr, szT, agT, szI, agI, zT, t0, t1, t5, t6, t7, t8, hq', e1, e2, w0, w2, w4, w8, w16, hle', e3]
          apply hK; clear hK K; simp only [onNormal, onExit]
          refine AWP.cond (b := true) (by simp [env, tset]) (AWP.skip ?_)
          simp only [onNormal, onExit]
          refine AWP.seq (AWP.block ?_)
          repeat refine AWP.seq ?_
          refine AWP.region_last callR_ok rfl fun K hK => ?_
          simp [runList, aop, awanted, ayielded, env, T0, tput, tset, List.range, List.range.loop, Ran, acall, callR, abuiltin, astore, aload, AV.cells, AV.one, setMany, upd, binV, afieldAddr, szT, agT, szI, agI, zT, t0, t1, t5, t6, t7, t8, hq', e1, e2, w0, w2, w4, w8, w16, hle', e3]
          apply hK; clear hK K; simp only [onNormal, onExit]
          refine AWP.cond (b := false) (by simp [env, tset]) (AWP.skip ?_)
          simp only [onNormal, onExit]
          repeat refine AWP.seq ?_
          refine AWP.region_last callR_ok rfl fun K hK => ?_
          simp [runList, aop, awanted, ayielded, env, T0, tput, tset, List.range, List.range.loop, Ran, acall, callR, abuiltin, astore, aload, AV.cells, AV.one, setMany, upd, binV, afieldAddr, szT, agT, szI, agI, zT, t0, t1, t5, t6, t7, t8, hq', e1, e2, w0, w2, w4, w8, w16, hle', e3, e5, hL0, h2]
          apply hK; clear hK K; simp only [onNormal, onExit]
          refine AWP.cond (b := false) (by simp [env, tset]) (AWP.skip ?_)
          simp only [onNormal, onExit]
          repeat refine AWP.seq ?_
          refine AWP.region_last callR_ok rfl fun K hK => ?_
          simp [runList, aop, awanted, ayielded, env, T0, tput, tset, List.range, List.range.loop, Ran, acall, callR, abuiltin, astore, aload, AV.cells, AV.one, setMany, upd, binV, afieldAddr, szT, agT, szI, agI, zT, t0, t1, t5, t6, t7, t8, hq', e1, e2, w0, w2, w4, w8, w16, hle', e3]
          apply hK; clear hK K; simp only [onNormal, onExit]
          repeat refine AWP.seq ?_
          refine AWP.region_last callR_ok rfl fun K hK => ?_
          simp [runList, aop, awanted, ayielded, env, T0, tput, tset, List.range, List.range.loop, Ran, acall, callR, abuiltin, astore, aload, AV.cells, AV.one, setMany, upd, binV, afieldAddr, szT, agT, szI, agI, zT, t0, t1, t5, t6, t7, t8, hq', e1, e2, w0, w2, w4, w8, w16, hle', e3]
          apply hK; clear hK K; simp only [onNormal, onExit]
          repeat refine AWP.seq ?_
          refine AWP.region_last callR_ok rfl fun K hK => ?_
          simp [runList, aop, awanted, ayielded, env, T0, tput, tset, List.range, List.range.loop, Ran, acall, callR, abuiltin, astore, aload, AV.cells, AV.one, setMany, upd, binV, afieldAddr, szT, agT, szI, agI, zT, t0, t1, t5, t6, t7, t8, hq', e1, e2, w0, w2, w4, w8, w16, hle', e3, nextWait]
          apply hK; clear hK K; simp only [onNormal, onExit]
          repeat refine AWP.seq ?_
          refine AWP.region_last callR_ok rfl fun K hK => ?_
          simp [runList, aop, awanted, ayielded, env, T0, tput, tset, List.range, List.range.loop, Ran, acall, callR, abuiltin, astore, aload, AV.cells, AV.one, setMany, upd, binV, afieldAddr, szT, agT, szI, agI, zT, t0, t1, t5, t6, t7, t8, hq', e1, e2, w0, w2, w4, w8, w16, hle']
          apply hK; clear hK K; simp only [onNormal, onExit]
          first
          | exact fin 2 4 (by decide) (by decide) (by decide) _ _ _ (by simp [tset, t0]) (by simp [tset, t1]) (by simp [tset, t5]) (by simp [tset]) (by simp [tset]) (by simp [tset]) (by simp [upd])
          | exact fin 4 8 (by decide) (by decide) (by decide) _ _ _ (by simp [tset, t0]) (by simp [tset, t1]) (by simp [tset, t5]) (by simp [tset]) (by simp [tset]) (by simp [tset]) (by simp [upd])
          | exact fin 8 8 (by decide) (by decide) (by decide) _ _ _ (by simp [tset, t0]) (by simp [tset, t1]) (by simp [tset, t5]) (by simp [tset]) (by simp [tset]) (by simp [tset]) (by simp [upd])
      · have hnr : ¬ (now + D ≤ now + k) := by omega
        repeat refine AWP.seq ?_
        refine AWP.region_last callR_ok rfl fun K hK => ?_
        simp [runList, aop, awanted, ayielded, env, T0, tput, tset, List.range, List.range.loop, Ran, acall, callR, abuiltin, astore, aload, AV.cells, AV.one, setMany, upd, binV, afieldAddr, szT, agT, szI, agI, zT, t0, t1, t5, t6, t7, t8, hq', e1, e2, w0, w2, w4, w8, w16, hle', hnr]
        apply hK; clear hK K; simp only [onNormal, onExit]
        refine AWP.cond (b := true) (by simp [env, tset]) (AWP.skip ?_)
        simp only [onNormal, onExit]
        refine AWP.seq (AWP.block ?_)
        repeat refine AWP.seq ?_
        refine AWP.region_last callR_ok rfl fun K hK => ?_
        simp [runList, aop, awanted, ayielded, env, T0, tput, tset, List.range, List.range.loop, Ran, acall, callR, abuiltin, astore, aload, AV.cells, AV.one, setMany, upd, binV, afieldAddr, szT, agT, szI, agI, zT, t0, t1, t5, t6, t7, t8, hq', e1, e2, w0, w2, w4, w8, w16, hle', hnr]
        apply hK; clear hK K; simp only [onNormal, onExit]
        refine AWP.cond (b := true) (by simp [env, tset]) (AWP.exit ?_)
        simp only [onNormal, onExit]
        simp only [onExit, onNormal, ↓reduceIte]
        repeat refine AWP.seq ?_
        refine AWP.region_last callR_ok rfl fun K hK => ?_
        simp [runList, aop, awanted, ayielded, env, T0, tput, tset, List.range, List.range.loop, Ran, acall, callR, abuiltin, astore, aload, AV.cells, AV.one, setMany, upd, binV, afieldAddr, szT, agT, szI, agI, zT, t0, t1, t5, t6, t7, t8, hq', e1, e2, w0, w2, w4, w8, w16, hle']
        apply hK; clear hK K; simp only [onNormal, onExit]
        exact ⟨n + 1 - (k + 1), by omega, k + 1, D, t, v, L, by omega, by omega, by simp [tset, t0], by simp [tset, t1], by simp [tset, t5], by simp [tset, t6], by simp [tset, t7], by simp [tset], hq', .inr ⟨hL0, hD, by omega, by omega, hDn, hv⟩⟩
  · have hle' : ¬ (k : Int) ≤ n := by omega
    repeat refine AWP.seq ?_
    refine AWP.region_last callR_ok rfl fun K hK => ?_
    simp [runList, aop, awanted, ayielded, env, T0, tput, tset, List.range, List.range.loop, Ran, acall, callR, abuiltin, astore, aload, AV.cells, AV.one, setMany, upd, binV, afieldAddr, szT, agT, szI, agI, zT, t0, t1, t5, t6, t7, t8, hq', hle']
    apply hK; clear hK K; simp only [onNormal, onExit]
    refine AWP.cond (b := false) (by simp [env, tset]) (AWP.exit ?_)
    simp only [onNormal, onExit]
    simp
    have hL : 0 ≤ L := by omega
    have hn8 : (n : Int) - L < 8 := by omega
    have e3 : IntKind.i64.wrap ((n : Int) - L) = n - L := wrap_in (by omega) (by omega)
    repeat refine AWP.seq ?_
    refine AWP.region_last callR_ok rfl fun K hK => ?_
    simp [runList, aop, awanted, ayielded, env, T0, tput, tset, List.range, List.range.loop, Ran, acall, callR, abuiltin, astore, aload, AV.cells, AV.one, setMany, upd, binV, afieldAddr, szT, agT, szI, agI, zT, t1, t6, hL, e3, hn8]
    apply hK; clear hK K; simp only [onNormal, onExit]
    refine AWP.ret ⟨.inr rfl, [vb true], ?_, rfl⟩
    simp [ares, tset]
end Go.Proofs.Ytpgoddffacgcmaa.Den
