/- RetryPlays, walked: whatever is asked, and sent, at whatever times: the timer and the document's agree. -/
import Derived.Test.YtpgoddffacgcmaaRetryWithin
set_option linter.unusedSimpArgs false
namespace Go.Proofs.Ytpgoddffacgcmaa.Den
open Go.RowKit

/-- At a round's head. -/
def PInv (l : List Int) (q5 q6 : Name) (m : Nat) (_ : Nat) (T : Temps) (H : AHeap) : Prop :=
  ∃ (k t : Nat) (x D : Int), k ≤ 60 ∧ m = 60 - k ∧ T 0 = vi x ∧ T 1 = .im false l.length (l.map vi) ∧ T 5 = .ptr q5 0 ∧ T 6 = .ptr q6 0 ∧ T 7 = vi k ∧ H q5 = some [vi D, vi t] ∧ H q6 = some [vi D, vi t] ∧ (t = 1 ∨ t = 2 ∨ t = 4 ∨ t = 8)

theorem nextWait_ok {t : Nat} (h : t = 1 ∨ t = 2 ∨ t = 4 ∨ t = 8) : nextWait t = 1 ∨ nextWait t = 2 ∨ nextWait t = 4 ∨ nextWait t = 8 := by
  rcases h with rfl | rfl | rfl | rfl <;> decide

set_option maxHeartbeats 4000000 in
theorem plays_sim (a : Int) (l : List Int) (hl64 : (l.length : Int) ≤ 9223372036854775807) (nm : Name) : Sim Try.prog 3 [vi a, .im false l.length (l.map vi)] nm (fun _ => none) (vb true) (fun _ => none) := by
  refine sim_go Try.func3 rfl rfl (Nat.le_of_ble_eq_true rfl) fun hH => ?_
  repeat refine AWP.seq ?_
  refine AWP.region_last callR_ok rfl fun K hK => ?_
  simp [runList, planW, chkW, List.lookup, aop, awanted, ayielded, env, T0, tput, tset, List.range, List.range.loop, Ran, acall, callR, abuiltin, astore, aload, AV.cells, AV.one, Value.oneCell', setMany, upd, binV, aeq, natOf, alen, aindexAddr, afieldAddr, szT, agT, szI, agI, zT, szX, agX, zX, Try.underlying22, Try.underlying26, Try.underlying28, Try.underlying3, Try.underlying4]
  apply hK; clear hK K; simp only [onNormal, onExit]
  repeat refine AWP.seq ?_
  refine AWP.region_last callR_ok rfl fun K hK => ?_
  simp [runList, planW, chkW, List.lookup, aop, awanted, ayielded, env, T0, tput, tset, List.range, List.range.loop, Ran, acall, callR, abuiltin, astore, aload, AV.cells, AV.one, Value.oneCell', setMany, upd, binV, aeq, natOf, alen, aindexAddr, afieldAddr, szT, agT, szI, agI, zT, szX, agX, zX, Try.underlying22, Try.underlying26, Try.underlying28, Try.underlying3, Try.underlying4]
  apply hK; clear hK K; simp only [onNormal, onExit]
  refine AWP.cond (b := false) (by simp [env, tset]) (AWP.skip ?_)
  simp only [onNormal, onExit]
  repeat refine AWP.seq ?_
  refine AWP.region_last callR_ok rfl fun K hK => ?_
  simp [runList, planW, chkW, List.lookup, aop, awanted, ayielded, env, T0, tput, tset, List.range, List.range.loop, Ran, acall, callR, abuiltin, astore, aload, AV.cells, AV.one, Value.oneCell', setMany, upd, binV, aeq, natOf, alen, aindexAddr, afieldAddr, szT, agT, szI, agI, zT, szX, agX, zX, Try.underlying22, Try.underlying26, Try.underlying28, Try.underlying3, Try.underlying4]
  apply hK; clear hK K; simp only [onNormal, onExit]
  repeat refine AWP.seq ?_
  refine AWP.region_last callR_ok rfl fun K hK => ?_
  simp [runList, planW, chkW, List.lookup, aop, awanted, ayielded, env, T0, tput, tset, List.range, List.range.loop, Ran, acall, callR, abuiltin, astore, aload, AV.cells, AV.one, Value.oneCell', setMany, upd, binV, aeq, natOf, alen, aindexAddr, afieldAddr, szT, agT, szI, agI, zT, szX, agX, zX, Try.underlying22, Try.underlying26, Try.underlying28, Try.underlying3, Try.underlying4]
  apply hK; clear hK K; simp only [onNormal, onExit]
  repeat refine AWP.seq ?_
  refine AWP.region_last callR_ok rfl fun K hK => ?_
  simp [runList, planW, chkW, List.lookup, aop, awanted, ayielded, env, T0, tput, tset, List.range, List.range.loop, Ran, acall, callR, abuiltin, astore, aload, AV.cells, AV.one, Value.oneCell', setMany, upd, binV, aeq, natOf, alen, aindexAddr, afieldAddr, szT, agT, szI, agI, zT, szX, agX, zX, Try.underlying22, Try.underlying26, Try.underlying28, Try.underlying3, Try.underlying4]
  apply hK; clear hK K; simp only [onNormal, onExit]
  repeat refine AWP.seq ?_
  refine AWP.block ?_
  refine AWP.loop (PInv l (10 :: nm) (11 :: nm)) 60 ?_ ?_
  · exact ⟨0, 1, a % 549755813888, a % 549755813888, by omega, rfl, by simp [tset], by simp [tset, T0], by simp [tset], by simp [tset], by simp [tset], by simp [upd], by simp [upd], by omega⟩
  rintro m c T H ⟨k, t, x, D, hk, rfl, t0, t1, t5, t6, t7, h5, h6, ht⟩
  by_cases hk1 : k < l.length
  · have hk1' : (k : Int) < l.length := by omega
    by_cases hk2 : k < 60
    · have hk2' : (k : Int) < 60 := by omega
      have e1 : IntKind.i64.wrap ((k : Int) + 1) = k + 1 := wrap_in (by omega) (by omega)
      have hlen : (List.map vi l).length = l.length := by simp
      have hget : (List.map vi l)[k]? = some (vi l[k]) := by simp [hk1]
      have ht' : (t : Int) ≤ 4 ∨ (t : Int) = 8 := by omega
      have fin : ∀ (c' : Nat) (T' : Temps) (H' : AHeap) (x' D' : Int) (t' : Nat), T' 0 = vi x' → T' 1 = .im false l.length (l.map vi) → T' 5 = .ptr (10 :: nm) 0 → T' 6 = .ptr (11 :: nm) 0 → T' 7 = vi ((k : Int) + 1) →
          H' (10 :: nm) = some [vi D', vi t'] → H' (11 :: nm) = some [vi D', vi t'] → (t' = 1 ∨ t' = 2 ∨ t' = 4 ∨ t' = 8) → ∃ m', m' < 60 - k ∧ PInv l (10 :: nm) (11 :: nm) m' c' T' H' :=
        fun c' T' H' x' D' t' a0 a1 a5 a6 a7 b5 b6 ht' => ⟨60 - (k + 1), by omega, k + 1, t', x', D', by omega, rfl, a0, a1, a5, a6, by rw [a7]; rfl, b5, b6, ht'⟩
      repeat refine AWP.seq ?_
      refine AWP.region_last callR_ok rfl fun K hK => ?_
      simp [runList, planW, chkW, List.lookup, aop, awanted, ayielded, env, T0, tput, tset, List.range, List.range.loop, Ran, acall, callR, abuiltin, astore, aload, AV.cells, AV.one, Value.oneCell', setMany, upd, binV, aeq, natOf, alen, aindexAddr, afieldAddr, szT, agT, szI, agI, zT, szX, agX, zX, Try.underlying22, Try.underlying26, Try.underlying28, Try.underlying3, Try.underlying4, t0, t1, t5, t6, t7, h5, h6, hk1, hk2, hk1', hk2', hget, e1]
      apply hK; clear hK K; simp only [onNormal, onExit]
      refine AWP.cond (b := true) (by simp [env, tset]) (AWP.skip ?_)
      simp only [onNormal, onExit]
      repeat refine AWP.seq ?_
      refine AWP.block ?_
      repeat refine AWP.seq ?_
      refine AWP.region_last callR_ok rfl fun K hK => ?_
      simp [runList, planW, chkW, List.lookup, aop, awanted, ayielded, env, T0, tput, tset, List.range, List.range.loop, Ran, acall, callR, abuiltin, astore, aload, AV.cells, AV.one, Value.oneCell', setMany, upd, binV, aeq, natOf, alen, aindexAddr, afieldAddr, szT, agT, szI, agI, zT, szX, agX, zX, Try.underlying22, Try.underlying26, Try.underlying28, Try.underlying3, Try.underlying4, t0, t1, t5, t6, t7, h5, h6, hk1, hk2, hk1', hk2', hget, e1]
      apply hK; clear hK K; simp only [onNormal, onExit]
      repeat refine AWP.seq ?_
      refine AWP.draw_last rfl callR_ok [0, 0, 3, 0, 0, 31, 63] [⟨0, false, [0]⟩, ⟨1, false, []⟩, ⟨2, true, []⟩, ⟨3, false, [0, 3]⟩, ⟨4, false, []⟩, ⟨5, true, []⟩, ⟨6, false, []⟩] rfl (by kernel_rfl) fun K hK => ?_
      simp [runList, planW, chkW, List.lookup, aop, awanted, ayielded, env, T0, tput, tset, List.range, List.range.loop, Ran, acall, callR, abuiltin, astore, aload, AV.cells, AV.one, Value.oneCell', setMany, upd, binV, aeq, natOf, alen, aindexAddr, afieldAddr, szT, agT, szI, agI, zT, szX, agX, zX, Try.underlying22, Try.underlying26, Try.underlying28, Try.underlying3, Try.underlying4, t0, t1, t5, t6, t7, h5, h6, hk1, hk2, hk1', hk2', hget, e1]
      apply hK; clear hK K; simp only [onNormal, onExit]
      refine AWP.cond (b := false) (by simp [env, tset]) (AWP.skip ?_)
      simp only [onNormal, onExit]
      repeat refine AWP.seq ?_
      refine AWP.region_last callR_ok rfl fun K hK => ?_
      simp [runList, planW, chkW, List.lookup, aop, awanted, ayielded, env, T0, tput, tset, List.range, List.range.loop, Ran, acall, callR, abuiltin, astore, aload, AV.cells, AV.one, Value.oneCell', setMany, upd, binV, aeq, natOf, alen, aindexAddr, afieldAddr, szT, agT, szI, agI, zT, szX, agX, zX, Try.underlying22, Try.underlying26, Try.underlying28, Try.underlying3, Try.underlying4, t0, t1, t5, t6, t7, h5, h6, hk1, hk2, hk1', hk2', hget, e1]
      apply hK; clear hK K; simp only [onNormal, onExit]
      generalize l[k] % 4 = r
      repeat refine AWP.seq ?_
      refine AWP.block ?_
      by_cases r0 : r = 0
      · subst r0
        repeat refine AWP.seq ?_
        refine AWP.region_last callR_ok rfl fun K hK => ?_
        simp [runList, planW, chkW, List.lookup, aop, awanted, ayielded, env, T0, tput, tset, List.range, List.range.loop, Ran, acall, callR, abuiltin, astore, aload, AV.cells, AV.one, Value.oneCell', setMany, upd, binV, aeq, natOf, alen, aindexAddr, afieldAddr, szT, agT, szI, agI, zT, szX, agX, zX, Try.underlying22, Try.underlying26, Try.underlying28, Try.underlying3, Try.underlying4, t0, t1, t5, t6, t7, h5, h6, hk1, hk2, hk1', hk2', hget, e1, ht']
        apply hK; clear hK K; simp only [onNormal, onExit]
        refine AWP.cond (b := true) (by simp [env, tset]) (AWP.skip ?_)
        simp only [onNormal, onExit]
        repeat refine AWP.seq ?_
        refine AWP.cond (b := true) (by simp [env, tset]) ?_
        repeat refine AWP.seq ?_
        refine AWP.draw_last rfl callR_ok [0, 0, 3, 0, 0, 31, 63, 127] [⟨0, false, [0]⟩, ⟨1, false, []⟩, ⟨2, true, []⟩, ⟨3, false, [0, 3]⟩, ⟨4, false, []⟩, ⟨5, true, []⟩, ⟨6, true, []⟩, ⟨7, true, []⟩] rfl (by kernel_rfl) fun K hK => ?_
        simp [runList, planW, chkW, List.lookup, aop, awanted, ayielded, env, T0, tput, tset, List.range, List.range.loop, Ran, acall, callR, abuiltin, astore, aload, AV.cells, AV.one, Value.oneCell', setMany, upd, binV, aeq, natOf, alen, aindexAddr, afieldAddr, szT, agT, szI, agI, zT, szX, agX, zX, Try.underlying22, Try.underlying26, Try.underlying28, Try.underlying3, Try.underlying4, t0, t1, t5, t6, t7, h5, h6, hk1, hk2, hk1', hk2', hget, e1, ht']
        apply hK; clear hK K; simp only [onNormal, onExit]
        repeat refine AWP.seq ?_
        refine AWP.region_last callR_ok rfl fun K hK => ?_
        simp [runList, planW, chkW, List.lookup, aop, awanted, ayielded, env, T0, tput, tset, List.range, List.range.loop, Ran, acall, callR, abuiltin, astore, aload, AV.cells, AV.one, Value.oneCell', setMany, upd, binV, aeq, natOf, alen, aindexAddr, afieldAddr, szT, agT, szI, agI, zT, szX, agX, zX, Try.underlying22, Try.underlying26, Try.underlying28, Try.underlying3, Try.underlying4, t0, t1, t5, t6, t7, h5, h6, hk1, hk2, hk1', hk2', hget, e1]
        apply hK; clear hK K; simp only [onNormal, onExit]
        refine AWP.cond (b := false) (by simp [env, tset]) (AWP.skip ?_)
        simp only [onNormal, onExit]
        repeat refine AWP.seq ?_
        refine AWP.region_last callR_ok rfl fun K hK => ?_
        simp [runList, planW, chkW, List.lookup, aop, awanted, ayielded, env, T0, tput, tset, List.range, List.range.loop, Ran, acall, callR, abuiltin, astore, aload, AV.cells, AV.one, Value.oneCell', setMany, upd, binV, aeq, natOf, alen, aindexAddr, afieldAddr, szT, agT, szI, agI, zT, szX, agX, zX, Try.underlying22, Try.underlying26, Try.underlying28, Try.underlying3, Try.underlying4, t0, t1, t5, t6, t7, h5, h6, hk1, hk2, hk1', hk2', hget, e1]
        apply hK; clear hK K; simp only [onNormal, onExit]
        exact fin _ _ _ (IntKind.i64.wrap (x + IntKind.i64.wrap (l[k].tdiv 4) % 12)) (wrap64 ((IntKind.i64.wrap (x + IntKind.i64.wrap (l[k].tdiv 4) % 12)) + t)) (nextWait t) (by simp [tset, t0]; done) (by simp [tset, t1]) (by simp [tset, t5]) (by simp [tset, t6]) (by simp [tset, t7]) (by simp [upd, h5]; done) (by simp [upd, h6]; done) (nextWait_ok ht)
      by_cases r1 : r = 1
      · subst r1
        repeat refine AWP.seq ?_
        refine AWP.region_last callR_ok rfl fun K hK => ?_
        simp [runList, planW, chkW, List.lookup, aop, awanted, ayielded, env, T0, tput, tset, List.range, List.range.loop, Ran, acall, callR, abuiltin, astore, aload, AV.cells, AV.one, Value.oneCell', setMany, upd, binV, aeq, natOf, alen, aindexAddr, afieldAddr, szT, agT, szI, agI, zT, szX, agX, zX, Try.underlying22, Try.underlying26, Try.underlying28, Try.underlying3, Try.underlying4, t0, t1, t5, t6, t7, h5, h6, hk1, hk2, hk1', hk2', hget, e1, ht']
        apply hK; clear hK K; simp only [onNormal, onExit]
        refine AWP.cond (b := false) (by simp [env, tset]) ?_
        repeat refine AWP.seq ?_
        refine AWP.region_last callR_ok rfl fun K hK => ?_
        simp [runList, planW, chkW, List.lookup, aop, awanted, ayielded, env, T0, tput, tset, List.range, List.range.loop, Ran, acall, callR, abuiltin, astore, aload, AV.cells, AV.one, Value.oneCell', setMany, upd, binV, aeq, natOf, alen, aindexAddr, afieldAddr, szT, agT, szI, agI, zT, szX, agX, zX, Try.underlying22, Try.underlying26, Try.underlying28, Try.underlying3, Try.underlying4, t0, t1, t5, t6, t7, h5, h6, hk1, hk2, hk1', hk2', hget, e1, ht']
        apply hK; clear hK K; simp only [onNormal, onExit]
        refine AWP.cond (b := true) (by simp [env, tset]) ?_
        repeat refine AWP.seq ?_
        refine AWP.draw_last rfl callR_ok [0, 0, 3, 0, 0, 31, 63, 127] [⟨0, false, [0]⟩, ⟨1, false, []⟩, ⟨2, true, []⟩, ⟨3, false, [0, 3]⟩, ⟨4, false, []⟩, ⟨5, true, []⟩, ⟨6, true, []⟩, ⟨7, true, []⟩] rfl (by kernel_rfl) fun K hK => ?_
        simp [runList, planW, chkW, List.lookup, aop, awanted, ayielded, env, T0, tput, tset, List.range, List.range.loop, Ran, acall, callR, abuiltin, astore, aload, AV.cells, AV.one, Value.oneCell', setMany, upd, binV, aeq, natOf, alen, aindexAddr, afieldAddr, szT, agT, szI, agI, zT, szX, agX, zX, Try.underlying22, Try.underlying26, Try.underlying28, Try.underlying3, Try.underlying4, t0, t1, t5, t6, t7, h5, h6, hk1, hk2, hk1', hk2', hget, e1, ht']
        apply hK; clear hK K; simp only [onNormal, onExit]
        repeat refine AWP.seq ?_
        refine AWP.region_last callR_ok rfl fun K hK => ?_
        simp [runList, planW, chkW, List.lookup, aop, awanted, ayielded, env, T0, tput, tset, List.range, List.range.loop, Ran, acall, callR, abuiltin, astore, aload, AV.cells, AV.one, Value.oneCell', setMany, upd, binV, aeq, natOf, alen, aindexAddr, afieldAddr, szT, agT, szI, agI, zT, szX, agX, zX, Try.underlying22, Try.underlying26, Try.underlying28, Try.underlying3, Try.underlying4, t0, t1, t5, t6, t7, h5, h6, hk1, hk2, hk1', hk2', hget, e1]
        apply hK; clear hK K; simp only [onNormal, onExit]
        refine AWP.cond (b := false) (by simp [env, tset]) (AWP.skip ?_)
        simp only [onNormal, onExit]
        repeat refine AWP.seq ?_
        refine AWP.region_last callR_ok rfl fun K hK => ?_
        simp [runList, planW, chkW, List.lookup, aop, awanted, ayielded, env, T0, tput, tset, List.range, List.range.loop, Ran, acall, callR, abuiltin, astore, aload, AV.cells, AV.one, Value.oneCell', setMany, upd, binV, aeq, natOf, alen, aindexAddr, afieldAddr, szT, agT, szI, agI, zT, szX, agX, zX, Try.underlying22, Try.underlying26, Try.underlying28, Try.underlying3, Try.underlying4, t0, t1, t5, t6, t7, h5, h6, hk1, hk2, hk1', hk2', hget, e1]
        apply hK; clear hK K; simp only [onNormal, onExit]
        exact fin _ _ _ (IntKind.i64.wrap (x + IntKind.i64.wrap (l[k].tdiv 4) % 12)) (wrap64 ((IntKind.i64.wrap (x + IntKind.i64.wrap (l[k].tdiv 4) % 12)) + t)) (nextWait t) (by simp [tset, t0]; done) (by simp [tset, t1]) (by simp [tset, t5]) (by simp [tset, t6]) (by simp [tset, t7]) (by simp [upd, h5]; done) (by simp [upd, h6]; done) (nextWait_ok ht)
      by_cases r2 : r = 2
      · subst r2
        repeat refine AWP.seq ?_
        refine AWP.region_last callR_ok rfl fun K hK => ?_
        simp [runList, planW, chkW, List.lookup, aop, awanted, ayielded, env, T0, tput, tset, List.range, List.range.loop, Ran, acall, callR, abuiltin, astore, aload, AV.cells, AV.one, Value.oneCell', setMany, upd, binV, aeq, natOf, alen, aindexAddr, afieldAddr, szT, agT, szI, agI, zT, szX, agX, zX, Try.underlying22, Try.underlying26, Try.underlying28, Try.underlying3, Try.underlying4, t0, t1, t5, t6, t7, h5, h6, hk1, hk2, hk1', hk2', hget, e1]
        apply hK; clear hK K; simp only [onNormal, onExit]
        refine AWP.cond (b := false) (by simp [env, tset]) ?_
        repeat refine AWP.seq ?_
        refine AWP.region_last callR_ok rfl fun K hK => ?_
        simp [runList, planW, chkW, List.lookup, aop, awanted, ayielded, env, T0, tput, tset, List.range, List.range.loop, Ran, acall, callR, abuiltin, astore, aload, AV.cells, AV.one, Value.oneCell', setMany, upd, binV, aeq, natOf, alen, aindexAddr, afieldAddr, szT, agT, szI, agI, zT, szX, agX, zX, Try.underlying22, Try.underlying26, Try.underlying28, Try.underlying3, Try.underlying4, t0, t1, t5, t6, t7, h5, h6, hk1, hk2, hk1', hk2', hget, e1]
        apply hK; clear hK K; simp only [onNormal, onExit]
        refine AWP.cond (b := false) (by simp [env, tset]) ?_
        repeat refine AWP.seq ?_
        refine AWP.region_last callR_ok rfl fun K hK => ?_
        simp [runList, planW, chkW, List.lookup, aop, awanted, ayielded, env, T0, tput, tset, List.range, List.range.loop, Ran, acall, callR, abuiltin, astore, aload, AV.cells, AV.one, Value.oneCell', setMany, upd, binV, aeq, natOf, alen, aindexAddr, afieldAddr, szT, agT, szI, agI, zT, szX, agX, zX, Try.underlying22, Try.underlying26, Try.underlying28, Try.underlying3, Try.underlying4, t0, t1, t5, t6, t7, h5, h6, hk1, hk2, hk1', hk2', hget, e1]
        apply hK; clear hK K; simp only [onNormal, onExit]
        refine AWP.cond (b := true) (by simp [env, tset]) ?_
        repeat refine AWP.seq ?_
        refine AWP.region_last callR_ok rfl fun K hK => ?_
        simp [runList, planW, chkW, List.lookup, aop, awanted, ayielded, env, T0, tput, tset, List.range, List.range.loop, Ran, acall, callR, abuiltin, astore, aload, AV.cells, AV.one, Value.oneCell', setMany, upd, binV, aeq, natOf, alen, aindexAddr, afieldAddr, szT, agT, szI, agI, zT, szX, agX, zX, Try.underlying22, Try.underlying26, Try.underlying28, Try.underlying3, Try.underlying4, t0, t1, t5, t6, t7, h5, h6, hk1, hk2, hk1', hk2', hget, e1]
        apply hK; clear hK K; simp only [onNormal, onExit]
        repeat refine AWP.seq ?_
        refine AWP.region_last callR_ok rfl fun K hK => ?_
        simp [runList, planW, chkW, List.lookup, aop, awanted, ayielded, env, T0, tput, tset, List.range, List.range.loop, Ran, acall, callR, abuiltin, astore, aload, AV.cells, AV.one, Value.oneCell', setMany, upd, binV, aeq, natOf, alen, aindexAddr, afieldAddr, szT, agT, szI, agI, zT, szX, agX, zX, Try.underlying22, Try.underlying26, Try.underlying28, Try.underlying3, Try.underlying4, t0, t1, t5, t6, t7, h5, h6, hk1, hk2, hk1', hk2', hget, e1]
        apply hK; clear hK K; simp only [onNormal, onExit]
        refine AWP.cond (b := false) (by simp [env, tset]) (AWP.skip ?_)
        simp only [onNormal, onExit]
        repeat refine AWP.seq ?_
        refine AWP.region_last callR_ok rfl fun K hK => ?_
        simp [runList, planW, chkW, List.lookup, aop, awanted, ayielded, env, T0, tput, tset, List.range, List.range.loop, Ran, acall, callR, abuiltin, astore, aload, AV.cells, AV.one, Value.oneCell', setMany, upd, binV, aeq, natOf, alen, aindexAddr, afieldAddr, szT, agT, szI, agI, zT, szX, agX, zX, Try.underlying22, Try.underlying26, Try.underlying28, Try.underlying3, Try.underlying4, t0, t1, t5, t6, t7, h5, h6, hk1, hk2, hk1', hk2', hget, e1]
        apply hK; clear hK K; simp only [onNormal, onExit]
        exact fin _ _ _ (IntKind.i64.wrap (x + IntKind.i64.wrap (l[k].tdiv 4) % 12)) (IntKind.i64.wrap (x + IntKind.i64.wrap (l[k].tdiv 4) % 12)) 1 (by simp [tset, t0]; done) (by simp [tset, t1]) (by simp [tset, t5]) (by simp [tset, t6]) (by simp [tset, t7]) (by simp [upd, h5]; done) (by simp [upd, h6]; done) (.inl rfl)
      repeat refine AWP.seq ?_
      refine AWP.region_last callR_ok rfl fun K hK => ?_
      simp [runList, planW, chkW, List.lookup, aop, awanted, ayielded, env, T0, tput, tset, List.range, List.range.loop, Ran, acall, callR, abuiltin, astore, aload, AV.cells, AV.one, Value.oneCell', setMany, upd, binV, aeq, natOf, alen, aindexAddr, afieldAddr, szT, agT, szI, agI, zT, szX, agX, zX, Try.underlying22, Try.underlying26, Try.underlying28, Try.underlying3, Try.underlying4, t0, t1, t5, t6, t7, h5, h6, hk1, hk2, hk1', hk2', hget, e1, r0, r1, r2]
      apply hK; clear hK K; simp only [onNormal, onExit]
      refine AWP.cond (b := false) (by simp [env, tset, r0, r1, r2]) ?_
      repeat refine AWP.seq ?_
      refine AWP.region_last callR_ok rfl fun K hK => ?_
      simp [runList, planW, chkW, List.lookup, aop, awanted, ayielded, env, T0, tput, tset, List.range, List.range.loop, Ran, acall, callR, abuiltin, astore, aload, AV.cells, AV.one, Value.oneCell', setMany, upd, binV, aeq, natOf, alen, aindexAddr, afieldAddr, szT, agT, szI, agI, zT, szX, agX, zX, Try.underlying22, Try.underlying26, Try.underlying28, Try.underlying3, Try.underlying4, t0, t1, t5, t6, t7, h5, h6, hk1, hk2, hk1', hk2', hget, e1, r0, r1, r2]
      apply hK; clear hK K; simp only [onNormal, onExit]
      refine AWP.cond (b := false) (by simp [env, tset, r0, r1, r2]) ?_
      repeat refine AWP.seq ?_
      refine AWP.region_last callR_ok rfl fun K hK => ?_
      simp [runList, planW, chkW, List.lookup, aop, awanted, ayielded, env, T0, tput, tset, List.range, List.range.loop, Ran, acall, callR, abuiltin, astore, aload, AV.cells, AV.one, Value.oneCell', setMany, upd, binV, aeq, natOf, alen, aindexAddr, afieldAddr, szT, agT, szI, agI, zT, szX, agX, zX, Try.underlying22, Try.underlying26, Try.underlying28, Try.underlying3, Try.underlying4, t0, t1, t5, t6, t7, h5, h6, hk1, hk2, hk1', hk2', hget, e1, r0, r1, r2]
      apply hK; clear hK K; simp only [onNormal, onExit]
      refine AWP.cond (b := false) (by simp [env, tset, r0, r1, r2]) (AWP.skip ?_)
      simp only [onNormal, onExit]
      repeat refine AWP.seq ?_
      refine AWP.region_last callR_ok rfl fun K hK => ?_
      simp [runList, planW, chkW, List.lookup, aop, awanted, ayielded, env, T0, tput, tset, List.range, List.range.loop, Ran, acall, callR, abuiltin, astore, aload, AV.cells, AV.one, Value.oneCell', setMany, upd, binV, aeq, natOf, alen, aindexAddr, afieldAddr, szT, agT, szI, agI, zT, szX, agX, zX, Try.underlying22, Try.underlying26, Try.underlying28, Try.underlying3, Try.underlying4, t0, t1, t5, t6, t7, h5, h6, hk1, hk2, hk1', hk2', hget, e1]
      apply hK; clear hK K; simp only [onNormal, onExit]
      refine AWP.cond (b := false) (by simp [env, tset]) (AWP.skip ?_)
      simp only [onNormal, onExit]
      repeat refine AWP.seq ?_
      refine AWP.region_last callR_ok rfl fun K hK => ?_
      simp [runList, planW, chkW, List.lookup, aop, awanted, ayielded, env, T0, tput, tset, List.range, List.range.loop, Ran, acall, callR, abuiltin, astore, aload, AV.cells, AV.one, Value.oneCell', setMany, upd, binV, aeq, natOf, alen, aindexAddr, afieldAddr, szT, agT, szI, agI, zT, szX, agX, zX, Try.underlying22, Try.underlying26, Try.underlying28, Try.underlying3, Try.underlying4, t0, t1, t5, t6, t7, h5, h6, hk1, hk2, hk1', hk2', hget, e1]
      apply hK; clear hK K; simp only [onNormal, onExit]
      exact fin _ _ _ (IntKind.i64.wrap (x + IntKind.i64.wrap (l[k].tdiv 4) % 12)) D t (by simp [tset, t0]; done) (by simp [tset, t1]) (by simp [tset, t5]) (by simp [tset, t6]) (by simp [tset, t7]) (by simp [upd, h5]; done) (by simp [upd, h6]; done) ht
    · have hk2' : ¬ (k : Int) < 60 := by omega
      repeat refine AWP.seq ?_
      refine AWP.region_last callR_ok rfl fun K hK => ?_
      simp [runList, planW, chkW, List.lookup, aop, awanted, ayielded, env, T0, tput, tset, List.range, List.range.loop, Ran, acall, callR, abuiltin, astore, aload, AV.cells, AV.one, Value.oneCell', setMany, upd, binV, aeq, natOf, alen, aindexAddr, afieldAddr, szT, agT, szI, agI, zT, szX, agX, zX, Try.underlying22, Try.underlying26, Try.underlying28, Try.underlying3, Try.underlying4, t0, t1, t5, t6, t7, h5, h6, hk1', hk2']
      apply hK; clear hK K; simp only [onNormal, onExit]
      refine AWP.cond (b := false) (by simp [env, tset]) (AWP.exit ?_)
      simp only [onNormal, onExit, ↓reduceIte]
      repeat refine AWP.seq ?_
      refine AWP.region_last callR_ok rfl fun K hK => ?_
      simp [runList, planW, chkW, List.lookup, aop, awanted, ayielded, env, T0, tput, tset, List.range, List.range.loop, Ran, acall, callR, abuiltin, astore, aload, AV.cells, AV.one, Value.oneCell', setMany, upd, binV, aeq, natOf, alen, aindexAddr, afieldAddr, szT, agT, szI, agI, zT, szX, agX, zX, Try.underlying22, Try.underlying26, Try.underlying28, Try.underlying3, Try.underlying4]
      apply hK; clear hK K; simp only [onNormal, onExit]
      refine AWP.ret ⟨.inr rfl, ⟨[vb true], ?_, rfl⟩, fun _ _ h => by cases h⟩
      simp [ares, Try.results3, tset]
  · have hk1' : ¬ (k : Int) < l.length := by omega
    repeat refine AWP.seq ?_
    refine AWP.region_last callR_ok rfl fun K hK => ?_
    simp [runList, planW, chkW, List.lookup, aop, awanted, ayielded, env, T0, tput, tset, List.range, List.range.loop, Ran, acall, callR, abuiltin, astore, aload, AV.cells, AV.one, Value.oneCell', setMany, upd, binV, aeq, natOf, alen, aindexAddr, afieldAddr, szT, agT, szI, agI, zT, szX, agX, zX, Try.underlying22, Try.underlying26, Try.underlying28, Try.underlying3, Try.underlying4, t0, t1, t5, t6, t7, h5, h6, hk1']
    apply hK; clear hK K; simp only [onNormal, onExit]
    refine AWP.cond (b := false) (by simp [env, tset]) (AWP.exit ?_)
    simp only [onNormal, onExit, ↓reduceIte]
    repeat refine AWP.seq ?_
    refine AWP.region_last callR_ok rfl fun K hK => ?_
    simp [runList, planW, chkW, List.lookup, aop, awanted, ayielded, env, T0, tput, tset, List.range, List.range.loop, Ran, acall, callR, abuiltin, astore, aload, AV.cells, AV.one, Value.oneCell', setMany, upd, binV, aeq, natOf, alen, aindexAddr, afieldAddr, szT, agT, szI, agI, zT, szX, agX, zX, Try.underlying22, Try.underlying26, Try.underlying28, Try.underlying3, Try.underlying4]
    apply hK; clear hK K; simp only [onNormal, onExit]
    refine AWP.ret ⟨.inr rfl, ⟨[vb true], ?_, rfl⟩, fun _ _ h => by cases h⟩
    simp [ares, Try.results3, tset]
end Go.Proofs.Ytpgoddffacgcmaa.Den
