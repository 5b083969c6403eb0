/- Package server: a wavelet's last state; which wavelets there are. -/
import Derived.Test.YtjinjfblilacaaaGreatKCrD
set_option linter.unusedVariables false
set_option linter.unusedSimpArgs false
section
set_option linter.unusedSimpArgs false
set_option linter.unusedVariables false
set_option maxRecDepth 100000
namespace Go.Proofs.YtjinjfblilacaaaGreat.Den
open Go.RowKit FI
attribute [local simp] runList aop abuiltin acall awanted ayielded env T0 tput tset Ran aload astore setMany upd binV aslice aindexAddr apart aindex alen acopy srcCells natOf boundOf aeq AV.nilEq convV appK fillA List.range List.range.loop onF isU8 rowOf
theorem cloneA_sim {m : Bool} {a b : Int} (nm : Name) (H : AHeap) : Sim Tryz.prog 73 [.im m 1 [vi a, vi b]] nm H (.im true 1 [vi a, vi b]) H := by
  have hcall := @noCall_ok Tryz.prog
  refine sim_pure Tryz.func73 rfl rfl (Nat.le_of_ble_eq_true rfl) ?_ H
  (repeat refine AWP.seq ?_)
  refine AWP.region_last hcall rfl fun K hK => ?_
  simp
  apply hK; clear hK K; simp only [onNormal, onExit]
  (repeat refine AWP.seq ?_)
  refine AWP.region_last hcall rfl fun K hK => ?_
  simp
  apply hK; clear hK K; simp only [onNormal, onExit]
  (repeat refine AWP.seq ?_); refine AWP.cond (b := false) (by simp) ?_; simp only [if_true, if_false, Bool.false_eq_true]
  refine AWP.skip ?_; simp only [onNormal, onExit]
  (repeat refine AWP.seq ?_)
  refine AWP.region_last hcall rfl fun K hK => ?_
  simp
  apply hK; clear hK K; simp only [onNormal, onExit]
  (try refine AWP.ret ?_); (try simp only [onNormal, onExit])
  refine ⟨by simp, [_], by simp [ares]; rfl, ?_⟩
  exact .whole (row := [vi a, vi b]) trivial (by simp [upd]) rfl (Ots.refl _)
theorem safe_at {H : AHeap} {S : SrvD} {L : List WvD} (h : SrvIs H S L) {i : Nat} {x : WvD} (hx : L[i]? = some x) (nm : Name) : safeS [.ptr S.s 0, .ptr x.w 0] nm H = some (.tup [vb (decide (i < S.saf)), vi 0], H) := by
  have h1 := h.hw i x hx
  have e1 : (waveA 0 x.b 0 x.d (.sl x.r 0 1 1))[58]? = some (.sl x.r 0 1 1) := rfl
  have e2 : ([vi 0, S.x1, S.x2, S.x3, .ptr S.l 0, S.v, S.x6, S.x7] : List AV)[4]? = some (.ptr S.l 0) := rfl
  have e3 : (([vi (i : Int)] : List AV).drop 0).take 1 = [vi (i : Int)] := rfl
  have e4 : intsA [vi (i : Int)] = some [(i : Int)] := rfl
  have e5 : cntI (S.saf : Int) [(i : Int)] = if i < S.saf then 1 else 0 := by
    unfold cntI
    by_cases hi : i < S.saf <;> simp [hi]
  simp only [safeS, h.hs, h1.1, h1.2, e1, e2, h.hl, e3, e4, e5]
  by_cases hi : i < S.saf <;> simp [hi]
theorem open_sim {H : AHeap} {S : SrvD} {L : List WvD} (nm : Name) (h : SrvIs H S L) {i : Nat} {x : WvD} (hx : L[i]? = some x) : Sim Tryz.prog 71 [.ptr S.s 0, .ptr x.w 0] nm H (vb (decide (i < S.saf))) H := by
  have hcall := onF_ok safe_ok (@noCall_ok Tryz.prog)
  have hsa := fun nm' => safe_at h hx nm'
  have hw := (h.hw i x hx).1
  have e4 : (waveA 0 x.b 0 x.d (.sl x.r 0 1 1))[4]? = some (vb true) := rfl
  have e4' : ∀ h : 4 < (waveA 0 x.b 0 x.d (.sl x.r 0 1 1)).length, (waveA 0 x.b 0 x.d (.sl x.r 0 1 1))[4] = vb true := fun _ => rfl
  have hl := waveA_id 0 x.b 0 x.d (.sl x.r 0 1 1)
  refine sim_go Tryz.func71 rfl rfl (Nat.le_of_ble_eq_true rfl) fun hH => ?_
  (repeat refine AWP.seq ?_)
  refine AWP.region_last hcall rfl fun K hK => ?_
  simp
  apply hK; clear hK K; simp only [onNormal, onExit]
  (repeat refine AWP.seq ?_)
  refine AWP.region_last hcall rfl fun K hK => ?_
  simp [hsa]
  apply hK; clear hK K; simp only [onNormal, onExit]
  by_cases hi : i < S.saf
  · (repeat refine AWP.seq ?_)
    refine AWP.region_ops hcall rfl fun ops' hops K hK => ?_
    have o_0 := op_at hops 0 rfl
    have o_1 := op_at hops 1 rfl
    have o_2 := op_at hops 2 rfl
    have o_3 := op_at hops 3 rfl
    have o_4 := op_at hops 4 rfl
    have o_5 := op_at hops 5 rfl
    have o_6 := op_at hops 6 rfl
    have o_7 := op_at hops 7 rfl
    have o_8 := op_at hops 8 rfl
    have o_sz : ops'.size = 9 := op_sz hops rfl
    clear hops
    rw [o_sz]
    change Ran K _ (runList _ _ ops' _ _ [0, 1, 2, 3, 4, 5, 6, 7, 8] _ _)
    first | (refine run_ex (d := (some 13)) o_0 rfl ?_ ?_; · (simp [o_0, o_1, o_2, o_3, o_4, o_5, o_6, o_7, o_8, hi, hw, e4, e4', hl]; done)) | (refine run_skip (d := (some 13)) o_0 rfl ?_ ?_; · (simp [o_0, o_1, o_2, o_3, o_4, o_5, o_6, o_7, o_8, hi, hw, e4, e4', hl]; done))
    try refine ⟨_, by simp [hi, hw, e4, e4', hl]; try rfl, ?_⟩
    first | (refine run_ex (d := (some 14)) o_1 rfl ?_ ?_; · (simp [o_0, o_1, o_2, o_3, o_4, o_5, o_6, o_7, o_8, hi, hw, e4, e4', hl]; done)) | (refine run_skip (d := (some 14)) o_1 rfl ?_ ?_; · (simp [o_0, o_1, o_2, o_3, o_4, o_5, o_6, o_7, o_8, hi, hw, e4, e4', hl]; done))
    try refine ⟨_, by simp [hi, hw, e4, e4', hl]; try rfl, ?_⟩
    first | (refine run_ex (d := (some 15)) o_2 rfl ?_ ?_; · (simp [o_0, o_1, o_2, o_3, o_4, o_5, o_6, o_7, o_8, hi, hw, e4, e4', hl]; done)) | (refine run_skip (d := (some 15)) o_2 rfl ?_ ?_; · (simp [o_0, o_1, o_2, o_3, o_4, o_5, o_6, o_7, o_8, hi, hw, e4, e4', hl]; done))
    try refine ⟨_, by simp [hi, hw, e4, e4', hl]; try rfl, ?_⟩
    first | (refine run_ex (d := (some 16)) o_3 rfl ?_ ?_; · (simp [o_0, o_1, o_2, o_3, o_4, o_5, o_6, o_7, o_8, hi, hw, e4, e4', hl]; done)) | (refine run_skip (d := (some 16)) o_3 rfl ?_ ?_; · (simp [o_0, o_1, o_2, o_3, o_4, o_5, o_6, o_7, o_8, hi, hw, e4, e4', hl]; done))
    try refine ⟨_, by simp [hi, hw, e4, e4', hl]; try rfl, ?_⟩
    first | (refine run_ex (d := (some 17)) o_4 rfl ?_ ?_; · (simp [o_0, o_1, o_2, o_3, o_4, o_5, o_6, o_7, o_8, hi, hw, e4, e4', hl]; done)) | (refine run_skip (d := (some 17)) o_4 rfl ?_ ?_; · (simp [o_0, o_1, o_2, o_3, o_4, o_5, o_6, o_7, o_8, hi, hw, e4, e4', hl]; done))
    try refine ⟨_, by simp [hi, hw, e4, e4', hl]; try rfl, ?_⟩
    first | (refine run_ex (d := (some 18)) o_5 rfl ?_ ?_; · (simp [o_0, o_1, o_2, o_3, o_4, o_5, o_6, o_7, o_8, hi, hw, e4, e4', hl]; done)) | (refine run_skip (d := (some 18)) o_5 rfl ?_ ?_; · (simp [o_0, o_1, o_2, o_3, o_4, o_5, o_6, o_7, o_8, hi, hw, e4, e4', hl]; done))
    try refine ⟨_, by simp [hi, hw, e4, e4', hl]; try rfl, ?_⟩
    first | (refine run_ex (d := (some 19)) o_6 rfl ?_ ?_; · (simp [o_0, o_1, o_2, o_3, o_4, o_5, o_6, o_7, o_8, hi, hw, e4, e4', hl]; done)) | (refine run_skip (d := (some 19)) o_6 rfl ?_ ?_; · (simp [o_0, o_1, o_2, o_3, o_4, o_5, o_6, o_7, o_8, hi, hw, e4, e4', hl]; done))
    try refine ⟨_, by simp [hi, hw, e4, e4', hl]; try rfl, ?_⟩
    first | (refine run_ex (d := (some 20)) o_7 rfl ?_ ?_; · (simp [o_0, o_1, o_2, o_3, o_4, o_5, o_6, o_7, o_8, hi, hw, e4, e4', hl]; done)) | (refine run_skip (d := (some 20)) o_7 rfl ?_ ?_; · (simp [o_0, o_1, o_2, o_3, o_4, o_5, o_6, o_7, o_8, hi, hw, e4, e4', hl]; done))
    try refine ⟨_, by simp [hi, hw, e4, e4', hl]; try rfl, ?_⟩
    first | (refine run_ex (d := (some 4)) o_8 rfl ?_ ?_; · (simp [o_0, o_1, o_2, o_3, o_4, o_5, o_6, o_7, o_8, hi, hw, e4, e4', hl]; done)) | (refine run_skip (d := (some 4)) o_8 rfl ?_ ?_; · (simp [o_0, o_1, o_2, o_3, o_4, o_5, o_6, o_7, o_8, hi, hw, e4, e4', hl]; done))
    try refine ⟨_, by simp [hi, hw, e4, e4', hl]; try rfl, ?_⟩
    refine run_end ?_
    apply hK; clear hK K o_0 o_1 o_2 o_3 o_4 o_5 o_6 o_7 o_8 o_sz; simp only [onNormal, onExit, tput]
    (try refine AWP.ret ?_); (try simp only [onNormal, onExit]); refine ⟨by simp, ⟨_, rfl, by simp [ares1, hi]⟩, fun k row hk => ?_⟩
    exact hk
  · (repeat refine AWP.seq ?_)
    refine AWP.region_ops hcall rfl fun ops' hops K hK => ?_
    have o_0 := op_at hops 0 rfl
    have o_1 := op_at hops 1 rfl
    have o_2 := op_at hops 2 rfl
    have o_3 := op_at hops 3 rfl
    have o_4 := op_at hops 4 rfl
    have o_5 := op_at hops 5 rfl
    have o_6 := op_at hops 6 rfl
    have o_7 := op_at hops 7 rfl
    have o_8 := op_at hops 8 rfl
    have o_sz : ops'.size = 9 := op_sz hops rfl
    clear hops
    rw [o_sz]
    change Ran K _ (runList _ _ ops' _ _ [0, 1, 2, 3, 4, 5, 6, 7, 8] _ _)
    first | (refine run_ex (d := (some 13)) o_0 rfl ?_ ?_; · (simp [o_0, o_1, o_2, o_3, o_4, o_5, o_6, o_7, o_8, hi, hw, e4, e4', hl]; done)) | (refine run_skip (d := (some 13)) o_0 rfl ?_ ?_; · (simp [o_0, o_1, o_2, o_3, o_4, o_5, o_6, o_7, o_8, hi, hw, e4, e4', hl]; done))
    try refine ⟨_, by simp [hi, hw, e4, e4', hl]; try rfl, ?_⟩
    first | (refine run_ex (d := (some 14)) o_1 rfl ?_ ?_; · (simp [o_0, o_1, o_2, o_3, o_4, o_5, o_6, o_7, o_8, hi, hw, e4, e4', hl]; done)) | (refine run_skip (d := (some 14)) o_1 rfl ?_ ?_; · (simp [o_0, o_1, o_2, o_3, o_4, o_5, o_6, o_7, o_8, hi, hw, e4, e4', hl]; done))
    try refine ⟨_, by simp [hi, hw, e4, e4', hl]; try rfl, ?_⟩
    first | (refine run_ex (d := (some 15)) o_2 rfl ?_ ?_; · (simp [o_0, o_1, o_2, o_3, o_4, o_5, o_6, o_7, o_8, hi, hw, e4, e4', hl]; done)) | (refine run_skip (d := (some 15)) o_2 rfl ?_ ?_; · (simp [o_0, o_1, o_2, o_3, o_4, o_5, o_6, o_7, o_8, hi, hw, e4, e4', hl]; done))
    try refine ⟨_, by simp [hi, hw, e4, e4', hl]; try rfl, ?_⟩
    first | (refine run_ex (d := (some 16)) o_3 rfl ?_ ?_; · (simp [o_0, o_1, o_2, o_3, o_4, o_5, o_6, o_7, o_8, hi, hw, e4, e4', hl]; done)) | (refine run_skip (d := (some 16)) o_3 rfl ?_ ?_; · (simp [o_0, o_1, o_2, o_3, o_4, o_5, o_6, o_7, o_8, hi, hw, e4, e4', hl]; done))
    try refine ⟨_, by simp [hi, hw, e4, e4', hl]; try rfl, ?_⟩
    first | (refine run_ex (d := (some 17)) o_4 rfl ?_ ?_; · (simp [o_0, o_1, o_2, o_3, o_4, o_5, o_6, o_7, o_8, hi, hw, e4, e4', hl]; done)) | (refine run_skip (d := (some 17)) o_4 rfl ?_ ?_; · (simp [o_0, o_1, o_2, o_3, o_4, o_5, o_6, o_7, o_8, hi, hw, e4, e4', hl]; done))
    try refine ⟨_, by simp [hi, hw, e4, e4', hl]; try rfl, ?_⟩
    first | (refine run_ex (d := (some 18)) o_5 rfl ?_ ?_; · (simp [o_0, o_1, o_2, o_3, o_4, o_5, o_6, o_7, o_8, hi, hw, e4, e4', hl]; done)) | (refine run_skip (d := (some 18)) o_5 rfl ?_ ?_; · (simp [o_0, o_1, o_2, o_3, o_4, o_5, o_6, o_7, o_8, hi, hw, e4, e4', hl]; done))
    try refine ⟨_, by simp [hi, hw, e4, e4', hl]; try rfl, ?_⟩
    first | (refine run_ex (d := (some 19)) o_6 rfl ?_ ?_; · (simp [o_0, o_1, o_2, o_3, o_4, o_5, o_6, o_7, o_8, hi, hw, e4, e4', hl]; done)) | (refine run_skip (d := (some 19)) o_6 rfl ?_ ?_; · (simp [o_0, o_1, o_2, o_3, o_4, o_5, o_6, o_7, o_8, hi, hw, e4, e4', hl]; done))
    try refine ⟨_, by simp [hi, hw, e4, e4', hl]; try rfl, ?_⟩
    first | (refine run_ex (d := (some 20)) o_7 rfl ?_ ?_; · (simp [o_0, o_1, o_2, o_3, o_4, o_5, o_6, o_7, o_8, hi, hw, e4, e4', hl]; done)) | (refine run_skip (d := (some 20)) o_7 rfl ?_ ?_; · (simp [o_0, o_1, o_2, o_3, o_4, o_5, o_6, o_7, o_8, hi, hw, e4, e4', hl]; done))
    try refine ⟨_, by simp [hi, hw, e4, e4', hl]; try rfl, ?_⟩
    first | (refine run_ex (d := (some 4)) o_8 rfl ?_ ?_; · (simp [o_0, o_1, o_2, o_3, o_4, o_5, o_6, o_7, o_8, hi, hw, e4, e4', hl]; done)) | (refine run_skip (d := (some 4)) o_8 rfl ?_ ?_; · (simp [o_0, o_1, o_2, o_3, o_4, o_5, o_6, o_7, o_8, hi, hw, e4, e4', hl]; done))
    try refine ⟨_, by simp [hi, hw, e4, e4', hl]; try rfl, ?_⟩
    refine run_end ?_
    apply hK; clear hK K o_0 o_1 o_2 o_3 o_4 o_5 o_6 o_7 o_8 o_sz; simp only [onNormal, onExit, tput]
    (try refine AWP.ret ?_); (try simp only [onNormal, onExit]); refine ⟨by simp, ⟨_, rfl, by simp [ares1, hi]⟩, fun k row hk => ?_⟩
    exact hk
theorem state0_len (a b c d : Int) : (state0 a b c d).length = 37 := by simp [state0, stateA, bs_length]; rfl
set_option maxHeartbeats 1000000 in
theorem sure_sim {H : AHeap} {S : SrvD} {L : List WvD} (nm : Name) (h : SrvIs H S L) {i : Nat} {x : WvD} (hx : L[i]? = some x) : Sim Tryz.prog 72 [.ptr S.s 0, .ptr x.w 0] nm H (.agg [.im true 1 (state0 0 x.b 0 x.d), vnil]) H := by
  have hcall := onF_ok safe_ok (@noCall_ok Tryz.prog)
  obtain ⟨W, hW⟩ : ∃ W, W = waveA 0 x.b 0 x.d (.sl x.r 0 1 1) := ⟨_, rfl⟩
  have hw := (h.hw i x hx).1
  rw [<- hW] at hw
  have hl : W.length = 59 := by rw [hW]; exact waveA_id _ _ _ _ _
  have e5 : W[5]? = some (.im true 1 (state0 0 x.b 0 x.d)) := by rw [hW]; rfl
  have e5' : ∀ h : 5 < W.length, W[5] = .im true 1 (state0 0 x.b 0 x.d) := fun h => (List.getElem?_eq_some_iff.1 e5).2
  have e6 : W[6]? = some vnil := by rw [hW]; rfl
  have e6' : ∀ h : 6 < W.length, W[6] = vnil := fun h => (List.getElem?_eq_some_iff.1 e6).2
  obtain ⟨X, hX⟩ : ∃ X, X = state0 0 x.b 0 x.d := ⟨_, rfl⟩
  have hXl : X.length = 37 := by rw [hX]; exact state0_len _ _ _ _
  have hXt : X.take 37 = X := List.take_of_length_le (by omega)
  rw [<- hX] at e5 e5'
  rw [<- hX]
  refine sim_go Tryz.func72 rfl rfl (Nat.le_of_ble_eq_true rfl) fun hH => ?_
  (repeat refine AWP.seq ?_)
  refine AWP.region_last hcall rfl fun K hK => ?_
  simp
  apply hK; clear hK K; simp only [onNormal, onExit]
  have hn : ∀ y, ¬ x.w = y :: nm := fun y e => by have := hH [y]; rw [List.singleton_append, <- e, hw] at this; cases this
  have hsa : ∀ nm', safeS [.ptr S.s 0, .ptr x.w 0] nm' (upd H (0 :: nm) (some [vnil, vnil])) = some (.tup [vb (decide (i < S.saf)), vi 0], upd H (0 :: nm) (some [vnil, vnil])) := fun nm' => safe_at (h.mono fun k row hk => by
    rw [upd_ne _ _ (fun e => by have := hH [0]; rw [List.singleton_append, <- e, hk] at this; cases this)]; exact hk) hx nm'
  (repeat refine AWP.seq ?_)
  refine AWP.region_last hcall rfl fun K hK => ?_
  simp [hsa]
  apply hK; clear hK K; simp only [onNormal, onExit]
  (repeat refine AWP.seq ?_)
  refine AWP.region_last hcall rfl fun K hK => ?_
  simp [hw, hn, e6, e6', hl]
  apply hK; clear hK K; simp only [onNormal, onExit]
  (repeat refine AWP.seq ?_)
  refine AWP.draw_ops rfl hcall [0, 1, 3, 7, 15, 0, 32, 127, 0, 256, 768, 1792, 3840, 0, 16128, 32767, 65535] [⟨0, false, []⟩, ⟨1, false, []⟩, ⟨2, false, []⟩, ⟨3, false, []⟩, ⟨4, false, [0]⟩, ⟨5, false, []⟩, ⟨6, false, []⟩, ⟨7, false, [0]⟩, ⟨8, false, []⟩, ⟨9, false, []⟩, ⟨10, false, []⟩, ⟨11, false, []⟩, ⟨12, false, [0]⟩, ⟨13, false, []⟩, ⟨14, false, [0]⟩, ⟨15, false, []⟩, ⟨16, true, []⟩] rfl (by kernel_rfl) fun ops' hops K hK => ?_
  have o_0 := op_at hops 0 rfl
  have o_1 := op_at hops 1 rfl
  have o_2 := op_at hops 2 rfl
  have o_3 := op_at hops 3 rfl
  have o_4 := op_at hops 4 rfl
  have o_5 := op_at hops 5 rfl
  have o_6 := op_at hops 6 rfl
  have o_7 := op_at hops 7 rfl
  have o_8 := op_at hops 8 rfl
  have o_9 := op_at hops 9 rfl
  have o_10 := op_at hops 10 rfl
  have o_11 := op_at hops 11 rfl
  have o_12 := op_at hops 12 rfl
  have o_13 := op_at hops 13 rfl
  have o_14 := op_at hops 14 rfl
  have o_15 := op_at hops 15 rfl
  have o_16 := op_at hops 16 rfl
  have o_sz : ops'.size = 17 := op_sz hops rfl
  clear hops
  refine planW_ex (d := (some 21)) o_0 rfl rfl ⟨_, by simp [List.lookup, hw, hn, e5, e5', e6, e6', hl, hXl, hXt]; try rfl, trivial, ?_⟩
  clear o_0
  refine planW_ex (d := (some 22)) o_1 rfl rfl ⟨_, by simp [List.lookup, hw, hn, e5, e5', e6, e6', hl, hXl, hXt]; try rfl, trivial, ?_⟩
  clear o_1
  refine planW_ex (d := (some 23)) o_2 rfl rfl ⟨_, by simp [List.lookup, hw, hn, e5, e5', e6, e6', hl, hXl, hXt]; try rfl, trivial, ?_⟩
  clear o_2
  refine planW_ex (d := (some 24)) o_3 rfl rfl ⟨_, by simp [List.lookup, hw, hn, e5, e5', e6, e6', hl, hXl, hXt]; try rfl, trivial, ?_⟩
  clear o_3
  refine planW_ex (d := (some 25)) o_4 rfl rfl ⟨_, by simp [List.lookup, hw, hn, e5, e5', e6, e6', hl, hXl, hXt]; try rfl, by simp [chkW, List.lookup, List.lookup, hw, hn, e5, e5', e6, e6', hl, hXl, hXt], ?_⟩
  clear o_4
  refine planW_ex (d := (some 26)) o_5 rfl rfl ⟨_, by simp [List.lookup, hw, hn, e5, e5', e6, e6', hl, hXl, hXt]; try rfl, trivial, ?_⟩
  clear o_5
  refine planW_ex (d := (some 27)) o_6 rfl rfl ⟨_, by simp [List.lookup, hw, hn, e5, e5', e6, e6', hl, hXl, hXt]; try rfl, trivial, ?_⟩
  clear o_6
  refine planW_ex (d := (some 28)) o_7 rfl rfl ⟨_, by simp [List.lookup, hw, hn, e5, e5', e6, e6', hl, hXl, hXt]; try rfl, by simp [chkW, List.lookup, List.lookup, hw, hn, e5, e5', e6, e6', hl, hXl, hXt], ?_⟩
  clear o_7
  refine planW_ex (d := (some 29)) o_8 rfl rfl ⟨_, by simp [List.lookup, hw, hn, e5, e5', e6, e6', hl, hXl, hXt]; try rfl, trivial, ?_⟩
  clear o_8
  refine planW_ex (d := (some 30)) o_9 rfl rfl ⟨_, by simp [List.lookup, hw, hn, e5, e5', e6, e6', hl, hXl, hXt]; try rfl, trivial, ?_⟩
  clear o_9
  refine planW_ex (d := (some 31)) o_10 rfl rfl ⟨_, by simp [List.lookup, hw, hn, e5, e5', e6, e6', hl, hXl, hXt]; try rfl, trivial, ?_⟩
  clear o_10
  refine planW_ex (d := (some 32)) o_11 rfl rfl ⟨_, by simp [List.lookup, hw, hn, e5, e5', e6, e6', hl, hXl, hXt]; try rfl, trivial, ?_⟩
  clear o_11
  refine planW_ex (d := (some 33)) o_12 rfl rfl ⟨_, by simp [List.lookup, hw, hn, e5, e5', e6, e6', hl, hXl, hXt]; try rfl, by simp [chkW, List.lookup, List.lookup, hw, hn, e5, e5', e6, e6', hl, hXl, hXt], ?_⟩
  clear o_12
  refine planW_ex (d := (some 34)) o_13 rfl rfl ⟨_, by simp [List.lookup, hw, hn, e5, e5', e6, e6', hl, hXl, hXt]; try rfl, trivial, ?_⟩
  clear o_13
  refine planW_ex (d := (some 35)) o_14 rfl rfl ⟨_, by simp [List.lookup, hw, hn, e5, e5', e6, e6', hl, hXl, hXt]; try rfl, by simp [chkW, List.lookup, List.lookup, hw, hn, e5, e5', e6, e6', hl, hXl, hXt], ?_⟩
  clear o_14
  refine planW_ex (d := (some 36)) o_15 rfl rfl ⟨_, by simp [List.lookup, hw, hn, e5, e5', e6, e6', hl, hXl, hXt]; try rfl, trivial, ?_⟩
  clear o_15
  refine planW_ex (d := none) o_16 rfl rfl ⟨_, by simp [List.lookup, hw, hn, e5, e5', e6, e6', hl, hXl, hXt]; try rfl, trivial, ?_⟩
  clear o_16
  refine planW_end o_sz ?_
  apply hK; clear hK K o_sz; simp only [onNormal, onExit, tput]
  (try refine AWP.ret ?_); (try simp only [onNormal, onExit])
  refine ⟨by simp, ⟨[_], by simp [ares, Tryz.results72]; rfl, by simp [ares1]⟩, fun k row hk => ?_⟩
  refine SubL.out ?_ k row hk; repeat (first | exact SubL.id | refine SubL.set ?_ | refine SubL.gone ?_ | (refine SubL.ex ?_ ?_; · simp; done) | refine SubL.fresh (hH [_]) ?_ | refine SubL.fresh (hH [_, _]) ?_ | (refine SubL.fresh (upd_none (hH [_]) ?_) ?_; · simp; done) | (refine SubL.fresh (upd_none (hH [_, _]) ?_) ?_; · simp; done))
def zeroSt : List AV := [vi 0, vi 0, vs0, vnil, vi 0] ++ bz 32
theorem findV_some {L : List WvD} {i : Nat} {x : WvD} (hx : L[i]? = some x) (hd : ∀ (i j : Nat) (x y : WvD), L[i]? = some x -> L[j]? = some y -> x.b = y.b -> i = j) : findV L x.b = .ptr x.w 0 := by
  have hi := (List.getElem?_eq_some_iff.1 hx).1
  have : L.find? (fun y => decide (y.b = x.b)) = some x := List.find?_eq_some_iff_getElem.2 ⟨by simp, i, hi, (List.getElem?_eq_some_iff.1 hx).2, fun j hj => by
    have hj' : j < L.length := by omega
    have hne : ¬ L[j].b = x.b := fun e => by
      have := hd j i _ _ (List.getElem?_eq_getElem hj') hx e
      omega
    simp [hne]⟩
  simp only [findV, this]
set_option maxHeartbeats 1000000 in
/-- A wavelet that is not safe. -/
theorem state_not {H : AHeap} {S : SrvD} {L : List WvD} (nm : Name) (h : SrvIs H S L) (hL : L.length <= 8) (hd : ∀ (i j : Nat) (x y : WvD), L[i]? = some x -> L[j]? = some y -> x.b = y.b -> i = j) {i : Nat} {x : WvD} (hx : L[i]? = some x) (hi : ¬ i < S.saf) : Sim Tryz.prog 19 [.ptr S.s 0, .agg [vi 0, vi (x.b : Int)]] nm H (.tup [.agg zeroSt, vb false]) H := by
  have hcall := onF_ok (find_fn (S := S) (L := L) (k := x.b) hL) (onF_ok (stS_ok (f := 71) (xs := [.ptr S.s 0, .ptr x.w 0]) (pre := fun H => SrvIs H S L) (r := fun _ => vb (decide (i < S.saf))) (post := fun _ H => H) (by kernel_rfl) fun nm H h => open_sim nm h hx) (@noCall_ok Tryz.prog))
  refine sim_go Tryz.func19 rfl rfl (Nat.le_of_ble_eq_true rfl) fun hH => ?_
  have hfi := fun nm' G hG => find_at (k := x.b) hH h nm' G hG
  rw [findV_some hx hd] at hfi hcall
  have hop : ∀ nm' G, Agr nm H G -> stS [.ptr S.s 0, .ptr x.w 0] (fun H => SrvIs H S L) (fun _ => vb (decide (i < S.saf))) (fun _ H => H) [.ptr S.s 0, .ptr x.w 0] nm' G = some (vb (decide (i < S.saf)), G) := fun nm' G hG => stS_at (h.mono fun k row hk => hG.row hH hk)
  (repeat refine AWP.seq ?_)
  refine AWP.region_last hcall rfl fun K hK => ?_
  simp
  apply hK; clear hK K; simp only [onNormal, onExit]
  (repeat refine AWP.seq ?_)
  refine AWP.region_last hcall rfl fun K hK => ?_
  simp (maxDischargeDepth := 20) [hfi, Agr.refl, Agr.upd]
  apply hK; clear hK K; simp only [onNormal, onExit]
  have hag : Agr nm H (upd (upd H (0 :: nm) (some [vi 0, vi (x.b : Int)])) (1 :: nm) (some zeroSt)) := .upd (.upd (.refl _ _))
  obtain ⟨G, hG⟩ : ∃ G, G = upd (upd H (0 :: nm) (some [vi 0, vi (x.b : Int)])) (1 :: nm) (some zeroSt) := ⟨_, rfl⟩
  have hG' : upd (upd H (0 :: nm) (some [vi 0, vi (x.b : Int)])) (1 :: nm) (some (AV.val (Value.int IntKind.i64 0) :: AV.val (Value.int IntKind.i64 0) :: AV.val (Value.string ByteArray.empty) :: AV.val (Value.slice none 0 0) :: AV.val (Value.int IntKind.i64 0) :: bz 32)) = G := hG.symm
  rw [hG']
  rw [<- hG] at hag
  have hopG := fun nm' => hop nm' G hag
  rw [decide_eq_false hi] at hopG hcall
  (repeat refine AWP.seq ?_)
  refine AWP.region_ops hcall rfl fun ops' hops K hK => ?_
  have o_0 := op_at hops 0 rfl
  have o_1 := op_at hops 1 rfl
  have o_2 := op_at hops 2 rfl
  have o_3 := op_at hops 3 rfl
  have o_4 := op_at hops 4 rfl
  have o_5 := op_at hops 5 rfl
  have o_6 := op_at hops 6 rfl
  have o_7 := op_at hops 7 rfl
  have o_sz : ops'.size = 8 := op_sz hops rfl
  clear hops
  rw [o_sz]
  change Ran K _ (runList _ _ ops' _ _ [0, 1, 2, 3, 4, 5, 6, 7] _ _)
  first | (refine run_ex (d := (some 12)) o_0 rfl ?_ ?_; · (simp [o_0, o_1, o_2, o_3, o_4, o_5, o_6, o_7, hopG]; done)) | (refine run_skip (d := (some 12)) o_0 rfl ?_ ?_; · (simp [o_0, o_1, o_2, o_3, o_4, o_5, o_6, o_7, hopG]; done))
  try refine ⟨_, by simp [hopG]; try rfl, ?_⟩
  first | (refine run_ex (d := (some 13)) o_1 rfl ?_ ?_; · (simp [o_0, o_1, o_2, o_3, o_4, o_5, o_6, o_7, hopG]; done)) | (refine run_skip (d := (some 13)) o_1 rfl ?_ ?_; · (simp [o_0, o_1, o_2, o_3, o_4, o_5, o_6, o_7, hopG]; done))
  try refine ⟨_, by simp [hopG]; try rfl, ?_⟩
  first | (refine run_ex (d := (some 14)) o_2 rfl ?_ ?_; · (simp [o_0, o_1, o_2, o_3, o_4, o_5, o_6, o_7, hopG]; done)) | (refine run_skip (d := (some 14)) o_2 rfl ?_ ?_; · (simp [o_0, o_1, o_2, o_3, o_4, o_5, o_6, o_7, hopG]; done))
  try refine ⟨_, by simp [hopG]; try rfl, ?_⟩
  first | (refine run_ex (d := (some 15)) o_3 rfl ?_ ?_; · (simp [o_0, o_1, o_2, o_3, o_4, o_5, o_6, o_7, hopG]; done)) | (refine run_skip (d := (some 15)) o_3 rfl ?_ ?_; · (simp [o_0, o_1, o_2, o_3, o_4, o_5, o_6, o_7, hopG]; done))
  try refine ⟨_, by simp [hopG]; try rfl, ?_⟩
  first | (refine run_ex (d := (some 16)) o_4 rfl ?_ ?_; · (simp [o_0, o_1, o_2, o_3, o_4, o_5, o_6, o_7, hopG]; done)) | (refine run_skip (d := (some 16)) o_4 rfl ?_ ?_; · (simp [o_0, o_1, o_2, o_3, o_4, o_5, o_6, o_7, hopG]; done))
  try refine ⟨_, by simp [hopG]; try rfl, ?_⟩
  first | (refine run_ex (d := (some 17)) o_5 rfl ?_ ?_; · (simp [o_0, o_1, o_2, o_3, o_4, o_5, o_6, o_7, hopG]; done)) | (refine run_skip (d := (some 17)) o_5 rfl ?_ ?_; · (simp [o_0, o_1, o_2, o_3, o_4, o_5, o_6, o_7, hopG]; done))
  try refine ⟨_, by simp [hopG]; try rfl, ?_⟩
  first | (refine run_ex (d := (some 18)) o_6 rfl ?_ ?_; · (simp [o_0, o_1, o_2, o_3, o_4, o_5, o_6, o_7, hopG]; done)) | (refine run_skip (d := (some 18)) o_6 rfl ?_ ?_; · (simp [o_0, o_1, o_2, o_3, o_4, o_5, o_6, o_7, hopG]; done))
  try refine ⟨_, by simp [hopG]; try rfl, ?_⟩
  first | (refine run_ex (d := (some 19)) o_7 rfl ?_ ?_; · (simp [o_0, o_1, o_2, o_3, o_4, o_5, o_6, o_7, hopG]; done)) | (refine run_skip (d := (some 19)) o_7 rfl ?_ ?_; · (simp [o_0, o_1, o_2, o_3, o_4, o_5, o_6, o_7, hopG]; done))
  try refine ⟨_, by simp [hopG]; try rfl, ?_⟩
  refine run_end ?_
  apply hK; clear hK K o_0 o_1 o_2 o_3 o_4 o_5 o_6 o_7 o_sz; simp only [onNormal, onExit, tput]
  (repeat refine AWP.seq ?_); refine AWP.cond (b := true) (by simp) ?_; simp only [if_true, if_false, Bool.false_eq_true]
  have g1 : G (1 :: nm) = some zeroSt := by rw [hG, upd_same]
  have hzl : zeroSt.length = 37 := by simp [zeroSt, bz]
  have hbz : (bz 32).length = 32 := by simp [bz]
  have hz0 : setMany zeroSt 0 zeroSt = zeroSt := setMany_full rfl
  have hz1 : AV.val (Value.int IntKind.i64 0) :: AV.val (Value.int IntKind.i64 0) :: AV.val (Value.string ByteArray.empty) :: AV.val (Value.slice none 0 0) :: AV.val (Value.int IntKind.i64 0) :: bz 32 = zeroSt := rfl
  have hzo : zeroSt.all AV.one = true := by decide
  have hzt : zeroSt.take 37 = zeroSt := List.take_of_length_le (by omega)
  (repeat refine AWP.seq ?_)
  refine AWP.region_last hcall rfl fun K hK => ?_
  simp [hz1, g1, hzl, hz0, -List.all_eq_true, hzo]
  apply hK; clear hK K; simp only [onNormal, onExit]
  (try refine AWP.ret ?_); (try simp only [onNormal, onExit])
  refine ⟨by simp, ⟨_, by simp [ares, Tryz.results19, hzl, hzt]; rfl, by simp [ares1]⟩, fun k row hk => ?_⟩
  rw [upd_ne _ _ (by rintro rfl; have := hH [1]; rw [List.singleton_append, hk] at this; cases this)]
  exact hag.row hH hk
set_option maxHeartbeats 1000000 in
/-- A wavelet that is safe. -/
theorem state_is {H : AHeap} {S : SrvD} {L : List WvD} (nm : Name) (h : SrvIs H S L) (hL : L.length <= 8) (hd : ∀ (i j : Nat) (x y : WvD), L[i]? = some x -> L[j]? = some y -> x.b = y.b -> i = j) {i : Nat} {x : WvD} (hx : L[i]? = some x) (hi : i < S.saf) : Sim Tryz.prog 19 [.ptr S.s 0, .agg [vi 0, vi (x.b : Int)]] nm H (.tup [.agg (state0 0 x.b 0 x.d), vb true]) H := by
  have hcall := onF_ok (find_fn (S := S) (L := L) (k := x.b) hL) (onF_ok (stS_ok (f := 71) (xs := [.ptr S.s 0, .ptr x.w 0]) (pre := fun H => SrvIs H S L) (r := fun _ => vb (decide (i < S.saf))) (post := fun _ H => H) (by kernel_rfl) fun nm H h => open_sim nm h hx) (onF_ok (stS_ok (f := 72) (xs := [.ptr S.s 0, .ptr x.w 0]) (pre := fun H => SrvIs H S L) (r := fun _ => .agg [.im true 1 (state0 0 x.b 0 x.d), vnil]) (post := fun _ H => H) (by kernel_rfl) fun nm H h => sure_sim nm h hx) (onF_ok (atS_ok (f := 73) (l := [([.im true 1 [vi 0, vi (x.d : Int)]], .im true 1 [vi 0, vi (x.d : Int)])]) (by kernel_rfl) fun p hp nm H => by
    cases List.mem_singleton.1 hp
    exact cloneA_sim nm H) (@noCall_ok Tryz.prog))))
  have hcl := fun nm' H' => atS_at (xs := [.im true 1 [vi 0, vi (x.d : Int)]]) (r := .im true 1 [vi 0, vi (x.d : Int)]) (l := []) nm' H'
  obtain ⟨W, hW⟩ : ∃ W, W = waveA 0 x.b 0 x.d (.sl x.r 0 1 1) := ⟨_, rfl⟩
  have hw := (h.hw i x hx).1
  rw [<- hW] at hw
  have hl : W.length = 59 := by rw [hW]; exact waveA_id _ _ _ _ _
  have e4 : W[4]? = some (vb true) := by rw [hW]; rfl
  have e4' : ∀ h : 4 < W.length, W[4] = vb true := fun h => (List.getElem?_eq_some_iff.1 e4).2
  obtain ⟨X, hX⟩ : ∃ X, X = state0 0 x.b 0 x.d := ⟨_, rfl⟩
  have hXl : X.length = 37 := by rw [hX]; exact state0_len _ _ _ _
  have hXt : X.take 37 = X := List.take_of_length_le (by omega)
  have hX3 : X[3]? = some (.im true 1 [vi 0, vi (x.d : Int)]) := by rw [hX]; rfl
  have hX3' : ∀ h : 3 < X.length, X[3] = .im true 1 [vi 0, vi (x.d : Int)] := fun h => (List.getElem?_eq_some_iff.1 hX3).2
  have hXs : X.set 3 (.im true 1 [vi 0, vi (x.d : Int)]) = X := by rw [hX]; rfl
  have hXo : X.all AV.one = true := by rw [hX, state0, stateA, List.all_append, bs_one]; rfl
  obtain ⟨Z, hZ⟩ : ∃ Z, Z = (W.drop 16).take 37 := ⟨_, rfl⟩
  have hZl : Z.length = 37 := by rw [hZ, List.length_take, List.length_drop, hl]; rfl
  have hZo : Z.all AV.one = true := by rw [hZ, hW]; rfl
  have hm0 : ∀ row : List AV, row.length = 37 -> setMany row 0 X = X := fun row h => setMany_full (by omega)
  have hmZ : ∀ row : List AV, row.length = 37 -> setMany row 0 Z = Z := fun row h => setMany_full (by omega)
  rw [<- hX]
  rw [<- hX] at hcall
  refine sim_go Tryz.func19 rfl rfl (Nat.le_of_ble_eq_true rfl) fun hH => ?_
  have hfi := fun nm' G hG => find_at (k := x.b) hH h nm' G hG
  rw [findV_some hx hd] at hfi hcall
  have hop : ∀ nm' G, Agr nm H G -> stS [.ptr S.s 0, .ptr x.w 0] (fun H => SrvIs H S L) (fun _ => vb (decide (i < S.saf))) (fun _ H => H) [.ptr S.s 0, .ptr x.w 0] nm' G = some (vb (decide (i < S.saf)), G) := fun nm' G hG => stS_at (h.mono fun k row hk => hG.row hH hk)
  have hsu : ∀ nm' G, Agr nm H G -> stS [.ptr S.s 0, .ptr x.w 0] (fun H => SrvIs H S L) (fun _ => .agg [.im true 1 X, vnil]) (fun _ H => H) [.ptr S.s 0, .ptr x.w 0] nm' G = some (.agg [.im true 1 X, vnil], G) := fun nm' G hG => stS_at (h.mono fun k row hk => hG.row hH hk)
  (repeat refine AWP.seq ?_)
  refine AWP.region_last hcall rfl fun K hK => ?_
  simp
  apply hK; clear hK K; simp only [onNormal, onExit]
  (repeat refine AWP.seq ?_)
  refine AWP.region_last hcall rfl fun K hK => ?_
  simp (maxDischargeDepth := 20) [hfi, Agr.refl, Agr.upd]
  apply hK; clear hK K; simp only [onNormal, onExit]
  have hag : Agr nm H (upd (upd H (0 :: nm) (some [vi 0, vi (x.b : Int)])) (1 :: nm) (some zeroSt)) := .upd (.upd (.refl _ _))
  obtain ⟨G, hG⟩ : ∃ G, G = upd (upd H (0 :: nm) (some [vi 0, vi (x.b : Int)])) (1 :: nm) (some zeroSt) := ⟨_, rfl⟩
  have hG' : upd (upd H (0 :: nm) (some [vi 0, vi (x.b : Int)])) (1 :: nm) (some (AV.val (Value.int IntKind.i64 0) :: AV.val (Value.int IntKind.i64 0) :: AV.val (Value.string ByteArray.empty) :: AV.val (Value.slice none 0 0) :: AV.val (Value.int IntKind.i64 0) :: bz 32)) = G := hG.symm
  rw [hG']
  rw [<- hG] at hag
  have hopG := fun nm' => hop nm' G hag
  rw [decide_eq_true hi] at hopG hcall
  have g1 : G (1 :: nm) = some zeroSt := by rw [hG, upd_same]
  have gw : G x.w = some W := hag.row hH hw
  have hn : ∀ y, ¬ x.w = y :: nm := fun y e => by have := hH [y]; rw [List.singleton_append, <- e, hw] at this; cases this
  have hzl : zeroSt.length = 37 := by simp [zeroSt, bz]
  have hz1 : AV.val (Value.int IntKind.i64 0) :: AV.val (Value.int IntKind.i64 0) :: AV.val (Value.string ByteArray.empty) :: AV.val (Value.slice none 0 0) :: AV.val (Value.int IntKind.i64 0) :: bz 32 = zeroSt := rfl
  (repeat refine AWP.seq ?_)
  refine AWP.region_ops hcall rfl fun ops' hops K hK => ?_
  have o_0 := op_at hops 0 rfl
  have o_1 := op_at hops 1 rfl
  have o_2 := op_at hops 2 rfl
  have o_3 := op_at hops 3 rfl
  have o_4 := op_at hops 4 rfl
  have o_5 := op_at hops 5 rfl
  have o_6 := op_at hops 6 rfl
  have o_7 := op_at hops 7 rfl
  have o_sz : ops'.size = 8 := op_sz hops rfl
  clear hops
  rw [o_sz]
  change Ran K _ (runList _ _ ops' _ _ [0, 1, 2, 3, 4, 5, 6, 7] _ _)
  first | (refine run_ex (d := (some 12)) o_0 rfl ?_ ?_; · (simp [o_0, o_1, o_2, o_3, o_4, o_5, o_6, o_7, hopG]; done)) | (refine run_skip (d := (some 12)) o_0 rfl ?_ ?_; · (simp [o_0, o_1, o_2, o_3, o_4, o_5, o_6, o_7, hopG]; done))
  try refine ⟨_, by simp [hopG]; try rfl, ?_⟩
  first | (refine run_ex (d := (some 13)) o_1 rfl ?_ ?_; · (simp [o_0, o_1, o_2, o_3, o_4, o_5, o_6, o_7, hopG]; done)) | (refine run_skip (d := (some 13)) o_1 rfl ?_ ?_; · (simp [o_0, o_1, o_2, o_3, o_4, o_5, o_6, o_7, hopG]; done))
  try refine ⟨_, by simp [hopG]; try rfl, ?_⟩
  first | (refine run_ex (d := (some 14)) o_2 rfl ?_ ?_; · (simp [o_0, o_1, o_2, o_3, o_4, o_5, o_6, o_7, hopG]; done)) | (refine run_skip (d := (some 14)) o_2 rfl ?_ ?_; · (simp [o_0, o_1, o_2, o_3, o_4, o_5, o_6, o_7, hopG]; done))
  try refine ⟨_, by simp [hopG]; try rfl, ?_⟩
  first | (refine run_ex (d := (some 15)) o_3 rfl ?_ ?_; · (simp [o_0, o_1, o_2, o_3, o_4, o_5, o_6, o_7, hopG]; done)) | (refine run_skip (d := (some 15)) o_3 rfl ?_ ?_; · (simp [o_0, o_1, o_2, o_3, o_4, o_5, o_6, o_7, hopG]; done))
  try refine ⟨_, by simp [hopG]; try rfl, ?_⟩
  first | (refine run_ex (d := (some 16)) o_4 rfl ?_ ?_; · (simp [o_0, o_1, o_2, o_3, o_4, o_5, o_6, o_7, hopG]; done)) | (refine run_skip (d := (some 16)) o_4 rfl ?_ ?_; · (simp [o_0, o_1, o_2, o_3, o_4, o_5, o_6, o_7, hopG]; done))
  try refine ⟨_, by simp [hopG]; try rfl, ?_⟩
  first | (refine run_ex (d := (some 17)) o_5 rfl ?_ ?_; · (simp [o_0, o_1, o_2, o_3, o_4, o_5, o_6, o_7, hopG]; done)) | (refine run_skip (d := (some 17)) o_5 rfl ?_ ?_; · (simp [o_0, o_1, o_2, o_3, o_4, o_5, o_6, o_7, hopG]; done))
  try refine ⟨_, by simp [hopG]; try rfl, ?_⟩
  first | (refine run_ex (d := (some 18)) o_6 rfl ?_ ?_; · (simp [o_0, o_1, o_2, o_3, o_4, o_5, o_6, o_7, hopG]; done)) | (refine run_skip (d := (some 18)) o_6 rfl ?_ ?_; · (simp [o_0, o_1, o_2, o_3, o_4, o_5, o_6, o_7, hopG]; done))
  try refine ⟨_, by simp [hopG]; try rfl, ?_⟩
  first | (refine run_ex (d := (some 19)) o_7 rfl ?_ ?_; · (simp [o_0, o_1, o_2, o_3, o_4, o_5, o_6, o_7, hopG]; done)) | (refine run_skip (d := (some 19)) o_7 rfl ?_ ?_; · (simp [o_0, o_1, o_2, o_3, o_4, o_5, o_6, o_7, hopG]; done))
  try refine ⟨_, by simp [hopG]; try rfl, ?_⟩
  refine run_end ?_
  apply hK; clear hK K o_0 o_1 o_2 o_3 o_4 o_5 o_6 o_7 o_sz; simp only [onNormal, onExit, tput]
  (repeat refine AWP.seq ?_); refine AWP.cond (b := false) (by simp) ?_; simp only [if_true, if_false, Bool.false_eq_true]
  refine AWP.skip ?_; simp only [onNormal, onExit]
  (repeat refine AWP.seq ?_)
  refine AWP.region_last hcall rfl fun K hK => ?_
  simp [gw, hl, <- hZ, hz1, hzl, hZl, hmZ, -List.all_eq_true, hZo]
  apply hK; clear hK K; simp only [onNormal, onExit]
  have hag2 : Agr nm H (upd (upd G (20 :: nm) (some zeroSt)) (20 :: nm) (some Z)) := .upd (.upd hag)
  obtain ⟨G2, hG2⟩ : ∃ G2, G2 = upd (upd G (20 :: nm) (some zeroSt)) (20 :: nm) (some Z) := ⟨_, rfl⟩
  have g20 : G2 (20 :: nm) = some Z := by rw [hG2, upd_same]
  have g21 : G2 (1 :: nm) = some zeroSt := by rw [hG2, upd_ne _ _ (by simp), upd_ne _ _ (by simp)]; exact g1
  rw [<- hG2] at hag2 ⊢
  have gw2 : G2 x.w = some W := hag2.row hH hw
  have hsu2 := fun nm' => hsu nm' G2 hag2
  (repeat refine AWP.seq ?_)
  refine AWP.region_last hcall rfl fun K hK => ?_
  simp [gw2, e4, e4', hl]
  apply hK; clear hK K; simp only [onNormal, onExit]
  (repeat refine AWP.seq ?_); refine AWP.cond (b := true) (by simp) ?_; simp only [if_true, if_false, Bool.false_eq_true]
  (repeat refine AWP.seq ?_)
  refine AWP.region_last hcall rfl fun K hK => ?_
  simp [hsu2]
  apply hK; clear hK K; simp only [onNormal, onExit]
  (repeat refine AWP.seq ?_)
  refine AWP.region_last hcall rfl fun K hK => ?_
  simp [g20, hXl, hXt, hZl, hm0, -List.all_eq_true, hXo]
  apply hK; clear hK K; simp only [onNormal, onExit]
  (repeat refine AWP.seq ?_)
  refine AWP.region_last hcall rfl fun K hK => ?_
  simp [hX3, hX3', hXl, hcl, hXs]
  apply hK; clear hK K; simp only [onNormal, onExit]
  (repeat refine AWP.seq ?_)
  refine AWP.region_last hcall rfl fun K hK => ?_
  simp [hXl, hXt, g21, hzl, hm0, -List.all_eq_true, hXo]
  apply hK; clear hK K; simp only [onNormal, onExit]
  (try refine AWP.ret ?_); (try simp only [onNormal, onExit])
  refine ⟨by simp, ⟨_, by simp [ares, Tryz.results19, hXl, hXt]; rfl, by simp [ares1]⟩, fun k row hk => ?_⟩
  have hkn : ∀ y, ¬ k = y :: nm := fun y e => by have := hH [y]; rw [List.singleton_append, <- e, hk] at this; cases this
  simp [upd, hkn, hag2.row hH hk]
end Go.Proofs.YtjinjfblilacaaaGreat.Den
end
section
set_option linter.unusedSimpArgs false
set_option linter.unusedVariables false
set_option maxRecDepth 100000
namespace Go.Proofs.YtjinjfblilacaaaGreat.Den
open Go.RowKit FI
attribute [local simp] runList aop abuiltin acall awanted ayielded env T0 tput tset Ran aload astore setMany upd binV aslice aindexAddr apart aindex alen acopy srcCells natOf boundOf aeq AV.nilEq convV appK fillA List.range List.range.loop onF isU8 rowOf
theorem rowOf_len (z : List AV) : ∀ n, (rowOf z n).length = n * z.length
  | 0 => by simp [rowOf]
  | n + 1 => by rw [rowOf, List.length_append, rowOf_len z n, Nat.add_mul, Nat.one_mul, Nat.add_comm]
def wavesN (nm : Name) : Name := 6 :: nm
set_option maxHeartbeats 1000000 in
theorem waves_sim {H : AHeap} {S : SrvD} {L : List WvD} (nm : Name) (h : SrvIs H S L) (hL : L.length <= 8) : Sim Tryz.prog 21 [.ptr S.s 0] nm H (.sl (wavesN nm) 0 L.length 2) H := by
  have hcall := @noCall_ok Tryz.prog
  have hs := h.hs
  have hal : alen Tryz.prog 140 S.v = some (vi (L.length : Nat)) := by
    rcases h.hv with ⟨h, h0⟩ | ⟨n, hv, _⟩
    · rw [h, h0]; rfl
    · rw [hv]; rfl
  obtain ⟨N, hN⟩ : ∃ N, N = L.length := ⟨_, rfl⟩
  rw [<- hN] at hal hL
  have hN1 : N <= 281474976710656 := by omega
  have hN2 : 16 * N <= 281474976710656 := by omega
  refine sim_go Tryz.func21 rfl rfl (Nat.le_of_ble_eq_true rfl) fun hH => ?_
  have hnu : ∀ k row, H k = some row -> ∀ x, ¬ k = x :: nm := fun k row hk x e => by have := hH [x]; rw [List.singleton_append, <- e, hk] at this; cases this
  have hsn := hnu _ _ hs
  (repeat refine AWP.seq ?_)
  refine AWP.region_last hcall rfl fun K hK => ?_
  simp
  apply hK; clear hK K; simp only [onNormal, onExit]
  (repeat refine AWP.seq ?_)
  refine AWP.region_last hcall rfl fun K hK => ?_
  simp [-alen, -rowOf, hs, hal, hN1, hN2]
  apply hK; clear hK K; simp only [onNormal, onExit]
  (repeat refine AWP.seq ?_)
  refine AWP.region_last hcall rfl fun K hK => ?_
  simp [-alen, -rowOf, hs, hal, hsn]
  apply hK; clear hK K; simp only [onNormal, onExit]
  (repeat refine AWP.seq ?_); refine AWP.block ?_
  refine AWP.loop (fun m c' T H' => ∃ j : Nat, j <= N /\ m = N - j /\ T 3 = .sl (6 :: nm) 0 N 2 /\ T 15 = S.v /\ T 16 = vi (N : Nat) /\ T 17 = vi j /\ (∃ row, H' (6 :: nm) = some row /\ row.length = N * 2) /\ ∀ k row, H k = some row -> H' k = some row) N ⟨0, by omega, rfl, by simp, by simp, by simp, by simp, ⟨_, upd_same _ _ _, by rw [rowOf_len]; rfl⟩, fun k row hk => by rw [upd_ne _ _ (hnu k row hk 6)]; exact hk⟩ ?_
  rintro m c' T H' ⟨j, hj, rfl, t3, t15, t16, t17, ⟨row, hrow, hrl⟩, hall⟩
  by_cases hlt : j < N
  · have hlt' : (j : Int) < (N : Int) := by omega
    have hwj : IntKind.i64.wrap ((j : Int) + 1) = ((j + 1 : Nat) : Int) := by rw [IntKind.wrap_i64]; omega
    obtain ⟨x, hx⟩ : ∃ x, L[j]? = some x := ⟨_, List.getElem?_eq_getElem (by omega)⟩
    obtain ⟨n, hvn, hn⟩ : ∃ n, S.v = .sl n 0 N 1 /\ H n = some (L.map fun x => .ptr x.w 0) := by
      rcases h.hv with ⟨_, h⟩ | ⟨n, h1, h2⟩
      · rw [h] at hN; simp at hN; omega
      · exact ⟨n, by rw [h1, hN], h2⟩
    have hnb := hall _ _ hn
    obtain ⟨R, hR⟩ : ∃ R, R = L.map fun x => AV.ptr x.w 0 := ⟨_, rfl⟩
    have hRj : R[j]? = some (.ptr x.w 0) := by rw [hR, List.getElem?_map, hx]; rfl
    have hRj' : ∀ h : j < R.length, R[j] = .ptr x.w 0 := fun h => (List.getElem?_eq_some_iff.1 hRj).2
    have hRl : j < R.length := (List.getElem?_eq_some_iff.1 hRj).1
    rw [<- hR] at hnb
    have hxb := hall _ _ (h.hw j x hx).1
    obtain ⟨W, hW⟩ : ∃ W, W = waveA 0 x.b 0 x.d (.sl x.r 0 1 1) := ⟨_, rfl⟩
    have hWl : W.length = 59 := by rw [hW]; exact waveA_id _ _ _ _ _
    have htk : W.take 2 = [vi 0, vi (x.b : Int)] := by rw [hW]; rfl
    rw [<- hW] at hxb
    have hfit : j * 2 + 2 <= N * 2 := by omega
    (repeat refine AWP.seq ?_)
    refine AWP.region_last hcall rfl fun K hK => ?_
    simp [t16, t17, hlt']
    apply hK; clear hK K; simp only [onNormal, onExit]
    (repeat refine AWP.seq ?_); refine AWP.cond (b := true) (by simp [hlt']) ?_; simp only [if_true, if_false, Bool.false_eq_true]
    refine AWP.skip ?_; simp only [onNormal, onExit]
    (repeat refine AWP.seq ?_); refine AWP.block ?_
    (repeat refine AWP.seq ?_)
    refine AWP.region_last hcall rfl fun K hK => ?_
    simp [t15, t17, hvn, hlt, hnb, hRj, hRj', hRl]
    apply hK; clear hK K; simp only [onNormal, onExit]
    (repeat refine AWP.seq ?_)
    refine AWP.region_last hcall rfl fun K hK => ?_
    simp [t3, hxb, hWl, htk, hlt, hrow, hrl, hfit]
    apply hK; clear hK K; simp only [onNormal, onExit]
    (repeat refine AWP.seq ?_)
    refine AWP.region_last hcall rfl fun K hK => ?_
    simp [t17, hwj]
    apply hK; clear hK K; simp only [onNormal, onExit]
    refine ⟨N - (j + 1), by omega, j + 1, by omega, rfl, by simp [t3], by simp [t15], by simp [t16], by simp, ⟨_, upd_same _ _ _, by simp [hrl]⟩, fun k row hk => by rw [upd_ne _ _ (hnu k row hk 6)]; exact hall k row hk⟩
  · obtain rfl : j = N := by omega
    have hlt' : ¬ (j : Int) < (j : Int) := by omega
    (repeat refine AWP.seq ?_)
    refine AWP.region_last hcall rfl fun K hK => ?_
    simp [t16, t17]
    apply hK; clear hK K; simp only [onNormal, onExit]
    (repeat refine AWP.seq ?_); refine AWP.cond (b := false) (by simp) ?_; simp only [if_true, if_false, Bool.false_eq_true]
    refine AWP.exit ?_; simp only [onNormal, onExit, if_true, reduceCtorEq, if_false]
    (repeat refine AWP.seq ?_)
    refine AWP.region_last hcall rfl fun K hK => ?_
    simp [t3]
    apply hK; clear hK K; simp only [onNormal, onExit]
    rw [<- hN]
    (try refine AWP.ret ?_); (try simp only [onNormal, onExit]); refine ⟨by simp, ⟨_, rfl, by simp [ares1, t3, wavesN]⟩, fun k row hk => ?_⟩
    exact hall k row hk
end Go.Proofs.YtjinjfblilacaaaGreat.Den
end
section
set_option linter.unusedSimpArgs false
set_option linter.unusedVariables false
set_option maxRecDepth 1000000
namespace Go.Proofs.YtjinjfblilacaaaGreat.Den
open Go.RowKit
open Classical in
noncomputable def underH (nm : Name) (H : AHeap) : AHeap := fun k => if Under nm k then H k else none
theorem underH_get {nm k : Name} {H : AHeap} {row : List AV} (h : H k = some row) (hu : Under nm k) : underH nm H k = some row := by
  unfold underH
  rw [if_pos hu, h]
section
variable {ρ : Vals} {ν : Nat -> Option Name} {h : Mem} {H : AHeap}
/-- The rows known, in a memory. -/
def RowsIn (ρ : Vals) (ν : Nat -> Option Name) (h : Mem) (H : AHeap) : Prop := ∀ (k : Nat) (srow : List SV) (q : Name), h.get k = some srow -> ν k = some q -> ∃ row, H q = some row /\ SRels ρ ν srow row
theorem ptr_in {k off : Nat} {z : AV} (h : SRel ρ ν (.ptr k off) z) : ∃ m, z = .ptr m off /\ ν k = some m := by
  cases h with | ptr hm => exact ⟨_, rfl, hm⟩
theorem nI_in {n : Nat} {z : AV} (h : SRel ρ ν (nI n) z) : z = vi (n : Int) := by
  change SRel ρ ν (.int .i64 (.lit (.ofNat n))) z at h
  cases h; rfl
end
noncomputable def bgMem : Mem := zmem bg0.next' bg0.rows'
theorem bg_0 : bgMem.get 0 = some [.ptr 2 0, .ptr 28 0, .ptr 3 0, .ptr 29 0, .ptr 15 0, .ptr 41 0, .ptr 26 0, .ptr 52 0, sN, sN, nI 0, nI 0] := by kernel_rfl
theorem bg_1 : bgMem.get 1 = some (zrow [] 40000) := by kernel_rfl
theorem bg_2 : bgMem.get 2 = some [.sl 1 0 40000 1, .val (.complex .f64 0 0), nI 0, .bool false] := by kernel_rfl
theorem bg_11 : bgMem.get 11 = some [.ptr 2 0, nI 0, nI 0] := by kernel_rfl
theorem bg_15 : bgMem.get 15 = some [nI 0, .sl 12 0 2 1, .sl 13 0 2 1, .sl 14 0 2 1, .ptr 11 0, sN, sN, sN] := by kernel_rfl
theorem bg_r : bg0.r = .ptr 0 0 := by kernel_rfl
/-- Domain 0's server, at its beginning, in a pair. -/
structure BegIs (H : AHeap) (q : Name) (S : SrvD) : Prop where
  row : ∃ row, H q = some row /\ row[4]? = some (.ptr S.s 0)
  srv : SrvIs H S []
  num : S.N = 40000 /\ S.at' = 0 /\ S.saf = 0 /\ S.v = vnil
  q1 : q ≠ S.s /\ q ≠ S.l /\ q ≠ S.d /\ q ≠ S.b
theorem cZ_len : ∀ n, (cZ n []).length = n
  | 0 => rfl
  | n + 1 => by show (zb :: cZ n []).length = n + 1; rw [List.length_cons, cZ_len n]
theorem z_len : (zrow [] 40000).length = 40000 := by
  rw [zrow_eq]
  show (cZ 40000 []).length = 40000
  exact cZ_len 40000
theorem bg_ex (nm : Name) : ∃ (q : Name) (S : SrvD) (H₁ : AHeap), Sim Tryz.prog 16 [vi 40000] nm (fun _ => none) (.ptr q 0) H₁ /\ BegIs (underH nm H₁) q S := by
  obtain ⟨z, H₁, hs, ν', _, hn, hm, hr⟩ := (begin_holds rhoB).2 (fun _ => none) (fun _ => none) nm [vi 40000] ⟨fun n row hn => (by rw [show (zmem bg0.next bg0.rows).get n = none from nil_get n] at hn; cases hn), fun n k m hn => (by cases hn), fun n hn => absurd rfl hn⟩ (fun n s hn => (by cases hn)) (.cons (.int _ _) .nil)
  have R : RowsIn rhoB ν' bgMem (underH nm H₁) := by
    intro k srow q hk hq
    obtain ⟨m, row, h1, h2, h3⟩ := hm.rows k srow hk
    rw [hq] at h1
    cases h1
    refine ⟨row, underH_get h2 ?_, h3⟩
    rcases hn _ _ hq with h | h
    · cases h
    · exact h
  have ne : ∀ {a b : Nat} {x y : Name}, ν' a = some x -> ν' b = some y -> a ≠ b -> x ≠ y := fun ha hb hab e => by
    subst e; exact hab (hm.inj _ _ _ ha hb)
  rw [bg_r] at hr
  obtain ⟨q, rfl, hq⟩ := ptr_in hr
  obtain ⟨r0, h0, s0⟩ := R _ _ _ bg_0 hq
  rcases s0 with _ | ⟨_, s0⟩
  rcases s0 with _ | ⟨_, s0⟩
  rcases s0 with _ | ⟨_, s0⟩
  rcases s0 with _ | ⟨_, s0⟩
  rcases s0 with _ | ⟨a4, s0⟩
  obtain ⟨ms, rfl, hms⟩ := ptr_in a4
  obtain ⟨r15, h15, s1⟩ := R _ _ _ bg_15 hms
  rcases s1 with _ | ⟨b0, s1⟩
  rcases s1 with _ | ⟨b1, s1⟩
  rcases s1 with _ | ⟨b2, s1⟩
  rcases s1 with _ | ⟨b3, s1⟩
  rcases s1 with _ | ⟨b4, s1⟩
  rcases s1 with _ | ⟨b5, s1⟩
  rcases s1 with _ | ⟨b6, s1⟩
  rcases s1 with _ | ⟨b7, s1⟩
  cases s1
  obtain rfl := nI_in b0
  obtain ⟨ml, rfl, hml⟩ := ptr_in b4
  have hv : ∀ {z}, SRel rhoB ν' sN z -> z = vnil := fun h => by cases h; rfl
  obtain rfl := hv b5
  obtain ⟨r11, h11, s2⟩ := R _ _ _ bg_11 hml
  rcases s2 with _ | ⟨c0, s2⟩
  rcases s2 with _ | ⟨c1, s2⟩
  rcases s2 with _ | ⟨c2, s2⟩
  cases s2
  obtain ⟨md, rfl, hmd⟩ := ptr_in c0
  obtain rfl := nI_in c1
  obtain rfl := nI_in c2
  obtain ⟨r2, h2, s3⟩ := R _ _ _ bg_2 hmd
  rcases s3 with _ | ⟨d0, s3⟩
  rcases s3 with _ | ⟨d1, s3⟩
  rcases s3 with _ | ⟨d2, s3⟩
  rcases s3 with _ | ⟨d3, s3⟩
  cases s3
  obtain rfl := nI_in d2
  cases d0 with | sl hmb =>
  rename_i mb
  cases d1
  cases d3
  obtain ⟨r1, h1, s4⟩ := R _ _ _ bg_1 hmb
  have hl1 : r1.length = 40000 := by rw [<- s4.length, z_len]
  refine ⟨q, ⟨ms, ml, md, mb, vnil, _, _, _, _, _, r1, 40000, 0, 0, 0, 0⟩, H₁, hs, ⟨⟨_, h0, rfl⟩, ⟨h15, h11, ?_, h1, hl1, .inl ⟨rfl, rfl⟩, fun i x hx => (by cases hx), ne hms hml (by decide), ne hms hmd (by decide), ne hms hmb (by decide), ne hml hmd (by decide), ne hml hmb (by decide), ne hmd hmb (by decide), by show (40000 : Nat) <= 65536; decide, by show (0 : Nat) <= 0 /\ 0 <= 40000; decide, rfl, fun m o le z hv => (by cases hv), fun i x hx => (by cases hx)⟩, ⟨rfl, rfl, rfl, rfl⟩, ⟨ne hq hms (by decide), ne hq hml (by decide), ne hq hmd (by decide), ne hq hmb (by decide)⟩⟩⟩
  have : cx 0 0 = .val (.complex .f64 0 0) := by show AV.val (.complex .f64 (FI.F 0) (FI.F 0)) = _; rw [F_zero]
  show underH nm H₁ md = some [_, cx 0 0, _, _]
  rw [this]
  exact h2
noncomputable def bgQ (nm : Name) : Name := (bg_ex nm).choose
noncomputable def bgS (nm : Name) : SrvD := (bg_ex nm).choose_spec.choose
noncomputable def bgH (nm : Name) : AHeap := (bg_ex nm).choose_spec.choose_spec.choose
theorem bg_spec (nm : Name) : Sim Tryz.prog 16 [vi 40000] nm (fun _ => none) (.ptr (bgQ nm) 0) (bgH nm) /\ BegIs (underH nm (bgH nm)) (bgQ nm) (bgS nm) := (bg_ex nm).choose_spec.choose_spec.choose_spec
noncomputable def bgL (nm : Name) (H : AHeap) : AHeap := leftH nm (fun _ => False) H (bgH nm)
open Classical in
noncomputable def beginS : Spec := fun args nm H => if args = [vi 40000] then some (.ptr (bgQ nm) 0, bgL nm H) else none
theorem begin_fn : FnOK Tryz.prog 16 beginS := by
  refine ⟨(begin_holds rhoB).1, fun args nm H r H' h => ?_⟩
  unfold beginS at h
  split at h
  · rename_i hc
    subst hc
    cases h
    have hg0 : givenH (fun _ => False) H = fun _ => none := by
      funext k
      unfold givenH
      rw [if_neg (fun h => h)]
    exact Sim.frame (D := fun _ => False) (H := H) (by rw [hg0]; exact (bg_spec nm).1)
  · cases h
theorem begin_at (nm : Name) (H : AHeap) : beginS [vi 40000] nm H = some (.ptr (bgQ nm) 0, bgL nm H) := if_pos rfl
theorem bg_under {nm : Name} {H : AHeap} (k : Name) (r : List AV) (h : underH nm (bgH nm) k = some r) : bgL nm H k = some r := by
  unfold underH at h
  split at h
  · rename_i hu
    unfold bgL leftH
    rw [if_pos (.inl hu), h]
  · cases h
theorem bg_beg (nm : Name) (H : AHeap) : BegIs (bgL nm H) (bgQ nm) (bgS nm) :=
  let h := (bg_spec nm).2
  ⟨let ⟨row, h1, h2⟩ := h.row; ⟨row, bg_under _ _ h1, h2⟩, h.srv.mono bg_under, h.num, h.q1⟩
end Go.Proofs.YtjinjfblilacaaaGreat.Den
end
