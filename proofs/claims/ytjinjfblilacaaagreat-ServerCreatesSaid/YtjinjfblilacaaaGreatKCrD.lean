/- Package server: Create, Sync. -/
import Derived.Test.YtjinjfblilacaaaGreatKEqP
import Derived.Test.YtjinjfblilacaaaGreatKBgA
import Derived.Test.YtjinjfblilacaaaGreatKLrA
set_option linter.unusedVariables false
set_option linter.unusedSimpArgs false
section
set_option linter.unusedSimpArgs false
set_option linter.unusedVariables false
set_option maxRecDepth 100000
namespace Go.Proofs.YtjinjfblilacaaaGreat.Den
open Go.RowKit FI
attribute [local simp] runList aop abuiltin acall awanted ayielded env T0 tput tset Ran aload astore setMany upd binV aslice aindexAddr apart aindex alen acopy srcCells natOf boundOf aeq AV.nilEq convV appK fillA List.range List.range.loop onF isU8 rowOf
/-- A server of domain 0 over a log over a disk; its waves. -/
structure SrvD where
  s : Name
  l : Name
  d : Name
  b : Name
  v : AV
  x1 : AV
  x2 : AV
  x3 : AV
  x6 : AV
  x7 : AV
  row : List AV
  N : Nat
  sy : Nat
  at' : Nat
  cnt : Nat
  saf : Nat
structure SrvIs (H : AHeap) (S : SrvD) (L : List WvD) : Prop where
  hs : H S.s = some [vi 0, S.x1, S.x2, S.x3, .ptr S.l 0, S.v, S.x6, S.x7]
  hl : H S.l = some [.ptr S.d 0, vi (S.cnt : Int), vi (S.saf : Int)]
  hd : H S.d = some [.sl S.b 0 S.N 1, cx S.sy S.at', vi 0, vb false]
  hb : H S.b = some S.row
  hN : S.row.length = S.N
  hv : WavesIs H S.v L
  hw : ∀ (i : Nat) (x : WvD), L[i]? = some x -> WvIs H x i
  n1 : S.s ≠ S.l
  n2 : S.s ≠ S.d
  n3 : S.s ≠ S.b
  n4 : S.l ≠ S.d
  n5 : S.l ≠ S.b
  n6 : S.d ≠ S.b
  big : S.N <= 65536
  sm : S.sy <= S.at' /\ S.at' <= S.N
  hc : S.cnt = L.length
  nv : ∀ m o le z, S.v = .sl m o le z -> m ≠ S.s /\ m ≠ S.l /\ m ≠ S.d /\ m ≠ S.b
  nw : ∀ (i : Nat) (x : WvD), L[i]? = some x -> (x.w ≠ S.s /\ x.w ≠ S.l /\ x.w ≠ S.d /\ x.w ≠ S.b) /\ (x.r ≠ S.s /\ x.r ≠ S.l /\ x.r ≠ S.d /\ x.r ≠ S.b) /\ ∀ m o le z, S.v = .sl m o le z -> m ≠ x.w /\ m ≠ x.r
/-- The same, but for names of ours. -/
def Agr (nm : Name) (H G : AHeap) : Prop := ∀ k, ¬ Under nm k -> G k = H k
theorem Agr.refl (nm : Name) (H : AHeap) : Agr nm H H := fun _ _ => rfl
theorem Agr.upd {nm : Name} {H G : AHeap} {j : Nat} {x : Option (List AV)} (h : Agr nm H G) : Agr nm H (upd G (j :: nm) x) := fun k hk => by
  rw [upd_ne]
  · exact h k hk
  · rintro rfl; exact hk ⟨[j], rfl⟩
theorem Agr.row {nm : Name} {H G : AHeap} (hf : ∀ s, H (s ++ nm) = none) (h : Agr nm H G) {k : Name} {row : List AV} (hk : H k = some row) : G k = some row := by
  rw [h k, hk]
  rintro ⟨s, rfl⟩
  rw [hf] at hk; cases hk
theorem WavesIs.mono {H G : AHeap} (h : ∀ k row, H k = some row -> G k = some row) {v : AV} {L : List WvD} : WavesIs H v L -> WavesIs G v L
  | .inl h => .inl h
  | .inr ⟨n, h1, h2⟩ => .inr ⟨n, h1, h _ _ h2⟩
theorem SrvIs.mono {H G : AHeap} (h : ∀ k row, H k = some row -> G k = some row) {S : SrvD} {L : List WvD} (hS : SrvIs H S L) : SrvIs G S L :=
  { hS with hs := h _ _ hS.hs, hl := h _ _ hS.hl, hd := h _ _ hS.hd, hb := h _ _ hS.hb, hv := hS.hv.mono h, hw := fun i x hx => ⟨h _ _ (hS.hw i x hx).1, h _ _ (hS.hw i x hx).2⟩ }
theorem findV_none {L : List WvD} {n : Nat} (hx : ¬ ∃ x ∈ L, x.b = n) : findV L n = .val (.pointer none) := by
  have : L.find? (fun y => decide (y.b = n)) = none := List.find?_eq_none.2 fun y hy => by simpa using fun e => hx ⟨y, hy, e⟩
  simp only [findV, this]
/-- All that a call of Create asks. -/
theorem find_fn {S : SrvD} {L : List WvD} {k : Nat} (hL : L.length <= 8) : FnOK Tryz.prog 66 (stS [.ptr S.s 0, .agg [vi 0, vi (k : Int)]] (fun H => SrvIs H S L) (fun _ => findV L k) (fun _ H => H)) :=
  stS_ok (by kernel_rfl) fun nm H h => find_sim nm H h.hs rfl h.hv hL fun i x hx => ⟨_, (h.hw i x hx).1⟩
theorem find_at {nm : Name} {H : AHeap} (hf : ∀ s, H (s ++ nm) = none) {S : SrvD} {L : List WvD} {k : Nat} (h : SrvIs H S L) (nm' : Name) (G : AHeap) (hG : Agr nm H G) : stS [.ptr S.s 0, .agg [vi 0, vi (k : Int)]] (fun H => SrvIs H S L) (fun _ => findV L k) (fun _ H => H) [.ptr S.s 0, .agg [vi 0, vi (k : Int)]] nm' G = some (findV L k, G) :=
  stS_at (h.mono fun k row hk => hG.row hf hk)
set_option maxHeartbeats 1000000 in
/-- A number that is too great. -/
theorem create_far {S : SrvD} {L : List WvD} {n a b : Int} (nm : Name) (H : AHeap) (h : SrvIs H S L) (h9 : 99 < n) : Sim Tryz.prog 18 [.ptr S.s 0, vi n, .agg [vi a, vi b]] nm H (.tup [.agg [vi 0, vi 0], vi 1]) H := by
  have hs := h.hs
  have hcall := @noCall_ok Tryz.prog
  have hn0 : ¬ n < 0 := by omega
  refine sim_go Tryz.func18 rfl rfl (Nat.le_of_ble_eq_true rfl) fun hH => ?_
  (repeat refine AWP.seq ?_)
  refine AWP.region_last hcall rfl fun K hK => ?_
  simp
  apply hK; clear hK K; simp only [onNormal, onExit]
  have hsn : ∀ x, ¬ S.s = x :: nm := fun x e => by have := hH [x]; rw [List.singleton_append, <- e, hs] at this; cases this
  (repeat refine AWP.seq ?_)
  refine AWP.region_last hcall rfl fun K hK => ?_
  simp [hs, hsn]
  apply hK; clear hK K; simp only [onNormal, onExit]
  (repeat refine AWP.seq ?_); refine AWP.block ?_
  (repeat refine AWP.seq ?_)
  refine AWP.draw_ops rfl hcall [0, 1, 3, 7, 15, 31, 63, 127, 127, 383, 895, 1919, 4095, 8191, 16383, 32767] [⟨0, false, []⟩, ⟨1, false, []⟩, ⟨2, false, []⟩, ⟨3, false, []⟩, ⟨4, false, []⟩, ⟨5, false, []⟩, ⟨6, false, []⟩, ⟨7, false, [0]⟩, ⟨8, false, []⟩, ⟨9, false, []⟩, ⟨10, false, []⟩, ⟨11, false, [0]⟩, ⟨12, true, []⟩, ⟨13, false, []⟩, ⟨14, false, []⟩, ⟨15, false, []⟩] rfl (by kernel_rfl) fun ops' hops K hK => ?_
  have o_0 := op_at hops 0 rfl
  have o_1 := op_at hops 1 rfl
  have o_2 := op_at hops 2 rfl
  have o_3 := op_at hops 3 rfl
  have o_4 := op_at hops 4 rfl
  have o_5 := op_at hops 5 rfl
  have o_6 := op_at hops 6 rfl
  have o_7 := op_at hops 7 rfl
  have o_8 := op_at hops 8 rfl
  have o_9 := op_at hops 9 rfl
  have o_10 := op_at hops 10 rfl
  have o_11 := op_at hops 11 rfl
  have o_12 := op_at hops 12 rfl
  have o_13 := op_at hops 13 rfl
  have o_14 := op_at hops 14 rfl
  have o_15 := op_at hops 15 rfl
  have o_sz : ops'.size = 16 := op_sz hops rfl
  clear hops
  first | (refine planW_ex (d := (some 18)) o_0 rfl rfl ?_) | (refine planW_go (d := (some 18)) o_0 rfl ?_ ?_; · (simp [o_0, o_1, o_2, o_3, o_4, o_5, o_6, o_7, o_8, o_9, o_10, o_11, o_12, o_13, o_14, o_15, List.lookup, hn0, h9, hs, hsn]; done)) | (refine planW_skip (d := (some 18)) o_0 rfl ?_ ?_; · (simp [o_0, o_1, o_2, o_3, o_4, o_5, o_6, o_7, o_8, o_9, o_10, o_11, o_12, o_13, o_14, o_15, List.lookup, hn0, h9, hs, hsn]; done))
  try refine ⟨_, by simp [List.lookup, hn0, h9, hs, hsn]; try rfl, trivial, ?_⟩
  first | (refine planW_ex (d := (some 19)) o_1 rfl rfl ?_) | (refine planW_go (d := (some 19)) o_1 rfl ?_ ?_; · (simp [o_0, o_1, o_2, o_3, o_4, o_5, o_6, o_7, o_8, o_9, o_10, o_11, o_12, o_13, o_14, o_15, List.lookup, hn0, h9, hs, hsn]; done)) | (refine planW_skip (d := (some 19)) o_1 rfl ?_ ?_; · (simp [o_0, o_1, o_2, o_3, o_4, o_5, o_6, o_7, o_8, o_9, o_10, o_11, o_12, o_13, o_14, o_15, List.lookup, hn0, h9, hs, hsn]; done))
  try refine ⟨_, by simp [List.lookup, hn0, h9, hs, hsn]; try rfl, trivial, ?_⟩
  first | (refine planW_ex (d := (some 20)) o_2 rfl rfl ?_) | (refine planW_go (d := (some 20)) o_2 rfl ?_ ?_; · (simp [o_0, o_1, o_2, o_3, o_4, o_5, o_6, o_7, o_8, o_9, o_10, o_11, o_12, o_13, o_14, o_15, List.lookup, hn0, h9, hs, hsn]; done)) | (refine planW_skip (d := (some 20)) o_2 rfl ?_ ?_; · (simp [o_0, o_1, o_2, o_3, o_4, o_5, o_6, o_7, o_8, o_9, o_10, o_11, o_12, o_13, o_14, o_15, List.lookup, hn0, h9, hs, hsn]; done))
  try refine ⟨_, by simp [List.lookup, hn0, h9, hs, hsn]; try rfl, trivial, ?_⟩
  first | (refine planW_ex (d := (some 21)) o_3 rfl rfl ?_) | (refine planW_go (d := (some 21)) o_3 rfl ?_ ?_; · (simp [o_0, o_1, o_2, o_3, o_4, o_5, o_6, o_7, o_8, o_9, o_10, o_11, o_12, o_13, o_14, o_15, List.lookup, hn0, h9, hs, hsn]; done)) | (refine planW_skip (d := (some 21)) o_3 rfl ?_ ?_; · (simp [o_0, o_1, o_2, o_3, o_4, o_5, o_6, o_7, o_8, o_9, o_10, o_11, o_12, o_13, o_14, o_15, List.lookup, hn0, h9, hs, hsn]; done))
  try refine ⟨_, by simp [List.lookup, hn0, h9, hs, hsn]; try rfl, trivial, ?_⟩
  first | (refine planW_ex (d := (some 22)) o_4 rfl rfl ?_) | (refine planW_go (d := (some 22)) o_4 rfl ?_ ?_; · (simp [o_0, o_1, o_2, o_3, o_4, o_5, o_6, o_7, o_8, o_9, o_10, o_11, o_12, o_13, o_14, o_15, List.lookup, hn0, h9, hs, hsn]; done)) | (refine planW_skip (d := (some 22)) o_4 rfl ?_ ?_; · (simp [o_0, o_1, o_2, o_3, o_4, o_5, o_6, o_7, o_8, o_9, o_10, o_11, o_12, o_13, o_14, o_15, List.lookup, hn0, h9, hs, hsn]; done))
  try refine ⟨_, by simp [List.lookup, hn0, h9, hs, hsn]; try rfl, trivial, ?_⟩
  first | (refine planW_ex (d := (some 23)) o_5 rfl rfl ?_) | (refine planW_go (d := (some 23)) o_5 rfl ?_ ?_; · (simp [o_0, o_1, o_2, o_3, o_4, o_5, o_6, o_7, o_8, o_9, o_10, o_11, o_12, o_13, o_14, o_15, List.lookup, hn0, h9, hs, hsn]; done)) | (refine planW_skip (d := (some 23)) o_5 rfl ?_ ?_; · (simp [o_0, o_1, o_2, o_3, o_4, o_5, o_6, o_7, o_8, o_9, o_10, o_11, o_12, o_13, o_14, o_15, List.lookup, hn0, h9, hs, hsn]; done))
  try refine ⟨_, by simp [List.lookup, hn0, h9, hs, hsn]; try rfl, trivial, ?_⟩
  first | (refine planW_ex (d := (some 24)) o_6 rfl rfl ?_) | (refine planW_go (d := (some 24)) o_6 rfl ?_ ?_; · (simp [o_0, o_1, o_2, o_3, o_4, o_5, o_6, o_7, o_8, o_9, o_10, o_11, o_12, o_13, o_14, o_15, List.lookup, hn0, h9, hs, hsn]; done)) | (refine planW_skip (d := (some 24)) o_6 rfl ?_ ?_; · (simp [o_0, o_1, o_2, o_3, o_4, o_5, o_6, o_7, o_8, o_9, o_10, o_11, o_12, o_13, o_14, o_15, List.lookup, hn0, h9, hs, hsn]; done))
  try refine ⟨_, by simp [List.lookup, hn0, h9, hs, hsn]; try rfl, trivial, ?_⟩
  first | (refine planW_ex (d := (some 25)) o_7 rfl rfl ?_) | (refine planW_go (d := (some 25)) o_7 rfl ?_ ?_; · (simp [o_0, o_1, o_2, o_3, o_4, o_5, o_6, o_7, o_8, o_9, o_10, o_11, o_12, o_13, o_14, o_15, List.lookup, hn0, h9, hs, hsn]; done)) | (refine planW_skip (d := (some 25)) o_7 rfl ?_ ?_; · (simp [o_0, o_1, o_2, o_3, o_4, o_5, o_6, o_7, o_8, o_9, o_10, o_11, o_12, o_13, o_14, o_15, List.lookup, hn0, h9, hs, hsn]; done))
  try refine ⟨_, by simp [List.lookup, hn0, h9, hs, hsn]; try rfl, by simp [chkW, List.lookup, List.lookup, hn0, h9, hs, hsn], ?_⟩
  first | (refine planW_ex (d := (some 26)) o_8 rfl rfl ?_) | (refine planW_go (d := (some 26)) o_8 rfl ?_ ?_; · (simp [o_0, o_1, o_2, o_3, o_4, o_5, o_6, o_7, o_8, o_9, o_10, o_11, o_12, o_13, o_14, o_15, List.lookup, hn0, h9, hs, hsn]; done)) | (refine planW_skip (d := (some 26)) o_8 rfl ?_ ?_; · (simp [o_0, o_1, o_2, o_3, o_4, o_5, o_6, o_7, o_8, o_9, o_10, o_11, o_12, o_13, o_14, o_15, List.lookup, hn0, h9, hs, hsn]; done))
  try refine ⟨_, by simp [List.lookup, hn0, h9, hs, hsn]; try rfl, trivial, ?_⟩
  first | (refine planW_ex (d := (some 27)) o_9 rfl rfl ?_) | (refine planW_go (d := (some 27)) o_9 rfl ?_ ?_; · (simp [o_0, o_1, o_2, o_3, o_4, o_5, o_6, o_7, o_8, o_9, o_10, o_11, o_12, o_13, o_14, o_15, List.lookup, hn0, h9, hs, hsn]; done)) | (refine planW_skip (d := (some 27)) o_9 rfl ?_ ?_; · (simp [o_0, o_1, o_2, o_3, o_4, o_5, o_6, o_7, o_8, o_9, o_10, o_11, o_12, o_13, o_14, o_15, List.lookup, hn0, h9, hs, hsn]; done))
  try refine ⟨_, by simp [List.lookup, hn0, h9, hs, hsn]; try rfl, trivial, ?_⟩
  first | (refine planW_ex (d := (some 28)) o_10 rfl rfl ?_) | (refine planW_go (d := (some 28)) o_10 rfl ?_ ?_; · (simp [o_0, o_1, o_2, o_3, o_4, o_5, o_6, o_7, o_8, o_9, o_10, o_11, o_12, o_13, o_14, o_15, List.lookup, hn0, h9, hs, hsn]; done)) | (refine planW_skip (d := (some 28)) o_10 rfl ?_ ?_; · (simp [o_0, o_1, o_2, o_3, o_4, o_5, o_6, o_7, o_8, o_9, o_10, o_11, o_12, o_13, o_14, o_15, List.lookup, hn0, h9, hs, hsn]; done))
  try refine ⟨_, by simp [List.lookup, hn0, h9, hs, hsn]; try rfl, trivial, ?_⟩
  first | (refine planW_ex (d := (some 29)) o_11 rfl rfl ?_) | (refine planW_go (d := (some 29)) o_11 rfl ?_ ?_; · (simp [o_0, o_1, o_2, o_3, o_4, o_5, o_6, o_7, o_8, o_9, o_10, o_11, o_12, o_13, o_14, o_15, List.lookup, hn0, h9, hs, hsn]; done)) | (refine planW_skip (d := (some 29)) o_11 rfl ?_ ?_; · (simp [o_0, o_1, o_2, o_3, o_4, o_5, o_6, o_7, o_8, o_9, o_10, o_11, o_12, o_13, o_14, o_15, List.lookup, hn0, h9, hs, hsn]; done))
  try refine ⟨_, by simp [List.lookup, hn0, h9, hs, hsn]; try rfl, by simp [chkW, List.lookup, List.lookup, hn0, h9, hs, hsn], ?_⟩
  first | (refine planW_ex (d := (some 30)) o_12 rfl rfl ?_) | (refine planW_go (d := (some 30)) o_12 rfl ?_ ?_; · (simp [o_0, o_1, o_2, o_3, o_4, o_5, o_6, o_7, o_8, o_9, o_10, o_11, o_12, o_13, o_14, o_15, List.lookup, hn0, h9, hs, hsn]; done)) | (refine planW_skip (d := (some 30)) o_12 rfl ?_ ?_; · (simp [o_0, o_1, o_2, o_3, o_4, o_5, o_6, o_7, o_8, o_9, o_10, o_11, o_12, o_13, o_14, o_15, List.lookup, hn0, h9, hs, hsn]; done))
  try refine ⟨_, by simp [List.lookup, hn0, h9, hs, hsn]; try rfl, trivial, ?_⟩
  first | (refine planW_ex (d := (some 31)) o_13 rfl rfl ?_) | (refine planW_go (d := (some 31)) o_13 rfl ?_ ?_; · (simp [o_0, o_1, o_2, o_3, o_4, o_5, o_6, o_7, o_8, o_9, o_10, o_11, o_12, o_13, o_14, o_15, List.lookup, hn0, h9, hs, hsn]; done)) | (refine planW_skip (d := (some 31)) o_13 rfl ?_ ?_; · (simp [o_0, o_1, o_2, o_3, o_4, o_5, o_6, o_7, o_8, o_9, o_10, o_11, o_12, o_13, o_14, o_15, List.lookup, hn0, h9, hs, hsn]; done))
  try refine ⟨_, by simp [List.lookup, hn0, h9, hs, hsn]; try rfl, trivial, ?_⟩
  first | (refine planW_ex (d := (some 32)) o_14 rfl rfl ?_) | (refine planW_go (d := (some 32)) o_14 rfl ?_ ?_; · (simp [o_0, o_1, o_2, o_3, o_4, o_5, o_6, o_7, o_8, o_9, o_10, o_11, o_12, o_13, o_14, o_15, List.lookup, hn0, h9, hs, hsn]; done)) | (refine planW_skip (d := (some 32)) o_14 rfl ?_ ?_; · (simp [o_0, o_1, o_2, o_3, o_4, o_5, o_6, o_7, o_8, o_9, o_10, o_11, o_12, o_13, o_14, o_15, List.lookup, hn0, h9, hs, hsn]; done))
  try refine ⟨_, by simp [List.lookup, hn0, h9, hs, hsn]; try rfl, trivial, ?_⟩
  first | (refine planW_ex (d := (some 17)) o_15 rfl rfl ?_) | (refine planW_go (d := (some 17)) o_15 rfl ?_ ?_; · (simp [o_0, o_1, o_2, o_3, o_4, o_5, o_6, o_7, o_8, o_9, o_10, o_11, o_12, o_13, o_14, o_15, List.lookup, hn0, h9, hs, hsn]; done)) | (refine planW_skip (d := (some 17)) o_15 rfl ?_ ?_; · (simp [o_0, o_1, o_2, o_3, o_4, o_5, o_6, o_7, o_8, o_9, o_10, o_11, o_12, o_13, o_14, o_15, List.lookup, hn0, h9, hs, hsn]; done))
  try refine ⟨_, by simp [List.lookup, hn0, h9, hs, hsn]; try rfl, trivial, ?_⟩
  refine planW_end o_sz ?_
  apply hK; clear hK K o_0 o_1 o_2 o_3 o_4 o_5 o_6 o_7 o_8 o_9 o_10 o_11 o_12 o_13 o_14 o_15 o_sz; simp only [onNormal, onExit, tput]
  (repeat refine AWP.seq ?_); refine AWP.cond (b := true) (by simp) ?_; simp only [if_true, if_false, Bool.false_eq_true]
  (repeat refine AWP.seq ?_)
  refine AWP.region_last hcall rfl fun K hK => ?_
  simp
  apply hK; clear hK K; simp only [onNormal, onExit]
  (try refine AWP.ret ?_); (try simp only [onNormal, onExit])
  refine ⟨by simp, ⟨_, by simp [ares, Tryz.results18]; rfl, by simp [ares1]⟩, fun k row hk => ?_⟩
  refine SubL.out ?_ k row hk; repeat (first | exact SubL.id | refine SubL.set ?_ | refine SubL.gone ?_ | (refine SubL.ex ?_ ?_; · simp; done) | refine SubL.fresh (hH [_]) ?_ | refine SubL.fresh (hH [_, _]) ?_ | (refine SubL.fresh (upd_none (hH [_]) ?_) ?_; · simp; done) | (refine SubL.fresh (upd_none (hH [_, _]) ?_) ?_; · simp; done))
set_option maxHeartbeats 1000000 in
/-- A user of another domain. -/
theorem create_other {S : SrvD} {L : List WvD} {n a b : Int} (nm : Name) (H : AHeap) (h : SrvIs H S L) (h9 : 0 <= n /\ n <= 99) (ha : ¬ a = 0) : Sim Tryz.prog 18 [.ptr S.s 0, vi n, .agg [vi a, vi b]] nm H (.tup [.agg [vi 0, vi 0], vi 1]) H := by
  have hs := h.hs
  have hcall := onF_ok (atS_ok (f := 65) (l := [([.agg [vi a, vi b], vi 0], vb false)]) (by kernel_rfl) fun p hp nm H => by
    cases List.mem_singleton.1 hp
    exact user_not ha nm H) (@noCall_ok Tryz.prog)
  have hu := fun nm' H' => atS_at (xs := [.agg [vi a, vi b], vi 0]) (r := vb false) (l := []) nm' H'
  have hn0 : ¬ n < 0 := by omega
  have hn9 : ¬ 99 < n := by omega
  refine sim_go Tryz.func18 rfl rfl (Nat.le_of_ble_eq_true rfl) fun hH => ?_
  (repeat refine AWP.seq ?_)
  refine AWP.region_last hcall rfl fun K hK => ?_
  simp
  apply hK; clear hK K; simp only [onNormal, onExit]
  have hsn : ∀ x, ¬ S.s = x :: nm := fun x e => by have := hH [x]; rw [List.singleton_append, <- e, hs] at this; cases this
  (repeat refine AWP.seq ?_)
  refine AWP.region_last hcall rfl fun K hK => ?_
  simp [hs, hsn]
  apply hK; clear hK K; simp only [onNormal, onExit]
  (repeat refine AWP.seq ?_); refine AWP.block ?_
  (repeat refine AWP.seq ?_)
  refine AWP.draw_ops rfl hcall [0, 1, 3, 7, 15, 31, 63, 127, 127, 383, 895, 1919, 4095, 8191, 16383, 32767] [⟨0, false, []⟩, ⟨1, false, []⟩, ⟨2, false, []⟩, ⟨3, false, []⟩, ⟨4, false, []⟩, ⟨5, false, []⟩, ⟨6, false, []⟩, ⟨7, false, [0]⟩, ⟨8, false, []⟩, ⟨9, false, []⟩, ⟨10, false, []⟩, ⟨11, false, [0]⟩, ⟨12, true, []⟩, ⟨13, false, []⟩, ⟨14, false, []⟩, ⟨15, false, []⟩] rfl (by kernel_rfl) fun ops' hops K hK => ?_
  have o_0 := op_at hops 0 rfl
  have o_1 := op_at hops 1 rfl
  have o_2 := op_at hops 2 rfl
  have o_3 := op_at hops 3 rfl
  have o_4 := op_at hops 4 rfl
  have o_5 := op_at hops 5 rfl
  have o_6 := op_at hops 6 rfl
  have o_7 := op_at hops 7 rfl
  have o_8 := op_at hops 8 rfl
  have o_9 := op_at hops 9 rfl
  have o_10 := op_at hops 10 rfl
  have o_11 := op_at hops 11 rfl
  have o_12 := op_at hops 12 rfl
  have o_13 := op_at hops 13 rfl
  have o_14 := op_at hops 14 rfl
  have o_15 := op_at hops 15 rfl
  have o_sz : ops'.size = 16 := op_sz hops rfl
  clear hops
  first | (refine planW_ex (d := (some 18)) o_0 rfl rfl ?_) | (refine planW_go (d := (some 18)) o_0 rfl ?_ ?_; · (simp [o_0, o_1, o_2, o_3, o_4, o_5, o_6, o_7, o_8, o_9, o_10, o_11, o_12, o_13, o_14, o_15, List.lookup, hn0, hn9, hs, hsn, hu]; done)) | (refine planW_skip (d := (some 18)) o_0 rfl ?_ ?_; · (simp [o_0, o_1, o_2, o_3, o_4, o_5, o_6, o_7, o_8, o_9, o_10, o_11, o_12, o_13, o_14, o_15, List.lookup, hn0, hn9, hs, hsn, hu]; done))
  try refine ⟨_, by simp [List.lookup, hn0, hn9, hs, hsn, hu]; try rfl, trivial, ?_⟩
  first | (refine planW_ex (d := (some 19)) o_1 rfl rfl ?_) | (refine planW_go (d := (some 19)) o_1 rfl ?_ ?_; · (simp [o_0, o_1, o_2, o_3, o_4, o_5, o_6, o_7, o_8, o_9, o_10, o_11, o_12, o_13, o_14, o_15, List.lookup, hn0, hn9, hs, hsn, hu]; done)) | (refine planW_skip (d := (some 19)) o_1 rfl ?_ ?_; · (simp [o_0, o_1, o_2, o_3, o_4, o_5, o_6, o_7, o_8, o_9, o_10, o_11, o_12, o_13, o_14, o_15, List.lookup, hn0, hn9, hs, hsn, hu]; done))
  try refine ⟨_, by simp [List.lookup, hn0, hn9, hs, hsn, hu]; try rfl, trivial, ?_⟩
  first | (refine planW_ex (d := (some 20)) o_2 rfl rfl ?_) | (refine planW_go (d := (some 20)) o_2 rfl ?_ ?_; · (simp [o_0, o_1, o_2, o_3, o_4, o_5, o_6, o_7, o_8, o_9, o_10, o_11, o_12, o_13, o_14, o_15, List.lookup, hn0, hn9, hs, hsn, hu]; done)) | (refine planW_skip (d := (some 20)) o_2 rfl ?_ ?_; · (simp [o_0, o_1, o_2, o_3, o_4, o_5, o_6, o_7, o_8, o_9, o_10, o_11, o_12, o_13, o_14, o_15, List.lookup, hn0, hn9, hs, hsn, hu]; done))
  try refine ⟨_, by simp [List.lookup, hn0, hn9, hs, hsn, hu]; try rfl, trivial, ?_⟩
  first | (refine planW_ex (d := (some 21)) o_3 rfl rfl ?_) | (refine planW_go (d := (some 21)) o_3 rfl ?_ ?_; · (simp [o_0, o_1, o_2, o_3, o_4, o_5, o_6, o_7, o_8, o_9, o_10, o_11, o_12, o_13, o_14, o_15, List.lookup, hn0, hn9, hs, hsn, hu]; done)) | (refine planW_skip (d := (some 21)) o_3 rfl ?_ ?_; · (simp [o_0, o_1, o_2, o_3, o_4, o_5, o_6, o_7, o_8, o_9, o_10, o_11, o_12, o_13, o_14, o_15, List.lookup, hn0, hn9, hs, hsn, hu]; done))
  try refine ⟨_, by simp [List.lookup, hn0, hn9, hs, hsn, hu]; try rfl, trivial, ?_⟩
  first | (refine planW_ex (d := (some 22)) o_4 rfl rfl ?_) | (refine planW_go (d := (some 22)) o_4 rfl ?_ ?_; · (simp [o_0, o_1, o_2, o_3, o_4, o_5, o_6, o_7, o_8, o_9, o_10, o_11, o_12, o_13, o_14, o_15, List.lookup, hn0, hn9, hs, hsn, hu]; done)) | (refine planW_skip (d := (some 22)) o_4 rfl ?_ ?_; · (simp [o_0, o_1, o_2, o_3, o_4, o_5, o_6, o_7, o_8, o_9, o_10, o_11, o_12, o_13, o_14, o_15, List.lookup, hn0, hn9, hs, hsn, hu]; done))
  try refine ⟨_, by simp [List.lookup, hn0, hn9, hs, hsn, hu]; try rfl, trivial, ?_⟩
  first | (refine planW_ex (d := (some 23)) o_5 rfl rfl ?_) | (refine planW_go (d := (some 23)) o_5 rfl ?_ ?_; · (simp [o_0, o_1, o_2, o_3, o_4, o_5, o_6, o_7, o_8, o_9, o_10, o_11, o_12, o_13, o_14, o_15, List.lookup, hn0, hn9, hs, hsn, hu]; done)) | (refine planW_skip (d := (some 23)) o_5 rfl ?_ ?_; · (simp [o_0, o_1, o_2, o_3, o_4, o_5, o_6, o_7, o_8, o_9, o_10, o_11, o_12, o_13, o_14, o_15, List.lookup, hn0, hn9, hs, hsn, hu]; done))
  try refine ⟨_, by simp [List.lookup, hn0, hn9, hs, hsn, hu]; try rfl, trivial, ?_⟩
  first | (refine planW_ex (d := (some 24)) o_6 rfl rfl ?_) | (refine planW_go (d := (some 24)) o_6 rfl ?_ ?_; · (simp [o_0, o_1, o_2, o_3, o_4, o_5, o_6, o_7, o_8, o_9, o_10, o_11, o_12, o_13, o_14, o_15, List.lookup, hn0, hn9, hs, hsn, hu]; done)) | (refine planW_skip (d := (some 24)) o_6 rfl ?_ ?_; · (simp [o_0, o_1, o_2, o_3, o_4, o_5, o_6, o_7, o_8, o_9, o_10, o_11, o_12, o_13, o_14, o_15, List.lookup, hn0, hn9, hs, hsn, hu]; done))
  try refine ⟨_, by simp [List.lookup, hn0, hn9, hs, hsn, hu]; try rfl, trivial, ?_⟩
  first | (refine planW_ex (d := (some 25)) o_7 rfl rfl ?_) | (refine planW_go (d := (some 25)) o_7 rfl ?_ ?_; · (simp [o_0, o_1, o_2, o_3, o_4, o_5, o_6, o_7, o_8, o_9, o_10, o_11, o_12, o_13, o_14, o_15, List.lookup, hn0, hn9, hs, hsn, hu]; done)) | (refine planW_skip (d := (some 25)) o_7 rfl ?_ ?_; · (simp [o_0, o_1, o_2, o_3, o_4, o_5, o_6, o_7, o_8, o_9, o_10, o_11, o_12, o_13, o_14, o_15, List.lookup, hn0, hn9, hs, hsn, hu]; done))
  try refine ⟨_, by simp [List.lookup, hn0, hn9, hs, hsn, hu]; try rfl, by simp [chkW, List.lookup, List.lookup, hn0, hn9, hs, hsn, hu], ?_⟩
  first | (refine planW_ex (d := (some 26)) o_8 rfl rfl ?_) | (refine planW_go (d := (some 26)) o_8 rfl ?_ ?_; · (simp [o_0, o_1, o_2, o_3, o_4, o_5, o_6, o_7, o_8, o_9, o_10, o_11, o_12, o_13, o_14, o_15, List.lookup, hn0, hn9, hs, hsn, hu]; done)) | (refine planW_skip (d := (some 26)) o_8 rfl ?_ ?_; · (simp [o_0, o_1, o_2, o_3, o_4, o_5, o_6, o_7, o_8, o_9, o_10, o_11, o_12, o_13, o_14, o_15, List.lookup, hn0, hn9, hs, hsn, hu]; done))
  try refine ⟨_, by simp [List.lookup, hn0, hn9, hs, hsn, hu]; try rfl, trivial, ?_⟩
  first | (refine planW_ex (d := (some 27)) o_9 rfl rfl ?_) | (refine planW_go (d := (some 27)) o_9 rfl ?_ ?_; · (simp [o_0, o_1, o_2, o_3, o_4, o_5, o_6, o_7, o_8, o_9, o_10, o_11, o_12, o_13, o_14, o_15, List.lookup, hn0, hn9, hs, hsn, hu]; done)) | (refine planW_skip (d := (some 27)) o_9 rfl ?_ ?_; · (simp [o_0, o_1, o_2, o_3, o_4, o_5, o_6, o_7, o_8, o_9, o_10, o_11, o_12, o_13, o_14, o_15, List.lookup, hn0, hn9, hs, hsn, hu]; done))
  try refine ⟨_, by simp [List.lookup, hn0, hn9, hs, hsn, hu]; try rfl, trivial, ?_⟩
  first | (refine planW_ex (d := (some 28)) o_10 rfl rfl ?_) | (refine planW_go (d := (some 28)) o_10 rfl ?_ ?_; · (simp [o_0, o_1, o_2, o_3, o_4, o_5, o_6, o_7, o_8, o_9, o_10, o_11, o_12, o_13, o_14, o_15, List.lookup, hn0, hn9, hs, hsn, hu]; done)) | (refine planW_skip (d := (some 28)) o_10 rfl ?_ ?_; · (simp [o_0, o_1, o_2, o_3, o_4, o_5, o_6, o_7, o_8, o_9, o_10, o_11, o_12, o_13, o_14, o_15, List.lookup, hn0, hn9, hs, hsn, hu]; done))
  try refine ⟨_, by simp [List.lookup, hn0, hn9, hs, hsn, hu]; try rfl, trivial, ?_⟩
  first | (refine planW_ex (d := (some 29)) o_11 rfl rfl ?_) | (refine planW_go (d := (some 29)) o_11 rfl ?_ ?_; · (simp [o_0, o_1, o_2, o_3, o_4, o_5, o_6, o_7, o_8, o_9, o_10, o_11, o_12, o_13, o_14, o_15, List.lookup, hn0, hn9, hs, hsn, hu]; done)) | (refine planW_skip (d := (some 29)) o_11 rfl ?_ ?_; · (simp [o_0, o_1, o_2, o_3, o_4, o_5, o_6, o_7, o_8, o_9, o_10, o_11, o_12, o_13, o_14, o_15, List.lookup, hn0, hn9, hs, hsn, hu]; done))
  try refine ⟨_, by simp [List.lookup, hn0, hn9, hs, hsn, hu]; try rfl, by simp [chkW, List.lookup, List.lookup, hn0, hn9, hs, hsn, hu], ?_⟩
  first | (refine planW_ex (d := (some 30)) o_12 rfl rfl ?_) | (refine planW_go (d := (some 30)) o_12 rfl ?_ ?_; · (simp [o_0, o_1, o_2, o_3, o_4, o_5, o_6, o_7, o_8, o_9, o_10, o_11, o_12, o_13, o_14, o_15, List.lookup, hn0, hn9, hs, hsn, hu]; done)) | (refine planW_skip (d := (some 30)) o_12 rfl ?_ ?_; · (simp [o_0, o_1, o_2, o_3, o_4, o_5, o_6, o_7, o_8, o_9, o_10, o_11, o_12, o_13, o_14, o_15, List.lookup, hn0, hn9, hs, hsn, hu]; done))
  try refine ⟨_, by simp [List.lookup, hn0, hn9, hs, hsn, hu]; try rfl, trivial, ?_⟩
  first | (refine planW_ex (d := (some 31)) o_13 rfl rfl ?_) | (refine planW_go (d := (some 31)) o_13 rfl ?_ ?_; · (simp [o_0, o_1, o_2, o_3, o_4, o_5, o_6, o_7, o_8, o_9, o_10, o_11, o_12, o_13, o_14, o_15, List.lookup, hn0, hn9, hs, hsn, hu]; done)) | (refine planW_skip (d := (some 31)) o_13 rfl ?_ ?_; · (simp [o_0, o_1, o_2, o_3, o_4, o_5, o_6, o_7, o_8, o_9, o_10, o_11, o_12, o_13, o_14, o_15, List.lookup, hn0, hn9, hs, hsn, hu]; done))
  try refine ⟨_, by simp [List.lookup, hn0, hn9, hs, hsn, hu]; try rfl, trivial, ?_⟩
  first | (refine planW_ex (d := (some 32)) o_14 rfl rfl ?_) | (refine planW_go (d := (some 32)) o_14 rfl ?_ ?_; · (simp [o_0, o_1, o_2, o_3, o_4, o_5, o_6, o_7, o_8, o_9, o_10, o_11, o_12, o_13, o_14, o_15, List.lookup, hn0, hn9, hs, hsn, hu]; done)) | (refine planW_skip (d := (some 32)) o_14 rfl ?_ ?_; · (simp [o_0, o_1, o_2, o_3, o_4, o_5, o_6, o_7, o_8, o_9, o_10, o_11, o_12, o_13, o_14, o_15, List.lookup, hn0, hn9, hs, hsn, hu]; done))
  try refine ⟨_, by simp [List.lookup, hn0, hn9, hs, hsn, hu]; try rfl, trivial, ?_⟩
  first | (refine planW_ex (d := (some 17)) o_15 rfl rfl ?_) | (refine planW_go (d := (some 17)) o_15 rfl ?_ ?_; · (simp [o_0, o_1, o_2, o_3, o_4, o_5, o_6, o_7, o_8, o_9, o_10, o_11, o_12, o_13, o_14, o_15, List.lookup, hn0, hn9, hs, hsn, hu]; done)) | (refine planW_skip (d := (some 17)) o_15 rfl ?_ ?_; · (simp [o_0, o_1, o_2, o_3, o_4, o_5, o_6, o_7, o_8, o_9, o_10, o_11, o_12, o_13, o_14, o_15, List.lookup, hn0, hn9, hs, hsn, hu]; done))
  try refine ⟨_, by simp [List.lookup, hn0, hn9, hs, hsn, hu]; try rfl, trivial, ?_⟩
  refine planW_end o_sz ?_
  apply hK; clear hK K o_0 o_1 o_2 o_3 o_4 o_5 o_6 o_7 o_8 o_9 o_10 o_11 o_12 o_13 o_14 o_15 o_sz; simp only [onNormal, onExit, tput]
  (repeat refine AWP.seq ?_); refine AWP.cond (b := true) (by simp) ?_; simp only [if_true, if_false, Bool.false_eq_true]
  (repeat refine AWP.seq ?_)
  refine AWP.region_last hcall rfl fun K hK => ?_
  simp
  apply hK; clear hK K; simp only [onNormal, onExit]
  (try refine AWP.ret ?_); (try simp only [onNormal, onExit])
  refine ⟨by simp, ⟨_, by simp [ares, Tryz.results18]; rfl, by simp [ares1]⟩, fun k row hk => ?_⟩
  refine SubL.out ?_ k row hk; repeat (first | exact SubL.id | refine SubL.set ?_ | refine SubL.gone ?_ | (refine SubL.ex ?_ ?_; · simp; done) | refine SubL.fresh (hH [_]) ?_ | refine SubL.fresh (hH [_, _]) ?_ | (refine SubL.fresh (upd_none (hH [_]) ?_) ?_; · simp; done) | (refine SubL.fresh (upd_none (hH [_, _]) ?_) ?_; · simp; done))
set_option maxHeartbeats 1000000 in
/-- It is there already. -/
theorem create_is {S : SrvD} {L : List WvD} {n b : Nat} (nm : Name) (H : AHeap) (h : SrvIs H S L) (h9 : n <= 99) (hb : b < 8) (hL : L.length <= 8) (hx : ∃ x ∈ L, x.b = n) : Sim Tryz.prog 18 [.ptr S.s 0, vi (n : Int), .agg [vi 0, vi (b : Int)]] nm H (.tup [.agg [vi 0, vi 0], vi 12]) H := by
  have hs := h.hs
  have hcall := onF_ok (atS_ok (f := 65) (l := [([.agg [vi 0, vi (b : Int)], vi 0], vb true)]) (by kernel_rfl) fun p hp nm H => by
    cases List.mem_singleton.1 hp
    exact user_sim rfl (by omega) (by omega) (by omega) (by omega) nm H) (onF_ok (find_fn (S := S) (L := L) (k := n) hL) (@noCall_ok Tryz.prog))
  have hu := fun nm' H' => atS_at (xs := [.agg [vi 0, vi (b : Int)], vi 0]) (r := vb true) (l := []) nm' H'
  obtain ⟨w, hw⟩ : ∃ w, findV L n = .ptr w 0 := by
    obtain ⟨x, hx1, hx2⟩ := hx
    cases e : L.find? fun y => decide (y.b = n) with
    | none => exact absurd hx2 (by simpa using List.find?_eq_none.1 e x hx1)
    | some y => exact ⟨y.w, by simp only [findV, e]⟩
  have hn0 : ¬ (n : Int) < 0 := by omega
  have hn9 : ¬ 99 < (n : Int) := by omega
  refine sim_go Tryz.func18 rfl rfl (Nat.le_of_ble_eq_true rfl) fun hH => ?_
  (repeat refine AWP.seq ?_)
  refine AWP.region_last hcall rfl fun K hK => ?_
  simp
  apply hK; clear hK K; simp only [onNormal, onExit]
  have hsn : ∀ x, ¬ S.s = x :: nm := fun x e => by have := hH [x]; rw [List.singleton_append, <- e, hs] at this; cases this
  have hfi := fun nm' G hG => find_at (k := n) hH h nm' G hG
  rw [hw] at hfi hcall
  (repeat refine AWP.seq ?_)
  refine AWP.region_last hcall rfl fun K hK => ?_
  simp [hs, hsn]
  apply hK; clear hK K; simp only [onNormal, onExit]
  (repeat refine AWP.seq ?_); refine AWP.block ?_
  (repeat refine AWP.seq ?_)
  refine AWP.draw_ops rfl hcall [0, 1, 3, 7, 15, 31, 63, 127, 127, 383, 895, 1919, 4095, 8191, 16383, 32767] [⟨0, false, []⟩, ⟨1, false, []⟩, ⟨2, false, []⟩, ⟨3, false, []⟩, ⟨4, false, []⟩, ⟨5, false, []⟩, ⟨6, false, []⟩, ⟨7, false, [0]⟩, ⟨8, false, []⟩, ⟨9, false, []⟩, ⟨10, false, []⟩, ⟨11, false, [0]⟩, ⟨12, true, []⟩, ⟨13, false, []⟩, ⟨14, false, []⟩, ⟨15, false, []⟩] rfl (by kernel_rfl) fun ops' hops K hK => ?_
  have o_0 := op_at hops 0 rfl
  have o_1 := op_at hops 1 rfl
  have o_2 := op_at hops 2 rfl
  have o_3 := op_at hops 3 rfl
  have o_4 := op_at hops 4 rfl
  have o_5 := op_at hops 5 rfl
  have o_6 := op_at hops 6 rfl
  have o_7 := op_at hops 7 rfl
  have o_8 := op_at hops 8 rfl
  have o_9 := op_at hops 9 rfl
  have o_10 := op_at hops 10 rfl
  have o_11 := op_at hops 11 rfl
  have o_12 := op_at hops 12 rfl
  have o_13 := op_at hops 13 rfl
  have o_14 := op_at hops 14 rfl
  have o_15 := op_at hops 15 rfl
  have o_sz : ops'.size = 16 := op_sz hops rfl
  clear hops
  first | (refine planW_ex (d := (some 18)) o_0 rfl rfl ?_) | (refine planW_go (d := (some 18)) o_0 rfl ?_ ?_; · (simp [o_0, o_1, o_2, o_3, o_4, o_5, o_6, o_7, o_8, o_9, o_10, o_11, o_12, o_13, o_14, o_15, List.lookup, hn0, hn9, hs, hsn, hu]; done)) | (refine planW_skip (d := (some 18)) o_0 rfl ?_ ?_; · (simp [o_0, o_1, o_2, o_3, o_4, o_5, o_6, o_7, o_8, o_9, o_10, o_11, o_12, o_13, o_14, o_15, List.lookup, hn0, hn9, hs, hsn, hu]; done))
  try refine ⟨_, by simp [List.lookup, hn0, hn9, hs, hsn, hu]; try rfl, trivial, ?_⟩
  first | (refine planW_ex (d := (some 19)) o_1 rfl rfl ?_) | (refine planW_go (d := (some 19)) o_1 rfl ?_ ?_; · (simp [o_0, o_1, o_2, o_3, o_4, o_5, o_6, o_7, o_8, o_9, o_10, o_11, o_12, o_13, o_14, o_15, List.lookup, hn0, hn9, hs, hsn, hu]; done)) | (refine planW_skip (d := (some 19)) o_1 rfl ?_ ?_; · (simp [o_0, o_1, o_2, o_3, o_4, o_5, o_6, o_7, o_8, o_9, o_10, o_11, o_12, o_13, o_14, o_15, List.lookup, hn0, hn9, hs, hsn, hu]; done))
  try refine ⟨_, by simp [List.lookup, hn0, hn9, hs, hsn, hu]; try rfl, trivial, ?_⟩
  first | (refine planW_ex (d := (some 20)) o_2 rfl rfl ?_) | (refine planW_go (d := (some 20)) o_2 rfl ?_ ?_; · (simp [o_0, o_1, o_2, o_3, o_4, o_5, o_6, o_7, o_8, o_9, o_10, o_11, o_12, o_13, o_14, o_15, List.lookup, hn0, hn9, hs, hsn, hu]; done)) | (refine planW_skip (d := (some 20)) o_2 rfl ?_ ?_; · (simp [o_0, o_1, o_2, o_3, o_4, o_5, o_6, o_7, o_8, o_9, o_10, o_11, o_12, o_13, o_14, o_15, List.lookup, hn0, hn9, hs, hsn, hu]; done))
  try refine ⟨_, by simp [List.lookup, hn0, hn9, hs, hsn, hu]; try rfl, trivial, ?_⟩
  first | (refine planW_ex (d := (some 21)) o_3 rfl rfl ?_) | (refine planW_go (d := (some 21)) o_3 rfl ?_ ?_; · (simp [o_0, o_1, o_2, o_3, o_4, o_5, o_6, o_7, o_8, o_9, o_10, o_11, o_12, o_13, o_14, o_15, List.lookup, hn0, hn9, hs, hsn, hu]; done)) | (refine planW_skip (d := (some 21)) o_3 rfl ?_ ?_; · (simp [o_0, o_1, o_2, o_3, o_4, o_5, o_6, o_7, o_8, o_9, o_10, o_11, o_12, o_13, o_14, o_15, List.lookup, hn0, hn9, hs, hsn, hu]; done))
  try refine ⟨_, by simp [List.lookup, hn0, hn9, hs, hsn, hu]; try rfl, trivial, ?_⟩
  first | (refine planW_ex (d := (some 22)) o_4 rfl rfl ?_) | (refine planW_go (d := (some 22)) o_4 rfl ?_ ?_; · (simp [o_0, o_1, o_2, o_3, o_4, o_5, o_6, o_7, o_8, o_9, o_10, o_11, o_12, o_13, o_14, o_15, List.lookup, hn0, hn9, hs, hsn, hu]; done)) | (refine planW_skip (d := (some 22)) o_4 rfl ?_ ?_; · (simp [o_0, o_1, o_2, o_3, o_4, o_5, o_6, o_7, o_8, o_9, o_10, o_11, o_12, o_13, o_14, o_15, List.lookup, hn0, hn9, hs, hsn, hu]; done))
  try refine ⟨_, by simp [List.lookup, hn0, hn9, hs, hsn, hu]; try rfl, trivial, ?_⟩
  first | (refine planW_ex (d := (some 23)) o_5 rfl rfl ?_) | (refine planW_go (d := (some 23)) o_5 rfl ?_ ?_; · (simp [o_0, o_1, o_2, o_3, o_4, o_5, o_6, o_7, o_8, o_9, o_10, o_11, o_12, o_13, o_14, o_15, List.lookup, hn0, hn9, hs, hsn, hu]; done)) | (refine planW_skip (d := (some 23)) o_5 rfl ?_ ?_; · (simp [o_0, o_1, o_2, o_3, o_4, o_5, o_6, o_7, o_8, o_9, o_10, o_11, o_12, o_13, o_14, o_15, List.lookup, hn0, hn9, hs, hsn, hu]; done))
  try refine ⟨_, by simp [List.lookup, hn0, hn9, hs, hsn, hu]; try rfl, trivial, ?_⟩
  first | (refine planW_ex (d := (some 24)) o_6 rfl rfl ?_) | (refine planW_go (d := (some 24)) o_6 rfl ?_ ?_; · (simp [o_0, o_1, o_2, o_3, o_4, o_5, o_6, o_7, o_8, o_9, o_10, o_11, o_12, o_13, o_14, o_15, List.lookup, hn0, hn9, hs, hsn, hu]; done)) | (refine planW_skip (d := (some 24)) o_6 rfl ?_ ?_; · (simp [o_0, o_1, o_2, o_3, o_4, o_5, o_6, o_7, o_8, o_9, o_10, o_11, o_12, o_13, o_14, o_15, List.lookup, hn0, hn9, hs, hsn, hu]; done))
  try refine ⟨_, by simp [List.lookup, hn0, hn9, hs, hsn, hu]; try rfl, trivial, ?_⟩
  first | (refine planW_ex (d := (some 25)) o_7 rfl rfl ?_) | (refine planW_go (d := (some 25)) o_7 rfl ?_ ?_; · (simp [o_0, o_1, o_2, o_3, o_4, o_5, o_6, o_7, o_8, o_9, o_10, o_11, o_12, o_13, o_14, o_15, List.lookup, hn0, hn9, hs, hsn, hu]; done)) | (refine planW_skip (d := (some 25)) o_7 rfl ?_ ?_; · (simp [o_0, o_1, o_2, o_3, o_4, o_5, o_6, o_7, o_8, o_9, o_10, o_11, o_12, o_13, o_14, o_15, List.lookup, hn0, hn9, hs, hsn, hu]; done))
  try refine ⟨_, by simp [List.lookup, hn0, hn9, hs, hsn, hu]; try rfl, by simp [chkW, List.lookup, List.lookup, hn0, hn9, hs, hsn, hu], ?_⟩
  first | (refine planW_ex (d := (some 26)) o_8 rfl rfl ?_) | (refine planW_go (d := (some 26)) o_8 rfl ?_ ?_; · (simp [o_0, o_1, o_2, o_3, o_4, o_5, o_6, o_7, o_8, o_9, o_10, o_11, o_12, o_13, o_14, o_15, List.lookup, hn0, hn9, hs, hsn, hu]; done)) | (refine planW_skip (d := (some 26)) o_8 rfl ?_ ?_; · (simp [o_0, o_1, o_2, o_3, o_4, o_5, o_6, o_7, o_8, o_9, o_10, o_11, o_12, o_13, o_14, o_15, List.lookup, hn0, hn9, hs, hsn, hu]; done))
  try refine ⟨_, by simp [List.lookup, hn0, hn9, hs, hsn, hu]; try rfl, trivial, ?_⟩
  first | (refine planW_ex (d := (some 27)) o_9 rfl rfl ?_) | (refine planW_go (d := (some 27)) o_9 rfl ?_ ?_; · (simp [o_0, o_1, o_2, o_3, o_4, o_5, o_6, o_7, o_8, o_9, o_10, o_11, o_12, o_13, o_14, o_15, List.lookup, hn0, hn9, hs, hsn, hu]; done)) | (refine planW_skip (d := (some 27)) o_9 rfl ?_ ?_; · (simp [o_0, o_1, o_2, o_3, o_4, o_5, o_6, o_7, o_8, o_9, o_10, o_11, o_12, o_13, o_14, o_15, List.lookup, hn0, hn9, hs, hsn, hu]; done))
  try refine ⟨_, by simp [List.lookup, hn0, hn9, hs, hsn, hu]; try rfl, trivial, ?_⟩
  first | (refine planW_ex (d := (some 28)) o_10 rfl rfl ?_) | (refine planW_go (d := (some 28)) o_10 rfl ?_ ?_; · (simp [o_0, o_1, o_2, o_3, o_4, o_5, o_6, o_7, o_8, o_9, o_10, o_11, o_12, o_13, o_14, o_15, List.lookup, hn0, hn9, hs, hsn, hu]; done)) | (refine planW_skip (d := (some 28)) o_10 rfl ?_ ?_; · (simp [o_0, o_1, o_2, o_3, o_4, o_5, o_6, o_7, o_8, o_9, o_10, o_11, o_12, o_13, o_14, o_15, List.lookup, hn0, hn9, hs, hsn, hu]; done))
  try refine ⟨_, by simp [List.lookup, hn0, hn9, hs, hsn, hu]; try rfl, trivial, ?_⟩
  first | (refine planW_ex (d := (some 29)) o_11 rfl rfl ?_) | (refine planW_go (d := (some 29)) o_11 rfl ?_ ?_; · (simp [o_0, o_1, o_2, o_3, o_4, o_5, o_6, o_7, o_8, o_9, o_10, o_11, o_12, o_13, o_14, o_15, List.lookup, hn0, hn9, hs, hsn, hu]; done)) | (refine planW_skip (d := (some 29)) o_11 rfl ?_ ?_; · (simp [o_0, o_1, o_2, o_3, o_4, o_5, o_6, o_7, o_8, o_9, o_10, o_11, o_12, o_13, o_14, o_15, List.lookup, hn0, hn9, hs, hsn, hu]; done))
  try refine ⟨_, by simp [List.lookup, hn0, hn9, hs, hsn, hu]; try rfl, by simp [chkW, List.lookup, List.lookup, hn0, hn9, hs, hsn, hu], ?_⟩
  first | (refine planW_ex (d := (some 30)) o_12 rfl rfl ?_) | (refine planW_go (d := (some 30)) o_12 rfl ?_ ?_; · (simp [o_0, o_1, o_2, o_3, o_4, o_5, o_6, o_7, o_8, o_9, o_10, o_11, o_12, o_13, o_14, o_15, List.lookup, hn0, hn9, hs, hsn, hu]; done)) | (refine planW_skip (d := (some 30)) o_12 rfl ?_ ?_; · (simp [o_0, o_1, o_2, o_3, o_4, o_5, o_6, o_7, o_8, o_9, o_10, o_11, o_12, o_13, o_14, o_15, List.lookup, hn0, hn9, hs, hsn, hu]; done))
  try refine ⟨_, by simp [List.lookup, hn0, hn9, hs, hsn, hu]; try rfl, trivial, ?_⟩
  first | (refine planW_ex (d := (some 31)) o_13 rfl rfl ?_) | (refine planW_go (d := (some 31)) o_13 rfl ?_ ?_; · (simp [o_0, o_1, o_2, o_3, o_4, o_5, o_6, o_7, o_8, o_9, o_10, o_11, o_12, o_13, o_14, o_15, List.lookup, hn0, hn9, hs, hsn, hu]; done)) | (refine planW_skip (d := (some 31)) o_13 rfl ?_ ?_; · (simp [o_0, o_1, o_2, o_3, o_4, o_5, o_6, o_7, o_8, o_9, o_10, o_11, o_12, o_13, o_14, o_15, List.lookup, hn0, hn9, hs, hsn, hu]; done))
  try refine ⟨_, by simp [List.lookup, hn0, hn9, hs, hsn, hu]; try rfl, trivial, ?_⟩
  first | (refine planW_ex (d := (some 32)) o_14 rfl rfl ?_) | (refine planW_go (d := (some 32)) o_14 rfl ?_ ?_; · (simp [o_0, o_1, o_2, o_3, o_4, o_5, o_6, o_7, o_8, o_9, o_10, o_11, o_12, o_13, o_14, o_15, List.lookup, hn0, hn9, hs, hsn, hu]; done)) | (refine planW_skip (d := (some 32)) o_14 rfl ?_ ?_; · (simp [o_0, o_1, o_2, o_3, o_4, o_5, o_6, o_7, o_8, o_9, o_10, o_11, o_12, o_13, o_14, o_15, List.lookup, hn0, hn9, hs, hsn, hu]; done))
  try refine ⟨_, by simp [List.lookup, hn0, hn9, hs, hsn, hu]; try rfl, trivial, ?_⟩
  first | (refine planW_ex (d := (some 17)) o_15 rfl rfl ?_) | (refine planW_go (d := (some 17)) o_15 rfl ?_ ?_; · (simp [o_0, o_1, o_2, o_3, o_4, o_5, o_6, o_7, o_8, o_9, o_10, o_11, o_12, o_13, o_14, o_15, List.lookup, hn0, hn9, hs, hsn, hu]; done)) | (refine planW_skip (d := (some 17)) o_15 rfl ?_ ?_; · (simp [o_0, o_1, o_2, o_3, o_4, o_5, o_6, o_7, o_8, o_9, o_10, o_11, o_12, o_13, o_14, o_15, List.lookup, hn0, hn9, hs, hsn, hu]; done))
  try refine ⟨_, by simp [List.lookup, hn0, hn9, hs, hsn, hu]; try rfl, trivial, ?_⟩
  refine planW_end o_sz ?_
  apply hK; clear hK K o_0 o_1 o_2 o_3 o_4 o_5 o_6 o_7 o_8 o_9 o_10 o_11 o_12 o_13 o_14 o_15 o_sz; simp only [onNormal, onExit, tput]
  (repeat refine AWP.seq ?_); refine AWP.cond (b := false) (by simp) ?_; simp only [if_true, if_false, Bool.false_eq_true]
  (repeat refine AWP.seq ?_)
  refine AWP.region_last hcall rfl fun K hK => ?_
  simp (maxDischargeDepth := 20) [hfi, Agr.refl, Agr.upd]
  apply hK; clear hK K; simp only [onNormal, onExit]
  (repeat refine AWP.seq ?_); refine AWP.cond (b := true) (by simp) ?_; simp only [if_true, if_false, Bool.false_eq_true]
  (repeat refine AWP.seq ?_)
  refine AWP.region_last hcall rfl fun K hK => ?_
  simp
  apply hK; clear hK K; simp only [onNormal, onExit]
  (try refine AWP.ret ?_); (try simp only [onNormal, onExit])
  refine ⟨by simp, ⟨_, by simp [ares, Tryz.results18]; rfl, by simp [ares1]⟩, fun k row hk => ?_⟩
  refine SubL.out ?_ k row hk; repeat (first | exact SubL.id | refine SubL.set ?_ | refine SubL.gone ?_ | (refine SubL.ex ?_ ?_; · simp; done) | refine SubL.fresh (hH [_]) ?_ | refine SubL.fresh (hH [_, _]) ?_ | (refine SubL.fresh (upd_none (hH [_]) ?_) ?_; · simp; done) | (refine SubL.fresh (upd_none (hH [_, _]) ?_) ?_; · simp; done))
set_option maxHeartbeats 1000000 in
/-- There are eight. -/
theorem create_many {S : SrvD} {L : List WvD} {n b : Nat} (nm : Name) (H : AHeap) (h : SrvIs H S L) (h9 : n <= 99) (hb : b < 8) (hL : L.length = 8) (hx : ¬ ∃ x ∈ L, x.b = n) : Sim Tryz.prog 18 [.ptr S.s 0, vi (n : Int), .agg [vi 0, vi (b : Int)]] nm H (.tup [.agg [vi 0, vi 0], vi 4]) H := by
  have hs := h.hs
  have hcall := onF_ok (atS_ok (f := 65) (l := [([.agg [vi 0, vi (b : Int)], vi 0], vb true)]) (by kernel_rfl) fun p hp nm H => by
    cases List.mem_singleton.1 hp
    exact user_sim rfl (by omega) (by omega) (by omega) (by omega) nm H) (onF_ok (find_fn (S := S) (L := L) (k := n) (by omega)) (@noCall_ok Tryz.prog))
  have hu := fun nm' H' => atS_at (xs := [.agg [vi 0, vi (b : Int)], vi 0]) (r := vb true) (l := []) nm' H'
  have hw := findV_none hx
  have hn0 : ¬ (n : Int) < 0 := by omega
  have hn9 : ¬ 99 < (n : Int) := by omega
  have hal : alen Tryz.prog 140 S.v = some (vi 8) := by
    rcases h.hv with ⟨_, h⟩ | ⟨n, hv, _⟩
    · rw [h] at hL; cases hL
    · rw [hv, hL]; rfl
  refine sim_go Tryz.func18 rfl rfl (Nat.le_of_ble_eq_true rfl) fun hH => ?_
  (repeat refine AWP.seq ?_)
  refine AWP.region_last hcall rfl fun K hK => ?_
  simp
  apply hK; clear hK K; simp only [onNormal, onExit]
  have hsn : ∀ x, ¬ S.s = x :: nm := fun x e => by have := hH [x]; rw [List.singleton_append, <- e, hs] at this; cases this
  have hfi := fun nm' G hG => find_at (k := n) hH h nm' G hG
  rw [hw] at hfi hcall
  (repeat refine AWP.seq ?_)
  refine AWP.region_last hcall rfl fun K hK => ?_
  simp [hs, hsn]
  apply hK; clear hK K; simp only [onNormal, onExit]
  (repeat refine AWP.seq ?_); refine AWP.block ?_
  (repeat refine AWP.seq ?_)
  refine AWP.draw_ops rfl hcall [0, 1, 3, 7, 15, 31, 63, 127, 127, 383, 895, 1919, 4095, 8191, 16383, 32767] [⟨0, false, []⟩, ⟨1, false, []⟩, ⟨2, false, []⟩, ⟨3, false, []⟩, ⟨4, false, []⟩, ⟨5, false, []⟩, ⟨6, false, []⟩, ⟨7, false, [0]⟩, ⟨8, false, []⟩, ⟨9, false, []⟩, ⟨10, false, []⟩, ⟨11, false, [0]⟩, ⟨12, true, []⟩, ⟨13, false, []⟩, ⟨14, false, []⟩, ⟨15, false, []⟩] rfl (by kernel_rfl) fun ops' hops K hK => ?_
  have o_0 := op_at hops 0 rfl
  have o_1 := op_at hops 1 rfl
  have o_2 := op_at hops 2 rfl
  have o_3 := op_at hops 3 rfl
  have o_4 := op_at hops 4 rfl
  have o_5 := op_at hops 5 rfl
  have o_6 := op_at hops 6 rfl
  have o_7 := op_at hops 7 rfl
  have o_8 := op_at hops 8 rfl
  have o_9 := op_at hops 9 rfl
  have o_10 := op_at hops 10 rfl
  have o_11 := op_at hops 11 rfl
  have o_12 := op_at hops 12 rfl
  have o_13 := op_at hops 13 rfl
  have o_14 := op_at hops 14 rfl
  have o_15 := op_at hops 15 rfl
  have o_sz : ops'.size = 16 := op_sz hops rfl
  clear hops
  first | (refine planW_ex (d := (some 18)) o_0 rfl rfl ?_) | (refine planW_go (d := (some 18)) o_0 rfl ?_ ?_; · (simp [o_0, o_1, o_2, o_3, o_4, o_5, o_6, o_7, o_8, o_9, o_10, o_11, o_12, o_13, o_14, o_15, List.lookup, hn0, hn9, hs, hsn, hu]; done)) | (refine planW_skip (d := (some 18)) o_0 rfl ?_ ?_; · (simp [o_0, o_1, o_2, o_3, o_4, o_5, o_6, o_7, o_8, o_9, o_10, o_11, o_12, o_13, o_14, o_15, List.lookup, hn0, hn9, hs, hsn, hu]; done))
  try refine ⟨_, by simp [List.lookup, hn0, hn9, hs, hsn, hu]; try rfl, trivial, ?_⟩
  first | (refine planW_ex (d := (some 19)) o_1 rfl rfl ?_) | (refine planW_go (d := (some 19)) o_1 rfl ?_ ?_; · (simp [o_0, o_1, o_2, o_3, o_4, o_5, o_6, o_7, o_8, o_9, o_10, o_11, o_12, o_13, o_14, o_15, List.lookup, hn0, hn9, hs, hsn, hu]; done)) | (refine planW_skip (d := (some 19)) o_1 rfl ?_ ?_; · (simp [o_0, o_1, o_2, o_3, o_4, o_5, o_6, o_7, o_8, o_9, o_10, o_11, o_12, o_13, o_14, o_15, List.lookup, hn0, hn9, hs, hsn, hu]; done))
  try refine ⟨_, by simp [List.lookup, hn0, hn9, hs, hsn, hu]; try rfl, trivial, ?_⟩
  first | (refine planW_ex (d := (some 20)) o_2 rfl rfl ?_) | (refine planW_go (d := (some 20)) o_2 rfl ?_ ?_; · (simp [o_0, o_1, o_2, o_3, o_4, o_5, o_6, o_7, o_8, o_9, o_10, o_11, o_12, o_13, o_14, o_15, List.lookup, hn0, hn9, hs, hsn, hu]; done)) | (refine planW_skip (d := (some 20)) o_2 rfl ?_ ?_; · (simp [o_0, o_1, o_2, o_3, o_4, o_5, o_6, o_7, o_8, o_9, o_10, o_11, o_12, o_13, o_14, o_15, List.lookup, hn0, hn9, hs, hsn, hu]; done))
  try refine ⟨_, by simp [List.lookup, hn0, hn9, hs, hsn, hu]; try rfl, trivial, ?_⟩
  first | (refine planW_ex (d := (some 21)) o_3 rfl rfl ?_) | (refine planW_go (d := (some 21)) o_3 rfl ?_ ?_; · (simp [o_0, o_1, o_2, o_3, o_4, o_5, o_6, o_7, o_8, o_9, o_10, o_11, o_12, o_13, o_14, o_15, List.lookup, hn0, hn9, hs, hsn, hu]; done)) | (refine planW_skip (d := (some 21)) o_3 rfl ?_ ?_; · (simp [o_0, o_1, o_2, o_3, o_4, o_5, o_6, o_7, o_8, o_9, o_10, o_11, o_12, o_13, o_14, o_15, List.lookup, hn0, hn9, hs, hsn, hu]; done))
  try refine ⟨_, by simp [List.lookup, hn0, hn9, hs, hsn, hu]; try rfl, trivial, ?_⟩
  first | (refine planW_ex (d := (some 22)) o_4 rfl rfl ?_) | (refine planW_go (d := (some 22)) o_4 rfl ?_ ?_; · (simp [o_0, o_1, o_2, o_3, o_4, o_5, o_6, o_7, o_8, o_9, o_10, o_11, o_12, o_13, o_14, o_15, List.lookup, hn0, hn9, hs, hsn, hu]; done)) | (refine planW_skip (d := (some 22)) o_4 rfl ?_ ?_; · (simp [o_0, o_1, o_2, o_3, o_4, o_5, o_6, o_7, o_8, o_9, o_10, o_11, o_12, o_13, o_14, o_15, List.lookup, hn0, hn9, hs, hsn, hu]; done))
  try refine ⟨_, by simp [List.lookup, hn0, hn9, hs, hsn, hu]; try rfl, trivial, ?_⟩
  first | (refine planW_ex (d := (some 23)) o_5 rfl rfl ?_) | (refine planW_go (d := (some 23)) o_5 rfl ?_ ?_; · (simp [o_0, o_1, o_2, o_3, o_4, o_5, o_6, o_7, o_8, o_9, o_10, o_11, o_12, o_13, o_14, o_15, List.lookup, hn0, hn9, hs, hsn, hu]; done)) | (refine planW_skip (d := (some 23)) o_5 rfl ?_ ?_; · (simp [o_0, o_1, o_2, o_3, o_4, o_5, o_6, o_7, o_8, o_9, o_10, o_11, o_12, o_13, o_14, o_15, List.lookup, hn0, hn9, hs, hsn, hu]; done))
  try refine ⟨_, by simp [List.lookup, hn0, hn9, hs, hsn, hu]; try rfl, trivial, ?_⟩
  first | (refine planW_ex (d := (some 24)) o_6 rfl rfl ?_) | (refine planW_go (d := (some 24)) o_6 rfl ?_ ?_; · (simp [o_0, o_1, o_2, o_3, o_4, o_5, o_6, o_7, o_8, o_9, o_10, o_11, o_12, o_13, o_14, o_15, List.lookup, hn0, hn9, hs, hsn, hu]; done)) | (refine planW_skip (d := (some 24)) o_6 rfl ?_ ?_; · (simp [o_0, o_1, o_2, o_3, o_4, o_5, o_6, o_7, o_8, o_9, o_10, o_11, o_12, o_13, o_14, o_15, List.lookup, hn0, hn9, hs, hsn, hu]; done))
  try refine ⟨_, by simp [List.lookup, hn0, hn9, hs, hsn, hu]; try rfl, trivial, ?_⟩
  first | (refine planW_ex (d := (some 25)) o_7 rfl rfl ?_) | (refine planW_go (d := (some 25)) o_7 rfl ?_ ?_; · (simp [o_0, o_1, o_2, o_3, o_4, o_5, o_6, o_7, o_8, o_9, o_10, o_11, o_12, o_13, o_14, o_15, List.lookup, hn0, hn9, hs, hsn, hu]; done)) | (refine planW_skip (d := (some 25)) o_7 rfl ?_ ?_; · (simp [o_0, o_1, o_2, o_3, o_4, o_5, o_6, o_7, o_8, o_9, o_10, o_11, o_12, o_13, o_14, o_15, List.lookup, hn0, hn9, hs, hsn, hu]; done))
  try refine ⟨_, by simp [List.lookup, hn0, hn9, hs, hsn, hu]; try rfl, by simp [chkW, List.lookup, List.lookup, hn0, hn9, hs, hsn, hu], ?_⟩
  first | (refine planW_ex (d := (some 26)) o_8 rfl rfl ?_) | (refine planW_go (d := (some 26)) o_8 rfl ?_ ?_; · (simp [o_0, o_1, o_2, o_3, o_4, o_5, o_6, o_7, o_8, o_9, o_10, o_11, o_12, o_13, o_14, o_15, List.lookup, hn0, hn9, hs, hsn, hu]; done)) | (refine planW_skip (d := (some 26)) o_8 rfl ?_ ?_; · (simp [o_0, o_1, o_2, o_3, o_4, o_5, o_6, o_7, o_8, o_9, o_10, o_11, o_12, o_13, o_14, o_15, List.lookup, hn0, hn9, hs, hsn, hu]; done))
  try refine ⟨_, by simp [List.lookup, hn0, hn9, hs, hsn, hu]; try rfl, trivial, ?_⟩
  first | (refine planW_ex (d := (some 27)) o_9 rfl rfl ?_) | (refine planW_go (d := (some 27)) o_9 rfl ?_ ?_; · (simp [o_0, o_1, o_2, o_3, o_4, o_5, o_6, o_7, o_8, o_9, o_10, o_11, o_12, o_13, o_14, o_15, List.lookup, hn0, hn9, hs, hsn, hu]; done)) | (refine planW_skip (d := (some 27)) o_9 rfl ?_ ?_; · (simp [o_0, o_1, o_2, o_3, o_4, o_5, o_6, o_7, o_8, o_9, o_10, o_11, o_12, o_13, o_14, o_15, List.lookup, hn0, hn9, hs, hsn, hu]; done))
  try refine ⟨_, by simp [List.lookup, hn0, hn9, hs, hsn, hu]; try rfl, trivial, ?_⟩
  first | (refine planW_ex (d := (some 28)) o_10 rfl rfl ?_) | (refine planW_go (d := (some 28)) o_10 rfl ?_ ?_; · (simp [o_0, o_1, o_2, o_3, o_4, o_5, o_6, o_7, o_8, o_9, o_10, o_11, o_12, o_13, o_14, o_15, List.lookup, hn0, hn9, hs, hsn, hu]; done)) | (refine planW_skip (d := (some 28)) o_10 rfl ?_ ?_; · (simp [o_0, o_1, o_2, o_3, o_4, o_5, o_6, o_7, o_8, o_9, o_10, o_11, o_12, o_13, o_14, o_15, List.lookup, hn0, hn9, hs, hsn, hu]; done))
  try refine ⟨_, by simp [List.lookup, hn0, hn9, hs, hsn, hu]; try rfl, trivial, ?_⟩
  first | (refine planW_ex (d := (some 29)) o_11 rfl rfl ?_) | (refine planW_go (d := (some 29)) o_11 rfl ?_ ?_; · (simp [o_0, o_1, o_2, o_3, o_4, o_5, o_6, o_7, o_8, o_9, o_10, o_11, o_12, o_13, o_14, o_15, List.lookup, hn0, hn9, hs, hsn, hu]; done)) | (refine planW_skip (d := (some 29)) o_11 rfl ?_ ?_; · (simp [o_0, o_1, o_2, o_3, o_4, o_5, o_6, o_7, o_8, o_9, o_10, o_11, o_12, o_13, o_14, o_15, List.lookup, hn0, hn9, hs, hsn, hu]; done))
  try refine ⟨_, by simp [List.lookup, hn0, hn9, hs, hsn, hu]; try rfl, by simp [chkW, List.lookup, List.lookup, hn0, hn9, hs, hsn, hu], ?_⟩
  first | (refine planW_ex (d := (some 30)) o_12 rfl rfl ?_) | (refine planW_go (d := (some 30)) o_12 rfl ?_ ?_; · (simp [o_0, o_1, o_2, o_3, o_4, o_5, o_6, o_7, o_8, o_9, o_10, o_11, o_12, o_13, o_14, o_15, List.lookup, hn0, hn9, hs, hsn, hu]; done)) | (refine planW_skip (d := (some 30)) o_12 rfl ?_ ?_; · (simp [o_0, o_1, o_2, o_3, o_4, o_5, o_6, o_7, o_8, o_9, o_10, o_11, o_12, o_13, o_14, o_15, List.lookup, hn0, hn9, hs, hsn, hu]; done))
  try refine ⟨_, by simp [List.lookup, hn0, hn9, hs, hsn, hu]; try rfl, trivial, ?_⟩
  first | (refine planW_ex (d := (some 31)) o_13 rfl rfl ?_) | (refine planW_go (d := (some 31)) o_13 rfl ?_ ?_; · (simp [o_0, o_1, o_2, o_3, o_4, o_5, o_6, o_7, o_8, o_9, o_10, o_11, o_12, o_13, o_14, o_15, List.lookup, hn0, hn9, hs, hsn, hu]; done)) | (refine planW_skip (d := (some 31)) o_13 rfl ?_ ?_; · (simp [o_0, o_1, o_2, o_3, o_4, o_5, o_6, o_7, o_8, o_9, o_10, o_11, o_12, o_13, o_14, o_15, List.lookup, hn0, hn9, hs, hsn, hu]; done))
  try refine ⟨_, by simp [List.lookup, hn0, hn9, hs, hsn, hu]; try rfl, trivial, ?_⟩
  first | (refine planW_ex (d := (some 32)) o_14 rfl rfl ?_) | (refine planW_go (d := (some 32)) o_14 rfl ?_ ?_; · (simp [o_0, o_1, o_2, o_3, o_4, o_5, o_6, o_7, o_8, o_9, o_10, o_11, o_12, o_13, o_14, o_15, List.lookup, hn0, hn9, hs, hsn, hu]; done)) | (refine planW_skip (d := (some 32)) o_14 rfl ?_ ?_; · (simp [o_0, o_1, o_2, o_3, o_4, o_5, o_6, o_7, o_8, o_9, o_10, o_11, o_12, o_13, o_14, o_15, List.lookup, hn0, hn9, hs, hsn, hu]; done))
  try refine ⟨_, by simp [List.lookup, hn0, hn9, hs, hsn, hu]; try rfl, trivial, ?_⟩
  first | (refine planW_ex (d := (some 17)) o_15 rfl rfl ?_) | (refine planW_go (d := (some 17)) o_15 rfl ?_ ?_; · (simp [o_0, o_1, o_2, o_3, o_4, o_5, o_6, o_7, o_8, o_9, o_10, o_11, o_12, o_13, o_14, o_15, List.lookup, hn0, hn9, hs, hsn, hu]; done)) | (refine planW_skip (d := (some 17)) o_15 rfl ?_ ?_; · (simp [o_0, o_1, o_2, o_3, o_4, o_5, o_6, o_7, o_8, o_9, o_10, o_11, o_12, o_13, o_14, o_15, List.lookup, hn0, hn9, hs, hsn, hu]; done))
  try refine ⟨_, by simp [List.lookup, hn0, hn9, hs, hsn, hu]; try rfl, trivial, ?_⟩
  refine planW_end o_sz ?_
  apply hK; clear hK K o_0 o_1 o_2 o_3 o_4 o_5 o_6 o_7 o_8 o_9 o_10 o_11 o_12 o_13 o_14 o_15 o_sz; simp only [onNormal, onExit, tput]
  (repeat refine AWP.seq ?_); refine AWP.cond (b := false) (by simp) ?_; simp only [if_true, if_false, Bool.false_eq_true]
  (repeat refine AWP.seq ?_)
  refine AWP.region_last hcall rfl fun K hK => ?_
  simp (maxDischargeDepth := 20) [hfi, Agr.refl, Agr.upd]
  apply hK; clear hK K; simp only [onNormal, onExit]
  (repeat refine AWP.seq ?_); refine AWP.cond (b := false) (by simp) ?_; simp only [if_true, if_false, Bool.false_eq_true]
  (repeat refine AWP.seq ?_)
  refine AWP.region_last hcall rfl fun K hK => ?_
  simp [-alen, hs, hsn, hal]
  apply hK; clear hK K; simp only [onNormal, onExit]
  (repeat refine AWP.seq ?_); refine AWP.cond (b := true) (by simp) ?_; simp only [if_true, if_false, Bool.false_eq_true]
  (repeat refine AWP.seq ?_)
  refine AWP.region_last hcall rfl fun K hK => ?_
  simp
  apply hK; clear hK K; simp only [onNormal, onExit]
  (try refine AWP.ret ?_); (try simp only [onNormal, onExit])
  refine ⟨by simp, ⟨_, by simp [ares, Tryz.results18]; rfl, by simp [ares1]⟩, fun k row hk => ?_⟩
  refine SubL.out ?_ k row hk; repeat (first | exact SubL.id | refine SubL.set ?_ | refine SubL.gone ?_ | (refine SubL.ex ?_ ?_; · simp; done) | refine SubL.fresh (hH [_]) ?_ | refine SubL.fresh (hH [_, _]) ?_ | (refine SubL.fresh (upd_none (hH [_]) ?_) ?_; · simp; done) | (refine SubL.fresh (upd_none (hH [_, _]) ?_) ?_; · simp; done))
end Go.Proofs.YtjinjfblilacaaaGreat.Den
end
section
set_option linter.unusedSimpArgs false
set_option linter.unusedVariables false
set_option maxRecDepth 1000000
namespace Go.Proofs.YtjinjfblilacaaaGreat.Den
open Go.RowKit
def rhoB : Vals := ⟨fun _ => 0, fun _ => 0, fun _ _ _ => 0⟩
theorem ovr0_ok (ρ : Vals) : OvrOK Tryz.prog ρ (fun _ => none) := fun f g h => by cases h
noncomputable def callE : SCall := gscall [] Tryz.prog 1000000 (fun _ => none) 60
theorem callE_ok (ρ : Vals) : SCallOK Tryz.prog ρ callE := by
  unfold callE
  rw [gscall_eq]
  exact scall_ok FOk.nil (ovr0_ok ρ) 60
theorem bg0_ok : pzOK callE bg0 = true := by decide +kernel
theorem begin_holds (ρ : Vals) : bg0.Holds Tryz.prog ρ := pz_holds bg0_ok (callE_ok ρ)
theorem known19_run : isTrue (callE 15 [] ⟨0, .nil⟩) = true := by decide +kernel
theorem known19_ok : FnOK Tryz.prog 15 trueS := fn_true (callE_ok rhoB) known19_run
end Go.Proofs.YtjinjfblilacaaaGreat.Den
end
section
set_option linter.unusedSimpArgs false
set_option linter.unusedVariables false
set_option maxRecDepth 100000
namespace Go.Proofs.YtjinjfblilacaaaGreat.Den
open Go.RowKit FI
attribute [local simp] runList aop abuiltin acall awanted ayielded env T0 tput tset Ran aload astore setMany upd binV aslice aindexAddr apart aindex alen acopy srcCells natOf boundOf aeq AV.nilEq convV appK fillA List.range List.range.loop onF isU8 rowOf
/-- The list of waves is taken out. -/
def vrem (v : AV) (H : AHeap) : AHeap := match v with
  | .sl n _ _ _ => upd H n none
  | _ => H
open Classical in
/-- Append of a log, of a row's bytes. -/
noncomputable def lappS (S : SrvD) (L : List WvD) : Spec := fun args nm H =>
  match args with
  | [.ptr l 0, .sl y 0 k 1] =>
    match H y with
    | some cells => if l = S.l /\ SrvIs H S L /\ cells.all AV.one = true /\ cells.length = k /\ (0 < k /\ k <= 16384) /\ S.at' + (8 + k) <= S.N /\ y ≠ S.d /\ y ≠ S.b /\ y ≠ S.l /\ S.cnt < 1000000 then some (vi 0, lPut S.l S.d S.b S.row cells S.N S.sy S.at' S.cnt (vi (S.saf : Int)) k H) else none
    | none => none
  | _ => none
theorem lapp_ok {S : SrvD} {L : List WvD} : FnOK Tryz.prog 68 (lappS S L) := by
  refine ⟨by kernel_rfl, fun args nm H r H' h => ?_⟩
  unfold lappS at h
  split at h
  · split at h
    · rename_i y k cells hy
      split at h
      · rename_i hc
        obtain ⟨rfl, h1, h3, h4, h5, h6, h7, h8, h9, h10⟩ := hc
        cases h
        have := h1.sm
        have := h1.big
        exact lappend_sim nm H h1.hl (by omega) h1.hd h1.hb h1.hN h1.big (by omega) hy h3 h4 h5 h6 h1.n4 h1.n6 h1.n5 h7 h8 h9
      · cases h
    · cases h
  · cases h
def cW (nm : Name) : Name := freshN (42 :: nm)
def cR (nm : Name) : Name := recsN (56 :: nm)
def cN (nm : Name) : Name := 64 :: nm
/-- The server behind a wavelet more. -/
def nextS (nm : Name) (S : SrvD) (L : List WvD) (n b : Nat) : SrvD := { S with v := .sl (cN nm) 0 (L.length + 1) 1, row := setMany S.row S.at' (bs (i8 (33 : Nat)) ++ bs (recB 0 n 0 b)), at' := S.at' + (8 + 33), cnt := S.cnt + 1 }
def nextL (nm : Name) (L : List WvD) (n b : Nat) : List WvD := L ++ [⟨cW nm, cR nm, n, b⟩]
def createH (nm : Name) (S : SrvD) (L : List WvD) (n b : Nat) (H : AHeap) : AHeap :=
  upd (upd (upd (upd (upd (upd (upd (vrem S.v H) S.b (some (setMany S.row S.at' (bs (i8 (33 : Nat)) ++ bs (recB 0 n 0 b))))) S.d (some [.sl S.b 0 S.N 1, cx S.sy (S.at' + (8 + 33)), vi 0, vb false])) S.l (some [.ptr S.d 0, vi ((S.cnt : Int) + 1), vi (S.saf : Int)])) (cR nm) (some [vi (S.cnt : Int)])) (cW nm) (some (waveA 0 n 0 b (.sl (cR nm) 0 1 1)))) (cN nm) (some (L.map (fun x => .ptr x.w 0) ++ [.ptr (cW nm) 0]))) S.s (some [vi 0, S.x1, S.x2, S.x3, .ptr S.l 0, .sl (cN nm) 0 (L.length + 1) 1, S.x6, S.x7])
set_option maxHeartbeats 2000000 in
theorem create_walk {S : SrvD} {L : List WvD} {n b : Nat} (nm : Name) (H : AHeap) (h : SrvIs H S L) (h9 : n <= 99) (hb : b < 8) (hL : L.length < 8) (hx : ¬ ∃ x ∈ L, x.b = n) (hroom : S.at' + 41 <= S.N) (hcnt : S.cnt < 1000) : Sim Tryz.prog 18 [.ptr S.s 0, vi (n : Int), .agg [vi 0, vi (b : Int)]] nm H (.tup [.agg [vi 0, vi (n : Int)], vi 0]) (createH nm S L n b H) := by
  have hs := h.hs
  have hcall := onF_ok (atS_ok (f := 65) (l := [([.agg [vi 0, vi (b : Int)], vi 0], vb true)]) (by kernel_rfl) fun p hp nm H => by
    cases List.mem_singleton.1 hp
    exact user_sim rfl (by omega) (by omega) (by omega) (by omega) nm H) (onF_ok (find_fn (S := S) (L := L) (k := n) (by omega)) (onF_ok (stS_ok (f := 67) (xs := [.ptr S.s 0, .agg [vi 0, vi (n : Int)], .agg [vi 0, vi (b : Int)]]) (pre := fun H => SrvIs H S L) (r := fun nm => .ptr (freshN nm) 0) (post := fun nm H => upd H (freshN nm) (some (waveA 0 n 0 b vnil))) (by kernel_rfl) fun nm H h => fresh_sim (a := 0) (b := n) (c := 0) (d := b) (by omega) (by omega) (by omega) (by omega) nm H h.hs rfl) (onF_ok (lapp_ok (S := S) (L := L)) (@noCall_ok Tryz.prog))))
  have hu := fun nm' H' => atS_at (xs := [.agg [vi 0, vi (b : Int)], vi 0]) (r := vb true) (l := []) nm' H'
  have hw := findV_none hx
  have hn0 : ¬ (n : Int) < 0 := by omega
  have hn9 : ¬ 99 < (n : Int) := by omega
  have hL8 : ¬ (8 : Int) <= (L.length : Int) := by omega
  have hal : alen Tryz.prog 140 S.v = some (vi (L.length : Nat)) := by
    rcases h.hv with ⟨h, h0⟩ | ⟨n, hv, _⟩
    · rw [h, h0]; rfl
    · rw [hv]; rfl
  refine sim_go Tryz.func18 rfl rfl (Nat.le_of_ble_eq_true rfl) fun hH => ?_
  (repeat refine AWP.seq ?_)
  refine AWP.region_last hcall rfl fun K hK => ?_
  simp
  apply hK; clear hK K; simp only [onNormal, onExit]
  have hsn : ∀ x, ¬ S.s = x :: nm := fun x e => by have := hH [x]; rw [List.singleton_append, <- e, hs] at this; cases this
  have hfi := fun nm' G hG => find_at (k := n) hH h nm' G hG
  rw [hw] at hfi hcall
  have hfr : ∀ nm' G, Agr nm H G -> stS [.ptr S.s 0, .agg [vi 0, vi (n : Int)], .agg [vi 0, vi (b : Int)]] (fun H => SrvIs H S L) (fun nm => .ptr (freshN nm) 0) (fun nm H => upd H (freshN nm) (some (waveA 0 n 0 b vnil))) [.ptr S.s 0, .agg [vi 0, vi (n : Int)], .agg [vi 0, vi (b : Int)]] nm' G = some (.ptr (freshN nm') 0, upd G (freshN nm') (some (waveA 0 n 0 b vnil))) := fun nm' G hG => stS_at (h.mono fun k row hk => hG.row hH hk)
  (repeat refine AWP.seq ?_)
  refine AWP.region_last hcall rfl fun K hK => ?_
  simp [hs, hsn]
  apply hK; clear hK K; simp only [onNormal, onExit]
  (repeat refine AWP.seq ?_); refine AWP.block ?_
  (repeat refine AWP.seq ?_)
  refine AWP.draw_ops rfl hcall [0, 1, 3, 7, 15, 31, 63, 127, 127, 383, 895, 1919, 4095, 8191, 16383, 32767] [⟨0, false, []⟩, ⟨1, false, []⟩, ⟨2, false, []⟩, ⟨3, false, []⟩, ⟨4, false, []⟩, ⟨5, false, []⟩, ⟨6, false, []⟩, ⟨7, false, [0]⟩, ⟨8, false, []⟩, ⟨9, false, []⟩, ⟨10, false, []⟩, ⟨11, false, [0]⟩, ⟨12, true, []⟩, ⟨13, false, []⟩, ⟨14, false, []⟩, ⟨15, false, []⟩] rfl (by kernel_rfl) fun ops' hops K hK => ?_
  have o_0 := op_at hops 0 rfl
  have o_1 := op_at hops 1 rfl
  have o_2 := op_at hops 2 rfl
  have o_3 := op_at hops 3 rfl
  have o_4 := op_at hops 4 rfl
  have o_5 := op_at hops 5 rfl
  have o_6 := op_at hops 6 rfl
  have o_7 := op_at hops 7 rfl
  have o_8 := op_at hops 8 rfl
  have o_9 := op_at hops 9 rfl
  have o_10 := op_at hops 10 rfl
  have o_11 := op_at hops 11 rfl
  have o_12 := op_at hops 12 rfl
  have o_13 := op_at hops 13 rfl
  have o_14 := op_at hops 14 rfl
  have o_15 := op_at hops 15 rfl
  have o_sz : ops'.size = 16 := op_sz hops rfl
  clear hops
  first | (refine planW_ex (d := (some 18)) o_0 rfl rfl ?_) | (refine planW_go (d := (some 18)) o_0 rfl ?_ ?_; · (simp [o_0, o_1, o_2, o_3, o_4, o_5, o_6, o_7, o_8, o_9, o_10, o_11, o_12, o_13, o_14, o_15, List.lookup, hn0, hn9, hs, hsn, hu]; done)) | (refine planW_skip (d := (some 18)) o_0 rfl ?_ ?_; · (simp [o_0, o_1, o_2, o_3, o_4, o_5, o_6, o_7, o_8, o_9, o_10, o_11, o_12, o_13, o_14, o_15, List.lookup, hn0, hn9, hs, hsn, hu]; done))
  try refine ⟨_, by simp [List.lookup, hn0, hn9, hs, hsn, hu]; try rfl, trivial, ?_⟩
  first | (refine planW_ex (d := (some 19)) o_1 rfl rfl ?_) | (refine planW_go (d := (some 19)) o_1 rfl ?_ ?_; · (simp [o_0, o_1, o_2, o_3, o_4, o_5, o_6, o_7, o_8, o_9, o_10, o_11, o_12, o_13, o_14, o_15, List.lookup, hn0, hn9, hs, hsn, hu]; done)) | (refine planW_skip (d := (some 19)) o_1 rfl ?_ ?_; · (simp [o_0, o_1, o_2, o_3, o_4, o_5, o_6, o_7, o_8, o_9, o_10, o_11, o_12, o_13, o_14, o_15, List.lookup, hn0, hn9, hs, hsn, hu]; done))
  try refine ⟨_, by simp [List.lookup, hn0, hn9, hs, hsn, hu]; try rfl, trivial, ?_⟩
  first | (refine planW_ex (d := (some 20)) o_2 rfl rfl ?_) | (refine planW_go (d := (some 20)) o_2 rfl ?_ ?_; · (simp [o_0, o_1, o_2, o_3, o_4, o_5, o_6, o_7, o_8, o_9, o_10, o_11, o_12, o_13, o_14, o_15, List.lookup, hn0, hn9, hs, hsn, hu]; done)) | (refine planW_skip (d := (some 20)) o_2 rfl ?_ ?_; · (simp [o_0, o_1, o_2, o_3, o_4, o_5, o_6, o_7, o_8, o_9, o_10, o_11, o_12, o_13, o_14, o_15, List.lookup, hn0, hn9, hs, hsn, hu]; done))
  try refine ⟨_, by simp [List.lookup, hn0, hn9, hs, hsn, hu]; try rfl, trivial, ?_⟩
  first | (refine planW_ex (d := (some 21)) o_3 rfl rfl ?_) | (refine planW_go (d := (some 21)) o_3 rfl ?_ ?_; · (simp [o_0, o_1, o_2, o_3, o_4, o_5, o_6, o_7, o_8, o_9, o_10, o_11, o_12, o_13, o_14, o_15, List.lookup, hn0, hn9, hs, hsn, hu]; done)) | (refine planW_skip (d := (some 21)) o_3 rfl ?_ ?_; · (simp [o_0, o_1, o_2, o_3, o_4, o_5, o_6, o_7, o_8, o_9, o_10, o_11, o_12, o_13, o_14, o_15, List.lookup, hn0, hn9, hs, hsn, hu]; done))
  try refine ⟨_, by simp [List.lookup, hn0, hn9, hs, hsn, hu]; try rfl, trivial, ?_⟩
  first | (refine planW_ex (d := (some 22)) o_4 rfl rfl ?_) | (refine planW_go (d := (some 22)) o_4 rfl ?_ ?_; · (simp [o_0, o_1, o_2, o_3, o_4, o_5, o_6, o_7, o_8, o_9, o_10, o_11, o_12, o_13, o_14, o_15, List.lookup, hn0, hn9, hs, hsn, hu]; done)) | (refine planW_skip (d := (some 22)) o_4 rfl ?_ ?_; · (simp [o_0, o_1, o_2, o_3, o_4, o_5, o_6, o_7, o_8, o_9, o_10, o_11, o_12, o_13, o_14, o_15, List.lookup, hn0, hn9, hs, hsn, hu]; done))
  try refine ⟨_, by simp [List.lookup, hn0, hn9, hs, hsn, hu]; try rfl, trivial, ?_⟩
  first | (refine planW_ex (d := (some 23)) o_5 rfl rfl ?_) | (refine planW_go (d := (some 23)) o_5 rfl ?_ ?_; · (simp [o_0, o_1, o_2, o_3, o_4, o_5, o_6, o_7, o_8, o_9, o_10, o_11, o_12, o_13, o_14, o_15, List.lookup, hn0, hn9, hs, hsn, hu]; done)) | (refine planW_skip (d := (some 23)) o_5 rfl ?_ ?_; · (simp [o_0, o_1, o_2, o_3, o_4, o_5, o_6, o_7, o_8, o_9, o_10, o_11, o_12, o_13, o_14, o_15, List.lookup, hn0, hn9, hs, hsn, hu]; done))
  try refine ⟨_, by simp [List.lookup, hn0, hn9, hs, hsn, hu]; try rfl, trivial, ?_⟩
  first | (refine planW_ex (d := (some 24)) o_6 rfl rfl ?_) | (refine planW_go (d := (some 24)) o_6 rfl ?_ ?_; · (simp [o_0, o_1, o_2, o_3, o_4, o_5, o_6, o_7, o_8, o_9, o_10, o_11, o_12, o_13, o_14, o_15, List.lookup, hn0, hn9, hs, hsn, hu]; done)) | (refine planW_skip (d := (some 24)) o_6 rfl ?_ ?_; · (simp [o_0, o_1, o_2, o_3, o_4, o_5, o_6, o_7, o_8, o_9, o_10, o_11, o_12, o_13, o_14, o_15, List.lookup, hn0, hn9, hs, hsn, hu]; done))
  try refine ⟨_, by simp [List.lookup, hn0, hn9, hs, hsn, hu]; try rfl, trivial, ?_⟩
  first | (refine planW_ex (d := (some 25)) o_7 rfl rfl ?_) | (refine planW_go (d := (some 25)) o_7 rfl ?_ ?_; · (simp [o_0, o_1, o_2, o_3, o_4, o_5, o_6, o_7, o_8, o_9, o_10, o_11, o_12, o_13, o_14, o_15, List.lookup, hn0, hn9, hs, hsn, hu]; done)) | (refine planW_skip (d := (some 25)) o_7 rfl ?_ ?_; · (simp [o_0, o_1, o_2, o_3, o_4, o_5, o_6, o_7, o_8, o_9, o_10, o_11, o_12, o_13, o_14, o_15, List.lookup, hn0, hn9, hs, hsn, hu]; done))
  try refine ⟨_, by simp [List.lookup, hn0, hn9, hs, hsn, hu]; try rfl, by simp [chkW, List.lookup, List.lookup, hn0, hn9, hs, hsn, hu], ?_⟩
  first | (refine planW_ex (d := (some 26)) o_8 rfl rfl ?_) | (refine planW_go (d := (some 26)) o_8 rfl ?_ ?_; · (simp [o_0, o_1, o_2, o_3, o_4, o_5, o_6, o_7, o_8, o_9, o_10, o_11, o_12, o_13, o_14, o_15, List.lookup, hn0, hn9, hs, hsn, hu]; done)) | (refine planW_skip (d := (some 26)) o_8 rfl ?_ ?_; · (simp [o_0, o_1, o_2, o_3, o_4, o_5, o_6, o_7, o_8, o_9, o_10, o_11, o_12, o_13, o_14, o_15, List.lookup, hn0, hn9, hs, hsn, hu]; done))
  try refine ⟨_, by simp [List.lookup, hn0, hn9, hs, hsn, hu]; try rfl, trivial, ?_⟩
  first | (refine planW_ex (d := (some 27)) o_9 rfl rfl ?_) | (refine planW_go (d := (some 27)) o_9 rfl ?_ ?_; · (simp [o_0, o_1, o_2, o_3, o_4, o_5, o_6, o_7, o_8, o_9, o_10, o_11, o_12, o_13, o_14, o_15, List.lookup, hn0, hn9, hs, hsn, hu]; done)) | (refine planW_skip (d := (some 27)) o_9 rfl ?_ ?_; · (simp [o_0, o_1, o_2, o_3, o_4, o_5, o_6, o_7, o_8, o_9, o_10, o_11, o_12, o_13, o_14, o_15, List.lookup, hn0, hn9, hs, hsn, hu]; done))
  try refine ⟨_, by simp [List.lookup, hn0, hn9, hs, hsn, hu]; try rfl, trivial, ?_⟩
  first | (refine planW_ex (d := (some 28)) o_10 rfl rfl ?_) | (refine planW_go (d := (some 28)) o_10 rfl ?_ ?_; · (simp [o_0, o_1, o_2, o_3, o_4, o_5, o_6, o_7, o_8, o_9, o_10, o_11, o_12, o_13, o_14, o_15, List.lookup, hn0, hn9, hs, hsn, hu]; done)) | (refine planW_skip (d := (some 28)) o_10 rfl ?_ ?_; · (simp [o_0, o_1, o_2, o_3, o_4, o_5, o_6, o_7, o_8, o_9, o_10, o_11, o_12, o_13, o_14, o_15, List.lookup, hn0, hn9, hs, hsn, hu]; done))
  try refine ⟨_, by simp [List.lookup, hn0, hn9, hs, hsn, hu]; try rfl, trivial, ?_⟩
  first | (refine planW_ex (d := (some 29)) o_11 rfl rfl ?_) | (refine planW_go (d := (some 29)) o_11 rfl ?_ ?_; · (simp [o_0, o_1, o_2, o_3, o_4, o_5, o_6, o_7, o_8, o_9, o_10, o_11, o_12, o_13, o_14, o_15, List.lookup, hn0, hn9, hs, hsn, hu]; done)) | (refine planW_skip (d := (some 29)) o_11 rfl ?_ ?_; · (simp [o_0, o_1, o_2, o_3, o_4, o_5, o_6, o_7, o_8, o_9, o_10, o_11, o_12, o_13, o_14, o_15, List.lookup, hn0, hn9, hs, hsn, hu]; done))
  try refine ⟨_, by simp [List.lookup, hn0, hn9, hs, hsn, hu]; try rfl, by simp [chkW, List.lookup, List.lookup, hn0, hn9, hs, hsn, hu], ?_⟩
  first | (refine planW_ex (d := (some 30)) o_12 rfl rfl ?_) | (refine planW_go (d := (some 30)) o_12 rfl ?_ ?_; · (simp [o_0, o_1, o_2, o_3, o_4, o_5, o_6, o_7, o_8, o_9, o_10, o_11, o_12, o_13, o_14, o_15, List.lookup, hn0, hn9, hs, hsn, hu]; done)) | (refine planW_skip (d := (some 30)) o_12 rfl ?_ ?_; · (simp [o_0, o_1, o_2, o_3, o_4, o_5, o_6, o_7, o_8, o_9, o_10, o_11, o_12, o_13, o_14, o_15, List.lookup, hn0, hn9, hs, hsn, hu]; done))
  try refine ⟨_, by simp [List.lookup, hn0, hn9, hs, hsn, hu]; try rfl, trivial, ?_⟩
  first | (refine planW_ex (d := (some 31)) o_13 rfl rfl ?_) | (refine planW_go (d := (some 31)) o_13 rfl ?_ ?_; · (simp [o_0, o_1, o_2, o_3, o_4, o_5, o_6, o_7, o_8, o_9, o_10, o_11, o_12, o_13, o_14, o_15, List.lookup, hn0, hn9, hs, hsn, hu]; done)) | (refine planW_skip (d := (some 31)) o_13 rfl ?_ ?_; · (simp [o_0, o_1, o_2, o_3, o_4, o_5, o_6, o_7, o_8, o_9, o_10, o_11, o_12, o_13, o_14, o_15, List.lookup, hn0, hn9, hs, hsn, hu]; done))
  try refine ⟨_, by simp [List.lookup, hn0, hn9, hs, hsn, hu]; try rfl, trivial, ?_⟩
  first | (refine planW_ex (d := (some 32)) o_14 rfl rfl ?_) | (refine planW_go (d := (some 32)) o_14 rfl ?_ ?_; · (simp [o_0, o_1, o_2, o_3, o_4, o_5, o_6, o_7, o_8, o_9, o_10, o_11, o_12, o_13, o_14, o_15, List.lookup, hn0, hn9, hs, hsn, hu]; done)) | (refine planW_skip (d := (some 32)) o_14 rfl ?_ ?_; · (simp [o_0, o_1, o_2, o_3, o_4, o_5, o_6, o_7, o_8, o_9, o_10, o_11, o_12, o_13, o_14, o_15, List.lookup, hn0, hn9, hs, hsn, hu]; done))
  try refine ⟨_, by simp [List.lookup, hn0, hn9, hs, hsn, hu]; try rfl, trivial, ?_⟩
  first | (refine planW_ex (d := (some 17)) o_15 rfl rfl ?_) | (refine planW_go (d := (some 17)) o_15 rfl ?_ ?_; · (simp [o_0, o_1, o_2, o_3, o_4, o_5, o_6, o_7, o_8, o_9, o_10, o_11, o_12, o_13, o_14, o_15, List.lookup, hn0, hn9, hs, hsn, hu]; done)) | (refine planW_skip (d := (some 17)) o_15 rfl ?_ ?_; · (simp [o_0, o_1, o_2, o_3, o_4, o_5, o_6, o_7, o_8, o_9, o_10, o_11, o_12, o_13, o_14, o_15, List.lookup, hn0, hn9, hs, hsn, hu]; done))
  try refine ⟨_, by simp [List.lookup, hn0, hn9, hs, hsn, hu]; try rfl, trivial, ?_⟩
  refine planW_end o_sz ?_
  apply hK; clear hK K o_0 o_1 o_2 o_3 o_4 o_5 o_6 o_7 o_8 o_9 o_10 o_11 o_12 o_13 o_14 o_15 o_sz; simp only [onNormal, onExit, tput]
  (repeat refine AWP.seq ?_); refine AWP.cond (b := false) (by simp) ?_; simp only [if_true, if_false, Bool.false_eq_true]
  (repeat refine AWP.seq ?_)
  refine AWP.region_last hcall rfl fun K hK => ?_
  simp (maxDischargeDepth := 20) [hfi, Agr.refl, Agr.upd]
  apply hK; clear hK K; simp only [onNormal, onExit]
  (repeat refine AWP.seq ?_); refine AWP.cond (b := false) (by simp) ?_; simp only [if_true, if_false, Bool.false_eq_true]
  (repeat refine AWP.seq ?_)
  refine AWP.region_last hcall rfl fun K hK => ?_
  simp [-alen, hs, hsn, hal, hL8]
  apply hK; clear hK K; simp only [onNormal, onExit]
  (repeat refine AWP.seq ?_); refine AWP.cond (b := false) (by simp [hL8]) ?_; simp only [if_true, if_false, Bool.false_eq_true]
  refine AWP.skip ?_; simp only [onNormal, onExit]
  (repeat refine AWP.seq ?_)
  refine AWP.region_last hcall rfl fun K hK => ?_
  simp (maxDischargeDepth := 20) [hfr, Agr.refl, Agr.upd]
  apply hK; clear hK K; simp only [onNormal, onExit]
  obtain ⟨W, hW⟩ : ∃ W, W = freshN (42 :: nm) := ⟨_, rfl⟩
  have hWu : Under nm W := ⟨[14, 42], hW⟩
  rw [<- hW]
  obtain ⟨G, hG⟩ : ∃ G, G = upd (upd (upd (upd (upd H (0 :: nm) (some [vi 0, vi (b : Int)])) (1 :: nm) (some [vi 0, vi 0])) (9 :: nm) (some [vi 0, vi 0])) (9 :: nm) (some [vi 0, vi (n : Int)])) W (some (waveA 0 n 0 b vnil)) := ⟨_, rfl⟩
  have gW : G W = some (waveA 0 n 0 b vnil) := by rw [hG, upd_same]
  have g9 : G (9 :: nm) = some [vi 0, vi (n : Int)] := by
    rw [hG, upd_ne _ _ (by rw [hW]; simp [freshN]), upd_same]
  have g1 : G (1 :: nm) = some [vi 0, vi 0] := by
    rw [hG, upd_ne _ _ (by rw [hW]; simp [freshN]), upd_ne _ _ (by simp), upd_ne _ _ (by simp), upd_same]
  have gA : ∀ k row, H k = some row -> G k = some row := fun k row hk => by
    have hk' : ¬ Under nm k := by rintro ⟨s, rfl⟩; rw [hH] at hk; cases hk
    rw [hG, upd_ne _ _ (by rintro rfl; exact hk' hWu)]
    exact (Agr.upd (Agr.upd (Agr.upd (Agr.upd (Agr.refl nm H))))).row hH hk
  have gR : ∀ k row, G k = some row -> Under nm k \/ H k = some row := fun k row hk => by
    by_cases hk' : Under nm k
    · exact .inl hk'
    · rw [hG, upd_ne _ _ (by rintro rfl; exact hk' hWu), (Agr.upd (Agr.upd (Agr.upd (Agr.upd (Agr.refl nm H))))) k hk'] at hk
      exact .inr hk
  rw [<- hG]
  have hnu : ∀ k row, H k = some row -> ∀ x, ¬ k = x :: nm := fun k row hk x e => by have := hH [x]; rw [List.singleton_append, <- e, hk] at this; cases this
  have hSG := h.mono gA
  have hWn : ∀ x, ¬ W = x :: nm := fun x e => by
    rw [hW] at e
    have := congrArg List.length e
    simp [freshN] at this
  have hWn' : ∀ x, ¬ x :: nm = W := fun x e => hWn x e.symm
  clear hcall
  have hcall := onF_ok (stS_ok (f := 69) (xs := [.ptr W 0]) (pre := fun H => H W = some (waveA 0 n 0 b vnil)) (r := fun nm => .sl nm 0 33 1) (post := fun nm H => upd H nm (some (bs (recB 0 n 0 b)))) (by kernel_rfl) fun nm H h => bytes_sim (a := 0) (b := n) (c := 0) (d := b) nm H h rfl rfl rfl rfl) (onF_ok (lapp_ok (S := S) (L := L)) (@noCall_ok Tryz.prog))
  have hby : ∀ nm', stS [.ptr W 0] (fun H => H W = some (waveA 0 n 0 b vnil)) (fun nm => .sl nm 0 33 1) (fun nm H => upd H nm (some (bs (recB 0 n 0 b)))) [.ptr W 0] nm' G = some (.sl nm' 0 33 1, upd G nm' (some (bs (recB 0 n 0 b)))) := fun nm' => stS_at gW
  have hmono : ∀ x (row : List AV) k r, H k = some r -> upd G (x :: nm) (some row) k = some r := fun x row k r hk => by rw [upd_ne _ _ (hnu k r hk x)]; exact gA k r hk
  have hap : ∀ x nm', lappS S L [.ptr S.l 0, .sl (x :: nm) 0 33 1] nm' (upd G (x :: nm) (some (bs (recB 0 n 0 b)))) = some (vi 0, lPut S.l S.d S.b S.row (bs (recB 0 n 0 b)) S.N S.sy S.at' S.cnt (vi (S.saf : Int)) 33 (upd G (x :: nm) (some (bs (recB 0 n 0 b))))) := fun x nm' => by
    unfold lappS
    simp only [upd_same]
    rw [if_pos ⟨rfl, h.mono (hmono x _), bs_one _, by rw [bs_length, recB_len], by decide, by omega, fun e => hnu _ _ h.hd x e.symm, fun e => hnu _ _ h.hb x e.symm, fun e => hnu _ _ h.hl x e.symm, by omega⟩]
  have gs := hSG.hs
  (repeat refine AWP.seq ?_)
  refine AWP.draw_ops rfl hcall [0, 1, 3, 7, 0, 16, 63, 127] [⟨4, false, []⟩, ⟨5, true, []⟩, ⟨0, false, []⟩, ⟨1, false, []⟩, ⟨2, false, []⟩, ⟨3, false, [0, 2]⟩, ⟨6, true, []⟩, ⟨7, false, []⟩] rfl (by kernel_rfl) fun ops' hops K hK => ?_
  have o_0 := op_at hops 0 rfl
  have o_1 := op_at hops 1 rfl
  have o_2 := op_at hops 2 rfl
  have o_3 := op_at hops 3 rfl
  have o_4 := op_at hops 4 rfl
  have o_5 := op_at hops 5 rfl
  have o_6 := op_at hops 6 rfl
  have o_7 := op_at hops 7 rfl
  have o_sz : ops'.size = 8 := op_sz hops rfl
  clear hops
  refine planW_ex (d := (some 56)) o_4 rfl rfl ⟨_, by simp [List.lookup, gs, hby, hap, hsn]; try rfl, trivial, ?_⟩
  clear o_4
  refine planW_ex (d := (some 57)) o_5 rfl rfl ⟨_, by simp [List.lookup, gs, hby, hap, hsn]; try rfl, trivial, ?_⟩
  clear o_5
  refine planW_ex (d := (some 52)) o_0 rfl rfl ⟨_, by simp [List.lookup, gs, hby, hap, hsn]; try rfl, trivial, ?_⟩
  clear o_0
  refine planW_ex (d := (some 53)) o_1 rfl rfl ⟨_, by simp [List.lookup, gs, hby, hap, hsn]; try rfl, trivial, ?_⟩
  clear o_1
  refine planW_ex (d := (some 54)) o_2 rfl rfl ⟨_, by simp [List.lookup, gs, hby, hap, hsn]; try rfl, trivial, ?_⟩
  clear o_2
  refine planW_ex (d := (some 55)) o_3 rfl rfl ⟨_, by simp [List.lookup, gs, hby, hap, hsn]; try rfl, by simp [chkW, List.lookup, List.lookup, gs, hby, hap, hsn], ?_⟩
  clear o_3
  refine planW_ex (d := (some 58)) o_6 rfl rfl ⟨_, by simp [List.lookup, gs, hby, hap, hsn]; try rfl, trivial, ?_⟩
  clear o_6
  refine planW_ex (d := (some 10)) o_7 rfl rfl ⟨_, by simp [List.lookup, gs, hby, hap, hsn]; try rfl, trivial, ?_⟩
  clear o_7
  refine planW_end o_sz ?_
  apply hK; clear hK K o_sz; simp only [onNormal, onExit, tput]
  (repeat refine AWP.seq ?_)
  refine AWP.region_last hcall rfl fun K hK => ?_
  simp
  apply hK; clear hK K; simp only [onNormal, onExit]
  (repeat refine AWP.seq ?_); refine AWP.cond (b := false) (by simp) ?_; simp only [if_true, if_false, Bool.false_eq_true]
  refine AWP.skip ?_; simp only [onNormal, onExit]
  obtain ⟨Q, hQ⟩ : ∃ Q, Q = lPut S.l S.d S.b S.row (bs (recB 0 n 0 b)) S.N S.sy S.at' S.cnt (vi (S.saf : Int)) 33 (upd G (49 :: nm) (some (bs (recB 0 n 0 b)))) := ⟨_, rfl⟩
  rw [<- hQ]
  have hWl : ¬ W = S.l := fun e => by obtain ⟨s, hs'⟩ := hWu; have := hH s; rw [<- hs', e, h.hl] at this; cases this
  have hWd : ¬ W = S.d := fun e => by obtain ⟨s, hs'⟩ := hWu; have := hH s; rw [<- hs', e, h.hd] at this; cases this
  have hWb : ¬ W = S.b := fun e => by obtain ⟨s, hs'⟩ := hWu; have := hH s; rw [<- hs', e, h.hb] at this; cases this
  have hWs : ¬ W = S.s := fun e => by obtain ⟨s, hs'⟩ := hWu; have := hH s; rw [<- hs', e, h.hs] at this; cases this
  have n9 : ∀ k row, H k = some row -> ∀ x, ¬ x :: nm = k := fun k row hk x e => hnu k row hk x e.symm
  have qs : Q S.s = some [vi 0, S.x1, S.x2, S.x3, .ptr S.l 0, S.v, S.x6, S.x7] := by
    rw [hQ]; simp only [lPut, dPut]
    rw [upd_ne _ _ h.n1, upd_ne _ _ h.n2, upd_ne _ _ h.n3]; exact hmono _ _ _ _ h.hs
  have ql : Q S.l = some [.ptr S.d 0, vi ((S.cnt : Int) + 1), vi (S.saf : Int)] := by
    rw [hQ]; simp only [lPut, dPut]; rw [upd_same]
  have qW : Q W = some (waveA 0 n 0 b vnil) := by
    rw [hQ]; simp only [lPut, dPut]
    rw [upd_ne _ _ hWl, upd_ne _ _ hWd, upd_ne _ _ hWb, upd_ne _ _ (hWn 49)]; exact gW
  have q9 : Q (9 :: nm) = some [vi 0, vi (n : Int)] := by
    rw [hQ]; simp only [lPut, dPut]
    rw [upd_ne _ _ (n9 _ _ h.hl 9), upd_ne _ _ (n9 _ _ h.hd 9), upd_ne _ _ (n9 _ _ h.hb 9), upd_ne _ _ (by simp)]; exact g9
  have q1 : Q (1 :: nm) = some [vi 0, vi 0] := by
    rw [hQ]; simp only [lPut, dPut]
    rw [upd_ne _ _ (n9 _ _ h.hl 1), upd_ne _ _ (n9 _ _ h.hd 1), upd_ne _ _ (n9 _ _ h.hb 1), upd_ne _ _ (by simp)]; exact g1
  clear hcall
  have hcall := onF_ok (stS_ok (f := 70) (xs := [.ptr S.s 0, .ptr W 0]) (pre := fun H => H S.s = some [vi 0, S.x1, S.x2, S.x3, .ptr S.l 0, S.v, S.x6, S.x7] /\ H W = some (waveA 0 n 0 b vnil) /\ H S.l = some [.ptr S.d 0, vi ((S.cnt : Int) + 1), vi (S.saf : Int)]) (r := fun _ => .tup []) (post := fun nm H => upd (upd H (recsN nm) (some [vi (S.cnt : Int)])) W (some (waveA 0 n 0 b (.sl (recsN nm) 0 1 1)))) (by kernel_rfl) fun nm H ⟨h1, h2, h3⟩ => by
    have := record_sim (n := (S.cnt : Int) + 1) nm H h1 h2 h3 rfl rfl (by omega)
    have e : (S.cnt : Int) + 1 - 1 = S.cnt := by omega
    rw [e] at this
    exact this) (@noCall_ok Tryz.prog)
  have hrc : ∀ nm', stS [.ptr S.s 0, .ptr W 0] (fun H => H S.s = some [vi 0, S.x1, S.x2, S.x3, .ptr S.l 0, S.v, S.x6, S.x7] /\ H W = some (waveA 0 n 0 b vnil) /\ H S.l = some [.ptr S.d 0, vi ((S.cnt : Int) + 1), vi (S.saf : Int)]) (fun _ => .tup []) (fun nm H => upd (upd H (recsN nm) (some [vi (S.cnt : Int)])) W (some (waveA 0 n 0 b (.sl (recsN nm) 0 1 1)))) [.ptr S.s 0, .ptr W 0] nm' Q = some (.tup [], upd (upd Q (recsN nm') (some [vi (S.cnt : Int)])) W (some (waveA 0 n 0 b (.sl (recsN nm') 0 1 1)))) := fun nm' => stS_at ⟨qs, qW, ql⟩
  (repeat refine AWP.seq ?_)
  refine AWP.region_last hcall rfl fun K hK => ?_
  simp [hrc]
  apply hK; clear hK K; simp only [onNormal, onExit]
  obtain ⟨R, hR⟩ : ∃ R, R = recsN (56 :: nm) := ⟨_, rfl⟩
  have hRu : Under nm R := ⟨[12, 56], hR⟩
  rw [<- hR]
  have hRW : ¬ R = W := by rw [hR, hW]; simp [recsN, freshN]
  have hRn : ∀ x, ¬ R = x :: nm := fun x e => by
    rw [hR] at e
    have := congrArg List.length e
    simp [recsN] at this
  have hRo : ∀ k row, H k = some row -> ¬ k = R := fun k row hk e => by obtain ⟨s, hs'⟩ := hRu; have := hH s; rw [<- hs', <- e, hk] at this; cases this
  have hWo : ∀ k row, H k = some row -> ¬ k = W := fun k row hk e => by obtain ⟨s, hs'⟩ := hWu; have := hH s; rw [<- hs', <- e, hk] at this; cases this
  obtain ⟨Q2, hQ2⟩ : ∃ Q2, Q2 = upd (upd Q R (some [vi (S.cnt : Int)])) W (some (waveA 0 n 0 b (.sl R 0 1 1))) := ⟨_, rfl⟩
  rw [<- hQ2]
  have kW : Q2 W = some (waveA 0 n 0 b (.sl R 0 1 1)) := by rw [hQ2, upd_same]
  have kR : Q2 R = some [vi (S.cnt : Int)] := by rw [hQ2, upd_ne _ _ hRW, upd_same]
  have ks : Q2 S.s = some [vi 0, S.x1, S.x2, S.x3, .ptr S.l 0, S.v, S.x6, S.x7] := by rw [hQ2, upd_ne _ _ (hWo _ _ h.hs), upd_ne _ _ (hRo _ _ h.hs)]; exact qs
  have kl : Q2 S.l = some [.ptr S.d 0, vi ((S.cnt : Int) + 1), vi (S.saf : Int)] := by rw [hQ2, upd_ne _ _ (hWo _ _ h.hl), upd_ne _ _ (hRo _ _ h.hl)]; exact ql
  have kd : Q2 S.d = some [.sl S.b 0 S.N 1, cx S.sy (S.at' + (8 + 33)), vi 0, vb false] := by
    rw [hQ2, upd_ne _ _ (hWo _ _ h.hd), upd_ne _ _ (hRo _ _ h.hd), hQ]; simp only [lPut, dPut]
    rw [upd_ne _ _ (Ne.symm h.n4), upd_same]
  have kb : Q2 S.b = some (setMany S.row S.at' (bs (i8 (33 : Nat)) ++ bs (recB 0 n 0 b))) := by
    rw [hQ2, upd_ne _ _ (hWo _ _ h.hb), upd_ne _ _ (hRo _ _ h.hb), hQ]; simp only [lPut, dPut]
    rw [upd_ne _ _ (Ne.symm h.n5), upd_ne _ _ (Ne.symm h.n6), upd_same]
  have k9 : Q2 (9 :: nm) = some [vi 0, vi (n : Int)] := by rw [hQ2, upd_ne _ _ (hWn' 9), upd_ne _ _ (fun e => hRn 9 e.symm)]; exact q9
  have k1 : Q2 (1 :: nm) = some [vi 0, vi 0] := by rw [hQ2, upd_ne _ _ (hWn' 1), upd_ne _ _ (fun e => hRn 1 e.symm)]; exact q1
  have kall : ∀ k row, H k = some row -> k ≠ S.l -> k ≠ S.d -> k ≠ S.b -> Q2 k = some row := fun k row hk e1 e2 e3 => by
    rw [hQ2, upd_ne _ _ (hWo _ _ hk), upd_ne _ _ (hRo _ _ hk), hQ]; simp only [lPut, dPut]
    rw [upd_ne _ _ e1, upd_ne _ _ e2, upd_ne _ _ e3]
    exact hmono _ _ _ _ hk
  clear hrc hap hby hfr hfi
  have hcall := @noCall_ok Tryz.prog
  have c1 : cW nm = W := hW.symm
  have c2 : cR nm = R := hR.symm
  have e1 := n9 _ _ h.hs
  have tail : ∀ H₁ : AHeap, H₁ S.s = some [vi 0, S.x1, S.x2, S.x3, .ptr S.l 0, .sl (cN nm) 0 (L.length + 1) 1, S.x6, S.x7] -> H₁ (cN nm) = some (L.map (fun x => AV.ptr x.w 0) ++ [AV.ptr W 0]) ->
      (∀ k, k ≠ S.s -> (∀ x, ¬ k = x :: nm) -> (∀ m o le z, S.v = .sl m o le z -> m ≠ k) -> H₁ k = Q2 k) -> ∀ k row, createH nm S L n b H k = some row -> H₁ k = some row := by
    intro H₁ f1 f2 f3 k row hk
    unfold createH at hk
    rw [c1, c2] at hk
    by_cases x1 : k = S.s
    · subst x1; rw [upd_same] at hk; rw [<- hk]; exact f1
    · rw [upd_ne _ _ x1] at hk
      by_cases x2 : k = cN nm
      · subst x2; rw [upd_same] at hk; rw [<- hk]; exact f2
      · rw [upd_ne _ _ x2] at hk
        by_cases x3 : k = W
        · subst x3; rw [upd_same] at hk; rw [<- hk, <- kW]; exact f3 _ x1 hWn (fun m o le z hv => by
            rcases h.hv with ⟨hv', _⟩ | ⟨n0, hv', hn0⟩
            · rw [hv'] at hv; cases hv
            · rw [hv'] at hv; cases hv; exact hWo _ _ hn0)
        · rw [upd_ne _ _ x3] at hk
          by_cases x4 : k = R
          · subst x4; rw [upd_same] at hk; rw [<- hk, <- kR]; exact f3 _ x1 hRn (fun m o le z hv => by
              rcases h.hv with ⟨hv', _⟩ | ⟨n0, hv', hn0⟩
              · rw [hv'] at hv; cases hv
              · rw [hv'] at hv; cases hv; exact hRo _ _ hn0)
          · rw [upd_ne _ _ x4] at hk
            by_cases x5 : k = S.l
            · subst x5; rw [upd_same] at hk; rw [<- hk, <- kl]; exact f3 _ x1 (hnu _ _ h.hl) (fun m o le z hv => (h.nv m o le z hv).2.1)
            · rw [upd_ne _ _ x5] at hk
              by_cases x6 : k = S.d
              · subst x6; rw [upd_same] at hk; rw [<- hk, <- kd]; exact f3 _ x1 (hnu _ _ h.hd) (fun m o le z hv => (h.nv m o le z hv).2.2.1)
              · rw [upd_ne _ _ x6] at hk
                by_cases x7 : k = S.b
                · subst x7; rw [upd_same] at hk; rw [<- hk, <- kb]; exact f3 _ x1 (hnu _ _ h.hb) (fun m o le z hv => (h.nv m o le z hv).2.2.2)
                · rw [upd_ne _ _ x7] at hk
                  have hk2 : H k = some row /\ ∀ m o le z, S.v = .sl m o le z -> m ≠ k := by
                    rcases h.hv with ⟨hv', _⟩ | ⟨n0, hv', _⟩
                    · rw [hv'] at hk; exact ⟨hk, fun m o le z e => (by rw [hv'] at e; cases e)⟩
                    · rw [hv'] at hk
                      have hne : k ≠ n0 := by rintro rfl; simp only [vrem] at hk; rw [upd_same] at hk; cases hk
                      simp only [vrem] at hk
                      rw [upd_ne _ _ hne] at hk
                      exact ⟨hk, fun m o le z e => by rw [hv'] at e; cases e; exact Ne.symm hne⟩
                  rw [f3 k x1 (hnu _ _ hk2.1) hk2.2]
                  exact kall k row hk2.1 x5 x6 x7
  rcases h.hv with ⟨hv, hL0⟩ | ⟨n0, hv, hn0v⟩
  · have hLm : L.map (fun x => AV.ptr x.w 0) ++ [AV.ptr W 0] = [AV.ptr W 0] := by rw [hL0]; rfl
    rw [hv] at ks
    (repeat refine AWP.seq ?_)
    refine AWP.region_last hcall rfl fun K hK => ?_
    simp [ks, hsn]
    apply hK; clear hK K; simp only [onNormal, onExit]
    (repeat refine AWP.seq ?_)
    refine AWP.region_last hcall rfl fun K hK => ?_
    simp [hWn, hRn, k9, k1, e1]
    apply hK; clear hK K; simp only [onNormal, onExit]
    (try refine AWP.ret ?_); (try simp only [onNormal, onExit])
    refine ⟨by simp, ⟨_, by simp [ares, Tryz.results18, e1]; rfl, by simp [ares1]⟩, fun k row hk => ?_⟩
    refine tail _ ?_ ?_ ?_ k row hk
    · simp [upd, hsn, hL0, cN]
    · rw [hLm]; simp [upd, cN, e1]
    · intro k y1 y2 _
      simp [upd, y1, y2]
  · have hn0s := h.nv _ _ _ _ hv
    have nn0 := hnu _ _ hn0v
    have nn0' := n9 _ _ hn0v
    have kv : Q2 n0 = some (L.map fun x => AV.ptr x.w 0) := kall _ _ hn0v hn0s.2.1 hn0s.2.2.1 hn0s.2.2.2
    obtain ⟨M, hM⟩ : ∃ M, M = L.map fun x => AV.ptr x.w 0 := ⟨_, rfl⟩
    have hMl : M.length = L.length := by rw [hM, List.length_map]
    have hMt : M.take L.length = M := List.take_of_length_le (by omega)
    have hb1 : (L.length + 1) * 8 <= 140737488355328 := by omega
    have hb2 : L.length + 1 <= 140737488355328 := by omega
    have hns : ¬ S.s = n0 := fun e => hn0s.1 e.symm
    rw [<- hM] at kv
    rw [hv] at ks
    (repeat refine AWP.seq ?_)
    refine AWP.region_last hcall rfl fun K hK => ?_
    simp [ks, hsn, kv, nn0, nn0', hMl, hMt, hb1, hb2, hns]
    apply hK; clear hK K; simp only [onNormal, onExit]
    (repeat refine AWP.seq ?_)
    refine AWP.region_last hcall rfl fun K hK => ?_
    simp [hWn, hRn, k9, k1, e1, nn0, nn0']
    apply hK; clear hK K; simp only [onNormal, onExit]
    (try refine AWP.ret ?_); (try simp only [onNormal, onExit])
    refine ⟨by simp, ⟨_, by simp [ares, Tryz.results18, e1, nn0, nn0']; rfl, by simp [ares1]⟩, fun k row hk => ?_⟩
    refine tail _ ?_ ?_ ?_ k row hk
    · simp [upd, hsn, cN]
    · rw [<- hM]; simp [upd, cN, e1]
    · intro k y1 y2 y3
      have := y3 _ _ _ _ hv
      simp [upd, y1, y2, Ne.symm this]
end Go.Proofs.YtjinjfblilacaaaGreat.Den
end
section
set_option linter.unusedSimpArgs false
set_option linter.unusedVariables false
set_option maxRecDepth 100000
namespace Go.Proofs.YtjinjfblilacaaaGreat.Den
open Go.RowKit FI
attribute [local simp] runList aop abuiltin acall awanted ayielded env T0 tput tset Ran aload astore setMany upd binV aslice aindexAddr apart aindex alen acopy srcCells natOf boundOf aeq AV.nilEq convV appK fillA List.range List.range.loop onF isU8 rowOf
theorem under_ne {nm : Name} {H : AHeap} (hH : ∀ s, H (s ++ nm) = none) {k : Name} {row : List AV} (hk : H k = some row) {q : Name} (hq : Under nm q) : k ≠ q := by
  rintro rfl
  obtain ⟨s, rfl⟩ := hq
  rw [hH] at hk; cases hk
theorem cW_u (nm : Name) : Under nm (cW nm) := ⟨[14, 42], rfl⟩
theorem cR_u (nm : Name) : Under nm (cR nm) := ⟨[12, 56], rfl⟩
theorem cN_u (nm : Name) : Under nm (cN nm) := ⟨[64], rfl⟩
theorem createH_old {nm : Name} {S : SrvD} {L : List WvD} {n b : Nat} {H : AHeap} (hH : ∀ s, H (s ++ nm) = none) {k : Name} {row : List AV} (hk : H k = some row) (h1 : k ≠ S.s) (h2 : k ≠ S.l) (h3 : k ≠ S.d) (h4 : k ≠ S.b) (h5 : ∀ m o le z, S.v = .sl m o le z -> m ≠ k) : createH nm S L n b H k = some row := by
  unfold createH
  rw [upd_ne _ _ h1, upd_ne _ _ (under_ne hH hk (cN_u nm)), upd_ne _ _ (under_ne hH hk (cW_u nm)), upd_ne _ _ (under_ne hH hk (cR_u nm)), upd_ne _ _ h2, upd_ne _ _ h3, upd_ne _ _ h4]
  unfold vrem
  cases hv : S.v with
  | sl m o le z => exact (upd_ne _ _ (Ne.symm (h5 m o le z hv))).trans hk
  | _ => exact hk
theorem createH_s {nm : Name} {S : SrvD} {L : List WvD} {n b : Nat} {H : AHeap} : createH nm S L n b H S.s = some [vi 0, S.x1, S.x2, S.x3, .ptr S.l 0, .sl (cN nm) 0 (L.length + 1) 1, S.x6, S.x7] := by
  unfold createH; rw [upd_same]
theorem createH_l {nm : Name} {S : SrvD} {L : List WvD} {n b : Nat} {H : AHeap} (h : SrvIs H S L) (hH : ∀ s, H (s ++ nm) = none) : createH nm S L n b H S.l = some [.ptr S.d 0, vi ((S.cnt : Int) + 1), vi (S.saf : Int)] := by
  unfold createH
  rw [upd_ne _ _ (Ne.symm h.n1), upd_ne _ _ (under_ne hH h.hl (cN_u nm)), upd_ne _ _ (under_ne hH h.hl (cW_u nm)), upd_ne _ _ (under_ne hH h.hl (cR_u nm)), upd_same]
theorem createH_d {nm : Name} {S : SrvD} {L : List WvD} {n b : Nat} {H : AHeap} (h : SrvIs H S L) (hH : ∀ s, H (s ++ nm) = none) : createH nm S L n b H S.d = some [.sl S.b 0 S.N 1, cx S.sy (S.at' + (8 + 33)), vi 0, vb false] := by
  unfold createH
  rw [upd_ne _ _ (Ne.symm h.n2), upd_ne _ _ (under_ne hH h.hd (cN_u nm)), upd_ne _ _ (under_ne hH h.hd (cW_u nm)), upd_ne _ _ (under_ne hH h.hd (cR_u nm)), upd_ne _ _ (Ne.symm h.n4), upd_same]
theorem createH_b {nm : Name} {S : SrvD} {L : List WvD} {n b : Nat} {H : AHeap} (h : SrvIs H S L) (hH : ∀ s, H (s ++ nm) = none) : createH nm S L n b H S.b = some (setMany S.row S.at' (bs (i8 (33 : Nat)) ++ bs (recB 0 n 0 b))) := by
  unfold createH
  generalize setMany S.row S.at' (bs (i8 (33 : Nat)) ++ bs (recB 0 n 0 b)) = X
  rw [upd_ne _ _ (Ne.symm h.n3), upd_ne _ _ (under_ne hH h.hb (cN_u nm)), upd_ne _ _ (under_ne hH h.hb (cW_u nm)), upd_ne _ _ (under_ne hH h.hb (cR_u nm)), upd_ne _ _ (Ne.symm h.n5), upd_ne _ _ (Ne.symm h.n6), upd_same]
theorem create_srv {nm : Name} {S : SrvD} {L : List WvD} {n b : Nat} {H : AHeap} (h : SrvIs H S L) (hH : ∀ s, H (s ++ nm) = none) (hroom : S.at' + 41 <= S.N) : SrvIs (createH nm S L n b H) (nextS nm S L n b) (nextL nm L n b) where
  hs := by simp only [nextS]; exact createH_s
  hl := by simp only [nextS]; rw [Int.natCast_add]; exact createH_l h hH
  hd := by simp only [nextS]; exact createH_d h hH
  hb := by simp only [nextS]; exact createH_b h hH
  hN := by simp only [nextS]; rw [setMany_length]; exact h.hN
  hv := .inr ⟨cN nm, by simp [nextS, nextL], by
    unfold createH
    rw [upd_ne _ _ (Ne.symm (under_ne hH h.hs (cN_u nm))), upd_same]
    simp [nextL]⟩
  hw := by
    intro i x hx
    unfold nextL at hx
    rcases Nat.lt_trichotomy i L.length with hi | rfl | hi
    · rw [List.getElem?_append_left hi] at hx
      have h1 := h.hw i x hx
      have h2 := h.nw i x hx
      exact ⟨createH_old hH h1.1 h2.1.1 h2.1.2.1 h2.1.2.2.1 h2.1.2.2.2 fun m o le z hv => (h2.2.2 m o le z hv).1, createH_old hH h1.2 h2.2.1.1 h2.2.1.2.1 h2.2.1.2.2.1 h2.2.1.2.2.2 fun m o le z hv => (h2.2.2 m o le z hv).2⟩
    · rw [List.getElem?_append_right (Nat.le_refl _)] at hx
      simp at hx
      subst hx
      refine ⟨?_, ?_⟩
      · show createH nm S L n b H (cW nm) = _
        unfold createH
        rw [upd_ne _ _ (Ne.symm (under_ne hH h.hs (cW_u nm))), upd_ne _ _ (by simp [cW, cN, freshN]), upd_same]
      · show createH nm S L n b H (cR nm) = _
        unfold createH
        rw [upd_ne _ _ (Ne.symm (under_ne hH h.hs (cR_u nm))), upd_ne _ _ (by simp [cR, cN, recsN]), upd_ne _ _ (by simp [cR, cW, recsN, freshN]), upd_same, h.hc]
    · rw [List.getElem?_eq_none (by simp; omega)] at hx; cases hx
  n1 := h.n1
  n2 := h.n2
  n3 := h.n3
  n4 := h.n4
  n5 := h.n5
  n6 := h.n6
  big := h.big
  sm := by have := h.sm; simp only [nextS]; omega
  hc := by simp only [nextS, nextL]; rw [h.hc]; simp
  nv := by
    intro m o le z hv
    have : m = cN nm := by simp only [nextS] at hv; cases hv; rfl
    subst this
    exact ⟨Ne.symm (under_ne hH h.hs (cN_u nm)), Ne.symm (under_ne hH h.hl (cN_u nm)), Ne.symm (under_ne hH h.hd (cN_u nm)), Ne.symm (under_ne hH h.hb (cN_u nm))⟩
  nw := by
    intro i x hx
    have hm : ∀ m o le z, (nextS nm S L n b).v = .sl m o le z -> m = cN nm := fun m o le z hv => by simp only [nextS] at hv; cases hv; rfl
    unfold nextL at hx
    rcases Nat.lt_trichotomy i L.length with hi | rfl | hi
    · rw [List.getElem?_append_left hi] at hx
      have h1 := h.hw i x hx
      have h2 := h.nw i x hx
      refine ⟨h2.1, h2.2.1, fun m o le z hv => ?_⟩
      rw [hm m o le z hv]
      exact ⟨Ne.symm (under_ne hH h1.1 (cN_u nm)), Ne.symm (under_ne hH h1.2 (cN_u nm))⟩
    · rw [List.getElem?_append_right (Nat.le_refl _)] at hx
      simp at hx
      subst hx
      refine ⟨⟨Ne.symm (under_ne hH h.hs (cW_u nm)), Ne.symm (under_ne hH h.hl (cW_u nm)), Ne.symm (under_ne hH h.hd (cW_u nm)), Ne.symm (under_ne hH h.hb (cW_u nm))⟩, ⟨Ne.symm (under_ne hH h.hs (cR_u nm)), Ne.symm (under_ne hH h.hl (cR_u nm)), Ne.symm (under_ne hH h.hd (cR_u nm)), Ne.symm (under_ne hH h.hb (cR_u nm))⟩, fun m o le z hv => ?_⟩
      rw [hm m o le z hv]
      exact ⟨by simp [cW, cN, freshN], by simp [cR, cN, recsN]⟩
    · rw [List.getElem?_eq_none (by simp; omega)] at hx; cases hx
/-! ### Sync -/
def syncH (S : SrvD) (H : AHeap) : AHeap := upd (upd H S.d (some [.sl S.b 0 S.N 1, cx S.at' S.at', vi 0, vb false])) S.l (some [.ptr S.d 0, vi (S.cnt : Int), vi (S.cnt : Int)])
def syncS (S : SrvD) : SrvD := { S with sy := S.at', saf := S.cnt }
theorem ssync_sim {S : SrvD} {L : List WvD} (nm : Name) (H : AHeap) (h : SrvIs H S L) : Sim Tryz.prog 20 [.ptr S.s 0] nm H (vi 0) (syncH S H) := by
  have hs := h.hs
  have hcall := onF_ok (stS_ok (f := 74) (xs := [.ptr S.l 0]) (pre := fun H => SrvIs H S L) (r := fun _ => vi 0) (post := fun _ H => syncH S H) (by kernel_rfl) fun nm H h => lsync_sim nm H h.hl h.hd h.n4) (@noCall_ok Tryz.prog)
  have hst : ∀ nm', stS [.ptr S.l 0] (fun H => SrvIs H S L) (fun _ => vi 0) (fun _ H => syncH S H) [.ptr S.l 0] nm' H = some (vi 0, syncH S H) := fun nm' => stS_at h
  refine sim_go Tryz.func20 rfl rfl (Nat.le_of_ble_eq_true rfl) fun hH => ?_
  (repeat refine AWP.seq ?_)
  refine AWP.region_last hcall rfl fun K hK => ?_
  simp
  apply hK; clear hK K; simp only [onNormal, onExit]
  (repeat refine AWP.seq ?_)
  refine AWP.region_last hcall rfl fun K hK => ?_
  simp [hs, hst]
  apply hK; clear hK K; simp only [onNormal, onExit]
  (try refine AWP.ret ?_); (try simp only [onNormal, onExit]); refine ⟨by simp, ⟨_, rfl, by simp [ares1]⟩, fun k row hk => ?_⟩
  exact hk
theorem sync_srv {S : SrvD} {L : List WvD} {H : AHeap} (h : SrvIs H S L) : SrvIs (syncH S H) (syncS S) L := by
  have old : ∀ k row, H k = some row -> k ≠ S.l -> k ≠ S.d -> syncH S H k = some row := fun k row hk e1 e2 => by unfold syncH; rw [upd_ne _ _ e1, upd_ne _ _ e2]; exact hk
  refine { h with hs := old _ _ h.hs h.n1 h.n2, hl := ?_, hd := ?_, hb := old _ _ h.hb (Ne.symm h.n5) (Ne.symm h.n6), hv := ?_, hw := ?_, sm := ⟨Nat.le_refl _, h.sm.2⟩ }
  · show syncH S H S.l = some [.ptr S.d 0, vi (S.cnt : Int), vi (S.cnt : Int)]
    unfold syncH; rw [upd_same]
  · show syncH S H S.d = some [.sl S.b 0 S.N 1, cx S.at' S.at', vi 0, vb false]
    unfold syncH; rw [upd_ne _ _ (Ne.symm h.n4), upd_same]
  · rcases h.hv with h1 | ⟨n, h1, h2⟩
    · exact .inl h1
    · have := h.nv _ _ _ _ h1
      exact .inr ⟨n, h1, old _ _ h2 this.2.1 this.2.2.1⟩
  · intro i x hx
    have h1 := h.hw i x hx
    have h2 := h.nw i x hx
    exact ⟨old _ _ h1.1 h2.1.2.1 h2.1.2.2.1, old _ _ h1.2 h2.2.1.2.1 h2.2.1.2.2.1⟩
end Go.Proofs.YtjinjfblilacaaaGreat.Den
end
