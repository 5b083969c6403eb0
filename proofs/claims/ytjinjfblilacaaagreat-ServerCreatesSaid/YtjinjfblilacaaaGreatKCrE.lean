/- ServerCreates: the law. -/
import Derived.Test.YtjinjfblilacaaaGreatKCrS
set_option linter.unusedVariables false
set_option linter.unusedSimpArgs false
set_option linter.unusedSimpArgs false
set_option linter.unusedVariables false
set_option maxRecDepth 100000
namespace Go.Proofs.YtjinjfblilacaaaGreat.Den
open Go.RowKit FI
attribute [local simp] runList aop abuiltin acall awanted ayielded env T0 tput tset Ran aload astore setMany upd binV aslice aindexAddr apart aindex alen acopy srcCells natOf boundOf aeq AV.nilEq convV appK fillA List.range List.range.loop onF isU8 rowOf
theorem emod_tmod {a n : Int} (hn : 0 < n) : (-n < a.tmod n /\ a.tmod n < n) /\ a % n = (if a.tmod n < 0 then a.tmod n + n else a.tmod n) := by
  have h1 := Int.tmod_lt_of_pos a hn
  have h2 := Int.lt_tmod_of_pos a hn
  have h0 := Int.mul_tdiv_add_tmod a n
  have h3 : a % n = (a.tmod n) % n := by
    conv => lhs; rw [<- h0, Int.add_comm]
    exact Int.add_mul_emod_self_left _ _ _
  refine ⟨⟨h2, h1⟩, ?_⟩
  rw [h3]
  split
  · rw [<- Int.add_emod_right]; exact Int.emod_eq_of_lt (by omega) (by omega)
  · exact Int.emod_eq_of_lt (by omega) (by omega)
/-- Which of so many. -/
def within19S : Spec := fun args nm H =>
  match args with
  | [.val (.int .i64 a), .val (.int .i64 n)] => if 0 < n /\ n < 1000 then some (vi (((a % n).toNat : Nat) : Int), H) else none
  | _ => none
theorem within19_fn : FnOK Tryz.prog 17 within19S := by
  refine ⟨by kernel_rfl, fun args nm H r H' h => ?_⟩
  unfold within19S at h
  split at h
  · rename_i a n
    split at h
    · rename_i hc
      cases h
      have hcall := @noCall_ok Tryz.prog
      have hn0 : ¬ n = 0 := by omega
      have he := @emod_tmod a n hc.1
      have hnn : (((a % n).toNat : Nat) : Int) = a % n := Int.toNat_of_nonneg (Int.emod_nonneg _ (by omega))
      rw [hnn]
      refine sim_go Tryz.func17 rfl rfl (Nat.le_of_ble_eq_true rfl) fun hH => ?_
      (repeat refine AWP.seq ?_)
      refine AWP.region_last hcall rfl fun K hK => ?_
      simp
      apply hK; clear hK K; simp only [onNormal, onExit]
      (repeat refine AWP.seq ?_)
      refine AWP.region_last hcall rfl fun K hK => ?_
      simp [hn0]
      apply hK; clear hK K; simp only [onNormal, onExit]
      by_cases h0 : a.tmod n < 0
      · have hw : IntKind.i64.wrap (a.tmod n + n) = a.tmod n + n := by rw [IntKind.wrap_i64]; omega
        rw [he.2, if_pos h0]
        (repeat refine AWP.seq ?_)
        refine AWP.region_last hcall rfl fun K hK => ?_
        simp [h0]
        apply hK; clear hK K; simp only [onNormal, onExit]
        (repeat refine AWP.seq ?_); refine AWP.cond (b := true) (by simp [h0]) ?_; simp only [if_true, if_false, Bool.false_eq_true]
        (repeat refine AWP.seq ?_)
        refine AWP.region_last hcall rfl fun K hK => ?_
        simp [hw]
        apply hK; clear hK K; simp only [onNormal, onExit]
        (repeat refine AWP.seq ?_)
        refine AWP.region_last hcall rfl fun K hK => ?_
        simp
        apply hK; clear hK K; simp only [onNormal, onExit]
        (try refine AWP.ret ?_); (try simp only [onNormal, onExit]); refine ⟨by simp, ⟨_, rfl, by simp [ares1]⟩, fun k row hk => ?_⟩
        exact hk
      · rw [he.2, if_neg h0]
        (repeat refine AWP.seq ?_)
        refine AWP.region_last hcall rfl fun K hK => ?_
        simp [h0]
        apply hK; clear hK K; simp only [onNormal, onExit]
        (repeat refine AWP.seq ?_); refine AWP.cond (b := false) (by simp [h0]) ?_; simp only [if_true, if_false, Bool.false_eq_true]
        refine AWP.skip ?_; simp only [onNormal, onExit]
        (repeat refine AWP.seq ?_)
        refine AWP.region_last hcall rfl fun K hK => ?_
        simp
        apply hK; clear hK K; simp only [onNormal, onExit]
        (try refine AWP.ret ?_); (try simp only [onNormal, onExit]); refine ⟨by simp, ⟨_, rfl, by simp [ares1]⟩, fun k row hk => ?_⟩
        exact hk
    · cases h
  · cases h
theorem within_at (a n : Int) (h : 0 < n /\ n < 1000) (nm : Name) (H : AHeap) : within19S [vi a, vi n] nm H = some (vi (((a % n).toNat : Nat) : Int), H) := by
  simp only [within19S]
  rw [if_pos h]
theorem within_lt (a : Int) {n : Int} (h : 0 < n) : ((a % n).toNat : Int) < n := by
  rw [Int.toNat_of_nonneg (Int.emod_nonneg _ (by omega))]
  exact Int.emod_lt_of_pos a h
def intsArg (B : List Int) : AV := .im false B.length (B.map vi)
/-- A row that is none of a server's. -/
def Far (S : SrvD) (k : Name) : Prop := k ≠ S.s /\ k ≠ S.l /\ k ≠ S.d /\ k ≠ S.b /\ ∀ m o le z, S.v = .sl m o le z -> m ≠ k
section
variable {P : Program} {p : Name} {m : Nat} {code : Code} {Q : Exit -> Nat -> Temps -> AHeap -> Prop} {c : Nat} {T : Temps} {H H' : AHeap}
/-- Rows are forgotten. -/
theorem AWP.less (hs : ∀ n row, H' n = some row -> H n = some row) (h : AWP P p m code Q c T H') : AWP P p m code Q c T H := by
  intro ds σ I a w Q' st k
  have hst := Step.forget (nm := Under p) st.rel hs
  refine h ds σ I a w Q' ⟨st.tr, st.size, st.defers, hst.rel, st.fresh⟩ ?_
  intro e c' T₂ H₂ σ' I₂ a' w' hQ hs₂ st₂
  exact k e c' T₂ H₂ σ' I₂ a' w' hQ (hst.trans hs₂) st₂
end
theorem two_more {H : AHeap} {c y : Nat} {r1 r2 : Option (List AV)} (hr : ∀ x, c <= x -> H [x] = none) (hy : c <= y) : ∀ k row, H k = some row -> upd (upd H [y] r1) [y] r2 k = some row := fun k row hk => by
  have : k ≠ [y] := fun e => by rw [e, hr y hy] at hk; cases hk
  rw [upd_ne _ _ this, upd_ne _ _ this]; exact hk
/-- What holds at each round. -/
structure CreI (H : AHeap) (q A E : Name) (b : Nat) (S : SrvD) (L : List WvD) : Prop where
  srv : SrvIs H S L
  num : S.N = 40000 /\ S.at' = 41 * L.length /\ S.saf = L.length
  len : L.length <= 8
  row : ∃ row, H q = some row /\ row[4]? = some (.ptr S.s 0)
  ad : H A = some [vi 0, vi (b : Int)]
  seen : ∃ row, H E = some row /\ row.length = 100 /\ ∀ k, k < 12 -> row[k]? = some (vb (decide (∃ x ∈ L, x.b = k)))
  fq : Far S q
  fA : Far S A
  fE : Far S E
  who : ∀ x ∈ L, x.d = b
  uniq : ∀ (i j : Nat) (x y : WvD), L[i]? = some x -> L[j]? = some y -> x.b = y.b -> i = j
theorem Far.next {S : SrvD} {L : List WvD} {n b n1 : Nat} {q : Name} {H : AHeap} {row : List AV} (h : Far S q) (hq : H q = some row) (hf : ∀ s, H (s ++ [n1]) = none) : Far (nextS [n1] S L n b) q :=
  ⟨h.1, h.2.1, h.2.2.1, h.2.2.2.1, fun m o le z hv => by
    have : m = cN [n1] := by simp only [nextS] at hv; cases hv; rfl
    subst this
    exact Ne.symm (under_ne hf hq (cN_u [n1]))⟩
theorem Far.old {S : SrvD} {L : List WvD} {n b n1 : Nat} {q : Name} {H : AHeap} {row : List AV} (h : Far S q) (hq : H q = some row) (hf : ∀ s, H (s ++ [n1]) = none) : createH [n1] S L n b H q = some row :=
  createH_old hf hq h.1 h.2.1 h.2.2.1 h.2.2.2.1 h.2.2.2.2
section
variable {P : Program} {p : Name} {m : Nat} {code : Code} {Q : Exit -> Nat -> Temps -> AHeap -> Prop} {c c' : Nat} {T : Temps} {H : AHeap} {S : SrvD} {L : List WvD} {k b n1 y : Nat} {r1 : Option (List AV)} {r2 : List AV}
theorem createH_free (h : SrvIs H S L) (hfs : ∀ x, c' <= x -> ∀ s, H (s ++ [x]) = none) (hy : c' <= y) (hn : n1 ≠ y) : createH [n1] S L k b H [y] = none := by
  have hy0 : H [y] = none := hfs y hy []
  have f : ∀ {q row}, H q = some row -> [y] ≠ q := fun hq e => by rw [<- e, hy0] at hq; cases hq
  have hl : [y] ≠ cN [n1] /\ [y] ≠ cW [n1] /\ [y] ≠ cR [n1] := ⟨by simp [cN], by simp [cW, freshN], by simp [cR, recsN]⟩
  unfold createH
  rw [upd_ne _ _ (f h.hs), upd_ne _ _ hl.1, upd_ne _ _ hl.2.1, upd_ne _ _ hl.2.2, upd_ne _ _ (f h.hl), upd_ne _ _ (f h.hd), upd_ne _ _ (f h.hb)]
  unfold vrem
  cases hv : S.v with
  | sl m o le z =>
    show upd H m none [y] = none
    by_cases e : [y] = m
    · rw [e, upd_same]
    · rw [upd_ne _ _ e]; exact hy0
  | _ => exact hy0
/-- A great row that is none of the server's is written. -/
theorem SrvIs.put {H : AHeap} {S : SrvD} {L : List WvD} {q : Name} {row : List AV} {r : Option (List AV)} (h : SrvIs H S L) (hf : Far S q) (hq : H q = some row) (hl : row.length = 100) : SrvIs (upd H q r) S L := by
  have o : ∀ k r', H k = some r' -> k ≠ q -> upd H q r k = some r' := fun k r' hk e => by rw [upd_ne _ _ e]; exact hk
  refine { h with hs := o _ _ h.hs (Ne.symm hf.1), hl := o _ _ h.hl (Ne.symm hf.2.1), hd := o _ _ h.hd (Ne.symm hf.2.2.1), hb := o _ _ h.hb (Ne.symm hf.2.2.2.1), hv := ?_, hw := ?_ }
  · rcases h.hv with h1 | ⟨n, h1, h2⟩
    · exact .inl h1
    · exact .inr ⟨n, h1, o _ _ h2 (hf.2.2.2.2 _ _ _ _ h1)⟩
  · intro i x hx
    have h1 := h.hw i x hx
    refine ⟨o _ _ h1.1 fun e => ?_, o _ _ h1.2 fun e => ?_⟩
    · have h2 := h1.1
      rw [e, hq] at h2
      have := congrArg List.length (Option.some.inj h2)
      rw [hl, waveA_id] at this
      omega
    · have h2 := h1.2
      rw [e, hq] at h2
      have := congrArg List.length (Option.some.inj h2)
      rw [hl] at this
      simp at this
theorem aeq_ii (neg : Bool) (t : TypeId) (x y : Operand) (a b : Int) : aeq P neg t x y (vi a) (vi b) = some (vb ((a == b) != neg)) := by
  cases neg <;> simp [aeq, binV] <;> rfl
/-- Behind a variable more. -/
theorem AWP.more (hr : ∀ x, c' <= x -> H [x] = none) (hy : c' <= y) (k1 : ∀ G, (∀ q row, H q = some row -> G q = some row) -> G [y] = some r2 -> AWP P p m code Q c T G) : AWP P p m code Q c T (upd (upd H [y] r1) [y] (some r2)) :=
  k1 _ (fun q row hq => by
    have : q ≠ [y] := fun e => by rw [e, hr y hy] at hq; cases hq
    rw [upd_ne _ _ this, upd_ne _ _ this]; exact hq) (upd_same _ _ _)
/-- Behind Create. -/
theorem AWP.cre (h : SrvIs H S L) (hfs : ∀ x, c' <= x -> ∀ s, H (s ++ [x]) = none) (hroom : S.at' + 41 <= S.N) (hn : c' <= n1) (hy : c' <= y) (hny : n1 ≠ y)
    (k1 : ∀ G, SrvIs G (nextS [n1] S L k b) (nextL [n1] L k b) -> (∀ q row, Far S q -> H q = some row -> G q = some row) -> G [y] = some r2 -> AWP P p m code Q c T G) : AWP P p m code Q c T (upd (upd (createH [n1] S L k b H) [y] r1) [y] (some r2)) := by
  have hfree := createH_free (k := k) (b := b) h hfs hy hny
  have keep : ∀ q row, createH [n1] S L k b H q = some row -> upd (upd (createH [n1] S L k b H) [y] r1) [y] (some r2) q = some row := fun q row hq => by
    have : q ≠ [y] := fun e => by rw [e, hfree] at hq; cases hq
    rw [upd_ne _ _ this, upd_ne _ _ this]; exact hq
  exact k1 _ ((create_srv h (hfs n1 hn) hroom).mono keep) (fun q row hq hr => keep _ _ (hq.old hr (hfs n1 hn))) (upd_same _ _ _)
end
set_option maxHeartbeats 40000000 in
theorem cre_sim (B : List Int) (u o : Int) : ∃ H', Sim Tryz.prog 3 [intsArg B, vi u, vi o] [] (fun _ => none) (vb true) H' := by
  refine ⟨fun _ => none, ?_⟩
  have hcall := onF_ok known19_ok (onF_ok begin_fn (onF_ok within19_fn (@noCall_ok Tryz.prog)))
  refine sim_go Tryz.func3 rfl rfl (Nat.le_of_ble_eq_true rfl) fun hH => ?_
  (repeat refine AWP.seq ?_)
  refine AWP.region_last hcall rfl fun K hK => ?_
  simp
  apply hK; clear hK K; simp only [onNormal, onExit]
  (repeat refine AWP.seq ?_)
  refine AWP.region_last hcall rfl fun K hK => ?_
  simp [trueS]
  apply hK; clear hK K; simp only [onNormal, onExit]
  (repeat refine AWP.seq ?_); refine AWP.cond (b := false) (by simp) ?_; simp only [if_true, if_false, Bool.false_eq_true]
  refine AWP.skip ?_; simp only [onNormal, onExit]
  (repeat refine AWP.seq ?_)
  refine AWP.region_last hcall rfl fun K hK => ?_
  simp [begin_at]
  apply hK; clear hK K; simp only [onNormal, onExit]
  obtain ⟨G0, hG0⟩ : ∃ G0, G0 = bgL [3] (fun _ => none) := ⟨_, rfl⟩
  obtain ⟨q, hq⟩ : ∃ q, q = bgQ [3] := ⟨_, rfl⟩
  obtain ⟨S0, hS0⟩ : ∃ S0, S0 = bgS [3] := ⟨_, rfl⟩
  have hbeg := bg_beg [3] (fun _ => none)
  rw [<- hG0, <- hq, <- hS0] at hbeg
  rw [<- hG0, <- hq]
  refine AWP.known_fresh fun hfr => ?_
  have hr : ∀ x, 5 <= x -> G0 [x] = none := fun x hx => hfr x [] hx
  obtain ⟨b, hb⟩ : ∃ b, b = (u % 8).toNat := ⟨_, rfl⟩
  have hb8 : b < 8 := by have := within_lt u (show (0 : Int) < 8 by decide); omega
  have hw8 := fun nm' H' => within_at u 8 (by decide) nm' H'
  rw [<- hb] at hw8
  (repeat refine AWP.seq ?_)
  refine AWP.region_last hcall rfl fun K hK => ?_
  simp [hw8]
  apply hK; clear hK K; simp only [onNormal, onExit]
  (repeat refine AWP.seq ?_)
  refine AWP.region_last hcall rfl fun K hK => ?_
  simp
  apply hK; clear hK K; simp only [onNormal, onExit]
  (repeat refine AWP.seq ?_)
  refine AWP.region_last hcall rfl fun K hK => ?_
  simp
  apply hK; clear hK K; simp only [onNormal, onExit]
  (repeat refine AWP.seq ?_)
  refine AWP.region_last hcall rfl fun K hK => ?_
  simp
  apply hK; clear hK K; simp only [onNormal, onExit]
  (repeat refine AWP.seq ?_); refine AWP.block ?_
  have nn : ∀ k row, G0 k = some row -> ∀ x, 5 <= x -> ¬ k = [x] := fun k row hk x hx e => by rw [e, hr x hx] at hk; cases hk
  have far : ∀ x, 5 <= x -> Far S0 [x] := fun x hx => ⟨Ne.symm (nn _ _ hbeg.srv.hs x hx), Ne.symm (nn _ _ hbeg.srv.hl x hx), Ne.symm (nn _ _ hbeg.srv.hd x hx), Ne.symm (nn _ _ hbeg.srv.hb x hx), fun m o le z hv => by
    rcases hbeg.srv.hv with ⟨h, _⟩ | ⟨n, h, hn⟩
    · rw [h] at hv; cases hv
    · rw [h] at hv; cases hv; exact nn _ _ hn x hx⟩
  refine AWP.loop (fun m c' T H => ∃ (i : Nat) (L : List WvD) (S : SrvD), i <= B.length /\ m = B.length - i /\ T 0 = intsArg B /\ T 2 = vi o /\ T 7 = .ptr q 0 /\ T 8 = .ptr [8] 0 /\ T 9 = .ptr [10] 0 /\ T 10 = vi (L.length : Nat) /\ T 11 = vi (i : Nat) /\ CreI H q [8] [10] b S L) B.length ⟨0, [], S0, by omega, rfl, by simp, by simp, by simp, by simp, by simp, by simp, by simp, ?_⟩ ?_
  · refine ⟨hbeg.srv.mono fun k row hk => ?_, ⟨hbeg.num.1, hbeg.num.2.1, hbeg.num.2.2.1⟩, by simp, ?_, by simp [upd], ⟨_, upd_same _ _ _, rfl, fun k hk => ?_⟩, ?_, far 8 (by omega), far 10 (by omega), fun x hx => (by cases hx), fun i j x y hx => (by cases hx)⟩
    · rw [upd_ne _ _ (nn k row hk 10 (by omega)), upd_ne _ _ (nn k row hk 8 (by omega)), upd_ne _ _ (nn k row hk 8 (by omega))]; exact hk
    · obtain ⟨row, h1, h2⟩ := hbeg.row
      exact ⟨row, by rw [upd_ne _ _ (nn q row h1 10 (by omega)), upd_ne _ _ (nn q row h1 8 (by omega)), upd_ne _ _ (nn q row h1 8 (by omega))]; exact h1, h2⟩
    · rcases (by omega : k = 0 \/ k = 1 \/ k = 2 \/ k = 3 \/ k = 4 \/ k = 5 \/ k = 6 \/ k = 7 \/ k = 8 \/ k = 9 \/ k = 10 \/ k = 11) with rfl | rfl | rfl | rfl | rfl | rfl | rfl | rfl | rfl | rfl | rfl | rfl <;> simp
    · exact ⟨hbeg.q1.1, hbeg.q1.2.1, hbeg.q1.2.2.1, hbeg.q1.2.2.2, fun m o le z hv => by rw [hbeg.num.2.2.2] at hv; cases hv⟩
  clear hbeg hfr hr nn far hG0 hS0 hw8 G0 S0
  rintro m c' T H ⟨i, L, S, hiB, rfl, t0, t2, t7, t8, t9, t10, t11, hI⟩
  refine AWP.known_fresh fun hfr => ?_
  have hr : ∀ x, c' <= x -> H [x] = none := fun x hx => hfr x [] hx
  have hfs : ∀ x, c' <= x -> ∀ s, H (s ++ [x]) = none := fun x hx s => hfr x s hx
  obtain ⟨row, hrow, h4⟩ := hI.row
  have h4' : ∀ h : 4 < row.length, row[4] = .ptr S.s 0 := fun h => (List.getElem?_eq_some_iff.1 h4).2
  have hl4 : 4 < row.length := (List.getElem?_eq_some_iff.1 h4).1
  by_cases hi : i < B.length /\ i < 20
  · obtain ⟨hi1, hi2⟩ := hi
    have hi1' : (i : Int) < (B.length : Int) := by omega
    have hi2' : (i : Int) < 20 := by omega
    have hwi : IntKind.i64.wrap ((i : Int) + 1) = ((i + 1 : Nat) : Int) := by rw [IntKind.wrap_i64]; omega
    (repeat refine AWP.seq ?_)
    refine AWP.region_ops hcall rfl fun ops' hops K hK => ?_
    have o_0 := op_at hops 0 rfl
    have o_1 := op_at hops 1 rfl
    have o_2 := op_at hops 2 rfl
    have o_3 := op_at hops 3 rfl
    have o_4 := op_at hops 4 rfl
    have o_5 := op_at hops 5 rfl
    have o_6 := op_at hops 6 rfl
    have o_7 := op_at hops 7 rfl
    have o_sz : ops'.size = 8 := op_sz hops rfl
    clear hops
    rw [o_sz]
    change Ran K _ (runList _ _ ops' _ _ [0, 1, 2, 3, 4, 5, 6, 7] _ _)
    first | (refine run_ex (d := (some 29)) o_0 rfl ?_ ?_; · (simp [o_0, o_1, o_2, o_3, o_4, o_5, o_6, o_7, t0, t11, intsArg, hi1', hi2']; done)) | (refine run_skip (d := (some 29)) o_0 rfl ?_ ?_; · (simp [o_0, o_1, o_2, o_3, o_4, o_5, o_6, o_7, t0, t11, intsArg, hi1', hi2']; done))
    try refine ⟨_, by simp [t0, t11, intsArg, hi1', hi2']; try rfl, ?_⟩
    first | (refine run_ex (d := (some 30)) o_1 rfl ?_ ?_; · (simp [o_0, o_1, o_2, o_3, o_4, o_5, o_6, o_7, t0, t11, intsArg, hi1', hi2']; done)) | (refine run_skip (d := (some 30)) o_1 rfl ?_ ?_; · (simp [o_0, o_1, o_2, o_3, o_4, o_5, o_6, o_7, t0, t11, intsArg, hi1', hi2']; done))
    try refine ⟨_, by simp [t0, t11, intsArg, hi1', hi2']; try rfl, ?_⟩
    first | (refine run_ex (d := (some 31)) o_2 rfl ?_ ?_; · (simp [o_0, o_1, o_2, o_3, o_4, o_5, o_6, o_7, t0, t11, intsArg, hi1', hi2']; done)) | (refine run_skip (d := (some 31)) o_2 rfl ?_ ?_; · (simp [o_0, o_1, o_2, o_3, o_4, o_5, o_6, o_7, t0, t11, intsArg, hi1', hi2']; done))
    try refine ⟨_, by simp [t0, t11, intsArg, hi1', hi2']; try rfl, ?_⟩
    first | (refine run_ex (d := (some 32)) o_3 rfl ?_ ?_; · (simp [o_0, o_1, o_2, o_3, o_4, o_5, o_6, o_7, t0, t11, intsArg, hi1', hi2']; done)) | (refine run_skip (d := (some 32)) o_3 rfl ?_ ?_; · (simp [o_0, o_1, o_2, o_3, o_4, o_5, o_6, o_7, t0, t11, intsArg, hi1', hi2']; done))
    try refine ⟨_, by simp [t0, t11, intsArg, hi1', hi2']; try rfl, ?_⟩
    first | (refine run_ex (d := (some 33)) o_4 rfl ?_ ?_; · (simp [o_0, o_1, o_2, o_3, o_4, o_5, o_6, o_7, t0, t11, intsArg, hi1', hi2']; done)) | (refine run_skip (d := (some 33)) o_4 rfl ?_ ?_; · (simp [o_0, o_1, o_2, o_3, o_4, o_5, o_6, o_7, t0, t11, intsArg, hi1', hi2']; done))
    try refine ⟨_, by simp [t0, t11, intsArg, hi1', hi2']; try rfl, ?_⟩
    first | (refine run_ex (d := (some 34)) o_5 rfl ?_ ?_; · (simp [o_0, o_1, o_2, o_3, o_4, o_5, o_6, o_7, t0, t11, intsArg, hi1', hi2']; done)) | (refine run_skip (d := (some 34)) o_5 rfl ?_ ?_; · (simp [o_0, o_1, o_2, o_3, o_4, o_5, o_6, o_7, t0, t11, intsArg, hi1', hi2']; done))
    try refine ⟨_, by simp [t0, t11, intsArg, hi1', hi2']; try rfl, ?_⟩
    first | (refine run_ex (d := (some 35)) o_6 rfl ?_ ?_; · (simp [o_0, o_1, o_2, o_3, o_4, o_5, o_6, o_7, t0, t11, intsArg, hi1', hi2']; done)) | (refine run_skip (d := (some 35)) o_6 rfl ?_ ?_; · (simp [o_0, o_1, o_2, o_3, o_4, o_5, o_6, o_7, t0, t11, intsArg, hi1', hi2']; done))
    try refine ⟨_, by simp [t0, t11, intsArg, hi1', hi2']; try rfl, ?_⟩
    first | (refine run_ex (d := (some 36)) o_7 rfl ?_ ?_; · (simp [o_0, o_1, o_2, o_3, o_4, o_5, o_6, o_7, t0, t11, intsArg, hi1', hi2']; done)) | (refine run_skip (d := (some 36)) o_7 rfl ?_ ?_; · (simp [o_0, o_1, o_2, o_3, o_4, o_5, o_6, o_7, t0, t11, intsArg, hi1', hi2']; done))
    try refine ⟨_, by simp [t0, t11, intsArg, hi1', hi2']; try rfl, ?_⟩
    refine run_end ?_
    apply hK; clear hK K o_0 o_1 o_2 o_3 o_4 o_5 o_6 o_7 o_sz; simp only [onNormal, onExit, tput]
    (repeat refine AWP.seq ?_); refine AWP.cond (b := true) (by simp) ?_; simp only [if_true, if_false, Bool.false_eq_true]
    refine AWP.skip ?_; simp only [onNormal, onExit]
    (repeat refine AWP.seq ?_); refine AWP.block ?_
    obtain ⟨M, hM⟩ : ∃ M, M = B.map vi := ⟨_, rfl⟩
    have hMl : M.length = B.length := by rw [hM, List.length_map]
    have hMi : M[i]? = some (vi B[i]) := by rw [hM, List.getElem?_map, List.getElem?_eq_getElem hi1]; rfl
    have hMi' : ∀ h : i < M.length, M[i] = vi B[i] := fun h => (List.getElem?_eq_some_iff.1 hMi).2
    have t0' : T 0 = .im false B.length M := by rw [t0, hM]; rfl
    obtain ⟨k, hk⟩ : ∃ k, k = (B[i] % 12).toNat := ⟨_, rfl⟩
    have hk12 : k < 12 := by have := within_lt B[i] (show (0 : Int) < 12 by decide); omega
    have hwk := fun nm' H' => within_at B[i] 12 (by decide) nm' H'
    rw [<- hk] at hwk
    (repeat refine AWP.seq ?_)
    refine AWP.region_last hcall rfl fun K hK => ?_
    simp [t0', t11, hi1, hMl, hMi, hMi', hwk]
    apply hK; clear hK K; simp only [onNormal, onExit]
    clear hwk hcall
    have hA := hI.ad
    obtain ⟨sr, hE, hsl, hsk⟩ := hI.seen
    by_cases hx : ∃ x ∈ L, x.b = k
    · have hcall := onF_ok (stS_ok (f := 18) (xs := [.ptr S.s 0, vi (k : Int), .agg [vi 0, vi (b : Int)]]) (pre := fun H => SrvIs H S L) (r := fun _ => .tup [.agg [vi 0, vi 0], vi 12]) (post := fun _ H => H) (by kernel_rfl) fun nm H h => create_is nm H h (by omega) hb8 hI.len hx) (@noCall_ok Tryz.prog)
      have hcr : ∀ nm', stS [.ptr S.s 0, vi (k : Int), .agg [vi 0, vi (b : Int)]] (fun H => SrvIs H S L) (fun _ => .tup [.agg [vi 0, vi 0], vi 12]) (fun _ H => H) [.ptr S.s 0, vi (k : Int), .agg [vi 0, vi (b : Int)]] nm' H = some (.tup [.agg [vi 0, vi 0], vi 12], H) := fun nm' => stS_at hI.srv
      (repeat refine AWP.seq ?_)
      refine AWP.draw_ops rfl hcall [0, 1, 3, 7, 15, 0, 0, 127, 255, 511, 511, 0, 3071, 8191] [⟨0, false, []⟩, ⟨1, false, []⟩, ⟨2, false, []⟩, ⟨3, false, []⟩, ⟨4, false, [0]⟩, ⟨5, false, []⟩, ⟨6, false, [0]⟩, ⟨7, true, []⟩, ⟨8, false, []⟩, ⟨9, false, []⟩, ⟨11, false, []⟩, ⟨12, true, []⟩, ⟨10, false, []⟩, ⟨13, false, []⟩] rfl (by kernel_rfl) fun ops' hops K hK => ?_
      have o_0 := op_at hops 0 rfl
      have o_1 := op_at hops 1 rfl
      have o_2 := op_at hops 2 rfl
      have o_3 := op_at hops 3 rfl
      have o_4 := op_at hops 4 rfl
      have o_5 := op_at hops 5 rfl
      have o_6 := op_at hops 6 rfl
      have o_7 := op_at hops 7 rfl
      have o_8 := op_at hops 8 rfl
      have o_9 := op_at hops 9 rfl
      have o_10 := op_at hops 10 rfl
      have o_11 := op_at hops 11 rfl
      have o_12 := op_at hops 12 rfl
      have o_13 := op_at hops 13 rfl
      have o_sz : ops'.size = 14 := op_sz hops rfl
      clear hops
      refine planW_ex (d := (some 45)) o_0 rfl rfl ⟨_, by simp [List.lookup, t7, t8, hrow, h4, h4', hl4, hA, hcr]; try rfl, trivial, ?_⟩
      clear o_0
      refine planW_ex (d := (some 46)) o_1 rfl rfl ⟨_, by simp [List.lookup, t7, t8, hrow, h4, h4', hl4, hA, hcr]; try rfl, trivial, ?_⟩
      clear o_1
      refine planW_ex (d := (some 47)) o_2 rfl rfl ⟨_, by simp [List.lookup, t7, t8, hrow, h4, h4', hl4, hA, hcr]; try rfl, trivial, ?_⟩
      clear o_2
      refine planW_ex (d := (some 48)) o_3 rfl rfl ⟨_, by simp [List.lookup, t7, t8, hrow, h4, h4', hl4, hA, hcr]; try rfl, trivial, ?_⟩
      clear o_3
      refine planW_ex (d := (some 49)) o_4 rfl rfl ⟨_, by simp [List.lookup, t7, t8, hrow, h4, h4', hl4, hA, hcr]; try rfl, by simp [chkW, List.lookup, List.lookup, t7, t8, hrow, h4, h4', hl4, hA, hcr], ?_⟩
      clear o_4
      refine planW_ex (d := (some 50)) o_5 rfl rfl ⟨_, by simp [List.lookup, t7, t8, hrow, h4, h4', hl4, hA, hcr]; try rfl, trivial, ?_⟩
      clear o_5
      refine planW_ex (d := (some 51)) o_6 rfl rfl ⟨_, by simp [List.lookup, t7, t8, hrow, h4, h4', hl4, hA, hcr]; try rfl, by simp [chkW, List.lookup, List.lookup, t7, t8, hrow, h4, h4', hl4, hA, hcr], ?_⟩
      clear o_6
      refine planW_ex (d := (some 52)) o_7 rfl rfl ⟨_, by simp [List.lookup, t7, t8, hrow, h4, h4', hl4, hA, hcr]; try rfl, trivial, ?_⟩
      clear o_7
      refine planW_ex (d := (some 44)) o_8 rfl rfl ⟨_, by simp [List.lookup, t7, t8, hrow, h4, h4', hl4, hA, hcr]; try rfl, trivial, ?_⟩
      clear o_8
      refine planW_ex (d := (some 53)) o_9 rfl rfl ⟨_, by simp [List.lookup, t7, t8, hrow, h4, h4', hl4, hA, hcr]; try rfl, trivial, ?_⟩
      clear o_9
      refine planW_ex (d := (some 13)) o_11 rfl rfl ⟨_, by simp [List.lookup, t7, t8, hrow, h4, h4', hl4, hA, hcr]; try rfl, trivial, ?_⟩
      clear o_11
      refine planW_ex (d := none) o_12 rfl rfl ⟨_, by simp [List.lookup, t7, t8, hrow, h4, h4', hl4, hA, hcr]; try rfl, trivial, ?_⟩
      clear o_12
      refine planW_ex (d := (some 54)) o_10 rfl rfl ⟨_, by simp [List.lookup, t7, t8, hrow, h4, h4', hl4, hA, hcr]; try rfl, trivial, ?_⟩
      clear o_10
      refine planW_ex (d := (some 14)) o_13 rfl rfl ⟨_, by simp [List.lookup, t7, t8, hrow, h4, h4', hl4, hA, hcr]; try rfl, trivial, ?_⟩
      clear o_13
      refine planW_end o_sz ?_
      apply hK; clear hK K o_sz; simp only [onNormal, onExit, tput]
      (repeat refine AWP.seq ?_); refine AWP.block ?_
      refine AWP.less (H' := H) (two_more hr (by omega)) ?_
      have hek := hsk k hk12
      rw [decide_eq_true hx] at hek
      have hek' : ∀ h : k < sr.length, sr[k] = vb true := fun h => (List.getElem?_eq_some_iff.1 hek).2
      have hks : k < 100 := by omega
      (repeat refine AWP.seq ?_)
      refine AWP.region_last hcall rfl fun K hK => ?_
      simp [t9, hE, hek, hek', hsl, hks]
      apply hK; clear hK K; simp only [onNormal, onExit]
      (repeat refine AWP.seq ?_); refine AWP.cond (b := true) (by simp) ?_; simp only [if_true, if_false, Bool.false_eq_true]
      (repeat refine AWP.seq ?_)
      refine AWP.region_last hcall rfl fun K hK => ?_
      simp
      apply hK; clear hK K; simp only [onNormal, onExit]
      (repeat refine AWP.seq ?_); refine AWP.cond (b := false) (by simp) ?_; simp only [if_true, if_false, Bool.false_eq_true]
      refine AWP.skip ?_; simp only [onNormal, onExit]
      refine AWP.exit ?_; simp only [onNormal, onExit, if_true, reduceCtorEq, if_false]
      (repeat refine AWP.seq ?_)
      refine AWP.region_last hcall rfl fun K hK => ?_
      simp [t11, hwi]
      apply hK; clear hK K; simp only [onNormal, onExit]
      exact ⟨B.length - (i + 1), by omega, i + 1, L, S, by omega, rfl, by simp [t0], by simp [t2], by simp [t7], by simp [t8], by simp [t9], by simp [t10], by simp, hI⟩
    · have hek := hsk k hk12
      rw [decide_eq_false hx] at hek
      have hek' : ∀ h : k < sr.length, sr[k] = vb false := fun h => (List.getElem?_eq_some_iff.1 hek).2
      have hks : k < 100 := by omega
      by_cases hL8 : L.length = 8
      · have hcall := onF_ok (stS_ok (f := 18) (xs := [.ptr S.s 0, vi (k : Int), .agg [vi 0, vi (b : Int)]]) (pre := fun H => SrvIs H S L) (r := fun _ => .tup [.agg [vi 0, vi 0], vi 4]) (post := fun _ H => H) (by kernel_rfl) fun nm H h => create_many nm H h (by omega) hb8 hL8 hx) (@noCall_ok Tryz.prog)
        have hcr : ∀ nm', stS [.ptr S.s 0, vi (k : Int), .agg [vi 0, vi (b : Int)]] (fun H => SrvIs H S L) (fun _ => .tup [.agg [vi 0, vi 0], vi 4]) (fun _ H => H) [.ptr S.s 0, vi (k : Int), .agg [vi 0, vi (b : Int)]] nm' H = some (.tup [.agg [vi 0, vi 0], vi 4], H) := fun nm' => stS_at hI.srv
        (repeat refine AWP.seq ?_)
        refine AWP.draw_ops rfl hcall [0, 1, 3, 7, 15, 0, 0, 127, 255, 511, 511, 0, 3071, 8191] [⟨0, false, []⟩, ⟨1, false, []⟩, ⟨2, false, []⟩, ⟨3, false, []⟩, ⟨4, false, [0]⟩, ⟨5, false, []⟩, ⟨6, false, [0]⟩, ⟨7, true, []⟩, ⟨8, false, []⟩, ⟨9, false, []⟩, ⟨11, false, []⟩, ⟨12, true, []⟩, ⟨10, false, []⟩, ⟨13, false, []⟩] rfl (by kernel_rfl) fun ops' hops K hK => ?_
        have o_0 := op_at hops 0 rfl
        have o_1 := op_at hops 1 rfl
        have o_2 := op_at hops 2 rfl
        have o_3 := op_at hops 3 rfl
        have o_4 := op_at hops 4 rfl
        have o_5 := op_at hops 5 rfl
        have o_6 := op_at hops 6 rfl
        have o_7 := op_at hops 7 rfl
        have o_8 := op_at hops 8 rfl
        have o_9 := op_at hops 9 rfl
        have o_10 := op_at hops 10 rfl
        have o_11 := op_at hops 11 rfl
        have o_12 := op_at hops 12 rfl
        have o_13 := op_at hops 13 rfl
        have o_sz : ops'.size = 14 := op_sz hops rfl
        clear hops
        refine planW_ex (d := (some 45)) o_0 rfl rfl ⟨_, by simp [List.lookup, t7, t8, hrow, h4, h4', hl4, hA, hcr]; try rfl, trivial, ?_⟩
        clear o_0
        refine planW_ex (d := (some 46)) o_1 rfl rfl ⟨_, by simp [List.lookup, t7, t8, hrow, h4, h4', hl4, hA, hcr]; try rfl, trivial, ?_⟩
        clear o_1
        refine planW_ex (d := (some 47)) o_2 rfl rfl ⟨_, by simp [List.lookup, t7, t8, hrow, h4, h4', hl4, hA, hcr]; try rfl, trivial, ?_⟩
        clear o_2
        refine planW_ex (d := (some 48)) o_3 rfl rfl ⟨_, by simp [List.lookup, t7, t8, hrow, h4, h4', hl4, hA, hcr]; try rfl, trivial, ?_⟩
        clear o_3
        refine planW_ex (d := (some 49)) o_4 rfl rfl ⟨_, by simp [List.lookup, t7, t8, hrow, h4, h4', hl4, hA, hcr]; try rfl, by simp [chkW, List.lookup, List.lookup, t7, t8, hrow, h4, h4', hl4, hA, hcr], ?_⟩
        clear o_4
        refine planW_ex (d := (some 50)) o_5 rfl rfl ⟨_, by simp [List.lookup, t7, t8, hrow, h4, h4', hl4, hA, hcr]; try rfl, trivial, ?_⟩
        clear o_5
        refine planW_ex (d := (some 51)) o_6 rfl rfl ⟨_, by simp [List.lookup, t7, t8, hrow, h4, h4', hl4, hA, hcr]; try rfl, by simp [chkW, List.lookup, List.lookup, t7, t8, hrow, h4, h4', hl4, hA, hcr], ?_⟩
        clear o_6
        refine planW_ex (d := (some 52)) o_7 rfl rfl ⟨_, by simp [List.lookup, t7, t8, hrow, h4, h4', hl4, hA, hcr]; try rfl, trivial, ?_⟩
        clear o_7
        refine planW_ex (d := (some 44)) o_8 rfl rfl ⟨_, by simp [List.lookup, t7, t8, hrow, h4, h4', hl4, hA, hcr]; try rfl, trivial, ?_⟩
        clear o_8
        refine planW_ex (d := (some 53)) o_9 rfl rfl ⟨_, by simp [List.lookup, t7, t8, hrow, h4, h4', hl4, hA, hcr]; try rfl, trivial, ?_⟩
        clear o_9
        refine planW_ex (d := (some 13)) o_11 rfl rfl ⟨_, by simp [List.lookup, t7, t8, hrow, h4, h4', hl4, hA, hcr]; try rfl, trivial, ?_⟩
        clear o_11
        refine planW_ex (d := none) o_12 rfl rfl ⟨_, by simp [List.lookup, t7, t8, hrow, h4, h4', hl4, hA, hcr]; try rfl, trivial, ?_⟩
        clear o_12
        refine planW_ex (d := (some 54)) o_10 rfl rfl ⟨_, by simp [List.lookup, t7, t8, hrow, h4, h4', hl4, hA, hcr]; try rfl, trivial, ?_⟩
        clear o_10
        refine planW_ex (d := (some 14)) o_13 rfl rfl ⟨_, by simp [List.lookup, t7, t8, hrow, h4, h4', hl4, hA, hcr]; try rfl, trivial, ?_⟩
        clear o_13
        refine planW_end o_sz ?_
        apply hK; clear hK K o_sz; simp only [onNormal, onExit, tput]
        (repeat refine AWP.seq ?_); refine AWP.block ?_
        refine AWP.less (H' := H) (two_more hr (by omega)) ?_
        (repeat refine AWP.seq ?_)
        refine AWP.region_last hcall rfl fun K hK => ?_
        simp [t9, hE, hek, hek', hsl, hks]
        apply hK; clear hK K; simp only [onNormal, onExit]
        (repeat refine AWP.seq ?_); refine AWP.cond (b := false) (by simp) ?_; simp only [if_true, if_false, Bool.false_eq_true]
        (repeat refine AWP.seq ?_)
        refine AWP.region_last hcall rfl fun K hK => ?_
        simp [t10, hL8]
        apply hK; clear hK K; simp only [onNormal, onExit]
        (repeat refine AWP.seq ?_); refine AWP.cond (b := true) (by simp) ?_; simp only [if_true, if_false, Bool.false_eq_true]
        (repeat refine AWP.seq ?_)
        refine AWP.region_last hcall rfl fun K hK => ?_
        simp
        apply hK; clear hK K; simp only [onNormal, onExit]
        (repeat refine AWP.seq ?_); refine AWP.cond (b := false) (by simp) ?_; simp only [if_true, if_false, Bool.false_eq_true]
        refine AWP.skip ?_; simp only [onNormal, onExit]
        refine AWP.exit ?_; simp only [onNormal, onExit, if_true, reduceCtorEq, if_false]
        (repeat refine AWP.seq ?_)
        refine AWP.region_last hcall rfl fun K hK => ?_
        simp [t11, hwi]
        apply hK; clear hK K; simp only [onNormal, onExit]
        exact ⟨B.length - (i + 1), by omega, i + 1, L, S, by omega, rfl, by simp [t0], by simp [t2], by simp [t7], by simp [t8], by simp [t9], by simp [t10], by simp, hI⟩
      · have hlen := hI.len
        have hnum := hI.num
        have hroom : S.at' + 41 <= S.N := by rw [hnum.1, hnum.2.1]; omega
        have hcnt : S.cnt < 1000 := by rw [hI.srv.hc]; omega
        have hcall := onF_ok (stS_ok (f := 18) (xs := [.ptr S.s 0, vi (k : Int), .agg [vi 0, vi (b : Int)]]) (pre := fun H => SrvIs H S L) (r := fun _ => .tup [.agg [vi 0, vi (k : Int)], vi 0]) (post := fun nm H => createH nm S L k b H) (by kernel_rfl) fun nm H h => create_walk nm H h (by omega) hb8 (by omega) hx hroom hcnt) (@noCall_ok Tryz.prog)
        have hcr : ∀ nm', stS [.ptr S.s 0, vi (k : Int), .agg [vi 0, vi (b : Int)]] (fun H => SrvIs H S L) (fun _ => .tup [.agg [vi 0, vi (k : Int)], vi 0]) (fun nm H => createH nm S L k b H) [.ptr S.s 0, vi (k : Int), .agg [vi 0, vi (b : Int)]] nm' H = some (.tup [.agg [vi 0, vi (k : Int)], vi 0], createH nm' S L k b H) := fun nm' => stS_at hI.srv
        (repeat refine AWP.seq ?_)
        refine AWP.draw_ops rfl hcall [0, 1, 3, 7, 15, 0, 0, 127, 255, 511, 511, 0, 3071, 8191] [⟨0, false, []⟩, ⟨1, false, []⟩, ⟨2, false, []⟩, ⟨3, false, []⟩, ⟨4, false, [0]⟩, ⟨5, false, []⟩, ⟨6, false, [0]⟩, ⟨7, true, []⟩, ⟨8, false, []⟩, ⟨9, false, []⟩, ⟨11, false, []⟩, ⟨12, true, []⟩, ⟨10, false, []⟩, ⟨13, false, []⟩] rfl (by kernel_rfl) fun ops' hops K hK => ?_
        have o_0 := op_at hops 0 rfl
        have o_1 := op_at hops 1 rfl
        have o_2 := op_at hops 2 rfl
        have o_3 := op_at hops 3 rfl
        have o_4 := op_at hops 4 rfl
        have o_5 := op_at hops 5 rfl
        have o_6 := op_at hops 6 rfl
        have o_7 := op_at hops 7 rfl
        have o_8 := op_at hops 8 rfl
        have o_9 := op_at hops 9 rfl
        have o_10 := op_at hops 10 rfl
        have o_11 := op_at hops 11 rfl
        have o_12 := op_at hops 12 rfl
        have o_13 := op_at hops 13 rfl
        have o_sz : ops'.size = 14 := op_sz hops rfl
        clear hops
        refine planW_ex (d := (some 45)) o_0 rfl rfl ⟨_, by simp [List.lookup, t7, t8, hrow, h4, h4', hl4, hA, hcr]; try rfl, trivial, ?_⟩
        clear o_0
        refine planW_ex (d := (some 46)) o_1 rfl rfl ⟨_, by simp [List.lookup, t7, t8, hrow, h4, h4', hl4, hA, hcr]; try rfl, trivial, ?_⟩
        clear o_1
        refine planW_ex (d := (some 47)) o_2 rfl rfl ⟨_, by simp [List.lookup, t7, t8, hrow, h4, h4', hl4, hA, hcr]; try rfl, trivial, ?_⟩
        clear o_2
        refine planW_ex (d := (some 48)) o_3 rfl rfl ⟨_, by simp [List.lookup, t7, t8, hrow, h4, h4', hl4, hA, hcr]; try rfl, trivial, ?_⟩
        clear o_3
        refine planW_ex (d := (some 49)) o_4 rfl rfl ⟨_, by simp [List.lookup, t7, t8, hrow, h4, h4', hl4, hA, hcr]; try rfl, by simp [chkW, List.lookup, List.lookup, t7, t8, hrow, h4, h4', hl4, hA, hcr], ?_⟩
        clear o_4
        refine planW_ex (d := (some 50)) o_5 rfl rfl ⟨_, by simp [List.lookup, t7, t8, hrow, h4, h4', hl4, hA, hcr]; try rfl, trivial, ?_⟩
        clear o_5
        refine planW_ex (d := (some 51)) o_6 rfl rfl ⟨_, by simp [List.lookup, t7, t8, hrow, h4, h4', hl4, hA, hcr]; try rfl, by simp [chkW, List.lookup, List.lookup, t7, t8, hrow, h4, h4', hl4, hA, hcr], ?_⟩
        clear o_6
        refine planW_ex (d := (some 52)) o_7 rfl rfl ⟨_, by simp [List.lookup, t7, t8, hrow, h4, h4', hl4, hA, hcr]; try rfl, trivial, ?_⟩
        clear o_7
        refine planW_ex (d := (some 44)) o_8 rfl rfl ⟨_, by simp [List.lookup, t7, t8, hrow, h4, h4', hl4, hA, hcr]; try rfl, trivial, ?_⟩
        clear o_8
        refine planW_ex (d := (some 53)) o_9 rfl rfl ⟨_, by simp [List.lookup, t7, t8, hrow, h4, h4', hl4, hA, hcr]; try rfl, trivial, ?_⟩
        clear o_9
        refine planW_ex (d := (some 13)) o_11 rfl rfl ⟨_, by simp [List.lookup, t7, t8, hrow, h4, h4', hl4, hA, hcr]; try rfl, trivial, ?_⟩
        clear o_11
        refine planW_ex (d := none) o_12 rfl rfl ⟨_, by simp [List.lookup, t7, t8, hrow, h4, h4', hl4, hA, hcr]; try rfl, trivial, ?_⟩
        clear o_12
        refine planW_ex (d := (some 54)) o_10 rfl rfl ⟨_, by simp [List.lookup, t7, t8, hrow, h4, h4', hl4, hA, hcr]; try rfl, trivial, ?_⟩
        clear o_10
        refine planW_ex (d := (some 14)) o_13 rfl rfl ⟨_, by simp [List.lookup, t7, t8, hrow, h4, h4', hl4, hA, hcr]; try rfl, trivial, ?_⟩
        clear o_13
        refine planW_end o_sz ?_
        apply hK; clear hK K o_sz; simp only [onNormal, onExit, tput]
        refine AWP.cre hI.srv hfs hroom (by omega) (by omega) (by omega) fun G hG hfar hGy => ?_
        have gq := hfar q row hI.fq hrow
        have gA := hfar _ _ hI.fA hA
        have gE := hfar _ _ hI.fE hE
        have hl8 : ¬ (8 : Int) <= (L.length : Int) := by omega
        have hwn : IntKind.i64.wrap ((L.length : Int) + 1) = ((L.length + 1 : Nat) : Int) := by rw [IntKind.wrap_i64]; omega
        clear hcall hcr
        have hcall := @noCall_ok Tryz.prog
        (repeat refine AWP.seq ?_); refine AWP.block ?_
        (repeat refine AWP.seq ?_)
        refine AWP.region_last hcall rfl fun K hK => ?_
        simp [t9, gE, hek, hek', hsl, hks]
        apply hK; clear hK K; simp only [onNormal, onExit]
        (repeat refine AWP.seq ?_); refine AWP.cond (b := false) (by simp) ?_; simp only [if_true, if_false, Bool.false_eq_true]
        (repeat refine AWP.seq ?_)
        refine AWP.region_last hcall rfl fun K hK => ?_
        simp [t10, hl8]
        apply hK; clear hK K; simp only [onNormal, onExit]
        (repeat refine AWP.seq ?_); refine AWP.cond (b := false) (by simp [hl8]) ?_; simp only [if_true, if_false, Bool.false_eq_true]
        refine AWP.skip ?_; simp only [onNormal, onExit]
        (repeat refine AWP.seq ?_)
        refine AWP.region_ops hcall rfl fun ops' hops K hK => ?_
        have o_0 := op_at hops 0 rfl
        have o_1 := op_at hops 1 rfl
        have o_2 := op_at hops 2 rfl
        have o_3 := op_at hops 3 rfl
        have o_4 := op_at hops 4 rfl
        have o_5 := op_at hops 5 rfl
        have o_6 := op_at hops 6 rfl
        have o_7 := op_at hops 7 rfl
        have o_sz : ops'.size = 8 := op_sz hops rfl
        clear hops
        rw [o_sz]
        change Ran K _ (runList _ _ ops' _ _ [0, 1, 2, 3, 4, 5, 6, 7] _ _)
        first | (refine run_ex (d := (some 66)) o_0 rfl ?_ ?_; · (simp [o_0, o_1, o_2, o_3, o_4, o_5, o_6, o_7, hGy, -aeq, aeq_ii, aeq_id]; done)) | (refine run_skip (d := (some 66)) o_0 rfl ?_ ?_; · (simp [o_0, o_1, o_2, o_3, o_4, o_5, o_6, o_7, hGy, -aeq, aeq_ii, aeq_id]; done))
        try refine ⟨_, by simp [hGy, -aeq, aeq_ii, aeq_id]; try rfl, ?_⟩
        first | (refine run_ex (d := (some 67)) o_1 rfl ?_ ?_; · (simp [o_0, o_1, o_2, o_3, o_4, o_5, o_6, o_7, hGy, -aeq, aeq_ii, aeq_id]; done)) | (refine run_skip (d := (some 67)) o_1 rfl ?_ ?_; · (simp [o_0, o_1, o_2, o_3, o_4, o_5, o_6, o_7, hGy, -aeq, aeq_ii, aeq_id]; done))
        try refine ⟨_, by simp [hGy, -aeq, aeq_ii, aeq_id]; try rfl, ?_⟩
        first | (refine run_ex (d := (some 68)) o_2 rfl ?_ ?_; · (simp [o_0, o_1, o_2, o_3, o_4, o_5, o_6, o_7, hGy, -aeq, aeq_ii, aeq_id]; done)) | (refine run_skip (d := (some 68)) o_2 rfl ?_ ?_; · (simp [o_0, o_1, o_2, o_3, o_4, o_5, o_6, o_7, hGy, -aeq, aeq_ii, aeq_id]; done))
        try refine ⟨_, by simp [hGy, -aeq, aeq_ii, aeq_id]; try rfl, ?_⟩
        first | (refine run_ex (d := (some 69)) o_3 rfl ?_ ?_; · (simp [o_0, o_1, o_2, o_3, o_4, o_5, o_6, o_7, hGy, -aeq, aeq_ii, aeq_id]; done)) | (refine run_skip (d := (some 69)) o_3 rfl ?_ ?_; · (simp [o_0, o_1, o_2, o_3, o_4, o_5, o_6, o_7, hGy, -aeq, aeq_ii, aeq_id]; done))
        try refine ⟨_, by simp [hGy, -aeq, aeq_ii, aeq_id]; try rfl, ?_⟩
        first | (refine run_ex (d := (some 70)) o_4 rfl ?_ ?_; · (simp [o_0, o_1, o_2, o_3, o_4, o_5, o_6, o_7, hGy, -aeq, aeq_ii, aeq_id]; done)) | (refine run_skip (d := (some 70)) o_4 rfl ?_ ?_; · (simp [o_0, o_1, o_2, o_3, o_4, o_5, o_6, o_7, hGy, -aeq, aeq_ii, aeq_id]; done))
        try refine ⟨_, by simp [hGy, -aeq, aeq_ii, aeq_id]; try rfl, ?_⟩
        first | (refine run_ex (d := (some 71)) o_5 rfl ?_ ?_; · (simp [o_0, o_1, o_2, o_3, o_4, o_5, o_6, o_7, hGy, -aeq, aeq_ii, aeq_id]; done)) | (refine run_skip (d := (some 71)) o_5 rfl ?_ ?_; · (simp [o_0, o_1, o_2, o_3, o_4, o_5, o_6, o_7, hGy, -aeq, aeq_ii, aeq_id]; done))
        try refine ⟨_, by simp [hGy, -aeq, aeq_ii, aeq_id]; try rfl, ?_⟩
        first | (refine run_ex (d := (some 72)) o_6 rfl ?_ ?_; · (simp [o_0, o_1, o_2, o_3, o_4, o_5, o_6, o_7, hGy, -aeq, aeq_ii, aeq_id]; done)) | (refine run_skip (d := (some 72)) o_6 rfl ?_ ?_; · (simp [o_0, o_1, o_2, o_3, o_4, o_5, o_6, o_7, hGy, -aeq, aeq_ii, aeq_id]; done))
        try refine ⟨_, by simp [hGy, -aeq, aeq_ii, aeq_id]; try rfl, ?_⟩
        first | (refine run_ex (d := (some 73)) o_7 rfl ?_ ?_; · (simp [o_0, o_1, o_2, o_3, o_4, o_5, o_6, o_7, hGy, -aeq, aeq_ii, aeq_id]; done)) | (refine run_skip (d := (some 73)) o_7 rfl ?_ ?_; · (simp [o_0, o_1, o_2, o_3, o_4, o_5, o_6, o_7, hGy, -aeq, aeq_ii, aeq_id]; done))
        try refine ⟨_, by simp [hGy, -aeq, aeq_ii, aeq_id]; try rfl, ?_⟩
        refine run_end ?_
        apply hK; clear hK K o_0 o_1 o_2 o_3 o_4 o_5 o_6 o_7 o_sz; simp only [onNormal, onExit, tput]
        (repeat refine AWP.seq ?_); refine AWP.cond (b := false) (by simp) ?_; simp only [if_true, if_false, Bool.false_eq_true]
        refine AWP.skip ?_; simp only [onNormal, onExit]
        have hk99 : k <= 99 := by omega
        (repeat refine AWP.seq ?_)
        refine AWP.region_last hcall rfl fun K hK => ?_
        simp [t9, gE, hsl, hks, hk99]
        apply hK; clear hK K; simp only [onNormal, onExit]
        (repeat refine AWP.seq ?_)
        refine AWP.region_last hcall rfl fun K hK => ?_
        simp [t10, hwn]
        apply hK; clear hK K; simp only [onNormal, onExit]
        obtain ⟨S1, hS1⟩ : ∃ S1 n1, S1 = nextS [n1] S L k b /\ SrvIs G S1 (nextL [n1] L k b) /\ c' <= n1 := ⟨_, _, rfl, hG, by omega⟩
        obtain ⟨n1, hS1, hG', hn1⟩ := hS1
        have f1 : ∀ {q row}, Far S q -> H q = some row -> Far S1 q := fun hq hr => by rw [hS1]; exact hq.next hr (hfs n1 hn1)
        have hfE := f1 hI.fE hE
        have hS1s : S1.s = S.s := by rw [hS1]; rfl
        have hS1n : S1.N = 40000 /\ S1.at' = 41 * (L.length + 1) /\ S1.saf = L.length /\ S1.cnt = L.length + 1 := by
          rw [hS1]
          refine ⟨hnum.1, ?_, hnum.2.2, ?_⟩
          · show S.at' + (8 + 33) = _; rw [hnum.2.1]; omega
          · show S.cnt + 1 = _; rw [hI.srv.hc]
        obtain ⟨L1, hL1⟩ : ∃ L1, L1 = nextL [n1] L k b := ⟨_, rfl⟩
        rw [<- hL1] at hG'
        have hL1l : L1.length = L.length + 1 := by rw [hL1]; simp [nextL]
        have hlast : L1[L.length]? = some ⟨cW [n1], cR [n1], k, b⟩ := by rw [hL1, nextL, List.getElem?_append_right (Nat.le_refl _)]; simp
        have hold : ∀ i, i < L.length -> L1[i]? = L[i]? := fun i hi => by rw [hL1, nextL, List.getElem?_append_left hi]
        have huniq : ∀ (i j : Nat) (x y : WvD), L1[i]? = some x -> L1[j]? = some y -> x.b = y.b -> i = j := by
          intro i j x y hx' hy' e
          have hi' : i < L.length + 1 := by rw [<- hL1l]; exact (List.getElem?_eq_some_iff.1 hx').1
          have hj' : j < L.length + 1 := by rw [<- hL1l]; exact (List.getElem?_eq_some_iff.1 hy').1
          rcases (by omega : i < L.length \/ i = L.length) with hi | rfl <;> rcases (by omega : j < L.length \/ j = L.length) with hj | rfl
          · rw [hold i hi] at hx'; rw [hold j hj] at hy'; exact hI.uniq i j x y hx' hy' e
          · rw [hold i hi] at hx'; rw [hlast] at hy'; cases hy'
            exact absurd ⟨x, List.mem_of_getElem? hx', e⟩ hx
          · rw [hlast] at hx'; cases hx'; rw [hold j hj] at hy'
            exact absurd ⟨y, List.mem_of_getElem? hy', e.symm⟩ hx
          · rfl
        obtain ⟨G1, hG1⟩ : ∃ G1, G1 = upd G [10] (some (sr.set k (vb true))) := ⟨_, rfl⟩
        have hsrv1 : SrvIs G1 S1 L1 := by rw [hG1]; exact hG'.put hfE gE hsl
        have hsr4 : sr[4]? = some (vb (decide (∃ x ∈ L, x.b = 4))) := hsk 4 (by omega)
        have hq10 : q ≠ [10] := fun e => by
          rw [e, gE] at gq
          cases gq
          rw [h4] at hsr4; cases hsr4
        have gq1 : G1 q = some row := by rw [hG1, upd_ne _ _ hq10]; exact gq
        have gA1 : G1 [8] = some [vi 0, vi (b : Int)] := by rw [hG1, upd_ne _ _ (by simp)]; exact gA
        have gy1 := hGy
        rw [<- upd_ne G (some (sr.set k (vb true))) (fun e => by rw [e, gE] at hGy; have := congrArg List.length (Option.some.inj hGy); rw [hsl] at this; simp at this : _ ≠ [10]), <- hG1] at gy1
        rw [<- hG1]
        rw [<- hS1s] at h4 h4'
        have hzl : zeroSt.length = 37 := by simp [zeroSt, bz]
        have hz1 : AV.val (Value.int IntKind.i64 0) :: AV.val (Value.int IntKind.i64 0) :: AV.val (Value.string ByteArray.empty) :: AV.val (Value.slice none 0 0) :: AV.val (Value.int IntKind.i64 0) :: bz 32 = zeroSt := rfl
        have hzo : zeroSt.all AV.one = true := by decide
        have hzm : ∀ row : List AV, row.length = 37 -> setMany row 0 zeroSt = zeroSt := fun row h => setMany_full (by omega)
        obtain ⟨X, hX⟩ : ∃ X, X = state0 0 k 0 b := ⟨_, rfl⟩
        have hXl : X.length = 37 := by rw [hX]; exact state0_len _ _ _ _
        have hXo : X.all AV.one = true := by rw [hX, state0, stateA, List.all_append, bs_one]; rfl
        have hXm : ∀ row : List AV, row.length = 37 -> setMany row 0 X = X := fun row h => setMany_full (by omega)
        clear hcall
        have hcall := onF_ok (stS_ok (f := 19) (xs := [.ptr S1.s 0, .agg [vi 0, vi (k : Int)]]) (pre := fun H => SrvIs H S1 L1) (r := fun _ => .tup [.agg zeroSt, vb false]) (post := fun _ H => H) (by kernel_rfl) fun nm H h => state_not nm h (by omega) huniq hlast (by rw [hS1n.2.2.1]; exact Nat.lt_irrefl _)) (@noCall_ok Tryz.prog)
        have hst : ∀ nm', stS [.ptr S1.s 0, .agg [vi 0, vi (k : Int)]] (fun H => SrvIs H S1 L1) (fun _ => .tup [.agg zeroSt, vb false]) (fun _ H => H) [.ptr S1.s 0, .agg [vi 0, vi (k : Int)]] nm' G1 = some (.tup [.agg zeroSt, vb false], G1) := fun nm' => stS_at hsrv1
        refine AWP.known_fresh fun hfr2 => ?_
        (repeat refine AWP.seq ?_)
        refine AWP.draw_ops rfl hcall [0, 1, 3, 7, 15, 0, 63, 127, 255, 255, 0, 1535, 4095] [⟨0, false, []⟩, ⟨1, false, []⟩, ⟨2, false, []⟩, ⟨3, false, []⟩, ⟨4, false, [0]⟩, ⟨5, false, [0]⟩, ⟨6, true, []⟩, ⟨7, false, []⟩, ⟨8, false, []⟩, ⟨10, false, []⟩, ⟨11, true, []⟩, ⟨9, false, []⟩, ⟨12, false, []⟩] rfl (by kernel_rfl) fun ops' hops K hK => ?_
        have o_0 := op_at hops 0 rfl
        have o_1 := op_at hops 1 rfl
        have o_2 := op_at hops 2 rfl
        have o_3 := op_at hops 3 rfl
        have o_4 := op_at hops 4 rfl
        have o_5 := op_at hops 5 rfl
        have o_6 := op_at hops 6 rfl
        have o_7 := op_at hops 7 rfl
        have o_8 := op_at hops 8 rfl
        have o_9 := op_at hops 9 rfl
        have o_10 := op_at hops 10 rfl
        have o_11 := op_at hops 11 rfl
        have o_12 := op_at hops 12 rfl
        have o_sz : ops'.size = 13 := op_sz hops rfl
        clear hops
        refine planW_ex (d := (some 79)) o_0 rfl rfl ⟨_, by simp [List.lookup, t7, t8, gq1, h4, h4', hl4, gy1, hst, hz1, hzl, hzm, -List.all_eq_true, hzo]; try rfl, trivial, ?_⟩
        clear o_0
        refine planW_ex (d := (some 80)) o_1 rfl rfl ⟨_, by simp [List.lookup, t7, t8, gq1, h4, h4', hl4, gy1, hst, hz1, hzl, hzm, -List.all_eq_true, hzo]; try rfl, trivial, ?_⟩
        clear o_1
        refine planW_ex (d := (some 81)) o_2 rfl rfl ⟨_, by simp [List.lookup, t7, t8, gq1, h4, h4', hl4, gy1, hst, hz1, hzl, hzm, -List.all_eq_true, hzo]; try rfl, trivial, ?_⟩
        clear o_2
        refine planW_ex (d := (some 82)) o_3 rfl rfl ⟨_, by simp [List.lookup, t7, t8, gq1, h4, h4', hl4, gy1, hst, hz1, hzl, hzm, -List.all_eq_true, hzo]; try rfl, trivial, ?_⟩
        clear o_3
        refine planW_ex (d := (some 83)) o_4 rfl rfl ⟨_, by simp [List.lookup, t7, t8, gq1, h4, h4', hl4, gy1, hst, hz1, hzl, hzm, -List.all_eq_true, hzo]; try rfl, by simp [chkW, List.lookup, List.lookup, t7, t8, gq1, h4, h4', hl4, gy1, hst, hz1, hzl, hzm, -List.all_eq_true, hzo], ?_⟩
        clear o_4
        refine planW_ex (d := (some 84)) o_5 rfl rfl ⟨_, by simp [List.lookup, t7, t8, gq1, h4, h4', hl4, gy1, hst, hz1, hzl, hzm, -List.all_eq_true, hzo]; try rfl, by simp [chkW, List.lookup, List.lookup, t7, t8, gq1, h4, h4', hl4, gy1, hst, hz1, hzl, hzm, -List.all_eq_true, hzo], ?_⟩
        clear o_5
        refine planW_ex (d := (some 85)) o_6 rfl rfl ⟨_, by simp [List.lookup, t7, t8, gq1, h4, h4', hl4, gy1, hst, hz1, hzl, hzm, -List.all_eq_true, hzo]; try rfl, trivial, ?_⟩
        clear o_6
        refine planW_ex (d := (some 78)) o_7 rfl rfl ⟨_, by simp [List.lookup, t7, t8, gq1, h4, h4', hl4, gy1, hst, hz1, hzl, hzm, -List.all_eq_true, hzo]; try rfl, trivial, ?_⟩
        clear o_7
        refine planW_ex (d := (some 86)) o_8 rfl rfl ⟨_, by simp [List.lookup, t7, t8, gq1, h4, h4', hl4, gy1, hst, hz1, hzl, hzm, -List.all_eq_true, hzo]; try rfl, trivial, ?_⟩
        clear o_8
        refine planW_ex (d := (some 15)) o_10 rfl rfl ⟨_, by simp [List.lookup, t7, t8, gq1, h4, h4', hl4, gy1, hst, hz1, hzl, hzm, -List.all_eq_true, hzo]; try rfl, trivial, ?_⟩
        clear o_10
        refine planW_ex (d := none) o_11 rfl rfl ⟨_, by simp [List.lookup, t7, t8, gq1, h4, h4', hl4, gy1, hst, hz1, hzl, hzm, -List.all_eq_true, hzo]; try rfl, trivial, ?_⟩
        clear o_11
        refine planW_ex (d := (some 87)) o_9 rfl rfl ⟨_, by simp [List.lookup, t7, t8, gq1, h4, h4', hl4, gy1, hst, hz1, hzl, hzm, -List.all_eq_true, hzo]; try rfl, trivial, ?_⟩
        clear o_9
        refine planW_ex (d := (some 16)) o_12 rfl rfl ⟨_, by simp [List.lookup, t7, t8, gq1, h4, h4', hl4, gy1, hst, hz1, hzl, hzm, -List.all_eq_true, hzo]; try rfl, trivial, ?_⟩
        clear o_12
        refine planW_end o_sz ?_
        apply hK; clear hK K o_sz; simp only [onNormal, onExit, tput]
        refine AWP.less (H' := G1) (two_more (fun x hx => hfr2 x [] hx) (by omega)) ?_
        clear hcall hst
        have hcall := onF_ok (stS_ok (f := 20) (xs := [.ptr S1.s 0]) (pre := fun H => SrvIs H S1 L1) (r := fun _ => vi 0) (post := fun _ H => syncH S1 H) (by kernel_rfl) fun nm H h => ssync_sim nm H h) (@noCall_ok Tryz.prog)
        have hsy : ∀ nm', stS [.ptr S1.s 0] (fun H => SrvIs H S1 L1) (fun _ => vi 0) (fun _ H => syncH S1 H) [.ptr S1.s 0] nm' G1 = some (vi 0, syncH S1 G1) := fun nm' => stS_at hsrv1
        (repeat refine AWP.seq ?_)
        refine AWP.region_last hcall rfl fun K hK => ?_
        simp [t7, gq1, h4, h4', hl4, hsy]
        apply hK; clear hK K; simp only [onNormal, onExit]
        obtain ⟨G2, hG2⟩ : ∃ G2, G2 = syncH S1 G1 := ⟨_, rfl⟩
        have hsrv2 : SrvIs G2 (syncS S1) L1 := by rw [hG2]; exact sync_srv hsrv1
        rw [<- hG2]
        have o2 : ∀ {q row}, Far S1 q -> G1 q = some row -> G2 q = some row := fun hf hq => by rw [hG2]; unfold syncH; rw [upd_ne _ _ hf.2.1, upd_ne _ _ hf.2.2.1]; exact hq
        have fq1 := f1 hI.fq hrow
        have fA1 := f1 hI.fA hA
        have gq2 := o2 fq1 gq1
        have gA2 := o2 fA1 gA1
        have gE2 : G2 [10] = some (sr.set k (vb true)) := o2 hfE (by rw [hG1, upd_same])
        have gl1 := hsrv1.hl
        have gd1 := hsrv1.hd
        have gy2 : G2 [c' + 8 + 6 + 11] = some [vi 0, vi (k : Int)] := by
          rw [hG2]; unfold syncH
          rw [upd_ne _ _ (fun e => by rw [<- e, gy1] at gl1; cases gl1), upd_ne _ _ (fun e => by rw [<- e, gy1] at gd1; cases gd1)]
          exact gy1
        clear hcall hsy
        have hcall := onF_ok (stS_ok (f := 19) (xs := [.ptr S1.s 0, .agg [vi 0, vi (k : Int)]]) (pre := fun H => SrvIs H (syncS S1) L1) (r := fun _ => .tup [.agg X, vb true]) (post := fun _ H => H) (by kernel_rfl) fun nm H h => by
          have := state_is nm h (by omega) huniq hlast (by show L.length < S1.cnt; rw [hS1n.2.2.2]; omega)
          rw [hX]; exact this) (@noCall_ok Tryz.prog)
        have hst : ∀ nm', stS [.ptr S1.s 0, .agg [vi 0, vi (k : Int)]] (fun H => SrvIs H (syncS S1) L1) (fun _ => .tup [.agg X, vb true]) (fun _ H => H) [.ptr S1.s 0, .agg [vi 0, vi (k : Int)]] nm' G2 = some (.tup [.agg X, vb true], G2) := fun nm' => stS_at hsrv2
        refine AWP.known_fresh fun hfr3 => ?_
        (repeat refine AWP.seq ?_)
        refine AWP.draw_ops rfl hcall [0, 1, 3, 7, 15, 0, 63, 127, 255, 255, 0, 1535, 4095] [⟨0, false, []⟩, ⟨1, false, []⟩, ⟨2, false, []⟩, ⟨3, false, []⟩, ⟨4, false, [0]⟩, ⟨5, false, [0]⟩, ⟨6, true, []⟩, ⟨7, false, []⟩, ⟨8, false, []⟩, ⟨10, false, []⟩, ⟨11, true, []⟩, ⟨9, false, []⟩, ⟨12, false, []⟩] rfl (by kernel_rfl) fun ops' hops K hK => ?_
        have o_0 := op_at hops 0 rfl
        have o_1 := op_at hops 1 rfl
        have o_2 := op_at hops 2 rfl
        have o_3 := op_at hops 3 rfl
        have o_4 := op_at hops 4 rfl
        have o_5 := op_at hops 5 rfl
        have o_6 := op_at hops 6 rfl
        have o_7 := op_at hops 7 rfl
        have o_8 := op_at hops 8 rfl
        have o_9 := op_at hops 9 rfl
        have o_10 := op_at hops 10 rfl
        have o_11 := op_at hops 11 rfl
        have o_12 := op_at hops 12 rfl
        have o_sz : ops'.size = 13 := op_sz hops rfl
        clear hops
        refine planW_ex (d := (some 95)) o_0 rfl rfl ⟨_, by simp [List.lookup, t7, t8, gq2, h4, h4', hl4, gy2, hst, hz1, hzl, hXm, hXl, -List.all_eq_true, hXo]; try rfl, trivial, ?_⟩
        clear o_0
        refine planW_ex (d := (some 96)) o_1 rfl rfl ⟨_, by simp [List.lookup, t7, t8, gq2, h4, h4', hl4, gy2, hst, hz1, hzl, hXm, hXl, -List.all_eq_true, hXo]; try rfl, trivial, ?_⟩
        clear o_1
        refine planW_ex (d := (some 97)) o_2 rfl rfl ⟨_, by simp [List.lookup, t7, t8, gq2, h4, h4', hl4, gy2, hst, hz1, hzl, hXm, hXl, -List.all_eq_true, hXo]; try rfl, trivial, ?_⟩
        clear o_2
        refine planW_ex (d := (some 98)) o_3 rfl rfl ⟨_, by simp [List.lookup, t7, t8, gq2, h4, h4', hl4, gy2, hst, hz1, hzl, hXm, hXl, -List.all_eq_true, hXo]; try rfl, trivial, ?_⟩
        clear o_3
        refine planW_ex (d := (some 99)) o_4 rfl rfl ⟨_, by simp [List.lookup, t7, t8, gq2, h4, h4', hl4, gy2, hst, hz1, hzl, hXm, hXl, -List.all_eq_true, hXo]; try rfl, by simp [chkW, List.lookup, List.lookup, t7, t8, gq2, h4, h4', hl4, gy2, hst, hz1, hzl, hXm, hXl, -List.all_eq_true, hXo], ?_⟩
        clear o_4
        refine planW_ex (d := (some 100)) o_5 rfl rfl ⟨_, by simp [List.lookup, t7, t8, gq2, h4, h4', hl4, gy2, hst, hz1, hzl, hXm, hXl, -List.all_eq_true, hXo]; try rfl, by simp [chkW, List.lookup, List.lookup, t7, t8, gq2, h4, h4', hl4, gy2, hst, hz1, hzl, hXm, hXl, -List.all_eq_true, hXo], ?_⟩
        clear o_5
        refine planW_ex (d := (some 101)) o_6 rfl rfl ⟨_, by simp [List.lookup, t7, t8, gq2, h4, h4', hl4, gy2, hst, hz1, hzl, hXm, hXl, -List.all_eq_true, hXo]; try rfl, trivial, ?_⟩
        clear o_6
        refine planW_ex (d := (some 94)) o_7 rfl rfl ⟨_, by simp [List.lookup, t7, t8, gq2, h4, h4', hl4, gy2, hst, hz1, hzl, hXm, hXl, -List.all_eq_true, hXo]; try rfl, trivial, ?_⟩
        clear o_7
        refine planW_ex (d := (some 102)) o_8 rfl rfl ⟨_, by simp [List.lookup, t7, t8, gq2, h4, h4', hl4, gy2, hst, hz1, hzl, hXm, hXl, -List.all_eq_true, hXo]; try rfl, trivial, ?_⟩
        clear o_8
        refine planW_ex (d := (some 17)) o_10 rfl rfl ⟨_, by simp [List.lookup, t7, t8, gq2, h4, h4', hl4, gy2, hst, hz1, hzl, hXm, hXl, -List.all_eq_true, hXo]; try rfl, trivial, ?_⟩
        clear o_10
        refine planW_ex (d := none) o_11 rfl rfl ⟨_, by simp [List.lookup, t7, t8, gq2, h4, h4', hl4, gy2, hst, hz1, hzl, hXm, hXl, -List.all_eq_true, hXo]; try rfl, trivial, ?_⟩
        clear o_11
        refine planW_ex (d := (some 103)) o_9 rfl rfl ⟨_, by simp [List.lookup, t7, t8, gq2, h4, h4', hl4, gy2, hst, hz1, hzl, hXm, hXl, -List.all_eq_true, hXo]; try rfl, trivial, ?_⟩
        clear o_9
        refine planW_ex (d := (some 18)) o_12 rfl rfl ⟨_, by simp [List.lookup, t7, t8, gq2, h4, h4', hl4, gy2, hst, hz1, hzl, hXm, hXl, -List.all_eq_true, hXo]; try rfl, trivial, ?_⟩
        clear o_12
        refine planW_end o_sz ?_
        apply hK; clear hK K o_sz; simp only [onNormal, onExit, tput]
        have hX3 : X[3]? = some (.im true 1 [vi 0, vi (b : Int)]) := by rw [hX]; rfl
        have hX3' : ∀ h : 3 < X.length, X[3] = .im true 1 [vi 0, vi (b : Int)] := fun h => (List.getElem?_eq_some_iff.1 hX3).2
        have hX4 : X[4]? = some (vi 0) := by rw [hX]; rfl
        have hX4' : ∀ h : 4 < X.length, X[4] = vi 0 := fun h => (List.getElem?_eq_some_iff.1 hX4).2
        clear hcall hst
        have hcall := @noCall_ok Tryz.prog
        refine AWP.more (fun x hx => hfr3 x [] hx) (by omega) fun G3 h3 hGy3 => ?_
        have gA3 := h3 _ _ gA2
        have e10 : (1 : Int) = 1 := rfl
        (repeat refine AWP.seq ?_)
        refine AWP.draw_ops rfl hcall [0, 1, 3, 7, 15, 31, 63, 127, 255, 511, 1023, 2047, 4095, 8191, 16383, 32767, 65535, 131071, 262143, 524287, 1048575, 131071, 4194303, 8388607] [⟨0, false, []⟩, ⟨1, false, []⟩, ⟨2, false, []⟩, ⟨3, false, []⟩, ⟨4, false, []⟩, ⟨5, false, []⟩, ⟨6, false, []⟩, ⟨7, false, [0]⟩, ⟨8, false, []⟩, ⟨9, false, []⟩, ⟨10, false, []⟩, ⟨11, false, []⟩, ⟨12, false, [0]⟩, ⟨13, false, []⟩, ⟨14, false, []⟩, ⟨15, false, []⟩, ⟨16, false, []⟩, ⟨17, false, []⟩, ⟨18, false, [0]⟩, ⟨19, false, []⟩, ⟨20, false, [0]⟩, ⟨21, false, [0]⟩, ⟨22, false, []⟩, ⟨23, false, []⟩] rfl (by kernel_rfl) fun ops' hops K hK => ?_
        have o_0 := op_at hops 0 rfl
        have o_1 := op_at hops 1 rfl
        have o_2 := op_at hops 2 rfl
        have o_3 := op_at hops 3 rfl
        have o_4 := op_at hops 4 rfl
        have o_5 := op_at hops 5 rfl
        have o_6 := op_at hops 6 rfl
        have o_7 := op_at hops 7 rfl
        have o_8 := op_at hops 8 rfl
        have o_9 := op_at hops 9 rfl
        have o_10 := op_at hops 10 rfl
        have o_11 := op_at hops 11 rfl
        have o_12 := op_at hops 12 rfl
        have o_13 := op_at hops 13 rfl
        have o_14 := op_at hops 14 rfl
        have o_15 := op_at hops 15 rfl
        have o_16 := op_at hops 16 rfl
        have o_17 := op_at hops 17 rfl
        have o_18 := op_at hops 18 rfl
        have o_19 := op_at hops 19 rfl
        have o_20 := op_at hops 20 rfl
        have o_21 := op_at hops 21 rfl
        have o_22 := op_at hops 22 rfl
        have o_23 := op_at hops 23 rfl
        have o_sz : ops'.size = 24 := op_sz hops rfl
        clear hops
        first | (refine planW_ex (d := (some 104)) o_0 rfl rfl ?_) | (refine planW_go (d := (some 104)) o_0 rfl ?_ ?_; · (simp [o_0, o_1, o_2, o_3, o_4, o_5, o_6, o_7, o_8, o_9, o_10, o_11, o_12, o_13, o_14, o_15, o_16, o_17, o_18, o_19, o_20, o_21, o_22, o_23, List.lookup, t8, hGy3, hXl, hX3, hX3', hX4, hX4', gA3, -aeq, aeq_ii, aeq_addr]; done)) | (refine planW_skip (d := (some 104)) o_0 rfl ?_ ?_; · (simp [o_0, o_1, o_2, o_3, o_4, o_5, o_6, o_7, o_8, o_9, o_10, o_11, o_12, o_13, o_14, o_15, o_16, o_17, o_18, o_19, o_20, o_21, o_22, o_23, List.lookup, t8, hGy3, hXl, hX3, hX3', hX4, hX4', gA3, -aeq, aeq_ii, aeq_addr]; done))
        try refine ⟨_, by simp [List.lookup, t8, hGy3, hXl, hX3, hX3', hX4, hX4', gA3, -aeq, aeq_ii, aeq_addr]; try rfl, trivial, ?_⟩
        first | (refine planW_ex (d := (some 105)) o_1 rfl rfl ?_) | (refine planW_go (d := (some 105)) o_1 rfl ?_ ?_; · (simp [o_0, o_1, o_2, o_3, o_4, o_5, o_6, o_7, o_8, o_9, o_10, o_11, o_12, o_13, o_14, o_15, o_16, o_17, o_18, o_19, o_20, o_21, o_22, o_23, List.lookup, t8, hGy3, hXl, hX3, hX3', hX4, hX4', gA3, -aeq, aeq_ii, aeq_addr]; done)) | (refine planW_skip (d := (some 105)) o_1 rfl ?_ ?_; · (simp [o_0, o_1, o_2, o_3, o_4, o_5, o_6, o_7, o_8, o_9, o_10, o_11, o_12, o_13, o_14, o_15, o_16, o_17, o_18, o_19, o_20, o_21, o_22, o_23, List.lookup, t8, hGy3, hXl, hX3, hX3', hX4, hX4', gA3, -aeq, aeq_ii, aeq_addr]; done))
        try refine ⟨_, by simp [List.lookup, t8, hGy3, hXl, hX3, hX3', hX4, hX4', gA3, -aeq, aeq_ii, aeq_addr]; try rfl, trivial, ?_⟩
        first | (refine planW_ex (d := (some 106)) o_2 rfl rfl ?_) | (refine planW_go (d := (some 106)) o_2 rfl ?_ ?_; · (simp [o_0, o_1, o_2, o_3, o_4, o_5, o_6, o_7, o_8, o_9, o_10, o_11, o_12, o_13, o_14, o_15, o_16, o_17, o_18, o_19, o_20, o_21, o_22, o_23, List.lookup, t8, hGy3, hXl, hX3, hX3', hX4, hX4', gA3, -aeq, aeq_ii, aeq_addr]; done)) | (refine planW_skip (d := (some 106)) o_2 rfl ?_ ?_; · (simp [o_0, o_1, o_2, o_3, o_4, o_5, o_6, o_7, o_8, o_9, o_10, o_11, o_12, o_13, o_14, o_15, o_16, o_17, o_18, o_19, o_20, o_21, o_22, o_23, List.lookup, t8, hGy3, hXl, hX3, hX3', hX4, hX4', gA3, -aeq, aeq_ii, aeq_addr]; done))
        try refine ⟨_, by simp [List.lookup, t8, hGy3, hXl, hX3, hX3', hX4, hX4', gA3, -aeq, aeq_ii, aeq_addr]; try rfl, trivial, ?_⟩
        first | (refine planW_ex (d := (some 107)) o_3 rfl rfl ?_) | (refine planW_go (d := (some 107)) o_3 rfl ?_ ?_; · (simp [o_0, o_1, o_2, o_3, o_4, o_5, o_6, o_7, o_8, o_9, o_10, o_11, o_12, o_13, o_14, o_15, o_16, o_17, o_18, o_19, o_20, o_21, o_22, o_23, List.lookup, t8, hGy3, hXl, hX3, hX3', hX4, hX4', gA3, -aeq, aeq_ii, aeq_addr]; done)) | (refine planW_skip (d := (some 107)) o_3 rfl ?_ ?_; · (simp [o_0, o_1, o_2, o_3, o_4, o_5, o_6, o_7, o_8, o_9, o_10, o_11, o_12, o_13, o_14, o_15, o_16, o_17, o_18, o_19, o_20, o_21, o_22, o_23, List.lookup, t8, hGy3, hXl, hX3, hX3', hX4, hX4', gA3, -aeq, aeq_ii, aeq_addr]; done))
        try refine ⟨_, by simp [List.lookup, t8, hGy3, hXl, hX3, hX3', hX4, hX4', gA3, -aeq, aeq_ii, aeq_addr]; try rfl, trivial, ?_⟩
        first | (refine planW_ex (d := (some 108)) o_4 rfl rfl ?_) | (refine planW_go (d := (some 108)) o_4 rfl ?_ ?_; · (simp [o_0, o_1, o_2, o_3, o_4, o_5, o_6, o_7, o_8, o_9, o_10, o_11, o_12, o_13, o_14, o_15, o_16, o_17, o_18, o_19, o_20, o_21, o_22, o_23, List.lookup, t8, hGy3, hXl, hX3, hX3', hX4, hX4', gA3, -aeq, aeq_ii, aeq_addr]; done)) | (refine planW_skip (d := (some 108)) o_4 rfl ?_ ?_; · (simp [o_0, o_1, o_2, o_3, o_4, o_5, o_6, o_7, o_8, o_9, o_10, o_11, o_12, o_13, o_14, o_15, o_16, o_17, o_18, o_19, o_20, o_21, o_22, o_23, List.lookup, t8, hGy3, hXl, hX3, hX3', hX4, hX4', gA3, -aeq, aeq_ii, aeq_addr]; done))
        try refine ⟨_, by simp [List.lookup, t8, hGy3, hXl, hX3, hX3', hX4, hX4', gA3, -aeq, aeq_ii, aeq_addr]; try rfl, trivial, ?_⟩
        first | (refine planW_ex (d := (some 109)) o_5 rfl rfl ?_) | (refine planW_go (d := (some 109)) o_5 rfl ?_ ?_; · (simp [o_0, o_1, o_2, o_3, o_4, o_5, o_6, o_7, o_8, o_9, o_10, o_11, o_12, o_13, o_14, o_15, o_16, o_17, o_18, o_19, o_20, o_21, o_22, o_23, List.lookup, t8, hGy3, hXl, hX3, hX3', hX4, hX4', gA3, -aeq, aeq_ii, aeq_addr]; done)) | (refine planW_skip (d := (some 109)) o_5 rfl ?_ ?_; · (simp [o_0, o_1, o_2, o_3, o_4, o_5, o_6, o_7, o_8, o_9, o_10, o_11, o_12, o_13, o_14, o_15, o_16, o_17, o_18, o_19, o_20, o_21, o_22, o_23, List.lookup, t8, hGy3, hXl, hX3, hX3', hX4, hX4', gA3, -aeq, aeq_ii, aeq_addr]; done))
        try refine ⟨_, by simp [List.lookup, t8, hGy3, hXl, hX3, hX3', hX4, hX4', gA3, -aeq, aeq_ii, aeq_addr]; try rfl, trivial, ?_⟩
        first | (refine planW_ex (d := (some 110)) o_6 rfl rfl ?_) | (refine planW_go (d := (some 110)) o_6 rfl ?_ ?_; · (simp [o_0, o_1, o_2, o_3, o_4, o_5, o_6, o_7, o_8, o_9, o_10, o_11, o_12, o_13, o_14, o_15, o_16, o_17, o_18, o_19, o_20, o_21, o_22, o_23, List.lookup, t8, hGy3, hXl, hX3, hX3', hX4, hX4', gA3, -aeq, aeq_ii, aeq_addr]; done)) | (refine planW_skip (d := (some 110)) o_6 rfl ?_ ?_; · (simp [o_0, o_1, o_2, o_3, o_4, o_5, o_6, o_7, o_8, o_9, o_10, o_11, o_12, o_13, o_14, o_15, o_16, o_17, o_18, o_19, o_20, o_21, o_22, o_23, List.lookup, t8, hGy3, hXl, hX3, hX3', hX4, hX4', gA3, -aeq, aeq_ii, aeq_addr]; done))
        try refine ⟨_, by simp [List.lookup, t8, hGy3, hXl, hX3, hX3', hX4, hX4', gA3, -aeq, aeq_ii, aeq_addr]; try rfl, trivial, ?_⟩
        first | (refine planW_ex (d := (some 111)) o_7 rfl rfl ?_) | (refine planW_go (d := (some 111)) o_7 rfl ?_ ?_; · (simp [o_0, o_1, o_2, o_3, o_4, o_5, o_6, o_7, o_8, o_9, o_10, o_11, o_12, o_13, o_14, o_15, o_16, o_17, o_18, o_19, o_20, o_21, o_22, o_23, List.lookup, t8, hGy3, hXl, hX3, hX3', hX4, hX4', gA3, -aeq, aeq_ii, aeq_addr]; done)) | (refine planW_skip (d := (some 111)) o_7 rfl ?_ ?_; · (simp [o_0, o_1, o_2, o_3, o_4, o_5, o_6, o_7, o_8, o_9, o_10, o_11, o_12, o_13, o_14, o_15, o_16, o_17, o_18, o_19, o_20, o_21, o_22, o_23, List.lookup, t8, hGy3, hXl, hX3, hX3', hX4, hX4', gA3, -aeq, aeq_ii, aeq_addr]; done))
        try refine ⟨_, by simp [List.lookup, t8, hGy3, hXl, hX3, hX3', hX4, hX4', gA3, -aeq, aeq_ii, aeq_addr]; try rfl, by simp [chkW, List.lookup, List.lookup, t8, hGy3, hXl, hX3, hX3', hX4, hX4', gA3, -aeq, aeq_ii, aeq_addr], ?_⟩
        first | (refine planW_ex (d := (some 112)) o_8 rfl rfl ?_) | (refine planW_go (d := (some 112)) o_8 rfl ?_ ?_; · (simp [o_0, o_1, o_2, o_3, o_4, o_5, o_6, o_7, o_8, o_9, o_10, o_11, o_12, o_13, o_14, o_15, o_16, o_17, o_18, o_19, o_20, o_21, o_22, o_23, List.lookup, t8, hGy3, hXl, hX3, hX3', hX4, hX4', gA3, -aeq, aeq_ii, aeq_addr]; done)) | (refine planW_skip (d := (some 112)) o_8 rfl ?_ ?_; · (simp [o_0, o_1, o_2, o_3, o_4, o_5, o_6, o_7, o_8, o_9, o_10, o_11, o_12, o_13, o_14, o_15, o_16, o_17, o_18, o_19, o_20, o_21, o_22, o_23, List.lookup, t8, hGy3, hXl, hX3, hX3', hX4, hX4', gA3, -aeq, aeq_ii, aeq_addr]; done))
        try refine ⟨_, by simp [List.lookup, t8, hGy3, hXl, hX3, hX3', hX4, hX4', gA3, -aeq, aeq_ii, aeq_addr]; try rfl, trivial, ?_⟩
        first | (refine planW_ex (d := (some 113)) o_9 rfl rfl ?_) | (refine planW_go (d := (some 113)) o_9 rfl ?_ ?_; · (simp [o_0, o_1, o_2, o_3, o_4, o_5, o_6, o_7, o_8, o_9, o_10, o_11, o_12, o_13, o_14, o_15, o_16, o_17, o_18, o_19, o_20, o_21, o_22, o_23, List.lookup, t8, hGy3, hXl, hX3, hX3', hX4, hX4', gA3, -aeq, aeq_ii, aeq_addr]; done)) | (refine planW_skip (d := (some 113)) o_9 rfl ?_ ?_; · (simp [o_0, o_1, o_2, o_3, o_4, o_5, o_6, o_7, o_8, o_9, o_10, o_11, o_12, o_13, o_14, o_15, o_16, o_17, o_18, o_19, o_20, o_21, o_22, o_23, List.lookup, t8, hGy3, hXl, hX3, hX3', hX4, hX4', gA3, -aeq, aeq_ii, aeq_addr]; done))
        try refine ⟨_, by simp [List.lookup, t8, hGy3, hXl, hX3, hX3', hX4, hX4', gA3, -aeq, aeq_ii, aeq_addr]; try rfl, trivial, ?_⟩
        first | (refine planW_ex (d := (some 114)) o_10 rfl rfl ?_) | (refine planW_go (d := (some 114)) o_10 rfl ?_ ?_; · (simp [o_0, o_1, o_2, o_3, o_4, o_5, o_6, o_7, o_8, o_9, o_10, o_11, o_12, o_13, o_14, o_15, o_16, o_17, o_18, o_19, o_20, o_21, o_22, o_23, List.lookup, t8, hGy3, hXl, hX3, hX3', hX4, hX4', gA3, -aeq, aeq_ii, aeq_addr]; done)) | (refine planW_skip (d := (some 114)) o_10 rfl ?_ ?_; · (simp [o_0, o_1, o_2, o_3, o_4, o_5, o_6, o_7, o_8, o_9, o_10, o_11, o_12, o_13, o_14, o_15, o_16, o_17, o_18, o_19, o_20, o_21, o_22, o_23, List.lookup, t8, hGy3, hXl, hX3, hX3', hX4, hX4', gA3, -aeq, aeq_ii, aeq_addr]; done))
        try refine ⟨_, by simp [List.lookup, t8, hGy3, hXl, hX3, hX3', hX4, hX4', gA3, -aeq, aeq_ii, aeq_addr]; try rfl, trivial, ?_⟩
        first | (refine planW_ex (d := (some 115)) o_11 rfl rfl ?_) | (refine planW_go (d := (some 115)) o_11 rfl ?_ ?_; · (simp [o_0, o_1, o_2, o_3, o_4, o_5, o_6, o_7, o_8, o_9, o_10, o_11, o_12, o_13, o_14, o_15, o_16, o_17, o_18, o_19, o_20, o_21, o_22, o_23, List.lookup, t8, hGy3, hXl, hX3, hX3', hX4, hX4', gA3, -aeq, aeq_ii, aeq_addr]; done)) | (refine planW_skip (d := (some 115)) o_11 rfl ?_ ?_; · (simp [o_0, o_1, o_2, o_3, o_4, o_5, o_6, o_7, o_8, o_9, o_10, o_11, o_12, o_13, o_14, o_15, o_16, o_17, o_18, o_19, o_20, o_21, o_22, o_23, List.lookup, t8, hGy3, hXl, hX3, hX3', hX4, hX4', gA3, -aeq, aeq_ii, aeq_addr]; done))
        try refine ⟨_, by simp [List.lookup, t8, hGy3, hXl, hX3, hX3', hX4, hX4', gA3, -aeq, aeq_ii, aeq_addr]; try rfl, trivial, ?_⟩
        first | (refine planW_ex (d := (some 116)) o_12 rfl rfl ?_) | (refine planW_go (d := (some 116)) o_12 rfl ?_ ?_; · (simp [o_0, o_1, o_2, o_3, o_4, o_5, o_6, o_7, o_8, o_9, o_10, o_11, o_12, o_13, o_14, o_15, o_16, o_17, o_18, o_19, o_20, o_21, o_22, o_23, List.lookup, t8, hGy3, hXl, hX3, hX3', hX4, hX4', gA3, -aeq, aeq_ii, aeq_addr]; done)) | (refine planW_skip (d := (some 116)) o_12 rfl ?_ ?_; · (simp [o_0, o_1, o_2, o_3, o_4, o_5, o_6, o_7, o_8, o_9, o_10, o_11, o_12, o_13, o_14, o_15, o_16, o_17, o_18, o_19, o_20, o_21, o_22, o_23, List.lookup, t8, hGy3, hXl, hX3, hX3', hX4, hX4', gA3, -aeq, aeq_ii, aeq_addr]; done))
        try refine ⟨_, by simp [List.lookup, t8, hGy3, hXl, hX3, hX3', hX4, hX4', gA3, -aeq, aeq_ii, aeq_addr]; try rfl, by simp [chkW, List.lookup, List.lookup, t8, hGy3, hXl, hX3, hX3', hX4, hX4', gA3, -aeq, aeq_ii, aeq_addr], ?_⟩
        first | (refine planW_ex (d := (some 117)) o_13 rfl rfl ?_) | (refine planW_go (d := (some 117)) o_13 rfl ?_ ?_; · (simp [o_0, o_1, o_2, o_3, o_4, o_5, o_6, o_7, o_8, o_9, o_10, o_11, o_12, o_13, o_14, o_15, o_16, o_17, o_18, o_19, o_20, o_21, o_22, o_23, List.lookup, t8, hGy3, hXl, hX3, hX3', hX4, hX4', gA3, -aeq, aeq_ii, aeq_addr]; done)) | (refine planW_skip (d := (some 117)) o_13 rfl ?_ ?_; · (simp [o_0, o_1, o_2, o_3, o_4, o_5, o_6, o_7, o_8, o_9, o_10, o_11, o_12, o_13, o_14, o_15, o_16, o_17, o_18, o_19, o_20, o_21, o_22, o_23, List.lookup, t8, hGy3, hXl, hX3, hX3', hX4, hX4', gA3, -aeq, aeq_ii, aeq_addr]; done))
        try refine ⟨_, by simp [List.lookup, t8, hGy3, hXl, hX3, hX3', hX4, hX4', gA3, -aeq, aeq_ii, aeq_addr]; try rfl, trivial, ?_⟩
        first | (refine planW_ex (d := (some 118)) o_14 rfl rfl ?_) | (refine planW_go (d := (some 118)) o_14 rfl ?_ ?_; · (simp [o_0, o_1, o_2, o_3, o_4, o_5, o_6, o_7, o_8, o_9, o_10, o_11, o_12, o_13, o_14, o_15, o_16, o_17, o_18, o_19, o_20, o_21, o_22, o_23, List.lookup, t8, hGy3, hXl, hX3, hX3', hX4, hX4', gA3, -aeq, aeq_ii, aeq_addr]; done)) | (refine planW_skip (d := (some 118)) o_14 rfl ?_ ?_; · (simp [o_0, o_1, o_2, o_3, o_4, o_5, o_6, o_7, o_8, o_9, o_10, o_11, o_12, o_13, o_14, o_15, o_16, o_17, o_18, o_19, o_20, o_21, o_22, o_23, List.lookup, t8, hGy3, hXl, hX3, hX3', hX4, hX4', gA3, -aeq, aeq_ii, aeq_addr]; done))
        try refine ⟨_, by simp [List.lookup, t8, hGy3, hXl, hX3, hX3', hX4, hX4', gA3, -aeq, aeq_ii, aeq_addr]; try rfl, trivial, ?_⟩
        first | (refine planW_ex (d := (some 119)) o_15 rfl rfl ?_) | (refine planW_go (d := (some 119)) o_15 rfl ?_ ?_; · (simp [o_0, o_1, o_2, o_3, o_4, o_5, o_6, o_7, o_8, o_9, o_10, o_11, o_12, o_13, o_14, o_15, o_16, o_17, o_18, o_19, o_20, o_21, o_22, o_23, List.lookup, t8, hGy3, hXl, hX3, hX3', hX4, hX4', gA3, -aeq, aeq_ii, aeq_addr]; done)) | (refine planW_skip (d := (some 119)) o_15 rfl ?_ ?_; · (simp [o_0, o_1, o_2, o_3, o_4, o_5, o_6, o_7, o_8, o_9, o_10, o_11, o_12, o_13, o_14, o_15, o_16, o_17, o_18, o_19, o_20, o_21, o_22, o_23, List.lookup, t8, hGy3, hXl, hX3, hX3', hX4, hX4', gA3, -aeq, aeq_ii, aeq_addr]; done))
        try refine ⟨_, by simp [List.lookup, t8, hGy3, hXl, hX3, hX3', hX4, hX4', gA3, -aeq, aeq_ii, aeq_addr]; try rfl, trivial, ?_⟩
        first | (refine planW_ex (d := (some 120)) o_16 rfl rfl ?_) | (refine planW_go (d := (some 120)) o_16 rfl ?_ ?_; · (simp [o_0, o_1, o_2, o_3, o_4, o_5, o_6, o_7, o_8, o_9, o_10, o_11, o_12, o_13, o_14, o_15, o_16, o_17, o_18, o_19, o_20, o_21, o_22, o_23, List.lookup, t8, hGy3, hXl, hX3, hX3', hX4, hX4', gA3, -aeq, aeq_ii, aeq_addr]; done)) | (refine planW_skip (d := (some 120)) o_16 rfl ?_ ?_; · (simp [o_0, o_1, o_2, o_3, o_4, o_5, o_6, o_7, o_8, o_9, o_10, o_11, o_12, o_13, o_14, o_15, o_16, o_17, o_18, o_19, o_20, o_21, o_22, o_23, List.lookup, t8, hGy3, hXl, hX3, hX3', hX4, hX4', gA3, -aeq, aeq_ii, aeq_addr]; done))
        try refine ⟨_, by simp [List.lookup, t8, hGy3, hXl, hX3, hX3', hX4, hX4', gA3, -aeq, aeq_ii, aeq_addr]; try rfl, trivial, ?_⟩
        first | (refine planW_ex (d := (some 121)) o_17 rfl rfl ?_) | (refine planW_go (d := (some 121)) o_17 rfl ?_ ?_; · (simp [o_0, o_1, o_2, o_3, o_4, o_5, o_6, o_7, o_8, o_9, o_10, o_11, o_12, o_13, o_14, o_15, o_16, o_17, o_18, o_19, o_20, o_21, o_22, o_23, List.lookup, t8, hGy3, hXl, hX3, hX3', hX4, hX4', gA3, -aeq, aeq_ii, aeq_addr]; done)) | (refine planW_skip (d := (some 121)) o_17 rfl ?_ ?_; · (simp [o_0, o_1, o_2, o_3, o_4, o_5, o_6, o_7, o_8, o_9, o_10, o_11, o_12, o_13, o_14, o_15, o_16, o_17, o_18, o_19, o_20, o_21, o_22, o_23, List.lookup, t8, hGy3, hXl, hX3, hX3', hX4, hX4', gA3, -aeq, aeq_ii, aeq_addr]; done))
        try refine ⟨_, by simp [List.lookup, t8, hGy3, hXl, hX3, hX3', hX4, hX4', gA3, -aeq, aeq_ii, aeq_addr]; try rfl, trivial, ?_⟩
        first | (refine planW_ex (d := (some 122)) o_18 rfl rfl ?_) | (refine planW_go (d := (some 122)) o_18 rfl ?_ ?_; · (simp [o_0, o_1, o_2, o_3, o_4, o_5, o_6, o_7, o_8, o_9, o_10, o_11, o_12, o_13, o_14, o_15, o_16, o_17, o_18, o_19, o_20, o_21, o_22, o_23, List.lookup, t8, hGy3, hXl, hX3, hX3', hX4, hX4', gA3, -aeq, aeq_ii, aeq_addr]; done)) | (refine planW_skip (d := (some 122)) o_18 rfl ?_ ?_; · (simp [o_0, o_1, o_2, o_3, o_4, o_5, o_6, o_7, o_8, o_9, o_10, o_11, o_12, o_13, o_14, o_15, o_16, o_17, o_18, o_19, o_20, o_21, o_22, o_23, List.lookup, t8, hGy3, hXl, hX3, hX3', hX4, hX4', gA3, -aeq, aeq_ii, aeq_addr]; done))
        try refine ⟨_, by simp [List.lookup, t8, hGy3, hXl, hX3, hX3', hX4, hX4', gA3, -aeq, aeq_ii, aeq_addr]; try rfl, by simp [chkW, List.lookup, List.lookup, t8, hGy3, hXl, hX3, hX3', hX4, hX4', gA3, -aeq, aeq_ii, aeq_addr], ?_⟩
        first | (refine planW_ex (d := (some 123)) o_19 rfl rfl ?_) | (refine planW_go (d := (some 123)) o_19 rfl ?_ ?_; · (simp [o_0, o_1, o_2, o_3, o_4, o_5, o_6, o_7, o_8, o_9, o_10, o_11, o_12, o_13, o_14, o_15, o_16, o_17, o_18, o_19, o_20, o_21, o_22, o_23, List.lookup, t8, hGy3, hXl, hX3, hX3', hX4, hX4', gA3, -aeq, aeq_ii, aeq_addr]; done)) | (refine planW_skip (d := (some 123)) o_19 rfl ?_ ?_; · (simp [o_0, o_1, o_2, o_3, o_4, o_5, o_6, o_7, o_8, o_9, o_10, o_11, o_12, o_13, o_14, o_15, o_16, o_17, o_18, o_19, o_20, o_21, o_22, o_23, List.lookup, t8, hGy3, hXl, hX3, hX3', hX4, hX4', gA3, -aeq, aeq_ii, aeq_addr]; done))
        try refine ⟨_, by simp [List.lookup, t8, hGy3, hXl, hX3, hX3', hX4, hX4', gA3, -aeq, aeq_ii, aeq_addr]; try rfl, trivial, ?_⟩
        first | (refine planW_ex (d := (some 124)) o_20 rfl rfl ?_) | (refine planW_go (d := (some 124)) o_20 rfl ?_ ?_; · (simp [o_0, o_1, o_2, o_3, o_4, o_5, o_6, o_7, o_8, o_9, o_10, o_11, o_12, o_13, o_14, o_15, o_16, o_17, o_18, o_19, o_20, o_21, o_22, o_23, List.lookup, t8, hGy3, hXl, hX3, hX3', hX4, hX4', gA3, -aeq, aeq_ii, aeq_addr]; done)) | (refine planW_skip (d := (some 124)) o_20 rfl ?_ ?_; · (simp [o_0, o_1, o_2, o_3, o_4, o_5, o_6, o_7, o_8, o_9, o_10, o_11, o_12, o_13, o_14, o_15, o_16, o_17, o_18, o_19, o_20, o_21, o_22, o_23, List.lookup, t8, hGy3, hXl, hX3, hX3', hX4, hX4', gA3, -aeq, aeq_ii, aeq_addr]; done))
        try refine ⟨_, by simp [List.lookup, t8, hGy3, hXl, hX3, hX3', hX4, hX4', gA3, -aeq, aeq_ii, aeq_addr]; try rfl, by simp [chkW, List.lookup, List.lookup, t8, hGy3, hXl, hX3, hX3', hX4, hX4', gA3, -aeq, aeq_ii, aeq_addr], ?_⟩
        first | (refine planW_ex (d := (some 125)) o_21 rfl rfl ?_) | (refine planW_go (d := (some 125)) o_21 rfl ?_ ?_; · (simp [o_0, o_1, o_2, o_3, o_4, o_5, o_6, o_7, o_8, o_9, o_10, o_11, o_12, o_13, o_14, o_15, o_16, o_17, o_18, o_19, o_20, o_21, o_22, o_23, List.lookup, t8, hGy3, hXl, hX3, hX3', hX4, hX4', gA3, -aeq, aeq_ii, aeq_addr]; done)) | (refine planW_skip (d := (some 125)) o_21 rfl ?_ ?_; · (simp [o_0, o_1, o_2, o_3, o_4, o_5, o_6, o_7, o_8, o_9, o_10, o_11, o_12, o_13, o_14, o_15, o_16, o_17, o_18, o_19, o_20, o_21, o_22, o_23, List.lookup, t8, hGy3, hXl, hX3, hX3', hX4, hX4', gA3, -aeq, aeq_ii, aeq_addr]; done))
        try refine ⟨_, by simp [List.lookup, t8, hGy3, hXl, hX3, hX3', hX4, hX4', gA3, -aeq, aeq_ii, aeq_addr]; try rfl, by simp [chkW, List.lookup, List.lookup, t8, hGy3, hXl, hX3, hX3', hX4, hX4', gA3, -aeq, aeq_ii, aeq_addr], ?_⟩
        first | (refine planW_ex (d := (some 126)) o_22 rfl rfl ?_) | (refine planW_go (d := (some 126)) o_22 rfl ?_ ?_; · (simp [o_0, o_1, o_2, o_3, o_4, o_5, o_6, o_7, o_8, o_9, o_10, o_11, o_12, o_13, o_14, o_15, o_16, o_17, o_18, o_19, o_20, o_21, o_22, o_23, List.lookup, t8, hGy3, hXl, hX3, hX3', hX4, hX4', gA3, -aeq, aeq_ii, aeq_addr]; done)) | (refine planW_skip (d := (some 126)) o_22 rfl ?_ ?_; · (simp [o_0, o_1, o_2, o_3, o_4, o_5, o_6, o_7, o_8, o_9, o_10, o_11, o_12, o_13, o_14, o_15, o_16, o_17, o_18, o_19, o_20, o_21, o_22, o_23, List.lookup, t8, hGy3, hXl, hX3, hX3', hX4, hX4', gA3, -aeq, aeq_ii, aeq_addr]; done))
        try refine ⟨_, by simp [List.lookup, t8, hGy3, hXl, hX3, hX3', hX4, hX4', gA3, -aeq, aeq_ii, aeq_addr]; try rfl, trivial, ?_⟩
        first | (refine planW_ex (d := (some 127)) o_23 rfl rfl ?_) | (refine planW_go (d := (some 127)) o_23 rfl ?_ ?_; · (simp [o_0, o_1, o_2, o_3, o_4, o_5, o_6, o_7, o_8, o_9, o_10, o_11, o_12, o_13, o_14, o_15, o_16, o_17, o_18, o_19, o_20, o_21, o_22, o_23, List.lookup, t8, hGy3, hXl, hX3, hX3', hX4, hX4', gA3, -aeq, aeq_ii, aeq_addr]; done)) | (refine planW_skip (d := (some 127)) o_23 rfl ?_ ?_; · (simp [o_0, o_1, o_2, o_3, o_4, o_5, o_6, o_7, o_8, o_9, o_10, o_11, o_12, o_13, o_14, o_15, o_16, o_17, o_18, o_19, o_20, o_21, o_22, o_23, List.lookup, t8, hGy3, hXl, hX3, hX3', hX4, hX4', gA3, -aeq, aeq_ii, aeq_addr]; done))
        try refine ⟨_, by simp [List.lookup, t8, hGy3, hXl, hX3, hX3', hX4, hX4', gA3, -aeq, aeq_ii, aeq_addr]; try rfl, trivial, ?_⟩
        refine planW_end o_sz ?_
        apply hK; clear hK K o_0 o_1 o_2 o_3 o_4 o_5 o_6 o_7 o_8 o_9 o_10 o_11 o_12 o_13 o_14 o_15 o_16 o_17 o_18 o_19 o_20 o_21 o_22 o_23 o_sz; simp only [onNormal, onExit, tput]
        (repeat refine AWP.seq ?_); refine AWP.cond (b := false) (by simp) ?_; simp only [if_true, if_false, Bool.false_eq_true]
        refine AWP.skip ?_; simp only [onNormal, onExit]
        refine AWP.less (H' := G2) h3 ?_
        (repeat refine AWP.seq ?_)
        refine AWP.region_last hcall rfl fun K hK => ?_
        simp [t11, hwi]
        apply hK; clear hK K; simp only [onNormal, onExit]
        refine ⟨B.length - (i + 1), by omega, i + 1, L1, syncS S1, by omega, rfl, by simp [t0], by simp [t2], by simp [t7], by simp [t8], by simp [t9], by simp [hL1l], by simp, ?_⟩
        refine ⟨hsrv2, ⟨hS1n.1, by rw [hL1l]; exact hS1n.2.1, by rw [hL1l]; exact hS1n.2.2.2⟩, by omega, ⟨row, gq2, h4⟩, gA2, ⟨_, gE2, by rw [List.length_set]; exact hsl, fun j hj => ?_⟩, fq1, fA1, hfE, fun x hx' => ?_, huniq⟩
        · have hmem : (∃ x ∈ L1, x.b = j) ↔ (∃ x ∈ L, x.b = j) \/ k = j := by
            rw [hL1]; simp [nextL]
          by_cases hjk : k = j
          · subst hjk
            rw [List.getElem?_set_self (by omega), decide_eq_true (hmem.2 (.inr rfl))]
          · rw [List.getElem?_set_ne hjk, hsk j hj]
            have : (∃ x ∈ L1, x.b = j) ↔ (∃ x ∈ L, x.b = j) := hmem.trans ⟨fun h => h.resolve_right hjk, .inl⟩
            simp only [this]
        · rw [hL1] at hx'
          simp only [nextL, List.mem_append, List.mem_singleton] at hx'
          rcases hx' with h | rfl
          · exact hI.who x h
          · rfl
  · have hn9 := fun nm' H' => within_at o 9 (by decide) nm' H'
    have hn2 := fun nm' H' => within_at o 2 (by decide) nm' H'
    obtain ⟨v9, hv9⟩ : ∃ v : Nat, v = (o % 9).toNat := ⟨_, rfl⟩
    obtain ⟨v2, hv2⟩ : ∃ v : Nat, v = (o % 2).toNat := ⟨_, rfl⟩
    have l9 : v9 < 9 := by have := within_lt o (show (0 : Int) < 9 by decide); omega
    have l2 : v2 < 2 := by have := within_lt o (show (0 : Int) < 2 by decide); omega
    rw [<- hv9] at hn9
    rw [<- hv2] at hn2
    have hA := hI.ad
    have hi' : ¬ ((i : Int) < (B.length : Int) /\ (i : Int) < 20) := by omega
    have hw2 : IntKind.i64.wrap (1 + (v2 : Int)) = 1 + (v2 : Int) := by rw [IntKind.wrap_i64]; omega
    have hw9 : IntKind.i64.wrap (100 + (v9 : Int)) = 100 + (v9 : Int) := by rw [IntKind.wrap_i64]; omega
    have hcall := onF_ok within19_fn (onF_ok (stS_ok (f := 18) (xs := [.ptr S.s 0, vi 50, .agg [vi (1 + (v2 : Int)), vi 0]]) (pre := fun H => SrvIs H S L) (r := fun _ => .tup [.agg [vi 0, vi 0], vi 1]) (post := fun _ H => H) (by kernel_rfl) fun nm H h => create_other nm H h (by decide) (by omega)) (@noCall_ok Tryz.prog))
    have hc1 : ∀ nm', stS [.ptr S.s 0, vi 50, .agg [vi (1 + (v2 : Int)), vi 0]] (fun H => SrvIs H S L) (fun _ => .tup [.agg [vi 0, vi 0], vi 1]) (fun _ H => H) [.ptr S.s 0, vi 50, .agg [vi (1 + (v2 : Int)), vi 0]] nm' H = some (.tup [.agg [vi 0, vi 0], vi 1], H) := fun nm' => stS_at hI.srv
    have hlen := hI.len
    by_cases hb1 : (i : Int) < (B.length : Int)
    · have hb2 : ¬ (i : Int) < 20 := by omega
      (repeat refine AWP.seq ?_)
      refine AWP.region_ops hcall rfl fun ops' hops K hK => ?_
      have o_0 := op_at hops 0 rfl
      have o_1 := op_at hops 1 rfl
      have o_2 := op_at hops 2 rfl
      have o_3 := op_at hops 3 rfl
      have o_4 := op_at hops 4 rfl
      have o_5 := op_at hops 5 rfl
      have o_6 := op_at hops 6 rfl
      have o_7 := op_at hops 7 rfl
      have o_sz : ops'.size = 8 := op_sz hops rfl
      clear hops
      rw [o_sz]
      change Ran K _ (runList _ _ ops' _ _ [0, 1, 2, 3, 4, 5, 6, 7] _ _)
      first | (refine run_ex (d := (some 29)) o_0 rfl ?_ ?_; · (simp [o_0, o_1, o_2, o_3, o_4, o_5, o_6, o_7, t0, t11, intsArg, hb1, hb2]; done)) | (refine run_skip (d := (some 29)) o_0 rfl ?_ ?_; · (simp [o_0, o_1, o_2, o_3, o_4, o_5, o_6, o_7, t0, t11, intsArg, hb1, hb2]; done))
      try refine ⟨_, by simp [t0, t11, intsArg, hb1, hb2]; try rfl, ?_⟩
      first | (refine run_ex (d := (some 30)) o_1 rfl ?_ ?_; · (simp [o_0, o_1, o_2, o_3, o_4, o_5, o_6, o_7, t0, t11, intsArg, hb1, hb2]; done)) | (refine run_skip (d := (some 30)) o_1 rfl ?_ ?_; · (simp [o_0, o_1, o_2, o_3, o_4, o_5, o_6, o_7, t0, t11, intsArg, hb1, hb2]; done))
      try refine ⟨_, by simp [t0, t11, intsArg, hb1, hb2]; try rfl, ?_⟩
      first | (refine run_ex (d := (some 31)) o_2 rfl ?_ ?_; · (simp [o_0, o_1, o_2, o_3, o_4, o_5, o_6, o_7, t0, t11, intsArg, hb1, hb2]; done)) | (refine run_skip (d := (some 31)) o_2 rfl ?_ ?_; · (simp [o_0, o_1, o_2, o_3, o_4, o_5, o_6, o_7, t0, t11, intsArg, hb1, hb2]; done))
      try refine ⟨_, by simp [t0, t11, intsArg, hb1, hb2]; try rfl, ?_⟩
      first | (refine run_ex (d := (some 32)) o_3 rfl ?_ ?_; · (simp [o_0, o_1, o_2, o_3, o_4, o_5, o_6, o_7, t0, t11, intsArg, hb1, hb2]; done)) | (refine run_skip (d := (some 32)) o_3 rfl ?_ ?_; · (simp [o_0, o_1, o_2, o_3, o_4, o_5, o_6, o_7, t0, t11, intsArg, hb1, hb2]; done))
      try refine ⟨_, by simp [t0, t11, intsArg, hb1, hb2]; try rfl, ?_⟩
      first | (refine run_ex (d := (some 33)) o_4 rfl ?_ ?_; · (simp [o_0, o_1, o_2, o_3, o_4, o_5, o_6, o_7, t0, t11, intsArg, hb1, hb2]; done)) | (refine run_skip (d := (some 33)) o_4 rfl ?_ ?_; · (simp [o_0, o_1, o_2, o_3, o_4, o_5, o_6, o_7, t0, t11, intsArg, hb1, hb2]; done))
      try refine ⟨_, by simp [t0, t11, intsArg, hb1, hb2]; try rfl, ?_⟩
      first | (refine run_ex (d := (some 34)) o_5 rfl ?_ ?_; · (simp [o_0, o_1, o_2, o_3, o_4, o_5, o_6, o_7, t0, t11, intsArg, hb1, hb2]; done)) | (refine run_skip (d := (some 34)) o_5 rfl ?_ ?_; · (simp [o_0, o_1, o_2, o_3, o_4, o_5, o_6, o_7, t0, t11, intsArg, hb1, hb2]; done))
      try refine ⟨_, by simp [t0, t11, intsArg, hb1, hb2]; try rfl, ?_⟩
      first | (refine run_ex (d := (some 35)) o_6 rfl ?_ ?_; · (simp [o_0, o_1, o_2, o_3, o_4, o_5, o_6, o_7, t0, t11, intsArg, hb1, hb2]; done)) | (refine run_skip (d := (some 35)) o_6 rfl ?_ ?_; · (simp [o_0, o_1, o_2, o_3, o_4, o_5, o_6, o_7, t0, t11, intsArg, hb1, hb2]; done))
      try refine ⟨_, by simp [t0, t11, intsArg, hb1, hb2]; try rfl, ?_⟩
      first | (refine run_ex (d := (some 36)) o_7 rfl ?_ ?_; · (simp [o_0, o_1, o_2, o_3, o_4, o_5, o_6, o_7, t0, t11, intsArg, hb1, hb2]; done)) | (refine run_skip (d := (some 36)) o_7 rfl ?_ ?_; · (simp [o_0, o_1, o_2, o_3, o_4, o_5, o_6, o_7, t0, t11, intsArg, hb1, hb2]; done))
      try refine ⟨_, by simp [t0, t11, intsArg, hb1, hb2]; try rfl, ?_⟩
      refine run_end ?_
      apply hK; clear hK K o_0 o_1 o_2 o_3 o_4 o_5 o_6 o_7 o_sz; simp only [onNormal, onExit, tput]
      (repeat refine AWP.seq ?_); refine AWP.cond (b := false) (by simp) ?_; simp only [if_true, if_false, Bool.false_eq_true]
      refine AWP.exit ?_; simp only [onNormal, onExit, if_true, reduceCtorEq, if_false]
      (repeat refine AWP.seq ?_)
      refine AWP.draw_ops rfl hcall [0, 1, 3, 7, 15, 0, 32, 96, 224, 511, 1023, 2047, 2047, 0, 12287, 32767] [⟨5, false, []⟩, ⟨6, true, []⟩, ⟨0, false, []⟩, ⟨1, false, []⟩, ⟨2, false, []⟩, ⟨3, false, []⟩, ⟨4, false, [0, 2]⟩, ⟨7, false, []⟩, ⟨8, false, []⟩, ⟨9, true, []⟩, ⟨10, false, []⟩, ⟨11, false, []⟩, ⟨13, false, []⟩, ⟨14, true, []⟩, ⟨12, false, []⟩, ⟨15, false, []⟩] rfl (by kernel_rfl) fun ops' hops K hK => ?_
      have o_0 := op_at hops 0 rfl
      have o_1 := op_at hops 1 rfl
      have o_2 := op_at hops 2 rfl
      have o_3 := op_at hops 3 rfl
      have o_4 := op_at hops 4 rfl
      have o_5 := op_at hops 5 rfl
      have o_6 := op_at hops 6 rfl
      have o_7 := op_at hops 7 rfl
      have o_8 := op_at hops 8 rfl
      have o_9 := op_at hops 9 rfl
      have o_10 := op_at hops 10 rfl
      have o_11 := op_at hops 11 rfl
      have o_12 := op_at hops 12 rfl
      have o_13 := op_at hops 13 rfl
      have o_14 := op_at hops 14 rfl
      have o_15 := op_at hops 15 rfl
      have o_sz : ops'.size = 16 := op_sz hops rfl
      clear hops
      refine planW_ex (d := (some 134)) o_5 rfl rfl ⟨_, by simp [List.lookup, t2, t7, hn2, hw2, hrow, h4, h4', hl4, hc1]; try rfl, trivial, ?_⟩
      clear o_5
      refine planW_ex (d := (some 135)) o_6 rfl rfl ⟨_, by simp [List.lookup, t2, t7, hn2, hw2, hrow, h4, h4', hl4, hc1]; try rfl, trivial, ?_⟩
      clear o_6
      refine planW_ex (d := (some 129)) o_0 rfl rfl ⟨_, by simp [List.lookup, t2, t7, hn2, hw2, hrow, h4, h4', hl4, hc1]; try rfl, trivial, ?_⟩
      clear o_0
      refine planW_ex (d := (some 130)) o_1 rfl rfl ⟨_, by simp [List.lookup, t2, t7, hn2, hw2, hrow, h4, h4', hl4, hc1]; try rfl, trivial, ?_⟩
      clear o_1
      refine planW_ex (d := (some 131)) o_2 rfl rfl ⟨_, by simp [List.lookup, t2, t7, hn2, hw2, hrow, h4, h4', hl4, hc1]; try rfl, trivial, ?_⟩
      clear o_2
      refine planW_ex (d := (some 132)) o_3 rfl rfl ⟨_, by simp [List.lookup, t2, t7, hn2, hw2, hrow, h4, h4', hl4, hc1]; try rfl, trivial, ?_⟩
      clear o_3
      refine planW_ex (d := (some 133)) o_4 rfl rfl ⟨_, by simp [List.lookup, t2, t7, hn2, hw2, hrow, h4, h4', hl4, hc1]; try rfl, by simp [chkW, List.lookup, List.lookup, t2, t7, hn2, hw2, hrow, h4, h4', hl4, hc1], ?_⟩
      clear o_4
      refine planW_ex (d := (some 136)) o_7 rfl rfl ⟨_, by simp [List.lookup, t2, t7, hn2, hw2, hrow, h4, h4', hl4, hc1]; try rfl, trivial, ?_⟩
      clear o_7
      refine planW_ex (d := (some 137)) o_8 rfl rfl ⟨_, by simp [List.lookup, t2, t7, hn2, hw2, hrow, h4, h4', hl4, hc1]; try rfl, trivial, ?_⟩
      clear o_8
      refine planW_ex (d := (some 138)) o_9 rfl rfl ⟨_, by simp [List.lookup, t2, t7, hn2, hw2, hrow, h4, h4', hl4, hc1]; try rfl, trivial, ?_⟩
      clear o_9
      refine planW_ex (d := (some 128)) o_10 rfl rfl ⟨_, by simp [List.lookup, t2, t7, hn2, hw2, hrow, h4, h4', hl4, hc1]; try rfl, trivial, ?_⟩
      clear o_10
      refine planW_ex (d := (some 139)) o_11 rfl rfl ⟨_, by simp [List.lookup, t2, t7, hn2, hw2, hrow, h4, h4', hl4, hc1]; try rfl, trivial, ?_⟩
      clear o_11
      refine planW_ex (d := (some 19)) o_13 rfl rfl ⟨_, by simp [List.lookup, t2, t7, hn2, hw2, hrow, h4, h4', hl4, hc1]; try rfl, trivial, ?_⟩
      clear o_13
      refine planW_ex (d := none) o_14 rfl rfl ⟨_, by simp [List.lookup, t2, t7, hn2, hw2, hrow, h4, h4', hl4, hc1]; try rfl, trivial, ?_⟩
      clear o_14
      refine planW_ex (d := (some 140)) o_12 rfl rfl ⟨_, by simp [List.lookup, t2, t7, hn2, hw2, hrow, h4, h4', hl4, hc1]; try rfl, trivial, ?_⟩
      clear o_12
      refine planW_ex (d := (some 20)) o_15 rfl rfl ⟨_, by simp [List.lookup, t2, t7, hn2, hw2, hrow, h4, h4', hl4, hc1]; try rfl, trivial, ?_⟩
      clear o_15
      refine planW_end o_sz ?_
      apply hK; clear hK K o_sz; simp only [onNormal, onExit, tput]
      refine AWP.more hr (by omega) fun G1 h1 _ => ?_
      refine AWP.less (H' := H) h1 ?_
      clear hcall hc1
      have hcall := onF_ok within19_fn (onF_ok (stS_ok (f := 18) (xs := [.ptr S.s 0, vi (100 + (v9 : Int)), .agg [vi 0, vi (b : Int)]]) (pre := fun H => SrvIs H S L) (r := fun _ => .tup [.agg [vi 0, vi 0], vi 1]) (post := fun _ H => H) (by kernel_rfl) fun nm H h => create_far nm H h (by omega)) (@noCall_ok Tryz.prog))
      have hc1 : ∀ nm', stS [.ptr S.s 0, vi (100 + (v9 : Int)), .agg [vi 0, vi (b : Int)]] (fun H => SrvIs H S L) (fun _ => .tup [.agg [vi 0, vi 0], vi 1]) (fun _ H => H) [.ptr S.s 0, vi (100 + (v9 : Int)), .agg [vi 0, vi (b : Int)]] nm' H = some (.tup [.agg [vi 0, vi 0], vi 1], H) := fun nm' => stS_at hI.srv
      (repeat refine AWP.seq ?_)
      refine AWP.draw_ops rfl hcall [0, 1, 3, 7, 15, 0, 32, 96, 0, 511, 1023, 2047, 2047, 0, 12287, 32767] [⟨5, false, []⟩, ⟨6, true, []⟩, ⟨0, false, []⟩, ⟨1, false, []⟩, ⟨2, false, []⟩, ⟨3, false, []⟩, ⟨4, false, [0, 2]⟩, ⟨7, false, []⟩, ⟨8, false, [0, 2]⟩, ⟨9, true, []⟩, ⟨10, false, []⟩, ⟨11, false, []⟩, ⟨13, false, []⟩, ⟨14, true, []⟩, ⟨12, false, []⟩, ⟨15, false, []⟩] rfl (by kernel_rfl) fun ops' hops K hK => ?_
      have o_0 := op_at hops 0 rfl
      have o_1 := op_at hops 1 rfl
      have o_2 := op_at hops 2 rfl
      have o_3 := op_at hops 3 rfl
      have o_4 := op_at hops 4 rfl
      have o_5 := op_at hops 5 rfl
      have o_6 := op_at hops 6 rfl
      have o_7 := op_at hops 7 rfl
      have o_8 := op_at hops 8 rfl
      have o_9 := op_at hops 9 rfl
      have o_10 := op_at hops 10 rfl
      have o_11 := op_at hops 11 rfl
      have o_12 := op_at hops 12 rfl
      have o_13 := op_at hops 13 rfl
      have o_14 := op_at hops 14 rfl
      have o_15 := op_at hops 15 rfl
      have o_sz : ops'.size = 16 := op_sz hops rfl
      clear hops
      refine planW_ex (d := (some 147)) o_5 rfl rfl ⟨_, by simp [List.lookup, t2, t7, t8, hn9, hw9, hrow, h4, h4', hl4, hA, hc1]; try rfl, trivial, ?_⟩
      clear o_5
      refine planW_ex (d := (some 148)) o_6 rfl rfl ⟨_, by simp [List.lookup, t2, t7, t8, hn9, hw9, hrow, h4, h4', hl4, hA, hc1]; try rfl, trivial, ?_⟩
      clear o_6
      refine planW_ex (d := (some 142)) o_0 rfl rfl ⟨_, by simp [List.lookup, t2, t7, t8, hn9, hw9, hrow, h4, h4', hl4, hA, hc1]; try rfl, trivial, ?_⟩
      clear o_0
      refine planW_ex (d := (some 143)) o_1 rfl rfl ⟨_, by simp [List.lookup, t2, t7, t8, hn9, hw9, hrow, h4, h4', hl4, hA, hc1]; try rfl, trivial, ?_⟩
      clear o_1
      refine planW_ex (d := (some 144)) o_2 rfl rfl ⟨_, by simp [List.lookup, t2, t7, t8, hn9, hw9, hrow, h4, h4', hl4, hA, hc1]; try rfl, trivial, ?_⟩
      clear o_2
      refine planW_ex (d := (some 145)) o_3 rfl rfl ⟨_, by simp [List.lookup, t2, t7, t8, hn9, hw9, hrow, h4, h4', hl4, hA, hc1]; try rfl, trivial, ?_⟩
      clear o_3
      refine planW_ex (d := (some 146)) o_4 rfl rfl ⟨_, by simp [List.lookup, t2, t7, t8, hn9, hw9, hrow, h4, h4', hl4, hA, hc1]; try rfl, by simp [chkW, List.lookup, List.lookup, t2, t7, t8, hn9, hw9, hrow, h4, h4', hl4, hA, hc1], ?_⟩
      clear o_4
      refine planW_ex (d := (some 149)) o_7 rfl rfl ⟨_, by simp [List.lookup, t2, t7, t8, hn9, hw9, hrow, h4, h4', hl4, hA, hc1]; try rfl, trivial, ?_⟩
      clear o_7
      refine planW_ex (d := (some 150)) o_8 rfl rfl ⟨_, by simp [List.lookup, t2, t7, t8, hn9, hw9, hrow, h4, h4', hl4, hA, hc1]; try rfl, by simp [chkW, List.lookup, List.lookup, t2, t7, t8, hn9, hw9, hrow, h4, h4', hl4, hA, hc1], ?_⟩
      clear o_8
      refine planW_ex (d := (some 151)) o_9 rfl rfl ⟨_, by simp [List.lookup, t2, t7, t8, hn9, hw9, hrow, h4, h4', hl4, hA, hc1]; try rfl, trivial, ?_⟩
      clear o_9
      refine planW_ex (d := (some 141)) o_10 rfl rfl ⟨_, by simp [List.lookup, t2, t7, t8, hn9, hw9, hrow, h4, h4', hl4, hA, hc1]; try rfl, trivial, ?_⟩
      clear o_10
      refine planW_ex (d := (some 152)) o_11 rfl rfl ⟨_, by simp [List.lookup, t2, t7, t8, hn9, hw9, hrow, h4, h4', hl4, hA, hc1]; try rfl, trivial, ?_⟩
      clear o_11
      refine planW_ex (d := (some 21)) o_13 rfl rfl ⟨_, by simp [List.lookup, t2, t7, t8, hn9, hw9, hrow, h4, h4', hl4, hA, hc1]; try rfl, trivial, ?_⟩
      clear o_13
      refine planW_ex (d := none) o_14 rfl rfl ⟨_, by simp [List.lookup, t2, t7, t8, hn9, hw9, hrow, h4, h4', hl4, hA, hc1]; try rfl, trivial, ?_⟩
      clear o_14
      refine planW_ex (d := (some 153)) o_12 rfl rfl ⟨_, by simp [List.lookup, t2, t7, t8, hn9, hw9, hrow, h4, h4', hl4, hA, hc1]; try rfl, trivial, ?_⟩
      clear o_12
      refine planW_ex (d := (some 22)) o_15 rfl rfl ⟨_, by simp [List.lookup, t2, t7, t8, hn9, hw9, hrow, h4, h4', hl4, hA, hc1]; try rfl, trivial, ?_⟩
      clear o_15
      refine planW_end o_sz ?_
      apply hK; clear hK K o_sz; simp only [onNormal, onExit, tput]
      refine AWP.more hr (by omega) fun G1 h1 _ => ?_
      refine AWP.less (H' := H) h1 ?_
      clear hcall hc1
      have hcall := onF_ok (stS_ok (f := 21) (xs := [.ptr S.s 0]) (pre := fun H => SrvIs H S L) (r := fun nm => .sl (wavesN nm) 0 L.length 2) (post := fun _ H => H) (by kernel_rfl) fun nm H h => waves_sim nm h hlen) (@noCall_ok Tryz.prog)
      have hc1 : ∀ nm', stS [.ptr S.s 0] (fun H => SrvIs H S L) (fun nm => .sl (wavesN nm) 0 L.length 2) (fun _ H => H) [.ptr S.s 0] nm' H = some (.sl (wavesN nm') 0 L.length 2, H) := fun nm' => stS_at hI.srv
      (repeat refine AWP.seq ?_)
      refine AWP.region_ops hcall rfl fun ops' hops K hK => ?_
      have o_0 := op_at hops 0 rfl
      have o_1 := op_at hops 1 rfl
      have o_2 := op_at hops 2 rfl
      have o_3 := op_at hops 3 rfl
      have o_4 := op_at hops 4 rfl
      have o_5 := op_at hops 5 rfl
      have o_6 := op_at hops 6 rfl
      have o_7 := op_at hops 7 rfl
      have o_8 := op_at hops 8 rfl
      have o_9 := op_at hops 9 rfl
      have o_10 := op_at hops 10 rfl
      have o_11 := op_at hops 11 rfl
      have o_12 := op_at hops 12 rfl
      have o_13 := op_at hops 13 rfl
      have o_14 := op_at hops 14 rfl
      have o_15 := op_at hops 15 rfl
      have o_16 := op_at hops 16 rfl
      have o_17 := op_at hops 17 rfl
      have o_sz : ops'.size = 18 := op_sz hops rfl
      clear hops
      rw [o_sz]
      change Ran K _ (runList _ _ ops' _ _ [0, 1, 2, 3, 4, 5, 6, 7, 8, 9, 10, 11, 12, 13, 14, 15, 16, 17] _ _)
      first | (refine run_ex (d := (some 154)) o_0 rfl ?_ ?_; · (simp [o_0, o_1, o_2, o_3, o_4, o_5, o_6, o_7, o_8, o_9, o_10, o_11, o_12, o_13, o_14, o_15, o_16, o_17, t7, t10, hrow, h4, h4', hl4, hc1]; done)) | (refine run_skip (d := (some 154)) o_0 rfl ?_ ?_; · (simp [o_0, o_1, o_2, o_3, o_4, o_5, o_6, o_7, o_8, o_9, o_10, o_11, o_12, o_13, o_14, o_15, o_16, o_17, t7, t10, hrow, h4, h4', hl4, hc1]; done))
      try refine ⟨_, by simp [t7, t10, hrow, h4, h4', hl4, hc1]; try rfl, ?_⟩
      first | (refine run_ex (d := (some 155)) o_1 rfl ?_ ?_; · (simp [o_0, o_1, o_2, o_3, o_4, o_5, o_6, o_7, o_8, o_9, o_10, o_11, o_12, o_13, o_14, o_15, o_16, o_17, t7, t10, hrow, h4, h4', hl4, hc1]; done)) | (refine run_skip (d := (some 155)) o_1 rfl ?_ ?_; · (simp [o_0, o_1, o_2, o_3, o_4, o_5, o_6, o_7, o_8, o_9, o_10, o_11, o_12, o_13, o_14, o_15, o_16, o_17, t7, t10, hrow, h4, h4', hl4, hc1]; done))
      try refine ⟨_, by simp [t7, t10, hrow, h4, h4', hl4, hc1]; try rfl, ?_⟩
      first | (refine run_ex (d := (some 156)) o_2 rfl ?_ ?_; · (simp [o_0, o_1, o_2, o_3, o_4, o_5, o_6, o_7, o_8, o_9, o_10, o_11, o_12, o_13, o_14, o_15, o_16, o_17, t7, t10, hrow, h4, h4', hl4, hc1]; done)) | (refine run_skip (d := (some 156)) o_2 rfl ?_ ?_; · (simp [o_0, o_1, o_2, o_3, o_4, o_5, o_6, o_7, o_8, o_9, o_10, o_11, o_12, o_13, o_14, o_15, o_16, o_17, t7, t10, hrow, h4, h4', hl4, hc1]; done))
      try refine ⟨_, by simp [t7, t10, hrow, h4, h4', hl4, hc1]; try rfl, ?_⟩
      first | (refine run_ex (d := (some 157)) o_3 rfl ?_ ?_; · (simp [o_0, o_1, o_2, o_3, o_4, o_5, o_6, o_7, o_8, o_9, o_10, o_11, o_12, o_13, o_14, o_15, o_16, o_17, t7, t10, hrow, h4, h4', hl4, hc1]; done)) | (refine run_skip (d := (some 157)) o_3 rfl ?_ ?_; · (simp [o_0, o_1, o_2, o_3, o_4, o_5, o_6, o_7, o_8, o_9, o_10, o_11, o_12, o_13, o_14, o_15, o_16, o_17, t7, t10, hrow, h4, h4', hl4, hc1]; done))
      try refine ⟨_, by simp [t7, t10, hrow, h4, h4', hl4, hc1]; try rfl, ?_⟩
      first | (refine run_ex (d := (some 158)) o_4 rfl ?_ ?_; · (simp [o_0, o_1, o_2, o_3, o_4, o_5, o_6, o_7, o_8, o_9, o_10, o_11, o_12, o_13, o_14, o_15, o_16, o_17, t7, t10, hrow, h4, h4', hl4, hc1]; done)) | (refine run_skip (d := (some 158)) o_4 rfl ?_ ?_; · (simp [o_0, o_1, o_2, o_3, o_4, o_5, o_6, o_7, o_8, o_9, o_10, o_11, o_12, o_13, o_14, o_15, o_16, o_17, t7, t10, hrow, h4, h4', hl4, hc1]; done))
      try refine ⟨_, by simp [t7, t10, hrow, h4, h4', hl4, hc1]; try rfl, ?_⟩
      first | (refine run_ex (d := (some 159)) o_5 rfl ?_ ?_; · (simp [o_0, o_1, o_2, o_3, o_4, o_5, o_6, o_7, o_8, o_9, o_10, o_11, o_12, o_13, o_14, o_15, o_16, o_17, t7, t10, hrow, h4, h4', hl4, hc1]; done)) | (refine run_skip (d := (some 159)) o_5 rfl ?_ ?_; · (simp [o_0, o_1, o_2, o_3, o_4, o_5, o_6, o_7, o_8, o_9, o_10, o_11, o_12, o_13, o_14, o_15, o_16, o_17, t7, t10, hrow, h4, h4', hl4, hc1]; done))
      try refine ⟨_, by simp [t7, t10, hrow, h4, h4', hl4, hc1]; try rfl, ?_⟩
      first | (refine run_ex (d := (some 160)) o_6 rfl ?_ ?_; · (simp [o_0, o_1, o_2, o_3, o_4, o_5, o_6, o_7, o_8, o_9, o_10, o_11, o_12, o_13, o_14, o_15, o_16, o_17, t7, t10, hrow, h4, h4', hl4, hc1]; done)) | (refine run_skip (d := (some 160)) o_6 rfl ?_ ?_; · (simp [o_0, o_1, o_2, o_3, o_4, o_5, o_6, o_7, o_8, o_9, o_10, o_11, o_12, o_13, o_14, o_15, o_16, o_17, t7, t10, hrow, h4, h4', hl4, hc1]; done))
      try refine ⟨_, by simp [t7, t10, hrow, h4, h4', hl4, hc1]; try rfl, ?_⟩
      first | (refine run_ex (d := (some 161)) o_7 rfl ?_ ?_; · (simp [o_0, o_1, o_2, o_3, o_4, o_5, o_6, o_7, o_8, o_9, o_10, o_11, o_12, o_13, o_14, o_15, o_16, o_17, t7, t10, hrow, h4, h4', hl4, hc1]; done)) | (refine run_skip (d := (some 161)) o_7 rfl ?_ ?_; · (simp [o_0, o_1, o_2, o_3, o_4, o_5, o_6, o_7, o_8, o_9, o_10, o_11, o_12, o_13, o_14, o_15, o_16, o_17, t7, t10, hrow, h4, h4', hl4, hc1]; done))
      try refine ⟨_, by simp [t7, t10, hrow, h4, h4', hl4, hc1]; try rfl, ?_⟩
      first | (refine run_ex (d := (some 162)) o_8 rfl ?_ ?_; · (simp [o_0, o_1, o_2, o_3, o_4, o_5, o_6, o_7, o_8, o_9, o_10, o_11, o_12, o_13, o_14, o_15, o_16, o_17, t7, t10, hrow, h4, h4', hl4, hc1]; done)) | (refine run_skip (d := (some 162)) o_8 rfl ?_ ?_; · (simp [o_0, o_1, o_2, o_3, o_4, o_5, o_6, o_7, o_8, o_9, o_10, o_11, o_12, o_13, o_14, o_15, o_16, o_17, t7, t10, hrow, h4, h4', hl4, hc1]; done))
      try refine ⟨_, by simp [t7, t10, hrow, h4, h4', hl4, hc1]; try rfl, ?_⟩
      first | (refine run_ex (d := (some 163)) o_9 rfl ?_ ?_; · (simp [o_0, o_1, o_2, o_3, o_4, o_5, o_6, o_7, o_8, o_9, o_10, o_11, o_12, o_13, o_14, o_15, o_16, o_17, t7, t10, hrow, h4, h4', hl4, hc1]; done)) | (refine run_skip (d := (some 163)) o_9 rfl ?_ ?_; · (simp [o_0, o_1, o_2, o_3, o_4, o_5, o_6, o_7, o_8, o_9, o_10, o_11, o_12, o_13, o_14, o_15, o_16, o_17, t7, t10, hrow, h4, h4', hl4, hc1]; done))
      try refine ⟨_, by simp [t7, t10, hrow, h4, h4', hl4, hc1]; try rfl, ?_⟩
      first | (refine run_ex (d := (some 164)) o_10 rfl ?_ ?_; · (simp [o_0, o_1, o_2, o_3, o_4, o_5, o_6, o_7, o_8, o_9, o_10, o_11, o_12, o_13, o_14, o_15, o_16, o_17, t7, t10, hrow, h4, h4', hl4, hc1]; done)) | (refine run_skip (d := (some 164)) o_10 rfl ?_ ?_; · (simp [o_0, o_1, o_2, o_3, o_4, o_5, o_6, o_7, o_8, o_9, o_10, o_11, o_12, o_13, o_14, o_15, o_16, o_17, t7, t10, hrow, h4, h4', hl4, hc1]; done))
      try refine ⟨_, by simp [t7, t10, hrow, h4, h4', hl4, hc1]; try rfl, ?_⟩
      first | (refine run_ex (d := (some 165)) o_11 rfl ?_ ?_; · (simp [o_0, o_1, o_2, o_3, o_4, o_5, o_6, o_7, o_8, o_9, o_10, o_11, o_12, o_13, o_14, o_15, o_16, o_17, t7, t10, hrow, h4, h4', hl4, hc1]; done)) | (refine run_skip (d := (some 165)) o_11 rfl ?_ ?_; · (simp [o_0, o_1, o_2, o_3, o_4, o_5, o_6, o_7, o_8, o_9, o_10, o_11, o_12, o_13, o_14, o_15, o_16, o_17, t7, t10, hrow, h4, h4', hl4, hc1]; done))
      try refine ⟨_, by simp [t7, t10, hrow, h4, h4', hl4, hc1]; try rfl, ?_⟩
      first | (refine run_ex (d := (some 166)) o_12 rfl ?_ ?_; · (simp [o_0, o_1, o_2, o_3, o_4, o_5, o_6, o_7, o_8, o_9, o_10, o_11, o_12, o_13, o_14, o_15, o_16, o_17, t7, t10, hrow, h4, h4', hl4, hc1]; done)) | (refine run_skip (d := (some 166)) o_12 rfl ?_ ?_; · (simp [o_0, o_1, o_2, o_3, o_4, o_5, o_6, o_7, o_8, o_9, o_10, o_11, o_12, o_13, o_14, o_15, o_16, o_17, t7, t10, hrow, h4, h4', hl4, hc1]; done))
      try refine ⟨_, by simp [t7, t10, hrow, h4, h4', hl4, hc1]; try rfl, ?_⟩
      first | (refine run_ex (d := (some 167)) o_13 rfl ?_ ?_; · (simp [o_0, o_1, o_2, o_3, o_4, o_5, o_6, o_7, o_8, o_9, o_10, o_11, o_12, o_13, o_14, o_15, o_16, o_17, t7, t10, hrow, h4, h4', hl4, hc1]; done)) | (refine run_skip (d := (some 167)) o_13 rfl ?_ ?_; · (simp [o_0, o_1, o_2, o_3, o_4, o_5, o_6, o_7, o_8, o_9, o_10, o_11, o_12, o_13, o_14, o_15, o_16, o_17, t7, t10, hrow, h4, h4', hl4, hc1]; done))
      try refine ⟨_, by simp [t7, t10, hrow, h4, h4', hl4, hc1]; try rfl, ?_⟩
      first | (refine run_ex (d := (some 168)) o_14 rfl ?_ ?_; · (simp [o_0, o_1, o_2, o_3, o_4, o_5, o_6, o_7, o_8, o_9, o_10, o_11, o_12, o_13, o_14, o_15, o_16, o_17, t7, t10, hrow, h4, h4', hl4, hc1]; done)) | (refine run_skip (d := (some 168)) o_14 rfl ?_ ?_; · (simp [o_0, o_1, o_2, o_3, o_4, o_5, o_6, o_7, o_8, o_9, o_10, o_11, o_12, o_13, o_14, o_15, o_16, o_17, t7, t10, hrow, h4, h4', hl4, hc1]; done))
      try refine ⟨_, by simp [t7, t10, hrow, h4, h4', hl4, hc1]; try rfl, ?_⟩
      first | (refine run_ex (d := (some 169)) o_15 rfl ?_ ?_; · (simp [o_0, o_1, o_2, o_3, o_4, o_5, o_6, o_7, o_8, o_9, o_10, o_11, o_12, o_13, o_14, o_15, o_16, o_17, t7, t10, hrow, h4, h4', hl4, hc1]; done)) | (refine run_skip (d := (some 169)) o_15 rfl ?_ ?_; · (simp [o_0, o_1, o_2, o_3, o_4, o_5, o_6, o_7, o_8, o_9, o_10, o_11, o_12, o_13, o_14, o_15, o_16, o_17, t7, t10, hrow, h4, h4', hl4, hc1]; done))
      try refine ⟨_, by simp [t7, t10, hrow, h4, h4', hl4, hc1]; try rfl, ?_⟩
      first | (refine run_ex (d := (some 170)) o_16 rfl ?_ ?_; · (simp [o_0, o_1, o_2, o_3, o_4, o_5, o_6, o_7, o_8, o_9, o_10, o_11, o_12, o_13, o_14, o_15, o_16, o_17, t7, t10, hrow, h4, h4', hl4, hc1]; done)) | (refine run_skip (d := (some 170)) o_16 rfl ?_ ?_; · (simp [o_0, o_1, o_2, o_3, o_4, o_5, o_6, o_7, o_8, o_9, o_10, o_11, o_12, o_13, o_14, o_15, o_16, o_17, t7, t10, hrow, h4, h4', hl4, hc1]; done))
      try refine ⟨_, by simp [t7, t10, hrow, h4, h4', hl4, hc1]; try rfl, ?_⟩
      first | (refine run_ex (d := (some 6)) o_17 rfl ?_ ?_; · (simp [o_0, o_1, o_2, o_3, o_4, o_5, o_6, o_7, o_8, o_9, o_10, o_11, o_12, o_13, o_14, o_15, o_16, o_17, t7, t10, hrow, h4, h4', hl4, hc1]; done)) | (refine run_skip (d := (some 6)) o_17 rfl ?_ ?_; · (simp [o_0, o_1, o_2, o_3, o_4, o_5, o_6, o_7, o_8, o_9, o_10, o_11, o_12, o_13, o_14, o_15, o_16, o_17, t7, t10, hrow, h4, h4', hl4, hc1]; done))
      try refine ⟨_, by simp [t7, t10, hrow, h4, h4', hl4, hc1]; try rfl, ?_⟩
      refine run_end ?_
      apply hK; clear hK K o_0 o_1 o_2 o_3 o_4 o_5 o_6 o_7 o_8 o_9 o_10 o_11 o_12 o_13 o_14 o_15 o_16 o_17 o_sz; simp only [onNormal, onExit, tput]
      (try refine AWP.ret ?_); (try simp only [onNormal, onExit])
      exact ⟨by simp, ⟨_, rfl, by simp [ares1]⟩, fun k row hk => by cases hk⟩
    · (repeat refine AWP.seq ?_)
      refine AWP.region_ops hcall rfl fun ops' hops K hK => ?_
      have o_0 := op_at hops 0 rfl
      have o_1 := op_at hops 1 rfl
      have o_2 := op_at hops 2 rfl
      have o_3 := op_at hops 3 rfl
      have o_4 := op_at hops 4 rfl
      have o_5 := op_at hops 5 rfl
      have o_6 := op_at hops 6 rfl
      have o_7 := op_at hops 7 rfl
      have o_sz : ops'.size = 8 := op_sz hops rfl
      clear hops
      rw [o_sz]
      change Ran K _ (runList _ _ ops' _ _ [0, 1, 2, 3, 4, 5, 6, 7] _ _)
      first | (refine run_ex (d := (some 29)) o_0 rfl ?_ ?_; · (simp [o_0, o_1, o_2, o_3, o_4, o_5, o_6, o_7, t0, t11, intsArg, hb1]; done)) | (refine run_skip (d := (some 29)) o_0 rfl ?_ ?_; · (simp [o_0, o_1, o_2, o_3, o_4, o_5, o_6, o_7, t0, t11, intsArg, hb1]; done))
      try refine ⟨_, by simp [t0, t11, intsArg, hb1]; try rfl, ?_⟩
      first | (refine run_ex (d := (some 30)) o_1 rfl ?_ ?_; · (simp [o_0, o_1, o_2, o_3, o_4, o_5, o_6, o_7, t0, t11, intsArg, hb1]; done)) | (refine run_skip (d := (some 30)) o_1 rfl ?_ ?_; · (simp [o_0, o_1, o_2, o_3, o_4, o_5, o_6, o_7, t0, t11, intsArg, hb1]; done))
      try refine ⟨_, by simp [t0, t11, intsArg, hb1]; try rfl, ?_⟩
      first | (refine run_ex (d := (some 31)) o_2 rfl ?_ ?_; · (simp [o_0, o_1, o_2, o_3, o_4, o_5, o_6, o_7, t0, t11, intsArg, hb1]; done)) | (refine run_skip (d := (some 31)) o_2 rfl ?_ ?_; · (simp [o_0, o_1, o_2, o_3, o_4, o_5, o_6, o_7, t0, t11, intsArg, hb1]; done))
      try refine ⟨_, by simp [t0, t11, intsArg, hb1]; try rfl, ?_⟩
      first | (refine run_ex (d := (some 32)) o_3 rfl ?_ ?_; · (simp [o_0, o_1, o_2, o_3, o_4, o_5, o_6, o_7, t0, t11, intsArg, hb1]; done)) | (refine run_skip (d := (some 32)) o_3 rfl ?_ ?_; · (simp [o_0, o_1, o_2, o_3, o_4, o_5, o_6, o_7, t0, t11, intsArg, hb1]; done))
      try refine ⟨_, by simp [t0, t11, intsArg, hb1]; try rfl, ?_⟩
      first | (refine run_ex (d := (some 33)) o_4 rfl ?_ ?_; · (simp [o_0, o_1, o_2, o_3, o_4, o_5, o_6, o_7, t0, t11, intsArg, hb1]; done)) | (refine run_skip (d := (some 33)) o_4 rfl ?_ ?_; · (simp [o_0, o_1, o_2, o_3, o_4, o_5, o_6, o_7, t0, t11, intsArg, hb1]; done))
      try refine ⟨_, by simp [t0, t11, intsArg, hb1]; try rfl, ?_⟩
      first | (refine run_ex (d := (some 34)) o_5 rfl ?_ ?_; · (simp [o_0, o_1, o_2, o_3, o_4, o_5, o_6, o_7, t0, t11, intsArg, hb1]; done)) | (refine run_skip (d := (some 34)) o_5 rfl ?_ ?_; · (simp [o_0, o_1, o_2, o_3, o_4, o_5, o_6, o_7, t0, t11, intsArg, hb1]; done))
      try refine ⟨_, by simp [t0, t11, intsArg, hb1]; try rfl, ?_⟩
      first | (refine run_ex (d := (some 35)) o_6 rfl ?_ ?_; · (simp [o_0, o_1, o_2, o_3, o_4, o_5, o_6, o_7, t0, t11, intsArg, hb1]; done)) | (refine run_skip (d := (some 35)) o_6 rfl ?_ ?_; · (simp [o_0, o_1, o_2, o_3, o_4, o_5, o_6, o_7, t0, t11, intsArg, hb1]; done))
      try refine ⟨_, by simp [t0, t11, intsArg, hb1]; try rfl, ?_⟩
      first | (refine run_ex (d := (some 36)) o_7 rfl ?_ ?_; · (simp [o_0, o_1, o_2, o_3, o_4, o_5, o_6, o_7, t0, t11, intsArg, hb1]; done)) | (refine run_skip (d := (some 36)) o_7 rfl ?_ ?_; · (simp [o_0, o_1, o_2, o_3, o_4, o_5, o_6, o_7, t0, t11, intsArg, hb1]; done))
      try refine ⟨_, by simp [t0, t11, intsArg, hb1]; try rfl, ?_⟩
      refine run_end ?_
      apply hK; clear hK K o_0 o_1 o_2 o_3 o_4 o_5 o_6 o_7 o_sz; simp only [onNormal, onExit, tput]
      (repeat refine AWP.seq ?_); refine AWP.cond (b := false) (by simp) ?_; simp only [if_true, if_false, Bool.false_eq_true]
      refine AWP.exit ?_; simp only [onNormal, onExit, if_true, reduceCtorEq, if_false]
      (repeat refine AWP.seq ?_)
      refine AWP.draw_ops rfl hcall [0, 1, 3, 7, 15, 0, 32, 96, 224, 511, 1023, 2047, 2047, 0, 12287, 32767] [⟨5, false, []⟩, ⟨6, true, []⟩, ⟨0, false, []⟩, ⟨1, false, []⟩, ⟨2, false, []⟩, ⟨3, false, []⟩, ⟨4, false, [0, 2]⟩, ⟨7, false, []⟩, ⟨8, false, []⟩, ⟨9, true, []⟩, ⟨10, false, []⟩, ⟨11, false, []⟩, ⟨13, false, []⟩, ⟨14, true, []⟩, ⟨12, false, []⟩, ⟨15, false, []⟩] rfl (by kernel_rfl) fun ops' hops K hK => ?_
      have o_0 := op_at hops 0 rfl
      have o_1 := op_at hops 1 rfl
      have o_2 := op_at hops 2 rfl
      have o_3 := op_at hops 3 rfl
      have o_4 := op_at hops 4 rfl
      have o_5 := op_at hops 5 rfl
      have o_6 := op_at hops 6 rfl
      have o_7 := op_at hops 7 rfl
      have o_8 := op_at hops 8 rfl
      have o_9 := op_at hops 9 rfl
      have o_10 := op_at hops 10 rfl
      have o_11 := op_at hops 11 rfl
      have o_12 := op_at hops 12 rfl
      have o_13 := op_at hops 13 rfl
      have o_14 := op_at hops 14 rfl
      have o_15 := op_at hops 15 rfl
      have o_sz : ops'.size = 16 := op_sz hops rfl
      clear hops
      refine planW_ex (d := (some 134)) o_5 rfl rfl ⟨_, by simp [List.lookup, t2, t7, hn2, hw2, hrow, h4, h4', hl4, hc1]; try rfl, trivial, ?_⟩
      clear o_5
      refine planW_ex (d := (some 135)) o_6 rfl rfl ⟨_, by simp [List.lookup, t2, t7, hn2, hw2, hrow, h4, h4', hl4, hc1]; try rfl, trivial, ?_⟩
      clear o_6
      refine planW_ex (d := (some 129)) o_0 rfl rfl ⟨_, by simp [List.lookup, t2, t7, hn2, hw2, hrow, h4, h4', hl4, hc1]; try rfl, trivial, ?_⟩
      clear o_0
      refine planW_ex (d := (some 130)) o_1 rfl rfl ⟨_, by simp [List.lookup, t2, t7, hn2, hw2, hrow, h4, h4', hl4, hc1]; try rfl, trivial, ?_⟩
      clear o_1
      refine planW_ex (d := (some 131)) o_2 rfl rfl ⟨_, by simp [List.lookup, t2, t7, hn2, hw2, hrow, h4, h4', hl4, hc1]; try rfl, trivial, ?_⟩
      clear o_2
      refine planW_ex (d := (some 132)) o_3 rfl rfl ⟨_, by simp [List.lookup, t2, t7, hn2, hw2, hrow, h4, h4', hl4, hc1]; try rfl, trivial, ?_⟩
      clear o_3
      refine planW_ex (d := (some 133)) o_4 rfl rfl ⟨_, by simp [List.lookup, t2, t7, hn2, hw2, hrow, h4, h4', hl4, hc1]; try rfl, by simp [chkW, List.lookup, List.lookup, t2, t7, hn2, hw2, hrow, h4, h4', hl4, hc1], ?_⟩
      clear o_4
      refine planW_ex (d := (some 136)) o_7 rfl rfl ⟨_, by simp [List.lookup, t2, t7, hn2, hw2, hrow, h4, h4', hl4, hc1]; try rfl, trivial, ?_⟩
      clear o_7
      refine planW_ex (d := (some 137)) o_8 rfl rfl ⟨_, by simp [List.lookup, t2, t7, hn2, hw2, hrow, h4, h4', hl4, hc1]; try rfl, trivial, ?_⟩
      clear o_8
      refine planW_ex (d := (some 138)) o_9 rfl rfl ⟨_, by simp [List.lookup, t2, t7, hn2, hw2, hrow, h4, h4', hl4, hc1]; try rfl, trivial, ?_⟩
      clear o_9
      refine planW_ex (d := (some 128)) o_10 rfl rfl ⟨_, by simp [List.lookup, t2, t7, hn2, hw2, hrow, h4, h4', hl4, hc1]; try rfl, trivial, ?_⟩
      clear o_10
      refine planW_ex (d := (some 139)) o_11 rfl rfl ⟨_, by simp [List.lookup, t2, t7, hn2, hw2, hrow, h4, h4', hl4, hc1]; try rfl, trivial, ?_⟩
      clear o_11
      refine planW_ex (d := (some 19)) o_13 rfl rfl ⟨_, by simp [List.lookup, t2, t7, hn2, hw2, hrow, h4, h4', hl4, hc1]; try rfl, trivial, ?_⟩
      clear o_13
      refine planW_ex (d := none) o_14 rfl rfl ⟨_, by simp [List.lookup, t2, t7, hn2, hw2, hrow, h4, h4', hl4, hc1]; try rfl, trivial, ?_⟩
      clear o_14
      refine planW_ex (d := (some 140)) o_12 rfl rfl ⟨_, by simp [List.lookup, t2, t7, hn2, hw2, hrow, h4, h4', hl4, hc1]; try rfl, trivial, ?_⟩
      clear o_12
      refine planW_ex (d := (some 20)) o_15 rfl rfl ⟨_, by simp [List.lookup, t2, t7, hn2, hw2, hrow, h4, h4', hl4, hc1]; try rfl, trivial, ?_⟩
      clear o_15
      refine planW_end o_sz ?_
      apply hK; clear hK K o_sz; simp only [onNormal, onExit, tput]
      refine AWP.more hr (by omega) fun G1 h1 _ => ?_
      refine AWP.less (H' := H) h1 ?_
      clear hcall hc1
      have hcall := onF_ok within19_fn (onF_ok (stS_ok (f := 18) (xs := [.ptr S.s 0, vi (100 + (v9 : Int)), .agg [vi 0, vi (b : Int)]]) (pre := fun H => SrvIs H S L) (r := fun _ => .tup [.agg [vi 0, vi 0], vi 1]) (post := fun _ H => H) (by kernel_rfl) fun nm H h => create_far nm H h (by omega)) (@noCall_ok Tryz.prog))
      have hc1 : ∀ nm', stS [.ptr S.s 0, vi (100 + (v9 : Int)), .agg [vi 0, vi (b : Int)]] (fun H => SrvIs H S L) (fun _ => .tup [.agg [vi 0, vi 0], vi 1]) (fun _ H => H) [.ptr S.s 0, vi (100 + (v9 : Int)), .agg [vi 0, vi (b : Int)]] nm' H = some (.tup [.agg [vi 0, vi 0], vi 1], H) := fun nm' => stS_at hI.srv
      (repeat refine AWP.seq ?_)
      refine AWP.draw_ops rfl hcall [0, 1, 3, 7, 15, 0, 32, 96, 0, 511, 1023, 2047, 2047, 0, 12287, 32767] [⟨5, false, []⟩, ⟨6, true, []⟩, ⟨0, false, []⟩, ⟨1, false, []⟩, ⟨2, false, []⟩, ⟨3, false, []⟩, ⟨4, false, [0, 2]⟩, ⟨7, false, []⟩, ⟨8, false, [0, 2]⟩, ⟨9, true, []⟩, ⟨10, false, []⟩, ⟨11, false, []⟩, ⟨13, false, []⟩, ⟨14, true, []⟩, ⟨12, false, []⟩, ⟨15, false, []⟩] rfl (by kernel_rfl) fun ops' hops K hK => ?_
      have o_0 := op_at hops 0 rfl
      have o_1 := op_at hops 1 rfl
      have o_2 := op_at hops 2 rfl
      have o_3 := op_at hops 3 rfl
      have o_4 := op_at hops 4 rfl
      have o_5 := op_at hops 5 rfl
      have o_6 := op_at hops 6 rfl
      have o_7 := op_at hops 7 rfl
      have o_8 := op_at hops 8 rfl
      have o_9 := op_at hops 9 rfl
      have o_10 := op_at hops 10 rfl
      have o_11 := op_at hops 11 rfl
      have o_12 := op_at hops 12 rfl
      have o_13 := op_at hops 13 rfl
      have o_14 := op_at hops 14 rfl
      have o_15 := op_at hops 15 rfl
      have o_sz : ops'.size = 16 := op_sz hops rfl
      clear hops
      refine planW_ex (d := (some 147)) o_5 rfl rfl ⟨_, by simp [List.lookup, t2, t7, t8, hn9, hw9, hrow, h4, h4', hl4, hA, hc1]; try rfl, trivial, ?_⟩
      clear o_5
      refine planW_ex (d := (some 148)) o_6 rfl rfl ⟨_, by simp [List.lookup, t2, t7, t8, hn9, hw9, hrow, h4, h4', hl4, hA, hc1]; try rfl, trivial, ?_⟩
      clear o_6
      refine planW_ex (d := (some 142)) o_0 rfl rfl ⟨_, by simp [List.lookup, t2, t7, t8, hn9, hw9, hrow, h4, h4', hl4, hA, hc1]; try rfl, trivial, ?_⟩
      clear o_0
      refine planW_ex (d := (some 143)) o_1 rfl rfl ⟨_, by simp [List.lookup, t2, t7, t8, hn9, hw9, hrow, h4, h4', hl4, hA, hc1]; try rfl, trivial, ?_⟩
      clear o_1
      refine planW_ex (d := (some 144)) o_2 rfl rfl ⟨_, by simp [List.lookup, t2, t7, t8, hn9, hw9, hrow, h4, h4', hl4, hA, hc1]; try rfl, trivial, ?_⟩
      clear o_2
      refine planW_ex (d := (some 145)) o_3 rfl rfl ⟨_, by simp [List.lookup, t2, t7, t8, hn9, hw9, hrow, h4, h4', hl4, hA, hc1]; try rfl, trivial, ?_⟩
      clear o_3
      refine planW_ex (d := (some 146)) o_4 rfl rfl ⟨_, by simp [List.lookup, t2, t7, t8, hn9, hw9, hrow, h4, h4', hl4, hA, hc1]; try rfl, by simp [chkW, List.lookup, List.lookup, t2, t7, t8, hn9, hw9, hrow, h4, h4', hl4, hA, hc1], ?_⟩
      clear o_4
      refine planW_ex (d := (some 149)) o_7 rfl rfl ⟨_, by simp [List.lookup, t2, t7, t8, hn9, hw9, hrow, h4, h4', hl4, hA, hc1]; try rfl, trivial, ?_⟩
      clear o_7
      refine planW_ex (d := (some 150)) o_8 rfl rfl ⟨_, by simp [List.lookup, t2, t7, t8, hn9, hw9, hrow, h4, h4', hl4, hA, hc1]; try rfl, by simp [chkW, List.lookup, List.lookup, t2, t7, t8, hn9, hw9, hrow, h4, h4', hl4, hA, hc1], ?_⟩
      clear o_8
      refine planW_ex (d := (some 151)) o_9 rfl rfl ⟨_, by simp [List.lookup, t2, t7, t8, hn9, hw9, hrow, h4, h4', hl4, hA, hc1]; try rfl, trivial, ?_⟩
      clear o_9
      refine planW_ex (d := (some 141)) o_10 rfl rfl ⟨_, by simp [List.lookup, t2, t7, t8, hn9, hw9, hrow, h4, h4', hl4, hA, hc1]; try rfl, trivial, ?_⟩
      clear o_10
      refine planW_ex (d := (some 152)) o_11 rfl rfl ⟨_, by simp [List.lookup, t2, t7, t8, hn9, hw9, hrow, h4, h4', hl4, hA, hc1]; try rfl, trivial, ?_⟩
      clear o_11
      refine planW_ex (d := (some 21)) o_13 rfl rfl ⟨_, by simp [List.lookup, t2, t7, t8, hn9, hw9, hrow, h4, h4', hl4, hA, hc1]; try rfl, trivial, ?_⟩
      clear o_13
      refine planW_ex (d := none) o_14 rfl rfl ⟨_, by simp [List.lookup, t2, t7, t8, hn9, hw9, hrow, h4, h4', hl4, hA, hc1]; try rfl, trivial, ?_⟩
      clear o_14
      refine planW_ex (d := (some 153)) o_12 rfl rfl ⟨_, by simp [List.lookup, t2, t7, t8, hn9, hw9, hrow, h4, h4', hl4, hA, hc1]; try rfl, trivial, ?_⟩
      clear o_12
      refine planW_ex (d := (some 22)) o_15 rfl rfl ⟨_, by simp [List.lookup, t2, t7, t8, hn9, hw9, hrow, h4, h4', hl4, hA, hc1]; try rfl, trivial, ?_⟩
      clear o_15
      refine planW_end o_sz ?_
      apply hK; clear hK K o_sz; simp only [onNormal, onExit, tput]
      refine AWP.more hr (by omega) fun G1 h1 _ => ?_
      refine AWP.less (H' := H) h1 ?_
      clear hcall hc1
      have hcall := onF_ok (stS_ok (f := 21) (xs := [.ptr S.s 0]) (pre := fun H => SrvIs H S L) (r := fun nm => .sl (wavesN nm) 0 L.length 2) (post := fun _ H => H) (by kernel_rfl) fun nm H h => waves_sim nm h hlen) (@noCall_ok Tryz.prog)
      have hc1 : ∀ nm', stS [.ptr S.s 0] (fun H => SrvIs H S L) (fun nm => .sl (wavesN nm) 0 L.length 2) (fun _ H => H) [.ptr S.s 0] nm' H = some (.sl (wavesN nm') 0 L.length 2, H) := fun nm' => stS_at hI.srv
      (repeat refine AWP.seq ?_)
      refine AWP.region_ops hcall rfl fun ops' hops K hK => ?_
      have o_0 := op_at hops 0 rfl
      have o_1 := op_at hops 1 rfl
      have o_2 := op_at hops 2 rfl
      have o_3 := op_at hops 3 rfl
      have o_4 := op_at hops 4 rfl
      have o_5 := op_at hops 5 rfl
      have o_6 := op_at hops 6 rfl
      have o_7 := op_at hops 7 rfl
      have o_8 := op_at hops 8 rfl
      have o_9 := op_at hops 9 rfl
      have o_10 := op_at hops 10 rfl
      have o_11 := op_at hops 11 rfl
      have o_12 := op_at hops 12 rfl
      have o_13 := op_at hops 13 rfl
      have o_14 := op_at hops 14 rfl
      have o_15 := op_at hops 15 rfl
      have o_16 := op_at hops 16 rfl
      have o_17 := op_at hops 17 rfl
      have o_sz : ops'.size = 18 := op_sz hops rfl
      clear hops
      rw [o_sz]
      change Ran K _ (runList _ _ ops' _ _ [0, 1, 2, 3, 4, 5, 6, 7, 8, 9, 10, 11, 12, 13, 14, 15, 16, 17] _ _)
      first | (refine run_ex (d := (some 154)) o_0 rfl ?_ ?_; · (simp [o_0, o_1, o_2, o_3, o_4, o_5, o_6, o_7, o_8, o_9, o_10, o_11, o_12, o_13, o_14, o_15, o_16, o_17, t7, t10, hrow, h4, h4', hl4, hc1]; done)) | (refine run_skip (d := (some 154)) o_0 rfl ?_ ?_; · (simp [o_0, o_1, o_2, o_3, o_4, o_5, o_6, o_7, o_8, o_9, o_10, o_11, o_12, o_13, o_14, o_15, o_16, o_17, t7, t10, hrow, h4, h4', hl4, hc1]; done))
      try refine ⟨_, by simp [t7, t10, hrow, h4, h4', hl4, hc1]; try rfl, ?_⟩
      first | (refine run_ex (d := (some 155)) o_1 rfl ?_ ?_; · (simp [o_0, o_1, o_2, o_3, o_4, o_5, o_6, o_7, o_8, o_9, o_10, o_11, o_12, o_13, o_14, o_15, o_16, o_17, t7, t10, hrow, h4, h4', hl4, hc1]; done)) | (refine run_skip (d := (some 155)) o_1 rfl ?_ ?_; · (simp [o_0, o_1, o_2, o_3, o_4, o_5, o_6, o_7, o_8, o_9, o_10, o_11, o_12, o_13, o_14, o_15, o_16, o_17, t7, t10, hrow, h4, h4', hl4, hc1]; done))
      try refine ⟨_, by simp [t7, t10, hrow, h4, h4', hl4, hc1]; try rfl, ?_⟩
      first | (refine run_ex (d := (some 156)) o_2 rfl ?_ ?_; · (simp [o_0, o_1, o_2, o_3, o_4, o_5, o_6, o_7, o_8, o_9, o_10, o_11, o_12, o_13, o_14, o_15, o_16, o_17, t7, t10, hrow, h4, h4', hl4, hc1]; done)) | (refine run_skip (d := (some 156)) o_2 rfl ?_ ?_; · (simp [o_0, o_1, o_2, o_3, o_4, o_5, o_6, o_7, o_8, o_9, o_10, o_11, o_12, o_13, o_14, o_15, o_16, o_17, t7, t10, hrow, h4, h4', hl4, hc1]; done))
      try refine ⟨_, by simp [t7, t10, hrow, h4, h4', hl4, hc1]; try rfl, ?_⟩
      first | (refine run_ex (d := (some 157)) o_3 rfl ?_ ?_; · (simp [o_0, o_1, o_2, o_3, o_4, o_5, o_6, o_7, o_8, o_9, o_10, o_11, o_12, o_13, o_14, o_15, o_16, o_17, t7, t10, hrow, h4, h4', hl4, hc1]; done)) | (refine run_skip (d := (some 157)) o_3 rfl ?_ ?_; · (simp [o_0, o_1, o_2, o_3, o_4, o_5, o_6, o_7, o_8, o_9, o_10, o_11, o_12, o_13, o_14, o_15, o_16, o_17, t7, t10, hrow, h4, h4', hl4, hc1]; done))
      try refine ⟨_, by simp [t7, t10, hrow, h4, h4', hl4, hc1]; try rfl, ?_⟩
      first | (refine run_ex (d := (some 158)) o_4 rfl ?_ ?_; · (simp [o_0, o_1, o_2, o_3, o_4, o_5, o_6, o_7, o_8, o_9, o_10, o_11, o_12, o_13, o_14, o_15, o_16, o_17, t7, t10, hrow, h4, h4', hl4, hc1]; done)) | (refine run_skip (d := (some 158)) o_4 rfl ?_ ?_; · (simp [o_0, o_1, o_2, o_3, o_4, o_5, o_6, o_7, o_8, o_9, o_10, o_11, o_12, o_13, o_14, o_15, o_16, o_17, t7, t10, hrow, h4, h4', hl4, hc1]; done))
      try refine ⟨_, by simp [t7, t10, hrow, h4, h4', hl4, hc1]; try rfl, ?_⟩
      first | (refine run_ex (d := (some 159)) o_5 rfl ?_ ?_; · (simp [o_0, o_1, o_2, o_3, o_4, o_5, o_6, o_7, o_8, o_9, o_10, o_11, o_12, o_13, o_14, o_15, o_16, o_17, t7, t10, hrow, h4, h4', hl4, hc1]; done)) | (refine run_skip (d := (some 159)) o_5 rfl ?_ ?_; · (simp [o_0, o_1, o_2, o_3, o_4, o_5, o_6, o_7, o_8, o_9, o_10, o_11, o_12, o_13, o_14, o_15, o_16, o_17, t7, t10, hrow, h4, h4', hl4, hc1]; done))
      try refine ⟨_, by simp [t7, t10, hrow, h4, h4', hl4, hc1]; try rfl, ?_⟩
      first | (refine run_ex (d := (some 160)) o_6 rfl ?_ ?_; · (simp [o_0, o_1, o_2, o_3, o_4, o_5, o_6, o_7, o_8, o_9, o_10, o_11, o_12, o_13, o_14, o_15, o_16, o_17, t7, t10, hrow, h4, h4', hl4, hc1]; done)) | (refine run_skip (d := (some 160)) o_6 rfl ?_ ?_; · (simp [o_0, o_1, o_2, o_3, o_4, o_5, o_6, o_7, o_8, o_9, o_10, o_11, o_12, o_13, o_14, o_15, o_16, o_17, t7, t10, hrow, h4, h4', hl4, hc1]; done))
      try refine ⟨_, by simp [t7, t10, hrow, h4, h4', hl4, hc1]; try rfl, ?_⟩
      first | (refine run_ex (d := (some 161)) o_7 rfl ?_ ?_; · (simp [o_0, o_1, o_2, o_3, o_4, o_5, o_6, o_7, o_8, o_9, o_10, o_11, o_12, o_13, o_14, o_15, o_16, o_17, t7, t10, hrow, h4, h4', hl4, hc1]; done)) | (refine run_skip (d := (some 161)) o_7 rfl ?_ ?_; · (simp [o_0, o_1, o_2, o_3, o_4, o_5, o_6, o_7, o_8, o_9, o_10, o_11, o_12, o_13, o_14, o_15, o_16, o_17, t7, t10, hrow, h4, h4', hl4, hc1]; done))
      try refine ⟨_, by simp [t7, t10, hrow, h4, h4', hl4, hc1]; try rfl, ?_⟩
      first | (refine run_ex (d := (some 162)) o_8 rfl ?_ ?_; · (simp [o_0, o_1, o_2, o_3, o_4, o_5, o_6, o_7, o_8, o_9, o_10, o_11, o_12, o_13, o_14, o_15, o_16, o_17, t7, t10, hrow, h4, h4', hl4, hc1]; done)) | (refine run_skip (d := (some 162)) o_8 rfl ?_ ?_; · (simp [o_0, o_1, o_2, o_3, o_4, o_5, o_6, o_7, o_8, o_9, o_10, o_11, o_12, o_13, o_14, o_15, o_16, o_17, t7, t10, hrow, h4, h4', hl4, hc1]; done))
      try refine ⟨_, by simp [t7, t10, hrow, h4, h4', hl4, hc1]; try rfl, ?_⟩
      first | (refine run_ex (d := (some 163)) o_9 rfl ?_ ?_; · (simp [o_0, o_1, o_2, o_3, o_4, o_5, o_6, o_7, o_8, o_9, o_10, o_11, o_12, o_13, o_14, o_15, o_16, o_17, t7, t10, hrow, h4, h4', hl4, hc1]; done)) | (refine run_skip (d := (some 163)) o_9 rfl ?_ ?_; · (simp [o_0, o_1, o_2, o_3, o_4, o_5, o_6, o_7, o_8, o_9, o_10, o_11, o_12, o_13, o_14, o_15, o_16, o_17, t7, t10, hrow, h4, h4', hl4, hc1]; done))
      try refine ⟨_, by simp [t7, t10, hrow, h4, h4', hl4, hc1]; try rfl, ?_⟩
      first | (refine run_ex (d := (some 164)) o_10 rfl ?_ ?_; · (simp [o_0, o_1, o_2, o_3, o_4, o_5, o_6, o_7, o_8, o_9, o_10, o_11, o_12, o_13, o_14, o_15, o_16, o_17, t7, t10, hrow, h4, h4', hl4, hc1]; done)) | (refine run_skip (d := (some 164)) o_10 rfl ?_ ?_; · (simp [o_0, o_1, o_2, o_3, o_4, o_5, o_6, o_7, o_8, o_9, o_10, o_11, o_12, o_13, o_14, o_15, o_16, o_17, t7, t10, hrow, h4, h4', hl4, hc1]; done))
      try refine ⟨_, by simp [t7, t10, hrow, h4, h4', hl4, hc1]; try rfl, ?_⟩
      first | (refine run_ex (d := (some 165)) o_11 rfl ?_ ?_; · (simp [o_0, o_1, o_2, o_3, o_4, o_5, o_6, o_7, o_8, o_9, o_10, o_11, o_12, o_13, o_14, o_15, o_16, o_17, t7, t10, hrow, h4, h4', hl4, hc1]; done)) | (refine run_skip (d := (some 165)) o_11 rfl ?_ ?_; · (simp [o_0, o_1, o_2, o_3, o_4, o_5, o_6, o_7, o_8, o_9, o_10, o_11, o_12, o_13, o_14, o_15, o_16, o_17, t7, t10, hrow, h4, h4', hl4, hc1]; done))
      try refine ⟨_, by simp [t7, t10, hrow, h4, h4', hl4, hc1]; try rfl, ?_⟩
      first | (refine run_ex (d := (some 166)) o_12 rfl ?_ ?_; · (simp [o_0, o_1, o_2, o_3, o_4, o_5, o_6, o_7, o_8, o_9, o_10, o_11, o_12, o_13, o_14, o_15, o_16, o_17, t7, t10, hrow, h4, h4', hl4, hc1]; done)) | (refine run_skip (d := (some 166)) o_12 rfl ?_ ?_; · (simp [o_0, o_1, o_2, o_3, o_4, o_5, o_6, o_7, o_8, o_9, o_10, o_11, o_12, o_13, o_14, o_15, o_16, o_17, t7, t10, hrow, h4, h4', hl4, hc1]; done))
      try refine ⟨_, by simp [t7, t10, hrow, h4, h4', hl4, hc1]; try rfl, ?_⟩
      first | (refine run_ex (d := (some 167)) o_13 rfl ?_ ?_; · (simp [o_0, o_1, o_2, o_3, o_4, o_5, o_6, o_7, o_8, o_9, o_10, o_11, o_12, o_13, o_14, o_15, o_16, o_17, t7, t10, hrow, h4, h4', hl4, hc1]; done)) | (refine run_skip (d := (some 167)) o_13 rfl ?_ ?_; · (simp [o_0, o_1, o_2, o_3, o_4, o_5, o_6, o_7, o_8, o_9, o_10, o_11, o_12, o_13, o_14, o_15, o_16, o_17, t7, t10, hrow, h4, h4', hl4, hc1]; done))
      try refine ⟨_, by simp [t7, t10, hrow, h4, h4', hl4, hc1]; try rfl, ?_⟩
      first | (refine run_ex (d := (some 168)) o_14 rfl ?_ ?_; · (simp [o_0, o_1, o_2, o_3, o_4, o_5, o_6, o_7, o_8, o_9, o_10, o_11, o_12, o_13, o_14, o_15, o_16, o_17, t7, t10, hrow, h4, h4', hl4, hc1]; done)) | (refine run_skip (d := (some 168)) o_14 rfl ?_ ?_; · (simp [o_0, o_1, o_2, o_3, o_4, o_5, o_6, o_7, o_8, o_9, o_10, o_11, o_12, o_13, o_14, o_15, o_16, o_17, t7, t10, hrow, h4, h4', hl4, hc1]; done))
      try refine ⟨_, by simp [t7, t10, hrow, h4, h4', hl4, hc1]; try rfl, ?_⟩
      first | (refine run_ex (d := (some 169)) o_15 rfl ?_ ?_; · (simp [o_0, o_1, o_2, o_3, o_4, o_5, o_6, o_7, o_8, o_9, o_10, o_11, o_12, o_13, o_14, o_15, o_16, o_17, t7, t10, hrow, h4, h4', hl4, hc1]; done)) | (refine run_skip (d := (some 169)) o_15 rfl ?_ ?_; · (simp [o_0, o_1, o_2, o_3, o_4, o_5, o_6, o_7, o_8, o_9, o_10, o_11, o_12, o_13, o_14, o_15, o_16, o_17, t7, t10, hrow, h4, h4', hl4, hc1]; done))
      try refine ⟨_, by simp [t7, t10, hrow, h4, h4', hl4, hc1]; try rfl, ?_⟩
      first | (refine run_ex (d := (some 170)) o_16 rfl ?_ ?_; · (simp [o_0, o_1, o_2, o_3, o_4, o_5, o_6, o_7, o_8, o_9, o_10, o_11, o_12, o_13, o_14, o_15, o_16, o_17, t7, t10, hrow, h4, h4', hl4, hc1]; done)) | (refine run_skip (d := (some 170)) o_16 rfl ?_ ?_; · (simp [o_0, o_1, o_2, o_3, o_4, o_5, o_6, o_7, o_8, o_9, o_10, o_11, o_12, o_13, o_14, o_15, o_16, o_17, t7, t10, hrow, h4, h4', hl4, hc1]; done))
      try refine ⟨_, by simp [t7, t10, hrow, h4, h4', hl4, hc1]; try rfl, ?_⟩
      first | (refine run_ex (d := (some 6)) o_17 rfl ?_ ?_; · (simp [o_0, o_1, o_2, o_3, o_4, o_5, o_6, o_7, o_8, o_9, o_10, o_11, o_12, o_13, o_14, o_15, o_16, o_17, t7, t10, hrow, h4, h4', hl4, hc1]; done)) | (refine run_skip (d := (some 6)) o_17 rfl ?_ ?_; · (simp [o_0, o_1, o_2, o_3, o_4, o_5, o_6, o_7, o_8, o_9, o_10, o_11, o_12, o_13, o_14, o_15, o_16, o_17, t7, t10, hrow, h4, h4', hl4, hc1]; done))
      try refine ⟨_, by simp [t7, t10, hrow, h4, h4', hl4, hc1]; try rfl, ?_⟩
      refine run_end ?_
      apply hK; clear hK K o_0 o_1 o_2 o_3 o_4 o_5 o_6 o_7 o_8 o_9 o_10 o_11 o_12 o_13 o_14 o_15 o_16 o_17 o_sz; simp only [onNormal, onExit, tput]
      (try refine AWP.ret ?_); (try simp only [onNormal, onExit])
      exact ⟨by simp, ⟨_, rfl, by simp [ares1]⟩, fun k row hk => by cases hk⟩
end Go.Proofs.YtjinjfblilacaaaGreat.Den
