/- Pieces of a body, run with the table of plans; a loop whose number of rounds is not known: facts say which round is the last one. -/
import Derived.Test.YtbllpnjappddeaaGreatKLrA
import Derived.Test.YtbllpnjappddeaaGreatKMkA
set_option linter.unusedVariables false
set_option linter.unusedSimpArgs false
section
set_option linter.unusedSimpArgs false
namespace Go.Proofs.YtbllpnjappddeaaGreat.Den
open Go.RowKit
variable {P : Program} {ρ : Vals} {ν : Nat → Option Name}
/-! ### a call, at one state -/
/-- What a call does, of these arguments, in this memory. -/
def SPoint (P : Program) (ρ : Vals) (f : FuncId) (args : List SV) (h : Mem) (r : SV) (h' : Mem) : Prop :=
  isGo P f = true ∧ ∀ (ν : Nat → Option Name) (H : AHeap) (nm : Name) (xs : List AV), MRel ρ ν h H → Fre ν nm → SRels ρ ν args xs → ∃ z H', Sim P f xs nm H z H' ∧ Out ρ ν nm r h' z H'
/-- From the run of its body. -/
theorem point_of {f : FuncId} {fn : Func} {code : Code} {args : List SV} {h h' : Mem} {e : Exit} {T' : Tr SV} {l : List SV} (hgo : isGo P f = true) (hf : P.funcs[f]? = some fn) (hb : fn.body = some code) (ha : args.length ≤ fn.ntmps) (hn : fn.ntmps < 1000000)
    (hx : XGoes (Code.wp P code) ρ fn.ntmps (sargs 0 args .nil) h [] e T' h' []) (he : e = .normal ∨ e = .ret) (hr : sres P T' h' fn.results.toList = some l) : SPoint P ρ f args h (sres1 l) h' := by
  refine ⟨hgo, fun ν H nm xs hm hfre hargs => ?_⟩
  have hfr0 : FreFrom ν nm 0 := fun i _ m s hs => hfre m (s ++ [i]) (by simpa using hs)
  obtain ⟨ν', s', g1, g2, g3⟩ := hx nm ν ⟨0, T0 xs, H, []⟩ ⟨sargs_T0 hargs (by omega), hm, hfr0, .nil⟩
  obtain ⟨ys, h1, h2⟩ := sres_ok g2.tr g2.mem.rows _ _ hr
  refine ⟨ares1 ys, s'.H, ?_, ν', g1.nu, g1.new, g2.mem, sres1_rel h2⟩
  intro σ I w vs hfr hv har
  refine calls_of_wp hf hb (g3 σ I _ w _ (start_st (by rw [← hargs.length]; exact ha) hfr hv har) ?_)
  intro σ' I' a' w' hst st'
  have hds : a'.defers = [] := (g2.late.nil_inv ▸ st'.late).nil_inv
  obtain ⟨v, h4, h5⟩ := results_run st'.st.tr st'.st.rel h1
  rcases he with rfl | rfl
  · exact ⟨hds, v, h4, v, σ', I', rfl, hst, h5⟩
  · exact ⟨hds, v, h4, v, σ', I', rfl, hst, h5⟩
end Go.Proofs.YtbllpnjappddeaaGreat.Den
end
section
set_option linter.unusedSimpArgs false
set_option linter.unusedVariables false
namespace Go.Proofs.YtbllpnjappddeaaGreat.Den
open Go.RowKit
variable {P : Program} {ρ : Vals}
/-- A piece that ends in one state alone, shown over the abstract memory. -/
theorem XGoes.of_awp {n : Nat} {code : Code} {T T' : Tr SV} {h h' : Mem} {D : SLate} {e : Exit}
    (hx : ∀ (p : Name) (ν : Nat → Option Name) (s : AT), SAt ρ p T h D ν s → ∃ ν' c' Ta' H', NStep p ν ν' ∧ TRel ρ ν' T' Ta' ∧ MRel ρ ν' h' H' ∧ FreFrom ν' p c' ∧ AWP P p n code (fun e' c T H => e' = e ∧ c = c' ∧ T = Ta' ∧ H = H') s.c s.T s.H) :
    XGoes (Code.wp P code) ρ n T h D e T' h' D := by
  intro p ν s st
  obtain ⟨ν', c', Ta', H', g1, g2, g3, g4, hA⟩ := hx p ν s st
  refine ⟨ν', ⟨c', Ta', H', s.L⟩, g1, ⟨g2, g3, g4, st.late.mono g1.nu⟩, fun σ I a w Q hst hk => ?_⟩
  refine hA a.defers σ I a w Q hst.st ?_
  rintro e c' T'' H'' σ' I' a' w' ⟨rfl, rfl, rfl, rfl⟩ hst' st'
  have hdef : a'.defers = a.defers := st'.defers
  exact hk σ' I' a' w' hst' ⟨by rw [hdef]; exact st', by rw [hdef]; exact hst.late.mono hst'.sig hst'.imm⟩
/-- A region that has no effect on the memory: what it computes. -/
theorem XGoes.pure_region {n : Nat} {code : Code} {T T' : Tr SV} {h : Mem} {D : SLate} {k : Nat} (f : Temps → Temps)
    (hf : ∀ (ν : Nat → Option Name) (Ta : Temps), TRel ρ ν T Ta → TRel ρ ν T' (f Ta))
    (hA : ∀ (p : Name) (ν : Nat → Option Name) (s : AT), TRel ρ ν T s.T → AWP P p n code (fun e c T H => e = .normal ∧ c = s.c + k ∧ T = f s.T ∧ H = s.H) s.c s.T s.H) :
    XGoes (Code.wp P code) ρ n T h D .normal T' h D := by
  refine XGoes.of_awp fun p ν s st => ⟨ν, s.c + k, f s.T, s.H, .refl p ν, hf ν s.T st.tr, st.mem, fun i hi => st.fre i (by omega), hA p ν s st.tr⟩
/-- What a piece of the executor does, from a state that is written out, to its end. -/
noncomputable def segE (P : Program) (Γ : List Fact) (sc : SCall) (n F : Nat) (c : Code) (s : LS) (f : Exit → Tr SV → Mem → Bool) : Bool :=
  match hrun Γ P sc n F c s.tr s.mem [] with
  | some (x, T', h', []) => f x T' h'
  | _ => false
theorem segE_ok {Γ : List Fact} (hF : FOk ρ Γ) {sc : SCall} (hsc : SCallOK P ρ sc) {n F : Nat} (hn : n < 1000000) {c : Code} {s : LS} {f : Exit → Tr SV → Mem → Bool} (ho : codeOK P n c = true) (h : segE P Γ sc n F c s f = true) :
    ∃ e T' h', f e T' h' = true ∧ XGoes (Code.wp P c) ρ n s.tr s.mem [] e T' h' [] := by
  unfold segE at h
  split at h
  · rename_i x T' h' hg
    rw [hrun_eq Γ P sc n F c ho, grun_eq, frun_eq] at hg
    exact ⟨x, T', h', h, srun_ok hF hsc hn F c _ _ [] x T' h' [] hg⟩
  · cases h
/-- It ended at a return, with this truth. -/
noncomputable def retB (t : Nat) (b : Bool) (e : Exit) (T' : Tr SV) (h' : Mem) : Bool :=
  match e, (T'.get t) with
  | .ret, some (.bool c) => (c && b) || (!c && !b)
  | _, _ => false
theorem retB_ok {t : Nat} {b : Bool} {e : Exit} {T' : Tr SV} {h' : Mem} (h : retB t b e T' h' = true) : e = .ret ∧ T'.get t = some (.bool b) := by
  unfold retB at h
  split at h
  · rename_i c hc
    refine ⟨rfl, ?_⟩
    rw [hc]
    cases c <;> cases b <;> first | rfl | cases h
  · cases h
/-- A function of one truth, from the runs of its pieces. -/
theorem sim_of_x {f : FuncId} {fn : Func} {code : Code} {t : Nat} {b : Bool} {args : List SV} {xs : List AV} {h' : Mem} {T' : Tr SV} (hgo : isGo P f = true) (hf : P.funcs[f]? = some fn) (hb : fn.body = some code) (ha : args.length ≤ fn.ntmps) (hn : fn.ntmps < 1000000)
    (hres : fn.results.toList = [.tmp t]) (hargs : SRels ρ (fun _ => none) args xs)
    (hx : XGoes (Code.wp P code) ρ fn.ntmps (sargs 0 args .nil) ⟨0, .nil⟩ [] .ret T' h' []) (ht : T'.get t = some (.bool b)) : ∃ H', Sim P f xs [] (fun _ => none) (.val (.bool b)) H' := by
  have hr : sres P T' h' fn.results.toList = some [.bool b] := by
    rw [hres]
    simp only [sres, ht, Option.getD_some, Option.map_some, Option.bind_some]
  obtain ⟨_, g⟩ := point_of (ρ := ρ) hgo hf hb ha hn hx (.inr rfl) hr
  obtain ⟨z, H', k1, ν', k2, k3, k4, k5⟩ := g (fun _ => none) (fun _ => none) [] xs ⟨fun n row hn => (by rw [show (⟨0, .nil⟩ : Mem).get n = none from nil_get n] at hn; cases hn), fun n k m hn => (by cases hn), fun n hn => absurd rfl hn⟩ (fun n s hn => (by cases hn)) hargs
  simp only [sres1] at k5
  cases k5
  exact ⟨H', k1⟩
/-! ### pieces of code, one behind the other -/
def seqs : List Code → Code → Code
  | [], c => c
  | x :: l, c => .seq x (seqs l c)
noncomputable def runL (Γ : List Fact) (P : Program) (sc : SCall) (n F : Nat) : List Code → Tr SV → Mem → (Tr SV → Mem → Bool) → Bool
  | [], T, h, k => k T h
  | x :: l, T, h, k =>
    match hrun Γ P sc n F x T h [] with
    | some (.normal, T', h', []) => runL Γ P sc n F l T' h' k
    | _ => false
/-- What runs through some pieces, and then ends well, runs. -/
theorem runL_ok {Γ : List Fact} (hF : FOk ρ Γ) {sc : SCall} (hsc : SCallOK P ρ sc) {n F : Nat} (hn : n < 1000000) {rest : Code} {Q : Exit → Tr SV → Mem → Prop} {k : Tr SV → Mem → Bool}
    (hk : ∀ T h, k T h = true → ∃ e T' h', Q e T' h' ∧ XGoes (Code.wp P rest) ρ n T h [] e T' h' []) :
    ∀ (l : List Code) (T : Tr SV) (h : Mem), l.all (codeOK P n) = true → runL Γ P sc n F l T h k = true → ∃ e T' h', Q e T' h' ∧ XGoes (Code.wp P (seqs l rest)) ρ n T h [] e T' h' []
  | [], T, h, _, hr => hk T h hr
  | x :: l, T, h, ho, hr => by
    simp only [List.all_cons, Bool.and_eq_true] at ho
    simp only [runL] at hr
    split at hr
    · rename_i T₁ h₁ hg
      rw [hrun_eq Γ P sc n F x ho.1, grun_eq, frun_eq] at hg
      obtain ⟨e, T', h', hq, hx⟩ := runL_ok hF hsc hn hk l T₁ h₁ ho.2 hr
      exact ⟨e, T', h', hq, XGoes.seq (srun_ok hF hsc hn F x _ _ [] _ _ _ [] hg) hx⟩
    · cases hr
/-- The last piece. -/
noncomputable def runE (Γ : List Fact) (P : Program) (sc : SCall) (n F : Nat) (c : Code) (f : Exit → Tr SV → Mem → Bool) (T : Tr SV) (h : Mem) : Bool :=
  match hrun Γ P sc n F c T h [] with
  | some (x, T', h', []) => f x T' h'
  | _ => false
theorem runE_ok {Γ : List Fact} (hF : FOk ρ Γ) {sc : SCall} (hsc : SCallOK P ρ sc) {n F : Nat} (hn : n < 1000000) {c : Code} {f : Exit → Tr SV → Mem → Bool} {T : Tr SV} {h : Mem} (ho : codeOK P n c = true) (hr : runE Γ P sc n F c f T h = true) :
    ∃ e T' h', f e T' h' = true ∧ XGoes (Code.wp P c) ρ n T h [] e T' h' [] := by
  unfold runE at hr
  split at hr
  · rename_i x T' h' hg
    rw [hrun_eq Γ P sc n F c ho, grun_eq, frun_eq] at hg
    exact ⟨x, T', h', hr, srun_ok hF hsc hn F c _ _ [] x T' h' [] hg⟩
  · cases hr
end Go.Proofs.YtbllpnjappddeaaGreat.Den
end
section
set_option linter.unusedSimpArgs false
set_option linter.unusedVariables false
namespace Go.Proofs.YtbllpnjappddeaaGreat.Den
open Go.RowKit
variable {P : Program} {ρ : Vals}
def headC : Nat → Code → List Code
  | k + 1, .seq x y => x :: headC k y
  | _, _ => []
def tailC : Nat → Code → Code
  | k + 1, .seq x y => tailC k y
  | _, c => c
theorem head_tail : ∀ (k : Nat) (c : Code), seqs (headC k c) (tailC k c) = c
  | 0, c => by cases c <;> rfl
  | k + 1, c => by
    cases c with
    | seq x y => show Code.seq x (seqs (headC k y) (tailC k y)) = _; rw [head_tail k y]
    | _ => rfl
/-- Plans and code are as they should be. -/
def PcOK (pt : PlanT) (P : Program) (n : Nat) (c : Code) : Prop := PtOK pt c ∧ codeOK P n c = true
theorem PcOK.seq1 {pt : PlanT} {n : Nat} {x y : Code} (h : PcOK pt P n (.seq x y)) : PcOK pt P n x := ⟨h.1.1, by have := h.2; simp only [codeOK, Bool.and_eq_true] at this; exact this.1⟩
theorem PcOK.seq2 {pt : PlanT} {n : Nat} {x y : Code} (h : PcOK pt P n (.seq x y)) : PcOK pt P n y := ⟨h.1.2, by have := h.2; simp only [codeOK, Bool.and_eq_true] at this; exact this.2⟩
theorem PcOK.head {pt : PlanT} {n : Nat} : ∀ {k : Nat} {c : Code}, PcOK pt P n c → ∀ x ∈ headC k c, PcOK pt P n x
  | 0, c, _, x, hx => by cases c <;> cases hx
  | k + 1, c, h, x, hx => by
    cases c with
    | seq a b =>
      rcases List.mem_cons.1 hx with e | hx
      · rw [e]; exact h.seq1
      · exact PcOK.head h.seq2 x hx
    | _ => cases hx
theorem PcOK.tail {pt : PlanT} {n : Nat} : ∀ {k : Nat} {c : Code}, PcOK pt P n c → PcOK pt P n (tailC k c)
  | 0, c, h => by cases c <;> exact h
  | k + 1, c, h => by
    cases c with
    | seq a b => exact PcOK.tail (k := k) h.seq2
    | _ => exact h
theorem prun_go {pt : PlanT} {Γ : List Fact} (hF : FOk ρ Γ) {sc : SCall} (hsc : SCallOK P ρ sc) {n F : Nat} (hn : n < 1000000) {c : Code} (ho : PcOK pt P n c) {T T' : Tr SV} {h h' : Mem} {e : Exit} (hr : prun pt Γ P sc n F c T h [] = some (e, T', h', [])) : XGoes (Code.wp P c) ρ n T h [] e T' h' [] := by
  rw [prun_eq pt Γ P sc n F c ho.1, hrun_eq Γ P sc n F c ho.2, grun_eq, frun_eq] at hr
  exact srun_ok hF hsc hn F c _ _ [] e T' h' [] hr
noncomputable def prunL (pt : PlanT) (Γ : List Fact) (P : Program) (sc : SCall) (n F : Nat) : List Code → Tr SV → Mem → (Tr SV → Mem → Bool) → Bool
  | [], T, h, k => k T h
  | x :: l, T, h, k =>
    match prun pt Γ P sc n F x T h [] with
    | some (.normal, T', h', []) => prunL pt Γ P sc n F l T' h' k
    | _ => false
theorem prunL_ok {pt : PlanT} {Γ : List Fact} (hF : FOk ρ Γ) {sc : SCall} (hsc : SCallOK P ρ sc) {n F : Nat} (hn : n < 1000000) {rest : Code} {Q : Exit → Tr SV → Mem → Prop} {k : Tr SV → Mem → Bool}
    (hk : ∀ T h, k T h = true → ∃ e T' h', Q e T' h' ∧ XGoes (Code.wp P rest) ρ n T h [] e T' h' []) :
    ∀ (l : List Code) (T : Tr SV) (h : Mem), (∀ x ∈ l, PcOK pt P n x) → prunL pt Γ P sc n F l T h k = true → ∃ e T' h', Q e T' h' ∧ XGoes (Code.wp P (seqs l rest)) ρ n T h [] e T' h' []
  | [], T, h, _, hr => hk T h hr
  | x :: l, T, h, ho, hr => by
    simp only [prunL] at hr
    split at hr
    · rename_i T₁ h₁ hg
      obtain ⟨e, T', h', hq, hx⟩ := prunL_ok hF hsc hn hk l T₁ h₁ (fun y hy => ho y (List.mem_cons_of_mem _ hy)) hr
      exact ⟨e, T', h', hq, XGoes.seq (prun_go hF hsc hn (ho x (by simp)) hg) hx⟩
    · cases hr
noncomputable def prunE (pt : PlanT) (Γ : List Fact) (P : Program) (sc : SCall) (n F : Nat) (c : Code) (f : Exit → Tr SV → Mem → Bool) (T : Tr SV) (h : Mem) : Bool :=
  match prun pt Γ P sc n F c T h [] with
  | some (x, T', h', []) => f x T' h'
  | _ => false
theorem prunE_ok {pt : PlanT} {Γ : List Fact} (hF : FOk ρ Γ) {sc : SCall} (hsc : SCallOK P ρ sc) {n F : Nat} (hn : n < 1000000) {c : Code} {f : Exit → Tr SV → Mem → Bool} {T : Tr SV} {h : Mem} (ho : PcOK pt P n c) (hr : prunE pt Γ P sc n F c f T h = true) :
    ∃ e T' h', f e T' h' = true ∧ XGoes (Code.wp P c) ρ n T h [] e T' h' [] := by
  unfold prunE at hr
  split at hr
  · rename_i x T' h' hg
    exact ⟨x, T', h', hr, prun_go hF hsc hn ho hg⟩
  · cases hr
/-! ### rounds -/
theorem XGoes.round {x : Code} {n m : Nat} {T T₁ T' : Tr SV} {h h₁ h' : Mem} {e : Exit} (hx : XGoes (Code.wp P x) ρ n T h [] .normal T₁ h₁ []) (hy : XGoes (fun Q => Code.rounds P x Q m) ρ n T₁ h₁ [] e T' h' []) : XGoes (fun Q => Code.rounds P x Q (m + 1)) ρ n T h [] e T' h' [] :=
  hx.then hy fun Q a w h => by
    rw [rounds_succ]
    exact wp_mono h (by rintro _ a w ⟨rfl, h⟩; exact h)
theorem XGoes.round_out {x : Code} {n m : Nat} {T T' : Tr SV} {h h' : Mem} {e : Exit} (he : e ≠ .normal) (hx : XGoes (Code.wp P x) ρ n T h [] e T' h' []) : XGoes (fun Q => Code.rounds P x Q (m + 1)) ρ n T h [] e T' h' [] :=
  hx.as fun Q a w h => by
    rw [rounds_succ]
    exact wp_mono h (by
      rintro e₁ a w ⟨rfl, h0⟩
      cases e₁ <;> first | exact absurd rfl he | exact h0)
theorem XGoes.loop {x : Code} {n m : Nat} {T T' : Tr SV} {h h' : Mem} {e : Exit} (hx : XGoes (fun Q => Code.rounds P x Q m) ρ n T h [] e T' h' []) : XGoes (Code.wp P (.loop x)) ρ n T h [] e T' h' [] :=
  hx.up fun Q a w h => wp_loop_rounds m h
/-- The rounds of block 0's loop: var 5 says how many there are. -/
def inF (k : Nat) : List Fact := [⟨.lss, .lit (.ofNat k), .var 5, true⟩]
def outF (k : Nat) : List Fact := [⟨.lss, .lit (.ofNat k), .var 5, false⟩]
noncomputable def unRnds (pt : PlanT) (P : Program) (sc : SCall) (n F : Nat) (X : Code) (fin : Tr SV → Mem → Bool) : Nat → Nat → Tr SV → Mem → Bool
  | 0, _, _, _ => true
  | f + 1, k, T, h =>
    (match prun pt (outF k) P sc n F X T h [] with
    | some (.exit i, T', h', []) => Nat.beq i 0 && fin T' h'
    | _ => false) &&
    (bif Nat.beq f 0 then true else match prun pt (inF k) P sc n F X T h [] with
    | some (.normal, T', h', []) => unRnds pt P sc n F X fin f (Nat.add k 1) T' h'
    | _ => false)
theorem inF_ok {k m : Nat} (h : k < m) (hm : ρ.i 5 = m) : FOk ρ (inF k) := by
  intro x hx
  simp only [inF, List.mem_singleton] at hx
  subst hx
  simp only [IE.den, cmpI, hm]
  have : decide ((Int.ofNat k) < (m : Int)) = true := decide_eq_true (by show (k : Int) < m; omega)
  rw [this]
theorem outF_ok {m : Nat} (hm : ρ.i 5 = m) : FOk ρ (outF m) := by
  intro x hx
  simp only [outF, List.mem_singleton] at hx
  subst hx
  simp only [IE.den, cmpI, hm]
  have : decide ((Int.ofNat m) < (m : Int)) = false := decide_eq_false (by show ¬ (m : Int) < m; omega)
  rw [this]
theorem unRnds_ok {pt : PlanT} {sc : SCall} (hsc : SCallOK P ρ sc) {n F : Nat} (hn : n < 1000000) {X : Code} (ho : PcOK pt P n X) {fin : Tr SV → Mem → Bool} {m : Nat} (hm : ρ.i 5 = m) :
    ∀ (f k : Nat) (T : Tr SV) (h : Mem), unRnds pt P sc n F X fin f k T h = true → k ≤ m → m < k + f → ∃ r T' h', fin T' h' = true ∧ XGoes (fun Q => Code.rounds P X Q r) ρ n T h [] (.exit 0) T' h' []
  | 0, k, T, h, _, h1, h2 => by omega
  | f + 1, k, T, h, hr, h1, h2 => by
    simp only [unRnds, Bool.and_eq_true] at hr
    obtain ⟨ha, hb⟩ := hr
    rcases Nat.lt_or_ge k m with hlt | hge
    · have hf : Nat.beq f 0 = false := by
        cases f with
        | zero => omega
        | succ f => rfl
      rw [hf] at hb
      simp only [cond_false] at hb
      split at hb
      · rename_i T₁ h₁ hg
        obtain ⟨r, T', h', g1, g2⟩ := unRnds_ok hsc hn ho hm f (k + 1) T₁ h₁ hb (by omega) (by omega)
        exact ⟨r + 1, T', h', g1, XGoes.round (prun_go (inF_ok hlt hm) hsc hn ho hg) g2⟩
      · cases hb
    · obtain rfl : k = m := by omega
      split at ha
      · rename_i i T₁ h₁ hg
        simp only [Bool.and_eq_true] at ha
        obtain ⟨a1, a2⟩ := ha
        have a1 := Nat.eq_of_beq_eq_true a1
        subst a1
        exact ⟨1, T₁, h₁, a2, XGoes.round_out (by simp) (prun_go (outF_ok hm) hsc hn ho hg)⟩
      · cases ha
end Go.Proofs.YtbllpnjappddeaaGreat.Den
end
