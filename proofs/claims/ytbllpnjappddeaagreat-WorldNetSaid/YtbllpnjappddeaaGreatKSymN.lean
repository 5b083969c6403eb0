/- A symbolic executor: its runs of code are runs of the model. -/
import Derived.Test.YtbllpnjappddeaaGreatKSymF
import Derived.LoopN
import Derived.Defers
import Derived.Test.YtbllpnjappddeaaGreatKCdA
set_option linter.unusedVariables false
set_option linter.unusedSimpArgs false
section
set_option linter.unusedSimpArgs false
namespace Go.Proofs.YtbllpnjappddeaaGreat.Den
variable {P : Program} {ρ : Vals}
/-! ### what is put off -/
structure ALate where
 fn : Fn
 a : List AV
 b : List AV
 args : List AV
inductive LRel (ρ : Vals) (ν : Nat -> Option Name) : SLate -> List ALate -> Prop
 | nil : LRel ρ ν [] []
 | cons {fn : Fn} {a b args : List SV} {a' b' args' : List AV} {D : SLate} {L : List ALate} (h1 : SRels ρ ν a a') (h2 : SRels ρ ν b b') (h3 : SRels ρ ν args args') (t : LRel ρ ν D L) : LRel ρ ν ((.fn fn a b, args) :: D) (⟨fn, a', b', args'⟩ :: L)
inductive DRel (σ : Sig) (I : Imm) : List ALate -> List Deferred -> Prop
 | nil : DRel σ I [] []
 | cons {fn : Fn} {a b args : List AV} {va vb vs : Array Value} {L : List ALate} {ds : List Deferred} (g1 : VRels σ I a va.toList) (g2 : VRels σ I b vb.toList) (g3 : VRels σ I args vs.toList) (t : DRel σ I L ds) : DRel σ I (⟨fn, a, b, args⟩ :: L) (⟨.fn fn vb, va ++ vs⟩ :: ds)
theorem LRel.mono {ν ν' : Nat -> Option Name} (hn : Nu.le ν ν') {D : SLate} {L : List ALate} (h : LRel ρ ν D L) : LRel ρ ν' D L := by
 induction h with
 | nil => exact .nil
 | cons h1 h2 h3 _ ih => exact .cons (h1.mono hn) (h2.mono hn) (h3.mono hn) ih
theorem DRel.mono {σ σ' : Sig} {I I' : Imm} (hs : σ.le σ') (hi : I.le I') {L : List ALate} {ds : List Deferred} (h : DRel σ I L ds) : DRel σ' I' L ds := by
 induction h with
 | nil => exact .nil
 | cons g1 g2 g3 _ ih => exact .cons (g1.mono hs hi) (g2.mono hs hi) (g3.mono hs hi) ih
/-! ### where a run stands -/
structure AT where
 c : Nat
 T : Temps
 H : AHeap
 L : List ALate
/-- The model stands here. -/
structure StD (p : Name) (n : Nat) (s : AT) (σ : Sig) (I : Imm) (a : Act) (w : World) : Prop where
 st : St a.defers p s.c n σ I s.T s.H a w
 late : DRel σ I s.L a.defers
/-- The executor stands here. -/
structure SAt (ρ : Vals) (p : Name) (T : Tr SV) (h : Mem) (D : SLate) (ν : Nat -> Option Name) (s : AT) : Prop where
 tr : TRel ρ ν T s.T
 mem : MRel ρ ν h s.H
 fre : FreFrom ν p s.c
 late : LRel ρ ν D s.L
structure NStep (p : Name) (ν ν' : Nat -> Option Name) : Prop where
 nu : Nu.le ν ν'
 new : ∀ n m, ν' n = some m -> ν n = some m \/ Under p m
theorem NStep.refl (p : Name) (ν : Nat -> Option Name) : NStep p ν ν := ⟨fun _ _ h => h, fun _ _ h => .inl h⟩
theorem NStep.trans {p : Name} {ν ν₁ ν₂ : Nat -> Option Name} (h : NStep p ν ν₁) (k : NStep p ν₁ ν₂) : NStep p ν ν₂ := ⟨fun n m e => k.nu n m (h.nu n m e), fun n m e => (k.new n m e).elim (h.new n m) .inr⟩
/-- What ends at e, from one state in another one: said of whatever is shown by a postcondition. -/
def AGo (W : (Exit -> Act -> World -> Prop) -> Act -> World -> Prop) (p : Name) (n : Nat) (e : Exit) (s s' : AT) : Prop :=
 ∀ (σ : Sig) (I : Imm) (a : Act) (w : World) (Q : Exit -> Act -> World -> Prop), StD p n s σ I a w ->
  (∀ σ' I' a' w', Step (Under p) σ I s.H w σ' I' s'.H w' -> StD p n s' σ' I' a' w' -> Q e a' w') -> W Q a w
/-- A run of the executor is a run of the model. -/
def XGoes (W : (Exit -> Act -> World -> Prop) -> Act -> World -> Prop) (ρ : Vals) (n : Nat) (T : Tr SV) (h : Mem) (D : SLate) (e : Exit) (T' : Tr SV) (h' : Mem) (D' : SLate) : Prop :=
 ∀ (p : Name) (ν : Nat -> Option Name) (s : AT), SAt ρ p T h D ν s -> ∃ ν' s', NStep p ν ν' /\ SAt ρ p T' h' D' ν' s' /\ AGo W p n e s s'
/-! ### regions in order -/
theorem sregion_defer {Γ : List Fact} {sc : SCall} {ops : Array Oper} {o : Oper} {r : List Oper} {T : Tr SV} {h : Mem} {D : SLate} {c : Call} (ho : o.op = .defer c) : sregion Γ P sc ops (o :: r) T h D =
  (match c.callee, o.guard, o.dst with
   | .value f, none, none =>
    match senv T f with
    | .fn fn a b => sregion Γ P sc ops r T h ((.fn fn a b, c.args.toList.map (senv T)) :: D)
    | _ => none
   | _, _, _ => none) := by
 obtain ⟨dst, op, ty, pos, after, guard⟩ := o
 simp only at ho
 subst ho
 rfl
theorem sargs_rel {ν : Nat -> Option Name} {T : Tr SV} {Ta : Temps} (ht : TRel ρ ν T Ta) : ∀ l : List Operand, SRels ρ ν (l.map (senv T)) (l.map (env Ta))
 | [] => .nil
 | x :: l => .cons (ht.env x) (sargs_rel ht l)
theorem aargs_rel {σ : Sig} {I : Imm} {Ta : Temps} {a : Act} (hv : ∀ i, VRel σ I (Ta i) (a.tmps.getD i undef)) : ∀ l : List Operand, VRels σ I (l.map (env Ta)) (l.map a.eval)
 | [] => .nil
 | x :: l => .cons (env_rel hv x) (aargs_rel hv l)
theorem sregion_go {Γ : List Fact} (hF : FOk ρ Γ) {sc : SCall} (hsc : SCallOK P ρ sc) {ops : Array Oper} {n : Nat} (hd : dstOk n ops = true) (hn : n < 1000000) {p : Name} {c : Nat} {T' : Tr SV} {h' : Mem} {D' : SLate} : ∀ (l : List Oper) (k : Nat) (ν : Nat -> Option Name) (T : Tr SV) (h : Mem) (D : SLate) (s : AT),
  ops.toList.drop k = l -> s.c = c + k -> SAt ρ p T h D ν s -> sregion Γ P sc ops l T h D = some (T', h', D') ->
  ∃ ν' s', NStep p ν ν' /\ SAt ρ p T' h' D' ν' s' /\ AGo (fun Q => wpOps P ops Q (List.range' k l.length)) p n .normal s s' := by
 intro l
 induction l with
 | nil =>
  intro k ν T h D s _ hc st hr
  simp only [sregion, Option.some.injEq, Prod.mk.injEq] at hr
  obtain ⟨rfl, rfl, rfl⟩ := hr
  exact ⟨ν, s, .refl p ν, st, fun σ I a w Q hst hk => hk σ I a w (Step.refl _ hst.st.rel) hst⟩
 | cons o l ih =>
  intro k ν T h D s hl hc st hr
  have ho : ops[k]? = some o := by
   have : (ops.toList.drop k)[0]? = some o := by rw [hl]; rfl
   simpa using this
  have hl' : ops.toList.drop (k + 1) = l := by rw [<- List.drop_drop, hl]; rfl
  have hdn := dstOk_at hd ho
  have hdo : ∀ d, o.dst = some d -> d < 1000000 := fun d hd' => Nat.lt_trans (hdn d hd') hn
  obtain ⟨ht, hm, hf, hlate⟩ := st
  obtain ⟨sc', Ta, H, L⟩ := s
  simp only at ht hm hf hlate hc
  subst hc
  rw [List.length_cons, List.range'_succ]
  by_cases hdf : ∃ cl, o.op = .defer cl
  ·obtain ⟨cl, hop⟩ := hdf
   rw [sregion_defer hop] at hr
   split at hr
   ·rename_i f hcal hg hdst
    split at hr
    ·rename_i fn a' b' hq
     have e1 := ht.env f
     have e3 := sargs_rel ht cl.args.toList
     rw [hq] at e1
     generalize hx : env Ta f = x at e1
     cases e1 with
     | @fn _ _ _ a'' b'' i1 i2 =>
      obtain ⟨ν', s', g1, g2, g3⟩ := ih (k + 1) ν T h _ ⟨c + k + 1, Ta, H, ⟨fn, a'', b'', cl.args.toList.map (env Ta)⟩ :: L⟩ hl' rfl ⟨ht, hm, fun i hi => hf i (by simp only at hi; omega), .cons i1 i2 e3 hlate⟩ hr
      refine ⟨ν', s', g1, g2, fun σ I a w Q hst hk => ?_⟩
      obtain ⟨hs, hlt⟩ := hst
      simp only at hs hlt
      simp only [wpOps, ho]
      rw [wanted_rel hs.tr hs.size hd o]
      have hw : awanted ops o Ta = true := by unfold awanted; rw [hg]
      rw [if_pos hw]
      refine .inl ?_
      have e2 := env_rel hs.tr f
      have e4 := aargs_rel hs.tr cl.args.toList
      rw [hx] at e2
      generalize hev : a.eval f = v at e2
      cases e2 with
      | @fn _ _ _ va vb j1 j2 =>
       have hex : (execOp a.eval o).run P w = .ok (.defer ⟨.fn fn vb, va ++ cl.args.map a.eval⟩) w := by
        simp [execOp, hop, resolve, hcal, hev, Deferred.ofValue]
       unfold Oper.wp
       rw [hex]
       simp only [Oper.upon, hdst, Act.put]
       exact g3 σ I _ w Q ⟨⟨hs.tr, hs.size, rfl, hs.rel, hs.fresh.mono (by simp only; omega)⟩, .cons j1 j2 (by simpa using e4) hlt⟩ hk
    ·cases hr
   ·cases hr
  ·have hnd : isDefer o = false := by
    unfold isDefer
    split
    ·rename_i cl hop; exact absurd ⟨cl, hop⟩ hdf
    ·rfl
   rw [sregion_cons hnd] at hr
   split at hr
   ·rename_i hw
    have hw' := swanted_ok ht hw
    split at hr
    ·rename_i v h₁ hop
     obtain ⟨tb, htb, z, H₁, ha, ν₁, n1, n2, n3, n4⟩ := sop_ok hF hsc ht.env hm (hf (c + k) (Nat.le_refl _)) hop
     have hcall : CallOK P (callAt ((c + k) :: p) tb) := by
      intro f a n H r H' hc
      unfold callAt at hc
      split at hc
      ·rename_i e; subst e; exact htb _ _ _ _ _ hc
      ·cases hc
     obtain ⟨ν', s', g1, g2, g3⟩ := ih (k + 1) ν₁ _ h₁ D ⟨c + k + 1, _, H₁, L⟩ hl' rfl ⟨(ht.mono n1).put hdo n4, n3, hf.after n2, hlate.mono n1⟩ hr
     refine ⟨ν', s', NStep.trans ⟨n1, fun n m h => (n2 n m h).imp id under_cons⟩ g1, g2, fun σ I a w Q hst hk => ?_⟩
     obtain ⟨hs, hlt⟩ := hst
     simp only at hs hlt
     simp only [wpOps, ho]
     rw [wanted_rel hs.tr hs.size hd o, if_pos hw']
     refine .inl (aop_wp hcall hs.tr hs.rel (hs.fresh.here _ (Nat.le_refl _)) ha ?_)
     intro vv w₁ σ₁ I₁ hs₁ hv
     obtain ⟨h1, h2, h3⟩ := put_rel (fun i => (hs.tr i).mono hs₁.sig hs₁.imm) hs.size hdn hv
     refine g3 σ₁ I₁ _ w₁ Q ⟨⟨h1, h2, rfl, hs₁.rel, hs.fresh.step hs₁⟩, by rw [h3]; exact hlt.mono hs₁.sig hs₁.imm⟩ ?_
     intro σ' I' a' w' hst' st'
     exact hk σ' I' a' w' ((hs₁.weaken fun _ => under_cons).trans hst') st'
    ·cases hr
   ·rename_i hw
    have hw' := swanted_ok ht hw
    obtain ⟨ν', s', g1, g2, g3⟩ := ih (k + 1) ν _ h D ⟨c + k + 1, _, H, L⟩ hl' rfl ⟨ht.put hdo (.val undef), hm, fun i hi => hf i (by simp only at hi; omega), hlate⟩ hr
    refine ⟨ν', s', g1, g2, fun σ I a w Q hst hk => ?_⟩
    obtain ⟨hs, hlt⟩ := hst
    simp only at hs hlt
    simp only [wpOps, ho]
    rw [wanted_rel hs.tr hs.size hd o, if_neg (by rw [hw']; simp)]
    obtain ⟨h1, h2, h3⟩ := put_rel (d := o.dst) hs.tr hs.size hdn (VRel.val undef)
    exact g3 σ I _ w Q ⟨⟨h1, h2, rfl, hs.rel, hs.fresh.mono (by simp only; omega)⟩, by rw [h3]; exact hlt⟩ hk
   ·cases hr
/-! ### code -/
section
variable {Γ : List Fact} {sc : SCall} {n : Nat}
/-- As often as it is jumped to. -/
def Code.passes (P : Program) (rest : Code) (l : Nat) (Q : Exit -> Act -> World -> Prop) : Nat -> Act -> World -> Prop
 | 0, _, _ => False
 | m + 1, a, w => rest.wp P (Exit.jump l (Code.passes P rest l Q m) Q) a w
theorem wp_scope_passes {x rest : Code} {l : Nat} {Q : Exit -> Act -> World -> Prop} {a : Act} {w : World} (m : Nat) (hf : findLabel x l = some rest) (h : x.wp P (Exit.jump l (Code.passes P rest l Q m) Q) a w) : (Code.scope x).wp P Q a w := by
 refine wp_scope_jumps l (fun a w => ∃ m, Code.passes P rest l Q m a w) (fun a w => leastOf fun m => Code.passes P rest l Q m a w) hf ?_ ?_
 ·refine wp_mono h ?_
  intro e a' w' hq
  cases e with
  | goto l' => exact ⟨hq.1, m, hq.2⟩
  | _ => exact hq
 ·intro a₁ w₁ hJ
  obtain ⟨hR, _⟩ := leastOf_spec hJ
  generalize (leastOf fun m => Code.passes P rest l Q m a₁ w₁) = m at *
  cases m with
  | zero => exact hR.elim
  | succ m =>
   refine wp_mono hR ?_
   intro e a' w' hq
   cases e with
   | goto l' => exact ⟨hq.1, ⟨m, hq.2⟩, Nat.lt_succ_of_le ((leastOf_spec ⟨m, hq.2⟩).2 m hq.2)⟩
   | _ => exact hq
theorem XGoes.here {W : (Exit -> Act -> World -> Prop) -> Act -> World -> Prop} {e : Exit} {T : Tr SV} {h : Mem} {D : SLate} (hw : ∀ (Q : Exit -> Act -> World -> Prop) (a : Act) (w : World), Q e a w -> W Q a w) : XGoes W ρ n T h D e T h D :=
 fun p ν s st => ⟨ν, s, .refl p ν, st, fun σ I a w Q hst k => hw Q a w (k σ I a w (Step.refl _ hst.st.rel) hst)⟩
theorem XGoes.region (hF : FOk ρ Γ) (hsc : SCallOK P ρ sc) (hn : n < 1000000) {id : Nat} {ops : Array Oper} (hd : dstOk n ops = true) {T T' : Tr SV} {h h' : Mem} {D D' : SLate} (hr : sregion Γ P sc ops ops.toList T h D = some (T', h', D')) :
  XGoes (Code.wp P (.region id ops false)) ρ n T h D .normal T' h' D' := by
 intro p ν s st
 obtain ⟨ν', s', g1, g2, g3⟩ := sregion_go hF hsc hd hn (p := p) (c := s.c) ops.toList 0 ν T h D s (by simp) (by simp) st hr
 refine ⟨ν', s', g1, g2, fun σ I a w Q hst hk => wp_region ?_⟩
 have := g3 σ I a w Q hst hk
 rw [Array.length_toList] at this
 rw [List.range_eq_range']
 exact this
theorem XGoes.draw (hF : FOk ρ Γ) (hsc : SCallOK P ρ sc) (hn : n < 1000000) (hm : P.follows .mixedOrders = true) {id : Nat} {ops : Array Oper} (hd : dstOk n ops = true) {ms : List Nat} {pl : List Item} (hp : planOK ops ms pl = true) {T T' : Tr SV} {h h' : Mem} {D : SLate}
  (hr : sdraw Γ P sc ops 0 pl T [(0, h)] h = some (T', h')) : XGoes (Code.wp P (.region id ops true)) ρ n T h D .normal T' h' D := by
 intro p ν s st
 obtain ⟨ht, hmm, hf, hlate⟩ := st
 obtain ⟨call, Ta', H', ν', g1, g2, g3, g4, g5, g6, g7⟩ := sdraw_region hF hsc hd hn hp ht hmm hf hr
 have hA : AWP P p n (.region id ops true) (fun e c' T'' H'' => e = .normal /\ c' = s.c + ops.size /\ T'' = Ta' /\ H'' = H') s.c s.T s.H :=
  AWP.draw_last hm g1 ms pl hd hp fun K hK => g2 K (hK _ _ _ ⟨rfl, rfl, rfl, rfl⟩)
 refine ⟨ν', ⟨s.c + ops.size, Ta', H', s.L⟩, ⟨g3, g5⟩, ⟨g7, g6, g4, hlate.mono g3⟩, fun σ I a w Q hst hk => ?_⟩
 refine hA a.defers σ I a w Q hst.st ?_
 rintro e c' T'' H'' σ' I' a' w' ⟨rfl, rfl, rfl, rfl⟩ hst' st'
 have hdef : a'.defers = a.defers := st'.defers
 exact hk σ' I' a' w' hst' ⟨by rw [hdef]; exact st', by rw [hdef]; exact hst.late.mono hst'.sig hst'.imm⟩
/-- One behind the other. -/
theorem XGoes.then {V W U : (Exit -> Act -> World -> Prop) -> Act -> World -> Prop} {T T₁ T' : Tr SV} {h h₁ h' : Mem} {D D₁ D' : SLate} {e₁ e : Exit} (hx : XGoes V ρ n T h D e₁ T₁ h₁ D₁) (hy : XGoes W ρ n T₁ h₁ D₁ e T' h' D')
  (hu : ∀ Q a w, V (fun e' a' w' => e' = e₁ /\ W Q a' w') a w -> U Q a w) : XGoes U ρ n T h D e T' h' D' := by
 intro p ν s st
 obtain ⟨ν₁, s₁, a1, a2, a3⟩ := hx p ν s st
 obtain ⟨ν₂, s₂, b1, b2, b3⟩ := hy p ν₁ s₁ a2
 refine ⟨ν₂, s₂, a1.trans b1, b2, fun σ I a w Q hst hk => hu Q a w (a3 σ I a w _ hst ?_)⟩
 intro σ' I' a' w' hst' st'
 exact ⟨rfl, b3 σ' I' a' w' Q st' fun σ₂ I₂ a₂ w₂ hst₂ st₂ => hk σ₂ I₂ a₂ w₂ (hst'.trans hst₂) st₂⟩
/-- As it is. -/
theorem XGoes.as {V U : (Exit -> Act -> World -> Prop) -> Act -> World -> Prop} {T T' : Tr SV} {h h' : Mem} {D D' : SLate} {e e' : Exit} (hx : XGoes V ρ n T h D e T' h' D') (hu : ∀ (Q : Exit -> Act -> World -> Prop) a w, V (fun e₁ a' w' => e₁ = e /\ Q e' a' w') a w -> U Q a w) : XGoes U ρ n T h D e' T' h' D' := by
 intro p ν s st
 obtain ⟨ν₁, s₁, a1, a2, a3⟩ := hx p ν s st
 exact ⟨ν₁, s₁, a1, a2, fun σ I a w Q hst hk => hu Q a w (a3 σ I a w _ hst fun σ' I' a' w' hst' st' => ⟨rfl, hk σ' I' a' w' hst' st'⟩)⟩
theorem XGoes.up {V U : (Exit -> Act -> World -> Prop) -> Act -> World -> Prop} {T T' : Tr SV} {h h' : Mem} {D D' : SLate} {e : Exit} (hx : XGoes V ρ n T h D e T' h' D') (hu : ∀ (Q : Exit -> Act -> World -> Prop) a w, V Q a w -> U Q a w) : XGoes U ρ n T h D e T' h' D' := by
 intro p ν s st
 obtain ⟨ν₁, s₁, a1, a2, a3⟩ := hx p ν s st
 exact ⟨ν₁, s₁, a1, a2, fun σ I a w Q hst hk => hu Q a w (a3 σ I a w Q hst hk)⟩
theorem XGoes.seq {x y : Code} {T T₁ T' : Tr SV} {h h₁ h' : Mem} {D D₁ D' : SLate} {e : Exit} (hx : XGoes (Code.wp P x) ρ n T h D .normal T₁ h₁ D₁) (hy : XGoes (Code.wp P y) ρ n T₁ h₁ D₁ e T' h' D') : XGoes (Code.wp P (.seq x y)) ρ n T h D e T' h' D' :=
 hx.then hy fun Q a w h => wp_seq (wp_mono h (by rintro _ a w ⟨rfl, h⟩; exact h))
theorem XGoes.seq_out {x y : Code} {T T' : Tr SV} {h h' : Mem} {D D' : SLate} {e : Exit} (he : e ≠ .normal) (hx : XGoes (Code.wp P x) ρ n T h D e T' h' D') : XGoes (Code.wp P (.seq x y)) ρ n T h D e T' h' D' :=
 hx.as fun Q a w h => wp_seq (wp_mono h (by
  rintro e₁ a w ⟨rfl, h⟩
  cases e₁ <;> first | exact absurd rfl he | exact h))
theorem XGoes.cond {x : Operand} {y z : Code} {b : Bool} {T T' : Tr SV} {h h' : Mem} {D D' : SLate} {e : Exit} (hx : senv T x = .bool b) (hy : XGoes (Code.wp P (if b then y else z)) ρ n T h D e T' h' D') : XGoes (Code.wp P (.cond x y z)) ρ n T h D e T' h' D' := by
 intro p ν s st
 have e1 := st.tr.env x
 rw [hx] at e1
 generalize hv : env s.T x = v at e1
 cases e1
 obtain ⟨ν₁, s₁, a1, a2, a3⟩ := hy p ν s st
 refine ⟨ν₁, s₁, a1, a2, fun σ I a w Q hst hk => ?_⟩
 have e2 := env_rel hst.st.tr x
 rw [hv] at e2
 have hev : a.eval x = .bool b := by
  generalize a.eval x = v at e2
  cases e2; rfl
 exact wp_cond hev (a3 σ I a w Q hst hk)
def inB (id : Nat) : Exit -> Exit
 | .exit id' => if id' = id then .normal else .exit id'
 | e => e
theorem XGoes.block {id : Nat} {x : Code} {T T' : Tr SV} {h h' : Mem} {D D' : SLate} {e e' : Exit} (hx : XGoes (Code.wp P x) ρ n T h D e T' h' D') (he : e' = inB id e) : XGoes (Code.wp P (.block id x)) ρ n T h D e' T' h' D' :=
 hx.as fun Q a w hw => wp_block (wp_mono hw (by
  rintro e₁ a w ⟨rfl, h0⟩
  subst he
  cases e₁ with
  | exit id' =>
   simp only [Exit.inBlock]
   simp only [inB] at h0
   by_cases e1 : id' = id
   ·rw [if_pos e1] at h0 ⊢; exact h0
   ·rw [if_neg e1] at h0 ⊢; exact h0
  | _ => exact h0))
theorem srun_rounds {x : Code} : ∀ (f : Nat), (∀ m, m < f -> ∀ T h D e T' h' D', srun Γ P sc n m x T h D = some (e, T', h', D') -> XGoes (Code.wp P x) ρ n T h D e T' h' D') ->
  ∀ T h D e T' h' D', srun Γ P sc n f (.loop x) T h D = some (e, T', h', D') -> XGoes (fun Q => Code.rounds P x Q f) ρ n T h D e T' h' D' := by
 intro f
 induction f with
 | zero => intro _ T h D e T' h' D' hr; simp [srun] at hr
 | succ f ih =>
  intro hx T h D e T' h' D' hr
  simp only [srun] at hr
  cases hr1 : srun Γ P sc n f x T h D with
  | none => rw [hr1] at hr; cases hr
  | some r =>
   obtain ⟨e1, T1, h1, D1⟩ := r
   rw [hr1] at hr
   have hg := hx f (Nat.lt_succ_self f) T h D e1 T1 h1 D1 hr1
   cases e1 with
   | normal =>
    simp only at hr
    refine hg.then (ih (fun m hm => hx m (by omega)) T1 h1 D1 e T' h' D' hr) fun Q a w h => ?_
    rw [rounds_succ]
    exact wp_mono h (by rintro _ a w ⟨rfl, h⟩; exact h)
   | _ =>
    simp only [Option.some.injEq, Prod.mk.injEq] at hr
    obtain ⟨rfl, rfl, rfl, rfl⟩ := hr
    refine hg.as fun Q a w h => ?_
    rw [rounds_succ]
    exact wp_mono h (by rintro _ a w ⟨rfl, h⟩; exact h)
theorem sjumps_none {run : Tr SV -> Mem -> SLate -> CRes} {l : Nat} : ∀ m, sjumps run l m none = none
 | 0 => rfl
 | _ + 1 => rfl
theorem XGoes.scope_straight {x : Code} {T T' : Tr SV} {h h' : Mem} {D D' : SLate} {e : Exit} (he : ∀ l, e ≠ .goto l) (hx : XGoes (Code.wp P x) ρ n T h D e T' h' D') : XGoes (Code.wp P (.scope x)) ρ n T h D e T' h' D' :=
 hx.as fun Q a w h => wp_scope_straight (wp_mono h (by
  rintro e₁ a w ⟨rfl, h⟩
  cases e₁ with
  | goto l => exact absurd rfl (he l)
  | _ => exact h))
theorem sjumps_go {rest : Code} {l f : Nat} {T' : Tr SV} {h' : Mem} {D' : SLate} {e : Exit} (hrest : ∀ T h D e T' h' D', srun Γ P sc n f rest T h D = some (e, T', h', D') -> XGoes (Code.wp P rest) ρ n T h D e T' h' D') (he : ∀ l, e ≠ .goto l) : ∀ (m : Nat) (T : Tr SV) (h : Mem) (D : SLate),
  sjumps (srun Γ P sc n f rest) l m (some (.goto l, T, h, D)) = some (e, T', h', D') -> XGoes (fun Q => Code.passes P rest l Q m) ρ n T h D e T' h' D' := by
 intro m
 induction m with
 | zero => intro T h D hj; simp [sjumps] at hj
 | succ m ih =>
  intro T h D hj
  simp only [sjumps, Nat.beq_refl, cond_true] at hj
  cases hr1 : srun Γ P sc n f rest T h D with
  | none => rw [hr1, sjumps_none] at hj; cases hj
  | some r =>
   obtain ⟨e3, T3, h3, D3⟩ := r
   rw [hr1] at hj
   have hg := hrest T h D e3 T3 h3 D3 hr1
   cases m with
   | zero => simp [sjumps] at hj
   | succ m =>
    cases e3 with
    | goto l' =>
     have hl : l' = l := by
      simp only [sjumps] at hj
      cases hb : Nat.beq l' l with
      | true => exact Nat.eq_of_beq_eq_true hb
      | false => rw [hb] at hj; cases hj
     subst hl
     exact hg.then (ih T3 h3 D3 hj) fun Q a w h => wp_mono h (by rintro _ a w ⟨rfl, h⟩; exact ⟨rfl, h⟩)
    | _ =>
     simp only [sjumps, Option.some.injEq, Prod.mk.injEq] at hj
     obtain ⟨rfl, rfl, rfl, rfl⟩ := hj
     exact hg.as fun Q a w h => wp_mono h (by rintro _ a w ⟨rfl, h⟩; exact h)
theorem sjumps_out {run : Tr SV -> Mem -> SLate -> CRes} {l : Nat} {e : Exit} {T' : Tr SV} {h' : Mem} {D' : SLate} : ∀ (m : Nat) (r : CRes), sjumps run l m r = some (e, T', h', D') -> ∀ l', e ≠ .goto l'
 | 0, _, h => by simp [sjumps] at h
 | m + 1, none, h => by simp [sjumps] at h
 | m + 1, some (e1, T1, h1, D1), h => by
  cases e1 with
  | goto l1 =>
   simp only [sjumps] at h
   cases hb : Nat.beq l1 l with
   | true => rw [hb] at h; exact sjumps_out m _ h
   | false => rw [hb] at h; cases h
  | _ =>
   simp only [sjumps, Option.some.injEq, Prod.mk.injEq] at h
   obtain ⟨rfl, _⟩ := h
   intro l' e; cases e
theorem XGoes.scope_jumps {x rest : Code} {l f m : Nat} {T T₁ T' : Tr SV} {h h₁ h' : Mem} {D D₁ D' : SLate} {e : Exit} (hf : findLabel x l = some rest) (hx : XGoes (Code.wp P x) ρ n T h D (.goto l) T₁ h₁ D₁)
  (hrest : ∀ T h D e T' h' D', srun Γ P sc n f rest T h D = some (e, T', h', D') -> XGoes (Code.wp P rest) ρ n T h D e T' h' D') (hr : sjumps (srun Γ P sc n f rest) l m (some (.goto l, T₁, h₁, D₁)) = some (e, T', h', D')) :
  XGoes (Code.wp P (.scope x)) ρ n T h D e T' h' D' :=
 hx.then (sjumps_go hrest (sjumps_out _ _ hr) m T₁ h₁ D₁ hr) fun Q a w h => wp_scope_passes m hf (wp_mono h (by rintro _ a w ⟨rfl, h⟩; exact ⟨rfl, h⟩))
theorem srun_ok (hF : FOk ρ Γ) (hsc : SCallOK P ρ sc) (hn : n < 1000000) : ∀ (f : Nat) (code : Code) (T : Tr SV) (h : Mem) (D : SLate) (e : Exit) (T' : Tr SV) (h' : Mem) (D' : SLate),
  srun Γ P sc n f code T h D = some (e, T', h', D') -> XGoes (Code.wp P code) ρ n T h D e T' h' D' := by
 intro f
 induction f using Nat.strongRecOn with
 | _ f ih =>
  intro code T h D e T' h' D' hr
  cases f with
  | zero => simp [srun] at hr
  | succ f =>
   have ihf := ih f (Nat.lt_succ_self f)
   cases code with
   | skip => simp only [srun, Option.some.injEq, Prod.mk.injEq] at hr; obtain ⟨rfl, rfl, rfl, rfl⟩ := hr; exact .here fun _ _ _ q => wp_skip q
   | label l => simp only [srun, Option.some.injEq, Prod.mk.injEq] at hr; obtain ⟨rfl, rfl, rfl, rfl⟩ := hr; exact .here fun _ _ _ q => wp_label q
   | exit l => simp only [srun, Option.some.injEq, Prod.mk.injEq] at hr; obtain ⟨rfl, rfl, rfl, rfl⟩ := hr; exact .here fun _ _ _ q => wp_exit q
   | goto l => simp only [srun, Option.some.injEq, Prod.mk.injEq] at hr; obtain ⟨rfl, rfl, rfl, rfl⟩ := hr; exact .here fun _ _ _ q => wp_goto q
   | ret => simp only [srun, Option.some.injEq, Prod.mk.injEq] at hr; obtain ⟨rfl, rfl, rfl, rfl⟩ := hr; exact .here fun _ _ _ q => wp_ret q
   | region id ops d =>
    simp only [srun] at hr
    cases hd : dstOk n ops with
    | false => rw [hd] at hr; cases hr
    | true =>
     rw [hd] at hr
     simp only [cond_true] at hr
     cases d with
     | true =>
      simp only [cond_true] at hr
      cases hq : (P.follows .mixedOrders && planOK ops (mkPlan ops).1 (mkPlan ops).2) with
      | false => rw [hq] at hr; cases hr
      | true =>
       rw [hq] at hr
       simp only [Bool.and_eq_true] at hq
       simp only [cond_true, Option.map_eq_some_iff] at hr
       obtain ⟨⟨T1, h1⟩, hr, e1⟩ := hr
       simp only [Prod.mk.injEq] at e1
       obtain ⟨rfl, rfl, rfl, rfl⟩ := e1
       exact .draw hF hsc hn hq.1 hd hq.2 hr
     | false =>
      simp only [cond_false, Option.map_eq_some_iff] at hr
      obtain ⟨⟨T1, h1, D1⟩, hr, e1⟩ := hr
      simp only [Prod.mk.injEq] at e1
      obtain ⟨rfl, rfl, rfl, rfl⟩ := e1
      exact .region hF hsc hn hd hr
   | seq x y =>
    simp only [srun] at hr
    cases hr1 : srun Γ P sc n f x T h D with
    | none => rw [hr1] at hr; cases hr
    | some r =>
     obtain ⟨e1, T1, h1, D1⟩ := r
     rw [hr1] at hr
     have hx := ihf x T h D e1 T1 h1 D1 hr1
     cases e1 with
     | normal => exact .seq hx (ihf y T1 h1 D1 e T' h' D' hr)
     | _ =>
      simp only [Option.some.injEq, Prod.mk.injEq] at hr
      obtain ⟨rfl, rfl, rfl, rfl⟩ := hr
      exact .seq_out (by intro e; cases e) hx
   | cond x y z =>
    simp only [srun] at hr
    split at hr
    ·rename_i b hx
     cases b with
     | true => exact .cond hx (ihf y T h D e T' h' D' hr)
     | false => exact .cond hx (ihf z T h D e T' h' D' hr)
    ·cases hr
   | block id x =>
    simp only [srun] at hr
    cases hr1 : srun Γ P sc n f x T h D with
    | none => rw [hr1] at hr; cases hr
    | some r =>
     obtain ⟨e1, T1, h1, D1⟩ := r
     rw [hr1] at hr
     have hx := ihf x T h D e1 T1 h1 D1 hr1
     cases e1 with
     | exit id' =>
      simp only at hr
      cases hb : Nat.beq id' id with
      | true =>
       rw [hb] at hr
       simp only [cond_true, Option.some.injEq, Prod.mk.injEq] at hr
       obtain ⟨rfl, rfl, rfl, rfl⟩ := hr
       exact .block hx (by simp [inB, Nat.eq_of_beq_eq_true hb])
      | false =>
       rw [hb] at hr
       simp only [cond_false, Option.some.injEq, Prod.mk.injEq] at hr
       obtain ⟨rfl, rfl, rfl, rfl⟩ := hr
       exact .block hx (by
        have : id' ≠ id := by rintro rfl; simp at hb
        simp [inB, this])
     | _ =>
      simp only [Option.some.injEq, Prod.mk.injEq] at hr
      obtain ⟨rfl, rfl, rfl, rfl⟩ := hr
      exact .block hx rfl
   | loop x => exact (srun_rounds (f + 1) (fun m hm => ih m hm x) T h D e T' h' D' hr).up fun Q a w h => wp_loop_rounds (f + 1) h
   | scope x =>
    simp only [srun] at hr
    cases hr1 : srun Γ P sc n f x T h D with
    | none => rw [hr1] at hr; cases hr
    | some r =>
     obtain ⟨e1, T1, h1, D1⟩ := r
     rw [hr1] at hr
     have hx := ihf x T h D e1 T1 h1 D1 hr1
     cases e1 with
     | goto l =>
      simp only at hr
      split at hr
      ·rename_i rest hfl
       exact .scope_jumps hfl hx (ihf rest) hr
      ·cases hr
     | _ =>
      simp only [Option.some.injEq, Prod.mk.injEq] at hr
      obtain ⟨rfl, rfl, rfl, rfl⟩ := hr
      exact .scope_straight (by intro l e; cases e) hx
   | _ => simp [srun] at hr
end
end Go.Proofs.YtbllpnjappddeaaGreat.Den
end
section
set_option linter.unusedSimpArgs false
namespace Go.Proofs.YtbllpnjappddeaaGreat.Den
variable {P : Program} {ρ : Vals}
/-- A call at the end of another function. -/
def SimD (P : Program) (f : FuncId) (args : List AV) (nm : Name) (H : AHeap) (r : AV) (H' : AHeap) : Prop :=
 ∀ (σ : Sig) (I : Imm) (w : World) (vs : Array Value), Fresh nm σ -> VRels σ I args vs.toList -> ARel σ I H w ->
  CallsD P f vs .returning w fun e u w' => u = .returning /\ ∃ v σ' I', e = .returned v /\ Step (Under nm) σ I H w σ' I' H' w' /\ VRel σ' I' r v
def SDefOK (P : Program) (ρ : Vals) (sc : SCall) : Prop :=
 ∀ f args h r h', sc f args h = some (r, h') -> isGo P f = true /\ ∀ (ν : Nat -> Option Name) (H : AHeap) (nm : Name) (xs : List AV), MRel ρ ν h H -> Fre ν nm -> SRels ρ ν args xs -> ∃ z H', SimD P f xs nm H z H' /\ Out ρ ν nm r h' z H'
theorem sargs_get : ∀ (l : List SV) (k : Nat) (T : Tr SV) (t : Nat), k + l.length < 2 ^ 59 -> (sargs k l T).get t = if k <= t /\ t < k + l.length then l[t - k]? else T.get t := by
 intro l
 induction l with
 | nil => intro k T t _; simp only [sargs, List.length_nil]; rw [if_neg (by omega)]
 | cons x l ih =>
  intro k T t hk
  rw [List.length_cons] at hk ⊢
  simp only [sargs]
  rw [ih (k + 1) _ t (by omega), put_get T k x t (by
   have : (2 : Nat) ^ 59 <= 2 ^ 60 := by decide
   omega)]
  by_cases h1 : k + 1 <= t /\ t < k + 1 + l.length
  ·rw [if_pos h1, if_pos (by omega)]
   have : t - k = t - (k + 1) + 1 := by omega
   rw [this]; rfl
  ·rw [if_neg h1]
   by_cases h2 : t = k
   ·subst h2; rw [if_pos rfl, if_pos (by omega)]; simp
   ·rw [if_neg h2, if_neg (by omega)]
theorem sargs_T0 {ν : Nat -> Option Name} {l : List SV} {xs : List AV} (h : SRels ρ ν l xs) (hl : l.length < 1000000) : TRel ρ ν (sargs 0 l .nil) (T0 xs) := by
 intro t
 rw [sargs_get l 0 .nil t (Nat.lt_trans (by simpa using hl) (by decide))]
 have hlen := h.length
 by_cases ht : t < l.length
 ·rw [if_pos (by omega)]
  obtain ⟨x, h1, h2⟩ := h.get (List.getElem?_eq_getElem ht)
  simp only [Nat.sub_zero, List.getElem?_eq_getElem ht, Option.getD_some, T0, h1]
  exact h2
 ·rw [if_neg (by omega)]
  simp only [nil_get, T0, List.getElem?_eq_none (by omega : xs.length <= t), Option.getD_none]
  exact .val _
theorem sres_ok {ν : Nat -> Option Name} {T : Tr SV} {Ta : Temps} (ht : TRel ρ ν T Ta) {h : Mem} {H : AHeap} (hm : MRows ρ ν h H) : ∀ (rs : List ResultVar) (l : List SV), sres P T h rs = some l -> ∃ xs, ares P Ta H rs = some xs /\ SRels ρ ν l xs
 | [], l, hr => by simp [sres] at hr; subst hr; exact ⟨[], rfl, .nil⟩
 | .tmp t :: rs, l, hr => by
  simp only [sres, Option.map_eq_some_iff] at hr
  obtain ⟨l', h1, rfl⟩ := hr
  obtain ⟨xs, h2, h3⟩ := sres_ok ht hm rs l' h1
  exact ⟨Ta t :: xs, by simp only [ares, h2, Option.map_some], .cons (ht t) h3⟩
 | .cell a t :: rs, l, hr => by
  simp only [sres, Option.bind_eq_some_iff, Option.map_eq_some_iff] at hr
  obtain ⟨x, h0, l', h1, rfl⟩ := hr
  obtain ⟨xs, h2, h3⟩ := sres_ok ht hm rs l' h1
  obtain ⟨y, h4, h5⟩ := sload_rel hm (ht a) h0
  exact ⟨y :: xs, by simp only [ares, h4, h2, Option.bind_some, Option.map_some], .cons h5 h3⟩
theorem sres1_rel {ν : Nat -> Option Name} {l : List SV} {xs : List AV} (h : SRels ρ ν l xs) : SRel ρ ν (sres1 l) (ares1 xs) := by
 cases h with
 | nil => exact .tup .nil
 | cons h t =>
  cases t with
  | nil => exact h
  | cons h' t => exact .tup (.cons h (.cons h' t))
section
variable {Γ : List Fact} {sc : SCall}
theorem start_st {nm : Name} {n : Nat} {xs : List AV} {H : AHeap} {σ : Sig} {I : Imm} {w : World} {vs : Array Value} (hn : xs.length <= n) (hfr : Fresh nm σ) (hv : VRels σ I xs vs.toList) (hr : ARel σ I H w) :
  StD nm n ⟨0, T0 xs, H, []⟩ σ I { tmps := vs ++ Array.replicate (n - vs.size) undef, defers := [] } w := by
 have hlen : xs.length = vs.size := by simpa using hv.length
 refine ⟨⟨?_, ?_, rfl, hr, ?_⟩, .nil⟩
 ·intro i
  by_cases hi : i < vs.size
  ·have h1 : (vs ++ Array.replicate (n - vs.size) undef).getD i undef = vs[i] := by
    simp [Array.getD_eq_getD_getElem?, Array.getElem?_append_left hi, hi]
   rw [h1]
   obtain ⟨v, h2, h3⟩ := hv.get (List.getElem?_eq_getElem (by omega : i < xs.length))
   have h4 : vs[i] = v := by
    have : vs[i]? = some v := by simpa using h2
    rw [Array.getElem?_eq_getElem hi] at this
    exact Option.some.inj this
   rw [h4]
   simpa [T0, List.getElem?_eq_getElem (by omega : i < xs.length)] using h3
  ·have h1 : (vs ++ Array.replicate (n - vs.size) undef).getD i undef = undef := by
    rw [Array.getD_eq_getD_getElem?, Array.getElem?_append_right (by omega)]
    by_cases h2 : i - vs.size < n - vs.size
    ·simp [h2]
    ·simp [h2]
   rw [h1]
   have h2 : T0 xs i = .val undef := by simp [T0, List.getElem?_eq_none (by omega : xs.length <= i)]
   show VRel σ I (T0 xs i) undef
   rw [h2]
   exact .val _
 ·simp; omega
 ·intro j s _
  have := hfr (s ++ [j])
  simpa using this
theorem sbody_ok (hF : FOk ρ Γ) (hsc : SCallOK P ρ sc) {F : Nat} {f : FuncId} {args : List SV} {h h' : Mem} {fn : Func} {T' : Tr SV} {D' : SLate} (hr : sbody Γ P F sc f args h = some (fn, T', h', D')) :
  isGo P f = true /\ P.funcs[f]? = some fn /\ ∃ code, fn.body = some code /\ ∀ (ν : Nat -> Option Name) (H : AHeap) (nm : Name) (xs : List AV), MRel ρ ν h H -> Fre ν nm -> SRels ρ ν args xs ->
   ∃ ν' s' e, (e = .normal \/ e = .ret) /\ NStep nm ν ν' /\ SAt ρ nm T' h' D' ν' s' /\ ∀ (σ : Sig) (I : Imm) (w : World) (vs : Array Value) (Q : Exit -> Act -> World -> Prop), Fresh nm σ -> VRels σ I xs vs.toList -> ARel σ I H w ->
    (∀ σ' I' a' w', Step (Under nm) σ I H w σ' I' s'.H w' -> StD nm fn.ntmps s' σ' I' a' w' -> Q e a' w') -> code.wp P Q { tmps := vs ++ Array.replicate (fn.ntmps - vs.size) undef, defers := [] } w := by
 unfold sbody at hr
 cases hf : P.funcs[f]? with
 | none => rw [hf] at hr; cases hr
 | some fn' =>
  rw [hf] at hr
  simp only at hr
  cases hb : fn'.body with
  | none => rw [hb] at hr; cases hr
  | some code =>
   rw [hb] at hr
   simp only at hr
   cases hc : (isGo P f && Nat.ble args.length fn'.ntmps && Nat.blt fn'.ntmps 1000000) with
   | false => rw [hc] at hr; cases hr
   | true =>
    rw [hc] at hr
    simp only [cond_true] at hr
    simp only [Bool.and_eq_true] at hc
    obtain ⟨⟨hgo, ha⟩, hn⟩ := hc
    have ha := Nat.le_of_ble_eq_true ha
    have hn := blt_lt hn
    have key : ∃ e, (e = .normal \/ e = .ret) /\ fn' = fn /\ srun Γ P sc fn'.ntmps F code (sargs 0 args .nil) h [] = some (e, T', h', D') := by
     split at hr
     ·rename_i T1 h1 D1 hs
      simp only [Option.some.injEq, Prod.mk.injEq] at hr
      obtain ⟨rfl, rfl, rfl, rfl⟩ := hr
      exact ⟨_, .inl rfl, rfl, hs⟩
     ·rename_i T1 h1 D1 hs
      simp only [Option.some.injEq, Prod.mk.injEq] at hr
      obtain ⟨rfl, rfl, rfl, rfl⟩ := hr
      exact ⟨_, .inr rfl, rfl, hs⟩
     ·cases hr
    obtain ⟨e, he, rfl, hs⟩ := key
    refine ⟨hgo, rfl, code, hb, fun ν H nm xs hm hfre hargs => ?_⟩
    have hfr0 : FreFrom ν nm 0 := fun i _ m s hs => hfre m (s ++ [i]) (by simpa using hs)
    obtain ⟨ν', s', g1, g2, g3⟩ := srun_ok hF hsc hn F code _ h [] e T' h' D' hs nm ν ⟨0, T0 xs, H, []⟩ ⟨sargs_T0 hargs (by omega), hm, hfr0, .nil⟩
    refine ⟨ν', s', e, he, g1, g2, fun σ I w vs Q hfr hv hr hk => ?_⟩
    exact g3 σ I _ w Q (start_st (by rw [<- hargs.length]; exact ha) hfr hv hr) hk
theorem LRel.nil_inv {ν : Nat -> Option Name} {L : List ALate} (h : LRel ρ ν [] L) : L = [] := by cases h; rfl
theorem DRel.nil_inv {σ : Sig} {I : Imm} {ds : List Deferred} (h : DRel σ I [] ds) : ds = [] := by cases h; rfl
theorem sdef_ok (hF : FOk ρ Γ) (hsc : SCallOK P ρ sc) {F : Nat} : SDefOK P ρ (sdef Γ P F sc) := by
 intro f args h r h' hr
 unfold sdef at hr
 split at hr
 ·rename_i fn T' h₁ hb
  obtain ⟨hgo, hf, code, hbody, hrun⟩ := sbody_ok hF hsc hb
  simp only [Option.map_eq_some_iff, Prod.mk.injEq] at hr
  obtain ⟨l, h1, rfl, rfl⟩ := hr
  refine ⟨hgo, fun ν H nm xs hm hfre hargs => ?_⟩
  obtain ⟨ν', s', e, he, g1, g2, g3⟩ := hrun ν H nm xs hm hfre hargs
  obtain ⟨ys, h2, h3⟩ := sres_ok g2.tr g2.mem.rows _ _ h1
  refine ⟨ares1 ys, s'.H, ?_, ν', g1.nu, g1.new, g2.mem, sres1_rel h3⟩
  intro σ I w vs hfr hv hr
  refine callsD_of_wp hf hbody (R := fun e w' => ∃ v σ' I', e = .returned v /\ Step (Under nm) σ I H w σ' I' s'.H w' /\ VRel σ' I' (ares1 ys) v) (g3 σ I w vs _ hfr hv hr ?_)
  intro σ' I' a' w' hst st'
  have hds : a'.defers = [] := (g2.late.nil_inv ▸ st'.late).nil_inv
  obtain ⟨v, h4, h5⟩ := results_run st'.st.tr st'.st.rel h2
  rcases he with rfl | rfl
  ·exact ⟨hds, v, h4, v, σ', I', rfl, hst, h5⟩
  ·exact ⟨hds, v, h4, v, σ', I', rfl, hst, h5⟩
 ·cases hr
theorem isGo_call {f : FuncId} (hgo : isGo P f = true) (args : Array Value) (w : World) : (callFunc f args).run P w = .ok (.enter f args) w := by
 unfold isGo at hgo
 split at hgo
 ·rename_i fn hfn
  simp only [Bool.and_eq_true, Bool.not_eq_true'] at hgo
  have hbn : fn.body.isNone = false := by cases e : fn.body <;> simp_all
  have hname : ¬ fn.name = "runtime.NumGoroutine" := by simpa using hgo.2
  simp [callFunc, hfn, hname]
  intro hnone
  rw [hnone] at hbn; cases hbn
 ·cases hgo
theorem slast_ok {sd : SCall} (hsd : SDefOK P ρ sd) {fn : Func} {T : Tr SV} {Ta : Temps} {nm : Name} {h' : Mem} {l : List SV} : ∀ (D : SLate) (h : Mem) (ν : Nat -> Option Name) (c : Nat) (H : AHeap) (L : List ALate), slast sd D h = some h' -> TRel ρ ν T Ta -> MRel ρ ν h H -> FreFrom ν nm c -> LRel ρ ν D L -> sres P T h' fn.results.toList = some l ->
  ∃ ν' H' xs, NStep nm ν ν' /\ MRel ρ ν' h' H' /\ SRels ρ ν' l xs /\ ∀ (σ : Sig) (I : Imm) (tmps : Array Value) (ds : List Deferred) (w : World) (R : Ending -> World -> Prop), (∀ i, VRel σ I (Ta i) (tmps.getD i undef)) -> ARel σ I H w -> FreshFrom nm c σ -> DRel σ I L ds ->
   (∀ σ' I' v w', Step (Under nm) σ I H w σ' I' H' w' -> VRel σ' I' (ares1 xs) v -> R (.returned v) w') -> Leaves P fn tmps R ds .returning w := by
 intro D
 induction D with
 | nil =>
  intro h ν c H L hs ht hm hf hL hr
  simp only [slast, Option.some.injEq] at hs
  subst hs
  cases hL
  obtain ⟨xs, h1, h2⟩ := sres_ok ht hm.rows _ _ hr
  refine ⟨ν, H, xs, .refl nm ν, hm, h2, fun σ I tmps ds w R htm hrel hfr hd hk => ?_⟩
  cases hd
  obtain ⟨v, h4, h5⟩ := results_run htm hrel h1
  exact ⟨v, h4, hk σ I v w (Step.refl _ hrel) h5⟩
 | cons d D ih =>
  intro h ν c H L hs ht hm hf hL hr
  cases hL with
  | @cons fn' a b args a' b' args' _ L i1 i2 i3 it =>
   simp only [slast] at hs
   split at hs
   ·rename_i f a0 b0 hq
    injection hq with q1 q2 q3
    subst q1 q2 q3
    split at hs
    ·rename_i r h₁ hc
     obtain ⟨hgo, hsim⟩ := hsd _ _ _ _ _ hc
     obtain ⟨z, H₁, j1, ν₁, n1, n2, n3, n4⟩ := hsim ν H (c :: nm) _ hm (hf c (Nat.le_refl _)) ((i1.append i3).append i2)
     obtain ⟨ν', H', xs, g1, g2, g3, g4⟩ := ih h₁ ν₁ (c + 1) H₁ L hs (ht.mono n1) n3 (hf.after n2) (it.mono n1) hr
     refine ⟨ν', H', xs, NStep.trans ⟨n1, fun n m h => (n2 n m h).imp id under_cons⟩ g1, g2, g3, fun σ I tmps ds w R htm hrel hfr hd hk => ?_⟩
     cases hd with
     | @cons _ _ _ _ va vb vs _ ds k1 k2 k3 kt =>
      refine leaves_cons (by intro e; cases e) (f := f) (args := (va ++ vs) ++ vb) (by simp only [invoke]; exact isGo_call hgo _ w) ?_
      refine (j1 σ I w _ (hfr.here c (Nat.le_refl _)) ?_ hrel).mono ?_
      ·simp only [Array.toList_append]
       exact (k1.append k3).append k2
      ·rintro e u w' ⟨rfl, v, σ₁, I₁, rfl, hst, hv⟩
       show Leaves P fn tmps R ds .returning w'
       refine g4 σ₁ I₁ tmps ds w' R (fun i => (htm i).mono hst.sig hst.imm) hst.rel (hfr.step hst) (kt.mono hst.sig hst.imm) ?_
       intro σ' I' v w'' hst' hv'
       exact hk σ' I' v w'' ((hst.weaken fun _ => under_cons).trans hst') hv'
    ·cases hs
   ·cases hs
/-- What stands for a function must do what it does. -/
def OvrOK (P : Program) (ρ : Vals) (ovr : FuncId -> Option (List SV -> Mem -> SRes)) : Prop :=
 ∀ f g, ovr f = some g -> ∀ args h r h', g args h = some (r, h') -> isGo P f = true /\ ∀ (ν : Nat -> Option Name) (H : AHeap) (nm : Name) (xs : List AV), MRel ρ ν h H -> Fre ν nm -> SRels ρ ν args xs -> ∃ z H', Sim P f xs nm H z H' /\ Out ρ ν nm r h' z H'
theorem scall_ok (hF : FOk ρ Γ) {F : Nat} {ovr : FuncId -> Option (List SV -> Mem -> SRes)} (ho : OvrOK P ρ ovr) : ∀ d, SCallOK P ρ (scall Γ P F ovr d) := by
 intro d
 induction d with
 | zero => intro f args h r h' hr; cases hr
 | succ d ih =>
  intro f args h r h' hr
  simp only [scall] at hr
  split at hr
  ·rename_i g hg
   exact ho f g hg args h r h' hr
  ·split at hr
   ·rename_i fn T' h₁ D' hb
    obtain ⟨hgo, hf, code, hbody, hrun⟩ := sbody_ok hF ih hb
    simp only [Option.bind_eq_some_iff, Option.map_eq_some_iff, Prod.mk.injEq] at hr
    obtain ⟨h₂, h1, l, h2, rfl, rfl⟩ := hr
    refine ⟨hgo, fun ν H nm xs hm hfre hargs => ?_⟩
    obtain ⟨ν₁, s₁, e, he, g1, g2, g3⟩ := hrun ν H nm xs hm hfre hargs
    obtain ⟨ν', H', ys, k1, k2, k3, k4⟩ := slast_ok (sdef_ok hF ih) (fn := fn) D' h₁ ν₁ s₁.c s₁.H s₁.L h1 g2.tr g2.mem g2.fre g2.late h2
    refine ⟨ares1 ys, H', ?_, ν', (g1.trans k1).nu, (g1.trans k1).new, k2, sres1_rel k3⟩
    intro σ I w vs hfr hv hr
    refine calls_of_wp_defers hf hbody (g3 σ I w vs _ hfr hv hr ?_)
    intro σ' I' a' w' hst st'
    have hl := k4 σ' I' a'.tmps a'.defers w' (fun e w' => ∃ v σ' I', e = .returned v /\ Step (Under nm) σ I H w σ' I' H' w' /\ VRel σ' I' (ares1 ys) v) st'.st.tr st'.st.rel st'.st.fresh st'.late (fun σ₂ I₂ v w₂ hst₂ hv₂ => ⟨v, σ₂, I₂, rfl, hst.trans hst₂, hv₂⟩)
    rcases he with rfl | rfl
    ·exact hl
    ·exact hl
   ·cases hr
end
end Go.Proofs.YtbllpnjappddeaaGreat.Den
end
section
namespace Go.Proofs.YtbllpnjappddeaaGreat.Den
/-! ### SHA-256, of numbers -/
def rotr (x n : Nat) : Nat := Nat.lor (Nat.shiftRight x n) (Nat.land (Nat.shiftLeft x (Nat.sub 32 n)) 4294967295)
def shaK : List Nat := [
 0x428a2f98, 0x71374491, 0xb5c0fbcf, 0xe9b5dba5, 0x3956c25b, 0x59f111f1, 0x923f82a4, 0xab1c5ed5,
 0xd807aa98, 0x12835b01, 0x243185be, 0x550c7dc3, 0x72be5d74, 0x80deb1fe, 0x9bdc06a7, 0xc19bf174,
 0xe49b69c1, 0xefbe4786, 0x0fc19dc6, 0x240ca1cc, 0x2de92c6f, 0x4a7484aa, 0x5cb0a9dc, 0x76f988da,
 0x983e5152, 0xa831c66d, 0xb00327c8, 0xbf597fc7, 0xc6e00bf3, 0xd5a79147, 0x06ca6351, 0x14292967,
 0x27b70a85, 0x2e1b2138, 0x4d2c6dfc, 0x53380d13, 0x650a7354, 0x766a0abb, 0x81c2c92e, 0x92722c85,
 0xa2bfe8a1, 0xa81a664b, 0xc24b8b70, 0xc76c51a3, 0xd192e819, 0xd6990624, 0xf40e3585, 0x106aa070,
 0x19a4c116, 0x1e376c08, 0x2748774c, 0x34b0bcb5, 0x391c0cb3, 0x4ed8aa4a, 0x5b9cca4f, 0x682e6ff3,
 0x748f82ee, 0x78a5636f, 0x84c87814, 0x8cc70208, 0x90befffa, 0xa4506ceb, 0xbef9a3f7, 0xc67178f2]
structure W8 where
 (a b c d e f g h : Nat)
def forceL {α : Type} : List Nat -> (List Nat -> α) -> α
 | [], k => k []
 | x :: l, k => forceN x fun x => forceL l fun l => k (x :: l)
def litBytes : List SV -> Option (List Nat)
 | [] => some []
 | .int .u8 (.lit (.ofNat n)) :: r => (litBytes r).map (n :: ·)
 | _ => none
end Go.Proofs.YtbllpnjappddeaaGreat.Den
end
section
namespace Go.Proofs.YtbllpnjappddeaaGreat.Den
/-! ### one operation -/
def fpick (a b : Operand) (ρ : SEnv) (h : Mem) : SV -> SRes
 | .bool t => some (bif t then ρ a else ρ b, h)
 | _ => none
def falloc (P : Program) (e : TypeId) (h : Mem) : SRes := (szeros P e).map fun z => (.ptr h.next 0, h.push z)
def fbuild (P : Program) (t : TypeId) (parts : Array (Nat × Operand)) (ρ : SEnv) (h : Mem) : SRes :=
 match szeros P t, P.underlying t with
 | some z, some (.struct fs) => (places P fs.toList).bind fun ps => (sfill (ps[·]?) z (parts.toList.map fun (i, x) => (i, ρ x))).map fun l => (.agg l, h)
 | some z, some (.array _ e) => (szOf P e).bind fun s => (sfill (fun i => some (i * s, s)) z (parts.toList.map fun (i, x) => (i, ρ x))).map fun l => (.agg l, h)
 | _, _ => none
def fbuildSlice (P : Program) (t : TypeId) (len : Nat) (parts : Array (Nat × Operand)) (ρ : SEnv) (h : Mem) : SRes :=
 match P.underlying t with
 | some (.slice e) =>
  match szOf P e, szeros P e with
  | some s, some z =>
   bif Nat.beq z.length s && !Nat.beq s 0 && Nat.ble (len * s) 16777216 then
    (sfill (fun i => some (i * s, s)) (srow z len) (parts.toList.map fun (i, x) => (i, ρ x))).map fun l => (.sl h.next 0 len s, h.push l)
   else none
  | _, _ => none
 | _ => none
def fload (P : Program) (t : TypeId) (a : SV) (h : Mem) : SRes := (sload P t a h).map (·, h)
def fstore (P : Program) (t : TypeId) (a x : SV) (h : Mem) : SRes := (sstore P t a x h).map (.val undef, ·)
def fnil (h : Mem) : SV -> SRes
 | .ptr n off => some (.ptr n off, h)
 | .imp m c off => some (.imp m c off, h)
 | .fn (.func f) a b => some (.fn (.func f) a b, h)
 | _ => none
def fbin (Γ : List Fact) (P : Program) (op : BinOp) (t : TypeId) (x y : Operand) (ρ : SEnv) (h : Mem) : SRes :=
 match op with
 | .eql => (seq Γ P false t x y (ρ x) (ρ y)).map (·, h)
 | .neq => (seq Γ P true t x y (ρ x) (ρ y)).map (·, h)
 | op => (sbin Γ op (ρ x) (ρ y)).map (·, h)
def fnot (h : Mem) : SV -> SRes
 | .bool b => some (.bool !b, h)
 | _ => none
def fneg (h : Mem) : SV -> SRes
 | .int k (.lit n) => forceI (k.wrap (0 - n)) fun z => some (.int k (.lit z), h)
 | _ => none
def fxor (h : Mem) : SV -> SRes
 | .int k (.lit n) => forceI (k.wrap ((BitVec.ofInt k.bits (if k.signed then -1 else k.max) ^^^ BitVec.ofInt k.bits n).toNat)) fun z => some (.int k (.lit z), h)
 | .int k e => some (.int k (.bin .xor k (.lit (if k.signed then -1 else k.max)) e), h)
 | _ => none
def fun1 (op : UnOp) (x : SV) (h : Mem) : SRes :=
 match op with
 | .not => fnot h x
 | .neg => fneg h x
 | .xor => fxor h x
 | _ => none
def fmakeSlice (P : Program) (t : TypeId) (l c : SV) (h : Mem) : SRes :=
 match P.underlying t, sNat l, sNat c with
 | some (.slice e), some l, some c =>
  match szOf P e, szeros P e, bytesOf' P e with
  | some s, some z, some by_ => bif Nat.beq z.length s && !Nat.beq s 0 && Nat.ble l c && Nat.ble c 281474976710656 && Nat.ble (by_ * c) 281474976710656 then some (.sl h.next 0 l s, h.push (srow z c)) else none
  | _, _, _ => none
 | _, _, _ => none
def fsliceP (P : Program) (t : TypeId) (n off : Nat) (lo hi : Option SV) (h : Mem) : SRes :=
 match P.underlying t with
 | some (.array N e) =>
  match sbound 0 lo, sbound N hi, szOf P e with
  | some l, some k, some sz =>
   (h.get n).bind fun row => (sdrop (off + N * sz) row).bind fun _ => bif Nat.ble l k && Nat.ble k N && !Nat.beq sz 0 then (bif Nat.beq l k then some (.im true 0 [], h) else some (.sl n (off + l * sz) (k - l) sz, h)) else none
  | _, _, _ => none
 | _ => none
def fslice (P : Program) (t : TypeId) (x : SV) (lo hi : Option SV) (h : Mem) : SRes :=
 match x with
 | .ptr n off => fsliceP P t n off lo hi h
 | x => (sslice P t x lo hi).map (·, h)
def fsliceO (P : Program) (t : TypeId) (x : Operand) (lo hi mx : Option Operand) (ρ : SEnv) (h : Mem) : SRes :=
 match mx with
 | none => fslice P t (ρ x) (lo.map ρ) (hi.map ρ) h
 | some _ => none
def ffield (P : Program) (t : TypeId) (x : SV) (f : Nat) (h : Mem) : SRes :=
 match P.underlying t, x with
 | some (.struct fs), .agg l => (fs[f]?).bind fun fl => (spart P fl.type l fl.offset).map (·, h)
 | _, _ => none
def fextract (i : Nat) (h : Mem) : SV -> SRes
 | .tup l => (l[i]?).map (·, h)
 | _ => none
def fcallV (call : SCall) (args : List SV) (h : Mem) : SV -> SRes
 | .fn (.func f) first captured => call f (first ++ args ++ captured) h
 | _ => none
def fcall (P : Program) (call : SCall) (c : Call) (ρ : SEnv) (h : Mem) : SRes :=
 match c.callee with
 | .builtin b => sbuiltin P b c.argTypes (c.args.toList.map ρ) h
 | .value f => fcallV call (c.args.toList.map ρ) h (ρ f)
 | .invoke _ _ => none
def fop (Γ : List Fact) (P : Program) (call : SCall) (o : Op) (ρ : SEnv) (h : Mem) : SRes :=
 match o with
 | .move x | .assign x => some (ρ x, h)
 | .pick c a b => fpick a b ρ h (ρ c)
 | .alloc e => falloc P e h
 | .box _ x => some (.ptr h.next 0, h.push (ρ x).cells)
 | .build t parts => fbuild P t parts ρ h
 | .buildSlice t len parts => fbuildSlice P t len parts ρ h
 | .load t a => fload P t (ρ a) h
 | .store t a x => fstore P t (ρ a) (ρ x) h
 | .nilCheck x => fnil h (ρ x)
 | .binOp op t x y _ => fbin Γ P op t x y ρ h
 | .unOp op _ x => fun1 op (ρ x) h
 | .convert src dst x => sconv P src dst (ρ x) h
 | .makeFunc fn first captured => some (.fn fn (first.toList.map ρ) (captured.toList.map ρ), h)
 | .makeSlice t l c => fmakeSlice P t (ρ l) (ρ c) h
 | .slice t x lo hi mx => fsliceO P t x lo hi mx ρ h
 | .fieldAddr s x f => (sfieldAddr P s (ρ x) f).map (·, h)
 | .field t x f => ffield P t (ρ x) f h
 | .indexAddr t x i => (sindexAddr P t (ρ x) (ρ i)).map (·, h)
 | .index t x i => (sindex P t (ρ x) (ρ i)).map (·, h)
 | .extract x i => fextract i h (ρ x)
 | .call c => fcall P call c ρ h
 | _ => none
theorem fop_eq (Γ : List Fact) (P : Program) (call : SCall) (o : Oper) (ρ : SEnv) (h : Mem) : fop Γ P call o.op ρ h = sop Γ P call o ρ h := by
 obtain ⟨dst, op, ty, pos, after, guard⟩ := o
 cases op with
 | binOp op t x y t2 => cases op <;> rfl
 | unOp op t x => cases op <;> rfl
 | slice t x lo hi mx =>
  cases mx with
  | none =>
   simp only [fop, fsliceO, fslice, sop, fsliceP]
   cases ρ x <;> rfl
  | some m => rfl
 | _ => first | rfl | (simp only [fop, sop, fpick, fnil, fextract, fcall, fcallV]; (try split) <;> rfl)
/-! ### regions -/
def fwant (ops : Array Oper) (T : Tr SV) (j : Nat) (want : Bool) : Option Bool :=
 match (ops[j]?).bind (·.dst) with
 | some d =>
  match (T.get d).getD (.val undef) with
  | .bool b => some (b == want)
  | .val (.tuple _) => some false
  | _ => none
 | none => some false
def fwanted (ops : Array Oper) (T : Tr SV) : Option (Nat × Bool) -> Option Bool
 | none => some true
 | some (j, want) => fwant ops T j want
def isDef : Op -> Bool
 | .defer _ => true
 | _ => false
abbrev RRes := Option (Tr SV × Mem × SLate)
abbrev RK := Tr SV -> Mem -> SLate -> RRes
def fdefer2 (k : RK) (T : Tr SV) (h : Mem) (D : SLate) (args : List SV) : SV -> RRes
 | .fn fn a b => k T h ((.fn fn a b, args) :: D)
 | _ => none
def fdefer (k : RK) (o : Oper) (T : Tr SV) (h : Mem) (D : SLate) : Op -> RRes
 | .defer c =>
  match c.callee, o.guard, o.dst with
  | .value f, none, none => fdefer2 k T h D (c.args.toList.map (senv T)) (senv T f)
  | _, _, _ => none
 | _ => none
def frun1 (k : RK) (dst : Option Tmp) (T : Tr SV) (D : SLate) : SRes -> RRes
 | some (v, h') => k (sput T dst v) h' D
 | none => none
def frun2 (Γ : List Fact) (P : Program) (call : SCall) (k : RK) (o : Oper) (T : Tr SV) (h : Mem) (D : SLate) : Option Bool -> RRes
 | some true => frun1 k o.dst T D (fop Γ P call o.op (senv T) h)
 | some false => k (sput T o.dst (.val undef)) h D
 | none => none
def fstep (Γ : List Fact) (P : Program) (call : SCall) (ops : Array Oper) (o : Oper) (k : RK) (T : Tr SV) (h : Mem) (D : SLate) : RRes :=
 bif isDef o.op then fdefer k o T h D o.op else frun2 Γ P call k o T h D (fwanted ops T o.guard)
def fregion (Γ : List Fact) (P : Program) (call : SCall) (ops : Array Oper) (l : List Oper) : RK :=
 match l with
 | [] => fun T h D => some (T, h, D)
 | o :: r => fstep Γ P call ops o (fregion Γ P call ops r)
theorem fwanted_eq (ops : Array Oper) (T : Tr SV) (o : Oper) : fwanted ops T o.guard = swanted ops o T := by
 unfold swanted fwanted
 split <;> rename_i h
 ·rw [h]
 ·rw [h]; rfl
theorem fregion_eq (Γ : List Fact) (P : Program) (call : SCall) (ops : Array Oper) : ∀ (l : List Oper) (T : Tr SV) (h : Mem) (D : SLate), fregion Γ P call ops l T h D = sregion Γ P call ops l T h D := by
 intro l
 induction l with
 | nil => intro T h D; rfl
 | cons o r ih =>
  intro T h D
  have hk : fregion Γ P call ops r = sregion Γ P call ops r := by funext T h D; exact ih T h D
  simp only [fregion, fstep, hk, fwanted_eq, sregion]
  cases ho : o.op with
  | defer c =>
   simp only [isDef, cond_true, fdefer]
   cases c.callee with
   | value f =>
    cases o.guard with
    | none =>
     cases o.dst with
     | none => simp only [fdefer2]; cases senv T f <;> rfl
     | some d => rfl
    | some g => rfl
   | _ => rfl
  | _ =>
   simp only [isDef, cond_false, frun2]
   cases swanted ops o T with
   | none => rfl
   | some b =>
    cases b with
    | false => rfl
    | true =>
     simp only [fop_eq, frun1]
     cases sop Γ P call o (senv T) h <;> rfl
abbrev WRes := Option (Tr SV × Mem)
abbrev WK := Tr SV -> List (Nat × Mem) -> Mem -> WRes
def fdraw2 (P : Program) (o : Oper) (x : Item) (Hs : List (Nat × Mem)) (k1 : Nat) (k : WK) (T : Tr SV) : SRes -> WRes
 | some (v, h') => bif schk P o (senv T) v Hs x.chk then k (sput T o.dst v) (bif x.e then (k1, h') :: Hs else Hs) h' else none
 | none => none
def fdraw1 (Γ : List Fact) (P : Program) (call : SCall) (o : Oper) (x : Item) (k1 : Nat) (k : WK) (T : Tr SV) (Hs : List (Nat × Mem)) (h : Mem) : Option Bool -> WRes
 | some true => fdraw2 P o x Hs k1 k T (fop Γ P call o.op (senv T) h)
 | some false => k (sput T o.dst (.val undef)) (bif x.e then (k1, h) :: Hs else Hs) h
 | none => none
def fdraw0 (Γ : List Fact) (P : Program) (call : SCall) (ops : Array Oper) (x : Item) (k1 : Nat) (k : WK) (T : Tr SV) (Hs : List (Nat × Mem)) (h : Mem) : Option Oper -> WRes
 | some o => fdraw1 Γ P call o x k1 k T Hs h (fwanted ops T o.guard)
 | none => none
def fdraw (Γ : List Fact) (P : Program) (call : SCall) (ops : Array Oper) (l : List Item) : Nat -> WK :=
 match l with
 | [] => fun _ T _ h => some (T, h)
 | x :: r => fun k T Hs h => fdraw0 Γ P call ops x (k + 1) (fdraw Γ P call ops r (k + 1)) T Hs h ops[x.i]?
theorem fdraw_eq (Γ : List Fact) (P : Program) (call : SCall) (ops : Array Oper) : ∀ (l : List Item) (k : Nat) (T : Tr SV) (Hs : List (Nat × Mem)) (h : Mem), fdraw Γ P call ops l k T Hs h = sdraw Γ P call ops k l T Hs h := by
 intro l
 induction l with
 | nil => intro k T Hs h; rfl
 | cons x r ih =>
  intro k T Hs h
  simp only [fdraw, sdraw]
  cases ops[x.i]? with
  | none => rfl
  | some o =>
   simp only [fdraw0, fwanted_eq]
   cases swanted ops o T with
   | none => rfl
   | some b =>
    cases b with
    | false => simp only [fdraw1, ih]
    | true =>
     simp only [fdraw1, fop_eq]
     cases sop Γ P call o (senv T) h with
     | none => rfl
     | some vh => simp only [fdraw2, ih]
/-! ### code -/
abbrev CK := Code -> Tr SV -> Mem -> SLate -> CRes
def fregN (D : SLate) : WRes -> CRes
 | some (T, h) => some (.normal, T, h, D)
 | none => none
def fregR : RRes -> CRes
 | some (T, h, D) => some (.normal, T, h, D)
 | none => none
def fregD (Γ : List Fact) (P : Program) (call : SCall) (ops : Array Oper) (T : Tr SV) (h : Mem) (D : SLate) (p : List Nat × List Item) : CRes :=
 bif P.follows .mixedOrders && planOK ops p.1 p.2 then fregN D (fdraw Γ P call ops p.2 0 T [(0, h)] h) else none
def freg (Γ : List Fact) (P : Program) (call : SCall) (n : Nat) (ops : Array Oper) (d : Bool) (T : Tr SV) (h : Mem) (D : SLate) : CRes :=
 bif dstOk n ops then (bif d then fregD Γ P call ops T h D (mkPlan ops) else fregR (fregion Γ P call ops ops.toList T h D)) else none
def fthen (k : Tr SV -> Mem -> SLate -> CRes) : CRes -> CRes
 | some (.normal, T, h, D) => k T h D
 | r => r
def fcond (y z : Code) (k : CK) (T : Tr SV) (h : Mem) (D : SLate) : SV -> CRes
 | .bool b => bif b then k y T h D else k z T h D
 | _ => none
def fblock (id : Nat) : CRes -> CRes
 | some (.exit id', T, h, D) => bif Nat.beq id' id then some (.normal, T, h, D) else some (.exit id', T, h, D)
 | r => r
def fscope1 (k : CK) (l f : Nat) (T : Tr SV) (h : Mem) (D : SLate) : Option Code -> CRes
 | some rest => sjumps (k rest) l f (some (.goto l, T, h, D))
 | none => none
def fscope (x : Code) (k : CK) (f : Nat) : CRes -> CRes
 | some (.goto l, T, h, D) => fscope1 k l f T h D (findLabel x l)
 | r => r
def fnode (Γ : List Fact) (P : Program) (call : SCall) (n f : Nat) (k : CK) (c : Code) (T : Tr SV) (h : Mem) (D : SLate) : CRes :=
 match c with
 | .skip => some (.normal, T, h, D)
 | .label _ => some (.normal, T, h, D)
 | .exit id => some (.exit id, T, h, D)
 | .goto l => some (.goto l, T, h, D)
 | .ret => some (.ret, T, h, D)
 | .region _ ops d => freg Γ P call n ops d T h D
 | .seq x y => fthen (k y) (k x T h D)
 | .cond x y z => fcond y z k T h D (senv T x)
 | .block id x => fblock id (k x T h D)
 | .loop x => fthen (k (.loop x)) (k x T h D)
 | .scope x => fscope x k f (k x T h D)
 | _ => none
noncomputable def frun (Γ : List Fact) (P : Program) (call : SCall) (n f : Nat) : CK := Nat.rec (motive := fun _ => CK) (fun _ _ _ _ => none) (fun f k => fnode Γ P call n f k) f
theorem frun_eq (Γ : List Fact) (P : Program) (call : SCall) (n : Nat) : ∀ f, frun Γ P call n f = srun Γ P call n f := by
 intro f
 induction f with
 | zero => funext c T h D; cases c <;> rfl
 | succ f ih =>
  funext c T h D
  show fnode Γ P call n f (frun Γ P call n f) c T h D = _
  rw [ih]
  cases c with
  | region id ops d =>
   simp only [fnode, freg, srun]
   cases dstOk n ops with
   | false => rfl
   | true =>
    cases d with
    | true =>
     simp only [cond_true, fregD, fdraw_eq]
     cases (P.follows Departure.mixedOrders && planOK ops (mkPlan ops).1 (mkPlan ops).2) with
     | false => rfl
     | true => simp only [cond_true]; cases sdraw Γ P call ops 0 (mkPlan ops).2 T [(0, h)] h <;> rfl
    | false =>
     simp only [cond_true, cond_false, fregion_eq]
     cases sregion Γ P call ops ops.toList T h D <;> rfl
  | cond x y z => simp only [fnode, srun]; cases senv T x <;> rfl
  | _ => rfl
/-! ### functions -/
def fbody2 (fn : Func) : CRes -> Option (Func × Tr SV × Mem × SLate)
 | some (.normal, T, h', D) => some (fn, T, h', D)
 | some (.ret, T, h', D) => some (fn, T, h', D)
 | _ => none
noncomputable def fbody1 (Γ : List Fact) (P : Program) (F : Nat) (call : SCall) (f : FuncId) (args : List SV) (h : Mem) (fn : Func) : Option Code -> Option (Func × Tr SV × Mem × SLate)
 | some code => bif isGo P f && Nat.ble args.length fn.ntmps && Nat.blt fn.ntmps 1000000 then fbody2 fn (frun Γ P call fn.ntmps F code (sargs 0 args .nil) h []) else none
 | none => none
noncomputable def fbody (Γ : List Fact) (P : Program) (F : Nat) (call : SCall) (f : FuncId) (args : List SV) (h : Mem) : Option Func -> Option (Func × Tr SV × Mem × SLate)
 | some fn => fbody1 Γ P F call f args h fn fn.body
 | none => none
theorem fbody_eq (Γ : List Fact) (P : Program) (F : Nat) (call : SCall) (f : FuncId) (args : List SV) (h : Mem) : fbody Γ P F call f args h P.funcs[f]? = sbody Γ P F call f args h := by
 unfold sbody
 cases P.funcs[f]? with
 | none => rfl
 | some fn =>
  simp only [fbody]
  cases fn.body with
  | none => rfl
  | some code =>
   simp only [fbody1, frun_eq]
   cases (isGo P f && Nat.ble args.length fn.ntmps && Nat.blt fn.ntmps 1000000) with
   | false => rfl
   | true =>
    simp only [cond_true]
    unfold fbody2
    rfl
def ffin (h : Mem) : Option (List SV) -> SRes
 | some l => some (sres1 l, h)
 | none => none
def fend (P : Program) (fn : Func) (T : Tr SV) : Option Mem -> SRes
 | some h => ffin h (sres P T h fn.results.toList)
 | none => none
def fcallE (P : Program) (call : SCall) : Option (Func × Tr SV × Mem × SLate) -> SRes
 | some (fn, T, h', D) => fend P fn T (slast call D h')
 | none => none
noncomputable def fcall1 (Γ : List Fact) (P : Program) (F : Nat) (call : SCall) (f : FuncId) (args : List SV) (h : Mem) : Option (List SV -> Mem -> SRes) -> SRes
 | some g => g args h
 | none => fcallE P (sdef Γ P F call) (fbody Γ P F call f args h P.funcs[f]?)
noncomputable def fscall (Γ : List Fact) (P : Program) (F : Nat) (ovr : FuncId -> Option (List SV -> Mem -> SRes)) (d : Nat) : SCall :=
 Nat.rec (motive := fun _ => SCall) (fun _ _ _ => none) (fun _ call f args h => fcall1 Γ P F call f args h (ovr f)) d
theorem fscall_eq (Γ : List Fact) (P : Program) (F : Nat) (ovr : FuncId -> Option (List SV -> Mem -> SRes)) : ∀ d, fscall Γ P F ovr d = scall Γ P F ovr d := by
 intro d
 induction d with
 | zero => rfl
 | succ d ih =>
  funext f args h
  show fcall1 Γ P F (fscall Γ P F ovr d) f args h (ovr f) = _
  rw [ih]
  simp only [scall]
  cases ovr f with
  | some g => rfl
  | none =>
   simp only [fcall1, fbody_eq]
   cases sbody Γ P F (scall Γ P F ovr d) f args h with
   | none => rfl
   | some x =>
    obtain ⟨fn, T, h', D⟩ := x
    simp only [fcallE]
    cases slast (sdef Γ P F (scall Γ P F ovr d)) D h' with
    | none => rfl
    | some h₂ =>
     simp only [fend, Option.bind_some]
     cases sres P T h₂ fn.results.toList <;> rfl
end Go.Proofs.YtbllpnjappddeaaGreat.Den
end
