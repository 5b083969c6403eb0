/- Whole pieces of code over the abstract memory: one triple, and a rule for each kind of code. -/
import Derived.Test.YtpgoddffacgcmaaDenI
import Derived.ScopeJumps
import Derived.Deep.LoopGhost
namespace Go.Proofs.Ytpgoddffacgcmaa.Den
variable {P : Program}

/-- The world and the frame are as the abstract memory and the abstract temporaries say. -/
structure St (p : Name) (c n : Nat) (σ : Sig) (I : Imm) (T : Temps) (H : AHeap) (a : Act) (w : World) : Prop where
  tr : ∀ i, VRel σ I (T i) (a.tmps.getD i undef)
  size : a.tmps.size = n
  defers : a.defers = []
  rel : ARel σ I H w
  fresh : FreshFrom p c σ

theorem tail_eq {s s' : List Nat} {j k : Nat} {p : Name} (h : s ++ (j :: p) = s' ++ (k :: p)) : j = k := by
  have h1 : (s ++ [j]) ++ p = (s' ++ [k]) ++ p := by simpa using h
  have h2 := List.append_cancel_right h1
  have h3 := congrArg List.getLast? h2
  simpa using h3

theorem FreshFrom.here {p : Name} {c : Nat} {σ : Sig} (h : FreshFrom p c σ) (k : Nat) (hk : c ≤ k) : Fresh (k :: p) σ := fun s => h k s hk
theorem FreshFrom.mono {p : Name} {c c' : Nat} {σ : Sig} (h : FreshFrom p c σ) (hc : c ≤ c') : FreshFrom p c' σ := fun j s hj => h j s (Nat.le_trans hc hj)

theorem FreshFrom.step {p : Name} {k : Nat} {σ σ' : Sig} {I I' : Imm} {H H' : AHeap} {w w' : World} (h : FreshFrom p k σ) (st : Step (Under (k :: p)) σ I H w σ' I' H' w') : FreshFrom p (k + 1) σ' := by
  intro j s hj
  cases e : σ' (s ++ (j :: p)) with
  | none => rfl
  | some x =>
    obtain ⟨s', hs'⟩ := st.new _ (h j s (by omega)) (by rw [e]; simp)
    have := tail_eq hs'
    omega

theorem under_cons {k : Nat} {p n : Name} (h : Under (k :: p) n) : Under p n := by
  obtain ⟨s, rfl⟩ := h
  exact ⟨s ++ [k], by simp⟩

/-- What code does, said of the abstract memory alone. -/
def AWP (P : Program) (p : Name) (n : Nat) (code : Code) (Q : Exit → Nat → Temps → AHeap → Prop) (c : Nat) (T : Temps) (H : AHeap) : Prop :=
  ∀ (σ : Sig) (I : Imm) (a : Act) (w : World) (Q' : Exit → Act → World → Prop), St p c n σ I T H a w →
    (∀ e c' T' H' σ' I' a' w', Q e c' T' H' → Step (Under p) σ I H w σ' I' H' w' → St p c' n σ' I' T' H' a' w' → Q' e a' w') → code.wp P Q' a w

def onNormal (K : Nat → Temps → AHeap → Prop) (Q : Exit → Nat → Temps → AHeap → Prop) : Exit → Nat → Temps → AHeap → Prop
  | .normal, c, T, H => K c T H
  | e, c, T, H => Q e c T H

def onExit (id : Nat) (Q : Exit → Nat → Temps → AHeap → Prop) : Exit → Nat → Temps → AHeap → Prop
  | .exit id', c, T, H => if id' = id then Q .normal c T H else Q (.exit id') c T H
  | e, c, T, H => Q e c T H

def onGoto (l : Nat) (K : Nat → Temps → AHeap → Prop) (Q : Exit → Nat → Temps → AHeap → Prop) : Exit → Nat → Temps → AHeap → Prop
  | .goto l', c, T, H => l' = l ∧ K c T H
  | e, c, T, H => Q e c T H

section rules
variable {p : Name} {n : Nat} {Q : Exit → Nat → Temps → AHeap → Prop} {c : Nat} {T : Temps} {H : AHeap}

theorem AWP.mono {code : Code} {Q₂ : Exit → Nat → Temps → AHeap → Prop} (h : AWP P p n code Q c T H) (hq : ∀ e c T H, Q e c T H → Q₂ e c T H) : AWP P p n code Q₂ c T H :=
  fun σ I a w Q' st k => h σ I a w Q' st fun e c' T' H' σ' I' a' w' hQ => k e c' T' H' σ' I' a' w' (hq _ _ _ _ hQ)

theorem AWP.skip (h : Q .normal c T H) : AWP P p n .skip Q c T H := fun _ _ _ _ _ st k => wp_skip (k _ _ _ _ _ _ _ _ h (Step.refl _ st.rel) st)
theorem AWP.label {l : Nat} (h : Q .normal c T H) : AWP P p n (.label l) Q c T H := fun _ _ _ _ _ st k => wp_label (k _ _ _ _ _ _ _ _ h (Step.refl _ st.rel) st)
theorem AWP.exit {id : Nat} (h : Q (.exit id) c T H) : AWP P p n (.exit id) Q c T H := fun _ _ _ _ _ st k => wp_exit (k _ _ _ _ _ _ _ _ h (Step.refl _ st.rel) st)
theorem AWP.goto {l : Nat} (h : Q (.goto l) c T H) : AWP P p n (.goto l) Q c T H := fun _ _ _ _ _ st k => wp_goto (k _ _ _ _ _ _ _ _ h (Step.refl _ st.rel) st)
theorem AWP.ret (h : Q .ret c T H) : AWP P p n .ret Q c T H := fun _ _ _ _ _ st k => wp_ret (k _ _ _ _ _ _ _ _ h (Step.refl _ st.rel) st)

theorem AWP.seq {x y : Code} (h : AWP P p n x (onNormal (AWP P p n y Q) Q) c T H) : AWP P p n (.seq x y) Q c T H := by
  intro σ I a w Q' st k
  refine wp_seq (h σ I a w _ st ?_)
  intro e c' T' H' σ' I' a' w' hQ hs st'
  cases e with
  | normal => exact hQ σ' I' a' w' Q' st' fun e c₂ T₂ H₂ σ₂ I₂ a₂ w₂ hQ₂ hs₂ st₂ => k e c₂ T₂ H₂ σ₂ I₂ a₂ w₂ hQ₂ (hs.trans hs₂) st₂
  | _ => exact k _ _ _ _ _ _ _ _ hQ hs st'

theorem AWP.cond {x : Operand} {y z : Code} {b : Bool} (hx : env T x = .val (.bool b)) (h : AWP P p n (if b then y else z) Q c T H) : AWP P p n (.cond x y z) Q c T H := by
  intro σ I a w Q' st k
  have hv := env_rel st.tr x
  rw [hx] at hv
  have : a.eval x = .bool b := by
    generalize a.eval x = v at hv
    cases hv; rfl
  exact wp_cond this (h σ I a w Q' st k)

theorem AWP.block {id : Nat} {x : Code} (h : AWP P p n x (onExit id Q) c T H) : AWP P p n (.block id x) Q c T H := by
  intro σ I a w Q' st k
  refine wp_block (h σ I a w _ st ?_)
  intro e c' T' H' σ' I' a' w' hQ hs st'
  cases e with
  | exit id' =>
    simp only [onExit] at hQ
    simp only [Exit.inBlock]
    split at hQ
    · rename_i e1
      rw [if_pos e1]; exact k _ _ _ _ _ _ _ _ hQ hs st'
    · rename_i e1
      rw [if_neg e1]; exact k _ _ _ _ _ _ _ _ hQ hs st'
  | _ => exact k _ _ _ _ _ _ _ _ hQ hs st'

theorem AWP.loop {x : Code} (Inv : Nat → Nat → Temps → AHeap → Prop) (m : Nat) (h0 : Inv m c T H)
    (round : ∀ m c T H, Inv m c T H → AWP P p n x (onNormal (fun c' T' H' => ∃ m', m' < m ∧ Inv m' c' T' H') Q) c T H) : AWP P p n (.loop x) Q c T H := by
  intro σ I a w Q' st k
  refine wp_loop_ghost (fun m a' w' => ∃ c' T' H' σ' I', Inv m c' T' H' ∧ Step (Under p) σ I H w σ' I' H' w' ∧ St p c' n σ' I' T' H' a' w') m ⟨c, T, H, σ, I, h0, Step.refl _ st.rel, st⟩ ?_
  rintro m a₁ w₁ ⟨c₁, T₁, H₁, σ₁, I₁, hI, hs₁, st₁⟩
  refine round m c₁ T₁ H₁ hI σ₁ I₁ a₁ w₁ _ st₁ ?_
  intro e c' T' H' σ' I' a' w' hQ hs st'
  cases e with
  | normal =>
    obtain ⟨m', hm, hI'⟩ := hQ
    exact ⟨m', hm, c', T', H', σ', I', hI', hs₁.trans hs, st'⟩
  | _ => exact k _ _ _ _ _ _ _ _ hQ (hs₁.trans hs) st'

theorem AWP.scope {x rest : Code} (l : Nat) (Inv : Nat → Nat → Temps → AHeap → Prop) (hf : findLabel x l = some rest)
    (first : AWP P p n x (onGoto l (fun c' T' H' => ∃ m, Inv m c' T' H') Q) c T H)
    (pass : ∀ m c T H, Inv m c T H → AWP P p n rest (onGoto l (fun c' T' H' => ∃ m', m' < m ∧ Inv m' c' T' H') Q) c T H) : AWP P p n (.scope x) Q c T H := by
  intro σ I a w Q' st k
  let R : Nat → Act → World → Prop := fun m a' w' => ∃ c' T' H' σ' I', Inv m c' T' H' ∧ Step (Under p) σ I H w σ' I' H' w' ∧ St p c' n σ' I' T' H' a' w'
  refine wp_scope_jumps l (fun a' w' => ∃ m, R m a' w') (fun a' w' => leastOf fun m => R m a' w') hf ?_ ?_
  · refine first σ I a w _ st ?_
    intro e c' T' H' σ' I' a' w' hQ hs st'
    cases e with
    | goto l' =>
      obtain ⟨rfl, m, hI⟩ := hQ
      exact ⟨rfl, m, c', T', H', σ', I', hI, hs, st'⟩
    | _ => exact k _ _ _ _ _ _ _ _ hQ hs st'
  · intro a₁ w₁ hJ
    obtain ⟨hR, _⟩ := leastOf_spec hJ
    generalize (leastOf fun m => R m a₁ w₁) = m at *
    obtain ⟨c₁, T₁, H₁, σ₁, I₁, hI, hs₁, st₁⟩ := hR
    refine pass m c₁ T₁ H₁ hI σ₁ I₁ a₁ w₁ _ st₁ ?_
    intro e c' T' H' σ' I' a' w' hQ hs st'
    cases e with
    | goto l' =>
      obtain ⟨rfl, m', hm, hI'⟩ := hQ
      have hR' : R m' a' w' := ⟨c', T', H', σ', I', hI', hs₁.trans hs, st'⟩
      exact ⟨rfl, ⟨m', hR'⟩, Nat.lt_of_le_of_lt ((leastOf_spec ⟨m', hR'⟩).2 m' hR') hm⟩
    | _ => exact k _ _ _ _ _ _ _ _ hQ (hs₁.trans hs) st'

/-- What is not known of the temporaries may be forgotten. -/
theorem AWP.forget {code : Code} (S : List Nat) (h : ∀ T' : Temps, (∀ i ∈ S, T' i = T i) → AWP P p n code Q c T' H) : AWP P p n code Q c T H := h T fun _ _ => rfl
end rules

/-! ### a region in the order of the text -/
def ayielded (ops : Array Oper) (T : Temps) (j : Nat) : Option Bool :=
  match (ops[j]?).bind (·.dst) with
  | some d =>
    match T d with
    | .val (.bool b) => some b
    | _ => none
  | none => none
def awanted (ops : Array Oper) (o : Oper) (T : Temps) : Bool :=
  match o.guard with
  | none => true
  | some (j, want) => ayielded ops T j == some want

def runList (P : Program) (call : CallF) (ops : Array Oper) (p : Name) (c : Nat) : List Nat → Temps → AHeap → Option (Temps × AHeap)
  | [], T, H => some (T, H)
  | i :: r, T, H =>
    match ops[i]? with
    | none => none
    | some o =>
      if awanted ops o T then
        match aop P call o (env T) ((c + i) :: p) H with
        | some (v, H') => runList P call ops p c r (tput T o.dst v) H'
        | none => none
      else runList P call ops p c r (tput T o.dst (.val undef)) H

/-- Every operation writes a temporary of the frame. -/
def dstOk (n : Nat) (ops : Array Oper) : Bool := ops.toList.all fun o => match o.dst with | some d => Nat.blt d n | none => true

theorem dstOk_at {n : Nat} {ops : Array Oper} (h : dstOk n ops = true) {i : Nat} {o : Oper} (ho : ops[i]? = some o) : ∀ d, o.dst = some d → d < n := by
  intro d hd
  unfold dstOk at h
  have hm : o ∈ ops.toList := by
    obtain ⟨hi, rfl⟩ := Array.getElem?_eq_some_iff.1 ho
    exact Array.mem_toList_iff.2 (Array.getElem_mem hi)
  have := (List.all_eq_true.1 h) o hm
  rw [hd] at this
  exact Nat.le_of_ble_eq_true this

theorem put_rel {σ : Sig} {I : Imm} {T : Temps} {a : Act} {n : Nat} (he : ∀ i, VRel σ I (T i) (a.tmps.getD i undef)) (hs : a.tmps.size = n) {d : Option Tmp} (hd : ∀ k, d = some k → k < n) {r : AV} {v : Value} (hv : VRel σ I r v) :
    (∀ i, VRel σ I (tput T d r i) ((a.put d v).tmps.getD i undef)) ∧ (a.put d v).tmps.size = n ∧ (a.put d v).defers = a.defers := by
  cases d with
  | none => exact ⟨he, hs, rfl⟩
  | some k =>
    have hk := hd k rfl
    refine ⟨?_, by simp [Act.put, hs], rfl⟩
    intro i
    by_cases e : i = k
    · subst e
      have : (a.put (some i) v).tmps.getD i undef = v := by
        simp [Act.put, Array.getD_eq_getD_getElem?, hs, hk]
      rw [this]
      simpa [tput, tset] using hv
    · have : (a.put (some k) v).tmps.getD i undef = a.tmps.getD i undef := by
        simp [Act.put, Array.getD_eq_getD_getElem?, Ne.symm e]
      rw [this]
      simpa [tput, tset, e] using he i

theorem yielded_rel {σ : Sig} {I : Imm} {T : Temps} {a : Act} {n : Nat} (he : ∀ i, VRel σ I (T i) (a.tmps.getD i undef)) (hs : a.tmps.size = n) {ops : Array Oper} (hd : dstOk n ops = true) (j : Nat) :
    yielded ops a.tmps j = ayielded ops T j := by
  unfold yielded ayielded
  cases e : ops[j]? with
  | none => rfl
  | some o =>
    simp only [Option.bind_some]
    cases e2 : o.dst with
    | none => rfl
    | some d =>
      have hlt := dstOk_at hd e d e2
      have hv := he d
      have hg : a.tmps[d]? = some (a.tmps.getD d undef) := by
        have : d < a.tmps.size := Nat.lt_of_lt_of_eq hlt hs.symm
        simp [Array.getD_eq_getD_getElem?, Array.getElem?_eq_getElem this]
      simp only [Option.bind_some, hg]
      generalize a.tmps.getD d undef = v at hv
      generalize T d = x at hv
      cases hv <;> first | rfl | (cases v <;> rfl)

theorem wanted_rel {σ : Sig} {I : Imm} {T : Temps} {a : Act} {n : Nat} (he : ∀ i, VRel σ I (T i) (a.tmps.getD i undef)) (hs : a.tmps.size = n) {ops : Array Oper} (hd : dstOk n ops = true) (o : Oper) :
    Region.wanted o (yielded ops a.tmps) = awanted ops o T := by
  unfold Region.wanted awanted
  split
  · rename_i h; rw [h]
  · rename_i j want h; rw [h]; simp only [yielded_rel he hs hd]

theorem runList_wp {call : CallF} (hcall : CallOK P call) {ops : Array Oper} {p : Name} {c n : Nat} (hd : dstOk n ops = true) {Q : Exit → Act → World → Prop} : ∀ (l : List Nat) (k : Nat) (T T' : Temps) (H H' : AHeap) (σ : Sig) (I : Imm) (a : Act) (w : World),
    l = List.range' k l.length → St p (c + k) n σ I T H a w → runList P call ops p c l T H = some (T', H') →
    (∀ σ' I' a' w', Step (Under p) σ I H w σ' I' H' w' → St p (c + k + l.length) n σ' I' T' H' a' w' → Q .normal a' w') → wpOps P ops Q l a w
  | [], k, T, T', H, H', σ, I, a, w, _, st, h, hk => by
    simp only [runList, Option.some.injEq, Prod.mk.injEq] at h
    obtain ⟨rfl, rfl⟩ := h
    exact hk σ I a w (Step.refl _ st.rel) (by simpa using st)
  | i :: l, k, T, T', H, H', σ, I, a, w, hl, st, h, hk => by
    rw [List.length_cons, List.range'_succ] at hl
    injection hl with hi hl
    subst hi
    simp only [runList] at h
    simp only [wpOps]
    cases ho : ops[i]? with
    | none => simp [ho] at h
    | some o =>
      simp only [ho] at h ⊢
      have hdo := dstOk_at hd ho
      rw [wanted_rel st.tr st.size hd o]
      by_cases hw : awanted ops o T = true
      · rw [if_pos hw] at h ⊢
        cases e : aop P call o (env T) ((c + i) :: p) H with
        | none => simp [e] at h
        | some x =>
          obtain ⟨r, H₁⟩ := x
          simp only [e] at h
          refine .inl (aop_wp hcall st.tr st.rel (st.fresh.here _ (Nat.le_refl _)) e ?_)
          intro v w₁ σ₁ I₁ hs₁ hv
          obtain ⟨h1, h2, h3⟩ := put_rel (fun i => (st.tr i).mono hs₁.sig hs₁.imm) st.size hdo hv
          refine runList_wp hcall hd l (i + 1) _ T' H₁ H' σ₁ I₁ _ w₁ hl ⟨h1, h2, by rw [h3]; exact st.defers, hs₁.rel, ?_⟩ h ?_
          · have := st.fresh.step hs₁
            rwa [Nat.add_assoc] at this
          · intro σ' I' a' w' hs' st'
            exact hk σ' I' a' w' ((hs₁.weaken fun _ => under_cons).trans hs') (by rw [List.length_cons, show c + i + (l.length + 1) = c + (i + 1) + l.length from by omega]; exact st')
      · rw [if_neg hw] at h ⊢
        obtain ⟨h1, h2, h3⟩ := put_rel (d := o.dst) st.tr st.size hdo (VRel.val undef)
        refine runList_wp hcall hd l (i + 1) _ T' H H' σ I _ w hl ⟨h1, h2, by rw [h3]; exact st.defers, st.rel, st.fresh.mono (by omega)⟩ h ?_
        intro σ' I' a' w' hs' st'
        exact hk σ' I' a' w' hs' (by rw [List.length_cons, show c + i + (l.length + 1) = c + (i + 1) + l.length from by omega]; exact st')

theorem AWP.region {call : CallF} (hcall : CallOK P call) {p : Name} {n id : Nat} {ops : Array Oper} {Q : Exit → Nat → Temps → AHeap → Prop} {c : Nat} {T T' : Temps} {H H' : AHeap} (hd : dstOk n ops = true)
    (h : runList P call ops p c (List.range ops.size) T H = some (T', H')) (hq : Q .normal (c + ops.size) T' H') : AWP P p n (.region id ops false) Q c T H := by
  intro σ I a w Q' st k
  refine wp_region (runList_wp hcall hd _ 0 T T' H H' σ I a w (by simp [List.range_eq_range']) (by simpa using st) h ?_)
  intro σ' I' a' w' hs st'
  exact k _ _ _ _ σ' I' a' w' hq hs (by simpa using st')

end Go.Proofs.Ytpgoddffacgcmaa.Den
