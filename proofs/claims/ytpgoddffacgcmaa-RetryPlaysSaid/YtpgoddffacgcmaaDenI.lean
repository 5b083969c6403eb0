/- One operation of the model, whichever it is, is one of the abstract memory. -/
import Derived.Test.YtpgoddffacgcmaaDenH
namespace Go.Proofs.Ytpgoddffacgcmaa.Den
variable {P : Program}

def Under (nm : Name) (n : Name) : Prop := ∃ s, n = s ++ nm

/-- A call of a function is a step of the abstract memory. -/
def Sim (P : Program) (f : FuncId) (args : List AV) (nm : Name) (H : AHeap) (r : AV) (H' : AHeap) : Prop :=
  ∀ (σ : Sig) (I : Imm) (w : World) (vs : Array Value), Fresh nm σ → VRels σ I args vs.toList → ARel σ I H w →
    Calls P f vs w fun e w' => ∃ v σ' I', e = .returned v ∧ Step (Under nm) σ I H w σ' I' H' w' ∧ VRel σ' I' r v

def isGo (P : Program) (f : FuncId) : Bool :=
  match P.funcs[f]? with
  | some fn => fn.body.isSome && !(fn.name == "runtime.NumGoroutine")
  | none => false

def CallOK (P : Program) (call : CallF) : Prop :=
  ∀ f args nm H r H', call f args nm H = some (r, H') → isGo P f = true ∧ Sim P f args nm H r H'

theorem val_wp {o : Oper} {a : Act} {w w' : World} {next : Act → World → Prop} {Q : Exit → Act → World → Prop} {v : Value}
    (h : (execOp a.eval o).run P w = .ok (.value v) w') (k : next (a.put o.dst v) w') : o.wp P a w next Q := by
  simp only [Oper.wp, h, Oper.upon]; exact k
theorem vexec {s : Sem Value} {v : Value} {w w' : World} (h : s.run P w = .ok v w') : ((do pure (.value (← s)) : Sem Next)).run P w = .ok (.value v) w' := by simp [h]
theorem skip_wp {o : Oper} {a : Act} {w w' : World} {next : Act → World → Prop} {Q : Exit → Act → World → Prop}
    (h : (execOp a.eval o).run P w = .ok .skip w') (k : next (a.put o.dst undef) w') : o.wp P a w next Q := by
  simp only [Oper.wp, h, Oper.upon]; exact k

theorem env_rel {σ : Sig} {I : Imm} {T : Temps} {a : Act} (he : ∀ i, VRel σ I (T i) (a.tmps.getD i undef)) (x : Operand) : VRel σ I (env T x) (a.eval x) := by
  cases x with
  | tmp t => exact he t
  | const v => exact .val v
  | global g => exact .val _
  | func f => exact .fn .nil .nil

theorem args_rel {σ : Sig} {I : Imm} {ρ : Env} {ρc : Operand → Value} (he : ∀ x, VRel σ I (ρ x) (ρc x)) : ∀ l : List Operand, VRels σ I (l.map ρ) (l.map ρc)
  | [] => .nil
  | x :: l => .cons (he x) (args_rel he l)

theorem opt_rel {σ : Sig} {I : Imm} {ρ : Env} {ρc : Operand → Value} (he : ∀ x, VRel σ I (ρ x) (ρc x)) (l : Option Operand) :
    (l.map ρ = none ∧ l.map ρc = none) ∨ ∃ a v, l.map ρ = some a ∧ l.map ρc = some v ∧ VRel σ I a v := by
  cases l with
  | none => exact .inl ⟨rfl, rfl⟩
  | some x => exact .inr ⟨_, _, rfl, rfl, he x⟩

theorem run_min2 (w : World) (k k' : IntKind) (x y : Int) : (Builtin.min2 (.int k x) (.int k' y)).run P w = .ok (.int k (if y < x then y else x)) w := rfl
theorem run_max2 (w : World) (k k' : IntKind) (x y : Int) : (Builtin.max2 (.int k x) (.int k' y)).run P w = .ok (.int k (if x < y then y else x)) w := rfl

theorem builtin_wp {σ : Sig} {I : Imm} {H H' : AHeap} {w : World} (hr : ARel σ I H w) {nm : Name} (hf : Fresh nm σ) {b : Builtin} {ts : Array TypeId} {ty : TypeId} {cs : Array Bool} {args : List AV} {vs : List Value} {r : AV}
    (hv : VRels σ I args vs) (h : abuiltin P b ts args nm H = some (r, H')) :
    ∃ v w' σ', (builtin b ts ty cs vs.toArray).run P w = .ok (.value v) w' ∧ Step (Under nm) σ I H w σ' I H' w' ∧ VRel σ' I r v := by
  have hn : σ nm = none := hf []
  have hnm : Under nm nm := ⟨[], rfl⟩
  unfold abuiltin at h
  split at h
  · rename_i x
    cases hv with
    | cons hx ht =>
      cases ht
      cases e : ts[0]? with
      | none => simp [e] at h
      | some t =>
        simp only [e, Option.bind_some, Option.map_eq_some_iff] at h
        obtain ⟨q, hq, hh⟩ := h
        cases hh
        obtain ⟨u, h1, h2⟩ := run_len' (P := P) w ts ty e hx hq
        exact ⟨u, w, σ, by simp [builtin, h1], Step.refl _ hr, h2⟩
  · rename_i s x
    cases hv with
    | @cons _ sv _ _ hs ht =>
      cases ht with
      | @cons _ xv _ _ hx ht =>
        cases ht
        cases e : ts[0]? with
        | none => simp [e] at h
        | some t =>
          cases e2 : ts[1]? with
          | none => simp [e, e2] at h
          | some xt =>
            simp only [e, e2, Option.bind_some] at h
            obtain ⟨v, w', σ', h1, h2, h3⟩ := run_append' (P := P) (ty := ty) (nm := Under nm) hr hn hnm hs hx h
            refine ⟨v, w', σ', ?_, h2, h3⟩
            have : (Builtin.append_ ts ty #[sv, xv]).run P w = .ok v w' := by
              rw [← h1]
              simp only [Builtin.append_, e, e2]
              rfl
            simp [builtin, this]
  · rename_i d x
    cases hv with
    | cons hd ht =>
      cases ht with
      | cons hx ht =>
        cases ht
        cases e : ts[0]? with
        | none => simp [e] at h
        | some t =>
          simp only [e, Option.bind_some] at h
          obtain ⟨v, w', h1, h2, h3⟩ := run_copy' (P := P) (ty := ty) (nm := Under nm) hr e hd hx h
          exact ⟨v, w', σ, by simp [builtin, h1], h2, h3⟩
  · cases h
    cases hv with
    | cons hx ht => cases hx; cases ht with
      | cons hy ht => cases hy; cases ht; exact ⟨_, w, σ, by simp [builtin, Builtin.min_, run_min2], Step.refl _ hr, .val _⟩
  · cases h
    cases hv with
    | cons hx ht => cases hx; cases ht with
      | cons hy ht => cases hy; cases ht; exact ⟨_, w, σ, by simp [builtin, Builtin.max_, run_max2], Step.refl _ hr, .val _⟩
  · split at h
    · rename_i hk
      subst hk
      cases h
      cases hv with
      | cons hx ht => cases hx; cases ht with
        | cons hy ht => cases hy; cases ht; exact ⟨_, w, σ, by simp [builtin, run_complex], Step.refl _ hr, .val _⟩
    · cases h
  · cases h
    cases hv with
    | cons hx ht => cases hx; cases ht; exact ⟨_, w, σ, by simp [builtin, run_real], Step.refl _ hr, .val _⟩
  · cases h
    cases hv with
    | cons hx ht => cases hx; cases ht; exact ⟨_, w, σ, by simp [builtin, run_imag], Step.refl _ hr, .val _⟩
  · cases h

theorem aop_wp {call : CallF} (hcall : CallOK P call) {o : Oper} {T : Temps} {a : Act} {σ : Sig} {I : Imm} {H H' : AHeap} {w : World} {r : AV} {nm : Name} (he : ∀ i, VRel σ I (T i) (a.tmps.getD i undef))
    (hr : ARel σ I H w) (hf : Fresh nm σ) (h : aop P call o (env T) nm H = some (r, H')) {next : Act → World → Prop} {Q : Exit → Act → World → Prop}
    (k : ∀ v w' σ' I', Step (Under nm) σ I H w σ' I' H' w' → VRel σ' I' r v → next (a.put o.dst v) w') : o.wp P a w next Q := by
  have hen := env_rel he
  have hn : σ nm = none := hf []
  have hnm : Under nm nm := ⟨[], rfl⟩
  obtain ⟨dst, op, ty, pos, after, guard⟩ := o
  cases op with
  | move x => cases h; exact val_wp (by simp [execOp]) (k _ w σ I (Step.refl _ hr) (hen x))
  | assign x => cases h; exact val_wp (by simp [execOp]) (k _ w σ I (Step.refl _ hr) (hen x))
  | pick c x y =>
    simp only [aop] at h
    split at h
    · rename_i t ht
      have hc := hen c
      rw [ht] at hc
      generalize hcv : a.eval c = cv at hc
      cases hc
      cases h
      refine val_wp (v := if t then a.eval x else a.eval y) (by simp [execOp, hcv, asBool]) (k _ w σ I (Step.refl _ hr) ?_)
      cases t
      · exact hen y
      · exact hen x
    · cases h
  | alloc e =>
    simp only [aop, Option.map_eq_some_iff] at h
    obtain ⟨z, hz, hh⟩ := h
    cases hh
    obtain ⟨v, w', σ', h1, h2, h3⟩ := run_alloc' (P := P) (nm := Under nm) hr hn hnm hz
    exact val_wp (by simp [execOp, h1]) (k v w' σ' I h2 h3)
  | box e x =>
    cases h
    obtain ⟨v, w', σ', h1, h2, h3⟩ := run_box' (P := P) (nm := Under nm) (e := e) hr hn hnm (hen x)
    exact val_wp (by simp [execOp, h1]) (k v w' σ' I h2 h3)
  | build t parts =>
    simp only [aop] at h
    split at h
    · rename_i z fs hz hu
      cases hp : places P fs.toList with
      | none => simp [hp] at h
      | some ps =>
        simp only [hp, Option.bind_some, Option.map_eq_some_iff] at h
        obtain ⟨l, hl, hh⟩ := h
        cases hh
        obtain ⟨u, h1, h2⟩ := run_build_struct (P := P) w hen hz hu hp hl
        exact val_wp (by simp [execOp, h1]) (k u w σ I (Step.refl _ hr) h2)
    · rename_i z n e hz hu
      cases hs : szOf P e with
      | none => simp [hs] at h
      | some s =>
        simp only [hs, Option.bind_some, Option.map_eq_some_iff] at h
        obtain ⟨l, hl, hh⟩ := h
        cases hh
        obtain ⟨u, h1, h2⟩ := run_build_array (P := P) w hen hz hu hs hl
        exact val_wp (by simp [execOp, h1]) (k u w σ I (Step.refl _ hr) h2)
    · cases h
  | buildSlice t len parts =>
    simp only [aop] at h
    split at h
    · rename_i e hu
      split at h
      · rename_i s z hs hz
        split at h
        · rename_i hc
          simp only [Option.map_eq_some_iff] at h
          obtain ⟨l, hl, hh⟩ := h
          cases hh
          obtain ⟨v, w', σ', h1, h2, h3⟩ := run_buildSlice' (P := P) (nm := Under nm) hr hn hnm hen hu hs hz hc.1 hc.2.1 hc.2.2 hl
          exact val_wp (by simp [execOp, h1]) (k v w' σ' I h2 h3)
        · cases h
      · cases h
    · cases h
  | load t x =>
    simp only [aop, Option.map_eq_some_iff] at h
    obtain ⟨q, hq, hh⟩ := h
    cases hh
    obtain ⟨u, h1, h2⟩ := run_loadAt (P := P) hr (hen x) hq
    exact val_wp (by simp [execOp, h1]) (k u w σ I (Step.refl _ hr) h2)
  | store t x y =>
    simp only [aop, Option.map_eq_some_iff] at h
    obtain ⟨H1, hq, hh⟩ := h
    cases hh
    obtain ⟨w', h1, h2⟩ := run_storeAt (P := P) (nm := Under nm) hr (hen x) (hen y) hq
    exact skip_wp (by simp [execOp, h1]) (k undef w' σ I h2 (.val _))
  | nilCheck x =>
    simp only [aop] at h
    have hx := hen x
    split at h
    · rename_i n off hxe
      cases h
      rw [hxe] at hx
      generalize hv : a.eval x = v at hx
      have hx' := hx
      cases hx'
      exact val_wp (by simp [execOp, hv]) (k _ w σ I (Step.refl _ hr) hx)
    · rename_i m c off hxe
      cases h
      rw [hxe] at hx
      generalize hv : a.eval x = v at hx
      have hx' := hx
      cases hx'
      exact val_wp (by simp [execOp, hv]) (k _ w σ I (Step.refl _ hr) hx)
    · rename_i f l l' hxe
      cases h
      rw [hxe] at hx
      generalize hv : a.eval x = v at hx
      have hx' := hx
      cases hx'
      exact val_wp (by simp [execOp, hv]) (k _ w σ I (Step.refl _ hr) hx)
    · cases h
  | binOp op t x y ty2 =>
    have gen : ∀ (bop : BinOp), (∀ u v r, env T x = .val u → env T y = .val v → binV bop u v = some r → (do eqGuard bop t x y u v; binOp bop t u v : Sem Value).run P w = .ok r w) → (match env T x, env T y with | .val u, .val v => (binV bop u v).map (AV.val ·, H) | _, _ => none) = some (r, H') →
        (Oper.mk dst (.binOp bop t x y ty2) ty pos after guard).wp P a w next Q := by
      intro bop hb hh
      have hx := hen x
      have hy := hen y
      split at hh
      · rename_i u v hu hv
        rw [hu] at hx
        rw [hv] at hy
        generalize hxe : a.eval x = xv at hx
        generalize hye : a.eval y = yv at hy
        cases hx
        cases hy
        simp only [Option.map_eq_some_iff] at hh
        obtain ⟨q, hq, hh⟩ := hh
        cases hh
        have := hb u v q hu hv hq
        rw [← hxe, ← hye] at this
        exact val_wp (v := q) (vexec this) (k _ w σ I (Step.refl _ hr) (.val _))
      · cases hh
    have gen2 : ∀ (bop : BinOp), bop ≠ .eql → bop ≠ .neq → ∀ u v r, env T x = .val u → env T y = .val v → binV bop u v = some r → (do eqGuard bop t x y u v; binOp bop t u v : Sem Value).run P w = .ok r w := by
      intro bop h1 h2 u v r _ _ hb
      have hg : eqGuard bop t x y u v = pure () := by
        cases bop <;> first | exact absurd rfl h1 | exact absurd rfl h2 | rfl
      simp [hg, run_binV w hb]
    cases op <;> first
      | exact gen _ (gen2 _ (by simp) (by simp)) h
      | skip
    · simp only [aop, Option.map_eq_some_iff] at h
      obtain ⟨q, hq, hh⟩ := h
      cases hh
      obtain ⟨u, h1, h2⟩ := run_aeq (P := P) w (hen x) (hen y) hq
      exact val_wp (v := u) (vexec h1) (k u w σ I (Step.refl _ hr) h2)
    · simp only [aop, Option.map_eq_some_iff] at h
      obtain ⟨q, hq, hh⟩ := h
      cases hh
      obtain ⟨u, h1, h2⟩ := run_aeq (P := P) w (hen x) (hen y) hq
      exact val_wp (v := u) (vexec h1) (k u w σ I (Step.refl _ hr) h2)
  | unOp op t x =>
    have hx := hen x
    cases op with
    | not =>
      simp only [aop] at h
      split at h
      · rename_i b hb
        rw [hb] at hx
        generalize hv : a.eval x = v at hx
        cases hx
        cases h
        exact val_wp (v := .bool !b) (by simp [execOp, hv, Op.unary]) (k _ w σ I (Step.refl _ hr) (.val _))
      · cases h
    | neg =>
      simp only [aop] at h
      split at h
      · rename_i kd n hb
        rw [hb] at hx
        generalize hv : a.eval x = v at hx
        cases hx
        cases h
        exact val_wp (v := .int kd (kd.wrap (0 - n))) (by simp [execOp, hv, Op.unary, Op.intArith]) (k _ w σ I (Step.refl _ hr) (.val _))
      · cases h
    | xor =>
      simp only [aop] at h
      split at h
      · rename_i kd n hb
        rw [hb] at hx
        generalize hv : a.eval x = v at hx
        cases hx
        cases h
        exact val_wp (v := .int kd (kd.wrap ((BitVec.ofInt kd.bits (if kd.signed then -1 else kd.max) ^^^ BitVec.ofInt kd.bits n).toNat))) (vexec (by simp [hv, Op.unary, Op.intBits])) (k _ w σ I (Step.refl _ hr) (.val _))
      · cases h
    | _ => simp [aop] at h
  | convert src dst' x =>
    have hx := hen x
    simp only [aop] at h
    split at h
    · rename_i s hs
      rw [hs] at hx
      generalize hv : a.eval x = v at hx
      cases hx
      split at h
      · rename_i e h1 h2
        split at h
        · rename_i hu
          cases h
          obtain ⟨v, w', σ', g1, g2, g3⟩ := run_toBytes' (P := P) (nm := Under nm) hr hn hnm (s := s) h1 h2 hu
          exact val_wp (vexec (by rw [hv]; exact g1)) (k v w' σ' I g2 g3)
        · cases h
      · simp only [Option.map_eq_some_iff] at h
        obtain ⟨q, hq, hh⟩ := h
        cases hh
        exact val_wp (vexec (by rw [hv]; exact run_convV w hq)) (k _ w σ I (Step.refl _ hr) (.val _))
    · rename_i l c hs
      rw [hs] at hx
      generalize hv : a.eval x = v at hx
      cases hx
      split at h
      · rename_i e h1 h2
        split at h
        · rename_i hu
          cases h
          exact val_wp (vexec (by rw [hv]; exact run_convert_bytes_nil (P := P) w src e h1 (isU8_eq hu) _ _ dst' h2)) (k _ w σ I (Step.refl _ hr) (.val _))
        · cases h
      · cases h
    · rename_i u hns hnn hs
      rw [hs] at hx
      generalize hv : a.eval x = v at hx
      cases hx
      simp only [Option.map_eq_some_iff] at h
      obtain ⟨q, hq, hh⟩ := h
      cases hh
      exact val_wp (vexec (by rw [hv]; exact run_convV w hq)) (k _ w σ I (Step.refl _ hr) (.val _))
    · rename_i _ _ hnv
      split at h
      · rename_i e h1 h2
        split at h
        · rename_i hu
          cases hc : srcCells H 1 (env T x) with
          | none => simp [hc] at h
          | some kc =>
            obtain ⟨kk, cells⟩ := kc
            simp only [hc, Option.bind_some, Option.map_eq_some_iff] at h
            obtain ⟨l, hl, hh⟩ := h
            cases hh
            exact val_wp (vexec (run_toText' (P := P) hr hx h1 h2 hu hc hl (fun y hy => hnv y hy))) (k _ w σ I (Step.refl _ hr) (.val _))
        · cases h
      · cases h
  | makeFunc fn first captured =>
    cases h
    refine val_wp (v := .func fn (first.map a.eval) (captured.map a.eval)) (by simp [execOp, Instr.makeFunc]) (k _ w σ I (Step.refl _ hr) (.fn ?_ ?_))
    · simpa using args_rel hen first.toList
    · simpa using args_rel hen captured.toList
  | makeSlice t l c =>
    simp only [aop] at h
    split at h
    · rename_i e ln cn hu hl hc
      split at h
      · rename_i s z by_ hs hz hb
        split at h
        · rename_i hcond
          cases h
          obtain ⟨kl, hkl⟩ := natOf_rel (hen l) hl
          obtain ⟨kc, hkc⟩ := natOf_rel (hen c) hc
          obtain ⟨v, w', σ', h1, h2, h3⟩ := run_makeSlice' (P := P) (nm := Under nm) (kl := kl) (kc := kc) hr hn hnm hu hs hz hb hcond.1 hcond.2.1 hcond.2.2.1 hcond.2.2.2.1 hcond.2.2.2.2
          exact val_wp (vexec (by rw [hkl, hkc]; exact h1)) (k v w' σ' I h2 h3)
        · cases h
      · cases h
    · cases h
  | slice t x lo hi mx =>
    cases mx with
    | some m => simp [aop] at h
    | none =>
      simp only [aop, Option.map_eq_some_iff] at h
      obtain ⟨q, hq, hh⟩ := h
      cases hh
      obtain ⟨u, h1, h2⟩ := run_slice' (P := P) w hr (hen x) (opt_rel hen lo) (opt_rel hen hi) hq
      exact val_wp (vexec (by simpa using h1)) (k u w σ I (Step.refl _ hr) h2)
  | fieldAddr s x f =>
    simp only [aop, Option.map_eq_some_iff] at h
    obtain ⟨q, hq, hh⟩ := h
    cases hh
    obtain ⟨u, h1, h2⟩ := run_fieldAt' (P := P) w (hen x) hq
    exact val_wp (vexec h1) (k u w σ I (Step.refl _ hr) h2)
  | field t x f =>
    simp only [aop] at h
    split at h
    · rename_i fs l hu hl
      cases hf : fs[f]? with
      | none => simp [hf] at h
      | some fl =>
        simp only [hf, Option.bind_some, Option.map_eq_some_iff] at h
        obtain ⟨q, hq, hh⟩ := h
        cases hh
        have hx := hen x
        rw [hl] at hx
        obtain ⟨u, h1, h2⟩ := run_field' (P := P) w hu hx hf hq
        exact val_wp (vexec h1) (k u w σ I (Step.refl _ hr) h2)
    · cases h
  | indexAddr t x i =>
    simp only [aop, Option.map_eq_some_iff] at h
    obtain ⟨q, hq, hh⟩ := h
    cases hh
    obtain ⟨u, h1, h2⟩ := run_indexAt' (P := P) w (hen x) (hen i) hq
    exact val_wp (vexec h1) (k u w σ I (Step.refl _ hr) h2)
  | index t x i =>
    simp only [aop, Option.map_eq_some_iff] at h
    obtain ⟨q, hq, hh⟩ := h
    cases hh
    obtain ⟨u, h1, h2⟩ := run_index' (P := P) w (hen x) (hen i) hq
    exact val_wp (vexec h1) (k u w σ I (Step.refl _ hr) h2)
  | extract x i =>
    simp only [aop] at h
    split at h
    · rename_i l hl
      simp only [Option.map_eq_some_iff] at h
      obtain ⟨q, hq, hh⟩ := h
      cases hh
      have hx := hen x
      rw [hl] at hx
      obtain ⟨u, h1, h2⟩ := run_extract' (P := P) w hx hq
      exact val_wp (vexec h1) (k u w σ I (Step.refl _ hr) h2)
    · cases h
  | call c =>
    simp only [aop] at h
    split at h
    · rename_i b hb
      obtain ⟨v, w', σ', h1, h2, h3⟩ := builtin_wp (P := P) (ty := ty) (cs := c.args.map fun | .const _ => true | _ => false) hr hf (args_rel hen c.args.toList) h
      refine val_wp ?_ (k v w' σ' I h2 h3)
      have e1 : (c.args.toList.map a.eval).toArray = c.args.map a.eval := by apply Array.ext'; simp
      rw [e1] at h1
      simp only [execOp, resolve, hb, Sem.run_bind, Sem.run_pure, Result.andThen_ok, invoke]
      exact h1
    · rename_i f hfv
      unfold acall at h
      split at h
      · rename_i g first captured hg
        have hx := hen f
        rw [hg] at hx
        generalize hv : a.eval f = v at hx
        cases hx with
        | @fn _ _ _ fa ca h1 h2 =>
          obtain ⟨hgo, hsim⟩ := hcall _ _ _ _ _ _ h
          unfold isGo at hgo
          split at hgo
          · rename_i fn hfn
            simp only [Bool.and_eq_true, Bool.not_eq_true'] at hgo
            have hex : (execOp a.eval ⟨dst, .call c, ty, pos, after, guard⟩).run P w = .ok (.enter g (fa ++ c.args.map a.eval ++ ca)) w := by
              have hbn : fn.body.isNone = false := by cases e : fn.body <;> simp_all
              have hname : ¬ fn.name = "runtime.NumGoroutine" := by simpa using hgo.2
              simp [execOp, resolve, hfv, hv, Deferred.ofValue, invoke, callFunc, hfn, hname]
              intro hnone
              rw [hnone] at hbn; cases hbn
            unfold Oper.wp
            rw [hex]
            simp only [Oper.upon]
            refine (hsim σ I w _ hf ?_ hr).mono ?_
            · simp only [Array.toList_append, Array.toList_map]
              exact (h1.append (args_rel hen _)).append h2
            · rintro e w' ⟨v, σ', I', rfl, st, hv'⟩
              exact k v w' σ' I' st hv'
          · cases hgo
      · cases h
    · cases h
  | _ => simp [aop] at h

end Go.Proofs.Ytpgoddffacgcmaa.Den
