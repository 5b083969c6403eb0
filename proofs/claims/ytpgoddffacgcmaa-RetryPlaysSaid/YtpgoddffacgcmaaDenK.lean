/- A function over the abstract memory: from a triple of its body to a step of its calls. -/
import Derived.Test.YtpgoddffacgcmaaDenJ
namespace Go.Proofs.Ytpgoddffacgcmaa.Den
variable {P : Program}

def ares (P : Program) (T : Temps) (H : AHeap) : List ResultVar → Option (List AV)
  | [] => some []
  | .tmp t :: r => (ares P T H r).map (T t :: ·)
  | .cell a t :: r => (aload P t (T a) H).bind fun x => (ares P T H r).map (x :: ·)
def ares1 : List AV → AV
  | [x] => x
  | l => .tup l

theorem load_ptr {σ : Sig} {I : Imm} {H : AHeap} {t : TypeId} {x r : AV} {v : Value} (hx : VRel σ I x v) (h : aload P t x H = some r) : ∃ ad, v = .pointer (some ad) := by
  unfold aload at h
  cases hx with
  | ptr => exact ⟨_, rfl⟩
  | imp => exact ⟨_, rfl⟩
  | _ => simp at h

theorem ares_run {σ : Sig} {I : Imm} {T : Temps} {H : AHeap} {w : World} {tmps : Array Value} (he : ∀ i, VRel σ I (T i) (tmps.getD i undef)) (hr : ARel σ I H w) : ∀ (rs : List ResultVar) (l : List AV), ares P T H rs = some l →
    ∃ vs : List Value, (rs.mapM fun | .tmp t => pure (tmps.getD t undef) | .cell a t => do loadVar t (← asAddr (tmps.getD a undef)) : Sem (List Value)).run P w = .ok vs w ∧ VRels σ I l vs
  | [], l, h => by simp [ares] at h; subst h; exact ⟨[], by simp, .nil⟩
  | .tmp t :: rs, l, h => by
    simp only [ares, Option.map_eq_some_iff] at h
    obtain ⟨l', h1, rfl⟩ := h
    obtain ⟨vs, h2, h3⟩ := ares_run he hr rs l' h1
    refine ⟨tmps.getD t undef :: vs, ?_, .cons (he t) h3⟩
    rw [List.mapM_cons]
    simp only [Sem.run_bind, Sem.run_pure, Result.andThen_ok]
    rw [h2]
    rfl
  | .cell a t :: rs, l, h => by
    simp only [ares] at h
    cases e : aload P t (T a) H with
    | none => simp [e] at h
    | some x =>
      simp only [e, Option.bind_some, Option.map_eq_some_iff] at h
      obtain ⟨l', h1, rfl⟩ := h
      obtain ⟨vs, h2, h3⟩ := ares_run he hr rs l' h1
      obtain ⟨u, h4, h5⟩ := run_loadAt (P := P) hr (he a) e
      obtain ⟨ad, had⟩ := load_ptr (he a) e
      refine ⟨u :: vs, ?_, .cons h5 h3⟩
      rw [had] at h4
      have h6 : (loadVar t ad).run P w = .ok u w := by simpa [Instr.loadAt, run_sureAddr'] using h4
      have h7 : (do loadVar t (← asAddr (tmps.getD a undef)) : Sem Value).run P w = .ok u w := by
        rw [had]; simp [asAddr, h6]
      rw [List.mapM_cons, Sem.run_bind]
      simp only
      rw [h7, Result.andThen_ok, Sem.run_bind, h2]
      rfl

theorem results_run {σ : Sig} {I : Imm} {T : Temps} {H : AHeap} {w : World} {tmps : Array Value} {fn : Func} {l : List AV} (he : ∀ i, VRel σ I (T i) (tmps.getD i undef)) (hr : ARel σ I H w) (h : ares P T H fn.results.toList = some l) :
    ∃ v, (results fn tmps).run P w = .ok v w ∧ VRel σ I (ares1 l) v := by
  obtain ⟨vs, h1, h2⟩ := ares_run he hr fn.results.toList l h
  refine ⟨if h : vs.toArray.size = 1 then vs.toArray[0] else .tuple vs.toArray, ?_, ?_⟩
  · unfold results
    rw [Array.mapM_eq_mapM_toList]
    simp only [Sem.run_bind, Sem.run_map]
    erw [h1]
    rfl
  · cases h2 with
    | nil => exact .tup .nil
    | @cons a v l vs hv ht =>
      cases ht with
      | nil => exact hv
      | cons h' t => exact .tup (.cons hv (.cons h' t))

def T0 (args : List AV) : Temps := fun i => (args[i]?).getD (.val undef)

theorem sim_of {f : FuncId} {fn : Func} {code : Code} {n : Nat} {args : List AV} {nm : Name} {H H' : AHeap} {r : AV} (hf : P.funcs[f]? = some fn) (hb : fn.body = some code) (hn : fn.ntmps = n) (ha : args.length ≤ n)
    (h : AWP P nm n code (fun e _ T H₁ => (e = .normal ∨ e = .ret) ∧ (∃ l, ares P T H₁ fn.results.toList = some l ∧ r = ares1 l) ∧ ∀ k row, H' k = some row → H₁ k = some row) 0 (T0 args) H) :
    Sim P f args nm H r H' := by
  intro σ I w vs hfr hv hr
  refine calls_of_wp hf hb ?_
  have hlen : args.length = vs.size := by simpa using hv.length
  refine h σ I _ w _ ⟨?_, ?_, rfl, hr, ?_⟩ ?_
  · intro i
    by_cases hi : i < vs.size
    · have h1 : (vs ++ Array.replicate (fn.ntmps - vs.size) undef).getD i undef = vs[i] := by
        simp [Array.getD_eq_getD_getElem?, Array.getElem?_append_left hi, hi]
      rw [h1]
      obtain ⟨v, h2, h3⟩ := hv.get (List.getElem?_eq_getElem (by omega : i < args.length))
      have h4 : vs[i] = v := by
        have : vs[i]? = some v := by simpa using h2
        rw [Array.getElem?_eq_getElem hi] at this
        exact Option.some.inj this
      rw [h4]
      simpa [T0, List.getElem?_eq_getElem (by omega : i < args.length)] using h3
    · have h1 : (vs ++ Array.replicate (fn.ntmps - vs.size) undef).getD i undef = undef := by
        rw [Array.getD_eq_getD_getElem?, Array.getElem?_append_right (by omega)]
        by_cases h2 : i - vs.size < fn.ntmps - vs.size
        · simp [h2]
        · simp [h2]
      rw [h1]
      have h2 : T0 args i = .val undef := by simp [T0, List.getElem?_eq_none (by omega : args.length ≤ i)]
      rw [h2]
      exact .val _
  · simp; omega
  · intro j s _
    have := hfr (s ++ [j])
    simpa using this
  · rintro e c' T' H₁ σ' I' a' w' ⟨he, ⟨l, hl, rfl⟩, hsub⟩ hs st
    obtain ⟨v, h1, h2⟩ := results_run st.tr st.rel hl
    have hfin : bodyPost P fn (fun e w' => ∃ v σ' I', e = .returned v ∧ Step (Under nm) σ I H w σ' I' H' w' ∧ VRel σ' I' (ares1 l) v) .ret a' w' :=
      ⟨st.defers, v, h1, v, σ', I', rfl, hs.trans (Step.forget hs.rel hsub), h2⟩
    rcases he with rfl | rfl
    · exact hfin
    · exact hfin

end Go.Proofs.Ytpgoddffacgcmaa.Den
