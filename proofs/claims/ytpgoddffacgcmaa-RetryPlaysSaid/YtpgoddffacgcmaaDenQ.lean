/- From contracts of the model to steps of the abstract memory, and back. -/
import Derived.Test.YtpgoddffacgcmaaDenP
import Derived.Below
namespace Go.Proofs.Ytpgoddffacgcmaa.Den
open Go.RowKit
variable {P : Program}

theorem Step.below {nm : Name → Prop} {σ : Sig} {I : Imm} {H : AHeap} {w w' : World} (h : ARel σ I H w) (hb : Below w.heap.size w w') : Step nm σ I H w σ I H w' where
  rel :=
    { rows := fun n row hn => by
        obtain ⟨p, c, el, fr, h1, h2, h3⟩ := h.rows n row hn
        exact ⟨p, c, el, fr, h1, by rw [hb.block _ (Array.getElem?_eq_some_iff.1 h2).1]; exact h2, h3⟩
      inj := h.inj
      imm := fun m b c hc => by
        obtain ⟨el, fr, h1⟩ := h.imm m b c hc
        exact ⟨el, fr, by rw [hb.block _ (Array.getElem?_eq_some_iff.1 h1).1]; exact h1⟩
      dis := h.dis }
  sig := Sig.le_refl _
  new := fun _ h h' => absurd h h'
  imm := Imm.le_refl _
  inew := fun _ _ _ h => .inl h
  own := fun _ h => .inl h
  fr := ⟨hb.os, hb.tape, hb.output, hb.size, fun b hb' _ => hb.block b hb'⟩

/-- A function that only makes new memory, and gives values alone. -/
theorem Sim.below {f : FuncId} {args : List AV} {nm : Name} {H : AHeap} {r : AV} {vs : Array Value} {v : Value} (hargs : ∀ (σ : Sig) (I : Imm) (us : List Value), VRels σ I args us → us = vs.toList)
    (hr : ∀ (σ : Sig) (I : Imm), VRel σ I r v) (h : ∀ w, Calls P f vs w fun e w' => e = .returned v ∧ Below w.heap.size w w') : Sim P f args nm H r H := by
  intro σ I w us _ hv ha
  have : us = vs := by
    have := hargs σ I us.toList hv
    exact Array.ext' this
  subst this
  refine (h w).mono ?_
  rintro e w' ⟨rfl, hb⟩
  exact ⟨v, σ, I, rfl, Step.below ha hb, hr σ I⟩

/-- What an answer is, in the model: nothing of the old memory was touched that is not ours. -/
theorem Sim.calls {f : FuncId} {args : List AV} {nm : Name} {H' : AHeap} {r : AV} (h : Sim P f args nm (fun _ => none) r H') {I : Imm} {w : World} {vs : Array Value} (hv : VRels (fun _ => none) I args vs.toList)
    (hI : ∀ m b c, I m b = some c → ∃ el fr, w.heap[b]? = some (.cells c el fr)) {v : Value} (hr : r = .val v) : Calls P f vs w fun e w' => e = .returned v ∧ Below w.heap.size w w' := by
  refine (h (fun _ => none) I w vs (fun _ => rfl) hv ⟨fun n row hn => (by cases hn), fun n n' p p' hn => absurd rfl hn, hI, fun n p m hn => absurd rfl hn⟩).mono ?_
  rintro e w' ⟨u, σ', I', rfl, hs, hu⟩
  subst hr
  cases hu
  refine ⟨rfl, hs.fr.os, hs.fr.tape, hs.fr.output, hs.fr.size, fun k hk => hs.fr.block k hk ?_⟩
  rintro ⟨n, p, hn, _⟩
  exact hn rfl

/-- Names under a function's own are unused when it begins. -/
theorem sim_go {f : FuncId} {fn : Func} {code : Code} {n : Nat} {args : List AV} {nm : Name} {H H' : AHeap} {r : AV} (hf : P.funcs[f]? = some fn) (hb : fn.body = some code) (hn : fn.ntmps = n) (ha : args.length ≤ n)
    (h : (∀ s, H (s ++ nm) = none) → AWP P nm n code (fun e _ T H₁ => (e = .normal ∨ e = .ret) ∧ (∃ l, ares P T H₁ fn.results.toList = some l ∧ r = ares1 l) ∧ ∀ k row, H' k = some row → H₁ k = some row) 0 (T0 args) H) :
    Sim P f args nm H r H' := by
  intro σ I w vs hfr hv hr
  refine sim_of hf hb hn ha (h fun s => ?_) σ I w vs hfr hv hr
  cases e : H (s ++ nm) with
  | none => rfl
  | some row =>
    obtain ⟨q, _, _, _, hq, _⟩ := hr.rows _ row e
    rw [hfr s] at hq; cases hq

theorem CallOK.of {call : CallF} (h : ∀ f args nm H r H', call f args nm H = some (r, H') → isGo P f = true ∧ Sim P f args nm H r H') : CallOK P call := h

end Go.Proofs.Ytpgoddffacgcmaa.Den
