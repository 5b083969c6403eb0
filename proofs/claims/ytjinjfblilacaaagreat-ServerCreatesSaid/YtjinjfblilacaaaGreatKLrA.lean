/- A law that a run of the executor answered; a text of so many bytes that are not known. -/
import Derived.Test.YtjinjfblilacaaaGreatKRsO
import Derived.Test.YtjinjfblilacaaaGreatKSymPt
import Derived.Test.YtjinjfblilacaaaGreatKWkT
set_option linter.unusedVariables false
set_option linter.unusedSimpArgs false
section
set_option linter.unusedSimpArgs false
set_option linter.unusedVariables false
namespace Go.Proofs.YtjinjfblilacaaaGreat.Den
open Go.RowKit
variable {P : Program} {ρ : Vals}
def isTrue : SRes -> Bool
  | some (.bool b, _) => b
  | _ => false
end Go.Proofs.YtjinjfblilacaaaGreat.Den
end
section
set_option linter.unusedSimpArgs false
set_option linter.unusedVariables false
namespace Go.Proofs.YtjinjfblilacaaaGreat.Den
open Go.RowKit
variable {P : Program}
def trueS : Spec := fun args nm H =>
  match args with
  | [] => some (vb true, H)
  | _ => none
/-- It is true, whatever the memory. -/
theorem fn_true {ρ : Vals} {sc : SCall} (hsc : SCallOK P ρ sc) {f : FuncId} (h : isTrue (sc f [] ⟨0, .nil⟩) = true) : FnOK P f trueS := by
  have hg : isGo P f = true := by
    cases hc : sc f [] ⟨0, .nil⟩ with
    | none => rw [hc] at h; cases h
    | some x => exact (hsc _ _ _ _ _ hc).1
  refine ⟨hg, fun args nm H r H' hs => ?_⟩
  unfold trueS at hs
  split at hs
  · cases hs
    have key : ∃ H₁, Sim P f [] nm (fun _ => none) (vb true) H₁ := by
      cases hc : sc f [] ⟨0, .nil⟩ with
      | none => rw [hc] at h; cases h
      | some x =>
        obtain ⟨r, h'⟩ := x
        rw [hc] at h
        cases r with
        | bool b =>
          have hb : b = true := h
          subst hb
          obtain ⟨_, g⟩ := hsc _ _ _ _ _ hc
          obtain ⟨z, H₁, k1, ν', k2, k3, k4, k5⟩ := g (fun _ => none) (fun _ => none) nm [] ⟨fun n row hn => (by rw [show (⟨0, .nil⟩ : Mem).get n = none from nil_get n] at hn; cases hn), fun n k m hn => (by cases hn), fun n hn => absurd rfl hn⟩ (fun n s hn => (by cases hn)) .nil
          cases k5
          exact ⟨H₁, k1⟩
        | _ => cases h
    obtain ⟨H₁, hsim⟩ := key
    have hg0 : givenH (fun _ => False) H = fun _ => none := by
      funext k
      unfold givenH
      rw [if_neg (fun h => h)]
    have hfr := Sim.frame (D := fun _ => False) (H := H) (H' := H₁) (by rw [hg0]; exact hsim)
    intro σ I w vs hfresh hv har
    refine (hfr σ I w vs hfresh hv har).mono ?_
    rintro e w' ⟨v, σ', I', rfl, st, hr⟩
    refine ⟨v, σ', I', rfl, st.trans (Step.forget st.rel ?_), hr⟩
    intro k row hk
    have hnu : ¬ Under nm k := by
      rintro ⟨s, rfl⟩
      obtain ⟨p, _, _, _, h1, _⟩ := har.rows _ _ hk
      rw [hfresh s] at h1
      cases h1
    unfold leftH
    rw [if_neg (by rintro (h | h); exact hnu h; exact h), hk]
  · cases hs
end Go.Proofs.YtjinjfblilacaaaGreat.Den
end
