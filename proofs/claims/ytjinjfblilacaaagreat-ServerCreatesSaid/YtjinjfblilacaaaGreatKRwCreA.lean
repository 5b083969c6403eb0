/- Arguments that are rows of numbers, as lent values. -/
import Derived.Test.YtjinjfblilacaaaGreatKCrE
import Derived.OpenShut
import Derived.Deep.Matrix
set_option linter.unusedVariables false
set_option linter.unusedSimpArgs false
set_option linter.unusedSimpArgs false
set_option linter.unusedVariables false
namespace Go.Proofs.YtjinjfblilacaaaGreat.Den
open Go.RowKit
/-- All blocks of cells of a world, as the caller's. -/
def immOf (w : World) : Imm := fun m b => if m = false then (match w.heap[b]? with | some (.cells c _ _) => some c | _ => none) else none
theorem immOf_ok (w : World) : ∀ m b c, immOf w m b = some c -> ∃ el fr, w.heap[b]? = some (.cells c el fr) := by
  intro m b c h
  unfold immOf at h
  split at h
  · split at h
    · rename_i c' el fr hb
      cases h
      exact ⟨el, fr, hb⟩
    · cases h
  · cases h
theorem im_row {w : World} {σ : Sig} {b off len cap : Nat} {row : List AV} (hcells : ∀ (j : Nat) (a : AV), row[j]? = some a -> ∃ v, w.cell? ⟨b, off + j, none⟩ = some v /\ VRel σ (immOf w) a v) (hp : 0 < row.length) (hl : len <= cap) :
    VRel σ (immOf w) (.im false len row) (.slice (some ⟨b, off, none⟩) len cap) := by
  have cells : ∀ (j : Nat) (a : AV), row[j]? = some a -> ∃ c el fr v, w.heap[b]? = some (.cells c el fr) /\ c[off + j]? = some v /\ VRel σ (immOf w) a v := by
    intro j a ha
    obtain ⟨v, h1, h2⟩ := hcells j a ha
    unfold World.cell? at h1
    cases e : w.heap[b]? with
    | none => simp [e] at h1
    | some o =>
      cases o with
      | cells c el fr => exact ⟨c, el, fr, v, rfl, by simpa [e] using h1, h2⟩
      | _ => simp [e] at h1
  obtain ⟨c, el, fr, _, hb, _, _⟩ := cells 0 row[0] (List.getElem?_eq_getElem hp)
  have cells' : ∀ (j : Nat) (a : AV), row[j]? = some a -> ∃ v, c[off + j]? = some v /\ VRel σ (immOf w) a v := by
    intro j a ha
    obtain ⟨c', el', fr', v, h1, h2, h3⟩ := cells j a ha
    rw [hb] at h1
    cases h1
    exact ⟨v, h2, h3⟩
  refine .im (b := b) (o := off) (c := c) (by simp [immOf, hb]) (VRels.of_get ?_ fun j a v ha hv => ?_) hl
  · obtain ⟨v, h1, _⟩ := cells' (row.length - 1) row[row.length - 1] (List.getElem?_eq_getElem (by omega))
    have := (Array.getElem?_eq_some_iff.1 h1).1
    rw [seg_length]; omega
  · obtain ⟨v', h1, h2⟩ := cells' j a ha
    have hj : j < row.length := (List.getElem?_eq_some_iff.1 ha).1
    rw [seg_get _ _ _ _ hj, h1] at hv
    cases hv
    exact h2
/-- A slice of whole numbers. -/
theorem im_nums {w : World} {σ : Sig} {k : IntKind} {a : Addr} {len cap : Nat} {zs : List Int} (hl : len <= cap) (hz : zs.length = cap) (hc : ∀ j, j < zs.length -> w.cell? (a.add j) = some (.int k (zs.getD j 0))) :
    VRel σ (immOf w) (.im false len ((zs.take len).map fun z => .val (.int k z))) (.slice (some a) len cap) := by
  cases len with
  | zero => exact .im0
  | succ len =>
    obtain ⟨b, off, rfl, hcell⟩ := ints_at hc (by omega)
    refine im_row (fun j x hx => ?_) (by simp; omega) hl
    rw [List.getElem?_map] at hx
    cases e : (zs.take (len + 1))[j]? with
    | none => rw [e] at hx; cases hx
    | some z =>
      rw [e] at hx
      cases hx
      have hj : j < (zs.take (len + 1)).length := (List.getElem?_eq_some_iff.1 e).1
      rw [List.length_take] at hj
      rw [List.getElem?_take_of_lt (by omega)] at e
      refine ⟨_, hcell j (by omega), ?_⟩
      have : zs.getD j 0 = z := by rw [List.getD_eq_getElem?_getD, e]; rfl
      rw [this]
      exact .val _
end Go.Proofs.YtjinjfblilacaaaGreat.Den
