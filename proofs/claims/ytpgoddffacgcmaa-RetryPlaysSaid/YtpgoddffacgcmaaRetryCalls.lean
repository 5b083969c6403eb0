/- What the laws of retry call, as steps of the abstract memory. -/
import Derived.Test.YtpgoddffacgcmaaRetryDoubles
import Derived.Test.YtpgoddffacgcmaaDenQ
namespace Go.Proofs.Ytpgoddffacgcmaa.Den
open Go.RowKit

abbrev vi (x : Int) : AV := .val (.int .i64 x)
abbrev vb (x : Bool) : AV := .val (.bool x)

/-- What is called. -/
def callR : CallF := fun f args _ H =>
  if f = 6 then (match args with
    | [] => some (vb true, H)
    | _ => none)
  else if f = 7 then (match args with
    | [.val (.int .i64 a), .val (.int .i64 n)] => if 0 < n ∧ n ≤ 9223372036854775807 then some (vi (a % n), H) else none
    | _ => none)
  else if f = 8 ∨ f = 9 then (match args with
    | [.val (.int .i64 a)] => some (.agg [vi a, vi 1], H)
    | _ => none)
  else if f = 10 ∨ f = 11 then (match args with
    | [.agg [.val (.int .i64 d), .val (.int .i64 _)], .val (.int .i64 now)] => some (vb (decide (d ≤ now)), H)
    | _ => none)
  else if f = 12 ∨ f = 13 then (match args with
    | [.agg [.val (.int .i64 _), .val (.int .i64 t)], .val (.int .i64 now)] => if 0 ≤ t ∧ (t ≤ 4 ∨ t = 8) then some (.agg [vi (wrap64 (now + t)), vi (nextWait t.toNat)], H) else none
    | _ => none)
  else none

theorem vrels1 {σ : Sig} {I : Imm} {x : Value} {us : List Value} (h : VRels σ I [.val x] us) : us = [x] := by
  cases h with | cons h t => cases t; cases h; rfl
theorem vrels2 {σ : Sig} {I : Imm} {x y : Value} {us : List Value} (h : VRels σ I [.val x, .val y] us) : us = [x, y] := by
  cases h with | cons h t => cases h; rw [vrels1 t]
theorem vrels_t {σ : Sig} {I : Imm} {a b y : Value} {us : List Value} (h : VRels σ I [.agg [.val a, .val b], .val y] us) : us = [.agg #[a, b], y] := by
  cases h with
  | cons h t =>
    rw [vrels1 t]
    cases h with
    | agg h =>
      rename_i arr
      have := vrels2 h
      have : arr = #[a, b] := Array.ext' this
      rw [this]
theorem vrel_t (σ : Sig) (I : Imm) (a b : Value) : VRel σ I (.agg [.val a, .val b]) (.agg #[a, b]) := .agg (.cons (.val _) (.cons (.val _) .nil))

theorem callR_ok : CallOK Try.prog callR := by
  intro f args nm H r H' h
  unfold callR at h
  split at h
  · rename_i e; subst e
    split at h
    · cases h
      exact ⟨by kernel_rfl, Sim.below (vs := #[]) (fun σ I us h => by cases h; rfl) (fun _ _ => .val _) fun w => known_any w⟩
    · cases h
  · split at h
    · rename_i e; subst e
      split at h
      · rename_i a n
        split at h
        · rename_i hn
          cases h
          exact ⟨by kernel_rfl, Sim.below (vs := #[.int .i64 a, .int .i64 n]) (fun σ I us h => vrels2 h) (fun _ _ => .val _) fun w => (within_any a n hn.1 hn.2 w).mono fun e w' ⟨h1, h2⟩ => ⟨h1, h2 ▸ Below.refl _ _⟩⟩
        · cases h
      · cases h
    · split at h
      · rename_i e
        split at h
        · rename_i a
          cases h
          rcases e with rfl | rfl
          · exact ⟨by kernel_rfl, Sim.below (vs := #[.int .i64 a]) (fun σ I us h => vrels1 h) (fun σ I => vrel_t σ I _ _) fun w => reset_any a w⟩
          · exact ⟨by kernel_rfl, Sim.below (vs := #[.int .i64 a]) (fun σ I us h => vrels1 h) (fun σ I => vrel_t σ I _ _) fun w => xreset_any a w⟩
        · cases h
      · split at h
        · rename_i e
          split at h
          · rename_i d t now
            cases h
            rcases e with rfl | rfl
            · exact ⟨by kernel_rfl, Sim.below (vs := #[.agg #[.int .i64 d, .int .i64 t], .int .i64 now]) (fun σ I us h => vrels_t h) (fun _ _ => .val _) fun w => ready_any d t now w⟩
            · exact ⟨by kernel_rfl, Sim.below (vs := #[.agg #[.int .i64 d, .int .i64 t], .int .i64 now]) (fun σ I us h => vrels_t h) (fun _ _ => .val _) fun w => xready_any d t now w⟩
          · cases h
        · split at h
          · rename_i e
            split at h
            · rename_i d t now
              split at h
              · rename_i ht
                cases h
                obtain ⟨n, rfl⟩ := Int.eq_ofNat_of_zero_le ht.1
                have hn : n ≤ 4 ∨ n = 8 := by omega
                rcases e with rfl | rfl
                · exact ⟨by kernel_rfl, Sim.below (vs := #[.agg #[.int .i64 d, .int .i64 n], .int .i64 now]) (fun σ I us h => vrels_t h) (fun σ I => vrel_t σ I _ _) fun w => sent_any d now n hn w⟩
                · exact ⟨by kernel_rfl, Sim.below (vs := #[.agg #[.int .i64 d, .int .i64 n], .int .i64 now]) (fun σ I us h => vrels_t h) (fun σ I => vrel_t σ I _ _) fun w => xsent_any d now n hn w⟩
              · cases h
            · cases h
          · cases h

end Go.Proofs.Ytpgoddffacgcmaa.Den
