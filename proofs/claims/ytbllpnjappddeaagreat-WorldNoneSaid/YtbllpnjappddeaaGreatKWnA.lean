/- WorldNone, run: whoever is not there, and a text of so many bytes. -/
import Derived.Test.YtbllpnjappddeaaGreatKWjF
import Derived.Test.YtbllpnjappddeaaGreatKLrA
set_option linter.unusedVariables false
set_option linter.unusedSimpArgs false
set_option linter.unusedSimpArgs false
set_option linter.unusedVariables false
set_option maxRecDepth 1000000
namespace Go.Proofs.YtbllpnjappddeaaGreat.Den
open Go.RowKit
variable {ρ : Vals}
/-! ### what is known of a number -/
noncomputable def zI : IE := .lit (.ofNat 0)
noncomputable def tI : IE := .lit (.ofNat 3)
noncomputable def pI (v : Nat) : IE := .bin .add .i64 (.var v) tI
noncomputable def factsNeg (v : Nat) : List Fact := [⟨.geq, .var v, zI, false⟩, ⟨.lss, .var v, zI, true⟩]
noncomputable def factsMid (v : Nat) : List Fact := [⟨.geq, .var v, zI, true⟩, ⟨.lss, .var v, tI, true⟩, ⟨.lss, pI v, zI, false⟩, ⟨.geq, pI v, tI, true⟩, ⟨.geq, pI v, zI, true⟩, ⟨.lss, pI v, tI, false⟩]
noncomputable def factsBig (v : Nat) : List Fact := [⟨.geq, .var v, zI, true⟩, ⟨.lss, .var v, tI, false⟩, ⟨.lss, .var v, zI, false⟩, ⟨.geq, .var v, tI, true⟩]
noncomputable def factsNon (v : Nat) : List Fact := [⟨.lss, .var v, zI, false⟩, ⟨.geq, .var v, zI, true⟩]
theorem fok_append {l k : List Fact} (h : FOk ρ l) (h' : FOk ρ k) : FOk ρ (l ++ k) := fun x hx => (List.mem_append.1 hx).elim (h x) (h' x)
theorem fok_cons {x : Fact} {l : List Fact} (h : cmpI x.op (x.a.den ρ) (x.b.den ρ) = some x.r) (h' : FOk ρ l) : FOk ρ (x :: l) := fun y hy => by
 cases hy with
 | head => exact h
 | tail _ hy => exact h' y hy
theorem den_z : zI.den ρ = 0 := rfl
theorem den_t : tI.den ρ = 3 := rfl
theorem den_p {v : Nat} (h0 : 0 <= ρ.i v) (h3 : ρ.i v < 3) : (pI v).den ρ = ρ.i v + 3 := by
 simp only [pI, IE.den, arI, den_t, Option.getD_some]
 rw [IntKind.wrap_i64]; omega
theorem neg_ok {v : Nat} (h : ρ.i v < 0) : FOk ρ (factsNeg v) := by
 refine fok_cons ?_ (fok_cons ?_ FOk.nil) <;> (simp only [cmpI, IE.den, den_z, Option.some.injEq]; first | (apply decide_eq_true; omega) | (apply decide_eq_false; omega))
theorem mid_ok {v : Nat} (h0 : 0 <= ρ.i v) (h3 : ρ.i v < 3) : FOk ρ (factsMid v) := by
 refine fok_cons ?_ (fok_cons ?_ (fok_cons ?_ (fok_cons ?_ (fok_cons ?_ (fok_cons ?_ FOk.nil))))) <;> (simp only [cmpI, den_p h0 h3, IE.den, den_z, den_t, Option.some.injEq]; first | (apply decide_eq_true; omega) | (apply decide_eq_false; omega))
theorem big_ok {v : Nat} (h : 3 <= ρ.i v) : FOk ρ (factsBig v) := by
 refine fok_cons ?_ (fok_cons ?_ (fok_cons ?_ (fok_cons ?_ FOk.nil))) <;> (simp only [cmpI, IE.den, den_z, den_t, Option.some.injEq]; first | (apply decide_eq_true; omega) | (apply decide_eq_false; omega))
theorem non_ok {v : Nat} (h : 0 <= ρ.i v) : FOk ρ (factsNon v) := by
 refine fok_cons ?_ (fok_cons ?_ FOk.nil) <;> (simp only [cmpI, IE.den, den_z, Option.some.injEq]; first | (apply decide_eq_true; omega) | (apply decide_eq_false; omega))
/-! ### the law's runs -/
noncomputable def ovrN : FuncId -> Option (List SV -> Mem -> SRes) := ovrB
theorem ovrN_ok (ρ : Vals) : OvrOK Tryz.prog ρ ovrN := ovrB_ok ρ
noncomputable def noneArgs (n : Nat) : List SV := [.int .i64 (.var 0), .int .i64 (.var 1), .int .i64 (.var 2), .str (ubytes n 0)]
noncomputable def noneRun (n : Nat) (Γ : List Fact) : Bool := isTrue (qcall Γ ovrN 9 (noneArgs n) ⟨0, .nil⟩)
noncomputable def noneFacts : List (List Fact) := [factsNeg 0, factsMid 0, factsBig 0].flatMap fun a => [factsNeg 1, factsMid 1, factsBig 1].flatMap fun b => [factsNeg 2, factsNon 2].map fun c => a ++ (b ++ c)
noncomputable def noneAll (n : Nat) : Bool := noneFacts.all (noneRun n)
theorem none_of (n : Nat) (h : noneAll n = true) (c d i : Int) (s : ByteArray) (hs : s.size = n) :
  ∃ H', Sim Tryz.prog 9 [.val (.int .i64 c), .val (.int .i64 d), .val (.int .i64 i), .val (.string s)] [] (fun _ => none) (.val (.bool true)) H' := by
 obtain ⟨ρ, hρ⟩ : ∃ ρ : Vals, ρ = ⟨fun k => if k = 0 then c else if k = 1 then d else i, fun k => s.data.toList.getD k 0, fun _ _ _ => 0⟩ := ⟨_, rfl⟩
 have h0 : ρ.i 0 = c := by rw [hρ]; rfl
 have h1 : ρ.i 1 = d := by rw [hρ]; rfl
 have h2 : ρ.i 2 = i := by rw [hρ]; rfl
 have key : ∀ Γ, Γ ∈ noneFacts -> FOk ρ Γ -> ∃ H', Sim Tryz.prog 9 [.val (.int .i64 c), .val (.int .i64 d), .val (.int .i64 i), .val (.string s)] [] (fun _ => none) (.val (.bool true)) H' := by
  intro Γ hm hΓ
  have hr := List.all_eq_true.1 h Γ hm
  refine true_of_runs (qcall_ok hΓ (ovrN_ok ρ)) ?_ hr
  unfold noneArgs
  have e : (AV.val (.string s)) = .val (.string (strOf ρ (ubytes n 0))) := by
   rw [<- hs, strOf_ubytes s fun k _ => by rw [hρ]]
  rw [e, <- h0, <- h1, <- h2]
  exact .cons (.int .i64 (.var 0)) (.cons (.int .i64 (.var 1)) (.cons (.int .i64 (.var 2)) (.cons (.str _) .nil)))
 have c3 : ∀ v, FOk ρ (factsNeg v) \/ FOk ρ (factsMid v) \/ FOk ρ (factsBig v) := fun v => by
  rcases Int.lt_or_le (ρ.i v) 0 with h | h
  ·exact .inl (neg_ok h)
  ·rcases Int.lt_or_le (ρ.i v) 3 with h' | h'
   ·exact .inr (.inl (mid_ok h h'))
   ·exact .inr (.inr (big_ok h'))
 have c2 : FOk ρ (factsNeg 2) \/ FOk ρ (factsNon 2) := by
  rcases Int.lt_or_le (ρ.i 2) 0 with h | h
  ·exact .inl (neg_ok h)
  ·exact .inr (non_ok h)
 rcases c3 0 with a | a | a <;> rcases c3 1 with b | b | b <;> rcases c2 with g | g <;> exact key _ (by simp [noneFacts]) (fok_append a (fok_append b g))
end Go.Proofs.YtbllpnjappddeaaGreat.Den
