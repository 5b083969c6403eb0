/- ServerAnswers: at all numbers. -/
import Derived.Test.YtbllpnjappddeaaGreatKSaR00
import Derived.Test.YtbllpnjappddeaaGreatKSaR01
import Derived.Test.YtbllpnjappddeaaGreatKSaR10
import Derived.Test.YtbllpnjappddeaaGreatKSaR11
import Derived.Test.YtbllpnjappddeaaGreatKSaR20
import Derived.Test.YtbllpnjappddeaaGreatKSaR21
import Derived.Test.YtbllpnjappddeaaGreatKSaR30
import Derived.Test.YtbllpnjappddeaaGreatKSaR31
import Derived.Test.YtbllpnjappddeaaGreatKSaR40
import Derived.Test.YtbllpnjappddeaaGreatKSaR41
import Derived.Test.YtbllpnjappddeaaGreatKSaR50
import Derived.Test.YtbllpnjappddeaaGreatKSaR51
import Derived.Test.YtbllpnjappddeaaGreatKSaR60
import Derived.Test.YtbllpnjappddeaaGreatKSaR61
import Derived.Test.YtbllpnjappddeaaGreatKSaR70
import Derived.Test.YtbllpnjappddeaaGreatKSaR71
set_option linter.unusedVariables false
set_option linter.unusedSimpArgs false
namespace Go.Proofs.YtbllpnjappddeaaGreat.Den
theorem ans_tab : ∀ u : Nat, u < 8 → ∀ bad : Bool, AnsAll u bad
  | 0, _, false => ⟨ansE00, ansZ00, ansN00⟩
  | 0, _, true => ⟨ansE01, ansZ01, ansN01⟩
  | 1, _, false => ⟨ansE10, ansZ10, ansN10⟩
  | 1, _, true => ⟨ansE11, ansZ11, ansN11⟩
  | 2, _, false => ⟨ansE20, ansZ20, ansN20⟩
  | 2, _, true => ⟨ansE21, ansZ21, ansN21⟩
  | 3, _, false => ⟨ansE30, ansZ30, ansN30⟩
  | 3, _, true => ⟨ansE31, ansZ31, ansN31⟩
  | 4, _, false => ⟨ansE40, ansZ40, ansN40⟩
  | 4, _, true => ⟨ansE41, ansZ41, ansN41⟩
  | 5, _, false => ⟨ansE50, ansZ50, ansN50⟩
  | 5, _, true => ⟨ansE51, ansZ51, ansN51⟩
  | 6, _, false => ⟨ansE60, ansZ60, ansN60⟩
  | 6, _, true => ⟨ansE61, ansZ61, ansN61⟩
  | 7, _, false => ⟨ansE70, ansZ70, ansN70⟩
  | 7, _, true => ⟨ansE71, ansZ71, ansN71⟩
  | _ + 8, h, _ => absurd h (by omega)
theorem answers_all (a o : Int) : (∃ H', Sim Tryz.prog 6 [vi a, .im false 0 [], vi o] [] (fun _ => none) (.val (.bool true)) H') ∧
    ∀ (k : Nat) (x : Int), ∃ H', Sim Tryz.prog 6 [vi a, .im false (k + 1) [vi x], vi o] [] (fun _ => none) (.val (.bool true)) H' := by
  have h0 := Int.emod_nonneg a (by decide : (8 : Int) ≠ 0)
  have h1 := Int.emod_lt_of_pos a (by decide : (0 : Int) < 8)
  obtain ⟨u, hu⟩ : ∃ u : Nat, a % 8 = u := ⟨(a % 8).toNat, by omega⟩
  by_cases hb : o % 3 = 0
  · exact answers_at (ans_tab u (by omega) true) hu ⟨fun _ => rfl, fun _ => hb⟩
  · exact answers_at (ans_tab u (by omega) false) hu ⟨fun e => absurd e hb, fun e => by cases e⟩
theorem answers_none (a o : Int) : ∃ H', Sim Tryz.prog 6 [vi a, .im false 0 [], vi o] [] (fun _ => none) (.val (.bool true)) H' := (answers_all a o).1
theorem answers_some (a o : Int) (k : Nat) (x : Int) : ∃ H', Sim Tryz.prog 6 [vi a, .im false (k + 1) [vi x], vi o] [] (fun _ => none) (.val (.bool true)) H' := (answers_all a o).2 k x
end Go.Proofs.YtbllpnjappddeaaGreat.Den
