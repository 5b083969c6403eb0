/- WorldJoins: at all numbers. -/
import Derived.Test.YtbllpnjappddeaaGreatKWjR00
import Derived.Test.YtbllpnjappddeaaGreatKWjG
import Derived.Test.YtbllpnjappddeaaGreatKWjR02
import Derived.Test.YtbllpnjappddeaaGreatKWjR03
import Derived.Test.YtbllpnjappddeaaGreatKWjR04
import Derived.Test.YtbllpnjappddeaaGreatKWjR05
import Derived.Test.YtbllpnjappddeaaGreatKWjR06
import Derived.Test.YtbllpnjappddeaaGreatKWjR07
import Derived.Test.YtbllpnjappddeaaGreatKWjR10
import Derived.Test.YtbllpnjappddeaaGreatKWjR12
import Derived.Test.YtbllpnjappddeaaGreatKWjR13
import Derived.Test.YtbllpnjappddeaaGreatKWjR14
import Derived.Test.YtbllpnjappddeaaGreatKWjR15
import Derived.Test.YtbllpnjappddeaaGreatKWjR16
import Derived.Test.YtbllpnjappddeaaGreatKWjR17
import Derived.Test.YtbllpnjappddeaaGreatKWjR20
import Derived.Test.YtbllpnjappddeaaGreatKWjR22
import Derived.Test.YtbllpnjappddeaaGreatKWjR23
import Derived.Test.YtbllpnjappddeaaGreatKWjR24
import Derived.Test.YtbllpnjappddeaaGreatKWjR25
import Derived.Test.YtbllpnjappddeaaGreatKWjR26
import Derived.Test.YtbllpnjappddeaaGreatKWjR27
set_option linter.unusedVariables false
set_option linter.unusedSimpArgs false
set_option linter.unusedVariables false
namespace Go.Proofs.YtbllpnjappddeaaGreat.Den
theorem joins_sim (a b : Int) : ∃ H', Sim Tryz.prog 7 [.val (.int .i64 a), .val (.int .i64 b)] [] (fun _ => none) (.val (.bool true)) H' := by
 have h0 := Int.emod_nonneg a (by decide : (3 : Int) ≠ 0)
 have h1 := Int.emod_lt_of_pos a (by decide : (0 : Int) < 3)
 have g0 := Int.emod_nonneg b (by decide : (8 : Int) ≠ 0)
 have g1 := Int.emod_lt_of_pos b (by decide : (0 : Int) < 8)
 rcases (by omega : a % 3 = (0 : Nat) \/ a % 3 = (1 : Nat) \/ a % 3 = (2 : Nat)) with h | h | h <;> rcases (by omega : b % 8 = (0 : Nat) \/ b % 8 = (1 : Nat) \/ b % 8 = (2 : Nat) \/ b % 8 = (3 : Nat) \/ b % 8 = (4 : Nat) \/ b % 8 = (5 : Nat) \/ b % 8 = (6 : Nat) \/ b % 8 = (7 : Nat)) with g | g | g | g | g | g | g | g
 ·exact joins_of h g joinsRun00
 ·exact joins_of h g joinsRun01
 ·exact joins_of h g joinsRun02
 ·exact joins_of h g joinsRun03
 ·exact joins_of h g joinsRun04
 ·exact joins_of h g joinsRun05
 ·exact joins_of h g joinsRun06
 ·exact joins_of h g joinsRun07
 ·exact joins_of h g joinsRun10
 ·exact joins_of h g joinsRun11
 ·exact joins_of h g joinsRun12
 ·exact joins_of h g joinsRun13
 ·exact joins_of h g joinsRun14
 ·exact joins_of h g joinsRun15
 ·exact joins_of h g joinsRun16
 ·exact joins_of h g joinsRun17
 ·exact joins_of h g joinsRun20
 ·exact joins_of h g joinsRun21
 ·exact joins_of h g joinsRun22
 ·exact joins_of h g joinsRun23
 ·exact joins_of h g joinsRun24
 ·exact joins_of h g joinsRun25
 ·exact joins_of h g joinsRun26
 ·exact joins_of h g joinsRun27
end Go.Proofs.YtbllpnjappddeaaGreat.Den
