/- ServerUnsafe: at all texts, and numbers. -/
import Derived.Test.YtbllpnjappddeaaGreatKUnR0
import Derived.Test.YtbllpnjappddeaaGreatKUnR1
import Derived.Test.YtbllpnjappddeaaGreatKUnR2
import Derived.Test.YtbllpnjappddeaaGreatKUnR3
import Derived.Test.YtbllpnjappddeaaGreatKUnR4
import Derived.Test.YtbllpnjappddeaaGreatKUnR5
import Derived.Test.YtbllpnjappddeaaGreatKUnR6
import Derived.Test.YtbllpnjappddeaaGreatKUnR7
import Derived.Test.YtbllpnjappddeaaGreatKUnR8
import Derived.Test.YtbllpnjappddeaaGreatKUnR9
import Derived.Test.YtbllpnjappddeaaGreatKUnR10
import Derived.Test.YtbllpnjappddeaaGreatKUnR11
import Derived.Test.YtbllpnjappddeaaGreatKUnR12
import Derived.Test.YtbllpnjappddeaaGreatKUnR13
import Derived.Test.YtbllpnjappddeaaGreatKUnR14
import Derived.Test.YtbllpnjappddeaaGreatKUnG
set_option linter.unusedVariables false
set_option linter.unusedSimpArgs false
namespace Go.Proofs.YtbllpnjappddeaaGreat.Den
theorem unsafe_sim (s : ByteArray) (n : Int) : ∃ H', Sim Tryz.prog 5 [.val (.string s), .val (.int .i64 n)] [] (fun _ => none) (.val (.bool true)) H' := by
  by_cases h : 60 < s.size
  · exact unsafe_long s n h
  · generalize hn : s.size = l at h
    match l, h with
    | 0, _ => exact uns_0 s hn n
    | 1, _ => exact uns_of unsRun1 s hn n
    | 2, _ => exact uns_of unsRun2 s hn n
    | 3, _ => exact uns_of unsRun3 s hn n
    | 4, _ => exact uns_of unsRun4 s hn n
    | 5, _ => exact uns_of unsRun5 s hn n
    | 6, _ => exact uns_of unsRun6 s hn n
    | 7, _ => exact uns_of unsRun7 s hn n
    | 8, _ => exact uns_of unsRun8 s hn n
    | 9, _ => exact uns_of unsRun9 s hn n
    | 10, _ => exact uns_of unsRun10 s hn n
    | 11, _ => exact uns_of unsRun11 s hn n
    | 12, _ => exact uns_of unsRun12 s hn n
    | 13, _ => exact uns_of unsRun13 s hn n
    | 14, _ => exact uns_of unsRun14 s hn n
    | 15, _ => exact uns_of unsRun15 s hn n
    | 16, _ => exact uns_of unsRun16 s hn n
    | 17, _ => exact uns_of unsRun17 s hn n
    | 18, _ => exact uns_of unsRun18 s hn n
    | 19, _ => exact uns_of unsRun19 s hn n
    | 20, _ => exact uns_of unsRun20 s hn n
    | 21, _ => exact uns_of unsRun21 s hn n
    | 22, _ => exact uns_of unsRun22 s hn n
    | 23, _ => exact uns_of unsRun23 s hn n
    | 24, _ => exact uns_of unsRun24 s hn n
    | 25, _ => exact uns_of unsRun25 s hn n
    | 26, _ => exact uns_of unsRun26 s hn n
    | 27, _ => exact uns_of unsRun27 s hn n
    | 28, _ => exact uns_of unsRun28 s hn n
    | 29, _ => exact uns_of unsRun29 s hn n
    | 30, _ => exact uns_of unsRun30 s hn n
    | 31, _ => exact uns_of unsRun31 s hn n
    | 32, _ => exact uns_of unsRun32 s hn n
    | 33, _ => exact uns_of unsRun33 s hn n
    | 34, _ => exact uns_of unsRun34 s hn n
    | 35, _ => exact uns_of unsRun35 s hn n
    | 36, _ => exact uns_of unsRun36 s hn n
    | 37, _ => exact uns_of unsRun37 s hn n
    | 38, _ => exact uns_of unsRun38 s hn n
    | 39, _ => exact uns_of unsRun39 s hn n
    | 40, _ => exact uns_of unsRun40 s hn n
    | 41, _ => exact uns_of unsRun41 s hn n
    | 42, _ => exact uns_of unsRun42 s hn n
    | 43, _ => exact uns_of unsRun43 s hn n
    | 44, _ => exact uns_of unsRun44 s hn n
    | 45, _ => exact uns_of unsRun45 s hn n
    | 46, _ => exact uns_of unsRun46 s hn n
    | 47, _ => exact uns_of unsRun47 s hn n
    | 48, _ => exact uns_of unsRun48 s hn n
    | 49, _ => exact uns_of unsRun49 s hn n
    | 50, _ => exact uns_of unsRun50 s hn n
    | 51, _ => exact uns_of unsRun51 s hn n
    | 52, _ => exact uns_of unsRun52 s hn n
    | 53, _ => exact uns_of unsRun53 s hn n
    | 54, _ => exact uns_of unsRun54 s hn n
    | 55, _ => exact uns_of unsRun55 s hn n
    | 56, _ => exact uns_of unsRun56 s hn n
    | 57, _ => exact uns_of unsRun57 s hn n
    | 58, _ => exact uns_of unsRun58 s hn n
    | 59, _ => exact uns_of unsRun59 s hn n
    | 60, _ => exact uns_of unsRun60 s hn n
    | _ + 61, h => exact absurd h (by omega)
end Go.Proofs.YtbllpnjappddeaaGreat.Den
