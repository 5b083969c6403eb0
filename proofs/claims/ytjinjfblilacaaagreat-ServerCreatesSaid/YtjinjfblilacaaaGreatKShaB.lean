/- A piece taken to a sum: package sha's add, unknown words; each round from one state to the next one. -/
import Derived.Test.YtjinjfblilacaaaGreatKShaA
set_option linter.unusedVariables false
set_option linter.unusedSimpArgs false
set_option linter.unusedSimpArgs false
set_option maxRecDepth 1000000
namespace Go.Proofs.YtjinjfblilacaaaGreat.Den
open Go.RowKit
/-! ### as expressions -/
def sigE (x : IE) (a b c : Nat) : IE := b32 .xor (b32 .xor (rotE x a) (rotE x b)) (rotE x c)
def maskE : IE := .lit (.ofNat 4294967295)
def adx (k : Nat) (i : Nat) : IE := b32 .add (b32 .add (b32 .add (b32 .add (.var 79) (sigE (.var 76) 6 11 25)) (b32 .xor (b32 .and (.var 76) (.var 77)) (b32 .and (b32 .xor maskE (.var 76)) (.var 78)))) (.lit (.ofNat k))) (.var (8 + i))
def ady : IE := b32 .add (sigE (.var 72) 2 13 22) (b32 .xor (b32 .xor (b32 .and (.var 72) (.var 73)) (b32 .and (.var 72) (.var 74))) (b32 .and (.var 73) (.var 74)))
def adRound (k i : Nat) : List IE := varsTo 72 ++ [b32 .add (adx k i) ady, .var 72, .var 73, .var 74, b32 .add (.var 75) (adx k i), .var 76, .var 77, .var 78]
def adLast (c : Nat) : List IE := varsTo 72 ++ (List.range 8).map fun j => bif Nat.beq j c then b32 .add (.var (72 + j)) (.var j) else .var (72 + j)
def adFirst : List IE := varsTo 8 ++ ((List.range 64).map fun j => .var (100 + j)) ++ varsTo 8
def adEnd : List (List IE) := [varsTo 80] ++ (List.range 8).map adLast
/-! ### the states -/
def vrn (k : IntKind) (a n : Nat) : List SV := (List.range n).map fun j => .int k (.var (a + j))
def keysS : List SV := shaK.map fun k => .int .u32 (.lit (.ofNat k))
def putsT : List (Nat × SV) -> Tr SV -> Tr SV
  | [], T => T
  | (k, v) :: r, T => putsT r (T.put k v)
def adT0 : List (Nat × SV) := [
  (0, (.agg (vrn .u32 80 8 ++ []))),
  (1, (.im true 64 (pieceS ++ []))),
  (2, (.ptr 0 0)),
  (4, (.ptr 1 0)),
  (5, (.ptr 2 0)),
  (6, (.ptr 3 0)),
  (7, (.ptr 4 0)),
  (14, (.im true 64 (pieceS ++ []))),
  (15, (.agg (vrn .u32 88 64 ++ []))),
  (16, (.agg (keysS ++ []))),
  (17, (.agg (vrn .u32 152 8 ++ []))),
  (18, (.int .i64 (.lit 0)))]
def adT1 (i : Nat) : List (Nat × SV) := [
  (0, (.agg (vrn .u32 80 8 ++ []))),
  (1, (.im true 64 (pieceS ++ []))),
  (2, (.ptr 0 0)),
  (4, (.ptr 1 0)),
  (5, (.ptr 2 0)),
  (6, (.ptr 3 0)),
  (7, (.ptr 4 0)),
  (8, (.int .i64 (.lit (.ofNat i)))),
  (9, (.int .u32 (.var 88))),
  (10, (.int .u32 (.var 89))),
  (11, (.int .u32 (.var 90))),
  (12, (.int .u32 (.var 91))),
  (14, (.im true 64 (pieceS ++ []))),
  (15, (.agg (vrn .u32 92 64 ++ []))),
  (16, (.agg (keysS ++ []))),
  (17, (.agg (vrn .u32 156 8 ++ []))),
  (18, (.int .i64 (.lit (.ofNat (Nat.add i 1))))),
  (19, (.bool true)),
  (20, (.int .i64 (.lit (.ofNat i)))),
  (21, (.ptr 4 4)),
  (22, (.int .u32 (.var 164))),
  (23, (.ptr 4 0)),
  (24, (.int .u32 (.var 165))),
  (25, (.ptr 4 7)),
  (26, (.int .u32 (.var 166))),
  (27, (.int .u32 (.var 167))),
  (28, (.int .u32 (.var 168))),
  (29, (.int .u32 (.var 169))),
  (30, (.int .u32 (.var 170))),
  (31, (.int .u32 (.var 171))),
  (32, (.int .u32 (.var 172))),
  (33, (.int .u32 (.var 173))),
  (34, (.int .u32 (.var 174))),
  (35, (.int .u32 (.var 175))),
  (36, (.int .u32 (.var 176))),
  (37, (.ptr 4 5)),
  (38, (.int .u32 (.var 177))),
  (39, (.int .u32 (.var 178))),
  (40, (.int .u32 (.var 179))),
  (41, (.int .u32 (.var 180))),
  (42, (.ptr 4 6)),
  (43, (.int .u32 (.var 181))),
  (44, (.int .u32 (.var 182))),
  (45, (.int .u32 (.var 183))),
  (46, (.int .u32 (.var 184))),
  (47, (.int .i64 (.lit (.ofNat i)))),
  (48, (.ptr 3 i)),
  (49, (.int .u32 (.lit (.ofNat (shaK.getD i 0))))),
  (50, (.int .u32 (.var 185))),
  (51, (.int .i64 (.lit (.ofNat i)))),
  (52, (.ptr 2 i)),
  (53, (.int .u32 (.var 186))),
  (54, (.int .u32 (.var 187))),
  (55, (.int .u32 (.var 188))),
  (56, (.int .u32 (.var 189))),
  (57, (.int .u32 (.var 190))),
  (58, (.int .u32 (.var 191))),
  (59, (.int .u32 (.var 192))),
  (60, (.int .u32 (.var 193))),
  (61, (.int .u32 (.var 194))),
  (62, (.int .u32 (.var 195))),
  (63, (.int .u32 (.var 196))),
  (64, (.ptr 4 1)),
  (65, (.int .u32 (.var 197))),
  (66, (.int .u32 (.var 198))),
  (67, (.int .u32 (.var 199))),
  (68, (.ptr 4 2)),
  (69, (.int .u32 (.var 200))),
  (70, (.int .u32 (.var 201))),
  (71, (.int .u32 (.var 202))),
  (72, (.ptr 4 1)),
  (73, (.int .u32 (.var 203))),
  (74, (.ptr 4 2)),
  (75, (.int .u32 (.var 204))),
  (76, (.int .u32 (.var 205))),
  (77, (.int .u32 (.var 206))),
  (78, (.int .u32 (.var 207))),
  (79, (.int .u32 (.var 208))),
  (80, (.int .u32 (.var 209))),
  (81, (.int .u32 (.var 210))),
  (82, (.ptr 4 0)),
  (83, (.int .u32 (.var 211))),
  (84, (.ptr 4 1)),
  (85, (.int .u32 (.var 212))),
  (86, (.ptr 4 2)),
  (87, (.int .u32 (.var 213))),
  (88, (.ptr 4 3)),
  (89, (.int .u32 (.var 214))),
  (90, (.int .u32 (.var 215))),
  (91, (.int .u32 (.var 216))),
  (92, (.ptr 4 4)),
  (93, (.int .u32 (.var 217))),
  (94, (.ptr 4 5)),
  (95, (.int .u32 (.var 218))),
  (96, (.ptr 4 6)),
  (97, (.int .u32 (.var 219))),
  (98, (.agg (vrn .u32 220 8 ++ []))),
  (99, (.int .i64 (.lit (.ofNat (Nat.add i 1)))))]
def adTl (i : Nat) : List (Nat × SV) := match i with
  | 0 => adT0
  | i + 1 => adT1 i
def adT (i : Nat) : Tr SV := putsT (adTl i) .nil
def adM : Mem := mkM [some (vrn .u32 0 8 ++ []), some (List.replicate 8 (.int .u32 (.lit 0)) ++ []), some (vrn .u32 8 64 ++ []), some (keysS ++ []), some (vrn .u32 72 8 ++ [])] ⟨0, .nil⟩
/-! ### the code -/
def sq1 : Code -> Code
  | .seq a _ => a
  | c => c
def sq2 : Code -> Code
  | .seq _ b => b
  | c => c
def unB : Code -> Code
  | .block _ a => a
  | .loop a => a
  | c => c
noncomputable def bodyAt (P : Program) (f : FuncId) : Code := ((fnAt P f).bind (·.body)).getD .skip
noncomputable def adBody : Code := bodyAt Tryz.prog 368
noncomputable def adC1 : Code := sq1 adBody
noncomputable def adC2 : Code := sq1 (sq2 adBody)
noncomputable def adC3 : Code := sq1 (sq2 (sq2 adBody))
noncomputable def adC4 : Code := sq1 (sq1 (sq2 (sq2 (sq2 adBody))))
noncomputable def adLoop : Code := unB (unB (sq2 (sq1 (sq2 (sq2 (sq2 adBody))))))
noncomputable def adRest : Code := sq2 (sq2 (sq2 (sq2 adBody)))
theorem adBody_is : adBody = .seq adC1 (.seq adC2 (.seq adC3 (.seq (.seq adC4 (.block 0 (.loop adLoop))) adRest))) := rfl
/-! ### what is checked -/
def ospr (args : List SV) (h : Mem) : SRes :=
  bif SV.beqs args [.im true 64 pieceS] then some (.agg ((List.range 64).map fun j => .int .u32 (.var (100 + j))), h) else none
noncomputable def callS : SCall := fun f args h => bif Nat.beq f 409 then ospr args h else callN f args h
def rnd2 (T : Tr SV) (x : List IE) (T' : Tr SV) (h' : Mem) : List IE × List Nat × Tr SV × Mem -> Bool
  | (θ, R, _, _) => okSub 113 (thOf θ) R T T' adM h' && okTh θ && IE.beqs (θ.take 80) x
noncomputable def rnd (i : Nat) : Bool :=
  match grun [] Tryz.prog callN 113 1000 adLoop (adT i) adM [] with
  | some (.normal, T', h', []) => rnd2 (adT (i + 1)) (adRound (shaK.getD i 0) i) T' h' (canon 113 T' h')
  | _ => false
noncomputable def pre : Bool :=
  match grun [] Tryz.prog callS 113 1000 adC1 (sargs 0 [.agg (wordsS 8), .im true 64 pieceS] .nil) ⟨0, .nil⟩ [] with
  | some (.normal, T1, h1, []) =>
    match grun [] Tryz.prog callS 113 1000 adC2 T1 h1 [] with
    | some (.normal, T2, h2, []) =>
      match grun [] Tryz.prog callS 113 1000 adC3 T2 h2 [] with
      | some (.normal, T3, h3, []) =>
        match grun [] Tryz.prog callS 113 1000 adC4 T3 h3 [] with
        | some (.normal, T', h', []) => rnd2 (adT 0) adFirst T' h' (canon 113 T' h')
        | _ => false
      | _ => false
    | _ => false
  | _ => false
def adRes : List SV := [.agg ((List.range 8).map fun j => .int .u32 (.var (72 + j)))]
def endChk (l : List SV) (Θ : List (List IE)) : Bool := SV.beqs l adRes && Θ.all okTh && okTrack 80 Θ adEnd
noncomputable def fin : Bool :=
  match grun [] Tryz.prog callN 113 1000 adLoop (adT 64) adM [] with
  | some (.exit 0, T', h', []) => match fnAt Tryz.prog 368 with
    | some fn => ychk2 Tryz.prog fn endChk (xrun [] Tryz.prog callN 113 1000 adRest T' h')
    | none => false
  | _ => false
theorem pre_ok : pre = true := by decide +kernel
theorem fin_ok : fin = true := by decide +kernel
def eight (f : Nat -> Bool) (m : Nat) : Bool := (List.range 8).all fun j => f (Nat.add (Nat.mul 8 m) j)
theorem rnds0 : eight rnd 0 = true := by decide +kernel
theorem rnds1 : eight rnd 1 = true := by decide +kernel
theorem rnds2 : eight rnd 2 = true := by decide +kernel
theorem rnds3 : eight rnd 3 = true := by decide +kernel
theorem rnds4 : eight rnd 4 = true := by decide +kernel
theorem rnds5 : eight rnd 5 = true := by decide +kernel
theorem rnds6 : eight rnd 6 = true := by decide +kernel
theorem rnds7 : eight rnd 7 = true := by decide +kernel
theorem eight_at {f : Nat -> Bool} {m : Nat} (h : eight f m = true) (i : Nat) (hi : i / 8 = m) : f i = true := by
  have := (List.all_eq_true.1 h) (i % 8) (List.mem_range.2 (Nat.mod_lt _ (by decide)))
  have e : Nat.add (Nat.mul 8 m) (i % 8) = i := by show 8 * m + i % 8 = i; omega
  rwa [e] at this
theorem rnd_ok (i : Nat) (hi : i < 64) : rnd i = true := by
  have h : i / 8 = 0 \/ i / 8 = 1 \/ i / 8 = 2 \/ i / 8 = 3 \/ i / 8 = 4 \/ i / 8 = 5 \/ i / 8 = 6 \/ i / 8 = 7 := by omega
  rcases h with h | h | h | h | h | h | h | h
  · exact eight_at rnds0 i h
  · exact eight_at rnds1 i h
  · exact eight_at rnds2 i h
  · exact eight_at rnds3 i h
  · exact eight_at rnds4 i h
  · exact eight_at rnds5 i h
  · exact eight_at rnds6 i h
  · exact eight_at rnds7 i h
end Go.Proofs.YtjinjfblilacaaaGreat.Den
