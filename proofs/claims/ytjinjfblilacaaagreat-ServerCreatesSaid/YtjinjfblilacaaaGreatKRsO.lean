/- Package comitiaref2, Sum: the sums of a piece. -/
import Derived.Test.YtjinjfblilacaaaGreatKShaC
import Derived.Test.YtjinjfblilacaaaGreatKRsN
import Derived.Test.YtjinjfblilacaaaGreatKCdA
import Derived.Test.YtjinjfblilacaaaGreatKDenR
import Derived.Test.YtjinjfblilacaaaGreatKSymS
import Derived.Laws.IdiomCopy
import Derived.Laws.Externs
import Derived.Laws.NewBlocks
import Derived.Lib.Overlaps
import Derived.Lib.AppendZerosOnto
import Derived.Lib.JoinLaws
import Derived.Test.YtjinjfblilacaaaGreatKRfC
import Derived.Test.YtjinjfblilacaaaGreatKWkA
import Derived.Deep.LoopGhost
import Derived.Deep.RegionLaw
import Derived.Lib.Hide
import Derived.RangeFuncNested
import Derived.RangeFuncFrom
import Derived.RangeFuncBound
import Derived.RangeFuncCalls
import Derived.RangeFuncLeaves
import Derived.Shelf.Abstract
import Derived.Shelf.RegionOpen
import Derived.WalkKit
import Derived.OwnWalkIn
import Derived.TacticsInMore
import Derived.LoopNIn
import Derived.LoopIn
set_option linter.unusedVariables false
set_option linter.unusedSimpArgs false
section
set_option linter.unusedSimpArgs false
set_option linter.unusedVariables false
set_option maxRecDepth 100000
namespace Go.Proofs.YtjinjfblilacaaaGreat.Den
open Go.RowKit
attribute [local simp] runList aop abuiltin acall awanted ayielded env T0 tput tset Ran aload astore setMany upd binV aslice aindexAddr apart aindex alen acopy srcCells natOf boundOf aeq AV.nilEq convV appK fillA List.range List.range.loop onF isU8 rowOf
end Go.Proofs.YtjinjfblilacaaaGreat.Den
end
section
set_option linter.unusedSimpArgs false
set_option linter.unusedVariables false
set_option maxRecDepth 100000
namespace Go.Proofs.YtjinjfblilacaaaGreat.Den
open Go.RowKit
attribute [local simp] runList aop abuiltin acall awanted ayielded env T0 tput tset Ran aload astore setMany upd binV aslice aindexAddr apart aindex alen acopy srcCells natOf boundOf aeq AV.nilEq convV appK fillA List.range List.range.loop onF isU8 rowOf
end Go.Proofs.YtjinjfblilacaaaGreat.Den
end
section
set_option linter.unusedSimpArgs false
set_option linter.unusedVariables false
set_option maxRecDepth 100000
namespace Go.Proofs.YtjinjfblilacaaaGreat.Den
open Go.RowKit
attribute [local simp] runList aop abuiltin acall awanted ayielded env T0 tput tset Ran aload astore setMany upd binV aslice aindexAddr apart aindex alen acopy srcCells natOf boundOf aeq AV.nilEq convV appK fillA List.range List.range.loop onF isU8 rowOf
end Go.Proofs.YtjinjfblilacaaaGreat.Den
end
section
set_option linter.unusedSimpArgs false
set_option linter.unusedVariables false
set_option maxRecDepth 100000
namespace Go.Proofs.YtjinjfblilacaaaGreat.Den
open Go
variable {P : Program}
end Go.Proofs.YtjinjfblilacaaaGreat.Den
end
section
set_option linter.unusedSimpArgs false
set_option linter.unusedVariables false
set_option maxRecDepth 100000
namespace Go.Proofs.YtjinjfblilacaaaGreat.Den
open Go.RowKit
attribute [local simp] runList aop abuiltin acall awanted ayielded env T0 tput tset Ran aload astore setMany upd binV aslice aindexAddr apart aindex alen acopy srcCells natOf boundOf aeq AV.nilEq convV appK fillA List.range List.range.loop onF isU8 rowOf
end Go.Proofs.YtjinjfblilacaaaGreat.Den
end
section
set_option linter.unusedSimpArgs false
set_option linter.unusedVariables false
namespace Go.Proofs.YtjinjfblilacaaaGreat
open Go.RowKit Go.Lib
variable {P : Program}
end Go.Proofs.YtjinjfblilacaaaGreat
end
section
set_option linter.unusedSimpArgs false
set_option linter.unusedVariables false
set_option maxRecDepth 1000000
namespace Go.Proofs.YtjinjfblilacaaaGreat.Den
open Go.RowKit Go.Lib
end Go.Proofs.YtjinjfblilacaaaGreat.Den
end
section
set_option linter.unusedSimpArgs false
set_option linter.unusedVariables false
set_option maxRecDepth 100000
namespace Go.Proofs.YtjinjfblilacaaaGreat.Den
open Go.RowKit
attribute [local simp] runList aop abuiltin acall awanted ayielded env T0 tput tset Ran aload astore setMany upd binV aslice aindexAddr apart aindex alen acopy srcCells natOf boundOf aeq AV.nilEq convV appK fillA List.range List.range.loop onF isU8 rowOf
end Go.Proofs.YtjinjfblilacaaaGreat.Den
end
section
set_option linter.unusedSimpArgs false
set_option linter.unusedVariables false
set_option maxRecDepth 100000
namespace Go.Proofs.YtjinjfblilacaaaGreat.Den
open Go.RowKit
attribute [local simp] runList aop abuiltin acall awanted ayielded env T0 tput tset Ran aload astore setMany upd binV aslice aindexAddr apart aindex alen acopy srcCells natOf boundOf aeq AV.nilEq convV appK fillA List.range List.range.loop onF isU8 rowOf
end Go.Proofs.YtjinjfblilacaaaGreat.Den
end
section
set_option linter.unusedSimpArgs false
set_option linter.unusedVariables false
set_option maxRecDepth 100000
namespace Go.Proofs.YtjinjfblilacaaaGreat.Den
open Go.RowKit
attribute [local simp] runList aop abuiltin acall awanted ayielded env T0 tput tset Ran aload astore setMany upd binV aslice aindexAddr apart aindex alen acopy srcCells natOf boundOf aeq AV.nilEq convV appK fillA List.range List.range.loop onF isU8 rowOf
end Go.Proofs.YtjinjfblilacaaaGreat.Den
end
section
set_option linter.unusedSimpArgs false
set_option linter.unusedVariables false
set_option maxRecDepth 100000
namespace Go.Proofs.YtjinjfblilacaaaGreat.Den
open Go.RowKit
attribute [local simp] runList aop abuiltin acall awanted ayielded env T0 tput tset Ran aload astore setMany upd binV aslice aindexAddr apart aindex alen acopy srcCells natOf boundOf aeq AV.nilEq convV appK fillA List.range List.range.loop onF isU8 rowOf
def logSafeS : Spec := fun args nm H =>
  match args with
  | [.ptr q 0] =>
    match H q with
    | some [_, _, .val (.int .i64 s)] => some (vi s, H)
    | _ => none
  | _ => none
set_option maxHeartbeats 400000 in
theorem logSafe_ok : FnOK Tryz.prog 286 logSafeS := by
  refine ⟨by kernel_rfl, fun args nm H r H' h => ?_⟩
  unfold logSafeS at h
  split at h
  · rename_i q
    split at h
    · rename_i d cn s hq
      cases h
      have hcall := @noCall_ok Tryz.prog
      refine sim_go Tryz.func286 rfl rfl (Nat.le_of_ble_eq_true rfl) fun hH => ?_
      (repeat refine AWP.seq ?_)
      refine AWP.region_last hcall rfl fun K hK => ?_
      simp
      apply hK; clear hK K; simp only [onNormal, onExit]
      (repeat refine AWP.seq ?_)
      refine AWP.region_last hcall rfl fun K hK => ?_
      simp [hq]
      apply hK; clear hK K; simp only [onNormal, onExit]
      (try refine AWP.ret ?_); (try simp only [onNormal, onExit]); refine ⟨by simp, ⟨_, rfl, by simp [ares1]⟩, fun k row hk => ?_⟩
      exact hk
    · cases h
  · cases h
def intsA : List AV -> Option (List Int)
  | [] => some []
  | .val (.int .i64 n) :: r => (intsA r).map (n :: ·)
  | _ => none
theorem intsA_some : ∀ {c : List AV} {l : List Int}, intsA c = some l -> c = l.map vi
  | [], l, h => by cases h; rfl
  | a :: r, l, h => by
    unfold intsA at h
    split at h
    · rename_i e; cases e
    · rename_i n r' e
      injection e with e1 e2
      subst e1 e2
      simp only [Option.map_eq_some_iff] at h
      obtain ⟨l', h1, rfl⟩ := h
      rw [intsA_some h1]; rfl
    · cases h
/-- How many of the first are below a number. -/
def cntI (z : Int) (l : List Int) : Nat := l.countP fun x => decide (x < z)
def safeS : Spec := fun args nm H =>
  match args with
  | [.ptr s 0, .ptr w 0] =>
    match H s, H w with
    | some rs, some rw =>
      match rs[4]?, rw[58]? with
      | some (AV.ptr lg 0), some (AV.sl m off n 1) =>
        match H lg, H m with
        | some [_, _, .val (.int .i64 z)], some rm =>
          match intsA ((rm.drop off).take n) with
          | some l => if off + n <= rm.length /\ n < 4611686018427387904 then some (.tup [vb (decide (0 < cntI z l)), vi ((cntI z l - 1 : Nat) : Int)], H) else none
          | none => none
        | _, _ => none
      | _, _ => none
    | _, _ => none
  | _ => none
set_option maxHeartbeats 1000000 in
theorem safe_ok : FnOK Tryz.prog 175 safeS := by
  refine ⟨by kernel_rfl, fun args nm H r H' h => ?_⟩
  unfold safeS at h
  split at h
  · rename_i s w
    split at h
    · rename_i rs rw hs hw
      split at h
      · rename_i lg m off n h4 h58
        split at h
        · rename_i d cn z rm hlg hm
          split at h
          · rename_i l hl
            split at h
            · rename_i hc
              cases h
              obtain ⟨hle, hn⟩ := hc
              have hcs := intsA_some hl
              have hln : l.length = n := by
                have := congrArg List.length hcs
                rw [List.length_take, List.length_drop, List.length_map] at this
                omega
              have hcall := onF_ok logSafe_ok (@noCall_ok Tryz.prog)
              refine sim_go Tryz.func175 rfl rfl (Nat.le_of_ble_eq_true rfl) fun hH => ?_
              (repeat refine AWP.seq ?_)
              refine AWP.region_last hcall rfl fun K hK => ?_
              simp
              apply hK; clear hK K; simp only [onNormal, onExit]
              (repeat refine AWP.seq ?_)
              refine AWP.region_last hcall rfl fun K hK => ?_
              simp
              apply hK; clear hK K; simp only [onNormal, onExit]
              (repeat refine AWP.seq ?_)
              refine AWP.region_last hcall rfl fun K hK => ?_
              simp [hw, h58]
              apply hK; clear hK K; simp only [onNormal, onExit]
              (repeat refine AWP.seq ?_); refine AWP.block ?_
              refine AWP.loop (fun k c T H2 => ∃ i, i <= n /\ k = n - i /\ H2 = H /\ T 0 = .ptr s 0 /\ T 12 = .sl m off n 1 /\ T 13 = vi (n : Nat) /\ T 14 = vi (i : Nat) /\ T 6 = vi ((cntI z (l.take i) : Nat) : Int)) n ⟨0, by omega, rfl, rfl, by simp, by simp, by simp, by simp, by simp [cntI]⟩ ?_
              rintro _ c T H2 ⟨i, hi, rfl, rfl, t0, t12, t13, t14, t6⟩
              by_cases hin : i < n
              · have hii : (i : Int) < (n : Int) := by omega
                have hi1 : IntKind.i64.wrap ((i : Int) + 1) = ((i + 1 : Nat) : Int) := by rw [IntKind.wrap_i64]; omega
                have hcl : cntI z (l.take i) <= i := by
                  have := List.countP_le_length (p := fun x => decide (x < z)) (l := l.take i)
                  rw [List.length_take] at this
                  simp only [cntI]; omega
                obtain ⟨v, hv⟩ : ∃ v, v = l[i]'(by omega) := ⟨_, rfl⟩
                have hg : rm[off + i]? = some (vi v) := by
                  have : ((rm.drop off).take n)[i]? = some (vi v) := by rw [hcs, List.getElem?_map, List.getElem?_eq_getElem (by omega), hv]; rfl
                  rwa [List.getElem?_take, if_pos hin, List.getElem?_drop] at this
                have htk : l.take (i + 1) = l.take i ++ [v] := by rw [List.take_add_one, List.getElem?_eq_getElem (by omega), hv]; rfl
                have hcn : cntI z (l.take (i + 1)) = cntI z (l.take i) + (if v < z then 1 else 0) := by
                  simp only [cntI, htk, List.countP_append, List.countP_cons, List.countP_nil]
                  by_cases h : v < z <;> simp [h]
                have hg' : ∀ h', rm[off + i]'h' = vi v := fun h' => by
                  have := hg; rw [List.getElem?_eq_getElem h'] at this; exact Option.some.inj this
                (repeat refine AWP.seq ?_)
                refine AWP.region_last hcall rfl fun K hK => ?_
                simp [t13, t14, hii]
                apply hK; clear hK K; simp only [onNormal, onExit]
                (repeat refine AWP.seq ?_); refine AWP.cond (b := true) (by simp [hii]) ?_; simp only [if_true, if_false, Bool.false_eq_true]
                refine AWP.skip ?_; simp only [onNormal, onExit]
                (repeat refine AWP.seq ?_); refine AWP.block ?_
                (repeat refine AWP.seq ?_)
                refine AWP.region_last hcall rfl fun K hK => ?_
                simp [t12, t14, hm, hg, hg', hin]
                apply hK; clear hK K; simp only [onNormal, onExit]
                (repeat refine AWP.seq ?_)
                refine AWP.region_last hcall rfl fun K hK => ?_
                simp [t0, hs, h4, logSafeS, hlg]
                apply hK; clear hK K; simp only [onNormal, onExit]
                by_cases hvz : v < z
                · have hw6 : IntKind.i64.wrap (((cntI z (l.take i) : Nat) : Int) + 1) = ((cntI z (l.take i) + 1 : Nat) : Int) := by rw [IntKind.wrap_i64]; omega
                  (repeat refine AWP.seq ?_); refine AWP.cond (b := true) (by simp [hvz]) ?_; simp only [if_true, if_false, Bool.false_eq_true]
                  (repeat refine AWP.seq ?_)
                  refine AWP.region_last hcall rfl fun K hK => ?_
                  simp [t6, hw6]
                  apply hK; clear hK K; simp only [onNormal, onExit]
                  (repeat refine AWP.seq ?_)
                  refine AWP.region_last hcall rfl fun K hK => ?_
                  simp [t14, hi1]
                  apply hK; clear hK K; simp only [onNormal, onExit]
                  refine ⟨n - (i + 1), by omega, i + 1, by omega, rfl, by first | rfl | trivial, by simp [t0], by simp [t12], by simp [t13], by simp, by simp [hcn, hvz]⟩
                · (repeat refine AWP.seq ?_); refine AWP.cond (b := false) (by simp [hvz]) ?_; simp only [if_true, if_false, Bool.false_eq_true]
                  refine AWP.skip ?_; simp only [onNormal, onExit]
                  (repeat refine AWP.seq ?_)
                  refine AWP.region_last hcall rfl fun K hK => ?_
                  simp [t14, hi1]
                  apply hK; clear hK K; simp only [onNormal, onExit]
                  refine ⟨n - (i + 1), by omega, i + 1, by omega, rfl, by first | rfl | trivial, by simp [t0], by simp [t12], by simp [t13], by simp, by simp [hcn, hvz, t6]⟩
              obtain rfl : i = n := by omega
              have hta : l.take i = l := List.take_of_length_le (by omega)
              rw [hta] at t6
              have hcl : cntI z l <= i := by
                have := List.countP_le_length (p := fun x => decide (x < z)) (l := l)
                simp only [cntI]; omega
              obtain ⟨C, hC⟩ : ∃ C, C = cntI z l := ⟨_, rfl⟩
              rw [<- hC] at t6 hcl ⊢
              (repeat refine AWP.seq ?_)
              refine AWP.region_last hcall rfl fun K hK => ?_
              simp [t13, t14]
              apply hK; clear hK K; simp only [onNormal, onExit]
              (repeat refine AWP.seq ?_); refine AWP.cond (b := false) (by simp) ?_; simp only [if_true, if_false, Bool.false_eq_true]
              refine AWP.exit ?_; simp only [onNormal, onExit, if_true, reduceCtorEq, if_false]
              have hw1 : IntKind.i64.wrap ((C : Int) - 1) = (C : Int) - 1 := by rw [IntKind.wrap_i64]; omega
              have hmx : max ((C : Int) - 1) 0 = ((C - 1 : Nat) : Int) := by omega
              by_cases hC0 : 0 < C
              · have hC1 : (0 : Int) < (C : Int) := by omega
                have hmy : (if (C : Int) - 1 < 0 then 0 else (C : Int) - 1) = ((C - 1 : Nat) : Int) := by split <;> omega
                (repeat refine AWP.seq ?_)
                refine AWP.region_last hcall rfl fun K hK => ?_
                simp [t6, hw1, hmx]
                apply hK; clear hK K; simp only [onNormal, onExit]
                (try refine AWP.ret ?_); (try simp only [onNormal, onExit]); refine ⟨by simp, ⟨[_, _], by simp [ares, Tryz.results175, hC0, hmy, hmx]; try rfl, rfl⟩, fun k row hk => ?_⟩
                exact hk
              · obtain rfl : C = 0 := by omega
                have hwm : IntKind.i64.wrap (-1) = -1 := rfl
                (repeat refine AWP.seq ?_)
                refine AWP.region_last hcall rfl fun K hK => ?_
                simp [t6, hwm]
                apply hK; clear hK K; simp only [onNormal, onExit]
                (try refine AWP.ret ?_); (try simp only [onNormal, onExit]); refine ⟨by simp, ⟨[_, _], by simp [ares, Tryz.results175, hwm]; try rfl, rfl⟩, fun k row hk => ?_⟩
                exact hk
            · cases h
          · cases h
        · cases h
      · cases h
    · cases h
  · cases h
end Go.Proofs.YtjinjfblilacaaaGreat.Den
end
section
set_option linter.unusedSimpArgs false
set_option maxRecDepth 1000000
namespace Go.Proofs.YtjinjfblilacaaaGreat.Den
end Go.Proofs.YtjinjfblilacaaaGreat.Den
end
section
set_option linter.unusedSimpArgs false
namespace Go.Proofs.YtjinjfblilacaaaGreat.Den
open Go.RowKit
variable {P : Program} {ρ : Vals} {ν : Nat -> Option Name}
/-! ### states written out -/
def putT : List (Nat × SV) -> Tr SV -> Tr SV
  | [], T => T
  | (k, v) :: r, T => putT r (T.put k v)
def putM : List (Nat × List SV) -> Tr (List SV) -> Tr (List SV)
  | [], m => m
  | (k, v) :: r, m => putM r (m.put k v)
structure LS where
  T : List (Nat × SV)
  next : Nat
  rows : List (Nat × List SV)
def LS.tr (s : LS) : Tr SV := putT s.T .nil
def LS.mem (s : LS) : Mem := ⟨s.next, putM s.rows .nil⟩
theorem putM_get : ∀ (l : List (Nat × List SV)) (m : Tr (List SV)) (k : Nat) (row : List SV), (putM l m).get k = some row -> (k, row) ∈ l \/ m.get k = some row
  | [], _, _, _, h => .inr h
  | (k', v) :: r, m, k, row, h => by
    rcases putM_get r _ k row h with h1 | h1
    · exact .inl (List.mem_cons_of_mem _ h1)
    · rcases put_get_some m k' v k row h1 with ⟨rfl, rfl⟩ | ⟨_, h2⟩
      · exact .inl (by simp)
      · exact .inr h2
/-- The same temporaries. -/
def sameT (T T' : Tr SV) : Nat -> Bool
  | 0 => true
  | n + 1 => SV.beq ((T'.get n).getD (.val undef)) ((T.get n).getD (.val undef)) && sameT T T' n
def sameM (next : Nat) (h' : Mem) : List (Nat × List SV) -> Bool
  | [] => true
  | (k, row) :: r => (match h'.get k with
    | some row' => SV.beqs row' row
    | none => false) && sameM next h' r
def isLS (n : Nat) (s : LS) (T' : Tr SV) (h' : Mem) : Bool := Nat.beq s.next h'.next && s.T.all (fun p => Nat.blt p.1 n) && sameT s.tr T' n && sameM s.next h' s.rows
theorem sameT_at {T T' : Tr SV} : ∀ {n : Nat}, sameT T T' n = true -> ∀ t, t < n -> (T'.get t).getD (.val undef) = (T.get t).getD (.val undef)
  | 0, _, t, ht => by omega
  | n + 1, h, t, ht => by
    simp only [sameT, Bool.and_eq_true] at h
    by_cases e : t = n
    · subst e; exact SV.beq_eq h.1
    · exact sameT_at h.2 t (by omega)
theorem sameM_at {next : Nat} {h' : Mem} : ∀ {l : List (Nat × List SV)}, sameM next h' l = true -> ∀ k row, (k, row) ∈ l -> h'.get k = some row
  | [], _, _, _, h => by cases h
  | (k', row') :: r, hs, k, row, h => by
    simp only [sameM, Bool.and_eq_true] at hs
    rcases List.mem_cons.1 h with e | h
    · cases e
      have h1 := hs.1
      split at h1
      · rename_i r' hr'; rw [hr', SV.beqs_eq h1]
      · cases h1
    · exact sameM_at hs.2 k row h
theorem sameM_rel {next : Nat} {h' : Mem} {H : AHeap} {rows : List (Nat × List SV)} (hn : next = h'.next) (hm : MRel ρ ν h' H) (hs : sameM next h' rows = true) : MRel ρ ν ⟨next, putM rows .nil⟩ H where
  rows := fun k row hk => by
    rcases putM_get rows .nil k row hk with h1 | h1
    · exact hm.rows k row (sameM_at hs k row h1)
    · rw [nil_get] at h1; cases h1
  inj := hm.inj
  lt := fun k hk => by rw [hn]; exact hm.lt k hk
theorem putT_dom {n : Nat} (hn : n < 1000000) : ∀ (l : List (Nat × SV)) (T : Tr SV), l.all (fun p => Nat.blt p.1 n) = true -> Dom n T -> Dom n (putT l T)
  | [], _, _, h => h
  | (k, v) :: r, T, hl, h => by
    simp only [List.all_cons, Bool.and_eq_true] at hl
    exact putT_dom hn r _ hl.2 (h.put hn (d := some k) (fun j hj => by cases hj; exact blt_lt hl.1) v)
theorem isLS_dom {n : Nat} (hn : n < 1000000) {s : LS} {T' : Tr SV} {h' : Mem} (h : isLS n s T' h' = true) : Dom n s.tr := by
  simp only [isLS, Bool.and_eq_true] at h
  exact putT_dom hn s.T .nil h.1.1.2 fun t _ => nil_get t
theorem SAt.lit {p : Name} {n : Nat} (hn : n < 1000000) {s : LS} {T' : Tr SV} {h' : Mem} {a : AT} (hs : SAt ρ p T' h' [] ν a) (hd : Dom n T') (h : isLS n s T' h' = true) : SAt ρ p s.tr s.mem [] ν a := by
  have hdom := isLS_dom hn h
  simp only [isLS, Bool.and_eq_true] at h
  obtain ⟨⟨⟨h1, h2⟩, h3⟩, h4⟩ := h
  refine ⟨?_, sameM_rel (Nat.eq_of_beq_eq_true h1) hs.mem h4, hs.fre, hs.late⟩
  intro t
  by_cases ht : t < n
  · have := hs.tr t
    rwa [sameT_at h3 t ht] at this
  · have := hs.tr t
    rw [hd t (by omega)] at this
    rw [hdom t (by omega)]
    exact this
/-- The end, written out. -/
theorem XGoes.lit {W : (Exit -> Act -> World -> Prop) -> Act -> World -> Prop} {n : Nat} (hn : n < 1000000) {T T' : Tr SV} {h h' : Mem} {e : Exit} {s : LS} (hx : XGoes W ρ n T h [] e T' h' []) (hd : Dom n T') (hs : isLS n s T' h' = true) : XGoes W ρ n T h [] e s.tr s.mem [] := by
  intro p ν a st
  obtain ⟨ν', a', g1, g2, g3⟩ := hx p ν a st
  exact ⟨ν', a', g1, g2.lit hn hd hs, g3⟩
/-- A known call, for the executor: where the memory holds what is asked. -/
structure Pt where
  args : List SV
  next : Nat
  rows : List (Nat × List SV)
  r : SV
  h' : Mem
end Go.Proofs.YtjinjfblilacaaaGreat.Den
end
section
set_option linter.unusedSimpArgs false
set_option linter.unusedVariables false
namespace Go.Proofs.YtjinjfblilacaaaGreat.Den
/-- The plan, made once for a region. -/
def planItemsOf (ops : Array Oper) : List Item := (mkPlan ops).2
noncomputable def hreg : Bool -> Array Oper -> List Fact -> Program -> SCall -> Tr SV -> Mem -> SLate -> CRes := @Bool.rec (fun _ => Array Oper -> List Fact -> Program -> SCall -> Tr SV -> Mem -> SLate -> CRes) (fun ops Γ P call T h D => gn3 (gregion ops.toList Γ P call ops T h D)) (fun ops Γ P call T h D => gn2 (gdraw (planItemsOf ops) 0 Γ P call ops T [(0, h)] h) D)
noncomputable def hnode : Code -> NT := @Code.rec (fun _ => NT)
  (fun Γ P call n f k T h D => some (.normal, T, h, D))
  (fun id ops d Γ P call n f k T h D => hreg d ops Γ P call T h D)
  (fun x y _ _ Γ P call n f k T h D => gthen (k x T h D) (k y))
  (fun x y z _ _ Γ P call n f k T h D => gcond (genv x T) y z k T h D)
  (fun id x _ Γ P call n f k T h D => fblock id (k x T h D))
  (fun x _ Γ P call n f k T h D => gthen (k x T h D) (k (.loop x)))
  (fun _ _ _ _ _ _ Γ P call n f k T h D => none)
  (fun id Γ P call n f k T h D => some (.exit id, T, h, D))
  (fun x _ Γ P call n f k T h D => fscope x k f (k x T h D))
  (fun l Γ P call n f k T h D => some (.normal, T, h, D))
  (fun l Γ P call n f k T h D => some (.goto l, T, h, D))
  (fun Γ P call n f k T h D => some (.ret, T, h, D))
  (fun _ Γ P call n f k T h D => none)
noncomputable def hrun (Γ : List Fact) (P : Program) (call : SCall) (n : Nat) : Nat -> CK := @Nat.rec (fun _ => CK) (fun _ _ _ _ => none) (fun f k c => hnode c Γ P call n f k)
/-! ### functions -/
noncomputable def hbody2 (ok : Bool) (Γ : List Fact) (P : Program) (F : Nat) (call : SCall) (args : List SV) (h : Mem) (fn : Func) (code : Code) : CRes := bif ok then hrun Γ P call fn.ntmps F code (sargs 0 args .nil) h [] else grun Γ P call fn.ntmps F code (sargs 0 args .nil) h []
noncomputable def hbody1 (ok : Bool) (Γ : List Fact) (P : Program) (F : Nat) (call : SCall) (f : FuncId) (args : List SV) (h : Mem) (fn : Func) : Option Code -> Option (Func × Tr SV × Mem × SLate)
  | some code => bif isGo P f && Nat.ble args.length fn.ntmps && Nat.blt fn.ntmps 1000000 then fbody2 fn (hbody2 ok Γ P F call args h fn code) else none
  | none => none
noncomputable def hbody (ok : Bool) (Γ : List Fact) (P : Program) (F : Nat) (call : SCall) (f : FuncId) (args : List SV) (h : Mem) : Option Func -> Option (Func × Tr SV × Mem × SLate)
  | some fn => hbody1 ok Γ P F call f args h fn fn.body
  | none => none
end Go.Proofs.YtjinjfblilacaaaGreat.Den
end
section
set_option linter.unusedSimpArgs false
set_option maxRecDepth 1000000
namespace Go.Proofs.YtjinjfblilacaaaGreat.Den
end Go.Proofs.YtjinjfblilacaaaGreat.Den
end
section
set_option linter.unusedSimpArgs false
set_option linter.unusedVariables false
set_option maxRecDepth 100000
namespace Go.Proofs.YtjinjfblilacaaaGreat.Den
open Go.RowKit
variable {P : Program} {ρ : Vals} {ν : Nat -> Option Name}
end Go.Proofs.YtjinjfblilacaaaGreat.Den
end
section
set_option linter.unusedSimpArgs false
set_option linter.unusedVariables false
set_option maxRecDepth 100000
namespace Go.Proofs.YtjinjfblilacaaaGreat.Den
open Go.RowKit
variable {P : Program} {ρ : Vals} {ν : Nat -> Option Name}
end Go.Proofs.YtjinjfblilacaaaGreat.Den
end
section
set_option linter.unusedSimpArgs false
set_option linter.unusedVariables false
set_option maxRecDepth 1000000
namespace Go.Proofs.YtjinjfblilacaaaGreat.Den
open Go.RowKit
variable {P : Program} {ρ : Vals} {ν : Nat -> Option Name}
end Go.Proofs.YtjinjfblilacaaaGreat.Den
end
section
set_option linter.unusedSimpArgs false
set_option linter.unusedVariables false
set_option maxRecDepth 100000
namespace Go.Proofs.YtjinjfblilacaaaGreat.Den
open Go.RowKit
variable {P : Program} {ρ : Vals} {ν : Nat -> Option Name}
end Go.Proofs.YtjinjfblilacaaaGreat.Den
end
section
set_option linter.unusedSimpArgs false
set_option maxRecDepth 1000000
namespace Go.Proofs.YtjinjfblilacaaaGreat.Den
end Go.Proofs.YtjinjfblilacaaaGreat.Den
end
section
set_option linter.unusedSimpArgs false
set_option linter.unusedVariables false
set_option maxRecDepth 100000
namespace Go.Proofs.YtjinjfblilacaaaGreat.Den
open Go.RowKit
variable {P : Program} {ρ : Vals} {ν : Nat -> Option Name}
end Go.Proofs.YtjinjfblilacaaaGreat.Den
end
section
set_option linter.unusedSimpArgs false
set_option linter.unusedVariables false
set_option maxRecDepth 100000
namespace Go.Proofs.YtjinjfblilacaaaGreat.Den
open Go.RowKit
variable {P : Program} {ρ : Vals} {ν : Nat -> Option Name}
end Go.Proofs.YtjinjfblilacaaaGreat.Den
end
section
set_option linter.unusedSimpArgs false
set_option linter.unusedVariables false
set_option maxRecDepth 100000
namespace Go.Proofs.YtjinjfblilacaaaGreat.Den
open Go.RowKit
variable {P : Program} {ρ : Vals} {ν : Nat -> Option Name}
end Go.Proofs.YtjinjfblilacaaaGreat.Den
end
section
set_option linter.unusedSimpArgs false
set_option maxRecDepth 1000000
namespace Go.Proofs.YtjinjfblilacaaaGreat.Den
end Go.Proofs.YtjinjfblilacaaaGreat.Den
end
section
set_option linter.unusedSimpArgs false
set_option linter.unusedVariables false
set_option maxRecDepth 100000
namespace Go.Proofs.YtjinjfblilacaaaGreat
open Go.RowKit Go.Lib
namespace Den
end Den
end Go.Proofs.YtjinjfblilacaaaGreat
end
section
set_option linter.unusedSimpArgs false
set_option linter.unusedVariables false
namespace Go.Proofs.YtjinjfblilacaaaGreat
open Go.RowKit Go.Lib
end Go.Proofs.YtjinjfblilacaaaGreat
end
section
set_option linter.unusedSimpArgs false
set_option linter.unusedVariables false
namespace Go.Proofs.YtjinjfblilacaaaGreat
open Go.RowKit Go.Shelf
attribute [local go_sem] Oper.semAt_some
namespace Den
end Den
end Go.Proofs.YtjinjfblilacaaaGreat
end
section
set_option linter.unusedSimpArgs false
set_option linter.unusedVariables false
set_option maxRecDepth 100000
namespace Go.Proofs.YtjinjfblilacaaaGreat.Den
open Go.RowKit
variable {P : Program} {ρ : Vals} {ν : Nat -> Option Name}
end Go.Proofs.YtjinjfblilacaaaGreat.Den
end
section
set_option linter.unusedSimpArgs false
namespace Go.Proofs.YtjinjfblilacaaaGreat.Den
open Go.RowKit
variable {P : Program} {ρ : Vals} {ν : Nat -> Option Name}
/-! ### rows written out -/
noncomputable def cA (l r : List SV) : List SV := @List.rec SV (fun _ => List SV) r (fun a _ ih => a :: ih) l
noncomputable def cB (l : List Nat) (r : List SV) : List SV := @List.rec Nat (fun _ => List SV) r (fun n _ ih => SV.int .u8 (.lit (.ofNat n)) :: ih) l
noncomputable def zb : SV := .int .u8 (.lit (.ofNat 0))
noncomputable def cZ (n : Nat) (r : List SV) : List SV := @Nat.rec (fun _ => List SV) r (fun _ ih => zb :: ih) n
noncomputable def nI (n : Nat) : SV := .int .i64 (.lit (.ofNat n))
noncomputable def sN : SV := .val (.slice none 0 0)
/-! ### quick comparisons -/
noncomputable def kOrd : IntKind -> Nat := @IntKind.rec (fun _ => Nat) 0 1 2 3 4 5 6 7
theorem kOrd_inj : ∀ {a b : IntKind}, kOrd a = kOrd b -> a = b := by intro a b; cases a <;> cases b <;> simp [kOrd]
noncomputable def zq (a b : Int) : Bool := @Int.casesOn (fun _ => Bool) a (fun m => @Int.casesOn (fun _ => Bool) b (fun n => Nat.beq m n) fun _ => false) (fun m => @Int.casesOn (fun _ => Bool) b (fun _ => false) fun n => Nat.beq m n)
theorem zq_eq {a b : Int} (h : zq a b = true) : a = b := by
  cases a <;> cases b <;> first | cases h | (have h' := Nat.eq_of_beq_eq_true h; subst h'; rfl)
noncomputable def iq (a b : IE) : Bool :=
  match a, b with
  | .lit m, .lit n => zq m n
  | a, b => IE.beq a b
theorem iq_eq {a b : IE} (h : iq a b = true) : a = b := by
  unfold iq at h
  split at h
  · rw [zq_eq h]
  · exact IE.beq_eq h
noncomputable def vq (a b : SV) : Bool :=
  match a, b with
  | .int k m, .int k' n => Nat.beq (kOrd k) (kOrd k') && iq m n
  | a, b => SV.beq a b
theorem vq_eq {a b : SV} (h : vq a b = true) : a = b := by
  unfold vq at h
  split at h
  · simp only [Bool.and_eq_true] at h
    rw [kOrd_inj (Nat.eq_of_beq_eq_true h.1), iq_eq h.2]
  · exact SV.beq_eq h
noncomputable def isZ (a : SV) : Bool :=
  match a with
  | .int .u8 (.lit (.ofNat n)) => Nat.beq n 0
  | _ => false
theorem isZ_eq {a : SV} (h : isZ a = true) : a = zb := by
  unfold isZ at h
  split at h
  · rw [Nat.eq_of_beq_eq_true h]; rfl
  · cases h
/-- Just so many zero bytes. -/
noncomputable def tZ : Nat -> List SV -> Bool := @Nat.rec (fun _ => List SV -> Bool) (fun l => @List.casesOn SV (fun _ => Bool) l true (fun _ _ => false)) (fun _ ih l => @List.casesOn SV (fun _ => Bool) l false (fun a r => @Bool.casesOn (fun _ => Bool) (isZ a) false (ih r)))
theorem tZ_eq : ∀ {n : Nat} {l : List SV}, tZ n l = true -> l = cZ n []
  | 0, l, h => by cases l with
    | nil => rfl
    | cons a r => cases h
  | n + 1, l, h => by
    cases l with
    | nil => cases h
    | cons a r =>
      have h' : @Bool.casesOn (fun _ => Bool) (isZ a) false (tZ n r) = true := h
      cases hz : isZ a with
      | false => rw [hz] at h'; cases h'
      | true =>
        rw [hz] at h'
        have h2 : tZ n r = true := h'
        rw [isZ_eq hz, tZ_eq h2]; rfl
/-- A row: just these cells, and so many zero bytes. -/
noncomputable def rowq : List SV -> Nat -> List SV -> Bool := @List.rec SV (fun _ => Nat -> List SV -> Bool) (fun m row => @Bool.casesOn (fun _ => Bool) (tZ m row) false true) (fun a _ ih m row => @List.casesOn SV (fun _ => Bool) row false (fun b r => @Bool.casesOn (fun _ => Bool) (vq b a) false (ih m r)))
theorem cA_cons (a : SV) (l r : List SV) : cA (a :: l) r = a :: cA l r := rfl
theorem rowq_eq : ∀ {l : List SV} {m : Nat} {row : List SV}, rowq l m row = true -> row = cA l (cZ m [])
  | [], m, row, h => by
    have h' : @Bool.casesOn (fun _ => Bool) (tZ m row) false true = true := h
    cases hz : tZ m row with
    | false => rw [hz] at h'; cases h'
    | true => exact tZ_eq hz
  | a :: l, m, row, h => by
    cases row with
    | nil => cases h
    | cons b r =>
      have h' : @Bool.casesOn (fun _ => Bool) (vq b a) false (rowq l m r) = true := h
      cases hz : vq b a with
      | false => rw [hz] at h'; cases h'
      | true =>
        rw [hz] at h'
        have h2 : rowq l m r = true := h'
        rw [vq_eq hz, rowq_eq h2]; rfl
/-! ### memories written out -/
/-- Rows: its number, its cells, how many zero bytes lie behind. -/
abbrev ZRows := List (Nat × List SV × Nat)
noncomputable def zrow (l : List SV) (m : Nat) : List SV := @Nat.casesOn (fun _ => List SV) m l (fun _ => cA l (cZ m []))
theorem zrow_eq : ∀ (l : List SV) (m : Nat), zrow l m = cA l (cZ m [])
  | l, 0 => by
    show l = cA l []
    induction l with
    | nil => rfl
    | cons a l ih => rw [cA_cons, <- ih]
  | _, _ + 1 => rfl
noncomputable def putZ : ZRows -> Tr (List SV) -> Tr (List SV)
  | [], m => m
  | (k, l, z) :: r, m => putZ r (m.put k (zrow l z))
noncomputable def zmem (next : Nat) (rows : ZRows) : Mem := ⟨next, putZ rows .nil⟩
noncomputable def sameZ (h : Mem) : ZRows -> Bool
  | [] => true
  | (k, l, z) :: r => (match h.get k with
    | some row => rowq l z row
    | none => false) && sameZ h r
theorem putZ_get : ∀ (l : ZRows) (m : Tr (List SV)) (k : Nat) (row : List SV), (putZ l m).get k = some row -> (∃ c z, (k, c, z) ∈ l /\ row = zrow c z) \/ m.get k = some row
  | [], _, _, _, h => .inr h
  | (k', c, z) :: r, m, k, row, h => by
    rcases putZ_get r _ k row h with ⟨c', z', h1, h2⟩ | h1
    · exact .inl ⟨c', z', List.mem_cons_of_mem _ h1, h2⟩
    · rcases put_get_some m k' (zrow c z) k row h1 with ⟨rfl, rfl⟩ | ⟨_, h2⟩
      · exact .inl ⟨c, z, by simp, rfl⟩
      · exact .inr h2
theorem sameZ_at {h' : Mem} : ∀ {l : ZRows}, sameZ h' l = true -> ∀ k c z, (k, c, z) ∈ l -> h'.get k = some (zrow c z)
  | [], _, _, _, _, h => by cases h
  | (k', c', z') :: r, hs, k, c, z, h => by
    simp only [sameZ, Bool.and_eq_true] at hs
    rcases List.mem_cons.1 h with e | h
    · cases e
      have h1 := hs.1
      split at h1
      · rename_i r' hr'; rw [hr', rowq_eq h1, zrow_eq]
      · cases h1
    · exact sameZ_at hs.2 k c z h
theorem sameZ_rel {next : Nat} {h' : Mem} {H : AHeap} {rows : ZRows} (hn : next = h'.next) (hm : MRel ρ ν h' H) (hs : sameZ h' rows = true) : MRel ρ ν (zmem next rows) H where
  rows := fun k row hk => by
    rcases putZ_get rows .nil k row hk with ⟨c, z, h1, rfl⟩ | h1
    · exact hm.rows k _ (sameZ_at hs k c z h1)
    · rw [nil_get] at h1; cases h1
  inj := hm.inj
  lt := fun k hk => by show k < next; rw [hn]; exact hm.lt k hk
/-! ### known calls -/
structure PZ where
  f : FuncId
  args : List SV
  next : Nat
  rows : ZRows
  r : SV
  next' : Nat
  rows' : ZRows
/-- Checked: a call of the executor does that. -/
noncomputable def pzR (r : SV) (next' : Nat) (rows' : ZRows) : SRes -> Bool
  | some (x, h') => vq x r && Nat.beq next' h'.next && sameZ h' rows'
  | none => false
noncomputable def pzOK (sc : SCall) (p : PZ) : Bool := pzR p.r p.next' p.rows' (sc p.f p.args (zmem p.next p.rows))
/-- What it says. -/
noncomputable def PZ.Holds (P : Program) (ρ : Vals) (p : PZ) : Prop :=
  isGo P p.f = true /\ ∀ (ν : Nat -> Option Name) (H : AHeap) (nm : Name) (xs : List AV), MRel ρ ν (zmem p.next p.rows) H -> Fre ν nm -> SRels ρ ν p.args xs -> ∃ z H', Sim P p.f xs nm H z H' /\ Out ρ ν nm p.r (zmem p.next' p.rows') z H'
theorem pz_holds {sc : SCall} {p : PZ} (h : pzOK sc p = true) (hsc : SCallOK P ρ sc) : p.Holds P ρ := by
  unfold pzOK at h
  cases hc : sc p.f p.args (zmem p.next p.rows) with
  | none => rw [hc] at h; cases h
  | some x =>
    obtain ⟨r, h'⟩ := x
    rw [hc] at h
    simp only [pzR, Bool.and_eq_true] at h
    obtain ⟨⟨h1, h2⟩, h3⟩ := h
    obtain ⟨g1, g2⟩ := hsc _ _ _ _ _ hc
    refine ⟨g1, fun ν H nm xs hm hfre hxs => ?_⟩
    obtain ⟨z, H', k1, ν', k2, k3, k4, k5⟩ := g2 ν H nm xs hm hfre hxs
    refine ⟨z, H', k1, ν', k2, k3, sameZ_rel (Nat.eq_of_beq_eq_true h2) k4 h3, ?_⟩
    rw [<- vq_eq h1]
    exact k5
end Go.Proofs.YtjinjfblilacaaaGreat.Den
end
section
set_option linter.unusedSimpArgs false
set_option linter.unusedVariables false
namespace Go.Proofs.YtjinjfblilacaaaGreat.Den
open Go.RowKit
variable {P : Program} {ρ : Vals} {ν : Nat -> Option Name}
/-! ### a part of a memory, and the rest -/
open Classical in
/-- What a call was given. -/
noncomputable def givenH (D : Name -> Prop) (H : AHeap) : AHeap := fun k => if D k then H k else none
open Classical in
/-- What it left behind, and what it was not given. -/
noncomputable def leftH (nm : Name) (D : Name -> Prop) (H H' : AHeap) : AHeap := fun k =>
  if Under nm k \/ D k then H' k else match H k with
    | some r => some r
    | none => H' k
theorem left_get {nm : Name} {D : Name -> Prop} {H H' : AHeap} {k : Name} {r : List AV} (h : leftH nm D H H' k = some r) : H' k = some r \/ (¬ D k /\ ¬ Under nm k /\ H k = some r) := by
  unfold leftH at h
  split at h
  · exact .inl h
  · rename_i hc
    split at h
    · rename_i r' hr; cases h; exact .inr ⟨fun e => hc (.inr e), fun e => hc (.inl e), hr⟩
    · exact .inl h
theorem left_ne {nm : Name} {D : Name -> Prop} {H H' : AHeap} {k : Name} (h : leftH nm D H H' k ≠ none) : H' k ≠ none \/ (¬ D k /\ ¬ Under nm k /\ H k ≠ none) := by
  cases e : leftH nm D H H' k with
  | none => exact absurd e h
  | some r =>
    rcases left_get e with h1 | ⟨h1, h2, h3⟩
    · exact .inl (by rw [h1]; simp)
    · exact .inr ⟨h1, h2, by rw [h3]; simp⟩
theorem given_ne {D : Name -> Prop} {H : AHeap} {k : Name} (h : givenH D H k ≠ none) : D k /\ H k ≠ none := by
  unfold givenH at h
  split at h
  · rename_i hd; exact ⟨hd, h⟩
  · exact absurd rfl h
theorem owns_given {σ : Sig} {D : Name -> Prop} {H : AHeap} {b : Nat} (h : Owns σ (givenH D H) b) : Owns σ H b := by
  obtain ⟨n, p, h1, h2, h3⟩ := h
  exact ⟨n, p, (given_ne h1).2, h2, h3⟩
theorem Sim.frame {f : FuncId} {xs : List AV} {nm : Name} {D : Name -> Prop} {H H' : AHeap} {z : AV} (h : Sim P f xs nm (givenH D H) z H') : Sim P f xs nm H z (leftH nm D H H') := by
  intro σ I w vs hfr hv har
  have hsub : ∀ n row, givenH D H n = some row -> H n = some row := fun n row hn => by
    unfold givenH at hn
    split at hn
    · exact hn
    · cases hn
  have har₀ : ARel σ I (givenH D H) w := (Step.forget (nm := Under nm) har hsub).rel
  refine (h σ I w vs hfr hv har₀).mono ?_
  rintro e w' ⟨v, σ', I', rfl, st, hr⟩
  have hrest : ∀ k, ¬ D k -> H k ≠ none -> ∀ p, σ k = some p -> p.b < w.heap.size /\ ¬ Owns σ (givenH D H) p.b := by
    intro k hd hk p hp
    cases e : H k with
    | none => exact absurd e hk
    | some r =>
      obtain ⟨p', c, el, fr, h1, h2, _⟩ := har.rows k r e
      rw [hp] at h1; cases h1
      refine ⟨(Array.getElem?_eq_some_iff.1 h2).1, ?_⟩
      rintro ⟨n, q, g1, g2, g3⟩
      obtain ⟨g4, g5⟩ := given_ne g1
      have := har.inj n k q p g5 hk g2 hp g3
      subst this
      exact hd g4
  have hsome : ∀ k, H k ≠ none -> ∃ p, σ k = some p := fun k hk => by
    cases e : H k with
    | none => exact absurd e hk
    | some r => obtain ⟨p, _, _, _, h1, _⟩ := har.rows k r e; exact ⟨p, h1⟩
  refine ⟨v, σ', I', rfl, ?_, hr⟩
  refine ⟨⟨?_, ?_, st.rel.imm, ?_⟩, st.sig, st.new, st.imm, ?_, ?_, ⟨st.fr.os, st.fr.tape, st.fr.output, st.fr.size, fun b hb hno => st.fr.block b hb fun ho => hno (owns_given ho)⟩⟩
  · intro n row hn
    rcases left_get hn with h1 | ⟨h1, h2, h3⟩
    · exact st.rel.rows n row h1
    · obtain ⟨p, c, el, fr, g1, g2, g3, g4, g5⟩ := har.rows n row h3
      obtain ⟨k1, k2⟩ := hrest n h1 (by rw [h3]; simp) p g1
      exact ⟨p, c, el, fr, st.sig _ _ g1, by rw [st.fr.block _ k1 k2]; exact g2, g3, g4, g5.mono st.sig st.imm⟩
  · intro n n' p p' hn hn' hp hp' hb
    rcases left_ne hn with h1 | ⟨h1, h2, h3⟩
    · rcases left_ne hn' with k1 | ⟨k1, k2, k3⟩
      · exact st.rel.inj n n' p p' h1 k1 hp hp' hb
      · obtain ⟨q, hq⟩ := hsome n' k3
        have := st.sig _ _ hq
        rw [hp'] at this; cases this
        obtain ⟨g1, g2⟩ := hrest n' k1 k3 p' hq
        rcases st.own p.b ⟨n, p, h1, hp, rfl⟩ with ho | ho
        · exact absurd (hb ▸ ho) g2
        · omega
    · obtain ⟨q, hq⟩ := hsome n h3
      have := st.sig _ _ hq
      rw [hp] at this; cases this
      obtain ⟨g1, g2⟩ := hrest n h1 h3 p hq
      rcases left_ne hn' with k1 | ⟨k1, k2, k3⟩
      · rcases st.own p'.b ⟨n', p', k1, hp', rfl⟩ with ho | ho
        · exact absurd (hb ▸ ho) g2
        · omega
      · obtain ⟨q', hq'⟩ := hsome n' k3
        have := st.sig _ _ hq'
        rw [hp'] at this; cases this
        exact har.inj n n' p p' h3 k3 hq hq' hb
  · intro n p m hn hp
    rcases left_ne hn with h1 | ⟨h1, h2, h3⟩
    · exact st.rel.dis n p m h1 hp
    · obtain ⟨q, hq⟩ := hsome n h3
      have := st.sig _ _ hq
      rw [hp] at this; cases this
      obtain ⟨g1, g2⟩ := hrest n h1 h3 p hq
      cases e : I' m p.b with
      | none => rfl
      | some c =>
        rcases st.inew m p.b c e with ho | ho | ho
        · rw [har.dis n p m h3 hq] at ho; cases ho
        · omega
        · exact absurd ho g2
  · intro m b c hc
    rcases st.inew m b c hc with ho | ho | ho
    · exact .inl ho
    · exact .inr (.inl ho)
    · exact .inr (.inr (owns_given ho))
  · rintro b ⟨n, p, hn, hp, rfl⟩
    rcases left_ne hn with h1 | ⟨h1, h2, h3⟩
    · rcases st.own p.b ⟨n, p, h1, hp, rfl⟩ with ho | ho
      · exact .inl (owns_given ho)
      · exact .inr ho
    · obtain ⟨q, hq⟩ := hsome n h3
      have := st.sig _ _ hq
      rw [hp] at this; cases this
      exact .inl ⟨n, p, h3, hq, rfl⟩
/-! ### rows put into a memory -/
def smallZ (l : ZRows) : Bool := l.all fun q => Nat.blt q.1 1000000000
theorem putZ_out : ∀ {l : ZRows} {m : Tr (List SV)} {k : Nat}, (∀ q ∈ l, q.1 ≠ k) -> smallZ l = true -> (putZ l m).get k = m.get k
  | [], _, _, _, _ => rfl
  | (k', c, z) :: r, m, k, h, hs => by
    simp only [smallZ, List.all_cons, Bool.and_eq_true] at hs
    have h1 := blt_lt hs.1
    show (putZ r (m.put k' (zrow c z))).get k = _
    rw [putZ_out (fun q hq => h q (List.mem_cons_of_mem _ hq)) hs.2, put_get _ _ _ _ (by omega), if_neg (fun e => h (k', c, z) (by simp) e.symm)]
end Go.Proofs.YtjinjfblilacaaaGreat.Den
end
section
set_option linter.unusedSimpArgs false
set_option maxRecDepth 1000000
namespace Go.Proofs.YtjinjfblilacaaaGreat.Den
end Go.Proofs.YtjinjfblilacaaaGreat.Den
end
section
set_option linter.unusedSimpArgs false
set_option linter.unusedVariables false
set_option maxRecDepth 100000
namespace Go.Proofs.YtjinjfblilacaaaGreat.Den
open Go.RowKit
variable {P : Program} {ρ : Vals} {ν : Nat -> Option Name}
end Go.Proofs.YtjinjfblilacaaaGreat.Den
end
section
set_option linter.unusedSimpArgs false
set_option linter.unusedVariables false
set_option maxRecDepth 100000
namespace Go.Proofs.YtjinjfblilacaaaGreat.Den
open Go.RowKit
attribute [local simp] runList aop abuiltin acall awanted ayielded env T0 tput tset Ran aload astore setMany upd binV aslice aindexAddr apart aindex alen acopy srcCells natOf boundOf aeq AV.nilEq convV appK fillA List.range List.range.loop onF isU8 rowOf
end Go.Proofs.YtjinjfblilacaaaGreat.Den
end
section
set_option linter.unusedSimpArgs false
set_option linter.unusedVariables false
set_option maxRecDepth 100000
namespace Go.Proofs.YtjinjfblilacaaaGreat.Den
open Go.RowKit
attribute [local simp] runList aop abuiltin acall awanted ayielded env T0 tput tset Ran aload astore setMany upd binV aslice aindexAddr apart aindex alen acopy srcCells natOf boundOf aeq AV.nilEq convV appK fillA List.range List.range.loop onF isU8 rowOf
end Go.Proofs.YtjinjfblilacaaaGreat.Den
end
section
set_option linter.unusedSimpArgs false
set_option linter.unusedVariables false
set_option maxRecDepth 100000
namespace Go.Proofs.YtjinjfblilacaaaGreat.Den
open Go.RowKit
attribute [local simp] runList aop abuiltin acall awanted ayielded env T0 tput tset Ran aload astore setMany upd binV aslice aindexAddr apart aindex alen acopy srcCells natOf boundOf aeq AV.nilEq convV appK fillA List.range List.range.loop onF isU8 rowOf
end Go.Proofs.YtjinjfblilacaaaGreat.Den
end
section
set_option linter.unusedSimpArgs false
set_option linter.unusedVariables false
set_option maxRecDepth 100000
namespace Go.Proofs.YtjinjfblilacaaaGreat.Den
open Go.RowKit
attribute [local simp] runList aop abuiltin acall awanted ayielded env T0 tput tset Ran aload astore setMany upd binV aslice aindexAddr apart aindex alen acopy srcCells natOf boundOf aeq AV.nilEq convV appK fillA List.range List.range.loop onF isU8 rowOf
end Go.Proofs.YtjinjfblilacaaaGreat.Den
end
section
set_option linter.unusedSimpArgs false
set_option linter.unusedVariables false
set_option maxRecDepth 100000
namespace Go.Proofs.YtjinjfblilacaaaGreat.Den
open Go.RowKit
attribute [local simp] runList aop abuiltin acall awanted ayielded env T0 tput tset Ran aload astore setMany upd binV aslice aindexAddr apart aindex alen acopy srcCells natOf boundOf aeq AV.nilEq convV appK fillA List.range List.range.loop onF isU8 rowOf
end Go.Proofs.YtjinjfblilacaaaGreat.Den
end
section
set_option linter.unusedSimpArgs false
set_option linter.unusedVariables false
set_option maxRecDepth 100000
namespace Go.Proofs.YtjinjfblilacaaaGreat.Den
open Go.RowKit
variable {P : Program} {ρ : Vals} {ν : Nat -> Option Name}
end Go.Proofs.YtjinjfblilacaaaGreat.Den
end
section
set_option linter.unusedSimpArgs false
set_option maxRecDepth 1000000
namespace Go.Proofs.YtjinjfblilacaaaGreat.Den
end Go.Proofs.YtjinjfblilacaaaGreat.Den
end
section
set_option linter.unusedSimpArgs false
set_option linter.unusedVariables false
namespace Go.Proofs.YtjinjfblilacaaaGreat.Den
end Go.Proofs.YtjinjfblilacaaaGreat.Den
end
