/- Package comitiaref1: Byte, Int. -/
import Derived.Test.YtjinjfblilacaaaGreatKSymS
set_option linter.unusedVariables false
set_option linter.unusedSimpArgs false
section
set_option linter.unusedSimpArgs false
set_option linter.unusedVariables false
set_option maxRecDepth 100000
namespace Go.Proofs.YtjinjfblilacaaaGreat.Den
open Go.RowKit
attribute [local simp] runList aop abuiltin acall awanted ayielded env T0 tput tset Ran aload astore setMany upd binV aslice aindexAddr apart aindex alen acopy srcCells natOf boundOf aeq AV.nilEq convV appK fillA List.range List.range.loop onF isU8 rowOf
end Go.Proofs.YtjinjfblilacaaaGreat.Den
end
section
set_option linter.unusedSimpArgs false
set_option linter.unusedVariables false
set_option maxRecDepth 100000
namespace Go.Proofs.YtjinjfblilacaaaGreat.Den
open Go.RowKit
attribute [local simp] runList aop abuiltin acall awanted ayielded env T0 tput tset Ran aload astore setMany upd binV aslice aindexAddr apart aindex alen acopy srcCells natOf boundOf aeq AV.nilEq convV appK fillA List.range List.range.loop onF isU8 rowOf
end Go.Proofs.YtjinjfblilacaaaGreat.Den
end
section
set_option linter.unusedSimpArgs false
set_option linter.unusedVariables false
set_option maxRecDepth 100000
namespace Go.Proofs.YtjinjfblilacaaaGreat.Den
open Go.RowKit
attribute [local simp] runList aop abuiltin acall awanted ayielded env T0 tput tset Ran aload astore setMany upd binV aslice aindexAddr apart aindex alen acopy srcCells natOf boundOf aeq AV.nilEq convV appK fillA List.range List.range.loop onF isU8 rowOf
end Go.Proofs.YtjinjfblilacaaaGreat.Den
end
section
set_option linter.unusedSimpArgs false
set_option linter.unusedVariables false
set_option maxRecDepth 100000
namespace Go.Proofs.YtjinjfblilacaaaGreat.Den
open Go.RowKit
attribute [local simp] runList aop abuiltin acall awanted ayielded env T0 tput tset Ran aload astore setMany upd binV aslice aindexAddr apart aindex alen acopy srcCells natOf boundOf aeq AV.nilEq convV appK fillA List.range List.range.loop onF isU8 rowOf
end Go.Proofs.YtjinjfblilacaaaGreat.Den
end
section
set_option linter.unusedSimpArgs false
set_option linter.unusedVariables false
set_option maxRecDepth 100000
namespace Go.Proofs.YtjinjfblilacaaaGreat.Den
open Go.RowKit
attribute [local simp] runList aop abuiltin acall awanted ayielded env T0 tput tset Ran aload astore setMany upd binV aslice aindexAddr apart aindex alen acopy srcCells natOf boundOf aeq AV.nilEq convV appK fillA List.range List.range.loop onF isU8 rowOf
end Go.Proofs.YtjinjfblilacaaaGreat.Den
end
section
set_option linter.unusedSimpArgs false
set_option linter.unusedVariables false
set_option maxRecDepth 100000
namespace Go.Proofs.YtjinjfblilacaaaGreat.Den
open Go.RowKit
attribute [local simp] runList aop abuiltin acall awanted ayielded env T0 tput tset Ran aload astore setMany upd binV aslice aindexAddr apart aindex alen acopy srcCells natOf boundOf aeq AV.nilEq convV appK fillA List.range List.range.loop onF isU8 rowOf
end Go.Proofs.YtjinjfblilacaaaGreat.Den
end
section
set_option linter.unusedSimpArgs false
set_option linter.unusedVariables false
set_option maxRecDepth 100000
namespace Go.Proofs.YtjinjfblilacaaaGreat.Den
open Go.RowKit
attribute [local simp] runList aop abuiltin acall awanted ayielded env T0 tput tset Ran aload astore setMany upd binV aslice aindexAddr apart aindex alen acopy srcCells natOf boundOf aeq AV.nilEq convV appK fillA List.range List.range.loop onF isU8 rowOf
end Go.Proofs.YtjinjfblilacaaaGreat.Den
end
section
set_option linter.unusedSimpArgs false
set_option linter.unusedVariables false
set_option maxRecDepth 100000
namespace Go.Proofs.YtjinjfblilacaaaGreat.Den
open Go.RowKit
attribute [local simp] runList aop abuiltin acall awanted ayielded env T0 tput tset Ran aload astore setMany upd binV aslice aindexAddr apart aindex alen acopy srcCells natOf boundOf aeq AV.nilEq convV appK fillA List.range List.range.loop onF isU8 rowOf
end Go.Proofs.YtjinjfblilacaaaGreat.Den
end
section
set_option linter.unusedSimpArgs false
set_option linter.unusedVariables false
set_option maxRecDepth 100000
namespace Go.Proofs.YtjinjfblilacaaaGreat.Den
open Go.RowKit
attribute [local simp] runList aop abuiltin acall awanted ayielded env T0 tput tset Ran aload astore setMany upd binV aslice aindexAddr apart aindex alen acopy srcCells natOf boundOf aeq AV.nilEq convV appK fillA List.range List.range.loop onF isU8 rowOf
/-- The words that every piece of a sum is mixed with. -/
def k256 : List Nat := [1116352408, 1899447441, 3049323471, 3921009573, 961987163, 1508970993, 2453635748, 2870763221, 3624381080, 310598401, 607225278, 1426881987, 1925078388, 2162078206, 2614888103, 3248222580, 3835390401, 4022224774, 264347078, 604807628, 770255983, 1249150122, 1555081692, 1996064986, 2554220882, 2821834349, 2952996808, 3210313671, 3336571891, 3584528711, 113926993, 338241895, 666307205, 773529912, 1294757372, 1396182291, 1695183700, 1986661051, 2177026350, 2456956037, 2730485921, 2820302411, 3259730800, 3345764771, 3516065817, 3600352804, 4094571909, 275423344, 430227734, 506948616, 659060556, 883997877, 958139571, 1322822218, 1537002063, 1747873779, 1955562222, 2024104815, 2227730452, 2361852424, 2428436474, 2756734187, 3204031479, 3329325298]
end Go.Proofs.YtjinjfblilacaaaGreat.Den
end
section
set_option linter.unusedSimpArgs false
namespace Go.Proofs.YtjinjfblilacaaaGreat.Den
open Go.RowKit
variable {P : Program} {ρ : Vals}
def isNil {α : Type} : List α -> Bool
  | [] => true
  | _ => false
/-- Calls by one table till the first cut, by another one behind. -/
noncomputable def yrun (P : Program) (call0 call : SCall) (n : Nat) : Nat -> Code -> Tr SV -> Mem -> XRes
  | 0, _, _, _ => none
  | f + 1, c, T, h =>
    match c with
    | .seq x y =>
      match yrun P call0 call n f x T h with
      | some (.normal, T, h, Θ) => (bif isNil Θ then yrun P call0 call n f y T h else xrun [] P call n f y T h).map fun (e, T, h, Θ') => (e, T, h, Θ ++ Θ')
      | r => r
    | .block id x => xrun [] P call n (f + 1) (.block id x) T h
    | .loop x => xrun [] P call n (f + 1) (.loop x) T h
    | c => xof (grun [] P call0 n f c T h [])
theorem FOk.nil : FOk ρ [] := fun x hx => by cases hx
theorem yrun_ok {sc0 sc : SCall} {n : Nat} (hsc0 : SCallOK P ρ sc0) (hsc : ∀ ρ, SCallOK P ρ sc) (hn : n < 1000000) : ∀ (f : Nat) (c : Code) (T T' : Tr SV) (h h' : Mem) (e : Exit) (Θ : List (List IE)), Dom n T -> yrun P sc0 sc n f c T h = some (e, T', h', Θ) ->
    Dom n T' /\ XG (Code.wp P c) n ρ T h e (ρ.subs Θ) T' h' := by
  intro f
  induction f with
  | zero => intro c T T' h h' e Θ _ hr; simp [yrun] at hr
  | succ f ih =>
    intro c T T' h h' e Θ hd hr
    cases c with
    | seq x y =>
      simp only [yrun] at hr
      cases hr1 : yrun P sc0 sc n f x T h with
      | none => rw [hr1] at hr; cases hr
      | some r =>
        obtain ⟨e1, T1, h1, Θ1⟩ := r
        rw [hr1] at hr
        obtain ⟨a1, a2⟩ := ih x T T1 h h1 e1 Θ1 hd hr1
        cases e1 with
        | normal =>
          simp only [Option.map_eq_some_iff] at hr
          obtain ⟨⟨e3, T3, h3, Θ3⟩, hr3, e4⟩ := hr
          simp only [Prod.mk.injEq] at e4
          obtain ⟨rfl, rfl, rfl, rfl⟩ := e4
          cases Θ1 with
          | nil =>
            obtain ⟨b1, b2⟩ := ih y T1 T3 h1 h3 e3 Θ3 a1 hr3
            exact ⟨b1, XG.seq a2 b2⟩
          | cons θ Θ1 =>
            obtain ⟨b1, b2⟩ := xrun_ok (fun _ => FOk.nil) hsc hn f y T1 T3 h1 h3 e3 Θ3 a1 hr3
            refine ⟨b1, ?_⟩
            rw [subs_append]
            exact XG.seq a2 (b2 _)
        | _ =>
          simp only [Option.some.injEq, Prod.mk.injEq] at hr
          obtain ⟨rfl, rfl, rfl, rfl⟩ := hr
          exact ⟨a1, a2.as fun Q a w h => wp_seq (wp_mono h (by rintro e₁ a w ⟨rfl, h⟩; exact h))⟩
    | block id x =>
      obtain ⟨a1, a2⟩ := xrun_ok (fun _ => FOk.nil) hsc hn (f + 1) (.block id x) T T' h h' e Θ hd hr
      exact ⟨a1, a2 ρ⟩
    | loop x =>
      obtain ⟨a1, a2⟩ := xrun_ok (fun _ => FOk.nil) hsc hn (f + 1) (.loop x) T T' h h' e Θ hd hr
      exact ⟨a1, a2 ρ⟩
    | _ =>
      obtain ⟨h1, rfl⟩ := xof_some hr
      rw [grun_eq, frun_eq] at h1
      exact ⟨srun_dom hn f _ T h [] e T' h' [] hd h1, (srun_ok FOk.nil hsc0 hn f _ T h [] e T' h' [] h1).xg⟩
/-! ### a function, all of it -/
def isEnd : Exit -> Bool
  | .normal => true
  | .ret => true
  | _ => false
def ychk3 (Θ : List (List IE)) (chk : List SV -> List (List IE) -> Bool) : Option (List SV) -> Bool
  | some l => chk l Θ
  | none => false
def ychk2 (P : Program) (fn : Func) (chk : List SV -> List (List IE) -> Bool) : XRes -> Bool
  | some (e, T, h, Θ) => bif isEnd e then ychk3 Θ chk (sres P T h fn.results.toList) else false
  | none => false
noncomputable def ychk1 (P : Program) (call0 call : SCall) (F : Nat) (f : FuncId) (args : List SV) (fn : Func) (chk : List SV -> List (List IE) -> Bool) : Option Code -> Bool
  | some code => bif isGo P f && Nat.ble args.length fn.ntmps && Nat.blt fn.ntmps 1000000 then ychk2 P fn chk (yrun P call0 call fn.ntmps F code (sargs 0 args .nil) ⟨0, .nil⟩) else false
  | none => false
noncomputable def ychk0 (P : Program) (call0 call : SCall) (F : Nat) (f : FuncId) (args : List SV) (chk : List SV -> List (List IE) -> Bool) : Option Func -> Bool
  | some fn => ychk1 P call0 call F f args fn chk fn.body
  | none => false
/-- A function is run, with cuts, and what it gives is checked. -/
noncomputable def ychk (P : Program) (call0 call : SCall) (F : Nat) (f : FuncId) (args : List SV) (chk : List SV -> List (List IE) -> Bool) : Bool := ychk0 P call0 call F f args chk (fnAt P f)
theorem sargs_dom {n : Nat} {l : List SV} (hl : l.length <= n) (hn : n < 1000000) : Dom n (sargs 0 l .nil) := by
  intro t ht
  rw [sargs_get l 0 .nil t (Nat.lt_trans (show 0 + l.length < 1000001 by omega) (by decide)), if_neg (by omega), nil_get]
theorem ychk_ok {sc0 sc : SCall} (hsc0 : SCallOK P ρ sc0) (hsc : ∀ ρ, SCallOK P ρ sc) {F : Nat} {f : FuncId} {args : List SV} {chk : List SV -> List (List IE) -> Bool} (h : ychk P sc0 sc F f args chk = true) :
    isGo P f = true /\ ∃ l Θ, chk l Θ = true /\ ∀ xs, SRels ρ noN args xs -> ∃ ν' ys, SRels (ρ.subs Θ) ν' l ys /\ ∀ (I : Imm) (w : World) (vs : Array Value), VRels noS I xs vs.toList -> (∀ m b c, I m b = some c -> ∃ el fr, w.heap[b]? = some (.cells c el fr)) ->
      Calls P f vs w fun e w' => ∃ v σ' I', e = .returned v /\ Below w.heap.size w w' /\ VRel σ' I' (ares1 ys) v := by
  unfold ychk at h
  cases hf : fnAt P f with
  | none => rw [hf] at h; cases h
  | some fn =>
    rw [hf] at h
    simp only [ychk0] at h
    cases hb : fn.body with
    | none => rw [hb] at h; cases h
    | some code =>
      rw [hb] at h
      simp only [ychk1] at h
      cases hc : (isGo P f && Nat.ble args.length fn.ntmps && Nat.blt fn.ntmps 1000000) with
      | false => rw [hc] at h; cases h
      | true =>
        rw [hc] at h
        simp only [cond_true] at h
        simp only [Bool.and_eq_true] at hc
        obtain ⟨⟨hgo, ha⟩, hn⟩ := hc
        have ha := Nat.le_of_ble_eq_true ha
        have hn := blt_lt hn
        unfold ychk2 at h
        split at h
        · rename_i e T h' Θ hy
          cases he : isEnd e with
          | false => rw [he] at h; cases h
          | true =>
            rw [he] at h
            simp only [cond_true] at h
            cases hr : sres P T h' fn.results.toList with
            | none => rw [hr] at h; cases h
            | some l =>
              rw [hr] at h
              refine ⟨hgo, l, Θ, h, fun xs hxs => ?_⟩
              obtain ⟨_, g⟩ := yrun_ok hsc0 hsc hn F code _ T _ h' e Θ (sargs_dom ha hn) hy
              refine calls_of_xg hf hb ha hn g ?_ hr hxs
              cases e <;> first | exact .inl rfl | exact .inr rfl | cases he
        · cases h
end Go.Proofs.YtjinjfblilacaaaGreat.Den
end
