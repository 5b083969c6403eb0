/- ServerAnswers: what stands for Failed; its run, by user, by whether it may, by what is made. -/
import Derived.Test.YtbllpnjappddeaaGreatKMkB
import Derived.Test.YtbllpnjappddeaaGreatKFlB
import Derived.Test.YtbllpnjappddeaaGreatKLrA
set_option linter.unusedVariables false
set_option linter.unusedSimpArgs false
set_option linter.unusedSimpArgs false
set_option linter.unusedVariables false
set_option maxRecDepth 1000000
namespace Go.Proofs.YtbllpnjappddeaaGreat.Den
open Go.RowKit
variable {ρ : Vals}
def oneFail (i1 i2 a1 a2 s : Int) (h : Mem) (cells : List SV) : SRes :=
  match cells with
  | [.int .i64 (.lit j1), .int .i64 (.lit j2), .int .i64 (.lit b1), .int .i64 (.lit b2), .int .i64 (.lit s'), .int .i64 (.lit e)] =>
    bif decide (j1 = i1) && decide (j2 = i2) && decide (b1 = a1) && decide (b2 = a2) && decide (s' = s) then some (.tup [.agg [.int .i64 (.lit i1), .int .i64 (.lit i2), .int .i64 (.lit a1), .int .i64 (.lit a2), .int .i64 (.lit s), .int .i64 (.lit e)], .bool true], h) else none
  | _ => none
def ofailed1 (args : List SV) (h : Mem) : SRes :=
  match args with
  | [.ptr q 0, .agg [.int .i64 (.lit i1), .int .i64 (.lit i2)], .agg [.int .i64 (.lit a1), .int .i64 (.lit a2)], .int .i64 (.lit s)] =>
    match h.get q with
    | some [_, _, _, _, _, _, _, .sl n 0 1 6] => (h.get n).bind (oneFail i1 i2 a1 a2 s h)
    | _ => none
  | _ => none
theorem ofailed1_ok {args : List SV} {h h' : Mem} {r : SV} (hr : ofailed1 args h = some (r, h')) : isGo Tryz.prog 27 = true ∧ ∀ (ν : Nat → Option Name) (H : AHeap) (nm : Name) (xs : List AV), MRel ρ ν h H → Fre ν nm → SRels ρ ν args xs →
    ∃ z H', Sim Tryz.prog 27 xs nm H z H' ∧ Out ρ ν nm r h' z H' := by
  refine ovr_fn failed1_ok (g := ofailed1) (fun args h r h' hr ν H nm xs hm hf hx => ?_) hr
  unfold ofailed1 at hr
  split at hr
  · rename_i q i1 i2 a1 a2 s
    split at hr
    · rename_i x1 x2 x3 x4 x5 x6 x7 n hg
      obtain ⟨cells, hgn, hr⟩ := Option.bind_eq_some_iff.1 hr
      unfold oneFail at hr
      split at hr
      · rename_i j1 j2 b1 b2 s' e
        cases hc : (decide (j1 = i1) && decide (j2 = i2) && decide (b1 = a1) && decide (b2 = a2) && decide (s' = s)) with
        | false => rw [hc] at hr; cases hr
        | true =>
          rw [hc] at hr
          simp only [cond_true, Option.some.injEq, Prod.mk.injEq] at hr
          obtain ⟨rfl, rfl⟩ := hr
          simp only [Bool.and_eq_true, decide_eq_true_eq] at hc
          obtain ⟨⟨⟨⟨rfl, rfl⟩, rfl⟩, rfl⟩, rfl⟩ := hc
          cases hx with
          | cons hq t =>
            cases t with
            | cons h1 t =>
              cases t with
              | cons h2 t =>
                cases t with
                | cons h3 t =>
                  cases t
                  cases h3
                  cases h1 with
                  | agg h1 =>
                    cases h2 with
                    | agg h2 =>
                      cases h1 with
                      | cons k1 t =>
                        cases t with
                        | cons k2 t =>
                          cases t
                          cases k1
                          cases k2
                          cases h2 with
                          | cons k1 t =>
                            cases t with
                            | cons k2 t =>
                              cases t
                              cases k1
                              cases k2
                              cases hq with
                              | @ptr _ _ m hν =>
                                obtain ⟨m', row', hν', hH, hrow⟩ := hm.rows _ _ hg
                                rw [hν] at hν'; cases hν'
                                obtain ⟨x, g1, g2⟩ := hrow.get (i := 7) rfl
                                cases g2 with
                                | @sl _ _ _ _ mn hνn =>
                                  obtain ⟨mn', rown, hνn', hHn, hrn⟩ := hm.rows _ _ hgn
                                  rw [hνn] at hνn'; cases hνn'
                                  refine ⟨_, H, ?_, .same hm (.tup (.cons (.agg (.cons (.int .i64 (.lit j1)) (.cons (.int .i64 (.lit j2)) (.cons (.int .i64 (.lit b1)) (.cons (.int .i64 (.lit b2)) (.cons (.int .i64 (.lit s')) (.cons (.int .i64 (.lit e)) .nil))))))) (.cons (.bool true) .nil)))⟩
                                  cases hrn with
                                  | cons e0 t => cases t with
                                    | cons e1 t => cases t with
                                      | cons e2 t => cases t with
                                        | cons e3 t => cases t with
                                          | cons e4 t => cases t with
                                            | cons e5 t =>
                                              cases t
                                              cases e0; cases e1; cases e2; cases e3; cases e4; cases e5
                                              simp only [failed1S, hH, g1, hHn, List.drop_zero]
                                              exact if_pos ⟨trivial, trivial, trivial, trivial, trivial⟩
      · cases hr
    · cases hr
  · cases hr
/-- An operation over no bytes: of no numbers, or of some whose first one is number 2. -/
def oMk2 (z : Bool) (args : List SV) (h : Mem) : SRes :=
  match args with
  | [.int .i64 (.lit (.ofNat 0)), .im false 0 []] => some (.val (.slice none 0 0), h)
  | [.int .i64 (.lit (.ofNat 0)), .im false (_ + 1) (.int .i64 (.var 2) :: _)] => bif z then some (.sl h.next 0 1 3, h.push [.int .i64 (.lit (.ofNat 2)), .int .i64 (.lit (.ofNat 0)), .str [.lit (.ofNat 122)]]) else some (.val (.slice none 0 0), h)
  | _ => none
theorem oMk2_ok {z : Bool} (hz : ((IntKind.i64.wrap ((ρ.i 2).tdiv 3)) % 3 = 0 ↔ z = true)) {args : List SV} {h h' : Mem} {r : SV} (hr : oMk2 z args h = some (r, h')) : isGo Tryz.prog 25 = true ∧ ∀ (ν : Nat → Option Name) (H : AHeap) (nm : Name) (xs : List AV), MRel ρ ν h H → Fre ν nm → SRels ρ ν args xs →
    ∃ z H', Sim Tryz.prog 25 xs nm H z H' ∧ Out ρ ν nm r h' z H' := by
  refine ovr_fn make_ok2 (g := oMk2 z) (fun args h r h' hr ν H nm xs hm hf hx => ?_) hr
  unfold oMk2 at hr
  split at hr
  · simp only [Option.some.injEq, Prod.mk.injEq] at hr
    obtain ⟨rfl, rfl⟩ := hr
    cases hx with
    | cons h0 t =>
      cases t with
      | cons h1 t =>
        cases t
        cases h0
        cases h1 with
        | im h1 =>
          cases h1
          exact ⟨_, H, rfl, .same hm (.val _)⟩
  · rename_i k rest
    cases hx with
    | cons h0 t =>
      cases t with
      | cons h1 t =>
        cases t
        cases h0
        cases h1 with
        | im h1 =>
          cases h1 with
          | cons g0 gt =>
            cases g0
            cases z with
            | true =>
              have hw := hz.2 rfl
              simp only [cond_true, Option.some.injEq, Prod.mk.injEq] at hr
              obtain ⟨rfl, rfl⟩ := hr
              have hr1 : SRels ρ ν [.int .i64 (.lit (.ofNat 2)), .int .i64 (.lit (.ofNat 0)), .str [.lit (.ofNat 122)]] zCells2 := .cons (.int _ _) (.cons (.int _ _) (.cons (.str [.lit (.ofNat 122)]) .nil))
              refine ⟨.sl nm 0 1 3, upd H nm (some zCells2), ?_, ?_⟩
              · show (if _ then _ else _) = _
                exact if_pos hw
              · exact Out.push hm hf hr1 fun ν' e => .sl e
            | false =>
              have hw : ¬ ((IntKind.i64.wrap ((ρ.i 2).tdiv 3)) % 3 = 0) := fun e => by cases hz.1 e
              simp only [cond_false, Option.some.injEq, Prod.mk.injEq] at hr
              obtain ⟨rfl, rfl⟩ := hr
              refine ⟨vnil, H, ?_, .same hm (.val _)⟩
              show (if _ then _ else _) = _
              exact if_neg hw
  · cases hr
/-- What stands for Failed. -/
def ofailedB (args : List SV) (h : Mem) : SRes :=
  match ofailed args h with
  | some x => some x
  | none => ofailed1 args h
theorem ofailedB_ok {args : List SV} {h h' : Mem} {r : SV} (hr : ofailedB args h = some (r, h')) : isGo Tryz.prog 27 = true ∧ ∀ (ν : Nat → Option Name) (H : AHeap) (nm : Name) (xs : List AV), MRel ρ ν h H → Fre ν nm → SRels ρ ν args xs →
    ∃ z H', Sim Tryz.prog 27 xs nm H z H' ∧ Out ρ ν nm r h' z H' := by
  unfold ofailedB at hr
  split at hr
  · rename_i x hx
    cases hr
    exact ofailed_ok hx
  · exact ofailed1_ok hr
/-- The table: user u; whether it is another one that sends; what is made. -/
noncomputable def ovrAn (u : Nat) (bad z : Bool) : FuncId → Option (List SV → Mem → SRes) := orow 27 ofailedB (orow 13 (owin [(0, 8, .lit (.ofNat u)), (1, 3, bif bad then .lit (.ofNat 0) else .var 5)]) (orow 25 (oMk2 z) ovrX0))
noncomputable def factAn (bad : Bool) : List Fact := bif bad then [] else [⟨.eql, .var 5, .lit (.ofNat 0), false⟩]
noncomputable def callAn (u : Nat) (bad z : Bool) : SCall := qcall (factAn bad) (ovrAn u bad z)
theorem callAn_ok (hρ : ρ.f = shaF) {u : Nat} {bad z : Bool} (hu : ρ.i 0 % 8 = u) (hb : bad = true → ρ.i 1 % 3 = 0) (hb' : bad = false → ρ.i 5 = ρ.i 1 % 3 ∧ ρ.i 5 ≠ 0) (hz : ((IntKind.i64.wrap ((ρ.i 2).tdiv 3)) % 3 = 0 ↔ z = true)) : SCallOK Tryz.prog ρ (callAn u bad z) := by
  refine qcall_ok ?_ (orow_ok ofailedB_ok (orow_ok (fun hr => owin_ok within19_ok (fun p hp => ?_) hr) (orow_ok (fun hr => oMk2_ok hz hr) (ovrX0_ok hρ))))
  · cases bad with
    | true => exact FOk.nil
    | false =>
      intro x hx
      have hx' : x ∈ [(⟨.eql, .var 5, .lit (.ofNat 0), false⟩ : Fact)] := hx
      simp only [List.mem_singleton] at hx'
      subst hx'
      have := (hb' rfl).2
      simp only [IE.den, cmpI]
      have h0 : (ρ.i 5 == (Int.ofNat 0)) = false := by
        rw [beq_eq_false_iff_ne]; exact this
      rw [h0]
  · simp only [List.mem_cons, List.not_mem_nil, or_false] at hp
    rcases hp with rfl | rfl
    · exact ⟨by show 0 < 8; decide, by show ((8 : Nat) : Int) ≤ _; decide, hu.symm⟩
    · refine ⟨by show 0 < 3; decide, by show ((3 : Nat) : Int) ≤ _; decide, ?_⟩
      cases bad with
      | true => exact (hb rfl).symm
      | false => exact (hb' rfl).1
noncomputable def ansRun (u : Nat) (bad z : Bool) (x : SV) : Bool := isTrue (callAn u bad z 6 [.int .i64 (.var 0), x, .int .i64 (.var 1)] ⟨0, .nil⟩)
theorem ans_of {u : Nat} {bad z : Bool} {x : SV} {y : AV} (hr : ansRun u bad z x = true) (ρ : Vals) (hρ : ρ.f = shaF) (hu : ρ.i 0 % 8 = u) (hb : bad = true → ρ.i 1 % 3 = 0) (hb' : bad = false → ρ.i 5 = ρ.i 1 % 3 ∧ ρ.i 5 ≠ 0) (hz : ((IntKind.i64.wrap ((ρ.i 2).tdiv 3)) % 3 = 0 ↔ z = true)) (hx : SRel ρ (fun _ => none) x y) :
    ∃ H', Sim Tryz.prog 6 [vi (ρ.i 0), y, vi (ρ.i 1)] [] (fun _ => none) (.val (.bool true)) H' :=
  true_of_runs (ρ := ρ) (callAn_ok hρ hu hb hb' hz) (.cons (.int _ (.var 0)) (.cons hx (.cons (.int _ (.var 1)) .nil))) hr
/-- All that is run for a user. -/
def AnsAll (u : Nat) (bad : Bool) : Prop := ansRun u bad false (.im false 0 []) = true ∧ (∀ k : Nat, ansRun u bad true (.im false (k + 1) [.int .i64 (.var 2)]) = true) ∧ ∀ k : Nat, ansRun u bad false (.im false (k + 1) [.int .i64 (.var 2)]) = true
theorem answers_at {u : Nat} {bad : Bool} (h : AnsAll u bad) {a o : Int} (hu : a % 8 = u) (hb : o % 3 = 0 ↔ bad = true) :
    (∃ H', Sim Tryz.prog 6 [vi a, .im false 0 [], vi o] [] (fun _ => none) (.val (.bool true)) H') ∧
    ∀ (k : Nat) (x : Int), ∃ H', Sim Tryz.prog 6 [vi a, .im false (k + 1) [vi x], vi o] [] (fun _ => none) (.val (.bool true)) H' := by
  have key : ∀ x : Int, ∃ ρ : Vals, ρ.f = shaF ∧ ρ.i 0 = a ∧ ρ.i 1 = o ∧ ρ.i 2 = x ∧ ρ.i 5 = o % 3 := fun x => ⟨⟨fun i => if i = 0 then a else if i = 1 then o else if i = 2 then x else o % 3, fun _ => 0, shaF⟩, rfl, rfl, rfl, rfl, rfl⟩
  have hb2 : bad = false → o % 3 ≠ 0 := fun e h0 => by rw [hb.1 h0] at e; cases e
  refine ⟨?_, fun k x => ?_⟩
  · obtain ⟨ρ, h1, h2, h3, h4, h5⟩ := key 3
    rw [← h2, ← h3]
    refine ans_of h.1 ρ h1 (by rw [h2]; exact hu) (fun e => by rw [h3]; exact hb.2 e) (fun e => ⟨by rw [h5, h3], by rw [h5]; exact hb2 e⟩) (by rw [h4]; decide) (.im .nil)
  · obtain ⟨ρ, h1, h2, h3, h4, h5⟩ := key x
    have hx : SRel ρ (fun _ => none) (.im false (k + 1) [.int .i64 (.var 2)]) (.im false (k + 1) [vi x]) := by
      rw [← h4]; exact .im (.cons (.int _ (.var 2)) .nil)
    rw [← h2, ← h3]
    by_cases hz : (IntKind.i64.wrap (x.tdiv 3)) % 3 = 0
    · exact ans_of (h.2.1 k) ρ h1 (by rw [h2]; exact hu) (fun e => by rw [h3]; exact hb.2 e) (fun e => ⟨by rw [h5, h3], by rw [h5]; exact hb2 e⟩) (by rw [h4]; exact ⟨fun _ => rfl, fun _ => hz⟩) hx
    · exact ans_of (h.2.2 k) ρ h1 (by rw [h2]; exact hu) (fun e => by rw [h3]; exact hb.2 e) (fun e => ⟨by rw [h5, h3], by rw [h5]; exact hb2 e⟩) (by rw [h4]; exact ⟨fun e => absurd e hz, fun e => by cases e⟩) hx
end Go.Proofs.YtbllpnjappddeaaGreat.Den
