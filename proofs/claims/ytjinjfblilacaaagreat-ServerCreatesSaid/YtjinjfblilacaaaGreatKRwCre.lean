/- ServerCreates answers true at all arguments, in whatever memory; no condition. -/
import Derived.Test.YtjinjfblilacaaaGreatKRwCreA
import Derived.Test.YtjinjfblilacaaaGreatKRwCrea
import Derived.Test.YtjinjfblilacaaaGreatKLawPost
import Derived.OpenShut
import Derived.Carry
import Derived.Deep.Matrix
set_option linter.unusedVariables false
set_option linter.unusedSimpArgs false
set_option linter.unusedSimpArgs false
set_option linter.unusedVariables false
namespace Go.Proofs.YtjinjfblilacaaaGreat
open Go.ChangeShapes Go.WideShapes Go.ChangeAt Go.RowKit Go.Deep
theorem net_post {H : Type} {enc : TypeId × Value -> H} {P : Program} {f : Func} {s : ChangeSpec} {tb : TypeId} {W W' : World} {args : Array Value} {ds : List (DataW H)} {ps : List MemPlace}
    (hb : Below W.heap.size W W') (hres : f.resultTypes = #[tb]) (htb : P.underlying tb = some .bool)
    (hW : DataW.Whole enc P f.params.toList s.vars false W args.toList ds [] ps)
    (hs : s.fn H ds = { results := [.lit (.bool true)], args := ds })
    (hargs : DataW.TrodAll enc P W' 0 (fun b => decide (b < W.heap.size)) true f.params.toList args.toList ds ps)
    (hv : s.vars = []) :
    s.post enc P f false true false false W args (.bool true) W' := by
  have below : ∀ p ∈ ps, p.block < W.heap.size := fun p hp => hW.lt p hp
  have hvars : ∀ sp : Nat -> Bool, DataW.TrodVars enc P W' sp s.vars [] [] := fun sp => by rw [hv]; rfl
  have hsame : s.fn H (ds ++ []) = { results := [.lit (.bool true)], args := ds } := by rw [List.append_nil]; exact hs
  refine ⟨ds, [], ps, [], ps, [], hW, ?_, ?_, ?_, ?_, ?_⟩
  · rw [hsame, hres]
    exact trodAll_mk1 (shut_bool htb true)
  · rw [hsame]
    exact hargs
  · rw [hsame]
    exact hvars _
  · exact World.keptBut_mono (fun p hp => ⟨hp, by simp [hp]⟩) (hb.frame (· ∈ ps))
  · intro h
    cases h
set_option maxRecDepth 100000 in
theorem net_ints {H : Type} {enc : TypeId × Value -> H} {W : World} {v : Value} {d : DataW H} {p : List MemPlace} {base : Nat} (hw : Value.okWide Tryz.prog W .any base 22 v) (h : DataW.Trod enc Tryz.prog W 0 (fun _ => true) true 22 v d p) :
    ∃ B : List Int, ∀ σ, Den.VRel σ (Den.immOf W) (Den.intsArg B) v := by
  obtain ⟨a0, len, cap, rfl⟩ := okWide_slice Tryz.underlying22 hw
  obtain ⟨fuel, hf⟩ := h
  have hc : Tryz.prog.cellsOf 3 = 1 := by kernel_rfl
  rcases open_ints Tryz.underlying22 Tryz.underlying3 hc hf with ⟨hcs, hx⟩ | ⟨ad, len', cap', zs, hcs, _, hle, hmax, hall, hx, hcell, hwf⟩
  · simp [Value.cells] at hcs
    obtain ⟨rfl, rfl, rfl⟩ := hcs
    exact ⟨[], fun σ => .im0⟩
  · simp [Value.cells] at hcs
    obtain ⟨rfl, rfl, rfl⟩ := hcs
    simp only [if_true] at hall
    refine ⟨zs.take len, fun σ => ?_⟩
    have := Den.im_nums (σ := σ) (w := W) hle hall hcell
    have hl : (zs.take len).length = len := by rw [List.length_take]; omega
    unfold Den.intsArg
    rw [hl]
    exact this
theorem serverCreates_own : ownKnob Tryz.prog.godebug = none := by kernel_rfl
theorem serverCreates_laid : laidOutB Tryz.prog = true := by kernel_rfl
set_option maxRecDepth 100000 in
theorem serverCreates_lifted (os : Os) (started : os.Started) (H : Type) (enc : TypeId × Value -> H) :
    ReturnsInHanded {} Tryz.checked os 3 .any (Rows.serverCreatesSpec.pre6 enc Tryz.prog Tryz.f3 Rows.serverCreatesRow.domain false) (Rows.serverCreatesSpec.post enc Tryz.prog Tryz.f3 false true false false) := by
  refine returnsInHanded_of_change (C := Tryz.checked) serverCreates_own started (by kernel_rfl) Tryz.func3
    (ChangeSpec.witness6 (enc := enc) (C := Tryz.checked) false ⟨#[], #[.slice none 0 0, .int .i64 0, .int .i64 0], []⟩ 8 (by kernel_rfl) (by kernel_rfl) (by kernel_rfl) (by kernel_rfl)) ?_
  intro W base args ds gs before hval0 hW hcnd _
  have hval : ∀ (j : Nat) t v, Tryz.f3.params[j]? = some t -> args[j]? = some v -> Value.okWide Tryz.prog W .any base t v := hval0
  have hW' := hW
  obtain ⟨p, q, hA0, hV, rfl, hfz, hnd⟩ := hW
  have hA : DataW.TrodAll enc Tryz.prog W 0 (fun _ => true) true Tryz.f3.params.toList args.toList ds p := hA0
  rw [Tryz.params3] at hA hval
  obtain ⟨v0, v1, v2, d0, d1, d2, q0, q1, q2, rfl, rfl, rfl, h0, h1, h2⟩ := trodAll_three hA
  obtain ⟨rfl, rfl⟩ := trodVars_none hV
  clear hA0 hval0
  simp only [List.append_nil, List.nil_append] at hW'
  obtain ⟨B, hb⟩ := net_ints (hval 0 22 v0 rfl rfl) h0
  obtain ⟨a1, rfl, rfl, rfl, w1⟩ := open_int Tryz.underlying3 (hval 1 3 v1 rfl rfl) h1
  obtain ⟨a2, rfl, rfl, rfl, w2⟩ := open_int Tryz.underlying3 (hval 2 3 v2 rfl rfl) h2
  obtain ⟨H', h⟩ := Den.cre_sim B a1 a2
  have call : Calls Tryz.prog 3 #[v0, .int .i64 a1, .int .i64 a2] W fun e w' => e = .returned (.bool true) /\ Below W.heap.size W w' :=
    Den.Sim.calls h (I := Den.immOf W) (.cons (hb _) (.cons (.val _) (.cons (.val _) .nil))) (Den.immOf_ok W) rfl
  refine call.mono fun e W' ⟨he, hw⟩ => ?_
  have hlt : ∀ x ∈ q0 ++ ([] ++ []), x.block < W.heap.size := fun x hx => by simpa using hW'.lt x (by simpa using hx)
  have g0 := Below.trod serverCreates_laid (by kernel_rfl) (of_decide_eq_true (by kernel_rfl)) h0 hw fun x hx => hlt x (by simp [hx])
  have g1 := Below.trod serverCreates_laid (by kernel_rfl) (of_decide_eq_true (by kernel_rfl)) h1 hw fun x hx => by cases hx
  have g2 := Below.trod serverCreates_laid (by kernel_rfl) (of_decide_eq_true (by kernel_rfl)) h2 hw fun x hx => by cases hx
  exact ⟨_, he, net_post (tb := 4) hw rfl Tryz.underlying4 hW' rfl (by rw [List.append_assoc]; exact trodAll_mk3 g0 g1 g2) rfl⟩
theorem ServerCreates_holds : Rows.ServerCreatesSaid :=
  OpenClaim.holds_of_wide 3 Tryz.f3 rfl rfl rfl rfl rfl rfl rfl ⟨rfl, rfl, rfl, rfl, rfl⟩ rfl rfl rfl rfl rfl (by kernel_rfl) Tryz.func3 serverCreates_closed
    (of_decide_eq_true (by kernel_rfl)) (by unfold Func.isWrapper; first | (rw [if_pos (by decide +kernel)]; kernel_rfl) | (rw [if_neg (by decide +kernel)]; exact ⟨rfl, rfl⟩))
    (fun os started H enc _ => serverCreates_lifted os started H enc)
end Go.Proofs.YtjinjfblilacaaaGreat
