/- ServerAnswers answers true at all arguments, in whatever memory; no condition. -/
import Derived.Test.YtbllpnjappddeaaGreatKSaH
import Derived.Test.YtbllpnjappddeaaGreatKRwAnswersa
import Derived.Test.YtbllpnjappddeaaGreatKLrA
import Derived.OpenShut
import Derived.Carry
set_option linter.unusedVariables false
set_option linter.unusedSimpArgs false
set_option linter.unusedSimpArgs false
set_option linter.unusedVariables false
namespace Go.Proofs.YtbllpnjappddeaaGreat
open Go.ChangeShapes Go.WideShapes Go.ChangeAt Go.RowKit
theorem seg_int1 {w : World} {b off : Nat} {zs : List Int} (h : ∀ j, j < zs.length → w.cell? ⟨b, off + j, none⟩ = some (.int .i64 (zs.getD j 0))) (hp : 0 < zs.length) :
    ∃ (c : Array Value) (el : TypeId) (fr : Nat × Nat), w.heap[b]? = some (.cells c el fr) ∧ Den.seg c off 1 = [.int .i64 (zs.getD 0 0)] := by
  have h0 := h 0 hp
  unfold World.cell? at h0
  cases e : w.heap[b]? with
  | none => simp [e] at h0
  | some o =>
    cases o with
    | cells c el fr =>
      refine ⟨c, el, fr, rfl, ?_⟩
      have h1 : c[off]? = some (.int .i64 (zs.getD 0 0)) := by simpa [e] using h0
      unfold Den.seg
      refine List.ext_getElem? fun i => ?_
      by_cases hi : i < 1
      · obtain rfl : i = 0 := by omega
        simp only [List.getElem?_take, hi, if_true, List.getElem?_drop, Array.getElem?_toList, Nat.add_zero]
        rw [h1]; rfl
      · rw [List.getElem?_take_eq_none (by omega)]; simp; omega
    | _ => simp [e] at h0
theorem mk3s {H : Type} {enc : TypeId × Value → H} {P : Program} {w : World} {base : Nat} {sp : Nat → Bool} {held : Bool} {t t' t'' : TypeId} {v v' v'' : Value} {d d' d'' : DataW H} {p' : List MemPlace} (h : DataW.Trod enc P w base sp held t v d []) (h' : DataW.Trod enc P w base sp held t' v' d' p')
    (h'' : DataW.Trod enc P w base sp held t'' v'' d'' []) : DataW.TrodAll enc P w base sp held [t, t', t''] [v, v', v''] [d, d', d''] p' := by
  have := trodAll_mk3 h h' h''
  simpa using this
theorem answers_law (a o : Int) (v : Value) (w : World)
    (hv : (∃ ad cap, v = .slice ad 0 cap) ∨ ∃ b off k cap c el fr x, v = .slice (some ⟨b, off, none⟩) (k + 1) cap ∧ k + 1 ≤ cap ∧ w.heap[b]? = some (.cells c el fr) ∧ Den.seg c off 1 = [.int .i64 x]) :
    Calls Tryz.prog 6 #[.int .i64 a, v, .int .i64 o] w fun e w' => e = .returned (.bool true) ∧ Below w.heap.size w w' := by
  rcases hv with ⟨ad, cap, rfl⟩ | ⟨b, off, k, cap, c, el, fr, x, rfl, hcap, hb, hseg⟩
  · obtain ⟨H', h⟩ := Den.answers_none a o
    exact Den.Sim.calls h (I := fun _ _ => none) (.cons (.val _) (.cons .im0 (.cons (.val _) .nil))) (fun _ _ _ h => by cases h) rfl
  · obtain ⟨H', h⟩ := Den.answers_some a o k x
    refine Den.Sim.calls h (I := fun m b' => if m = false ∧ b' = b then some c else none) (.cons (.val _) (.cons (.im (b := b) (o := off) (c := c) (by simp) ?_ hcap) (.cons (.val _) .nil))) ?_ rfl
    · show Den.VRels _ _ [Den.vi x] (Den.seg c off 1)
      rw [hseg]
      exact .cons (.val _) .nil
    · intro m b' c' h
      split at h
      · rename_i hh; cases h; rw [hh.2]; exact ⟨el, fr, hb⟩
      · cases h
theorem serverAnswers_own : ownKnob Tryz.prog.godebug = none := by kernel_rfl
set_option maxRecDepth 100000 in
theorem serverAnswers_lifted (os : Os) (started : os.Started) (H : Type) (enc : TypeId × Value → H) :
    ReturnsInHanded {} Tryz.checked os 6 .any (Rows.serverAnswersSpec.pre6 enc Tryz.prog Tryz.f6 Rows.serverAnswersRow.domain false) (Rows.serverAnswersSpec.post enc Tryz.prog Tryz.f6 false true false false) := by
  refine returnsInHanded_of_change (C := Tryz.checked) serverAnswers_own started (by kernel_rfl) Tryz.func6
    (ChangeSpec.witness6 (enc := enc) (C := Tryz.checked) false ⟨#[], #[.int .i64 0, .slice none 0 0, .int .i64 0], []⟩ 8 (by kernel_rfl) (by kernel_rfl) (by kernel_rfl) (by kernel_rfl)) ?_
  intro W base args ds gs before hval0 hW hcnd _
  have hval : ∀ (j : Nat) t v, Tryz.f6.params[j]? = some t → args[j]? = some v → Value.okWide Tryz.prog W .any base t v := hval0
  have hW' := hW
  obtain ⟨p, q, hA0, hV, rfl, hfz, hnd⟩ := hW
  have hA : DataW.TrodAll enc Tryz.prog W 0 (fun _ => true) true Tryz.f6.params.toList args.toList ds p := hA0
  rw [Tryz.params6] at hA hval
  obtain ⟨v0, v1, v2, d0, d1, d2, q0, q1, q2, rfl, rfl, rfl, h0, h1, h2⟩ := trodAll_three hA
  obtain ⟨rfl, rfl⟩ := trodVars_none hV
  obtain ⟨a, rfl, rfl, rfl, wa⟩ := open_int Tryz.underlying3 (hval 0 3 v0 rfl rfl) h0
  obtain ⟨o, rfl, rfl, rfl, wo⟩ := open_int Tryz.underlying3 (hval 2 3 v2 rfl rfl) h2
  obtain ⟨a0, len, cap, rfl⟩ := okWide_slice Tryz.underlying22 (hval 1 22 _ rfl rfl)
  clear hA0 hval0
  simp only [List.append_nil, List.nil_append] at hW'
  obtain ⟨fuel, hf⟩ := h1
  have hc : Tryz.prog.cellsOf 3 = 1 := by kernel_rfl
  rcases open_ints Tryz.underlying22 Tryz.underlying3 hc hf with ⟨hcs, hx⟩ | ⟨ad, len', cap', zs, hcs, _, hle, hmax, hall, hx, hcell, hwf⟩
  · simp [Value.cells] at hcs
    obtain ⟨rfl, rfl, rfl⟩ := hcs
    simp only [Prod.mk.injEq] at hx
    obtain ⟨rfl, rfl⟩ := hx
    refine (answers_law a o _ W (.inl ⟨_, _, rfl⟩)).mono fun e W' ⟨he, hw⟩ => ?_
    refine ⟨_, he, law_post (tb := 4) hw rfl Tryz.underlying4 hW' rfl (fun sp _ => mk3s (shut_int Tryz.underlying3 wa) ?_ (shut_int Tryz.underlying3 wo)) rfl⟩
    refine ⟨1, ?_⟩
    change DataW.trod enc Tryz.prog W' 0 sp true 1 22 [.slice none 0 0] = some (.nil, [])
    unfold DataW.trod
    rw [Tryz.underlying22]; rfl
  · simp [Value.cells] at hcs
    obtain ⟨rfl, rfl, rfl⟩ := hcs
    simp only [Prod.mk.injEq] at hx
    obtain ⟨rfl, rfl⟩ := hx
    simp only [if_true] at hall
    by_cases hp : 0 < zs.length
    · obtain ⟨b, off, rfl, hcell'⟩ := ints_at hcell hp
      obtain ⟨c, el, fr, hb, hseg⟩ := seg_int1 hcell' hp
      have hv : (∃ ad cap', Value.slice (some ⟨b, off, none⟩) len cap = .slice ad 0 cap') ∨ ∃ b' off' k cap' c el fr x, Value.slice (some ⟨b, off, none⟩) len cap = .slice (some ⟨b', off', none⟩) (k + 1) cap' ∧ k + 1 ≤ cap' ∧ W.heap[b']? = some (.cells c el fr) ∧ Den.seg c off' 1 = [.int .i64 x] := by
        cases len with
        | zero => exact .inl ⟨_, _, rfl⟩
        | succ k => exact .inr ⟨b, off, k, cap, c, el, fr, _, rfl, hle, hb, hseg⟩
      refine (answers_law a o _ W hv).mono fun e W' ⟨he, hw⟩ => ?_
      refine ⟨_, he, law_post (tb := 4) hw rfl Tryz.underlying4 hW' rfl (fun sp hsp => mk3s (shut_int Tryz.underlying3 wa) ?_ (shut_int Tryz.underlying3 wo)) rfl⟩
      have hblt : b < W.heap.size := (Array.getElem?_eq_some_iff.1 hb).1
      have hspb : sp b = true := by
        have := hsp (.cell b off) (by
          first
          | exact MemPlace.mem_row.2 ⟨0, hp, rfl⟩
          | (refine List.mem_append_left _ ?_; exact MemPlace.mem_row.2 ⟨0, hp, rfl⟩))
        exact this
      exact ⟨2, shut_ints' 0 Tryz.underlying22 Tryz.underlying3 hc (Nat.zero_le _) hle hmax (by rw [hspb]; simpa using hall) (fun i hi => by rw [hw.cell (p := ⟨b, off + i, none⟩) hblt]; exact hcell' i hi) hwf⟩
    · have hz : zs = [] := List.eq_nil_of_length_eq_zero (by omega)
      subst hz
      have hc0 : cap = 0 := by simpa using hall.symm
      have hl0 : len = 0 := by omega
      subst hc0 hl0
      refine (answers_law a o _ W (.inl ⟨_, _, rfl⟩)).mono fun e W' ⟨he, hw⟩ => ?_
      refine ⟨_, he, law_post (tb := 4) hw rfl Tryz.underlying4 hW' rfl (fun sp _ => mk3s (shut_int Tryz.underlying3 wa) ?_ (shut_int Tryz.underlying3 wo)) rfl⟩
      exact ⟨2, shut_ints 0 Tryz.underlying22 Tryz.underlying3 hc (Nat.zero_le _) hle hmax (by simp) (fun i hi => by simp at hi) hwf⟩
theorem ServerAnswers_holds : Rows.ServerAnswersSaid :=
  OpenClaim.holds_of_wide 6 Tryz.f6 rfl rfl rfl rfl rfl rfl rfl ⟨rfl, rfl, rfl, rfl, rfl⟩ rfl rfl rfl rfl rfl (by kernel_rfl) Tryz.func6 serverAnswers_closed
    (of_decide_eq_true (by kernel_rfl)) (by unfold Func.isWrapper; first | (rw [if_pos (by decide +kernel)]; kernel_rfl) | (rw [if_neg (by decide +kernel)]; exact ⟨rfl, rfl⟩))
    (fun os started H enc _ => serverAnswers_lifted os started H enc)
end Go.Proofs.YtbllpnjappddeaaGreat
