/- RetryPlays answers true at any whole number and any slice of whole numbers, in whatever memory; no condition. -/
import Derived.Test.YtpgoddffacgcmaaRetryPlays
import Derived.ProofKit
import Derived.OpenShut
import Derived.Test.YtpgoddffacgcmaaLawPost
namespace Go.Proofs.Ytpgoddffacgcmaa
open Go.ChangeShapes Go.WideShapes Go.ChangeAt Go.RowKit

theorem seg_ints {w : World} {b off : Nat} {zs : List Int} {len : Nat} (hl : len ≤ zs.length) (h : ∀ j, j < zs.length → w.cell? ⟨b, off + j, none⟩ = some (.int .i64 (zs.getD j 0))) (hp : 0 < zs.length) :
    ∃ (c : Array Value) (el : TypeId) (fr : Nat × Nat), w.heap[b]? = some (.cells c el fr) ∧ Den.seg c off len = (zs.take len).map (Value.int .i64) := by
  have h0 := h 0 hp
  unfold World.cell? at h0
  cases e : w.heap[b]? with
  | none => simp [e] at h0
  | some o =>
    cases o with
    | cells c el fr =>
      refine ⟨c, el, fr, rfl, ?_⟩
      have hc : ∀ j, j < zs.length → c[off + j]? = some (.int .i64 (zs.getD j 0)) := by
        intro j hj
        have := h j hj
        simpa [World.cell?, e] using this
      unfold Den.seg
      refine List.ext_getElem? fun i => ?_
      by_cases hi : i < len
      · have h2 := hc i (by omega)
        simp only [List.getElem?_take, hi, if_true, List.getElem?_drop, Array.getElem?_toList, List.getElem?_map]
        rw [h2]
        simp [List.getD, List.getElem?_eq_getElem (by omega : i < zs.length)]
      · simp [List.getElem?_take, hi]
    | _ => simp [e] at h0

theorem plays_law (a : Int) (l : List Int) (hl : (l.length : Int) ≤ 9223372036854775807) (v : Value) (w : World)
    (hv : (∃ ad cap, l = [] ∧ v = .slice ad 0 cap) ∨ ∃ b off cap c el fr, v = .slice (some ⟨b, off, none⟩) l.length cap ∧ l.length ≤ cap ∧ w.heap[b]? = some (.cells c el fr) ∧ Den.seg c off l.length = l.map (Value.int .i64)) :
    Calls Try.prog 3 #[.int .i64 a, v] w fun e w' => e = .returned (.bool true) ∧ Below w.heap.size w w' := by
  rcases hv with ⟨ad, cap, rfl, rfl⟩ | ⟨b, off, cap, c, el, fr, rfl, hcap, hb, hseg⟩
  · exact Den.Sim.calls (Den.plays_sim a [] hl []) (I := fun _ _ => none) (.cons (.val _) (.cons .im0 .nil)) (fun _ _ _ h => by cases h) rfl
  · refine Den.Sim.calls (Den.plays_sim a l hl []) (I := fun m b' => if m = false ∧ b' = b then some c else none) (.cons (.val _) (.cons (.im (b := b) (o := off) (c := c) (by simp) ?_ hcap) .nil)) ?_ rfl
    · have : (l.map Den.vi).length = l.length := by simp
      rw [this, hseg]
      have := Den.VRels.vals (σ := fun _ => none) (I := fun m b' => if m = false ∧ b' = b then some c else none) (l.map (Value.int .i64))
      simpa [List.map_map, Function.comp_def] using this
    · intro m b' c' h
      split at h
      · rename_i hh; cases h; rw [hh.2]; exact ⟨el, fr, hb⟩
      · cases h

theorem plays_own : ownKnob Try.prog.godebug = none := by kernel_rfl

set_option maxRecDepth 100000 in
theorem plays_lifted (os : Os) (started : os.Started) (H : Type) (enc : TypeId × Value → H) :
    ReturnsInHanded {} Try.checked os 3 .any (Rows.retryPlaysSpec.pre6 enc Try.prog Try.f3 Rows.retryPlaysRow.domain false) (Rows.retryPlaysSpec.post enc Try.prog Try.f3 false true false false) := by
  refine returnsInHanded_of_change (C := Try.checked) plays_own started (by kernel_rfl) Try.func3
    (ChangeSpec.witness6 (enc := enc) (C := Try.checked) false ⟨#[], #[.int .i64 0, .slice none 0 0], []⟩ 8 (by kernel_rfl) (by kernel_rfl) (by kernel_rfl) (by kernel_rfl)) ?_
  intro W base args ds gs before hval0 hW hcnd _
  have hval : ∀ (j : Nat) t v, Try.f3.params[j]? = some t → args[j]? = some v → Value.okWide Try.prog W .any base t v := hval0
  have hW' := hW
  obtain ⟨p, q, hA0, hV, rfl, hfz, hnd⟩ := hW
  have hA : DataW.TrodAll enc Try.prog W 0 (fun _ => true) true Try.f3.params.toList args.toList ds p := hA0
  rw [Try.params3] at hA hval
  obtain ⟨v0, v1, d0, d1, p0, p1, rfl, rfl, rfl, h0, h1⟩ := trodAll_two hA
  obtain ⟨rfl, rfl⟩ := trodVars_none hV
  obtain ⟨a, rfl, rfl, rfl, wa⟩ := open_int Try.underlying3 (hval 0 3 v0 rfl rfl) h0
  obtain ⟨a0, len, cap, rfl⟩ := okWide_slice Try.underlying22 (hval 1 22 _ rfl rfl)
  clear hA0 hval0
  simp only [List.append_nil] at hW'
  obtain ⟨fuel, hf⟩ := h1
  have hc : Try.prog.cellsOf 3 = 1 := by kernel_rfl
  rcases open_ints Try.underlying22 Try.underlying3 hc hf with ⟨hcs, hx⟩ | ⟨ad, len', cap', zs, hcs, _, hle, hmax, hall, hx, hcell, hwf⟩
  · simp [Value.cells] at hcs
    obtain ⟨rfl, rfl, rfl⟩ := hcs
    simp only [Prod.mk.injEq] at hx
    obtain ⟨rfl, rfl⟩ := hx
    refine (plays_law a [] (by decide) _ W (.inl ⟨_, _, rfl, rfl⟩)).mono fun e W' ⟨he, hw⟩ => ?_
    refine ⟨_, he, law_post (tb := 4) hw rfl Try.underlying4 hW' rfl (fun sp _ => trodAll_mk2 (shut_int Try.underlying3 wa) ?_) rfl⟩
    refine ⟨1, ?_⟩
    change DataW.trod enc Try.prog W' 0 sp true 1 22 [.slice none 0 0] = some (.nil, [])
    unfold DataW.trod
    rw [Try.underlying22]; rfl
  · simp [Value.cells] at hcs
    obtain ⟨rfl, rfl, rfl⟩ := hcs
    simp only [Prod.mk.injEq] at hx
    obtain ⟨rfl, rfl⟩ := hx
    simp only [if_true] at hall
    have htl : (zs.take len).length = len := by simp; omega
    have hml : (len : Int) ≤ 9223372036854775807 := by have : maxLen = 9223372036854775807 := rfl; omega
    by_cases hp : 0 < zs.length
    · obtain ⟨b, off, rfl, hcell'⟩ := ints_at hcell hp
      obtain ⟨c, el, fr, hb, hseg⟩ := seg_ints (len := len) (by omega) hcell' hp
      refine (plays_law a (zs.take len) (by rw [htl]; exact hml) _ W (.inr ⟨b, off, cap, c, el, fr, by rw [htl], by rw [htl]; exact hle, hb, by rw [htl]; exact hseg⟩)).mono fun e W' ⟨he, hw⟩ => ?_
      refine ⟨_, he, law_post (tb := 4) hw rfl Try.underlying4 hW' rfl (fun sp hsp => trodAll_mk2 (shut_int Try.underlying3 wa) ?_) rfl⟩
      have hblt : b < W.heap.size := (Array.getElem?_eq_some_iff.1 hb).1
      have hspb : sp b = true := by
        have := hsp (.cell b off) (by
          refine List.mem_append_right _ ?_
          exact MemPlace.mem_row.2 ⟨0, hp, rfl⟩)
        exact this
      exact ⟨2, shut_ints' 0 Try.underlying22 Try.underlying3 hc (Nat.zero_le _) hle hmax (by rw [hspb]; simpa using hall) (fun i hi => by rw [(bcell hw).1 b (off + i) hblt]; exact hcell' i hi) hwf⟩
    · have hz : zs = [] := List.eq_nil_of_length_eq_zero (by omega)
      subst hz
      have hc0 : cap = 0 := by simpa using hall.symm
      have hl0 : len = 0 := by omega
      subst hc0 hl0
      refine (plays_law a [] (by decide) _ W (.inl ⟨_, _, rfl, rfl⟩)).mono fun e W' ⟨he, hw⟩ => ?_
      refine ⟨_, he, law_post (tb := 4) hw rfl Try.underlying4 hW' rfl (fun sp _ => trodAll_mk2 (shut_int Try.underlying3 wa) ?_) rfl⟩
      exact ⟨2, shut_ints 0 Try.underlying22 Try.underlying3 hc (Nat.zero_le _) hle hmax (by simp) (fun i hi => by simp at hi) hwf⟩

theorem RetryPlays_holds : Rows.RetryPlaysSaid :=
  OpenClaim.holds_of_wide 3 Try.f3 rfl rfl rfl rfl rfl rfl rfl ⟨rfl, rfl, rfl, rfl, rfl⟩ rfl rfl rfl rfl rfl (by kernel_rfl) Try.func3 (by kernel_rfl)
    (of_decide_eq_true (by kernel_rfl)) (by unfold Func.isWrapper; first | (rw [if_pos (by decide +kernel)]; kernel_rfl) | (rw [if_neg (by decide +kernel)]; exact ⟨rfl, rfl⟩))
    (fun os started H enc _ => plays_lifted os started H enc)

end Go.Proofs.Ytpgoddffacgcmaa
