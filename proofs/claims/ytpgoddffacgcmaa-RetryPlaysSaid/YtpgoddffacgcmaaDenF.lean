/- The operations of the model are those of the abstract memory: what makes or changes rows; what computes. -/
import Derived.Test.YtpgoddffacgcmaaDenE
namespace Go.Proofs.Ytpgoddffacgcmaa.Den
variable {P : Program}

/-- A row gets another name, and another begin and end. -/
theorem Step.rename {nm : Name → Prop} {σ : Sig} {I : Imm} {H : AHeap} {w : World} (h : ARel σ I H w) {n m : Name} {row row' : List AV} {p : Place} (hn : H n = some row) (hp : σ n = some p) (hm : σ m = none) (hnm : nm m)
    {o : Nat} (hrow : ∀ c el fr, w.heap[p.b]? = some (.cells c el fr) → VRels σ I row' (seg c o row'.length)) :
    Step nm σ I H w (upd σ m (some ⟨p.b, o, p.tot⟩)) I (upd (upd H n none) m (some row')) w := by
  have hne : m ≠ n := by rintro rfl; rw [hm] at hp; cases hp
  have hle : σ.le (upd σ m (some ⟨p.b, o, p.tot⟩)) := fun k q hk => by
    rw [upd_ne]; exact hk
    rintro rfl; rw [hm] at hk; cases hk
  obtain ⟨p', c, el, fr, hp', hb, ht, hf, hr⟩ := h.rows n row hn
  rw [hp] at hp'; cases hp'
  have hH : ∀ k r, upd (upd H n none) m (some row') k = some r → (k = m ∧ r = row') ∨ (k ≠ m ∧ k ≠ n ∧ H k = some r) := fun k r hk => by
    by_cases e : k = m
    · subst e; rw [upd_same] at hk; cases hk; exact .inl ⟨rfl, rfl⟩
    · rw [upd_ne _ _ e] at hk
      by_cases e2 : k = n
      · subst e2; rw [upd_same] at hk; cases hk
      · rw [upd_ne _ _ e2] at hk; exact .inr ⟨e, e2, hk⟩
  have hN : ∀ k, upd (upd H n none) m (some row') k ≠ none → (k = m) ∨ (k ≠ m ∧ k ≠ n ∧ H k ≠ none) := fun k hk => by
    cases e : upd (upd H n none) m (some row') k with
    | none => exact absurd e hk
    | some r =>
      rcases hH k r e with ⟨h1, _⟩ | ⟨h1, h2, h3⟩
      · exact .inl h1
      · exact .inr ⟨h1, h2, by rw [h3]; simp⟩
  have hnn : H n ≠ none := by rw [hn]; simp
  refine ⟨⟨?_, ?_, ?_, ?_⟩, hle, ?_, Imm.le_refl _, fun _ _ _ h => .inl h, ?_, Fr.refl _ _ _⟩
  · intro k r hk
    rcases hH k r hk with ⟨rfl, rfl⟩ | ⟨h1, h2, h3⟩
    · exact ⟨_, c, el, fr, upd_same _ _ _, hb, ht, hf, (hrow c el fr hb).mono hle (Imm.le_refl _)⟩
    · obtain ⟨q, c', el', fr', hq, hb', ht', hf', hr'⟩ := h.rows k r h3
      exact ⟨q, c', el', fr', by rw [upd_ne _ _ h1]; exact hq, hb', ht', hf', hr'.mono hle (Imm.le_refl _)⟩
  · intro k k' q q' hk hk' hq hq' hb'
    rcases hN k hk with rfl | ⟨h1, h2, h3⟩ <;> rcases hN k' hk' with rfl | ⟨h1', h2', h3'⟩
    · rfl
    · rw [upd_same] at hq; cases hq
      rw [upd_ne _ _ h1'] at hq'
      exact absurd (h.inj k' n q' p h3' hnn hq' hp hb'.symm) h2'
    · rw [upd_same] at hq'; cases hq'
      rw [upd_ne _ _ h1] at hq
      exact absurd (h.inj k n q p h3 hnn hq hp hb') h2
    · rw [upd_ne _ _ h1] at hq
      rw [upd_ne _ _ h1'] at hq'
      exact h.inj k k' q q' h3 h3' hq hq' hb'
  · exact h.imm
  · intro k q b hk hq
    rcases hN k hk with rfl | ⟨h1, h2, h3⟩
    · rw [upd_same] at hq; cases hq
      exact h.dis n p b hnn hp
    · rw [upd_ne _ _ h1] at hq
      exact h.dis k q b h3 hq
  · intro k h0 h1
    by_cases e : k = m
    · subst e; exact hnm
    · rw [upd_ne _ _ e] at h1; exact absurd h0 h1
  · rintro b ⟨k, q, hk, hq, rfl⟩
    rcases hN k hk with rfl | ⟨h1, h2, h3⟩
    · rw [upd_same] at hq; cases hq
      exact .inl ⟨n, p, hnn, hp, rfl⟩
    · rw [upd_ne _ _ h1] at hq
      exact .inl ⟨k, q, h3, hq, rfl⟩

theorem setMany_append : ∀ (new l junk : List AV), junk.length = new.length → setMany (l ++ junk) l.length new = l ++ new
  | [], l, junk, h => by
    have : junk = [] := List.eq_nil_of_length_eq_zero (by simpa using h)
    subst this; rfl
  | a :: new, l, [], h => by simp at h
  | a :: new, l, j :: junk, h => by
    simp only [setMany]
    have e : (l ++ j :: junk).set l.length a = (l ++ [a]) ++ junk := by
      rw [List.set_append_right _ _ (Nat.le_refl _)]; simp
    rw [e]
    have := setMany_append new (l ++ [a]) junk (by simpa using h)
    rw [List.length_append, List.length_singleton] at this
    rw [this, List.append_assoc]; rfl

theorem seg_split (c : Array Value) (o a b : Nat) : seg c o (a + b) = seg c o a ++ seg c (o + a) b := by
  simp only [seg, List.take_add, List.drop_drop]

theorem askGrow (w : World) (q : Question) (hq : q.forced = false) : (choose q).run P w = .ok (q.cut (w.tape w.drawn q)) w.drew := by
  rw [run_choose]; simp [hq]

/-- An append that has no room where it is: a new row. -/
theorem run_append_new {σ : Sig} {I : Imm} {H : AHeap} {w : World} {nm : Name → Prop} (hr : ARel σ I H w) {n : Name} (hn : σ n = none) (hnm : nm n)
    {t xt ty e : TypeId} {d : TypeDesc} {i : TypeInfo} {z : Value} {base : Option Addr} {sLen sCap k : Nat} {x : Value} {oldc newc : Array Value} {oldr newr : List AV}
    (ht : P.underlying t = some (.slice e)) (hxt : P.underlying xt = some d) (hd : seqD d = true) (hi : P.info? e = some i) (hz : i.zero = some z)
    (hlen : (Builtin.lenOf x).run P w = .ok k w) (hneed : sCap < sLen + k) (hby : (sLen + k) * i.bytes ≤ 140737488355328) (hb2 : sLen + k ≤ 140737488355328)
    (hold : (Builtin.firstCells i.size sLen (.slice base sLen sCap)).run P w.drew = .ok oldc w.drew) (hnew : (Builtin.firstCells i.size k x).run P w.drew = .ok newc w.drew)
    (hor : VRels σ I oldr oldc.toList) (hnr : VRels σ I newr newc.toList) (hzs : z.cells.size = i.size) (hlo : oldr.length = sLen * i.size) (hln : newr.length = k * i.size) :
    ∃ v w' σ', (Builtin.append_ #[t, xt] ty #[.slice base sLen sCap, x]).run P w = .ok v w' ∧ Step nm σ I H w σ' I (upd H n (some (oldr ++ newr))) w' ∧ VRel σ' I (.sl n 0 (sLen + k) i.size) v := by
  obtain ⟨nc, hc1⟩ : ∃ nc, nc = (Question.appendCap (sLen + k) sCap e).cut (w.tape w.drawn (Question.appendCap (sLen + k) sCap e)) := ⟨_, rfl⟩
  have hc2 : sLen + k ≤ nc := by rw [hc1]; simp only [Question.cut]; omega
  have hfo : (Question.appendCap (sLen + k) sCap e).forced = false := rfl
  have hfit := growslice_fits (need := sLen + k) (old := sCap) (bytes := i.bytes) hneed hby
  have hrd : ARel σ I H w.drew := hr.drawn rfl
  have hlen2 : (oldr ++ newr).length = (sLen + k) * i.size := by rw [List.length_append, hlo, hln, Nat.add_mul]
  have hla : oldc.size = sLen * i.size := by have := hor.length; simp at this; omega
  have hlb : newc.size = k * i.size := by have := hnr.length; simp at this; omega
  have hseg : seg (oldc ++ newc ++ Builtin.zeroCells z.cells (nc - (sLen + k))) 0 (oldr ++ newr).length = oldc.toList ++ newc.toList := by
    rw [hlen2]
    simp only [seg, List.drop_zero, Array.toList_append]
    rw [List.take_left']
    simp [hla, hlb, Nat.add_mul]
  obtain ⟨st, _⟩ := Step.alloc (nm := nm) (w := w.drew) hrd hn hnm (c := oldc ++ newc ++ Builtin.zeroCells z.cells (nc - (sLen + k))) (el := e) (fr := (0, 0)) (row := oldr ++ newr) (no_frozen _) (by rw [hseg]; exact hor.append hnr)
  refine ⟨.slice (some ⟨w.drew.heap.size, 0, none⟩) (sLen + k) nc, _, _, ?_, (Step.drawn (nm := nm) (w' := w.drew) hr rfl rfl rfl rfl).trans st, ?_⟩
  · have hno : ¬ (sLen + k ≤ sCap) := by omega
    have hzz : (zeroValue e).run P w.drew = .ok z w.drew := by simp [zeroValue, run_typeInfo' _ hi, hz]
    have hss : (sizeOf e).run P w = .ok i.size w := by simp [sizeOf, run_typeInfo' _ hi]
    have hmax' : ¬ (9223372036854775807 < (sLen : Int) + (k : Int)) := by omega
    have hfit' : ¬ (281474976710656 < Builtin.nextslicecap (sLen + k) sCap * i.bytes) := by omega
    cases d <;> first
      | (simp [seqD] at hd; done)
      | (simp [Builtin.append_, run_underlying' w ht, run_underlying' w hxt, hss, hlen, hno, run_typeInfo' _ hi, hfit', hfo, ← hc1, hold, hnew, hzz, run_newRow', hmax'])
  · refine .sl (upd_same _ _ _) hc2 ?_
    simp only [Array.size_append, hla, hlb, size_zeroCells, hzs]
    rw [← Nat.add_mul, ← Nat.add_mul]
    have : sLen + k + (nc - (sLen + k)) = nc := by omega
    rw [this]
    omega

theorem all_oneV {σ : Sig} {I : Imm} {l : List AV} {vs : List Value} (h : VRels σ I l vs) (ho : l.all AV.one = true) : ∀ v ∈ vs, v.oneCell' = true := by
  intro v hv
  obtain ⟨i, hi⟩ := List.getElem?_of_mem hv
  have hil : i < l.length := by rw [h.length]; exact (List.getElem?_eq_some_iff.1 hi).1
  obtain ⟨u, h1, h2⟩ := h.get (List.getElem?_eq_getElem hil)
  rw [hi] at h1; cases h1
  exact one_rel h2 (List.all_eq_true.1 ho _ (List.getElem_mem hil))

theorem run_append' {σ : Sig} {I : Imm} {H H' : AHeap} {w : World} {nm : Name → Prop} (hr : ARel σ I H w) {n : Name} (hn : σ n = none) (hnm : nm n)
    {t xt ty : TypeId} {s x r : AV} {sv xv : Value} (hs : VRel σ I s sv) (hx : VRel σ I x xv) (h : aappend P t xt s x n H = some (r, H')) :
    ∃ v w' σ', (Builtin.append_ #[t, xt] ty #[sv, xv]).run P w = .ok v w' ∧ Step nm σ I H w σ' I H' w' ∧ VRel σ' I r v := by
  unfold aappend at h
  split at h
  · rename_i e d ht hxt
    split at h
    · rename_i i hi
      split at h
      · rename_i z k new hz hsrc
        split at h
        · rename_i hc
          obtain ⟨hd, hzs, hone, hnl⟩ := hc
          obtain ⟨hlen, hcells⟩ := run_src (P := P) hr hx hsrc
          obtain ⟨hlen', hcells'⟩ := run_src (P := P) (hr.drawn (w' := w.drew) rfl) hx hsrc
          have htake : new.take (k * i.size) = new := by rw [← hnl]; exact List.take_length
          have hss : (sizeOf e).run P w = .ok i.size w := by simp [sizeOf, run_typeInfo' _ hi]
          split at h
          · -- onto nothing
            cases hs
            by_cases hk : k = 0
            · subst hk
              simp at h
              obtain ⟨rfl, rfl⟩ := h
              obtain ⟨arr, ha, _⟩ := hcells 0 (Nat.le_refl _)
              refine ⟨.slice none 0 0, w, σ, ?_, Step.refl _ hr, .val _⟩
              cases d <;> first
                | (simp [seqD] at hd; done)
                | (simp [Builtin.append_, run_underlying' w ht, run_underlying' w hxt, hss, hlen, ha])
            · rw [if_neg hk] at h
              split at h
              · rename_i hb
                simp at h
                obtain ⟨rfl, rfl⟩ := h
                obtain ⟨arr, ha, har⟩ := hcells' k (Nat.le_refl _)
                rw [htake] at har
                obtain ⟨v, w', σ', h1, h2, h3⟩ := run_append_new (P := P) (ty := ty) hr hn hnm (base := none) (sLen := 0) (sCap := 0) (oldc := #[]) (oldr := []) ht hxt hd hi hz hlen (by omega) (by simpa using hb.1) (by simpa using hb.2)
                  (by simp [Builtin.firstCells]) ha .nil har hzs (by simp) hnl
                simp only [List.nil_append, Nat.zero_add] at h2 h3
                exact ⟨v, w', σ', h1, h2, h3⟩
              · cases h
          · rename_i m off len sz
            cases hm : H m with
            | none => simp [hm] at h
            | some row =>
              simp only [hm, Option.bind_some] at h
              split at h
              · rename_i hc
                obtain ⟨rfl, hle, hb1, hb2⟩ := hc
                simp at h
                obtain ⟨rfl, rfl⟩ := h
                cases hs with
                | @sl _ _ _ _ cap p hp hl hcap =>
                  have hold : ∀ w', w'.heap = w.heap → ∃ arr : Array Value, (Builtin.firstCells i.size len (.slice (some ⟨p.b, p.o + off, none⟩) len cap)).run P w' = .ok arr w' ∧ VRels σ I ((row.drop off).take (len * i.size)) arr.toList := by
                    intro w' hw'
                    have := load_cells (P := P) (σ := σ) (I := I) (w := w') (b := p.b) (o := p.o + off) (l := (row.drop off).take (len * i.size)) (n := len * i.size) (by simp; omega) (fun j a hj => by
                      rw [List.getElem?_take] at hj
                      split at hj
                      · rw [List.getElem?_drop] at hj
                        obtain ⟨u, h1, h2, _⟩ := (hr.drawn hw').cell hm hp hj
                        exact ⟨u, by rwa [show p.o + off + j = p.o + (off + j) from by omega], h2⟩
                      · cases hj)
                    obtain ⟨vs, h1, h2⟩ := this
                    exact ⟨vs, by simp only [Builtin.firstCells]; exact h1, h2⟩
                  have hol : ((row.drop off).take (len * i.size)).length = len * i.size := by simp; omega
                  by_cases hroom : len + k ≤ cap
                  · -- there is room
                    obtain ⟨arr, ha, har⟩ := hcells k (Nat.le_refl _)
                    rw [htake] at har
                    have hmn : n ≠ m := by rintro rfl; rw [hn] at hp; cases hp
                    obtain ⟨p', c, el, fr, hp', hb, htot, hf, hrow⟩ := hr.rows m row hm
                    rw [hp] at hp'; cases hp'
                    have hks : (len + k) * i.size ≤ cap * i.size := Nat.mul_le_mul_right _ hroom
                    rw [Nat.add_mul] at hks
                    let junk : List AV := (seg c (p.o + off + len * i.size) (k * i.size)).map .val
                    have hjl : junk.length = new.length := by
                      simp only [junk, List.length_map, seg_length, hnl]
                      omega
                    have hrl := hrow.length
                    rw [seg_length] at hrl
                    have st1 := Step.rename (nm := nm) (row' := (row.drop off).take (len * i.size) ++ junk) (o := p.o + off) hr hm hp hn hnm (fun c' el' fr' hb' => by
                      rw [hb] at hb'; cases hb'
                      rw [List.length_append, hol, seg_split]
                      refine VRels.append ?_ ?_
                      · have : seg c (p.o + off) (len * i.size) = ((seg c p.o row.length).drop off).take (len * i.size) := by
                          simp only [seg]
                          rw [List.drop_take, List.take_take, List.drop_drop, Nat.min_eq_left (by omega)]
                        rw [this]
                        exact (hrow.drop off).take _
                      · have : junk.length = k * i.size := by rw [hjl, hnl]
                        rw [this]
                        exact VRels.vals _)
                    obtain ⟨w', h1, st2⟩ := store_cells (P := P) (nm := nm) (upd_same _ _ _ : upd σ n (some (⟨p.b, p.o + off, p.tot⟩ : Place)) n = some ⟨p.b, p.o + off, p.tot⟩) new arr.toList _ w ((row.drop off).take (len * i.size) ++ junk) (len * i.size) 0 st1.rel (upd_same _ _ _)
                      (har.mono st1.sig (Imm.le_refl _)) hone (by rw [List.length_append, hol, hjl]; omega)
                    have st := st1.trans st2
                    have e1 : upd (upd (upd H m none) n (some ((row.drop off).take (len * i.size) ++ junk))) n (some (setMany ((row.drop off).take (len * i.size) ++ junk) (len * i.size + 0) new)) = upd (upd H m none) n (some ((row.drop off).take (len * i.size) ++ new)) := by
                      funext q
                      by_cases e : q = n
                      · subst e
                        rw [upd_same, upd_same, Nat.add_zero]
                        have := setMany_append new ((row.drop off).take (len * i.size)) junk hjl
                        rw [hol] at this
                        rw [this]
                      · rw [upd_ne _ _ e, upd_ne _ _ e, upd_ne _ _ e]
                    rw [e1] at st
                    refine ⟨.slice (some ⟨p.b, p.o + off, none⟩) (len + k) cap, w', _, ?_, st, .sl (upd_same _ _ _) hroom (by simpa using hcap)⟩
                    cases d <;> first
                      | (simp [seqD] at hd; done)
                      | (simp [Builtin.append_, run_underlying' w ht, run_underlying' w hxt, hss, hlen, hroom, ha, addr_add, h1])
                  · -- there is none
                    obtain ⟨oldc, ho1, ho2⟩ := hold w.drew rfl
                    obtain ⟨arr, ha, har⟩ := hcells' k (Nat.le_refl _)
                    rw [htake] at har
                    obtain ⟨v, w', σ', h1, h2, h3⟩ := run_append_new (P := P) (ty := ty) hr hn hnm ht hxt hd hi hz hlen (by omega) hb1 hb2 ho1 ha ho2 har hzs hol hnl
                    refine ⟨v, w', σ', h1, ?_, h3⟩
                    have hmn : n ≠ m := by rintro rfl; rw [hn] at hp; cases hp
                    refine h2.trans (Step.forget h2.rel ?_)
                    intro q rw' hq
                    by_cases e : q = n
                    · subst e; rw [upd_same] at hq ⊢; exact hq
                    · rw [upd_ne _ _ e] at hq ⊢
                      by_cases e2 : q = m
                      · subst e2; rw [upd_same] at hq; cases hq
                      · rw [upd_ne _ _ e2] at hq; exact hq
              · cases h
          · cases h
        · cases h
      · cases h
    · cases h
  · cases h

end Go.Proofs.Ytpgoddffacgcmaa.Den
