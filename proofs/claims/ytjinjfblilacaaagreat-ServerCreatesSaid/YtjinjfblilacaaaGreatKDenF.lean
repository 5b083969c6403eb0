/- The operations of the model are those of the abstract memory: what makes or changes rows; what computes. -/
import Derived.Test.YtjinjfblilacaaaGreatKDenA
import Derived.Lib.ConvBytes
import Derived.Laws.BytesArg
import Derived.ScopeJumps
import Derived.Deep.LoopGhost
set_option linter.unusedVariables false
set_option linter.unusedSimpArgs false
section
namespace Go.Proofs.YtjinjfblilacaaaGreat.Den
variable {P : Program}
/-- A row gets another name, and another begin and end. -/
theorem Step.rename {nm : Name -> Prop} {σ : Sig} {I : Imm} {H : AHeap} {w : World} (h : ARel σ I H w) {n m : Name} {row row' : List AV} {p : Place} (hn : H n = some row) (hp : σ n = some p) (hm : σ m = none) (hnm : nm m)
    {o : Nat} (hrow : ∀ c el fr, w.heap[p.b]? = some (.cells c el fr) -> VRels σ I row' (seg c o row'.length)) :
    Step nm σ I H w (upd σ m (some ⟨p.b, o, p.tot⟩)) I (upd (upd H n none) m (some row')) w := by
  have hne : m ≠ n := by rintro rfl; rw [hm] at hp; cases hp
  have hle : σ.le (upd σ m (some ⟨p.b, o, p.tot⟩)) := fun k q hk => by
    rw [upd_ne]; exact hk
    rintro rfl; rw [hm] at hk; cases hk
  obtain ⟨p', c, el, fr, hp', hb, ht, hf, hr⟩ := h.rows n row hn
  rw [hp] at hp'; cases hp'
  have hH : ∀ k r, upd (upd H n none) m (some row') k = some r -> (k = m /\ r = row') \/ (k ≠ m /\ k ≠ n /\ H k = some r) := fun k r hk => by
    by_cases e : k = m
    · subst e; rw [upd_same] at hk; cases hk; exact .inl ⟨rfl, rfl⟩
    · rw [upd_ne _ _ e] at hk
      by_cases e2 : k = n
      · subst e2; rw [upd_same] at hk; cases hk
      · rw [upd_ne _ _ e2] at hk; exact .inr ⟨e, e2, hk⟩
  have hN : ∀ k, upd (upd H n none) m (some row') k ≠ none -> (k = m) \/ (k ≠ m /\ k ≠ n /\ H k ≠ none) := fun k hk => by
    cases e : upd (upd H n none) m (some row') k with
    | none => exact absurd e hk
    | some r =>
      rcases hH k r e with ⟨h1, _⟩ | ⟨h1, h2, h3⟩
      · exact .inl h1
      · exact .inr ⟨h1, h2, by rw [h3]; simp⟩
  have hnn : H n ≠ none := by rw [hn]; simp
  refine ⟨⟨?_, ?_, ?_, ?_⟩, hle, ?_, Imm.le_refl _, fun _ _ _ h => .inl h, ?_, Fr.refl _ _ _⟩
  · intro k r hk
    rcases hH k r hk with ⟨rfl, rfl⟩ | ⟨h1, h2, h3⟩
    · exact ⟨_, c, el, fr, upd_same _ _ _, hb, ht, hf, (hrow c el fr hb).mono hle (Imm.le_refl _)⟩
    · obtain ⟨q, c', el', fr', hq, hb', ht', hf', hr'⟩ := h.rows k r h3
      exact ⟨q, c', el', fr', by rw [upd_ne _ _ h1]; exact hq, hb', ht', hf', hr'.mono hle (Imm.le_refl _)⟩
  · intro k k' q q' hk hk' hq hq' hb'
    rcases hN k hk with rfl | ⟨h1, h2, h3⟩ <;> rcases hN k' hk' with rfl | ⟨h1', h2', h3'⟩
    · rfl
    · rw [upd_same] at hq; cases hq
      rw [upd_ne _ _ h1'] at hq'
      exact absurd (h.inj k' n q' p h3' hnn hq' hp hb'.symm) h2'
    · rw [upd_same] at hq'; cases hq'
      rw [upd_ne _ _ h1] at hq
      exact absurd (h.inj k n q p h3 hnn hq hp hb') h2
    · rw [upd_ne _ _ h1] at hq
      rw [upd_ne _ _ h1'] at hq'
      exact h.inj k k' q q' h3 h3' hq hq' hb'
  · exact h.imm
  · intro k q b hk hq
    rcases hN k hk with rfl | ⟨h1, h2, h3⟩
    · rw [upd_same] at hq; cases hq
      exact h.dis n p b hnn hp
    · rw [upd_ne _ _ h1] at hq
      exact h.dis k q b h3 hq
  · intro k h0 h1
    by_cases e : k = m
    · subst e; exact hnm
    · rw [upd_ne _ _ e] at h1; exact absurd h0 h1
  · rintro b ⟨k, q, hk, hq, rfl⟩
    rcases hN k hk with rfl | ⟨h1, h2, h3⟩
    · rw [upd_same] at hq; cases hq
      exact .inl ⟨n, p, hnn, hp, rfl⟩
    · rw [upd_ne _ _ h1] at hq
      exact .inl ⟨k, q, h3, hq, rfl⟩
theorem setMany_append : ∀ (new l junk : List AV), junk.length = new.length -> setMany (l ++ junk) l.length new = l ++ new
  | [], l, junk, h => by
    have : junk = [] := List.eq_nil_of_length_eq_zero (by simpa using h)
    subst this; rfl
  | a :: new, l, [], h => by simp at h
  | a :: new, l, j :: junk, h => by
    simp only [setMany]
    have e : (l ++ j :: junk).set l.length a = (l ++ [a]) ++ junk := by
      rw [List.set_append_right _ _ (Nat.le_refl _)]; simp
    rw [e]
    have := setMany_append new (l ++ [a]) junk (by simpa using h)
    rw [List.length_append, List.length_singleton] at this
    rw [this, List.append_assoc]; rfl
theorem seg_split (c : Array Value) (o a b : Nat) : seg c o (a + b) = seg c o a ++ seg c (o + a) b := by
  simp only [seg, List.take_add, List.drop_drop]
/-- An append that has no room where it is: a new row. -/
theorem run_append_new {σ : Sig} {I : Imm} {H : AHeap} {w : World} {nm : Name -> Prop} (hr : ARel σ I H w) {n : Name} (hn : σ n = none) (hnm : nm n)
    {t xt ty e : TypeId} {d : TypeDesc} {i : TypeInfo} {z : Value} {base : Option Addr} {sLen sCap k : Nat} {x : Value} {oldc newc : Array Value} {oldr newr : List AV}
    (ht : P.underlying t = some (.slice e)) (hxt : P.underlying xt = some d) (hd : seqD d = true) (hi : P.info? e = some i) (hz : i.zero = some z)
    (hlen : (Builtin.lenOf x).run P w = .ok k w) (hneed : sCap < sLen + k) (hby : (sLen + k) * i.bytes <= 140737488355328) (hb2 : sLen + k <= 140737488355328)
    (hold : (Builtin.firstCells i.size sLen (.slice base sLen sCap)).run P w.drew = .ok oldc w.drew) (hnew : (Builtin.firstCells i.size k x).run P w.drew = .ok newc w.drew)
    (hor : VRels σ I oldr oldc.toList) (hnr : VRels σ I newr newc.toList) (hzs : z.cells.size = i.size) (hlo : oldr.length = sLen * i.size) (hln : newr.length = k * i.size) :
    ∃ v w' σ', (Builtin.append_ #[t, xt] ty #[.slice base sLen sCap, x]).run P w = .ok v w' /\ Step nm σ I H w σ' I (upd H n (some (oldr ++ newr))) w' /\ VRel σ' I (.sl n 0 (sLen + k) i.size) v := by
  obtain ⟨nc, hc1⟩ : ∃ nc, nc = (Question.appendCap (sLen + k) sCap e).cut (w.tape w.drawn (Question.appendCap (sLen + k) sCap e)) := ⟨_, rfl⟩
  have hc2 : sLen + k <= nc := by rw [hc1]; simp only [Question.cut]; omega
  have hfo : (Question.appendCap (sLen + k) sCap e).forced = false := rfl
  have hfit := growslice_fits (need := sLen + k) (old := sCap) (bytes := i.bytes) hneed hby
  have hrd : ARel σ I H w.drew := hr.drawn rfl
  have hlen2 : (oldr ++ newr).length = (sLen + k) * i.size := by rw [List.length_append, hlo, hln, Nat.add_mul]
  have hla : oldc.size = sLen * i.size := by have := hor.length; simp at this; omega
  have hlb : newc.size = k * i.size := by have := hnr.length; simp at this; omega
  have hseg : seg (oldc ++ newc ++ Builtin.zeroCells z.cells (nc - (sLen + k))) 0 (oldr ++ newr).length = oldc.toList ++ newc.toList := by
    rw [hlen2]
    simp only [seg, List.drop_zero, Array.toList_append]
    rw [List.take_left']
    simp [hla, hlb, Nat.add_mul]
  obtain ⟨st, _⟩ := Step.alloc (nm := nm) (w := w.drew) hrd hn hnm (c := oldc ++ newc ++ Builtin.zeroCells z.cells (nc - (sLen + k))) (el := e) (fr := (0, 0)) (row := oldr ++ newr) (no_frozen _) (by rw [hseg]; exact hor.append hnr)
  refine ⟨.slice (some ⟨w.drew.heap.size, 0, none⟩) (sLen + k) nc, _, _, ?_, (Step.drawn (nm := nm) (w' := w.drew) hr rfl rfl rfl rfl).trans st, ?_⟩
  · have hno : ¬ (sLen + k <= sCap) := by omega
    have hzz : (zeroValue e).run P w.drew = .ok z w.drew := by simp [zeroValue, run_typeInfo' _ hi, hz]
    have hss : (sizeOf e).run P w = .ok i.size w := by simp [sizeOf, run_typeInfo' _ hi]
    have hmax' : ¬ (9223372036854775807 < (sLen : Int) + (k : Int)) := by omega
    have hfit' : ¬ (281474976710656 < Builtin.nextslicecap (sLen + k) sCap * i.bytes) := by omega
    cases d <;> first
      | (simp [seqD] at hd; done)
      | (simp [Builtin.append_, run_underlying' w ht, run_underlying' w hxt, hss, hlen, hno, run_typeInfo' _ hi, hfit', hfo, <- hc1, hold, hnew, hzz, run_newRow', hmax'])
  · refine .sl (upd_same _ _ _) hc2 ?_
    simp only [Array.size_append, hla, hlb, size_zeroCells, hzs]
    rw [<- Nat.add_mul, <- Nat.add_mul]
    have : sLen + k + (nc - (sLen + k)) = nc := by omega
    rw [this]
    omega
theorem run_append' {σ : Sig} {I : Imm} {H H' : AHeap} {w : World} {nm : Name -> Prop} (hr : ARel σ I H w) {n : Name} (hn : σ n = none) (hnm : nm n)
    {t xt ty : TypeId} {s x r : AV} {sv xv : Value} (hs : VRel σ I s sv) (hx : VRel σ I x xv) (h : aappend P t xt s x n H = some (r, H')) :
    ∃ v w' σ', (Builtin.append_ #[t, xt] ty #[sv, xv]).run P w = .ok v w' /\ Step nm σ I H w σ' I H' w' /\ VRel σ' I r v := by
  unfold aappend at h
  split at h
  · rename_i e d ht hxt
    split at h
    · rename_i i hi
      split at h
      · rename_i z k new hz hsrc
        split at h
        · rename_i hc
          obtain ⟨hd, hzs, hone, hnl⟩ := hc
          obtain ⟨hlen, hcells⟩ := run_src (P := P) hr hx hsrc
          obtain ⟨hlen', hcells'⟩ := run_src (P := P) (hr.drawn (w' := w.drew) rfl) hx hsrc
          have htake : new.take (k * i.size) = new := by rw [<- hnl]; exact List.take_length
          have hss : (sizeOf e).run P w = .ok i.size w := by simp [sizeOf, run_typeInfo' _ hi]
          split at h
          · -- onto nothing
            cases hs
            by_cases hk : k = 0
            · subst hk
              simp at h
              obtain ⟨rfl, rfl⟩ := h
              obtain ⟨arr, ha, _⟩ := hcells 0 (Nat.le_refl _)
              refine ⟨.slice none 0 0, w, σ, ?_, Step.refl _ hr, .val _⟩
              cases d <;> first
                | (simp [seqD] at hd; done)
                | (simp [Builtin.append_, run_underlying' w ht, run_underlying' w hxt, hss, hlen, ha])
            · rw [if_neg hk] at h
              split at h
              · rename_i hb
                simp at h
                obtain ⟨rfl, rfl⟩ := h
                obtain ⟨arr, ha, har⟩ := hcells' k (Nat.le_refl _)
                rw [htake] at har
                obtain ⟨v, w', σ', h1, h2, h3⟩ := run_append_new (P := P) (ty := ty) hr hn hnm (base := none) (sLen := 0) (sCap := 0) (oldc := #[]) (oldr := []) ht hxt hd hi hz hlen (by omega) (by simpa using hb.1) (by simpa using hb.2)
                  (by simp [Builtin.firstCells]) ha .nil har hzs (by simp) hnl
                simp only [List.nil_append, Nat.zero_add] at h2 h3
                exact ⟨v, w', σ', h1, h2, h3⟩
              · cases h
          · rename_i m off len sz
            cases hm : H m with
            | none => simp [hm] at h
            | some row =>
              simp only [hm, Option.bind_some] at h
              split at h
              · rename_i hc
                obtain ⟨rfl, hle, hb1, hb2⟩ := hc
                simp at h
                obtain ⟨rfl, rfl⟩ := h
                cases hs with
                | @sl _ _ _ _ cap p hp hl hcap =>
                  have hold : ∀ w', w'.heap = w.heap -> ∃ arr : Array Value, (Builtin.firstCells i.size len (.slice (some ⟨p.b, p.o + off, none⟩) len cap)).run P w' = .ok arr w' /\ VRels σ I ((row.drop off).take (len * i.size)) arr.toList := by
                    intro w' hw'
                    have := load_cells (P := P) (σ := σ) (I := I) (w := w') (b := p.b) (o := p.o + off) (l := (row.drop off).take (len * i.size)) (n := len * i.size) (by simp; omega) (fun j a hj => by
                      rw [List.getElem?_take] at hj
                      split at hj
                      · rw [List.getElem?_drop] at hj
                        obtain ⟨u, h1, h2, _⟩ := (hr.drawn hw').cell hm hp hj
                        exact ⟨u, by rwa [show p.o + off + j = p.o + (off + j) from by omega], h2⟩
                      · cases hj)
                    obtain ⟨vs, h1, h2⟩ := this
                    exact ⟨vs, by simp only [Builtin.firstCells]; exact h1, h2⟩
                  have hol : ((row.drop off).take (len * i.size)).length = len * i.size := by simp; omega
                  by_cases hroom : len + k <= cap
                  · -- there is room
                    obtain ⟨arr, ha, har⟩ := hcells k (Nat.le_refl _)
                    rw [htake] at har
                    have hmn : n ≠ m := by rintro rfl; rw [hn] at hp; cases hp
                    obtain ⟨p', c, el, fr, hp', hb, htot, hf, hrow⟩ := hr.rows m row hm
                    rw [hp] at hp'; cases hp'
                    have hks : (len + k) * i.size <= cap * i.size := Nat.mul_le_mul_right _ hroom
                    rw [Nat.add_mul] at hks
                    let junk : List AV := (seg c (p.o + off + len * i.size) (k * i.size)).map .val
                    have hjl : junk.length = new.length := by
                      simp only [junk, List.length_map, seg_length, hnl]
                      omega
                    have hrl := hrow.length
                    rw [seg_length] at hrl
                    have st1 := Step.rename (nm := nm) (row' := (row.drop off).take (len * i.size) ++ junk) (o := p.o + off) hr hm hp hn hnm (fun c' el' fr' hb' => by
                      rw [hb] at hb'; cases hb'
                      rw [List.length_append, hol, seg_split]
                      refine VRels.append ?_ ?_
                      · have : seg c (p.o + off) (len * i.size) = ((seg c p.o row.length).drop off).take (len * i.size) := by
                          simp only [seg]
                          rw [List.drop_take, List.take_take, List.drop_drop, Nat.min_eq_left (by omega)]
                        rw [this]
                        exact (hrow.drop off).take _
                      · have : junk.length = k * i.size := by rw [hjl, hnl]
                        rw [this]
                        exact VRels.vals _)
                    obtain ⟨w', h1, st2⟩ := store_cells (P := P) (nm := nm) (upd_same _ _ _ : upd σ n (some (⟨p.b, p.o + off, p.tot⟩ : Place)) n = some ⟨p.b, p.o + off, p.tot⟩) new arr.toList _ w ((row.drop off).take (len * i.size) ++ junk) (len * i.size) 0 st1.rel (upd_same _ _ _)
                      (har.mono st1.sig (Imm.le_refl _)) hone (by rw [List.length_append, hol, hjl]; omega)
                    have st := st1.trans st2
                    have e1 : upd (upd (upd H m none) n (some ((row.drop off).take (len * i.size) ++ junk))) n (some (setMany ((row.drop off).take (len * i.size) ++ junk) (len * i.size + 0) new)) = upd (upd H m none) n (some ((row.drop off).take (len * i.size) ++ new)) := by
                      funext q
                      by_cases e : q = n
                      · subst e
                        rw [upd_same, upd_same, Nat.add_zero]
                        have := setMany_append new ((row.drop off).take (len * i.size)) junk hjl
                        rw [hol] at this
                        rw [this]
                      · rw [upd_ne _ _ e, upd_ne _ _ e, upd_ne _ _ e]
                    rw [e1] at st
                    refine ⟨.slice (some ⟨p.b, p.o + off, none⟩) (len + k) cap, w', _, ?_, st, .sl (upd_same _ _ _) hroom (by simpa using hcap)⟩
                    cases d <;> first
                      | (simp [seqD] at hd; done)
                      | (simp [Builtin.append_, run_underlying' w ht, run_underlying' w hxt, hss, hlen, hroom, ha, addr_add, h1])
                  · -- there is none
                    obtain ⟨oldc, ho1, ho2⟩ := hold w.drew rfl
                    obtain ⟨arr, ha, har⟩ := hcells' k (Nat.le_refl _)
                    rw [htake] at har
                    obtain ⟨v, w', σ', h1, h2, h3⟩ := run_append_new (P := P) (ty := ty) hr hn hnm ht hxt hd hi hz hlen (by omega) hb1 hb2 ho1 ha ho2 har hzs hol hnl
                    refine ⟨v, w', σ', h1, ?_, h3⟩
                    have hmn : n ≠ m := by rintro rfl; rw [hn] at hp; cases hp
                    refine h2.trans (Step.forget h2.rel ?_)
                    intro q rw' hq
                    by_cases e : q = n
                    · subst e; rw [upd_same] at hq ⊢; exact hq
                    · rw [upd_ne _ _ e] at hq ⊢
                      by_cases e2 : q = m
                      · subst e2; rw [upd_same] at hq; cases hq
                      · rw [upd_ne _ _ e2] at hq; exact hq
              · cases h
          · rename_i m len cells
            split at h
            · rename_i hk
              subst hk
              cases h
              obtain ⟨arr, ha, har⟩ := hcells 0 (Nat.le_refl _)
              have harr : arr.toList = [] := by
                rw [Nat.zero_mul, List.take_zero] at har
                generalize arr.toList = q at har
                cases har; rfl
              have : ∃ base cap, sv = .slice base len cap /\ len <= cap := by
                cases hs with
                | im0 => exact ⟨_, _, rfl, Nat.zero_le _⟩
                | im _ _ hl => exact ⟨_, _, rfl, hl⟩
              obtain ⟨base, cap, rfl, hl⟩ := this
              refine ⟨.slice base len cap, w, σ, ?_, Step.refl _ hr, hs⟩
              cases d <;> first
                | (simp [seqD] at hd; done)
                | (simp [Builtin.append_, run_underlying' w ht, run_underlying' w hxt, hss, hlen, ha, hl]; cases base <;> simp [harr, storeCells])
            · cases h
          · cases h
        · cases h
      · cases h
    · cases h
  · cases h
end Go.Proofs.YtjinjfblilacaaaGreat.Den
end
section
namespace Go.Proofs.YtjinjfblilacaaaGreat.Den
variable {P : Program}
theorem run_copy' {σ : Sig} {I : Imm} {H H' : AHeap} {w : World} {nm : Name -> Prop} (hr : ARel σ I H w) {t ty : TypeId} {ts : Array TypeId} (hts : ts[0]? = some t)
    {d x r : AV} {dv xv : Value} (hd : VRel σ I d dv) (hx : VRel σ I x xv) (h : acopy P t d x H = some (r, H')) :
    ∃ v w', (Builtin.copy_ ts ty #[dv, xv]).run P w = .ok v w' /\ Step nm σ I H w σ I H' w' /\ VRel σ I r v := by
  unfold acopy at h
  split at h
  · rename_i e n off len sz hu
    split at h
    · rename_i s row k new hs hn hsrc
      split at h
      · rename_i hc
        obtain ⟨rfl, hnl, hone, hle⟩ := hc
        simp at h
        obtain ⟨rfl, rfl⟩ := h
        obtain ⟨hlen, hcells⟩ := run_src (P := P) hr hx hsrc
        cases hd with
        | @sl _ _ _ _ cap p hp hl hcap =>
          obtain ⟨arr, ha, har⟩ := hcells (min k len) (Nat.min_le_left _ _)
          have hms : min k len * s <= k * s := Nat.mul_le_mul_right _ (Nat.min_le_left _ _)
          obtain ⟨w', h1, st⟩ := store_cells (P := P) (nm := nm) hp (new.take (min k len * s)) arr.toList H w row off 0 hr hn har
            (by rw [List.all_eq_true] at hone ⊢; exact fun a ha => hone a (List.mem_of_mem_take ha)) (by simp [hnl]; omega)
          refine ⟨goInt (min k len : Nat), w', ?_, st, .val _⟩
          simp [Builtin.copy_, hts, run_underlying' w hu, hlen, run_sizeOf' w hs, ha, h1]
      · cases h
    · cases h
  · cases h
theorem Step.fresh {nm : Name -> Prop} {σ : Sig} {I : Imm} {H : AHeap} {w : World} (hr : ARel σ I H w) {n : Name} (hn : σ n = none) (hnm : nm n) {row : List AV} {c : Array Value} {el : TypeId} {fr : Nat × Nat}
    (hfr : frOk fr c.size) (hv : VRels σ I row (seg c 0 row.length)) :
    ∃ σ', Step nm σ I H w σ' I (upd H n (some row)) (w.alloc (.cells c el fr)) /\ σ' n = some ⟨w.heap.size, 0, c.size⟩ :=
  ⟨_, (Step.alloc hr hn hnm hfr hv).1, upd_same _ _ _⟩
theorem run_alloc' {σ : Sig} {I : Imm} {H : AHeap} {w : World} {nm : Name -> Prop} (hr : ARel σ I H w) {n : Name} (hn : σ n = none) (hnm : nm n) {e : TypeId} {z : List AV} (hz : zeroCellsA P e = some z) :
    ∃ v w' σ', (Instr.alloc e true (.tuple #[])).run P w = .ok v w' /\ Step nm σ I H w σ' I (upd H n (some z)) w' /\ VRel σ' I (.ptr n 0) v := by
  obtain ⟨zv, h1, h2, h3⟩ := zero_rel (σ := σ) (I := I) hz
  obtain ⟨σ', st, hp⟩ := Step.fresh (nm := nm) hr hn hnm (el := e) (no_frozen zv.cells) (row := z) (by rw [seg_whole' _ _ h3]; exact h2)
  exact ⟨.pointer (some ⟨w.heap.size, 0, none⟩), _, σ', by simp [Instr.alloc, run_zero' w h1, newVar, run_newRow'], st, .ptr hp⟩
theorem run_box' {σ : Sig} {I : Imm} {H : AHeap} {w : World} {nm : Name -> Prop} (hr : ARel σ I H w) {n : Name} (hn : σ n = none) (hnm : nm n) {e : TypeId} {x : AV} {v : Value} (hx : VRel σ I x v) :
    ∃ u w' σ', (Instr.box e v).run P w = .ok u w' /\ Step nm σ I H w σ' I (upd H n (some x.cells)) w' /\ VRel σ' I (.ptr n 0) u := by
  have hc := cells_rel hx
  obtain ⟨σ', st, hp⟩ := Step.fresh (nm := nm) hr hn hnm (el := e) (no_frozen v.cells) (row := x.cells) (by rw [seg_whole' _ _ (by simpa using hc.length)]; exact hc)
  exact ⟨.pointer (some ⟨w.heap.size, 0, none⟩), _, σ', by simp [Instr.box, newVar, run_newRow'], st, .ptr hp⟩
theorem run_buildSlice' {σ : Sig} {I : Imm} {H : AHeap} {w : World} {nm : Name -> Prop} (hr : ARel σ I H w) {n : Name} (hn : σ n = none) (hnm : nm n) {ρ : Env} {ρc : Operand -> Value} (he : ∀ x, VRel σ I (ρ x) (ρc x))
    {t e : TypeId} {len s : Nat} {parts : Array (Nat × Operand)} {z l : List AV} (hu : P.underlying t = some (.slice e)) (hs : szOf P e = some s) (hz : zeroCellsA P e = some z) (hzl : z.length = s) (hs0 : s ≠ 0) (hbig : len * s <= 16777216)
    (hf : fillA (fun i => some (i * s, s)) (rowOf z len) (parts.toList.map fun (i, x) => (i, ρ x)) = some l) :
    ∃ v w' σ', (Instr.buildSlice t len (parts.map fun (i, x) => (i, ρc x))).run P w = .ok v w' /\ Step nm σ I H w σ' I (upd H n (some l)) w' /\ VRel σ' I (.sl n 0 len s) v := by
  obtain ⟨zv, h1, h2, h3⟩ := zero_rel (σ := σ) (I := I) hz
  obtain ⟨i, hi, hiz⟩ := zeroOf_info h1
  obtain ⟨ie, hie, rfl⟩ := info_of_size hs
  rw [hi] at hie; cases hie
  obtain ⟨hl, hpr⟩ := parts_rel he parts
  have hzz := zeros_rel h2 (by omega) len
  obtain ⟨ar, h4, h5⟩ := fill_rel _ _ (rowOf z len) l ((Array.range (len * zv.cells.size)).map (zv.cells[· % zv.cells.size]!)) hl hpr hzz hf
  have hsz : zv.cells.size = i.size := by omega
  have hal : ar.size = len * i.size := by
    have e1 : l.length = (rowOf z len).length := by
      clear h4 h5 hpr hl
      generalize (parts.toList.map fun (i, x) => (i, ρ x)) = ps at hf
      generalize rowOf z len = cells at hf
      induction ps generalizing cells with
      | nil => simp [fillA] at hf; rw [hf]
      | cons p ps ih =>
        obtain ⟨j, a⟩ := p
        simp only [fillA] at hf
        split at hf
        · cases hf
        · rw [ih _ hf, setMany_length]
    have e2 : l.length = ar.size := by simpa using h5.length
    rw [<- e2, e1, rowOf_length, hzl]
  obtain ⟨σ', st, hp⟩ := Step.fresh (nm := nm) hr hn hnm (el := e) (no_frozen ar) (row := l) (by rw [seg_whole' _ _ (by simpa using h5.length)]; exact h5)
  refine ⟨.slice (some ⟨w.heap.size, 0, none⟩) len len, _, σ', ?_, st, .sl hp (Nat.le_refl _) (by simp [hal])⟩
  by_cases h0 : len = 0
  · subst h0
    have : (Array.range (0 * zv.cells.size)).map (zv.cells[· % zv.cells.size]!) = #[] := by simp
    rw [this] at h4
    have e3 : (parts.map fun (i, x) => (i, ρc x)).toList = parts.toList.map fun x => (x.fst, ρc x.snd) := by rw [Array.toList_map]
    rw [e3] at h4
    have h6 : Instr.fill (fun k => some (k * i.size, i.size)) (Array.map (fun _ => (default : Value)) (Array.range 0)) (List.map (fun x => (x.fst, ρc x.snd)) parts.toList) = some ar := by
      rw [show Array.map (fun _ => (default : Value)) (Array.range 0) = #[] from by simp]; exact h4
    simp only [Instr.buildSlice, Sem.run_bind, run_underlying' w hu, Result.andThen_ok, run_sizeOf' w hs, Nat.zero_mul]
    simp [h6, newRow]
  · rw [hsz] at h4
    exact run_buildSlice w t e len _ ar i zv hu hi hiz (by have : (2 : Nat) ^ 24 = 16777216 := (by decide); omega) (by
      intro h; rcases Nat.mul_eq_zero.1 h with h | h <;> omega) (by rw [hsz]; exact h4)
theorem run_makeSlice' {σ : Sig} {I : Imm} {H : AHeap} {w : World} {nm : Name -> Prop} (hr : ARel σ I H w) {n : Name} (hn : σ n = none) (hnm : nm n)
    {t e : TypeId} {l c s by_ : Nat} {kl kc : IntKind} {z : List AV} (hu : P.underlying t = some (.slice e)) (hs : szOf P e = some s) (hz : zeroCellsA P e = some z) (hb : bytesOf' P e = some by_) (hzl : z.length = s) (hs0 : s ≠ 0)
    (hlc : l <= c) (hc : c <= 281474976710656) (hbc : by_ * c <= 281474976710656) :
    ∃ v w' σ', (Instr.makeSlice t (.int kl l) (.int kc c)).run P w = .ok v w' /\ Step nm σ I H w σ' I (upd H n (some (rowOf z c))) w' /\ VRel σ' I (.sl n 0 l s) v := by
  obtain ⟨zv, h1, h2, h3⟩ := zero_rel (σ := σ) (I := I) hz
  obtain ⟨i, hi, hiz⟩ := zeroOf_info h1
  have hib : i.bytes = by_ := by unfold bytesOf' at hb; simpa [hi] using hb
  have hzz := zeros_rel h2 (by omega) c
  have hsz : zv.cells.size = s := by omega
  obtain ⟨σ', st, hp⟩ := Step.fresh (nm := nm) hr hn hnm (el := e) (no_frozen ((Array.range (c * zv.cells.size)).map (zv.cells[· % zv.cells.size]!))) (row := rowOf z c) (by rw [seg_whole' _ _ (by simp [rowOf_length, hzl, hsz])]; exact hzz)
  refine ⟨.slice (some ⟨w.heap.size, 0, none⟩) l c, _, σ', ?_, st, .sl hp hlc (by simp [hsz])⟩
  have w1 : IntKind.i64.wrap (l : Int) = l := by unfold IntKind.wrap; simp [IntKind.bits, IntKind.signed]; omega
  have w2 : IntKind.i64.wrap (c : Int) = c := by unfold IntKind.wrap; simp [IntKind.bits, IntKind.signed]; omega
  have hbi : ¬ (281474976710656 < (i.bytes : Int) * (c : Int)) := by
    rw [hib]; have : ((by_ * c : Nat) : Int) = (by_ : Int) * (c : Int) := by simp
    omega
  have hc0 : ¬ ((c : Int) < 0) := by omega
  have hl0 : ¬ ((l : Int) < 0) := by omega
  have hlc' : ¬ ((c : Int) < (l : Int)) := by omega
  by_cases h0 : c * s = 0
  · have hc00 : c = 0 := by rcases Nat.mul_eq_zero.1 h0 with h | h <;> omega
    subst hc00
    obtain rfl : l = 0 := by omega
    have w0 : IntKind.i64.wrap 0 = 0 := by decide
    have r0 : Array.range 0 = #[] := rfl
    simp [Instr.makeSlice, run_underlying' w hu, asInt, run_asIntOf', run_typeInfo' w hi, w0, r0, run_sizeOf' w hs, run_newRow']
  · simp [Instr.makeSlice, run_underlying' w hu, asInt, run_asIntOf', run_typeInfo' w hi, w1, w2, hbi, hc0, hl0, hlc', run_sizeOf' w hs, h0, run_zero' w h1, run_newRow', hsz]
/-! ### texts and bytes -/
theorem isU8_eq {d : Option TypeDesc} (h : isU8 d = true) : d = some (.int .u8) := by
  unfold isU8 at h
  split at h
  · rfl
  · cases h
theorem bytesA_rel {σ : Sig} {I : Imm} : ∀ {cells : List AV} {vs : List Value} {l : List UInt8}, VRels σ I cells vs -> bytesA cells = some l ->
    ∃ ns : List Int, vs = ns.map (Value.int .u8) /\ l = ns.map fun n => UInt8.ofNat n.toNat
  | [], _, l, hv, h => by cases hv; simp [bytesA] at h; subst h; exact ⟨[], rfl, rfl⟩
  | c :: cells, _, l, hv, h => by
    cases hv with
    | @cons _ u _ us hc ht =>
      cases hc with
      | val =>
        cases u with
        | int k n =>
          cases k <;> simp only [bytesA] at h <;> try (cases h; done)
          split at h
          · cases e : bytesA cells with
            | none => simp [e] at h
            | some l' =>
              simp [e] at h
              subst h
              obtain ⟨ns, rfl, rfl⟩ := bytesA_rel ht e
              exact ⟨n :: ns, rfl, rfl⟩
          · cases h
        | _ => simp [bytesA] at h
      | _ => simp [bytesA] at h
theorem run_toText' {σ : Sig} {I : Imm} {H : AHeap} {w : World} (hr : ARel σ I H w) {src dst e : TypeId} {x : AV} {v : Value} {k : Nat} {cells : List AV} {l : List UInt8} (hx : VRel σ I x v)
    (hs : P.underlying src = some (.slice e)) (hd : P.underlying dst = some .string) (he : isU8 (P.underlying e) = true) (hc : srcCells H 1 x = some (k, cells)) (hb : bytesA cells = some l) (hnv : ∀ y, x ≠ .val y) :
    (convert src dst v).run P w = .ok (.string ⟨l.toArray⟩) w := by
  have he' := isU8_eq he
  obtain ⟨hlen, hcells⟩ := run_src (P := P) hr hx hc
  obtain ⟨arr, ha, har⟩ := hcells k (Nat.le_refl _)
  have fin : ∀ (a : Option Addr) (len cap : Nat), v = .slice a len cap -> len = k -> (convert src dst v).run P w = .ok (.string ⟨l.toArray⟩) w := by
    rintro a len cap rfl rfl
    have hcl : cells.take (len * 1) = cells := by
      have : cells.length = len := by
        unfold srcCells at hc
        cases x with
        | val y => exact absurd rfl (hnv y)
        | sl n off len' sz =>
          simp only at hc
          split at hc
          · cases hn : H n with
            | none => simp [hn] at hc
            | some row =>
              simp only [hn, Option.bind_some] at hc
              split at hc <;> simp at hc
              obtain ⟨rfl, rfl⟩ := hc
              simp; omega
          · cases hc
        | im m len' cs =>
          simp only at hc
          split at hc <;> simp at hc
          obtain ⟨rfl, rfl⟩ := hc
          omega
        | _ => simp at hc
      rw [Nat.mul_one, <- this]; exact List.take_length
    rw [hcl] at har
    obtain ⟨ns, h1, rfl⟩ := bytesA_rel har hb
    have h2 : arr = (ns.map (Value.int .u8)).toArray := by rw [<- h1]
    subst h2
    cases a with
    | none =>
      simp only [Builtin.firstCells, Sem.run_pure] at ha
      have h3 : (#[] : Array Value) = (ns.map (Value.int .u8)).toArray := by injection ha
      have : ns = [] := by
        cases ns with
        | nil => rfl
        | cons n ns => simp at h3
      subst this
      rw [run_convert_bytes_nil (P := P) w src e hs he' len cap dst hd]
      rfl
    | some a =>
      have ha' : (loadCells a len).run P w = .ok (ns.map (Value.int .u8)).toArray w := by simpa [Builtin.firstCells] using ha
      rw [run_convert_bytes_string w src dst e _ len cap hs he' hd, run_bytesToString w _ len cap ns ha', foldl_push_bytes]
      simp [ByteArray.empty, ByteArray.emptyWithCapacity]
      rfl
  cases hx with
  | val => exact absurd rfl (hnv _)
  | @sl n off len sz cap p hp hl hcap => exact fin _ _ _ rfl (by simpa [Builtin.lenOf] using hlen)
  | @im0 m a cap => exact fin _ _ _ rfl (by simpa [Builtin.lenOf] using hlen)
  | @im m len cap b o cs c hb' hcs hl => exact fin _ _ _ rfl (by simpa [Builtin.lenOf] using hlen)
  | _ => simp [srcCells] at hc
/-- A block more that nobody writes. -/
def addI (I : Imm) (k : Nat) (c : Array Value) : Imm := fun m b => if m = true /\ b = k then some c else I m b
theorem Step.addImm {nm : Name -> Prop} {σ : Sig} {I : Imm} {H : AHeap} {w w' : World} (h : ARel σ I H w) {c : Array Value} {el : TypeId} {fr : Nat × Nat}
    (hold : ∀ i, i < w.heap.size -> w'.heap[i]? = w.heap[i]?) (hnew : w'.heap[w.heap.size]? = some (.cells c el fr)) (hsz : w'.heap.size = w.heap.size + 1) (hos : w'.os = w.os) (hta : w'.tape = w.tape) (hou : w'.output = w.output) :
    Step nm σ I H w σ (addI I w.heap.size c) H w' := by
  have hilt : ∀ m b c, I m b = some c -> b < w.heap.size := fun m b c hb => by
    obtain ⟨_, _, hb⟩ := h.imm m b c hb
    exact (Array.getElem?_eq_some_iff.1 hb).1
  have hle : I.le (addI I w.heap.size c) := fun m b c' hb => by
    unfold addI
    rw [if_neg]; exact hb
    rintro ⟨_, rfl⟩
    exact absurd (hilt _ _ _ hb) (Nat.lt_irrefl _)
  refine ⟨⟨?_, h.inj, ?_, ?_⟩, Sig.le_refl _, fun _ h h' => absurd h h', hle, ?_, fun _ h => .inl h, ⟨hos, hta, hou, by omega, fun b hb _ => hold b hb⟩⟩
  · intro n row hn
    obtain ⟨p, c', el', fr', h1, h2, h3, h4, h5⟩ := h.rows n row hn
    exact ⟨p, c', el', fr', h1, by rw [hold _ (Array.getElem?_eq_some_iff.1 h2).1]; exact h2, h3, h4, h5.mono (Sig.le_refl _) hle⟩
  · intro m b c' hb
    unfold addI at hb
    split at hb
    · rename_i e
      cases hb
      exact ⟨el, fr, by rw [e.2]; exact hnew⟩
    · obtain ⟨el', fr', h1⟩ := h.imm m b c' hb
      exact ⟨el', fr', by rw [hold _ (hilt _ _ _ hb)]; exact h1⟩
  · intro n p m hn hp
    unfold addI
    rw [if_neg]
    · exact h.dis n p m hn hp
    · rintro ⟨_, e⟩
      cases e2 : H n with
      | none => exact hn e2
      | some row =>
        obtain ⟨p', c', _, _, h1, h2, _⟩ := h.rows n row e2
        rw [hp] at h1; cases h1
        have := (Array.getElem?_eq_some_iff.1 h2).1
        omega
  · intro m b c' hb
    unfold addI at hb
    split at hb
    · rename_i e; exact .inr (.inl (by omega))
    · exact .inl hb
theorem run_toBytes' {σ : Sig} {I : Imm} {H : AHeap} {w : World} {nm : Name -> Prop} (hr : ARel σ I H w) {src dst e : TypeId} {s : ByteArray}
    (hs : P.underlying src = some .string) (hd : P.underlying dst = some (.slice e)) (he : isU8 (P.underlying e) = true) :
    ∃ v w' I', (convert src dst (.string s)).run P w = .ok v w' /\ Step nm σ I H w σ I' H w' /\ VRel σ I' (.im true s.size (s.data.toList.map fun b => .val (.int .u8 b.toNat))) v := by
  have he' := isU8_eq he
  have hds : s.data.size = s.size := rfl
  have hge := grownCap_ge w s.size 0 e
  have hcs : (Lib.bytesCells w e s).size = grownCap w s.size 0 e := by simp [Lib.bytesCells, hds]; omega
  have hseg : seg (Lib.bytesCells w e s) 0 (s.data.toList.map fun b => AV.val (.int .u8 b.toNat)).length = s.data.toList.map fun b => Value.int .u8 b.toNat := by
    simp only [seg, List.drop_zero, Lib.bytesCells, Array.toList_append, Array.toList_map, List.length_map]
    rw [List.take_left' (by simp)]
  have st := Step.addImm (nm := nm) (w' := Lib.bytesWorld w e s) hr (c := Lib.bytesCells w e s) (el := e) (fr := ((Lib.bytesCells w e s).size, (Lib.bytesCells w e s).size + 1))
    (fun i hi => Lib.bytesWorld_at_old w e s i hi) (Lib.bytesWorld_at_new w e s) (Lib.bytesWorld_size w e s) (by unfold Lib.bytesWorld World.freeze; split <;> rfl) (by unfold Lib.bytesWorld World.freeze; split <;> rfl) (by unfold Lib.bytesWorld World.freeze; split <;> rfl)
  have hv : ∀ I', VRels σ I' (s.data.toList.map fun b => AV.val (.int .u8 b.toNat)) (s.data.toList.map fun b => Value.int .u8 b.toNat) := by
    intro I'
    generalize s.data.toList = l
    induction l with
    | nil => exact .nil
    | cons b l ih => exact .cons (.val _) ih
  refine ⟨_, _, _, Lib.run_convert_string_bytes w src dst e s hs hd he', st, .im (c := Lib.bytesCells w e s) (by unfold addI; rw [if_pos ⟨rfl, rfl⟩]) ?_ hge⟩
  rw [hseg]
  exact hv _
theorem freeze_at (w : World) (b n : Nat) (c : Array Value) (el : TypeId) (fr : Nat × Nat) (hb : w.heap[b]? = some (.cells c el fr)) :
    (w.freeze ⟨b, n, none⟩ 1).heap[b]? = some (.cells c el (if fr.1 == fr.2 then (n, n + 1) else (min fr.1 n, max fr.2 (n + 1)))) := by
  obtain ⟨lo, hi⟩ := fr
  simp [World.freeze, Array.getElem?_modify, hb]
theorem freeze_ne (w : World) (b n k : Nat) (h : k ≠ b) : (w.freeze ⟨b, n, none⟩ 1).heap[k]? = w.heap[k]? := by
  simp [World.freeze, Array.getElem?_modify, Ne.symm h]
/-- A slice of bytes, converted to its own type. -/
theorem run_sameSlice' {σ : Sig} {I : Imm} {H : AHeap} {w : World} {nm : Name -> Prop} (hr : ARel σ I H w) {n : Name} {off len sz : Nat} {v : Value} (hx : VRel σ I (.sl n off len sz) v) {row : List AV} (hrow : H n = some row) (hle : off + len * sz <= row.length) {src e e' : TypeId}
    (hs : P.underlying src = some (.slice e)) (hs' : P.underlying src = some (.slice e')) (he : isU8 (P.underlying e') = true) :
    ∃ w' I', (convert src src v).run P w = .ok v w' /\ Step nm σ I H w σ I' (upd H n none) w' /\ VRel σ I' (.im true len ((row.drop off).take (len * sz))) v := by
  have he' := isU8_eq he
  rw [hs] at hs'; cases hs'
  cases hx with
  | @sl n off len sz cap p hp hl hcap =>
    obtain ⟨p', c, el, fr, hp', hb, ht, hf, hv⟩ := hr.rows n row hrow
    rw [hp] at hp'; cases hp'
    have hne : H n ≠ none := by rw [hrow]; simp
    have hsh : w.shape? p.b = some (el, c.size) := by simp [World.shape?, hb]
    have hat := freeze_at w p.b c.size c el fr hb
    have hdis : ∀ m, I m p.b = none := fun m => hr.dis n p m hne hp
    let I' : Imm := fun m b => if m = true /\ b = p.b then some c else I m b
    have hII : I.le I' := fun m b c' h => by
      show (if m = true /\ b = p.b then some c else I m b) = _
      by_cases e1 : b = p.b
      · subst e1; rw [hdis] at h; cases h
      · rw [if_neg (by rintro ⟨_, e⟩; exact e1 e)]; exact h
    have hI1 : I' true p.b = some c := if_pos ⟨rfl, rfl⟩
    have hother : ∀ n' p', upd H n none n' ≠ none -> σ n' = some p' -> H n' ≠ none /\ p'.b ≠ p.b := by
      intro n' q h1 h2
      have hnn : n' ≠ n := by rintro rfl; rw [upd_same] at h1; exact h1 rfl
      rw [upd_ne _ _ hnn] at h1
      exact ⟨h1, fun e => hnn (hr.inj n' n q p h1 hne h2 hp e)⟩
    refine ⟨w.freeze ⟨p.b, c.size, none⟩ 1, I', by simp [convert, run_underlying' w hs, run_underlying' w he', markStringish, hsh], ⟨⟨?_, ?_, ?_, ?_⟩, Sig.le_refl _, fun _ h h' => absurd h h', hII, ?_, ?_, rfl, rfl, rfl, by simp [World.freeze], ?_⟩, ?_⟩
    · intro n' row' hn'
      have hnn : n' ≠ n := by rintro rfl; rw [upd_same] at hn'; cases hn'
      rw [upd_ne _ _ hnn] at hn'
      obtain ⟨q, c', el', fr', hq, hb', ht', hf', hv'⟩ := hr.rows n' row' hn'
      have eb : q.b ≠ p.b := fun e => hnn (hr.inj n' n q p (by rw [hn']; simp) hne hq hp e)
      exact ⟨q, c', el', fr', hq, by rw [freeze_ne _ _ _ _ eb]; exact hb', ht', hf', hv'.mono (Sig.le_refl _) hII⟩
    · intro a b p1 p2 ha hb2 h1 h2 e
      exact hr.inj a b p1 p2 (hother a p1 ha h1).1 (hother b p2 hb2 h2).1 h1 h2 e
    · intro m b c' hc
      by_cases eb : b = p.b
      · subst eb
        have : c' = c := by
          simp only [I'] at hc
          split at hc
          · cases hc; rfl
          · rw [hdis] at hc; cases hc
        subst this
        exact ⟨el, _, hat⟩
      · have hc' : I m b = some c' := by
          simp only [I'] at hc
          rwa [if_neg (by rintro ⟨_, e⟩; exact eb e)] at hc
        obtain ⟨el', fr', hb'⟩ := hr.imm m b c' hc'
        exact ⟨el', fr', by rw [freeze_ne _ _ _ _ eb]; exact hb'⟩
    · intro n' q m h1 h2
      obtain ⟨h3, h4⟩ := hother n' q h1 h2
      show (if m = true /\ q.b = p.b then some c else I m q.b) = none
      rw [if_neg (by rintro ⟨_, e⟩; exact h4 e)]
      exact hr.dis n' q m h3 h2
    · intro m b c' hc
      by_cases eb : b = p.b
      · exact .inr (.inr ⟨n, p, hne, hp, eb.symm⟩)
      · simp only [I'] at hc
        rw [if_neg (by rintro ⟨_, e⟩; exact eb e)] at hc
        exact .inl hc
    · rintro b ⟨n', q, h1, h2, rfl⟩
      exact .inl ⟨n', q, (hother n' q h1 h2).1, h2, rfl⟩
    · intro b hb' ho
      refine freeze_ne _ _ _ _ ?_
      rintro rfl
      exact ho ⟨n, p, hne, hp, rfl⟩
    · have hlen : ((row.drop off).take (len * sz)).length = len * sz := by simp; omega
      refine .im hI1 ?_ hl
      rw [hlen]
      have h1 := (hv.drop off).take (len * sz)
      have e1 : ((seg c p.o row.length).drop off).take (len * sz) = seg c (p.o + off) (len * sz) := by
        simp only [seg, List.drop_take, List.drop_drop, List.take_take]
        congr 1
        omega
      rw [e1] at h1
      exact h1.mono (Sig.le_refl _) hII
end Go.Proofs.YtjinjfblilacaaaGreat.Den
end
section
namespace Go.Proofs.YtjinjfblilacaaaGreat.Den
variable {P : Program}
theorem run_binV {op : BinOp} {t : TypeId} {x y r : Value} (w : World) (h : binV op x y = some r) : (binOp op t x y).run P w = .ok r w := by
  unfold binV at h
  split at h
  all_goals first | (cases h; done) | skip
  all_goals (try (split at h <;> try (cases h; done)))
  all_goals (try (rename_i hk; first | (obtain ⟨rfl, hk⟩ := hk) | subst hk | skip))
  all_goals first
    | (simp at h; subst h; simp [binOp, Op.intArith, Op.intCmp, Op.intBits, Op.intDiv, Op.shift, Op.stringOp, Op.floatCmp, Op.complexOp, *]; done)
    | skip
  case h_15.isTrue => rename_i hk; cases h; simp [binOp, Op.shift, Int.not_lt.2 hk]
  case h_16.isTrue => rename_i hk; cases h; simp [binOp, Op.shift, Int.not_lt.2 hk]
  case h_17.isFalse => rename_i hk; cases h; simp only [binOp, Op.stringOp, if_neg hk, Sem.run_pure]
  case h_26.isTrue =>
    simp only [Option.map_eq_some_iff] at h
    obtain ⟨b, hb, rfl⟩ := h
    exact run_float_arith w _ _ _ _ _ _ hb
  case h_27.isTrue =>
    simp only [Option.map_eq_some_iff] at h
    obtain ⟨b, hb, rfl⟩ := h
    exact run_float_arith w _ _ _ _ _ _ hb
  case h_28.isTrue =>
    simp only [Option.map_eq_some_iff] at h
    obtain ⟨b, hb, rfl⟩ := h
    exact run_float_arith w _ _ _ _ _ _ hb
  case h_29.isTrue =>
    simp only [Option.map_eq_some_iff] at h
    obtain ⟨⟨x, y⟩, hb, rfl⟩ := h
    exact run_complex_sum w .add (.inl rfl) _ _ _ _ _ _ _ _ hb
  case h_30.isTrue => cases h; exact run_eql_complex w _ _ _ _ _ _
  case h_31.isTrue => cases h; exact run_neq_complex w _ _ _ _ _ _
theorem run_convV {src dst : TypeId} {x r : Value} (w : World) (h : convV P src dst x = some r) : (convert src dst x).run P w = .ok r w := by
  unfold convV at h
  split at h
  · rename_i d k q n hs hd
    cases h
    simp [convert, run_underlying' w hs, run_underlying' w hd, Conv.intToInt]
  · rename_i d k q n hs hd
    cases h
    simp [convert, run_underlying' w hs, run_underlying' w hd, Conv.intToFloat]
  · rename_i d k s b hs hd
    simp only [Option.map_eq_some_iff] at h
    obtain ⟨n, hn, rfl⟩ := h
    exact run_convert_float_int w src dst s k b n (by rw [hs]; rfl) hd hn
  · rename_i d s hs hd
    cases h
    simp [convert, run_underlying' w hs, run_underlying' w hd]
  · cases h
theorem guard_eql {t : TypeId} {x y : Operand} {u v r : Value} (w : World) (h : binV .eql u v = some r) : (eqGuard .eql t x y u v).run P w = .ok () w := by
  cases u <;> cases v <;> first | rfl | (simp [binV] at h)
theorem guard_neq {t : TypeId} {x y : Operand} {u v r : Value} (w : World) (h : binV .neq u v = some r) : (eqGuard .neq t x y u v).run P w = .ok () w := by
  cases u <;> cases v <;> first | rfl | (simp [binV] at h)
theorem toVal_rel {σ : Sig} {I : Imm} {a : AV} {v u : Value} (h : VRel σ I a v) (ha : a.toVal? = some u) : v = u := by
  cases h with
  | val v => simp [AV.toVal?] at ha; exact ha
  | @agg l arr hl =>
    simp only [AV.toVal?, Option.map_eq_some_iff] at ha
    obtain ⟨vs, hvs, rfl⟩ := ha
    congr 1
    have : arr.toList = vs := by
      generalize arr.toList = us at hl
      clear arr
      induction l generalizing us vs with
      | nil => cases hl; simp [allVals] at hvs; exact hvs.symm
      | cons a l ih =>
        cases hl with
        | cons h t =>
          cases h with
          | val v =>
            simp only [allVals, Option.map_eq_some_iff] at hvs
            obtain ⟨ws, hws, rfl⟩ := hvs
            rw [ih ws hws _ t]
          | _ => simp [allVals] at hvs
    rw [<- this]
  | _ => simp [AV.toVal?] at ha
theorem eqIn_ptr {t e : TypeId} (w : World) (d : Nat) (a : Addr) (hu : P.underlying t = some (.pointer e)) : (Op.equalIn (d + 1) t (.pointer (some a)) (.pointer none)).run P w = .ok false w := by simp [Op.equalIn, run_underlying' w hu]
theorem eqIn_slice {t e : TypeId} (w : World) (d : Nat) (a : Addr) (l c : Nat) (hu : P.underlying t = some (.slice e)) : (Op.equalIn (d + 1) t (.slice (some a) l c) (.slice none 0 0)).run P w = .ok false w := by simp [Op.equalIn, run_underlying' w hu]
theorem eqIn_func {t : TypeId} {ps rs : Array TypeId} {vr : Bool} (w : World) (d : Nat) (f : Fn) (l k : Array Value) (hu : P.underlying t = some (.func ps rs vr)) : (Op.equalIn (d + 1) t (.func f l k) .nilFunc).run P w = .ok false w := by simp [Op.equalIn, run_underlying' w hu]
theorem eq_ptr {t e : TypeId} (w : World) (a : Addr) (hu : P.underlying t = some (.pointer e)) : (Op.equal t (.pointer (some a)) (.pointer none)).run P w = .ok false w := eqIn_ptr w 9999 a hu
theorem eq_slice {t e : TypeId} (w : World) (a : Addr) (l c : Nat) (hu : P.underlying t = some (.slice e)) : (Op.equal t (.slice (some a) l c) (.slice none 0 0)).run P w = .ok false w := eqIn_slice w 9999 a l c hu
theorem eq_func {t : TypeId} {ps rs : Array TypeId} {vr : Bool} (w : World) (f : Fn) (l k : Array Value) (hu : P.underlying t = some (.func ps rs vr)) : (Op.equal t (.func f l k) .nilFunc).run P w = .ok false w := eqIn_func w 9999 f l k hu
theorem nil_rel {σ : Sig} {I : Imm} {a : AV} {v n : Value} {b : Bool} {t : TypeId} {x y : Operand} (w : World) (h : VRel σ I a v) (hb : a.nilEq n (P.underlying t) = some b) :
    (eqGuard .eql t x y v n).run P w = .ok () w /\ (eqGuard .neq t x y v n).run P w = .ok () w /\ (binOp .eql t v n).run P w = .ok (.bool b) w /\ (binOp .neq t v n).run P w = .ok (.bool !b) w := by
  unfold AV.nilEq at hb
  split at hb
  · rename_i m off e hu
    cases hb
    cases h
    refine ⟨rfl, rfl, ?_, ?_⟩ <;> simp [binOp, eq_ptr w _ hu]
  · rename_i m cs off e hu
    cases hb
    cases h
    refine ⟨rfl, rfl, ?_, ?_⟩ <;> simp [binOp, eq_ptr w _ hu]
  · rename_i m off len sz e hu
    cases hb
    cases h
    refine ⟨rfl, rfl, ?_, ?_⟩ <;> simp [binOp, eq_slice w _ _ _ hu]
  · rename_i m len cs e hu
    cases hb
    cases h
    refine ⟨rfl, rfl, ?_, ?_⟩ <;> simp [binOp, eq_slice w _ _ _ hu]
  · rename_i f l k ps rs vr hu
    cases hb
    cases h
    refine ⟨rfl, rfl, ?_, ?_⟩ <;> simp [binOp, eq_func w _ _ _ hu]
  · cases hb
theorem run_aeq {σ : Sig} {I : Imm} {neg : Bool} {t : TypeId} {x y : Operand} {a b r : AV} {u v : Value} (w : World) (ha : VRel σ I a u) (hb : VRel σ I b v) (h : aeq P neg t x y a b = some r) :
    ∃ q, (do eqGuard (if neg then .neq else .eql) t x y u v; binOp (if neg then .neq else .eql) t u v : Sem Value).run P w = .ok q w /\ VRel σ I r q := by
  unfold aeq at h
  split at h
  · cases ha
    cases hb
    split at h
    · rename_i q hq
      cases h
      refine ⟨q, ?_, .val _⟩
      cases neg with
      | true => simp only [if_true] at hq ⊢; simp [guard_neq w hq, run_binV w hq]
      | false => simp only [Bool.false_eq_true, if_false] at hq ⊢; simp [guard_eql w hq, run_binV w hq]
    · simp only [Option.map_eq_some_iff] at h
      obtain ⟨q, hq, rfl⟩ := h
      exact ⟨q, peek_run hq w, .val _⟩
  · split at h
    · rename_i u' v' hu hv
      obtain rfl := toVal_rel ha hu
      obtain rfl := toVal_rel hb hv
      simp only [Option.map_eq_some_iff] at h
      obtain ⟨q, hq, rfl⟩ := h
      exact ⟨q, peek_run hq w, .val _⟩
    · cases h
  · simp only [Option.map_eq_some_iff] at h
    obtain ⟨q, hq, rfl⟩ := h
    cases hb
    obtain ⟨g1, g2, h1, h2⟩ := nil_rel (P := P) (x := x) (y := y) w ha hq
    cases neg with
    | true => exact ⟨.bool (q != true), by simp [g2, h2], .val _⟩
    | false => exact ⟨.bool (q != false), by simp [g1, h1], .val _⟩
  · cases h
end Go.Proofs.YtjinjfblilacaaaGreat.Den
end
section
namespace Go.Proofs.YtjinjfblilacaaaGreat.Den
variable {P : Program}
def Under (nm : Name) (n : Name) : Prop := ∃ s, n = s ++ nm
/-- A call of a function is a step of the abstract memory. -/
def Sim (P : Program) (f : FuncId) (args : List AV) (nm : Name) (H : AHeap) (r : AV) (H' : AHeap) : Prop :=
  ∀ (σ : Sig) (I : Imm) (w : World) (vs : Array Value), Fresh nm σ -> VRels σ I args vs.toList -> ARel σ I H w ->
    Calls P f vs w fun e w' => ∃ v σ' I', e = .returned v /\ Step (Under nm) σ I H w σ' I' H' w' /\ VRel σ' I' r v
def isGo (P : Program) (f : FuncId) : Bool :=
  match P.funcs[f]? with
  | some fn => fn.body.isSome && !(fn.name == "runtime.NumGoroutine")
  | none => false
def CallOK (P : Program) (call : CallF) : Prop :=
  ∀ f args nm H r H', call f args nm H = some (r, H') -> isGo P f = true /\ Sim P f args nm H r H'
theorem val_wp {o : Oper} {a : Act} {w w' : World} {next : Act -> World -> Prop} {Q : Exit -> Act -> World -> Prop} {v : Value}
    (h : (execOp a.eval o).run P w = .ok (.value v) w') (k : next (a.put o.dst v) w') : o.wp P a w next Q := by
  simp only [Oper.wp, h, Oper.upon]; exact k
theorem vexec {s : Sem Value} {v : Value} {w w' : World} (h : s.run P w = .ok v w') : ((do pure (.value (<- s)) : Sem Next)).run P w = .ok (.value v) w' := by simp [h]
theorem skip_wp {o : Oper} {a : Act} {w w' : World} {next : Act -> World -> Prop} {Q : Exit -> Act -> World -> Prop}
    (h : (execOp a.eval o).run P w = .ok .skip w') (k : next (a.put o.dst undef) w') : o.wp P a w next Q := by
  simp only [Oper.wp, h, Oper.upon]; exact k
theorem env_rel {σ : Sig} {I : Imm} {T : Temps} {a : Act} (he : ∀ i, VRel σ I (T i) (a.tmps.getD i undef)) (x : Operand) : VRel σ I (env T x) (a.eval x) := by
  cases x with
  | tmp t => exact he t
  | const v => exact .val v
  | global g => exact .val _
  | func f => exact .fn .nil .nil
theorem args_rel {σ : Sig} {I : Imm} {ρ : Env} {ρc : Operand -> Value} (he : ∀ x, VRel σ I (ρ x) (ρc x)) : ∀ l : List Operand, VRels σ I (l.map ρ) (l.map ρc)
  | [] => .nil
  | x :: l => .cons (he x) (args_rel he l)
theorem opt_rel {σ : Sig} {I : Imm} {ρ : Env} {ρc : Operand -> Value} (he : ∀ x, VRel σ I (ρ x) (ρc x)) (l : Option Operand) :
    (l.map ρ = none /\ l.map ρc = none) \/ ∃ a v, l.map ρ = some a /\ l.map ρc = some v /\ VRel σ I a v := by
  cases l with
  | none => exact .inl ⟨rfl, rfl⟩
  | some x => exact .inr ⟨_, _, rfl, rfl, he x⟩
theorem run_min2 (w : World) (k k' : IntKind) (x y : Int) : (Builtin.min2 (.int k x) (.int k' y)).run P w = .ok (.int k (if y < x then y else x)) w := rfl
theorem run_max2 (w : World) (k k' : IntKind) (x y : Int) : (Builtin.max2 (.int k x) (.int k' y)).run P w = .ok (.int k (if x < y then y else x)) w := rfl
theorem builtin_wp {σ : Sig} {I : Imm} {H H' : AHeap} {w : World} (hr : ARel σ I H w) {nm : Name} (hf : Fresh nm σ) {b : Builtin} {ts : Array TypeId} {ty : TypeId} {cs : Array Bool} {args : List AV} {vs : List Value} {r : AV}
    (hv : VRels σ I args vs) (h : abuiltin P b ts args nm H = some (r, H')) :
    ∃ v w' σ', (builtin b ts ty cs vs.toArray).run P w = .ok (.value v) w' /\ Step (Under nm) σ I H w σ' I H' w' /\ VRel σ' I r v := by
  have hn : σ nm = none := hf []
  have hnm : Under nm nm := ⟨[], rfl⟩
  unfold abuiltin at h
  split at h
  · rename_i x
    cases hv with
    | cons hx ht =>
      cases ht
      cases e : ts[0]? with
      | none => simp [e] at h
      | some t =>
        simp only [e, Option.bind_some, Option.map_eq_some_iff] at h
        obtain ⟨q, hq, hh⟩ := h
        cases hh
        obtain ⟨u, h1, h2⟩ := run_len' (P := P) w ts ty e hx hq
        exact ⟨u, w, σ, by simp [builtin, h1], Step.refl _ hr, h2⟩
  · rename_i s x
    cases hv with
    | @cons _ sv _ _ hs ht =>
      cases ht with
      | @cons _ xv _ _ hx ht =>
        cases ht
        cases e : ts[0]? with
        | none => simp [e] at h
        | some t =>
          cases e2 : ts[1]? with
          | none => simp [e, e2] at h
          | some xt =>
            simp only [e, e2, Option.bind_some] at h
            obtain ⟨v, w', σ', h1, h2, h3⟩ := run_append' (P := P) (ty := ty) (nm := Under nm) hr hn hnm hs hx h
            refine ⟨v, w', σ', ?_, h2, h3⟩
            have : (Builtin.append_ ts ty #[sv, xv]).run P w = .ok v w' := by
              rw [<- h1]
              simp only [Builtin.append_, e, e2]
              rfl
            simp [builtin, this]
  · rename_i d x
    cases hv with
    | cons hd ht =>
      cases ht with
      | cons hx ht =>
        cases ht
        cases e : ts[0]? with
        | none => simp [e] at h
        | some t =>
          simp only [e, Option.bind_some] at h
          obtain ⟨v, w', h1, h2, h3⟩ := run_copy' (P := P) (ty := ty) (nm := Under nm) hr e hd hx h
          exact ⟨v, w', σ, by simp [builtin, h1], h2, h3⟩
  · cases h
    cases hv with
    | cons hx ht => cases hx; cases ht with
      | cons hy ht => cases hy; cases ht; exact ⟨_, w, σ, by simp [builtin, Builtin.min_, run_min2], Step.refl _ hr, .val _⟩
  · cases h
    cases hv with
    | cons hx ht => cases hx; cases ht with
      | cons hy ht => cases hy; cases ht; exact ⟨_, w, σ, by simp [builtin, Builtin.max_, run_max2], Step.refl _ hr, .val _⟩
  · split at h
    · rename_i hk
      subst hk
      cases h
      cases hv with
      | cons hx ht => cases hx; cases ht with
        | cons hy ht => cases hy; cases ht; exact ⟨_, w, σ, by simp [builtin, run_complex], Step.refl _ hr, .val _⟩
    · cases h
  · cases h
    cases hv with
    | cons hx ht => cases hx; cases ht; exact ⟨_, w, σ, by simp [builtin, run_real], Step.refl _ hr, .val _⟩
  · cases h
    cases hv with
    | cons hx ht => cases hx; cases ht; exact ⟨_, w, σ, by simp [builtin, run_imag], Step.refl _ hr, .val _⟩
  · cases h
theorem aop_wp {call : CallF} (hcall : CallOK P call) {o : Oper} {T : Temps} {a : Act} {σ : Sig} {I : Imm} {H H' : AHeap} {w : World} {r : AV} {nm : Name} (he : ∀ i, VRel σ I (T i) (a.tmps.getD i undef))
    (hr : ARel σ I H w) (hf : Fresh nm σ) (h : aop P call o (env T) nm H = some (r, H')) {next : Act -> World -> Prop} {Q : Exit -> Act -> World -> Prop}
    (k : ∀ v w' σ' I', Step (Under nm) σ I H w σ' I' H' w' -> VRel σ' I' r v -> next (a.put o.dst v) w') : o.wp P a w next Q := by
  have hen := env_rel he
  have hn : σ nm = none := hf []
  have hnm : Under nm nm := ⟨[], rfl⟩
  obtain ⟨dst, op, ty, pos, after, guard⟩ := o
  cases op with
  | move x => cases h; exact val_wp (by simp [execOp]) (k _ w σ I (Step.refl _ hr) (hen x))
  | assign x => cases h; exact val_wp (by simp [execOp]) (k _ w σ I (Step.refl _ hr) (hen x))
  | pick c x y =>
    simp only [aop] at h
    split at h
    · rename_i t ht
      have hc := hen c
      rw [ht] at hc
      generalize hcv : a.eval c = cv at hc
      cases hc
      cases h
      refine val_wp (v := if t then a.eval x else a.eval y) (by simp [execOp, hcv, asBool]) (k _ w σ I (Step.refl _ hr) ?_)
      cases t
      · exact hen y
      · exact hen x
    · cases h
  | alloc e =>
    simp only [aop, Option.map_eq_some_iff] at h
    obtain ⟨z, hz, hh⟩ := h
    cases hh
    obtain ⟨v, w', σ', h1, h2, h3⟩ := run_alloc' (P := P) (nm := Under nm) hr hn hnm hz
    exact val_wp (by simp [execOp, h1]) (k v w' σ' I h2 h3)
  | box e x =>
    cases h
    obtain ⟨v, w', σ', h1, h2, h3⟩ := run_box' (P := P) (nm := Under nm) (e := e) hr hn hnm (hen x)
    exact val_wp (by simp [execOp, h1]) (k v w' σ' I h2 h3)
  | build t parts =>
    simp only [aop] at h
    split at h
    · rename_i z fs hz hu
      cases hp : places P fs.toList with
      | none => simp [hp] at h
      | some ps =>
        simp only [hp, Option.bind_some, Option.map_eq_some_iff] at h
        obtain ⟨l, hl, hh⟩ := h
        cases hh
        obtain ⟨u, h1, h2⟩ := run_build_struct (P := P) w hen hz hu hp hl
        exact val_wp (by simp [execOp, h1]) (k u w σ I (Step.refl _ hr) h2)
    · rename_i z n e hz hu
      cases hs : szOf P e with
      | none => simp [hs] at h
      | some s =>
        simp only [hs, Option.bind_some, Option.map_eq_some_iff] at h
        obtain ⟨l, hl, hh⟩ := h
        cases hh
        obtain ⟨u, h1, h2⟩ := run_build_array (P := P) w hen hz hu hs hl
        exact val_wp (by simp [execOp, h1]) (k u w σ I (Step.refl _ hr) h2)
    · cases h
  | buildSlice t len parts =>
    simp only [aop] at h
    split at h
    · rename_i e hu
      split at h
      · rename_i s z hs hz
        split at h
        · rename_i hc
          simp only [Option.map_eq_some_iff] at h
          obtain ⟨l, hl, hh⟩ := h
          cases hh
          obtain ⟨v, w', σ', h1, h2, h3⟩ := run_buildSlice' (P := P) (nm := Under nm) hr hn hnm hen hu hs hz hc.1 hc.2.1 hc.2.2 hl
          exact val_wp (by simp [execOp, h1]) (k v w' σ' I h2 h3)
        · cases h
      · cases h
    · cases h
  | load t x =>
    simp only [aop, Option.map_eq_some_iff] at h
    obtain ⟨q, hq, hh⟩ := h
    cases hh
    obtain ⟨u, h1, h2⟩ := run_loadAt (P := P) hr (hen x) hq
    exact val_wp (by simp [execOp, h1]) (k u w σ I (Step.refl _ hr) h2)
  | store t x y =>
    simp only [aop, Option.map_eq_some_iff] at h
    obtain ⟨H1, hq, hh⟩ := h
    cases hh
    obtain ⟨w', h1, h2⟩ := run_storeAt (P := P) (nm := Under nm) hr (hen x) (hen y) hq
    exact skip_wp (by simp [execOp, h1]) (k undef w' σ I h2 (.val _))
  | nilCheck x =>
    simp only [aop] at h
    have hx := hen x
    split at h
    · rename_i n off hxe
      cases h
      rw [hxe] at hx
      generalize hv : a.eval x = v at hx
      have hx' := hx
      cases hx'
      exact val_wp (by simp [execOp, hv]) (k _ w σ I (Step.refl _ hr) hx)
    · rename_i m c off hxe
      cases h
      rw [hxe] at hx
      generalize hv : a.eval x = v at hx
      have hx' := hx
      cases hx'
      exact val_wp (by simp [execOp, hv]) (k _ w σ I (Step.refl _ hr) hx)
    · rename_i f l l' hxe
      cases h
      rw [hxe] at hx
      generalize hv : a.eval x = v at hx
      have hx' := hx
      cases hx'
      exact val_wp (by simp [execOp, hv]) (k _ w σ I (Step.refl _ hr) hx)
    · cases h
  | binOp op t x y ty2 =>
    have gen : ∀ (bop : BinOp), (∀ u v r, env T x = .val u -> env T y = .val v -> binV bop u v = some r -> (do eqGuard bop t x y u v; binOp bop t u v : Sem Value).run P w = .ok r w) -> (match env T x, env T y with | .val u, .val v => (binV bop u v).map (AV.val ·, H) | _, _ => none) = some (r, H') ->
        (Oper.mk dst (.binOp bop t x y ty2) ty pos after guard).wp P a w next Q := by
      intro bop hb hh
      have hx := hen x
      have hy := hen y
      split at hh
      · rename_i u v hu hv
        rw [hu] at hx
        rw [hv] at hy
        generalize hxe : a.eval x = xv at hx
        generalize hye : a.eval y = yv at hy
        cases hx
        cases hy
        simp only [Option.map_eq_some_iff] at hh
        obtain ⟨q, hq, hh⟩ := hh
        cases hh
        have := hb u v q hu hv hq
        rw [<- hxe, <- hye] at this
        exact val_wp (v := q) (vexec this) (k _ w σ I (Step.refl _ hr) (.val _))
      · cases hh
    have gen2 : ∀ (bop : BinOp), bop ≠ .eql -> bop ≠ .neq -> ∀ u v r, env T x = .val u -> env T y = .val v -> binV bop u v = some r -> (do eqGuard bop t x y u v; binOp bop t u v : Sem Value).run P w = .ok r w := by
      intro bop h1 h2 u v r _ _ hb
      have hg : eqGuard bop t x y u v = pure () := by
        cases bop <;> first | exact absurd rfl h1 | exact absurd rfl h2 | rfl
      simp [hg, run_binV w hb]
    cases op <;> first
      | exact gen _ (gen2 _ (by simp) (by simp)) h
      | skip
    · simp only [aop, Option.map_eq_some_iff] at h
      obtain ⟨q, hq, hh⟩ := h
      cases hh
      obtain ⟨u, h1, h2⟩ := run_aeq (P := P) w (hen x) (hen y) hq
      exact val_wp (v := u) (vexec h1) (k u w σ I (Step.refl _ hr) h2)
    · simp only [aop, Option.map_eq_some_iff] at h
      obtain ⟨q, hq, hh⟩ := h
      cases hh
      obtain ⟨u, h1, h2⟩ := run_aeq (P := P) w (hen x) (hen y) hq
      exact val_wp (v := u) (vexec h1) (k u w σ I (Step.refl _ hr) h2)
  | unOp op t x =>
    have hx := hen x
    cases op with
    | not =>
      simp only [aop] at h
      split at h
      · rename_i b hb
        rw [hb] at hx
        generalize hv : a.eval x = v at hx
        cases hx
        cases h
        exact val_wp (v := .bool !b) (by simp [execOp, hv, Op.unary]) (k _ w σ I (Step.refl _ hr) (.val _))
      · cases h
    | neg =>
      simp only [aop] at h
      split at h
      · rename_i kd n hb
        rw [hb] at hx
        generalize hv : a.eval x = v at hx
        cases hx
        cases h
        exact val_wp (v := .int kd (kd.wrap (0 - n))) (by simp [execOp, hv, Op.unary, Op.intArith]) (k _ w σ I (Step.refl _ hr) (.val _))
      · cases h
    | xor =>
      simp only [aop] at h
      split at h
      · rename_i kd n hb
        rw [hb] at hx
        generalize hv : a.eval x = v at hx
        cases hx
        cases h
        exact val_wp (v := .int kd (kd.wrap ((BitVec.ofInt kd.bits (if kd.signed then -1 else kd.max) ^^^ BitVec.ofInt kd.bits n).toNat))) (vexec (by simp [hv, Op.unary, Op.intBits])) (k _ w σ I (Step.refl _ hr) (.val _))
      · cases h
    | _ => simp [aop] at h
  | convert src dst' x =>
    have hx := hen x
    simp only [aop] at h
    split at h
    · rename_i s hs
      rw [hs] at hx
      generalize hv : a.eval x = v at hx
      cases hx
      split at h
      · rename_i e h1 h2
        split at h
        · rename_i hu
          cases h
          obtain ⟨v, w', I', g1, g2, g3⟩ := run_toBytes' (P := P) (nm := Under nm) hr (s := s) h1 h2 hu
          exact val_wp (vexec (by rw [hv]; exact g1)) (k v w' σ I' g2 g3)
        · cases h
      · simp only [Option.map_eq_some_iff] at h
        obtain ⟨q, hq, hh⟩ := h
        cases hh
        exact val_wp (vexec (by rw [hv]; exact run_convV w hq)) (k _ w σ I (Step.refl _ hr) (.val _))
    · rename_i l c hs
      rw [hs] at hx
      generalize hv : a.eval x = v at hx
      cases hx
      split at h
      · rename_i e h1 h2
        split at h
        · rename_i hu
          cases h
          exact val_wp (vexec (by rw [hv]; exact run_convert_bytes_nil (P := P) w src e h1 (isU8_eq hu) _ _ dst' h2)) (k _ w σ I (Step.refl _ hr) (.val _))
        · cases h
      · cases h
    · rename_i u hns hnn hs
      rw [hs] at hx
      generalize hv : a.eval x = v at hx
      cases hx
      simp only [Option.map_eq_some_iff] at h
      obtain ⟨q, hq, hh⟩ := h
      cases hh
      exact val_wp (vexec (by rw [hv]; exact run_convV w hq)) (k _ w σ I (Step.refl _ hr) (.val _))
    · rename_i _ _ hnv
      split at h
      · rename_i e h1 h2
        split at h
        · rename_i hu
          cases hc : srcCells H 1 (env T x) with
          | none => simp [hc] at h
          | some kc =>
            obtain ⟨kk, cells⟩ := kc
            simp only [hc, Option.bind_some, Option.map_eq_some_iff] at h
            obtain ⟨l, hl, hh⟩ := h
            cases hh
            exact val_wp (vexec (run_toText' (P := P) hr hx h1 h2 hu hc hl (fun y hy => hnv y hy))) (k _ w σ I (Step.refl _ hr) (.val _))
        · cases h
      · rename_i e e' h1 h2
        split at h
        · rename_i n off len sz hs
          cases hH : H n with
          | none => rw [hH] at h; cases h
          | some row =>
            rw [hH] at h
            simp only [Option.bind_some] at h
            split at h
            · rename_i hc
              obtain ⟨rfl, hu, hle⟩ := hc
              cases h
              obtain ⟨w', I', g1, g2, g3⟩ := run_sameSlice' (P := P) (nm := Under nm) hr (hs ▸ hx) hH hle h1 h2 hu
              exact val_wp (vexec g1) (k _ w' σ I' g2 g3)
            · cases h
        · cases h
      · cases h
  | makeFunc fn first captured =>
    cases h
    refine val_wp (v := .func fn (first.map a.eval) (captured.map a.eval)) (by simp [execOp, Instr.makeFunc]) (k _ w σ I (Step.refl _ hr) (.fn ?_ ?_))
    · simpa using args_rel hen first.toList
    · simpa using args_rel hen captured.toList
  | makeSlice t l c =>
    simp only [aop] at h
    split at h
    · rename_i e ln cn hu hl hc
      split at h
      · rename_i s z by_ hs hz hb
        split at h
        · rename_i hcond
          cases h
          obtain ⟨kl, hkl⟩ := natOf_rel (hen l) hl
          obtain ⟨kc, hkc⟩ := natOf_rel (hen c) hc
          obtain ⟨v, w', σ', h1, h2, h3⟩ := run_makeSlice' (P := P) (nm := Under nm) (kl := kl) (kc := kc) hr hn hnm hu hs hz hb hcond.1 hcond.2.1 hcond.2.2.1 hcond.2.2.2.1 hcond.2.2.2.2
          exact val_wp (vexec (by rw [hkl, hkc]; exact h1)) (k v w' σ' I h2 h3)
        · cases h
      · cases h
    · cases h
  | slice t x lo hi mx =>
    cases mx with
    | some m => simp [aop] at h
    | none =>
      simp only [aop, Option.map_eq_some_iff] at h
      obtain ⟨q, hq, hh⟩ := h
      cases hh
      obtain ⟨u, h1, h2⟩ := run_slice' (P := P) w hr (hen x) (opt_rel hen lo) (opt_rel hen hi) hq
      exact val_wp (vexec (by simpa using h1)) (k u w σ I (Step.refl _ hr) h2)
  | fieldAddr s x f =>
    simp only [aop, Option.map_eq_some_iff] at h
    obtain ⟨q, hq, hh⟩ := h
    cases hh
    obtain ⟨u, h1, h2⟩ := run_fieldAt' (P := P) w (hen x) hq
    exact val_wp (vexec h1) (k u w σ I (Step.refl _ hr) h2)
  | field t x f =>
    simp only [aop] at h
    split at h
    · rename_i fs l hu hl
      cases hf : fs[f]? with
      | none => simp [hf] at h
      | some fl =>
        simp only [hf, Option.bind_some, Option.map_eq_some_iff] at h
        obtain ⟨q, hq, hh⟩ := h
        cases hh
        have hx := hen x
        rw [hl] at hx
        obtain ⟨u, h1, h2⟩ := run_field' (P := P) w hu hx hf hq
        exact val_wp (vexec h1) (k u w σ I (Step.refl _ hr) h2)
    · cases h
  | indexAddr t x i =>
    simp only [aop, Option.map_eq_some_iff] at h
    obtain ⟨q, hq, hh⟩ := h
    cases hh
    obtain ⟨u, h1, h2⟩ := run_indexAt' (P := P) w (hen x) (hen i) hq
    exact val_wp (vexec h1) (k u w σ I (Step.refl _ hr) h2)
  | index t x i =>
    simp only [aop, Option.map_eq_some_iff] at h
    obtain ⟨q, hq, hh⟩ := h
    cases hh
    obtain ⟨u, h1, h2⟩ := run_index' (P := P) w (hen x) (hen i) hq
    exact val_wp (vexec h1) (k u w σ I (Step.refl _ hr) h2)
  | extract x i =>
    simp only [aop] at h
    split at h
    · rename_i l hl
      simp only [Option.map_eq_some_iff] at h
      obtain ⟨q, hq, hh⟩ := h
      cases hh
      have hx := hen x
      rw [hl] at hx
      obtain ⟨u, h1, h2⟩ := run_extract' (P := P) w hx hq
      exact val_wp (vexec h1) (k u w σ I (Step.refl _ hr) h2)
    · cases h
  | call c =>
    simp only [aop] at h
    split at h
    · rename_i b hb
      obtain ⟨v, w', σ', h1, h2, h3⟩ := builtin_wp (P := P) (ty := ty) (cs := c.args.map fun | .const _ => true | _ => false) hr hf (args_rel hen c.args.toList) h
      refine val_wp ?_ (k v w' σ' I h2 h3)
      have e1 : (c.args.toList.map a.eval).toArray = c.args.map a.eval := by apply Array.ext'; simp
      rw [e1] at h1
      simp only [execOp, resolve, hb, Sem.run_bind, Sem.run_pure, Result.andThen_ok, invoke]
      exact h1
    · rename_i f hfv
      unfold acall at h
      split at h
      · rename_i g first captured hg
        have hx := hen f
        rw [hg] at hx
        generalize hv : a.eval f = v at hx
        cases hx with
        | @fn _ _ _ fa ca h1 h2 =>
          obtain ⟨hgo, hsim⟩ := hcall _ _ _ _ _ _ h
          unfold isGo at hgo
          split at hgo
          · rename_i fn hfn
            simp only [Bool.and_eq_true, Bool.not_eq_true'] at hgo
            have hex : (execOp a.eval ⟨dst, .call c, ty, pos, after, guard⟩).run P w = .ok (.enter g (fa ++ c.args.map a.eval ++ ca)) w := by
              have hbn : fn.body.isNone = false := by cases e : fn.body <;> simp_all
              have hname : ¬ fn.name = "runtime.NumGoroutine" := by simpa using hgo.2
              simp [execOp, resolve, hfv, hv, Deferred.ofValue, invoke, callFunc, hfn, hname]
              intro hnone
              rw [hnone] at hbn; cases hbn
            unfold Oper.wp
            rw [hex]
            simp only [Oper.upon]
            refine (hsim σ I w _ hf ?_ hr).mono ?_
            · simp only [Array.toList_append, Array.toList_map]
              exact (h1.append (args_rel hen _)).append h2
            · rintro e w' ⟨v, σ', I', rfl, st, hv'⟩
              exact k v w' σ' I' st hv'
          · cases hgo
      · cases h
    · cases h
  | _ => simp [aop] at h
end Go.Proofs.YtjinjfblilacaaaGreat.Den
end
section
namespace Go.Proofs.YtjinjfblilacaaaGreat.Den
variable {P : Program}
/-- The world and the frame are as the abstract memory and the abstract temporaries say. -/
structure St (ds : List Deferred) (p : Name) (c n : Nat) (σ : Sig) (I : Imm) (T : Temps) (H : AHeap) (a : Act) (w : World) : Prop where
  tr : ∀ i, VRel σ I (T i) (a.tmps.getD i undef)
  size : a.tmps.size = n
  defers : a.defers = ds
  rel : ARel σ I H w
  fresh : FreshFrom p c σ
theorem tail_eq {s s' : List Nat} {j k : Nat} {p : Name} (h : s ++ (j :: p) = s' ++ (k :: p)) : j = k := by
  have h1 : (s ++ [j]) ++ p = (s' ++ [k]) ++ p := by simpa using h
  have h2 := List.append_cancel_right h1
  have h3 := congrArg List.getLast? h2
  simpa using h3
theorem FreshFrom.here {p : Name} {c : Nat} {σ : Sig} (h : FreshFrom p c σ) (k : Nat) (hk : c <= k) : Fresh (k :: p) σ := fun s => h k s hk
theorem FreshFrom.mono {p : Name} {c c' : Nat} {σ : Sig} (h : FreshFrom p c σ) (hc : c <= c') : FreshFrom p c' σ := fun j s hj => h j s (Nat.le_trans hc hj)
theorem FreshFrom.step {p : Name} {k : Nat} {σ σ' : Sig} {I I' : Imm} {H H' : AHeap} {w w' : World} (h : FreshFrom p k σ) (st : Step (Under (k :: p)) σ I H w σ' I' H' w') : FreshFrom p (k + 1) σ' := by
  intro j s hj
  cases e : σ' (s ++ (j :: p)) with
  | none => rfl
  | some x =>
    obtain ⟨s', hs'⟩ := st.new _ (h j s (by omega)) (by rw [e]; simp)
    have := tail_eq hs'
    omega
theorem under_cons {k : Nat} {p n : Name} (h : Under (k :: p) n) : Under p n := by
  obtain ⟨s, rfl⟩ := h
  exact ⟨s ++ [k], by simp⟩
/-- What code does, said of the abstract memory alone. -/
def AWP (P : Program) (p : Name) (n : Nat) (code : Code) (Q : Exit -> Nat -> Temps -> AHeap -> Prop) (c : Nat) (T : Temps) (H : AHeap) : Prop :=
  ∀ (ds : List Deferred) (σ : Sig) (I : Imm) (a : Act) (w : World) (Q' : Exit -> Act -> World -> Prop), St ds p c n σ I T H a w ->
    (∀ e c' T' H' σ' I' a' w', Q e c' T' H' -> Step (Under p) σ I H w σ' I' H' w' -> St ds p c' n σ' I' T' H' a' w' -> Q' e a' w') -> code.wp P Q' a w
def onNormal (K : Nat -> Temps -> AHeap -> Prop) (Q : Exit -> Nat -> Temps -> AHeap -> Prop) : Exit -> Nat -> Temps -> AHeap -> Prop
  | .normal, c, T, H => K c T H
  | e, c, T, H => Q e c T H
def onExit (id : Nat) (Q : Exit -> Nat -> Temps -> AHeap -> Prop) : Exit -> Nat -> Temps -> AHeap -> Prop
  | .exit id', c, T, H => if id' = id then Q .normal c T H else Q (.exit id') c T H
  | e, c, T, H => Q e c T H
def onGoto (l : Nat) (K : Nat -> Temps -> AHeap -> Prop) (Q : Exit -> Nat -> Temps -> AHeap -> Prop) : Exit -> Nat -> Temps -> AHeap -> Prop
  | .goto l', c, T, H => l' = l /\ K c T H
  | e, c, T, H => Q e c T H
section rules
variable {p : Name} {n : Nat} {Q : Exit -> Nat -> Temps -> AHeap -> Prop} {c : Nat} {T : Temps} {H : AHeap}
theorem AWP.mono {code : Code} {Q₂ : Exit -> Nat -> Temps -> AHeap -> Prop} (h : AWP P p n code Q c T H) (hq : ∀ e c T H, Q e c T H -> Q₂ e c T H) : AWP P p n code Q₂ c T H :=
  fun ds σ I a w Q' st k => h ds σ I a w Q' st fun e c' T' H' σ' I' a' w' hQ => k e c' T' H' σ' I' a' w' (hq _ _ _ _ hQ)
theorem AWP.skip (h : Q .normal c T H) : AWP P p n .skip Q c T H := fun _ _ _ _ _ _ st k => wp_skip (k _ _ _ _ _ _ _ _ h (Step.refl _ st.rel) st)
theorem AWP.label {l : Nat} (h : Q .normal c T H) : AWP P p n (.label l) Q c T H := fun _ _ _ _ _ _ st k => wp_label (k _ _ _ _ _ _ _ _ h (Step.refl _ st.rel) st)
theorem AWP.exit {id : Nat} (h : Q (.exit id) c T H) : AWP P p n (.exit id) Q c T H := fun _ _ _ _ _ _ st k => wp_exit (k _ _ _ _ _ _ _ _ h (Step.refl _ st.rel) st)
theorem AWP.goto {l : Nat} (h : Q (.goto l) c T H) : AWP P p n (.goto l) Q c T H := fun _ _ _ _ _ _ st k => wp_goto (k _ _ _ _ _ _ _ _ h (Step.refl _ st.rel) st)
theorem AWP.ret (h : Q .ret c T H) : AWP P p n .ret Q c T H := fun _ _ _ _ _ _ st k => wp_ret (k _ _ _ _ _ _ _ _ h (Step.refl _ st.rel) st)
theorem AWP.seq {x y : Code} (h : AWP P p n x (onNormal (AWP P p n y Q) Q) c T H) : AWP P p n (.seq x y) Q c T H := by
  intro ds σ I a w Q' st k
  refine wp_seq (h ds σ I a w _ st ?_)
  intro e c' T' H' σ' I' a' w' hQ hs st'
  cases e with
  | normal => exact hQ ds σ' I' a' w' Q' st' fun e c₂ T₂ H₂ σ₂ I₂ a₂ w₂ hQ₂ hs₂ st₂ => k e c₂ T₂ H₂ σ₂ I₂ a₂ w₂ hQ₂ (hs.trans hs₂) st₂
  | _ => exact k _ _ _ _ _ _ _ _ hQ hs st'
theorem AWP.cond {x : Operand} {y z : Code} {b : Bool} (hx : env T x = .val (.bool b)) (h : AWP P p n (if b then y else z) Q c T H) : AWP P p n (.cond x y z) Q c T H := by
  intro ds σ I a w Q' st k
  have hv := env_rel st.tr x
  rw [hx] at hv
  have : a.eval x = .bool b := by
    generalize a.eval x = v at hv
    cases hv; rfl
  exact wp_cond this (h ds σ I a w Q' st k)
theorem AWP.block {id : Nat} {x : Code} (h : AWP P p n x (onExit id Q) c T H) : AWP P p n (.block id x) Q c T H := by
  intro ds σ I a w Q' st k
  refine wp_block (h ds σ I a w _ st ?_)
  intro e c' T' H' σ' I' a' w' hQ hs st'
  cases e with
  | exit id' =>
    simp only [onExit] at hQ
    simp only [Exit.inBlock]
    split at hQ
    · rename_i e1
      rw [if_pos e1]; exact k _ _ _ _ _ _ _ _ hQ hs st'
    · rename_i e1
      rw [if_neg e1]; exact k _ _ _ _ _ _ _ _ hQ hs st'
  | _ => exact k _ _ _ _ _ _ _ _ hQ hs st'
theorem AWP.loop {x : Code} (Inv : Nat -> Nat -> Temps -> AHeap -> Prop) (m : Nat) (h0 : Inv m c T H)
    (round : ∀ m c T H, Inv m c T H -> AWP P p n x (onNormal (fun c' T' H' => ∃ m', m' < m /\ Inv m' c' T' H') Q) c T H) : AWP P p n (.loop x) Q c T H := by
  intro ds σ I a w Q' st k
  refine wp_loop_ghost (fun m a' w' => ∃ c' T' H' σ' I', Inv m c' T' H' /\ Step (Under p) σ I H w σ' I' H' w' /\ St ds p c' n σ' I' T' H' a' w') m ⟨c, T, H, σ, I, h0, Step.refl _ st.rel, st⟩ ?_
  rintro m a₁ w₁ ⟨c₁, T₁, H₁, σ₁, I₁, hI, hs₁, st₁⟩
  refine round m c₁ T₁ H₁ hI ds σ₁ I₁ a₁ w₁ _ st₁ ?_
  intro e c' T' H' σ' I' a' w' hQ hs st'
  cases e with
  | normal =>
    obtain ⟨m', hm, hI'⟩ := hQ
    exact ⟨m', hm, c', T', H', σ', I', hI', hs₁.trans hs, st'⟩
  | _ => exact k _ _ _ _ _ _ _ _ hQ (hs₁.trans hs) st'
theorem AWP.scope {x rest : Code} (l : Nat) (Inv : Nat -> Nat -> Temps -> AHeap -> Prop) (hf : findLabel x l = some rest)
    (first : AWP P p n x (onGoto l (fun c' T' H' => ∃ m, Inv m c' T' H') Q) c T H)
    (pass : ∀ m c T H, Inv m c T H -> AWP P p n rest (onGoto l (fun c' T' H' => ∃ m', m' < m /\ Inv m' c' T' H') Q) c T H) : AWP P p n (.scope x) Q c T H := by
  intro ds σ I a w Q' st k
  let R : Nat -> Act -> World -> Prop := fun m a' w' => ∃ c' T' H' σ' I', Inv m c' T' H' /\ Step (Under p) σ I H w σ' I' H' w' /\ St ds p c' n σ' I' T' H' a' w'
  refine wp_scope_jumps l (fun a' w' => ∃ m, R m a' w') (fun a' w' => leastOf fun m => R m a' w') hf ?_ ?_
  · refine first ds σ I a w _ st ?_
    intro e c' T' H' σ' I' a' w' hQ hs st'
    cases e with
    | goto l' =>
      obtain ⟨rfl, m, hI⟩ := hQ
      exact ⟨rfl, m, c', T', H', σ', I', hI, hs, st'⟩
    | _ => exact k _ _ _ _ _ _ _ _ hQ hs st'
  · intro a₁ w₁ hJ
    obtain ⟨hR, _⟩ := leastOf_spec hJ
    generalize (leastOf fun m => R m a₁ w₁) = m at *
    obtain ⟨c₁, T₁, H₁, σ₁, I₁, hI, hs₁, st₁⟩ := hR
    refine pass m c₁ T₁ H₁ hI ds σ₁ I₁ a₁ w₁ _ st₁ ?_
    intro e c' T' H' σ' I' a' w' hQ hs st'
    cases e with
    | goto l' =>
      obtain ⟨rfl, m', hm, hI'⟩ := hQ
      have hR' : R m' a' w' := ⟨c', T', H', σ', I', hI', hs₁.trans hs, st'⟩
      exact ⟨rfl, ⟨m', hR'⟩, Nat.lt_of_le_of_lt ((leastOf_spec ⟨m', hR'⟩).2 m' hR') hm⟩
    | _ => exact k _ _ _ _ _ _ _ _ hQ (hs₁.trans hs) st'
/-- What is not known of the temporaries may be forgotten. -/
theorem AWP.forget {code : Code} (S : List Nat) (h : ∀ T' : Temps, (∀ i ∈ S, T' i = T i) -> AWP P p n code Q c T' H) : AWP P p n code Q c T H := h T fun _ _ => rfl
end rules
/-! ### a region in the order of the text -/
def ayielded (ops : Array Oper) (T : Temps) (j : Nat) : Option Bool :=
  match (ops[j]?).bind (·.dst) with
  | some d =>
    match T d with
    | .val (.bool b) => some b
    | _ => none
  | none => none
def awanted (ops : Array Oper) (o : Oper) (T : Temps) : Bool :=
  match o.guard with
  | none => true
  | some (j, want) => ayielded ops T j == some want
def runList (P : Program) (call : CallF) (ops : Array Oper) (p : Name) (c : Nat) : List Nat -> Temps -> AHeap -> Option (Temps × AHeap)
  | [], T, H => some (T, H)
  | i :: r, T, H =>
    match ops[i]? with
    | none => none
    | some o =>
      if awanted ops o T then
        match aop P call o (env T) ((c + i) :: p) H with
        | some (v, H') => runList P call ops p c r (tput T o.dst v) H'
        | none => none
      else runList P call ops p c r (tput T o.dst (.val undef)) H
/-- Every operation writes a temporary of the frame. -/
def dstOk (n : Nat) (ops : Array Oper) : Bool := ops.toList.all fun o => match o.dst with | some d => Nat.blt d n | none => true
theorem dstOk_at {n : Nat} {ops : Array Oper} (h : dstOk n ops = true) {i : Nat} {o : Oper} (ho : ops[i]? = some o) : ∀ d, o.dst = some d -> d < n := by
  intro d hd
  unfold dstOk at h
  have hm : o ∈ ops.toList := by
    obtain ⟨hi, rfl⟩ := Array.getElem?_eq_some_iff.1 ho
    exact Array.mem_toList_iff.2 (Array.getElem_mem hi)
  have := (List.all_eq_true.1 h) o hm
  rw [hd] at this
  exact Nat.le_of_ble_eq_true this
theorem put_rel {σ : Sig} {I : Imm} {T : Temps} {a : Act} {n : Nat} (he : ∀ i, VRel σ I (T i) (a.tmps.getD i undef)) (hs : a.tmps.size = n) {d : Option Tmp} (hd : ∀ k, d = some k -> k < n) {r : AV} {v : Value} (hv : VRel σ I r v) :
    (∀ i, VRel σ I (tput T d r i) ((a.put d v).tmps.getD i undef)) /\ (a.put d v).tmps.size = n /\ (a.put d v).defers = a.defers := by
  cases d with
  | none => exact ⟨he, hs, rfl⟩
  | some k =>
    have hk := hd k rfl
    refine ⟨?_, by simp [Act.put, hs], rfl⟩
    intro i
    by_cases e : i = k
    · subst e
      have : (a.put (some i) v).tmps.getD i undef = v := by
        simp [Act.put, Array.getD_eq_getD_getElem?, hs, hk]
      rw [this]
      simpa [tput, tset] using hv
    · have : (a.put (some k) v).tmps.getD i undef = a.tmps.getD i undef := by
        simp [Act.put, Array.getD_eq_getD_getElem?, Ne.symm e]
      rw [this]
      simpa [tput, tset, e] using he i
theorem yielded_rel {σ : Sig} {I : Imm} {T : Temps} {a : Act} {n : Nat} (he : ∀ i, VRel σ I (T i) (a.tmps.getD i undef)) (hs : a.tmps.size = n) {ops : Array Oper} (hd : dstOk n ops = true) (j : Nat) :
    yielded ops a.tmps j = ayielded ops T j := by
  unfold yielded ayielded
  cases e : ops[j]? with
  | none => rfl
  | some o =>
    simp only [Option.bind_some]
    cases e2 : o.dst with
    | none => rfl
    | some d =>
      have hlt := dstOk_at hd e d e2
      have hv := he d
      have hg : a.tmps[d]? = some (a.tmps.getD d undef) := by
        have : d < a.tmps.size := Nat.lt_of_lt_of_eq hlt hs.symm
        simp [Array.getD_eq_getD_getElem?, Array.getElem?_eq_getElem this]
      simp only [Option.bind_some, hg]
      generalize a.tmps.getD d undef = v at hv
      generalize T d = x at hv
      cases hv <;> first | rfl | (cases v <;> rfl)
theorem wanted_rel {σ : Sig} {I : Imm} {T : Temps} {a : Act} {n : Nat} (he : ∀ i, VRel σ I (T i) (a.tmps.getD i undef)) (hs : a.tmps.size = n) {ops : Array Oper} (hd : dstOk n ops = true) (o : Oper) :
    Region.wanted o (yielded ops a.tmps) = awanted ops o T := by
  unfold Region.wanted awanted
  split
  · rename_i h; rw [h]
  · rename_i j want h; rw [h]; simp only [yielded_rel he hs hd]
theorem runList_wp {ds : List Deferred} {call : CallF} (hcall : CallOK P call) {ops : Array Oper} {p : Name} {c n : Nat} (hd : dstOk n ops = true) {Q : Exit -> Act -> World -> Prop} : ∀ (l : List Nat) (k : Nat) (T T' : Temps) (H H' : AHeap) (σ : Sig) (I : Imm) (a : Act) (w : World),
    l = List.range' k l.length -> St ds p (c + k) n σ I T H a w -> runList P call ops p c l T H = some (T', H') ->
    (∀ σ' I' a' w', Step (Under p) σ I H w σ' I' H' w' -> St ds p (c + k + l.length) n σ' I' T' H' a' w' -> Q .normal a' w') -> wpOps P ops Q l a w
  | [], k, T, T', H, H', σ, I, a, w, _, st, h, hk => by
    simp only [runList, Option.some.injEq, Prod.mk.injEq] at h
    obtain ⟨rfl, rfl⟩ := h
    exact hk σ I a w (Step.refl _ st.rel) (by simpa using st)
  | i :: l, k, T, T', H, H', σ, I, a, w, hl, st, h, hk => by
    rw [List.length_cons, List.range'_succ] at hl
    injection hl with hi hl
    subst hi
    simp only [runList] at h
    simp only [wpOps]
    cases ho : ops[i]? with
    | none => simp [ho] at h
    | some o =>
      simp only [ho] at h ⊢
      have hdo := dstOk_at hd ho
      rw [wanted_rel st.tr st.size hd o]
      by_cases hw : awanted ops o T = true
      · rw [if_pos hw] at h ⊢
        cases e : aop P call o (env T) ((c + i) :: p) H with
        | none => simp [e] at h
        | some x =>
          obtain ⟨r, H₁⟩ := x
          simp only [e] at h
          refine .inl (aop_wp hcall st.tr st.rel (st.fresh.here _ (Nat.le_refl _)) e ?_)
          intro v w₁ σ₁ I₁ hs₁ hv
          obtain ⟨h1, h2, h3⟩ := put_rel (fun i => (st.tr i).mono hs₁.sig hs₁.imm) st.size hdo hv
          refine runList_wp hcall hd l (i + 1) _ T' H₁ H' σ₁ I₁ _ w₁ hl ⟨h1, h2, h3.trans st.defers, hs₁.rel, ?_⟩ h ?_
          · have := st.fresh.step hs₁
            rwa [Nat.add_assoc] at this
          · intro σ' I' a' w' hs' st'
            exact hk σ' I' a' w' ((hs₁.weaken fun _ => under_cons).trans hs') (by rw [List.length_cons, show c + i + (l.length + 1) = c + (i + 1) + l.length from by omega]; exact st')
      · rw [if_neg hw] at h ⊢
        obtain ⟨h1, h2, h3⟩ := put_rel (d := o.dst) st.tr st.size hdo (VRel.val undef)
        refine runList_wp hcall hd l (i + 1) _ T' H H' σ I _ w hl ⟨h1, h2, h3.trans st.defers, st.rel, st.fresh.mono (by omega)⟩ h ?_
        intro σ' I' a' w' hs' st'
        exact hk σ' I' a' w' hs' (by rw [List.length_cons, show c + i + (l.length + 1) = c + (i + 1) + l.length from by omega]; exact st')
theorem AWP.region {call : CallF} (hcall : CallOK P call) {p : Name} {n id : Nat} {ops : Array Oper} {Q : Exit -> Nat -> Temps -> AHeap -> Prop} {c : Nat} {T T' : Temps} {H H' : AHeap} (hd : dstOk n ops = true)
    (h : runList P call ops p c (List.range ops.size) T H = some (T', H')) (hq : Q .normal (c + ops.size) T' H') : AWP P p n (.region id ops false) Q c T H := by
  intro ds σ I a w Q' st k
  refine wp_region (runList_wp hcall hd _ 0 T T' H H' σ I a w (by simp [List.range_eq_range']) (by simpa using st) h ?_)
  intro σ' I' a' w' hs st'
  exact k _ _ _ _ σ' I' a' w' hq hs (by simpa using st')
end Go.Proofs.YtjinjfblilacaaaGreat.Den
end
section
namespace Go.Proofs.YtjinjfblilacaaaGreat.Den
variable {P : Program}
def ares (P : Program) (T : Temps) (H : AHeap) : List ResultVar -> Option (List AV)
  | [] => some []
  | .tmp t :: r => (ares P T H r).map (T t :: ·)
  | .cell a t :: r => (aload P t (T a) H).bind fun x => (ares P T H r).map (x :: ·)
def ares1 : List AV -> AV
  | [x] => x
  | l => .tup l
theorem load_ptr {σ : Sig} {I : Imm} {H : AHeap} {t : TypeId} {x r : AV} {v : Value} (hx : VRel σ I x v) (h : aload P t x H = some r) : ∃ ad, v = .pointer (some ad) := by
  unfold aload at h
  cases hx with
  | ptr => exact ⟨_, rfl⟩
  | imp => exact ⟨_, rfl⟩
  | _ => simp at h
theorem ares_run {σ : Sig} {I : Imm} {T : Temps} {H : AHeap} {w : World} {tmps : Array Value} (he : ∀ i, VRel σ I (T i) (tmps.getD i undef)) (hr : ARel σ I H w) : ∀ (rs : List ResultVar) (l : List AV), ares P T H rs = some l ->
    ∃ vs : List Value, (rs.mapM fun | .tmp t => pure (tmps.getD t undef) | .cell a t => do loadVar t (<- asAddr (tmps.getD a undef)) : Sem (List Value)).run P w = .ok vs w /\ VRels σ I l vs
  | [], l, h => by simp [ares] at h; subst h; exact ⟨[], by simp, .nil⟩
  | .tmp t :: rs, l, h => by
    simp only [ares, Option.map_eq_some_iff] at h
    obtain ⟨l', h1, rfl⟩ := h
    obtain ⟨vs, h2, h3⟩ := ares_run he hr rs l' h1
    refine ⟨tmps.getD t undef :: vs, ?_, .cons (he t) h3⟩
    rw [List.mapM_cons]
    simp only [Sem.run_bind, Sem.run_pure, Result.andThen_ok]
    rw [h2]
    rfl
  | .cell a t :: rs, l, h => by
    simp only [ares] at h
    cases e : aload P t (T a) H with
    | none => simp [e] at h
    | some x =>
      simp only [e, Option.bind_some, Option.map_eq_some_iff] at h
      obtain ⟨l', h1, rfl⟩ := h
      obtain ⟨vs, h2, h3⟩ := ares_run he hr rs l' h1
      obtain ⟨u, h4, h5⟩ := run_loadAt (P := P) hr (he a) e
      obtain ⟨ad, had⟩ := load_ptr (he a) e
      refine ⟨u :: vs, ?_, .cons h5 h3⟩
      rw [had] at h4
      have h6 : (loadVar t ad).run P w = .ok u w := by simpa [Instr.loadAt, run_sureAddr'] using h4
      have h7 : (do loadVar t (<- asAddr (tmps.getD a undef)) : Sem Value).run P w = .ok u w := by
        rw [had]; simp [asAddr, h6]
      rw [List.mapM_cons, Sem.run_bind]
      simp only
      rw [h7, Result.andThen_ok, Sem.run_bind, h2]
      rfl
theorem results_run {σ : Sig} {I : Imm} {T : Temps} {H : AHeap} {w : World} {tmps : Array Value} {fn : Func} {l : List AV} (he : ∀ i, VRel σ I (T i) (tmps.getD i undef)) (hr : ARel σ I H w) (h : ares P T H fn.results.toList = some l) :
    ∃ v, (results fn tmps).run P w = .ok v w /\ VRel σ I (ares1 l) v := by
  obtain ⟨vs, h1, h2⟩ := ares_run he hr fn.results.toList l h
  refine ⟨if h : vs.toArray.size = 1 then vs.toArray[0] else .tuple vs.toArray, ?_, ?_⟩
  · unfold results
    rw [Array.mapM_eq_mapM_toList]
    simp only [Sem.run_bind, Sem.run_map]
    erw [h1]
    rfl
  · cases h2 with
    | nil => exact .tup .nil
    | @cons a v l vs hv ht =>
      cases ht with
      | nil => exact hv
      | cons h' t => exact .tup (.cons hv (.cons h' t))
def T0 (args : List AV) : Temps := fun i => (args[i]?).getD (.val undef)
theorem sim_of {f : FuncId} {fn : Func} {code : Code} {n : Nat} {args : List AV} {nm : Name} {H H' : AHeap} {r : AV} (hf : P.funcs[f]? = some fn) (hb : fn.body = some code) (hn : fn.ntmps = n) (ha : args.length <= n)
    (h : AWP P nm n code (fun e _ T H₁ => (e = .normal \/ e = .ret) /\ (∃ l, ares P T H₁ fn.results.toList = some l /\ r = ares1 l) /\ ∀ k row, H' k = some row -> H₁ k = some row) 0 (T0 args) H) :
    Sim P f args nm H r H' := by
  intro σ I w vs hfr hv hr
  refine calls_of_wp hf hb ?_
  have hlen : args.length = vs.size := by simpa using hv.length
  refine h [] σ I _ w _ ⟨?_, ?_, rfl, hr, ?_⟩ ?_
  · intro i
    by_cases hi : i < vs.size
    · have h1 : (vs ++ Array.replicate (fn.ntmps - vs.size) undef).getD i undef = vs[i] := by
        simp [Array.getD_eq_getD_getElem?, Array.getElem?_append_left hi, hi]
      rw [h1]
      obtain ⟨v, h2, h3⟩ := hv.get (List.getElem?_eq_getElem (by omega : i < args.length))
      have h4 : vs[i] = v := by
        have : vs[i]? = some v := by simpa using h2
        rw [Array.getElem?_eq_getElem hi] at this
        exact Option.some.inj this
      rw [h4]
      simpa [T0, List.getElem?_eq_getElem (by omega : i < args.length)] using h3
    · have h1 : (vs ++ Array.replicate (fn.ntmps - vs.size) undef).getD i undef = undef := by
        rw [Array.getD_eq_getD_getElem?, Array.getElem?_append_right (by omega)]
        by_cases h2 : i - vs.size < fn.ntmps - vs.size
        · simp [h2]
        · simp [h2]
      rw [h1]
      have h2 : T0 args i = .val undef := by simp [T0, List.getElem?_eq_none (by omega : args.length <= i)]
      rw [h2]
      exact .val _
  · simp; omega
  · intro j s _
    have := hfr (s ++ [j])
    simpa using this
  · rintro e c' T' H₁ σ' I' a' w' ⟨he, ⟨l, hl, rfl⟩, hsub⟩ hs st
    obtain ⟨v, h1, h2⟩ := results_run st.tr st.rel hl
    have hfin : bodyPost P fn (fun e w' => ∃ v σ' I', e = .returned v /\ Step (Under nm) σ I H w σ' I' H' w' /\ VRel σ' I' (ares1 l) v) .ret a' w' :=
      ⟨st.defers, v, h1, v, σ', I', rfl, hs.trans (Step.forget hs.rel hsub), h2⟩
    rcases he with rfl | rfl
    · exact hfin
    · exact hfin
end Go.Proofs.YtjinjfblilacaaaGreat.Den
end
section
namespace Go.Proofs.YtjinjfblilacaaaGreat.Den
variable {P : Program} {p : Name} {n : Nat} {Q : Exit -> Nat -> Temps -> AHeap -> Prop} {c : Nat} {T : Temps} {H : AHeap}
def Ran (K : Nat -> Temps -> AHeap -> Prop) (c : Nat) : Option (Temps × AHeap) -> Prop
  | some (T, H) => K c T H
  | none => False
theorem AWP.region_last {call : CallF} (hcall : CallOK P call) {id : Nat} {ops : Array Oper} (hd : dstOk n ops = true)
    (h : ∀ K : Nat -> Temps -> AHeap -> Prop, (∀ c T H, Q .normal c T H -> K c T H) -> Ran K (c + ops.size) (runList P call ops p c (List.range ops.size) T H)) : AWP P p n (.region id ops false) Q c T H := by
  have := h (Q .normal) fun _ _ _ h => h
  cases e : runList P call ops p c (List.range ops.size) T H with
  | none => rw [e] at this; exact this.elim
  | some x =>
    obtain ⟨T', H'⟩ := x
    rw [e] at this
    exact AWP.region hcall hd e this
end Go.Proofs.YtjinjfblilacaaaGreat.Den
end
