/- The operations of the model are those of the abstract memory: one law for each kind. -/
import Derived.Test.YtpgoddffacgcmaaDenB
namespace Go.Proofs.Ytpgoddffacgcmaa.Den
variable {P : Program}

section small
variable (w : World)
theorem run_underlying' {t : TypeId} {d : TypeDesc} (h : P.underlying t = some d) : (underlying t).run P w = .ok d w := by simp [underlying, h]
theorem run_typeInfo' {t : TypeId} {i : TypeInfo} (h : P.info? t = some i) : (typeInfo t).run P w = .ok i w := by simp [typeInfo, h]
theorem info_of_size {t : TypeId} {s : Nat} (h : szOf P t = some s) : ∃ i, P.info? t = some i ∧ i.size = s := by
  unfold szOf at h
  cases e : P.info? t with
  | none => simp [e] at h
  | some i => simp [e] at h; exact ⟨i, rfl, h⟩
theorem run_sizeOf' {t : TypeId} {s : Nat} (h : szOf P t = some s) : (sizeOf t).run P w = .ok s w := by
  obtain ⟨i, hi, rfl⟩ := info_of_size h
  simp [sizeOf, run_typeInfo' w hi]
theorem run_zero' {t : TypeId} {z : Value} (h : zeroOf P t = some z) : (zeroValue t).run P w = .ok z w := by
  unfold zeroOf at h
  cases e : P.info? t with
  | none => simp [e] at h
  | some i =>
    simp [e] at h
    simp [zeroValue, run_typeInfo' w e, h]
theorem run_isAgg' {t : TypeId} {b : Bool} (h : aggB P t = some b) : (isAgg t).run P w = .ok b w := by
  unfold aggB at h
  cases e : P.underlying t with
  | none => simp [e] at h
  | some d =>
    rw [e] at h
    cases d <;> simp at h <;> subst h <;> simp [isAgg, run_underlying' w e]
theorem run_newRow' (el : TypeId) (c : Array Value) : (newRow el c).run P w = .ok ⟨w.heap.size, 0, none⟩ (w.alloc (.cells c el)) := by simp [newRow]
theorem run_sureAddr' (a : Addr) : (Instr.sureAddr (.pointer (some a))).run P w = .ok a w := by simp [Instr.sureAddr]
end small

theorem cells_rel {σ : Sig} {I : Imm} {a : AV} {v : Value} (h : VRel σ I a v) : VRels σ I a.cells v.cells.toList := by
  cases h with
  | val v => cases v <;> simp [AV.cells, Value.cells] <;> first | exact VRels.vals _ | exact VRels.cons (.val _) .nil
  | ptr h => exact .cons (.ptr h) .nil
  | imp h hc => exact .cons (.imp h hc) .nil
  | sl h hl hc => exact .cons (.sl h hl hc) .nil
  | im0 => exact .cons .im0 .nil
  | im h hc hl => exact .cons (.im h hc hl) .nil
  | agg h => exact h
  | tup h => exact .cons (.tup h) .nil
  | fn h h' => exact .cons (.fn h h') .nil

theorem one_rel {σ : Sig} {I : Imm} {a : AV} {v : Value} (h : VRel σ I a v) (ho : a.one = true) : v.oneCell' = true := by
  cases h <;> simp_all [AV.one, Value.oneCell']

theorem seg_whole (l : List Value) : seg l.toArray 0 l.length = l := by simp [seg]
theorem seg_whole' (c : Array Value) (n : Nat) (h : n = c.size) : seg c 0 n = c.toList := by subst h; simp only [seg, List.drop_zero]; rw [← Array.length_toList, List.take_length]

theorem no_frozen (c : Array Value) : ∀ i, i < c.size → ¬ ((0, 0).1 ≤ i ∧ i < (0, 0).2) := fun i _ h => by simp at h

/-- A new row that no text shares. -/
theorem Step.row {nm : Name → Prop} {σ : Sig} {I : Imm} {H : AHeap} {w : World} (h : ARel σ I H w) {n : Name} (hn : σ n = none) (hnm : nm n)
    {row : List AV} {c : Array Value} (el : TypeId) (hr : VRels σ I row c.toList) :
    ∃ σ', Step nm σ I H w σ' I (upd H n (some row)) (w.alloc (.cells c el)) ∧ σ' n = some ⟨w.heap.size, 0, c.size⟩ := by
  have hl : row.length = c.size := by simpa using hr.length
  exact ⟨_, (Step.alloc h hn hnm (no_frozen c) (by rw [seg_whole' c _ hl]; exact hr)).1, upd_same _ _ _⟩

theorem addr_add (b o k : Nat) : (⟨b, o, none⟩ : Addr).add k = ⟨b, o + k, none⟩ := by
  unfold Addr.add
  split
  · rename_i h; subst h; rfl
  · rfl

/-! ### loads -/
theorem load_cells {σ : Sig} {I : Imm} {w : World} {b o : Nat} {l : List AV} {n : Nat} (hl : l.length = n)
    (hc : ∀ (i : Nat) (a : AV), l[i]? = some a → ∃ v, w.cell? ⟨b, o + i, none⟩ = some v ∧ VRel σ I a v) :
    ∃ vs : Array Value, (loadCells ⟨b, o, none⟩ n).run P w = .ok vs w ∧ VRels σ I l vs.toList := by
  have hex : ∃ vs : List Value, vs.length = n ∧ ∀ (i : Nat) (a : AV), l[i]? = some a → ∃ v, vs[i]? = some v ∧ w.cell? ⟨b, o + i, none⟩ = some v ∧ VRel σ I a v := by
    induction l generalizing o n with
    | nil => exact ⟨[], by simpa using hl, fun i a h => by simp at h⟩
    | cons a l ih =>
      obtain ⟨v, hv1, hv2⟩ := hc 0 a rfl
      cases n with
      | zero => simp at hl
      | succ n =>
        obtain ⟨vs, hvl, hvs⟩ := ih (o := o + 1) (n := n) (by simpa using hl) (fun i b hb => by
          have := hc (i + 1) b (by simpa using hb)
          rwa [show o + (i + 1) = o + 1 + i from by omega] at this)
        refine ⟨v :: vs, by simp [hvl], fun i b hb => ?_⟩
        cases i with
        | zero => simp at hb; subst hb; exact ⟨v, rfl, hv1, hv2⟩
        | succ i =>
          obtain ⟨u, h1, h2, h3⟩ := hvs i b (by simpa using hb)
          exact ⟨u, by simpa using h1, by rwa [show o + (i + 1) = o + 1 + i from by omega], h3⟩
  obtain ⟨vs, hvl, hvs⟩ := hex
  refine ⟨vs.toArray, ?_, ?_⟩
  · have := run_loadCells_list (P := P) (w := w) ⟨b, o, none⟩ vs (fun j v hj => by
      have hj' : j < l.length := by rw [hl, ← hvl]; exact (List.getElem?_eq_some_iff.1 hj).1
      obtain ⟨u, h1, h2, _⟩ := hvs j l[j] (List.getElem?_eq_getElem hj')
      rw [hj] at h1; cases h1
      rw [addr_add]; exact h2)
    rw [hvl] at this
    exact this
  · exact VRels.of_get (by simp [hl, hvl]) fun i a v ha hv => by
      obtain ⟨u, h1, _, h3⟩ := hvs i a ha
      simp at hv
      rw [hv] at h1; cases h1; exact h3

theorem run_loadAt {σ : Sig} {I : Imm} {H : AHeap} {w : World} (hr : ARel σ I H w) {t : TypeId} {a r : AV} {v : Value} (ha : VRel σ I a v) (h : aload P t a H = some r) :
    ∃ u, (Instr.loadAt t v).run P w = .ok u w ∧ VRel σ I r u := by
  unfold aload at h
  cases hg : aggB P t with
  | none => cases ha <;> simp [hg] at h
  | some g =>
    cases hs : szOf P t with
    | none => cases ha <;> simp [hg, hs] at h
    | some size =>
      have base : ∀ (b o : Nat) (l : List AV), (∀ (i : Nat) (a : AV), l[i]? = some a → ∃ v, w.cell? ⟨b, o + i, none⟩ = some v ∧ VRel σ I a v) →
          (g = true → l.length = size ∧ r = .agg l) → (g = false → l[0]? = some r) → ∃ u, (Instr.loadAt t (.pointer (some ⟨b, o, none⟩))).run P w = .ok u w ∧ VRel σ I r u := by
        intro b o l hc h1 h2
        cases g with
        | true =>
          obtain ⟨hl, rfl⟩ := h1 rfl
          obtain ⟨vs, hv1, hv2⟩ := load_cells (P := P) hl hc
          exact ⟨.agg vs, by simp [Instr.loadAt, run_sureAddr', loadVar, run_isAgg' w hg, run_sizeOf' w hs, hv1], .agg hv2⟩
        | false =>
          obtain ⟨u, hu1, hu2⟩ := hc 0 r (h2 rfl)
          have hu3 : w.cell? ⟨b, o, none⟩ = some u := hu1
          exact ⟨u, by simp [Instr.loadAt, run_sureAddr', loadVar, run_isAgg' w hg, hu3], hu2⟩
      cases ha with
      | @ptr n off p hp =>
        cases g with
        | true =>
          simp only [hg, hs] at h
          cases hn : H n with
          | none => simp [hn] at h
          | some row =>
            simp only [hn, Option.bind_some] at h
            split at h <;> simp at h
            rename_i hle
            refine base p.b (p.o + off) ((row.drop off).take size) ?_ (fun _ => ⟨by simp; omega, h.symm⟩) (fun e => by cases e)
            intro i a hi
            rw [List.getElem?_take] at hi
            split at hi
            · rw [List.getElem?_drop] at hi
              obtain ⟨u, h1, h2, _⟩ := hr.cell hn hp hi
              exact ⟨u, by rwa [show p.o + off + i = p.o + (off + i) from by omega], h2⟩
            · cases hi
        | false =>
          simp only [hg, hs] at h
          cases hn : H n with
          | none => simp [hn] at h
          | some row =>
            simp only [hn, Option.bind_some] at h
            refine base p.b (p.o + off) [r] ?_ (fun e => by cases e) (fun _ => rfl)
            intro i a hi
            cases i with
            | succ i => simp at hi
            | zero =>
              simp at hi; subst hi
              obtain ⟨u, h1, h2, _⟩ := hr.cell hn hp h
              exact ⟨u, by simpa using h1, h2⟩
      | @imp m cells off b o c hb hcells =>
        cases g with
        | true =>
          simp only [hg, hs] at h
          split at h <;> simp at h
          rename_i hle
          refine base b (o + off) ((cells.drop off).take size) ?_ (fun _ => ⟨by simp; omega, h.symm⟩) (fun e => by cases e)
          intro i a hi
          rw [List.getElem?_take] at hi
          split at hi
          · rw [List.getElem?_drop] at hi
            obtain ⟨u, h1, h2⟩ := hr.icell hb hcells hi
            exact ⟨u, by rwa [show o + off + i = o + (off + i) from by omega], h2⟩
          · cases hi
        | false =>
          simp only [hg, hs] at h
          refine base b (o + off) [r] ?_ (fun e => by cases e) (fun _ => rfl)
          intro i a hi
          cases i with
          | succ i => simp at hi
          | zero =>
            simp at hi; subst hi
            obtain ⟨u, h1, h2⟩ := hr.icell hb hcells h
            exact ⟨u, by simpa using h1, h2⟩
      | _ => simp at h

/-! ### stores -/
theorem store_cells {nm : Name → Prop} {σ : Sig} {I : Imm} {n : Name} {p : Place} (hp : σ n = some p) : ∀ (vs : List AV) (us : List Value) (H : AHeap) (w : World) (row : List AV) (off i : Nat),
    ARel σ I H w → H n = some row → VRels σ I vs us → vs.all AV.one = true → off + i + vs.length ≤ row.length →
    ∃ w', (storeCells ⟨p.b, p.o + off, none⟩ us i).run P w = .ok () w' ∧ Step nm σ I H w σ I (upd H n (some (setMany row (off + i) vs))) w' := by
  intro vs
  induction vs with
  | nil =>
    intro us H w row off i hr hn hv _ _
    cases hv
    refine ⟨w, by simp [storeCells], ?_⟩
    have : upd H n (some (setMany row (off + i) [])) = H := by
      funext k
      by_cases e : k = n
      · subst e; rw [upd_same, hn]; rfl
      · rw [upd_ne _ _ e]
    rw [this]; exact Step.refl _ hr
  | cons a vs ih =>
    intro us H w row off i hr hn hv ho hle
    cases hv with
    | @cons _ v _ us hv ht =>
      simp only [List.all_cons, Bool.and_eq_true] at ho
      simp only [List.length_cons] at hle
      have hlt : off + i < row.length := by omega
      obtain ⟨old, hc, _, hf, _⟩ := hr.cell hn hp (List.getElem?_eq_getElem hlt)
      have st := Step.set1 (nm := nm) hr hn hp hlt hv
      obtain ⟨w', h1, h2⟩ := ih us _ _ (row.set (off + i) a) off (i + 1) st.rel (upd_same _ _ _) ht ho.2 (by simp; omega)
      refine ⟨w', ?_, ?_⟩
      · rw [show p.o + (off + i) = p.o + off + i from by omega] at hc hf h1
        simp only [storeCells, Sem.run_bind, addr_add, run_store P w _ v _ (one_rel hv ho.1), hc, hf, Bool.false_eq_true, if_false, Result.andThen_ok]
        exact h1
      · have e1 : upd (upd H n (some (row.set (off + i) a))) n (some (setMany (row.set (off + i) a) (off + (i + 1)) vs)) = upd H n (some (setMany row (off + i) (a :: vs))) := by
          funext k
          by_cases e : k = n
          · subst e; rw [upd_same, upd_same]; rfl
          · rw [upd_ne _ _ e, upd_ne _ _ e, upd_ne _ _ e]
        rw [e1] at h2
        exact st.trans h2

theorem run_storeAt {nm : Name → Prop} {σ : Sig} {I : Imm} {H H' : AHeap} {w : World} (hr : ARel σ I H w) {t : TypeId} {a x : AV} {v u : Value} (ha : VRel σ I a v) (hx : VRel σ I x u) (h : astore P t a x H = some H') :
    ∃ w', (Instr.storeAt t v u).run P w = .ok () w' ∧ Step nm σ I H w σ I H' w' := by
  unfold astore at h
  cases ha with
  | @ptr n off p hp =>
    simp only at h
    split at h
    · rename_i hc
      cases hn : H n with
      | none => simp [hn] at h
      | some row =>
        simp only [hn, Option.bind_some] at h
        split at h <;> simp at h
        rename_i hle
        subst h
        have hcr := cells_rel hx
        have hlen : x.cells.length = u.cells.size := by simpa using hcr.length
        obtain ⟨w', h1, h2⟩ := store_cells (P := P) (nm := nm) hp x.cells u.cells.toList H w row off 0 hr hn hcr hc.2 (by omega)
        refine ⟨w', ?_, h2⟩
        simp [Instr.storeAt, run_sureAddr', storeVar, run_sizeOf' w hc.1, hlen, h1]
    · cases h
  | _ => simp at h

end Go.Proofs.Ytpgoddffacgcmaa.Den
