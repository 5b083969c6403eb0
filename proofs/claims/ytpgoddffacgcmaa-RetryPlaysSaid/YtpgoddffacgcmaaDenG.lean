/- The operations of the model are those of the abstract memory: copies, conversions, fresh slices, sums and comparisons. -/
import Derived.Test.YtpgoddffacgcmaaDenF
import Derived.Lib.ConvBytes
import Derived.Laws.BytesArg
namespace Go.Proofs.Ytpgoddffacgcmaa.Den
variable {P : Program}

theorem run_copy' {σ : Sig} {I : Imm} {H H' : AHeap} {w : World} {nm : Name → Prop} (hr : ARel σ I H w) {t ty : TypeId} {ts : Array TypeId} (hts : ts[0]? = some t)
    {d x r : AV} {dv xv : Value} (hd : VRel σ I d dv) (hx : VRel σ I x xv) (h : acopy P t d x H = some (r, H')) :
    ∃ v w', (Builtin.copy_ ts ty #[dv, xv]).run P w = .ok v w' ∧ Step nm σ I H w σ I H' w' ∧ VRel σ I r v := by
  unfold acopy at h
  split at h
  · rename_i e n off len sz hu
    split at h
    · rename_i s row k new hs hn hsrc
      split at h
      · rename_i hc
        obtain ⟨rfl, hnl, hone, hle⟩ := hc
        simp at h
        obtain ⟨rfl, rfl⟩ := h
        obtain ⟨hlen, hcells⟩ := run_src (P := P) hr hx hsrc
        cases hd with
        | @sl _ _ _ _ cap p hp hl hcap =>
          obtain ⟨arr, ha, har⟩ := hcells (min k len) (Nat.min_le_left _ _)
          have hms : min k len * s ≤ k * s := Nat.mul_le_mul_right _ (Nat.min_le_left _ _)
          obtain ⟨w', h1, st⟩ := store_cells (P := P) (nm := nm) hp (new.take (min k len * s)) arr.toList H w row off 0 hr hn har
            (by rw [List.all_eq_true] at hone ⊢; exact fun a ha => hone a (List.mem_of_mem_take ha)) (by simp [hnl]; omega)
          refine ⟨goInt (min k len : Nat), w', ?_, st, .val _⟩
          simp [Builtin.copy_, hts, run_underlying' w hu, hlen, run_sizeOf' w hs, ha, h1]
      · cases h
    · cases h
  · cases h

theorem Step.fresh {nm : Name → Prop} {σ : Sig} {I : Imm} {H : AHeap} {w : World} (hr : ARel σ I H w) {n : Name} (hn : σ n = none) (hnm : nm n) {row : List AV} {c : Array Value} {el : TypeId} {fr : Nat × Nat}
    (hfr : ∀ i, i < c.size → ¬ (fr.1 ≤ i ∧ i < fr.2)) (hv : VRels σ I row (seg c 0 row.length)) :
    ∃ σ', Step nm σ I H w σ' I (upd H n (some row)) (w.alloc (.cells c el fr)) ∧ σ' n = some ⟨w.heap.size, 0, c.size⟩ :=
  ⟨_, (Step.alloc hr hn hnm hfr hv).1, upd_same _ _ _⟩

theorem run_alloc' {σ : Sig} {I : Imm} {H : AHeap} {w : World} {nm : Name → Prop} (hr : ARel σ I H w) {n : Name} (hn : σ n = none) (hnm : nm n) {e : TypeId} {z : List AV} (hz : zeroCellsA P e = some z) :
    ∃ v w' σ', (Instr.alloc e true (.tuple #[])).run P w = .ok v w' ∧ Step nm σ I H w σ' I (upd H n (some z)) w' ∧ VRel σ' I (.ptr n 0) v := by
  obtain ⟨zv, h1, h2, h3⟩ := zero_rel (σ := σ) (I := I) hz
  obtain ⟨σ', st, hp⟩ := Step.fresh (nm := nm) hr hn hnm (el := e) (no_frozen zv.cells) (row := z) (by rw [seg_whole' _ _ h3]; exact h2)
  exact ⟨.pointer (some ⟨w.heap.size, 0, none⟩), _, σ', by simp [Instr.alloc, run_zero' w h1, newVar, run_newRow'], st, .ptr hp⟩

theorem run_box' {σ : Sig} {I : Imm} {H : AHeap} {w : World} {nm : Name → Prop} (hr : ARel σ I H w) {n : Name} (hn : σ n = none) (hnm : nm n) {e : TypeId} {x : AV} {v : Value} (hx : VRel σ I x v) :
    ∃ u w' σ', (Instr.box e v).run P w = .ok u w' ∧ Step nm σ I H w σ' I (upd H n (some x.cells)) w' ∧ VRel σ' I (.ptr n 0) u := by
  have hc := cells_rel hx
  obtain ⟨σ', st, hp⟩ := Step.fresh (nm := nm) hr hn hnm (el := e) (no_frozen v.cells) (row := x.cells) (by rw [seg_whole' _ _ (by simpa using hc.length)]; exact hc)
  exact ⟨.pointer (some ⟨w.heap.size, 0, none⟩), _, σ', by simp [Instr.box, newVar, run_newRow'], st, .ptr hp⟩

theorem run_buildSlice' {σ : Sig} {I : Imm} {H : AHeap} {w : World} {nm : Name → Prop} (hr : ARel σ I H w) {n : Name} (hn : σ n = none) (hnm : nm n) {ρ : Env} {ρc : Operand → Value} (he : ∀ x, VRel σ I (ρ x) (ρc x))
    {t e : TypeId} {len s : Nat} {parts : Array (Nat × Operand)} {z l : List AV} (hu : P.underlying t = some (.slice e)) (hs : szOf P e = some s) (hz : zeroCellsA P e = some z) (hzl : z.length = s) (hs0 : s ≠ 0) (hbig : len * s ≤ 16777216)
    (hf : fillA (fun i => some (i * s, s)) (rowOf z len) (parts.toList.map fun (i, x) => (i, ρ x)) = some l) :
    ∃ v w' σ', (Instr.buildSlice t len (parts.map fun (i, x) => (i, ρc x))).run P w = .ok v w' ∧ Step nm σ I H w σ' I (upd H n (some l)) w' ∧ VRel σ' I (.sl n 0 len s) v := by
  obtain ⟨zv, h1, h2, h3⟩ := zero_rel (σ := σ) (I := I) hz
  obtain ⟨i, hi, hiz⟩ := zeroOf_info h1
  obtain ⟨ie, hie, rfl⟩ := info_of_size hs
  rw [hi] at hie; cases hie
  obtain ⟨hl, hpr⟩ := parts_rel he parts
  have hzz := zeros_rel h2 (by omega) len
  obtain ⟨ar, h4, h5⟩ := fill_rel _ _ (rowOf z len) l ((Array.range (len * zv.cells.size)).map (zv.cells[· % zv.cells.size]!)) hl hpr hzz hf
  have hsz : zv.cells.size = i.size := by omega
  have hal : ar.size = len * i.size := by
    have e1 : l.length = (rowOf z len).length := by
      clear h4 h5 hpr hl
      generalize (parts.toList.map fun (i, x) => (i, ρ x)) = ps at hf
      generalize rowOf z len = cells at hf
      induction ps generalizing cells with
      | nil => simp [fillA] at hf; rw [hf]
      | cons p ps ih =>
        obtain ⟨j, a⟩ := p
        simp only [fillA] at hf
        split at hf
        · cases hf
        · rw [ih _ hf, setMany_length]
    have e2 : l.length = ar.size := by simpa using h5.length
    rw [← e2, e1, rowOf_length, hzl]
  obtain ⟨σ', st, hp⟩ := Step.fresh (nm := nm) hr hn hnm (el := e) (no_frozen ar) (row := l) (by rw [seg_whole' _ _ (by simpa using h5.length)]; exact h5)
  refine ⟨.slice (some ⟨w.heap.size, 0, none⟩) len len, _, σ', ?_, st, .sl hp (Nat.le_refl _) (by simp [hal])⟩
  by_cases h0 : len = 0
  · subst h0
    have : (Array.range (0 * zv.cells.size)).map (zv.cells[· % zv.cells.size]!) = #[] := by simp
    rw [this] at h4
    have e3 : (parts.map fun (i, x) => (i, ρc x)).toList = parts.toList.map fun x => (x.fst, ρc x.snd) := by rw [Array.toList_map]
    rw [e3] at h4
    have h6 : Instr.fill (fun k => some (k * i.size, i.size)) (Array.map (fun _ => (default : Value)) (Array.range 0)) (List.map (fun x => (x.fst, ρc x.snd)) parts.toList) = some ar := by
      rw [show Array.map (fun _ => (default : Value)) (Array.range 0) = #[] from by simp]; exact h4
    simp only [Instr.buildSlice, Sem.run_bind, run_underlying' w hu, Result.andThen_ok, run_sizeOf' w hs, Nat.zero_mul]
    simp [h6, newRow]
  · rw [hsz] at h4
    exact run_buildSlice w t e len _ ar i zv hu hi hiz (by have : (2 : Nat) ^ 24 = 16777216 := by decide
                                                           omega) (by
      intro h; rcases Nat.mul_eq_zero.1 h with h | h <;> omega) (by rw [hsz]; exact h4)

theorem run_makeSlice' {σ : Sig} {I : Imm} {H : AHeap} {w : World} {nm : Name → Prop} (hr : ARel σ I H w) {n : Name} (hn : σ n = none) (hnm : nm n)
    {t e : TypeId} {l c s by_ : Nat} {kl kc : IntKind} {z : List AV} (hu : P.underlying t = some (.slice e)) (hs : szOf P e = some s) (hz : zeroCellsA P e = some z) (hb : bytesOf' P e = some by_) (hzl : z.length = s) (hs0 : s ≠ 0)
    (hlc : l ≤ c) (hc : c ≤ 281474976710656) (hbc : by_ * c ≤ 281474976710656) :
    ∃ v w' σ', (Instr.makeSlice t (.int kl l) (.int kc c)).run P w = .ok v w' ∧ Step nm σ I H w σ' I (upd H n (some (rowOf z c))) w' ∧ VRel σ' I (.sl n 0 l s) v := by
  obtain ⟨zv, h1, h2, h3⟩ := zero_rel (σ := σ) (I := I) hz
  obtain ⟨i, hi, hiz⟩ := zeroOf_info h1
  have hib : i.bytes = by_ := by unfold bytesOf' at hb; simpa [hi] using hb
  have hzz := zeros_rel h2 (by omega) c
  have hsz : zv.cells.size = s := by omega
  obtain ⟨σ', st, hp⟩ := Step.fresh (nm := nm) hr hn hnm (el := e) (no_frozen ((Array.range (c * zv.cells.size)).map (zv.cells[· % zv.cells.size]!))) (row := rowOf z c) (by rw [seg_whole' _ _ (by simp [rowOf_length, hzl, hsz])]; exact hzz)
  refine ⟨.slice (some ⟨w.heap.size, 0, none⟩) l c, _, σ', ?_, st, .sl hp hlc (by simp [hsz])⟩
  have w1 : IntKind.i64.wrap (l : Int) = l := by unfold IntKind.wrap; simp [IntKind.bits, IntKind.signed]; omega
  have w2 : IntKind.i64.wrap (c : Int) = c := by unfold IntKind.wrap; simp [IntKind.bits, IntKind.signed]; omega
  have hbi : ¬ (281474976710656 < (i.bytes : Int) * (c : Int)) := by
    rw [hib]; have : ((by_ * c : Nat) : Int) = (by_ : Int) * (c : Int) := by simp
    omega
  have hc0 : ¬ ((c : Int) < 0) := by omega
  have hl0 : ¬ ((l : Int) < 0) := by omega
  have hlc' : ¬ ((c : Int) < (l : Int)) := by omega
  by_cases h0 : c * s = 0
  · have hc00 : c = 0 := by rcases Nat.mul_eq_zero.1 h0 with h | h <;> omega
    subst hc00
    obtain rfl : l = 0 := by omega
    have w0 : IntKind.i64.wrap 0 = 0 := by decide
    have r0 : Array.range 0 = #[] := rfl
    simp [Instr.makeSlice, run_underlying' w hu, asInt, run_asIntOf', run_typeInfo' w hi, w0, r0, run_sizeOf' w hs, run_newRow']
  · simp [Instr.makeSlice, run_underlying' w hu, asInt, run_asIntOf', run_typeInfo' w hi, w1, w2, hbi, hc0, hl0, hlc', run_sizeOf' w hs, h0, run_zero' w h1, run_newRow', hsz]

/-! ### texts and bytes -/
theorem isU8_eq {d : Option TypeDesc} (h : isU8 d = true) : d = some (.int .u8) := by
  unfold isU8 at h
  split at h
  · rfl
  · cases h

theorem bytesA_rel {σ : Sig} {I : Imm} : ∀ {cells : List AV} {vs : List Value} {l : List UInt8}, VRels σ I cells vs → bytesA cells = some l →
    ∃ ns : List Int, vs = ns.map (Value.int .u8) ∧ l = ns.map fun n => UInt8.ofNat n.toNat
  | [], _, l, hv, h => by cases hv; simp [bytesA] at h; subst h; exact ⟨[], rfl, rfl⟩
  | c :: cells, _, l, hv, h => by
    cases hv with
    | @cons _ u _ us hc ht =>
      cases hc with
      | val =>
        cases u with
        | int k n =>
          cases k <;> simp only [bytesA] at h <;> try (cases h; done)
          split at h
          · cases e : bytesA cells with
            | none => simp [e] at h
            | some l' =>
              simp [e] at h
              subst h
              obtain ⟨ns, rfl, rfl⟩ := bytesA_rel ht e
              exact ⟨n :: ns, rfl, rfl⟩
          · cases h
        | _ => simp [bytesA] at h
      | _ => simp [bytesA] at h

theorem run_toText' {σ : Sig} {I : Imm} {H : AHeap} {w : World} (hr : ARel σ I H w) {src dst e : TypeId} {x : AV} {v : Value} {k : Nat} {cells : List AV} {l : List UInt8} (hx : VRel σ I x v)
    (hs : P.underlying src = some (.slice e)) (hd : P.underlying dst = some .string) (he : isU8 (P.underlying e) = true) (hc : srcCells H 1 x = some (k, cells)) (hb : bytesA cells = some l) (hnv : ∀ y, x ≠ .val y) :
    (convert src dst v).run P w = .ok (.string ⟨l.toArray⟩) w := by
  have he' := isU8_eq he
  obtain ⟨hlen, hcells⟩ := run_src (P := P) hr hx hc
  obtain ⟨arr, ha, har⟩ := hcells k (Nat.le_refl _)
  have fin : ∀ (a : Option Addr) (len cap : Nat), v = .slice a len cap → len = k → (convert src dst v).run P w = .ok (.string ⟨l.toArray⟩) w := by
    rintro a len cap rfl rfl
    have hcl : cells.take (len * 1) = cells := by
      have : cells.length = len := by
        unfold srcCells at hc
        cases x with
        | val y => exact absurd rfl (hnv y)
        | sl n off len' sz =>
          simp only at hc
          split at hc
          · cases hn : H n with
            | none => simp [hn] at hc
            | some row =>
              simp only [hn, Option.bind_some] at hc
              split at hc <;> simp at hc
              obtain ⟨rfl, rfl⟩ := hc
              simp; omega
          · cases hc
        | im m len' cs =>
          simp only at hc
          split at hc <;> simp at hc
          obtain ⟨rfl, rfl⟩ := hc
          omega
        | _ => simp at hc
      rw [Nat.mul_one, ← this]; exact List.take_length
    rw [hcl] at har
    obtain ⟨ns, h1, rfl⟩ := bytesA_rel har hb
    have h2 : arr = (ns.map (Value.int .u8)).toArray := by rw [← h1]
    subst h2
    cases a with
    | none =>
      simp only [Builtin.firstCells, Sem.run_pure] at ha
      have h3 : (#[] : Array Value) = (ns.map (Value.int .u8)).toArray := by injection ha
      have : ns = [] := by
        cases ns with
        | nil => rfl
        | cons n ns => simp at h3
      subst this
      rw [run_convert_bytes_nil (P := P) w src e hs he' len cap dst hd]
      rfl
    | some a =>
      have ha' : (loadCells a len).run P w = .ok (ns.map (Value.int .u8)).toArray w := by simpa [Builtin.firstCells] using ha
      rw [run_convert_bytes_string w src dst e _ len cap hs he' hd, run_bytesToString w _ len cap ns ha', foldl_push_bytes]
      simp [ByteArray.empty, ByteArray.emptyWithCapacity]
      rfl
  cases hx with
  | val => exact absurd rfl (hnv _)
  | @sl n off len sz cap p hp hl hcap => exact fin _ _ _ rfl (by simpa [Builtin.lenOf] using hlen)
  | @im0 m a cap => exact fin _ _ _ rfl (by simpa [Builtin.lenOf] using hlen)
  | @im m len cap b o cs c hb' hcs hl => exact fin _ _ _ rfl (by simpa [Builtin.lenOf] using hlen)
  | _ => simp [srcCells] at hc

theorem run_toBytes' {σ : Sig} {I : Imm} {H : AHeap} {w : World} {nm : Name → Prop} (hr : ARel σ I H w) {n : Name} (hn : σ n = none) (hnm : nm n) {src dst e : TypeId} {s : ByteArray}
    (hs : P.underlying src = some .string) (hd : P.underlying dst = some (.slice e)) (he : isU8 (P.underlying e) = true) :
    ∃ v w' σ', (convert src dst (.string s)).run P w = .ok v w' ∧ Step nm σ I H w σ' I (upd H n (some (s.data.toList.map fun b => .val (.int .u8 b.toNat)))) w' ∧ VRel σ' I (.sl n 0 s.size 1) v := by
  have he' := isU8_eq he
  have hds : s.data.size = s.size := rfl
  have hge := grownCap_ge w s.size 0 e
  have hcs : (Lib.bytesCells w e s).size = grownCap w s.size 0 e := by simp [Lib.bytesCells, hds]; omega
  have hseg : seg (Lib.bytesCells w e s) 0 (s.data.toList.map fun b => AV.val (.int .u8 b.toNat)).length = s.data.toList.map fun b => Value.int .u8 b.toNat := by
    simp only [seg, List.drop_zero, Lib.bytesCells, Array.toList_append, Array.toList_map, List.length_map]
    rw [List.take_left' (by simp)]
  have hv : VRels σ I (s.data.toList.map fun b => AV.val (.int .u8 b.toNat)) (s.data.toList.map fun b => Value.int .u8 b.toNat) := by
    generalize s.data.toList = l
    induction l with
    | nil => exact .nil
    | cons b l ih => exact .cons (.val _) ih
  obtain ⟨st, _⟩ := Step.block (nm := nm) (w' := Lib.bytesWorld w e s) hr hn hnm (c := Lib.bytesCells w e s) (el := e) (fr := ((Lib.bytesCells w e s).size, (Lib.bytesCells w e s).size + 1)) (row := s.data.toList.map fun b => AV.val (.int .u8 b.toNat))
    (fun i hi h => by simp at h; omega) (by rw [hseg]; exact hv) (fun i hi => Lib.bytesWorld_at_old w e s i hi) (Lib.bytesWorld_at_new w e s) (Lib.bytesWorld_size w e s) (by unfold Lib.bytesWorld World.freeze; split <;> rfl) (by unfold Lib.bytesWorld World.freeze; split <;> rfl) (by unfold Lib.bytesWorld World.freeze; split <;> rfl)
  exact ⟨_, _, _, Lib.run_convert_string_bytes w src dst e s hs hd he', st, .sl (upd_same _ _ _) hge (by simp [hcs])⟩

end Go.Proofs.Ytpgoddffacgcmaa.Den
