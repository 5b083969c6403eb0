/- The operations of the model are those of the abstract memory: what is built, and fresh rows. -/
import Derived.Test.YtpgoddffacgcmaaDenD
import Derived.Laws.Tables
import Derived.Great.BuildSlice
namespace Go.Proofs.Ytpgoddffacgcmaa.Den
variable {P : Program}

theorem setMany_length : ∀ (vs row : List AV) (off : Nat), (setMany row off vs).length = row.length
  | [], _, _ => rfl
  | _ :: vs, row, off => by simp [setMany, setMany_length vs]

theorem fill_one (σ : Sig) (I : Imm) (off : Nat) : ∀ (us : List Value) (vs : List AV) (k : Nat) (cells : List AV) (arr : Array Value), VRels σ I vs us → VRels σ I cells arr.toList →
    VRels σ I (setMany cells (off + k) vs) ((us.zipIdx k).foldl (fun cs (c, j) => cs.setIfInBounds (off + j) c) arr).toList
  | [], _, _, _, _, h, hc => by cases h; simpa [setMany] using hc
  | u :: us, _, k, cells, arr, h, hc => by
    cases h with
    | cons h t =>
      simp only [setMany, List.zipIdx_cons, List.foldl_cons]
      have := fill_one σ I off us _ (k + 1) (cells.set (off + k) _) (arr.setIfInBounds (off + k) u) t (by simpa using hc.set (off + k) h)
      simpa [Nat.add_assoc] using this

theorem fill_rel {σ : Sig} {I : Imm} {place : Nat → Option (Nat × Nat)} : ∀ (parts : List (Nat × AV)) (pv : List (Nat × Value)) (cells r : List AV) (arr : Array Value),
    parts.length = pv.length → (∀ (k i : Nat) (a : AV) (j : Nat) (v : Value), parts[k]? = some (i, a) → pv[k]? = some (j, v) → i = j ∧ VRel σ I a v) → VRels σ I cells arr.toList → fillA place cells parts = some r →
    ∃ ar, Instr.fill place arr pv = some ar ∧ VRels σ I r ar.toList
  | [], [], cells, r, arr, _, _, hc, h => by simp [fillA] at h; subst h; exact ⟨arr, rfl, hc⟩
  | [], _ :: _, _, _, _, hl, _, _, _ => by simp at hl
  | _ :: _, [], _, _, _, hl, _, _, _ => by simp at hl
  | (i, a) :: parts, (j, v) :: pv, cells, r, arr, hl, hp, hc, h => by
    obtain ⟨rfl, hv⟩ := hp 0 i a j v rfl rfl
    simp only [fillA] at h
    cases e : place i with
    | none => simp [e] at h
    | some x =>
      obtain ⟨off, size⟩ := x
      simp only [e] at h
      split at h
      · cases h
      · rename_i hcond
        have hcr := cells_rel hv
        have hlen : a.cells.length = v.cells.size := by simpa using hcr.length
        have hlc : cells.length = arr.size := by simpa using hc.length
        have hone := fill_one σ I off v.cells.toList a.cells 0 cells arr hcr hc
        have hcond2 : ¬ (v.cells.size ≠ size ∨ off + v.cells.size > arr.size) := by
          rw [not_or] at hcond ⊢
          omega
        obtain ⟨ar, h1, h2⟩ := fill_rel parts pv _ r _ (by simpa using hl) (fun k i a j v h1 h2 => hp (k + 1) i a j v (by simpa using h1) (by simpa using h2)) hone h
        refine ⟨ar, ?_, h2⟩
        simp only [Instr.fill, e]
        rw [if_neg (by simpa using hcond2)]
        rw [← h1]
        congr 1
        rw [← Array.toList_zipIdx, Array.foldl_toList]

theorem parts_rel {σ : Sig} {I : Imm} {ρ : Env} {ρc : Operand → Value} (he : ∀ x, VRel σ I (ρ x) (ρc x)) (parts : Array (Nat × Operand)) :
    let pa := parts.toList.map fun (i, x) => (i, ρ x)
    let pv := (parts.map fun (i, x) => (i, ρc x)).toList
    pa.length = pv.length ∧ ∀ (k i : Nat) (a : AV) (j : Nat) (v : Value), pa[k]? = some (i, a) → pv[k]? = some (j, v) → i = j ∧ VRel σ I a v := by
  refine ⟨by simp, ?_⟩
  intro k i a j v h1 h2
  simp only [Array.toList_map, List.getElem?_map] at h1 h2
  cases e : parts.toList[k]? with
  | none => simp [e] at h1
  | some x =>
    obtain ⟨m, y⟩ := x
    simp [e] at h1 h2
    obtain ⟨rfl, rfl⟩ := h1
    obtain ⟨rfl, rfl⟩ := h2
    exact ⟨rfl, he y⟩

theorem places_mapM : ∀ (fs : List Field) (ps : List (Nat × Nat)), places P fs = some ps → fs.mapM (fun f => (P.info? f.type).map fun i => (f.offset, i.size)) = some ps
  | [], ps, h => by simp [places] at h; subst h; simp
  | f :: fs, ps, h => by
    simp only [places] at h
    cases hs : szOf P f.type with
    | none => simp [hs] at h
    | some s =>
      obtain ⟨i, hi, rfl⟩ := info_of_size hs
      cases hp : places P fs with
      | none => simp [hs, hp] at h
      | some ps' =>
        simp [hs, hp] at h
        subst h
        simp [List.mapM_cons, hi, places_mapM fs ps' hp]

theorem zero_rel {σ : Sig} {I : Imm} {t : TypeId} {z : List AV} (h : zeroCellsA P t = some z) : ∃ zv, zeroOf P t = some zv ∧ VRels σ I z zv.cells.toList ∧ z.length = zv.cells.size := by
  unfold zeroCellsA at h
  cases e : zeroOf P t with
  | none => simp [e] at h
  | some zv => simp [e] at h; subst h; exact ⟨zv, rfl, VRels.vals _, by simp⟩

theorem zeroOf_info {t : TypeId} {zv : Value} (h : zeroOf P t = some zv) : ∃ i, P.info? t = some i ∧ i.zero = some zv := by
  unfold zeroOf at h
  cases e : P.info? t with
  | none => simp [e] at h
  | some i => simp [e] at h; exact ⟨i, rfl, h⟩

theorem run_build_struct {σ : Sig} {I : Imm} {ρ : Env} {ρc : Operand → Value} (w : World) (he : ∀ x, VRel σ I (ρ x) (ρc x)) {t : TypeId} {parts : Array (Nat × Operand)} {fs : Array Field} {z r : List AV} {ps : List (Nat × Nat)}
    (hz : zeroCellsA P t = some z) (hu : P.underlying t = some (.struct fs)) (hp : places P fs.toList = some ps) (hf : fillA (ps[·]?) z (parts.toList.map fun (i, x) => (i, ρ x)) = some r) :
    ∃ u, (Instr.build t (parts.map fun (i, x) => (i, ρc x))).run P w = .ok u w ∧ VRel σ I (.agg r) u := by
  obtain ⟨zv, h1, h2, h3⟩ := zero_rel (σ := σ) (I := I) hz
  obtain ⟨i, hi, hiz⟩ := zeroOf_info h1
  obtain ⟨hl, hpr⟩ := parts_rel he parts
  obtain ⟨ar, h4, h5⟩ := fill_rel _ _ z r zv.cells hl hpr h2 hf
  refine ⟨.agg ar, run_build w t _ ar ?_, .agg h5⟩
  unfold Program.built
  simp only [hi, hu, hiz, places_mapM _ _ hp]
  rw [← h4]
  congr 1
  funext k
  simp

theorem run_build_array {σ : Sig} {I : Imm} {ρ : Env} {ρc : Operand → Value} (w : World) (he : ∀ x, VRel σ I (ρ x) (ρc x)) {t e : TypeId} {n s : Nat} {parts : Array (Nat × Operand)} {z r : List AV}
    (hz : zeroCellsA P t = some z) (hu : P.underlying t = some (.array n e)) (hs : szOf P e = some s) (hf : fillA (fun i => some (i * s, s)) z (parts.toList.map fun (i, x) => (i, ρ x)) = some r) :
    ∃ u, (Instr.build t (parts.map fun (i, x) => (i, ρc x))).run P w = .ok u w ∧ VRel σ I (.agg r) u := by
  obtain ⟨zv, h1, h2, h3⟩ := zero_rel (σ := σ) (I := I) hz
  obtain ⟨i, hi, hiz⟩ := zeroOf_info h1
  obtain ⟨ie, hie, rfl⟩ := info_of_size hs
  obtain ⟨hl, hpr⟩ := parts_rel he parts
  obtain ⟨ar, h4, h5⟩ := fill_rel _ _ z r zv.cells hl hpr h2 hf
  refine ⟨.agg ar, run_build w t _ ar ?_, .agg h5⟩
  unfold Program.built
  simp only [hi, hu, hiz, hie]
  exact h4

theorem rowOf_length (z : List AV) : ∀ n, (rowOf z n).length = n * z.length
  | 0 => by simp [rowOf]
  | n + 1 => by simp [rowOf, rowOf_length z n, Nat.add_mul, Nat.add_comm]

theorem rowOf_get (z : List AV) (hz : 0 < z.length) : ∀ (n i : Nat), i < n * z.length → (rowOf z n)[i]? = z[i % z.length]?
  | 0, i, h => by simp at h
  | n + 1, i, h => by
    rw [Nat.add_mul, Nat.one_mul] at h
    simp only [rowOf]
    by_cases hi : i < z.length
    · rw [List.getElem?_append_left hi, Nat.mod_eq_of_lt hi]
    · rw [List.getElem?_append_right (by omega), rowOf_get z hz n (i - z.length) (by omega)]
      congr 1
      exact (Nat.mod_eq_sub_mod (by omega)).symm

theorem zeros_rel {σ : Sig} {I : Imm} {z : List AV} {zc : Array Value} (hz : VRels σ I z zc.toList) (hpos : 0 < z.length) (n : Nat) :
    VRels σ I (rowOf z n) ((Array.range (n * zc.size)).map (zc[· % zc.size]!)).toList := by
  have hl : z.length = zc.size := by simpa using hz.length
  refine VRels.of_get (by simp [rowOf_length, hl]) ?_
  intro i a v ha hv
  have hi : i < n * z.length := by rw [← rowOf_length]; exact (List.getElem?_eq_some_iff.1 ha).1
  rw [rowOf_get z hpos n i hi] at ha
  obtain ⟨u, h1, h2⟩ := hz.get ha
  have hm : i % z.length < zc.size := by rw [← hl]; exact Nat.mod_lt _ hpos
  have h3 : v = zc[i % zc.size]! := by
    have hi' : i < n * zc.size := by rw [← hl]; exact hi
    simp [hi'] at hv
    exact hv.symm
  have h4 : zc[i % zc.size]! = u := by
    rw [← hl]
    have : zc[i % z.length]? = some u := by simpa using h1
    rw [getElem!_def, this]
  rw [h3, h4]; exact h2

/-! ### lengths, texts, bytes -/
theorem run_len' {σ : Sig} {I : Imm} {t : TypeId} {x r : AV} {v : Value} (w : World) (ts : Array TypeId) (ty : TypeId) (ht : ts[0]? = some t) (hx : VRel σ I x v) (h : alen P t x = some r) :
    ∃ u, (Builtin.len_ ts ty #[v]).run P w = .ok u w ∧ VRel σ I r u := by
  unfold alen at h
  cases hu : P.underlying t with
  | none => simp [hu] at h
  | some d =>
    simp only [hu] at h
    cases d <;> (try simp only at h) <;> try (cases h; done)
    case array n e =>
      simp at h; subst h
      cases v <;> exact ⟨_, by simp [Builtin.len_, ht, run_underlying' w hu]; rfl, .val _⟩
    case string =>
      cases hx <;> (try simp only at h) <;> try (cases h; done)
      cases v <;> (try simp only at h) <;> try (cases h; done)
      simp at h; subst h
      exact ⟨_, by simp [Builtin.len_, ht, run_underlying' w hu]; rfl, .val _⟩
    case slice e =>
      cases hx <;> (try simp only at h) <;> try (cases h; done)
      case val =>
        cases v <;> (try simp only at h) <;> try (cases h; done)
        simp at h; subst h
        exact ⟨_, by simp [Builtin.len_, ht, run_underlying' w hu]; rfl, .val _⟩
      all_goals
        simp at h; subst h
        exact ⟨_, by simp [Builtin.len_, ht, run_underlying' w hu]; rfl, .val _⟩
    case pointer p =>
      split at h
      · rename_i n e hp
        simp at h; subst h
        cases v <;> exact ⟨_, by simp [Builtin.len_, ht, run_underlying' w hu, run_underlying' w hp]; rfl, .val _⟩
      · cases h

/-- Elements that are read, as the model reads them. -/
theorem run_src {σ : Sig} {I : Imm} {H : AHeap} {w : World} (hr : ARel σ I H w) {size k : Nat} {x : AV} {v : Value} {new : List AV} (hx : VRel σ I x v) (h : srcCells H size x = some (k, new)) :
    (Builtin.lenOf v).run P w = .ok k w ∧ ∀ j, j ≤ k → ∃ arr : Array Value, (Builtin.firstCells size j v).run P w = .ok arr w ∧ VRels σ I (new.take (j * size)) arr.toList := by
  unfold srcCells at h
  cases x with
  | val x =>
    cases hx
    cases v with
    | string s =>
      simp only at h
      split at h <;> simp at h
      rename_i hs
      obtain ⟨rfl, rfl⟩ := h
      subst hs
      refine ⟨by simp [Builtin.lenOf], fun j hj => ⟨_, by simp [Builtin.firstCells]; rfl, ?_⟩⟩
      have e2 : ((s.data.map fun b => Value.int .u8 b.toNat).extract 0 j).toList = (s.data.toList.take j).map fun b => Value.int .u8 b.toNat := by
        simp [List.map_take]
      rw [e2, Nat.mul_one, ← List.map_take]
      generalize s.data.toList.take j = l
      induction l with
      | nil => exact .nil
      | cons b l ih => exact .cons (.val _) ih
    | slice a len cap =>
      cases len with
      | zero =>
        simp at h
        obtain ⟨rfl, rfl⟩ := h
        refine ⟨by simp [Builtin.lenOf], fun j hj => ?_⟩
        obtain rfl : j = 0 := by omega
        cases a with
        | none => exact ⟨#[], by simp [Builtin.firstCells], by simpa using VRels.nil⟩
        | some a => exact ⟨#[], by simp [Builtin.firstCells, loadCells, loadCellsFrom], by simpa using VRels.nil⟩
      | succ n => simp at h
    | _ => simp at h
  | sl n off len sz =>
    simp only at h
    split at h
    · rename_i hs
      subst hs
      cases hn : H n with
      | none => simp [hn] at h
      | some row =>
        simp only [hn, Option.bind_some] at h
        split at h <;> simp at h
        rename_i hle
        obtain ⟨rfl, rfl⟩ := h
        cases hx with
        | @sl _ _ _ _ cap p hp hl hc =>
          refine ⟨by simp [Builtin.lenOf], fun j hj => ?_⟩
          have hjs : j * sz ≤ len * sz := Nat.mul_le_mul_right _ hj
          have := load_cells (P := P) (σ := σ) (I := I) (w := w) (b := p.b) (o := p.o + off) (l := ((row.drop off).take (len * sz)).take (j * sz)) (n := j * sz) (by simp; omega) (fun i a hi => by
            rw [List.take_take, List.getElem?_take] at hi
            split at hi
            · rw [List.getElem?_drop] at hi
              obtain ⟨u, h1, h2, _⟩ := hr.cell hn hp hi
              exact ⟨u, by rwa [show p.o + off + i = p.o + (off + i) from by omega], h2⟩
            · cases hi)
          obtain ⟨vs, h1, h2⟩ := this
          exact ⟨vs, by simp only [Builtin.firstCells]; exact h1, h2⟩
    · cases h
  | im m len cells =>
    simp only at h
    split at h <;> simp at h
    rename_i hlen
    obtain ⟨rfl, rfl⟩ := h
    cases hx with
    | @im0 _ a cap =>
      refine ⟨by simp [Builtin.lenOf], fun j hj => ?_⟩
      obtain rfl : j = 0 := by omega
      cases a with
      | none => exact ⟨#[], by simp [Builtin.firstCells], by simpa using VRels.nil⟩
      | some a => exact ⟨#[], by simp [Builtin.firstCells, loadCells, loadCellsFrom], by simpa using VRels.nil⟩
    | @im _ _ cap b o _ c hb hc hl =>
      refine ⟨by simp [Builtin.lenOf], fun j hj => ?_⟩
      have hjs : j * size ≤ len * size := Nat.mul_le_mul_right _ hj
      have := load_cells (P := P) (σ := σ) (I := I) (w := w) (b := b) (o := o) (l := cells.take (j * size)) (n := j * size) (by simp; omega) (fun i a hi => by
        rw [List.getElem?_take] at hi
        split at hi
        · exact hr.icell hb hc hi
        · cases hi)
      obtain ⟨vs, h1, h2⟩ := this
      exact ⟨vs, by simp only [Builtin.firstCells]; exact h1, h2⟩
  | _ => simp at h

end Go.Proofs.Ytpgoddffacgcmaa.Den
