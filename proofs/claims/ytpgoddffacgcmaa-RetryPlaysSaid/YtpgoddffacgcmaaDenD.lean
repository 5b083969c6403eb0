/- The operations of the model are those of the abstract memory: addresses, parts, slices, fresh rows. -/
import Derived.Test.YtpgoddffacgcmaaDenC
namespace Go.Proofs.Ytpgoddffacgcmaa.Den
variable {P : Program}

theorem natOf_rel {σ : Sig} {I : Imm} {a : AV} {v : Value} {i : Nat} (h : VRel σ I a v) (hn : natOf a = some i) : ∃ k : IntKind, v = .int k (i : Int) := by
  cases h with
  | val v =>
    cases v <;> simp only [natOf] at hn <;> try (cases hn; done)
    rename_i k n
    split at hn
    · simp at hn; subst hn; exact ⟨k, by rw [Int.toNat_of_nonneg (by assumption)]⟩
    · cases hn
  | _ => simp [natOf] at hn

theorem run_asIntOf' (w : World) (k : IntKind) (i : Int) : (asIntOf (.int k i)).run P w = .ok (k, i) w := by simp [asIntOf]

theorem run_fieldAt' {σ : Sig} {I : Imm} {s : TypeId} {a r : AV} {v : Value} {f : Nat} (w : World) (ha : VRel σ I a v) (h : afieldAddr P s a f = some r) :
    ∃ u, (Instr.fieldAt s v f).run P w = .ok u w ∧ VRel σ I r u := by
  unfold afieldAddr at h
  cases hu : P.underlying s with
  | none => simp [hu] at h
  | some d =>
    cases d <;> simp only [hu] at h <;> try (cases h; done)
    rename_i fs
    cases hf : fs[f]? with
    | none => simp [hf] at h
    | some fl =>
      simp only [hf, Option.bind_some] at h
      cases hs : szOf P fl.type with
      | none => simp [hs] at h
      | some sz =>
        simp only [hs, Option.bind_some] at h
        split at h
        · cases h
        · rename_i hz
          cases ha with
          | @ptr n off p hp =>
            simp at h; subst h
            refine ⟨_, ?_, VRel.ptr hp⟩
            simp [Instr.fieldAt, run_underlying' w hu, hf, run_sureAddr', fieldPlace, run_sizeOf' w hs, hz, addr_add, Nat.add_assoc]
          | @imp m cells off b o c hb hc =>
            simp at h; subst h
            refine ⟨_, ?_, VRel.imp hb hc⟩
            simp [Instr.fieldAt, run_underlying' w hu, hf, run_sureAddr', fieldPlace, run_sizeOf' w hs, hz, addr_add, Nat.add_assoc]
          | _ => simp at h

theorem run_indexAt' {σ : Sig} {I : Imm} {t : TypeId} {x i r : AV} {v u : Value} (w : World) (hx : VRel σ I x v) (hi : VRel σ I i u) (h : aindexAddr P t x i = some r) :
    ∃ q, (Instr.indexAt t v u).run P w = .ok q w ∧ VRel σ I r q := by
  unfold aindexAddr at h
  cases hn : natOf i with
  | none => simp [hn] at h
  | some k =>
    obtain ⟨kd, rfl⟩ := natOf_rel hi hn
    cases hu : P.underlying t with
    | none => cases x <;> simp [hn, hu] at h
    | some d =>
      simp only [hn, hu] at h
      cases hx with
      | @sl n off len sz cap p hp hl hc =>
        cases d <;> simp only at h <;> try (cases h; done)
        rename_i e
        split at h <;> simp at h
        rename_i hcond
        subst h
        refine ⟨_, ?_, VRel.ptr hp⟩
        simp [Instr.indexAt, run_asIntOf', run_underlying' w hu, run_sizeOf' w hcond.1, hcond.2, addr_add, Nat.add_assoc]
      | @im0 m a cap =>
        cases d <;> simp only at h <;> try (cases h; done)
        rename_i e
        cases hs : szOf P e <;> simp [hs] at h
      | @im m len cap b o cells c hb hc hl =>
        cases d <;> simp only at h <;> try (cases h; done)
        rename_i e
        cases hs : szOf P e with
        | none => simp [hs] at h
        | some sz =>
          simp only [hs, Option.bind_some] at h
          split at h <;> simp at h
          rename_i hcond
          subst h
          refine ⟨_, ?_, VRel.imp hb hc⟩
          simp [Instr.indexAt, run_asIntOf', run_underlying' w hu, run_sizeOf' w hs, hcond.1, addr_add]
      | @ptr n off p hp =>
        cases d <;> simp only at h <;> try (cases h; done)
        rename_i len e
        cases hs : szOf P e with
        | none => simp [hs] at h
        | some sz =>
          simp only [hs, Option.bind_some] at h
          split at h <;> simp at h
          rename_i hcond
          subst h
          refine ⟨_, ?_, VRel.ptr hp⟩
          simp [Instr.indexAt, run_asIntOf', run_underlying' w hu, run_sizeOf' w hs, hcond, run_sureAddr', addr_add, Nat.add_assoc]
      | @imp m cells off b o c hb hc =>
        cases d <;> simp only at h <;> try (cases h; done)
        rename_i len e
        cases hs : szOf P e with
        | none => simp [hs] at h
        | some sz =>
          simp only [hs, Option.bind_some] at h
          split at h <;> simp at h
          rename_i hcond
          subst h
          refine ⟨_, ?_, VRel.imp hb hc⟩
          simp [Instr.indexAt, run_asIntOf', run_underlying' w hu, run_sizeOf' w hs, hcond, run_sureAddr', addr_add, Nat.add_assoc]
      | _ => cases d <;> simp at h

theorem run_part' {σ : Sig} {I : Imm} {t : TypeId} {l : List AV} {arr : Array Value} {off : Nat} {r : AV} (w : World) (hl : VRels σ I l arr.toList) (h : apart P t l off = some r) :
    ∃ u, (part t arr off).run P w = .ok u w ∧ VRel σ I r u := by
  unfold apart at h
  cases hg : aggB P t with
  | none => simp [hg] at h
  | some g =>
    cases hs : szOf P t with
    | none => cases g <;> simp [hg, hs] at h
    | some size =>
      cases g with
      | true =>
        simp only [hg, hs] at h
        split at h <;> simp at h
        rename_i hle
        subst h
        refine ⟨_, by simp [part, run_isAgg' w hg, run_sizeOf' w hs]; rfl, .agg ?_⟩
        have : (arr.extract off (off + size)).toList = (arr.toList.drop off).take size := by
          rw [Array.toList_extract, List.extract_eq_take_drop]; congr 1; omega
        rw [this]
        exact (hl.drop off).take size
      | false =>
        simp only [hg, hs] at h
        obtain ⟨u, h1, h2⟩ := hl.get h
        have h3 : arr[off]? = some u := by simpa using h1
        exact ⟨u, by simp [part, run_isAgg' w hg, h3], h2⟩

theorem run_field' {σ : Sig} {I : Imm} {t : TypeId} {l : List AV} {v : Value} {f : Nat} {fs : Array Field} {fl : Field} {r : AV} (w : World) (hu : P.underlying t = some (.struct fs)) (hx : VRel σ I (.agg l) v)
    (hf : fs[f]? = some fl) (h : apart P fl.type l fl.offset = some r) : ∃ u, (Instr.field t v f).run P w = .ok u w ∧ VRel σ I r u := by
  cases hx with
  | @agg _ arr hl =>
    obtain ⟨u, h1, h2⟩ := run_part' w hl h
    exact ⟨u, by simp [Instr.field, run_underlying' w hu, hf, asAgg, h1], h2⟩

theorem run_index' {σ : Sig} {I : Imm} {t : TypeId} {x i r : AV} {v u : Value} (w : World) (hx : VRel σ I x v) (hi : VRel σ I i u) (h : aindex P t x i = some r) :
    ∃ q, (Instr.index t v u).run P w = .ok q w ∧ VRel σ I r q := by
  unfold aindex at h
  cases hn : natOf i with
  | none => simp [hn] at h
  | some k =>
    obtain ⟨kd, rfl⟩ := natOf_rel hi hn
    cases hu : P.underlying t with
    | none => cases x <;> simp [hn, hu] at h
    | some d =>
      simp only [hn, hu] at h
      cases hx with
      | @agg l arr hl =>
        cases d <;> simp only at h <;> try (cases h; done)
        rename_i len e
        cases hs : szOf P e with
        | none => simp [hs] at h
        | some sz =>
          simp only [hs, Option.bind_some] at h
          split at h
          · rename_i hlt
            obtain ⟨q, h1, h2⟩ := run_part' w hl h
            exact ⟨q, by simp [Instr.index, run_asIntOf', run_underlying' w hu, hlt, run_sizeOf' w hs, h1], h2⟩
          · cases h
      | val v =>
        cases v <;> cases d <;> simp only at h <;> try (cases h; done)
        rename_i s
        cases hb : s.data[k]? with
        | none => simp [hb] at h
        | some b =>
          simp [hb] at h
          subst h
          refine ⟨.int .u8 b.toNat, ?_, .val _⟩
          have hb' : s[k]? = some b := by
            have hk : k < s.size := (Array.getElem?_eq_some_iff.1 hb).1
            rw [getElem?_pos s k hk]
            have := (Array.getElem?_eq_some_iff.1 hb).2
            exact congrArg some this
          simp [Instr.index, run_asIntOf', run_underlying' w hu, hb']
      | _ => cases d <;> simp at h

theorem run_extract' {σ : Sig} {I : Imm} {l : List AV} {v : Value} {i : Nat} {r : AV} (w : World) (hx : VRel σ I (.tup l) v) (h : l[i]? = some r) : ∃ u, (Instr.extract v i).run P w = .ok u w ∧ VRel σ I r u := by
  cases hx with
  | @tup _ arr hl =>
    obtain ⟨u, h1, h2⟩ := hl.get h
    have h3 : arr[i]? = some u := by simpa using h1
    exact ⟨u, by simp [Instr.extract, h3], h2⟩

/-! ### slices of slices -/
theorem run_bounds (w : World) (isS : Bool) (len cap l h : Nat) (lo hi : Option Value) (hlo : lo = none ∧ l = 0 ∨ ∃ k, lo = some (.int k (l : Int))) (hhi : hi = none ∧ h = len ∨ ∃ k, hi = some (.int k (h : Int)))
    (h1 : l ≤ h) (h2 : h ≤ len) (h3 : len ≤ cap) : (Instr.sliceBounds isS len cap lo hi none).run P w = .ok (l, h, cap) w := by
  have hb : ∀ (x y : Nat) (k : IntKind) (c : BoundsCode), x ≤ y → (Instr.sliceBound (.int k (x : Int)) y c).run P w = .ok x w := fun x y k c hxy => by
    simp [Instr.sliceBound, run_asIntOf', hxy]
  have hhc : h ≤ cap := by omega
  rcases hlo with ⟨rfl, rfl⟩ | ⟨k, rfl⟩ <;> rcases hhi with ⟨rfl, rfl⟩ | ⟨k', rfl⟩
  · simp [Instr.sliceBounds]
  · cases isS <;> simp [Instr.sliceBounds, hb _ _ _ _ hhc]
  · cases isS <;> simp [Instr.sliceBounds, hb _ _ _ _ h1]
  · cases isS <;> simp [Instr.sliceBounds, hb _ _ _ _ hhc, hb _ _ _ _ h1]

theorem low_rel {σ : Sig} {I : Imm} {lo : Option AV} {lv : Option Value} {l d : Nat} (h : (lo = none ∧ lv = none) ∨ ∃ a v, lo = some a ∧ lv = some v ∧ VRel σ I a v)
    (hn : boundOf d lo = some l) : lv = none ∧ l = d ∨ ∃ k, lv = some (.int k (l : Int)) := by
  rcases h with ⟨rfl, rfl⟩ | ⟨a, v, rfl, rfl, hv⟩
  · simp [boundOf] at hn; exact .inl ⟨rfl, hn.symm⟩
  · obtain ⟨k, rfl⟩ := natOf_rel hv hn
    exact .inr ⟨k, rfl⟩

theorem run_slice_sl {σ : Sig} {I : Imm} {t e : TypeId} {n : Name} {off len sz l h : Nat} {v : Value} {lo hi : Option AV} {lv hv : Option Value} (w : World) (hx : VRel σ I (.sl n off len sz) v)
    (hlo : (lo = none ∧ lv = none) ∨ ∃ a v, lo = some a ∧ lv = some v ∧ VRel σ I a v) (hhi : (hi = none ∧ hv = none) ∨ ∃ a v, hi = some a ∧ hv = some v ∧ VRel σ I a v)
    (hl : boundOf 0 lo = some l) (hh : boundOf len hi = some h) (hu : P.underlying t = some (.slice e)) (hs : szOf P e = some sz)
    (h1 : l ≤ h) (h2 : h ≤ len) :
    ∃ u, (Instr.sliceAt t v lv hv none).run P w = .ok u w ∧ VRel σ I (if l = 0 then .sl n off h sz else if l = h then .im true 0 [] else .sl n (off + l * sz) (h - l) sz) u := by
  cases hx with
  | @sl _ _ _ _ cap p hp hlc hc =>
    have hb := run_bounds (P := P) w true len cap l h lv hv (low_rel hlo hl) (low_rel hhi hh) h1 h2 hlc
    refine ⟨.slice (if cap = l then some ⟨p.b, p.o + off, none⟩ else some ⟨p.b, p.o + off + l * sz, none⟩) (h - l) (cap - l), ?_, ?_⟩
    · simp [Instr.sliceAt, run_underlying' w hu, Instr.slice, hb, run_sizeOf' w hs, addr_add]
    · by_cases e0 : l = 0
      · subst e0
        simp only [if_pos, Nat.zero_mul, Nat.add_zero, Nat.sub_zero]
        rw [show (if cap = 0 then some (⟨p.b, p.o + off, none⟩ : Addr) else some ⟨p.b, p.o + off, none⟩) = some ⟨p.b, p.o + off, none⟩ from by split <;> rfl]
        exact .sl hp (by omega) hc
      · rw [if_neg e0]
        by_cases e1 : l = h
        · rw [if_pos e1, show h - l = 0 from by omega]
          exact .im0
        · rw [if_neg e1, if_neg (by omega), Nat.add_assoc]
          refine .sl hp (by omega) ?_
          have : cap * sz = l * sz + (cap - l) * sz := by rw [← Nat.add_mul]; congr 1; omega
          omega

theorem run_slice_im {σ : Sig} {I : Imm} {t e : TypeId} {m : Bool} {cells : List AV} {len sz l h : Nat} {v : Value} {lo hi : Option AV} {lv hv : Option Value} (w : World) (hx : VRel σ I (.im m len cells) v)
    (hlo : (lo = none ∧ lv = none) ∨ ∃ a v, lo = some a ∧ lv = some v ∧ VRel σ I a v) (hhi : (hi = none ∧ hv = none) ∨ ∃ a v, hi = some a ∧ hv = some v ∧ VRel σ I a v)
    (hl : boundOf 0 lo = some l) (hh : boundOf len hi = some h) (hu : P.underlying t = some (.slice e)) (hs : szOf P e = some sz)
    (h1 : l ≤ h) (h2 : h ≤ len) (hlen : cells.length = len * sz) :
    ∃ u, (Instr.sliceAt t v lv hv none).run P w = .ok u w ∧ VRel σ I (if l = h then .im m 0 [] else .im m (h - l) ((cells.drop (l * sz)).take ((h - l) * sz))) u := by
  cases hx with
  | @im0 _ a cap =>
    obtain rfl : l = 0 := by omega
    obtain rfl : h = 0 := by omega
    have hb := run_bounds (P := P) w true 0 cap 0 0 lv hv (low_rel hlo hl) (low_rel hhi hh) h1 h2 (Nat.zero_le _)
    refine ⟨.slice (if cap = 0 then a else a.map (·.add (0 * sz))) (0 - 0) (cap - 0), ?_, ?_⟩
    · simp [Instr.sliceAt, run_underlying' w hu, Instr.slice, hb, run_sizeOf' w hs]
    · rw [if_pos rfl]; exact .im0
  | @im _ _ cap b o _ c hb' hc hlc =>
    have hb := run_bounds (P := P) w true len cap l h lv hv (low_rel hlo hl) (low_rel hhi hh) h1 h2 hlc
    refine ⟨.slice (if cap = l then some ⟨b, o, none⟩ else some ⟨b, o + l * sz, none⟩) (h - l) (cap - l), ?_, ?_⟩
    · simp [Instr.sliceAt, run_underlying' w hu, Instr.slice, hb, run_sizeOf' w hs, addr_add]
    · by_cases e1 : l = h
      · rw [if_pos e1, show h - l = 0 from by omega]
        exact .im0
      · rw [if_neg e1, if_neg (by omega)]
        refine .im hb' ?_ (by omega)
        have hle : l * sz + (h - l) * sz ≤ cells.length := by
          rw [hlen, ← Nat.add_mul]; exact Nat.mul_le_mul_right _ (by omega)
        have hlen2 : ((cells.drop (l * sz)).take ((h - l) * sz)).length = (h - l) * sz := by simp; omega
        rw [hlen2]
        have : seg c (o + l * sz) ((h - l) * sz) = ((seg c o cells.length).drop (l * sz)).take ((h - l) * sz) := by
          simp only [seg]
          rw [List.drop_take, List.take_take, List.drop_drop, Nat.min_eq_left (by omega)]
        rw [this]
        exact (hc.drop _).take _

theorem run_slice_arr {σ : Sig} {I : Imm} {H : AHeap} {t e : TypeId} {n : Name} {off N sz l h : Nat} {row : List AV} {v : Value} {lo hi : Option AV} {lv hv : Option Value} (w : World) (hr : ARel σ I H w) (hx : VRel σ I (.ptr n off) v)
    (hlo : (lo = none ∧ lv = none) ∨ ∃ a v, lo = some a ∧ lv = some v ∧ VRel σ I a v) (hhi : (hi = none ∧ hv = none) ∨ ∃ a v, hi = some a ∧ hv = some v ∧ VRel σ I a v)
    (hl : boundOf 0 lo = some l) (hh : boundOf N hi = some h) (hu : P.underlying t = some (.array N e)) (hs : szOf P e = some sz)
    (hn : H n = some row) (h1 : l ≤ h) (h2 : h ≤ N) (hz0 : sz ≠ 0) (h3 : off + N * sz ≤ row.length) :
    ∃ u, (Instr.sliceAt t v lv hv none).run P w = .ok u w ∧ VRel σ I (if l = h then .im true 0 [] else .sl n (off + l * sz) (h - l) sz) u := by
  cases hx with
  | @ptr _ _ p hp =>
    have hb := run_bounds (P := P) w false N N l h lv hv (low_rel hlo hl) (low_rel hhi hh) h1 h2 (Nat.le_refl _)
    refine ⟨.slice (some (if N = l then ⟨p.b, p.o + off, none⟩ else ⟨p.b, p.o + off + l * sz, none⟩)) (h - l) (N - l), ?_, ?_⟩
    · simp [Instr.sliceAt, run_underlying' w hu, hb, run_sizeOf' w hs, addr_add, run_sureAddr']
    · by_cases e1 : l = h
      · rw [if_pos e1, show h - l = 0 from by omega]
        exact .im0
      · rw [if_neg e1, if_neg (by omega), Nat.add_assoc]
        refine .sl hp (by omega) ?_
        obtain ⟨p', c, el, fr, hp', hb', ht, hf, hv'⟩ := hr.rows n row hn
        rw [hp] at hp'; cases hp'
        have hlen := hv'.length
        rw [seg_length] at hlen
        have : N * sz = l * sz + (N - l) * sz := by rw [← Nat.add_mul]; congr 1; omega
        by_cases hz : row.length = 0
        · have : off + N * sz = 0 := by omega
          have h5 : N * sz = 0 := by omega
          have h6 : l * sz = 0 ∧ (N - l) * sz = 0 := by omega
          exfalso
          rcases Nat.mul_eq_zero.1 h5 with h7 | h7 <;> omega
        · omega

theorem run_slice' {σ : Sig} {I : Imm} {H : AHeap} {t : TypeId} {x r : AV} {v : Value} {lo hi : Option AV} {lv hv : Option Value} (w : World) (hr : ARel σ I H w) (hx : VRel σ I x v)
    (hlo : (lo = none ∧ lv = none) ∨ ∃ a v, lo = some a ∧ lv = some v ∧ VRel σ I a v) (hhi : (hi = none ∧ hv = none) ∨ ∃ a v, hi = some a ∧ hv = some v ∧ VRel σ I a v)
    (h : aslice P t x lo hi H = some r) : ∃ u, (Instr.sliceAt t v lv hv none).run P w = .ok u w ∧ VRel σ I r u := by
  unfold aslice at h
  cases x with
  | val x =>
    cases hx
    cases v with
    | string s =>
      simp only at h
      split at h
      · rename_i l hh hl hhh hu
        split at h <;> simp at h
        rename_i hc
        subst h
        have hb := run_bounds (P := P) w false s.size s.size l hh lv hv (low_rel hlo hl) (low_rel hhi hhh) hc.1 hc.2 (Nat.le_refl _)
        exact ⟨_, by simp [Instr.sliceAt, run_underlying' w hu, Instr.slice, hb], .val _⟩
      · cases h
    | slice a len cap =>
      cases a with
      | some a => simp at h
      | none =>
        cases len with
        | succ n => simp at h
        | zero =>
          cases cap with
          | succ n => simp at h
          | zero =>
            simp only at h
            split at h
            · rename_i e hl hhh hu
              split at h <;> simp at h
              rename_i hc
              subst h
              obtain ⟨sz, hs⟩ := Option.isSome_iff_exists.1 hc
              have hb := run_bounds (P := P) w true 0 0 0 0 lv hv (low_rel hlo hl) (low_rel hhi hhh) (Nat.le_refl _) (Nat.le_refl _) (Nat.le_refl _)
              exact ⟨_, by simp [Instr.sliceAt, run_underlying' w hu, Instr.slice, hb, run_sizeOf' w hs], .val _⟩
            · cases h
    | _ => simp at h
  | sl n off len sz =>
    simp only at h
    split at h
    · rename_i l hh e hl hhh hu
      split at h
      · rename_i hc
        obtain ⟨u, h1, h2⟩ := run_slice_sl (P := P) w hx hlo hhi hl hhh hu hc.1 hc.2.1 hc.2.2
        refine ⟨u, h1, ?_⟩
        by_cases e0 : l = 0
        · simp [e0] at h h2; subst h; exact h2
        · by_cases e1 : l = hh
          · simp [e1] at h h2
            by_cases e2 : hh = 0
            · omega
            · simp [e2] at h h2; subst h; exact h2
          · simp [e0, e1] at h h2; subst h; exact h2
      · cases h
    · cases h
  | im m len cells =>
    simp only at h
    split at h
    · rename_i l hh e hl hhh hu
      split at h
      · rename_i sz hs
        split at h
        · rename_i hc
          obtain ⟨u, h1, h2⟩ := run_slice_im (P := P) w hx hlo hhi hl hhh hu hs hc.1 hc.2.1 hc.2.2
          refine ⟨u, h1, ?_⟩
          by_cases e1 : l = hh
          · simp [e1] at h h2; subst h; exact h2
          · simp [e1] at h h2; subst h; exact h2
        · cases h
      · cases h
    · cases h
  | ptr n off =>
    simp only at h
    split at h
    · rename_i N e hu
      split at h
      · rename_i l hh sz hl hhh hs
        cases hn : H n with
        | none => simp [hn] at h
        | some row =>
          simp only [hn, Option.bind_some] at h
          split at h
          · rename_i hc
            obtain ⟨u, h1, h2⟩ := run_slice_arr (P := P) w hr hx hlo hhi hl hhh hu hs hn hc.1 hc.2.1 hc.2.2.1 hc.2.2.2
            refine ⟨u, h1, ?_⟩
            by_cases e1 : l = hh
            · simp [e1] at h h2; subst h; exact h2
            · simp [e1] at h h2; subst h; exact h2
          · cases h
      · cases h
    · cases h
  | _ => simp at h

end Go.Proofs.Ytpgoddffacgcmaa.Den
