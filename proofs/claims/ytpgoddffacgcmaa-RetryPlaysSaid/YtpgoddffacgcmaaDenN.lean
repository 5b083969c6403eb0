/- Regions whose order is open: a piece of the memory that nobody touches stays; what holds at every moment of such a region. -/
import Derived.Test.YtpgoddffacgcmaaDenM
namespace Go.Proofs.Ytpgoddffacgcmaa.Den
variable {P : Program}

theorem Sub.ne {H H₂ : AHeap} (h : Sub H H₂) {n : Name} (hn : H n ≠ none) : H₂ n ≠ none := by
  cases e : H n with
  | none => exact absurd e hn
  | some r => rw [h n r e]; simp

theorem ARel.sub {σ : Sig} {I : Imm} {H H₂ : AHeap} {w : World} (hs : Sub H H₂) (h : ARel σ I H₂ w) : ARel σ I H w where
  rows := fun n row hn => h.rows n row (hs n row hn)
  inj := fun n n' p p' hn hn' => h.inj n n' p p' (hs.ne hn) (hs.ne hn')
  imm := h.imm
  dis := fun n p m hn => h.dis n p m (hs.ne hn)

def merge (H H' H₂ : AHeap) : AHeap := fun n =>
  match H' n with
  | some r => some r
  | none =>
    match H n with
    | none => H₂ n
    | some _ => none

theorem merge_some {H H' H₂ : AHeap} {n : Name} {r : List AV} (h : H' n = some r) : merge H H' H₂ n = some r := by simp [merge, h]
theorem merge_extra {H H' H₂ : AHeap} {n : Name} (h : H' n = none) (h0 : H n = none) : merge H H' H₂ n = H₂ n := by simp [merge, h, h0]
theorem merge_cases {H H' H₂ : AHeap} {n : Name} {r : List AV} (h : merge H H' H₂ n = some r) : H' n = some r ∨ (H' n = none ∧ H n = none ∧ H₂ n = some r) := by
  unfold merge at h
  cases e : H' n with
  | some r' => rw [e] at h; exact .inl h
  | none =>
    rw [e] at h
    cases e2 : H n with
    | none => rw [e2] at h; exact .inr ⟨rfl, rfl, h⟩
    | some _ => rw [e2] at h; cases h

theorem extra_row {σ : Sig} {I : Imm} {H H₂ : AHeap} {w : World} (hs : Sub H H₂) (h₂ : ARel σ I H₂ w) {n : Name} {row : List AV} (h0 : H n = none) (h1 : H₂ n = some row) :
    ∃ p, σ n = some p ∧ p.b < w.heap.size ∧ ¬ Owns σ H p.b := by
  obtain ⟨p, c, el, fr, hp, hb, _⟩ := h₂.rows n row h1
  refine ⟨p, hp, (Array.getElem?_eq_some_iff.1 hb).1, ?_⟩
  rintro ⟨n', p', hn', hp', e⟩
  have := h₂.inj n' n p' p (hs.ne hn') (by rw [h1]; simp) hp' hp e
  subst this
  exact hn' h0

theorem extra_gone {nm : Name → Prop} {σ σ' : Sig} {I I' : Imm} {H H' H₂ : AHeap} {w w' : World} (hs : Sub H H₂) (h₂ : ARel σ I H₂ w) (st : Step nm σ I H w σ' I' H' w') {n : Name} {row : List AV} (h0 : H n = none) (h1 : H₂ n = some row) : H' n = none := by
  cases e : H' n with
  | none => rfl
  | some r =>
    obtain ⟨p, hp, hlt, hno⟩ := extra_row hs h₂ h0 h1
    rcases st.own p.b ⟨n, p, by rw [e]; simp, st.sig _ _ hp, rfl⟩ with h | h
    · exact absurd h hno
    · omega

theorem Owns.sub {σ : Sig} {H H₂ : AHeap} (hs : Sub H H₂) {b : Nat} (h : Owns σ H b) : Owns σ H₂ b := by
  obtain ⟨n, p, h1, h2, h3⟩ := h
  exact ⟨n, p, hs.ne h1, h2, h3⟩

/-- What a step does not know of stays. -/
theorem Step.frame {nm : Name → Prop} {σ σ' : Sig} {I I' : Imm} {H H' H₂ : AHeap} {w w' : World} (hs : Sub H H₂) (h₂ : ARel σ I H₂ w) (st : Step nm σ I H w σ' I' H' w') : Step nm σ I H₂ w σ' I' (merge H H' H₂) w' := by
  have row : ∀ n, merge H H' H₂ n ≠ none → H' n ≠ none ∨ ∃ row p, H' n = none ∧ H n = none ∧ H₂ n = some row ∧ σ n = some p ∧ p.b < w.heap.size ∧ ¬ Owns σ H p.b := by
    intro n hn
    cases e : merge H H' H₂ n with
    | none => exact absurd e hn
    | some r =>
      rcases merge_cases e with h | ⟨h1, h3, h4⟩
      · exact .inl (by rw [h]; simp)
      · obtain ⟨p, hp, hlt, hno⟩ := extra_row hs h₂ h3 h4
        exact .inr ⟨r, p, h1, h3, h4, hp, hlt, hno⟩
  have far : ∀ n p, H' n ≠ none → σ' n = some p → ∀ b, b < w.heap.size → ¬ Owns σ H b → p.b ≠ b := by
    rintro n p h1 h3 b hlt hno rfl
    rcases st.own p.b ⟨n, p, h1, h3, rfl⟩ with h | h
    · exact hno h
    · omega
  refine ⟨⟨?_, ?_, st.rel.imm, ?_⟩, st.sig, st.new, st.imm, ?_, ?_, st.fr.os, st.fr.tape, st.fr.output, st.fr.size, fun b hb ho => st.fr.block b hb fun h => ho (h.sub hs)⟩
  · intro n r hn
    rcases merge_cases hn with h | ⟨h1, h3, h4⟩
    · exact st.rel.rows n r h
    · obtain ⟨q, hq, hlt, hno⟩ := extra_row hs h₂ h3 h4
      obtain ⟨p, c, el, fr, hp, hb, ht, hf, hv⟩ := h₂.rows n r h4
      rw [hq] at hp; cases hp
      refine ⟨q, c, el, fr, st.sig _ _ hq, ?_, ht, hf, hv.mono st.sig st.imm⟩
      rw [st.fr.block q.b hlt hno]; exact hb
  · intro n n' p p' hn hn' hp hp' e
    rcases row n hn with h | ⟨r, q, h1, h3, h4, hq, hlt, hno⟩
    · rcases row n' hn' with h' | ⟨r', q', h1', h3', h4', hq', hlt', hno'⟩
      · exact st.rel.inj n n' p p' h h' hp hp' e
      · rw [st.sig _ _ hq'] at hp'; cases hp'
        exact absurd e (far n p h hp _ hlt' hno')
    · rw [st.sig _ _ hq] at hp; cases hp
      rcases row n' hn' with h' | ⟨r', q', h1', h3', h4', hq', hlt', hno'⟩
      · exact absurd e.symm (far n' p' h' hp' _ hlt hno)
      · rw [st.sig _ _ hq'] at hp'; cases hp'
        exact h₂.inj n n' _ _ (by rw [h4]; simp) (by rw [h4']; simp) hq hq' e
  · intro n p m hn hp
    rcases row n hn with h | ⟨r, q, h1, h3, h4, hq, hlt, hno⟩
    · exact st.rel.dis n p m h hp
    · rw [st.sig _ _ hq] at hp; cases hp
      cases e : I' m p.b with
      | none => rfl
      | some c =>
        rcases st.inew m p.b c e with h | h | h
        · rw [h₂.dis n p m (by rw [h4]; simp) hq] at h; cases h
        · omega
        · exact absurd h hno
  · intro m b c hb
    rcases st.inew m b c hb with h | h | h
    · exact .inl h
    · exact .inr (.inl h)
    · exact .inr (.inr (h.sub hs))
  · rintro b ⟨n, p, hn, hp, rfl⟩
    rcases row n hn with h | ⟨r, q, h1, h3, h4, hq, hlt, hno⟩
    · rcases st.own p.b ⟨n, p, h, hp, rfl⟩ with h | h
      · exact .inl (h.sub hs)
      · exact .inr h
    · rw [st.sig _ _ hq] at hp; cases hp
      exact .inl ⟨n, p, by rw [h4]; simp, hq, rfl⟩

/-! ### the memory at a moment -/
def isEAt (ops : Array Oper) (i : Nat) : Bool :=
  match ops[i]? with
  | some o => isE o
  | none => false

structure HR (ops : Array Oper) (ord : Nat → Nat) (c : Nat) (p : Name) (Hc : Nat → AHeap) (X : Nat → Option (List AV)) (b : Nat) (L : Nat → Prop) (HS : AHeap) : Prop where
  le : b ≤ ops.size
  low : ∀ k, k < b → L (ord k)
  noE : ∀ k, b ≤ k → k < ops.size → L (ord k) → isEAt ops (ord k) = false
  bIs : b = 0 ∨ ∃ k', b = k' + 1 ∧ k' < ops.size ∧ isEAt ops (ord k') = true
  h1 : Sub (Hc b) HS
  h2 : ∀ m row, HS m = some row → Hc b m = some row ∨ ∃ k, b ≤ k ∧ k < ops.size ∧ L (ord k) ∧ m = (c + ord k) :: p ∧ X k = some row
  h3 : ∀ k, b ≤ k → k < ops.size → L (ord k) → ∀ row, X k = some row → HS ((c + ord k) :: p) = some row
  h4 : ∀ k, b ≤ k → k < ops.size → X k ≠ none → Hc b ((c + ord k) :: p) = none

section
variable {ops : Array Oper} {ord : Nat → Nat} {c : Nat} {p : Name} {Hc : Nat → AHeap} {X : Nat → Option (List AV)} {b : Nat} {L L' : Nat → Prop} {HS : AHeap}

theorem name_inj (hinj : ∀ k k', k < ops.size → k' < ops.size → ord k = ord k' → k = k') {k k' : Nat} (hk : k < ops.size) (hk' : k' < ops.size) (h : (c + ord k) :: p = (c + ord k') :: p) : k = k' := by
  injection h with h _
  exact hinj k k' hk hk' (by omega)

theorem HR.mid (hinj : ∀ k k', k < ops.size → k' < ops.size → ord k = ord k' → k = k') (hfl : ∀ k, k < ops.size → isEAt ops (ord k) = false → Hc (k + 1) = ext (Hc k) ((c + ord k) :: p) (X k))
    (h : HR ops ord c p Hc X b L HS) : ∀ d, b + d ≤ ops.size → (∀ j, b ≤ j → j < b + d → L (ord j)) →
      Sub (Hc (b + d)) HS ∧ (∀ m row, Hc b m = some row → Hc (b + d) m = some row) ∧ (∀ j, b ≤ j → j < b + d → ∀ row, X j = some row → Hc (b + d) ((c + ord j) :: p) = some row) ∧
      (∀ j, b + d ≤ j → j < ops.size → X j ≠ none → Hc (b + d) ((c + ord j) :: p) = none) := by
  intro d
  induction d with
  | zero => intro _ _; exact ⟨h.h1, fun _ _ h => h, fun j h1 h2 => by omega, h.h4⟩
  | succ d ih =>
    intro hle hall
    obtain ⟨i1, i2, i3, i4⟩ := ih (by omega) (fun j h1 h2 => hall j h1 (by omega))
    have hl := hall (b + d) (by omega) (by omega)
    have e := hfl (b + d) (by omega) (h.noE _ (by omega) (by omega) hl)
    rw [← Nat.add_assoc, e]
    cases hx : X (b + d) with
    | none =>
      simp only [ext]
      refine ⟨i1, i2, fun j h1 h2 row hr => ?_, fun j h1 => i4 j (by omega)⟩
      by_cases ej : j = b + d
      · subst ej; rw [hx] at hr; cases hr
      · exact i3 j h1 (by omega) row hr
    | some r =>
      simp only [ext]
      have h3 := h.h3 (b + d) (by omega) (by omega) hl r hx
      have keep : ∀ m row, Hc (b + d) m = some row → upd (Hc (b + d)) ((c + ord (b + d)) :: p) (some r) m = some row := by
        intro m row hm
        by_cases em : m = (c + ord (b + d)) :: p
        · subst em
          rw [i1 _ _ hm] at h3
          rw [upd_same, h3]
        · rw [upd_ne _ _ em]; exact hm
      refine ⟨?_, fun m row hm => keep m row (i2 m row hm), ?_, ?_⟩
      · intro m row hm
        by_cases em : m = (c + ord (b + d)) :: p
        · subst em; rw [upd_same] at hm; rw [h3, hm]
        · rw [upd_ne _ _ em] at hm; exact i1 m row hm
      · intro j h1 h2 row hr
        by_cases ej : j = b + d
        · subst ej; rw [hx] at hr; cases hr; rw [upd_same]
        · exact keep _ _ (i3 j h1 (by omega) row hr)
      · intro j h1 h2 hxj
        rw [upd_ne]
        · exact i4 j (by omega) h2 hxj
        · intro e; have := name_inj hinj h2 (by omega) e; omega

theorem HR.float (hinj : ∀ k k', k < ops.size → k' < ops.size → ord k = ord k' → k = k') (h : HR ops ord c p Hc X b L HS) {k : Nat} (hk : k < ops.size) (hbk : b ≤ k) (hL : ∀ j, L' j ↔ j = ord k ∨ L j) (hE : isEAt ops (ord k) = false)
    (hno : HS ((c + ord k) :: p) = none) : HR ops ord c p Hc X b L' (ext HS ((c + ord k) :: p) (X k)) := by
  have hor : ∀ j, j < ops.size → L' (ord j) → j = k ∨ L (ord j) := fun j hj hl => ((hL _).1 hl).imp (hinj j k hj hk) id
  refine ⟨h.le, fun j hj => (hL _).2 (.inr (h.low j hj)), ?_, h.bIs, ?_, ?_, ?_, h.h4⟩
  · intro j h1 h2 hl
    rcases hor j h2 hl with rfl | hl
    · exact hE
    · exact h.noE j h1 h2 hl
  · intro m row hm
    have := h.h1 m row hm
    cases hx : X k with
    | none => exact this
    | some r =>
      simp only [ext]
      rw [upd_ne]; exact this
      rintro rfl; rw [hno] at this; cases this
  · intro m row hm
    have lift : HS m = some row → Hc b m = some row ∨ ∃ k, b ≤ k ∧ k < ops.size ∧ L' (ord k) ∧ m = (c + ord k) :: p ∧ X k = some row := by
      intro hm
      rcases h.h2 m row hm with h | ⟨j, h1, h2, h3, h4⟩
      · exact .inl h
      · exact .inr ⟨j, h1, h2, (hL _).2 (.inr h3), h4⟩
    cases hx : X k with
    | none => rw [hx] at hm; exact lift hm
    | some r =>
      rw [hx] at hm
      simp only [ext] at hm
      by_cases em : m = (c + ord k) :: p
      · subst em
        rw [upd_same] at hm
        exact .inr ⟨k, hbk, hk, (hL _).2 (.inl rfl), rfl, by rw [hx, hm]⟩
      · rw [upd_ne _ _ em] at hm; exact lift hm
  · intro j h1 h2 hl row hr
    rcases hor j h2 hl with rfl | hl
    · rw [hr]; simp [ext, upd_same]
    · have := h.h3 j h1 h2 hl row hr
      cases hx : X k with
      | none => exact this
      | some r =>
        simp only [ext]
        rw [upd_ne]; exact this
        intro e; rw [e, hno] at this; cases this

theorem HR.eff (hinj : ∀ k k', k < ops.size → k' < ops.size → ord k = ord k' → k = k') (hfl : ∀ k, k < ops.size → isEAt ops (ord k) = false → Hc (k + 1) = ext (Hc k) ((c + ord k) :: p) (X k))
    (h : HR ops ord c p Hc X b L HS) {k : Nat} (hk : k < ops.size) (hbk : b ≤ k) (hL : ∀ j, L' j ↔ j = ord k ∨ L j) (hn : ¬ L (ord k)) (hE : isEAt ops (ord k) = true) (hall : ∀ j, j < k → L (ord j))
    (hex : ∀ m row, Hc k m = none → HS m = some row → Hc (k + 1) m = none) (hfr : ∀ j, j < ops.size → ¬ L (ord j) → j ≠ k → Hc (k + 1) ((c + ord j) :: p) = none) :
    HR ops ord c p Hc X (k + 1) L' (merge (Hc k) (Hc (k + 1)) HS) := by
  obtain ⟨d, rfl⟩ := Nat.exists_eq_add_of_le hbk
  obtain ⟨m1, m2, m3, m4⟩ := h.mid hinj hfl d (by omega) (fun j _ h2 => hall j h2)
  have hor : ∀ j, b + d + 1 ≤ j → j < ops.size → L' (ord j) → L (ord j) := fun j hj hj2 hl => ((hL _).1 hl).elim (fun e => by have := hinj j _ hj2 hk e; omega) id
  refine ⟨by omega, ?_, ?_, .inr ⟨_, rfl, hk, hE⟩, fun m row hm => merge_some hm, ?_, ?_, ?_⟩
  · intro j hj
    by_cases e : j = b + d
    · subst e; exact (hL _).2 (.inl rfl)
    · exact (hL _).2 (.inr (hall j (by omega)))
  · intro j h1 h2 hl
    exact h.noE j (by omega) h2 (hor j h1 h2 hl)
  · intro m row hm
    rcases merge_cases hm with h' | ⟨h1, h2, h3⟩
    · exact .inl h'
    · rcases h.h2 m row h3 with h4 | ⟨j, j1, j2, j3, j4, j5⟩
      · rw [m2 m row h4] at h2; cases h2
      · subst j4
        by_cases hj : j < b + d
        · rw [m3 j j1 hj row j5] at h2; cases h2
        · by_cases ej : j = b + d
          · subst ej; exact absurd j3 hn
          · exact .inr ⟨j, by omega, j2, (hL _).2 (.inr j3), rfl, j5⟩
  · intro j h1 h2 hl row hr
    have h5 := h.h3 j (by omega) h2 (hor j h1 h2 hl) row hr
    have h6 := m4 j (by omega) h2 (by rw [hr]; simp)
    rw [merge_extra (hex _ _ h6 h5) h6]; exact h5
  · intro j h1 h2 hx
    by_cases hl : L (ord j)
    · cases hr : X j with
      | none => exact absurd hr hx
      | some row => exact hex _ row (m4 j (by omega) h2 hx) (h.h3 j (by omega) h2 hl row hr)
    · exact hfr j h2 hl (by omega)

theorem HR.done (hinj : ∀ k k', k < ops.size → k' < ops.size → ord k = ord k' → k = k') (hfl : ∀ k, k < ops.size → isEAt ops (ord k) = false → Hc (k + 1) = ext (Hc k) ((c + ord k) :: p) (X k))
    (h : HR ops ord c p Hc X b L HS) (hall : ∀ j, j < ops.size → L (ord j)) : HS = Hc ops.size := by
  have hle := h.le
  obtain ⟨d, hd⟩ := Nat.exists_eq_add_of_le hle
  obtain ⟨m1, m2, m3, m4⟩ := h.mid hinj hfl d (by omega) (fun j _ h2 => hall j (by omega))
  rw [← hd] at m1 m2 m3
  funext m
  cases e : HS m with
  | some row =>
    rcases h.h2 m row e with h4 | ⟨j, j1, j2, j3, j4, j5⟩
    · exact (m2 m row h4).symm
    · subst j4; exact (m3 j j1 j2 row j5).symm
  | none =>
    cases e2 : Hc ops.size m with
    | none => rfl
    | some row => rw [m1 m row e2] at e; cases e

end
end Go.Proofs.Ytpgoddffacgcmaa.Den
