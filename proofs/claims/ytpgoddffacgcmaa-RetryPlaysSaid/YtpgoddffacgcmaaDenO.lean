/- Regions whose order is open: every order ends as the one by which it was shown. -/
import Derived.Test.YtpgoddffacgcmaaDenN
namespace Go.Proofs.Ytpgoddffacgcmaa.Den
variable {P : Program}

/-- It must come first. -/
inductive Needs (ops : Array Oper) : Nat → Nat → Prop
  | one {i : Nat} {o : Oper} {e : Edge} (ho : ops[i]? = some o) (he : e ∈ o.after) (hb : Region.binds .any e = true) : Needs ops i e.on
  | more {i j : Nat} {o : Oper} {e : Edge} (ho : ops[i]? = some o) (he : e ∈ o.after) (hb : Region.binds .any e = true) (h : Needs ops e.on j) : Needs ops i j

def Down (ops : Array Oper) (L : Nat → Prop) : Prop := ∀ i o, L i → ops[i]? = some o → ∀ e ∈ o.after, Region.binds .any e = true → L e.on

theorem Needs.listed {ops : Array Oper} {L : Nat → Prop} (hd : Down ops L) {i j : Nat} (h : Needs ops i j) (hi : L i) : L j := by
  induction h with
  | one ho he hb => exact hd _ _ hi ho _ he hb
  | more ho he hb _ ih => exact ih (hd _ _ hi ho _ he hb)

theorem Needs.ready {ops : Array Oper} {L : Nat → Prop} (hd : Down ops L) {i j : Nat} (h : Needs ops i j) {o : Oper} (ho : ops[i]? = some o) (hi : ∀ e ∈ o.after, Region.binds .any e = true → L e.on) : L j := by
  cases h with
  | one ho' he hb => rw [ho] at ho'; cases ho'; exact hi _ he hb
  | more ho' he hb h => rw [ho] at ho'; cases ho'; exact h.listed hd (hi _ he hb)

structure Plan (ops : Array Oper) (ord : Nat → Nat) (chk : Nat → Nat → Prop) : Prop where
  lt : ∀ k, k < ops.size → ord k < ops.size
  onto : ∀ i, i < ops.size → ∃ k, k < ops.size ∧ ord k = i
  inj : ∀ k k', k < ops.size → k' < ops.size → ord k = ord k' → k = k'
  low : ∀ i o, ops[i]? = some o → ∀ e ∈ o.after, Region.binds .any e = true → e.on < i
  eff : ∀ k, k < ops.size → isEAt ops (ord k) = true → ∀ k', k' < k → Needs ops (ord k) (ord k')
  dst : ∀ k k', k < ops.size → k' < ops.size → k ≠ k' → ∀ o o' d, ops[ord k]? = some o → ops[ord k']? = some o' → o.dst = some d → o'.dst ≠ some d
  look : ∀ k k', k < ops.size → k' < ops.size → k ≠ k' → ∀ o o' d, ops[ord k]? = some o → ops[ord k']? = some o' → o'.dst = some d → d ∈ o.looksAt ops →
    if k' < k then Needs ops (ord k) (ord k') else Needs ops (ord k') (ord k)
  bnd : ∀ k, k < ops.size → isEAt ops (ord k) = false → ∀ b, b ≤ k → (b = 0 ∨ ∃ k', b = k' + 1 ∧ k' < ops.size ∧ isEAt ops (ord k') = true) →
    chk k b ∨ ∃ k', b ≤ k' ∧ k' < ops.size ∧ isEAt ops (ord k') = true ∧ Needs ops (ord k) (ord k')

structure Can (P : Program) (call : CallF) (ops : Array Oper) (p : Name) (c : Nat) (ord : Nat → Nat) (chk : Nat → Nat → Prop) (Tc : Nat → Temps) (Hc : Nat → AHeap) (X : Nat → Option (List AV)) : Prop where
  step : ∀ k, k < ops.size → ∃ o v, ops[ord k]? = some o ∧ Tc (k + 1) = tput (Tc k) o.dst v ∧
    ((awanted ops o (Tc k) = true ∧ aop P call o (env (Tc k)) ((c + ord k) :: p) (Hc k) = some (v, Hc (k + 1)) ∧
      (isE o = false → Hc (k + 1) = ext (Hc k) ((c + ord k) :: p) (X k) ∧ ∀ b HS, chk k b → Sub (Hc b) HS → aop P call o (env (Tc k)) ((c + ord k) :: p) HS = some (v, ext HS ((c + ord k) :: p) (X k)))) ∨
     (awanted ops o (Tc k) = false ∧ v = .val undef ∧ Hc (k + 1) = Hc k ∧ X k = none))

theorem env_congr {ops : Array Oper} {T T' : Temps} {o : Oper} (h : ∀ t ∈ o.looksAt ops, T t = T' t) : ∀ x ∈ o.op.operands, env T x = env T' x := by
  intro x hx
  cases x with
  | tmp t =>
    refine h t ?_
    unfold Oper.looksAt
    exact List.mem_append.2 (.inl (List.mem_filterMap.2 ⟨.tmp t, Array.mem_toList_iff.2 hx, rfl⟩))
  | const v => rfl
  | global g => rfl
  | func f => rfl

theorem awanted_congr {ops : Array Oper} {T T' : Temps} {o : Oper} (h : ∀ t ∈ o.looksAt ops, T t = T' t) : awanted ops o T = awanted ops o T' := by
  unfold awanted
  cases hg : o.guard with
  | none => rfl
  | some g =>
    obtain ⟨j, want⟩ := g
    have : ayielded ops T j = ayielded ops T' j := by
      unfold ayielded
      cases hd : (ops[j]?).bind (·.dst) with
      | none => rfl
      | some d =>
        have := h d (by unfold Oper.looksAt; rw [hg]; simp [hd])
        simp only [this]
    simp only [this]

theorem tput_same (T : Temps) (d : Tmp) (v : AV) : tput T (some d) v d = v := by simp [tput, tset]
theorem tput_ne (T : Temps) {x : Option Tmp} {d : Tmp} (v : AV) (h : x ≠ some d) : tput T x v d = T d := by
  cases x with
  | none => rfl
  | some y =>
    have : d ≠ y := by rintro rfl; exact h rfl
    simp [tput, tset, this]

section
variable {call : CallF} {ops : Array Oper} {p : Name} {c n : Nat} {ord : Nat → Nat} {chk : Nat → Nat → Prop} {Tc : Nat → Temps} {Hc : Nat → AHeap} {X : Nat → Option (List AV)}

theorem Can.early (_ : Plan ops ord chk) (h : Can P call ops p c ord chk Tc Hc X) {t : Tmp} : ∀ k, k ≤ ops.size → (∀ j, j < k → ∀ o, ops[ord j]? = some o → o.dst ≠ some t) → Tc k t = Tc 0 t := by
  intro k
  induction k with
  | zero => intro _ _; rfl
  | succ k ih =>
    intro hk hj
    obtain ⟨o, v, ho, ht, _⟩ := h.step k (by omega)
    rw [ht, tput_ne _ _ (hj k (by omega) o ho)]
    exact ih (by omega) fun j hj' => hj j (by omega)

theorem Can.late (_ : Plan ops ord chk) (h : Can P call ops p c ord chk Tc Hc X) {t : Tmp} {k : Nat} : ∀ m, k ≤ m → m ≤ ops.size → (∀ j, k ≤ j → j < m → ∀ o, ops[ord j]? = some o → o.dst ≠ some t) → Tc m t = Tc k t := by
  intro m
  induction m with
  | zero => intro h1 _ _; have : k = 0 := by omega
            subst this; rfl
  | succ m ih =>
    intro h1 h2 hj
    by_cases e : k = m + 1
    · subst e; rfl
    · obtain ⟨o, v, ho, ht, _⟩ := h.step m (by omega)
      rw [ht, tput_ne _ _ (hj m (by omega) (by omega) o ho)]
      exact ih (by omega) (by omega) fun j h3 h4 => hj j h3 (by omega)

theorem Can.put (pl : Plan ops ord chk) (h : Can P call ops p c ord chk Tc Hc X) {k : Nat} (hk : k < ops.size) {o : Oper} (ho : ops[ord k]? = some o) {d : Tmp} (hd : o.dst = some d) : Tc ops.size d = Tc (k + 1) d :=
  h.late pl ops.size (by omega) (Nat.le_refl _) fun j h1 h2 o' ho' => pl.dst k j hk h2 (by omega) o o' d ho ho' hd

theorem Can.fl (h : Can P call ops p c ord chk Tc Hc X) : ∀ k, k < ops.size → isEAt ops (ord k) = false → Hc (k + 1) = ext (Hc k) ((c + ord k) :: p) (X k) := by
  intro k hk hE
  obtain ⟨o, v, ho, ht, h1 | h1⟩ := h.step k hk
  · exact (h1.2.2 (by simpa [isEAt, ho] using hE)).1
  · rw [h1.2.2.1, h1.2.2.2]; rfl

structure Inv (ops : Array Oper) (ord : Nat → Nat) (c : Nat) (p : Name) (n : Nat) (Tc : Nat → Temps) (L : Nat → Prop) (σ : Sig) (I : Imm) (TS : Temps) (HS : AHeap) (a : Act) (w : World) : Prop where
  down : Down ops L
  tw : ∀ k, k < ops.size → L (ord k) → ∀ o d, ops[ord k]? = some o → o.dst = some d → TS d = Tc ops.size d
  tn : ∀ d, (∀ k, k < ops.size → L (ord k) → ∀ o, ops[ord k]? = some o → o.dst ≠ some d) → TS d = Tc 0 d
  fresh : ∀ j, j < ops.size → ¬ L j → Fresh ((c + j) :: p) σ
  above : FreshFrom p (c + ops.size) σ
  tr : ∀ i, VRel σ I (TS i) (a.tmps.getD i undef)
  size : a.tmps.size = n
  defers : a.defers = []
  rel : ARel σ I HS w

variable {L L' : Nat → Prop} {σ σ' : Sig} {I I' : Imm} {TS : Temps} {HS HS' : AHeap} {a : Act} {w w' : World}

theorem Inv.next (pl : Plan ops ord chk) (hd : dstOk n ops = true) (h : Inv ops ord c p n Tc L σ I TS HS a w) {k : Nat} (hk : k < ops.size) (hL : ∀ j, L' j ↔ j = ord k ∨ L j) {o : Oper} (ho : ops[ord k]? = some o)
    (hpre : ∀ e ∈ o.after, Region.binds .any e = true → L e.on) {v : AV} {vv : Value} (hv : ∀ d, o.dst = some d → Tc ops.size d = v) (st : Step (Under ((c + ord k) :: p)) σ I HS w σ' I' HS' w') (hvv : VRel σ' I' v vv) :
    Inv ops ord c p n Tc L' σ' I' (tput TS o.dst v) HS' (a.put o.dst vv) w' := by
  have hor : ∀ j, j < ops.size → L' (ord j) → j = k ∨ L (ord j) := fun j hj hl => ((hL _).1 hl).imp (pl.inj j k hj hk) id
  obtain ⟨h1, h2, h3⟩ := put_rel (fun i => (h.tr i).mono st.sig st.imm) h.size (dstOk_at hd ho) hvv
  refine ⟨?_, ?_, ?_, ?_, ?_, h1, h2, by rw [h3]; exact h.defers, st.rel⟩
  · intro i o' hi ho' e he hb
    rcases (hL _).1 hi with rfl | hi
    · rw [ho] at ho'; cases ho'; exact (hL _).2 (.inr (hpre e he hb))
    · exact (hL _).2 (.inr (h.down i o' hi ho' e he hb))
  · intro j hj hl o' d ho' hd'
    rcases hor j hj hl with rfl | hl
    · rw [ho] at ho'; cases ho'
      rw [hd', tput_same]; exact (hv d hd').symm
    · by_cases e : j = k
      · subst e; rw [ho] at ho'; cases ho'
        rw [hd', tput_same]; exact (hv d hd').symm
      · rw [tput_ne _ _ (pl.dst j k hj hk e o' o d ho' ho hd')]
        exact h.tw j hj hl o' d ho' hd'
  · intro d hall
    rw [tput_ne _ _ (hall k hk ((hL _).2 (.inl rfl)) o ho)]
    exact h.tn d fun j hj hl => hall j hj ((hL _).2 (.inr hl))
  · intro j hj hl s
    have hnl : ¬ L j := fun h => hl ((hL _).2 (.inr h))
    have hne : j ≠ ord k := fun h => hl ((hL _).2 (.inl h))
    cases e : σ' (s ++ (c + j) :: p) with
    | none => rfl
    | some x =>
      obtain ⟨s', hs'⟩ := st.new _ (h.fresh j hj hnl s) (by rw [e]; simp)
      have := tail_eq hs'
      omega
  · intro j s hj
    cases e : σ' (s ++ j :: p) with
    | none => rfl
    | some x =>
      obtain ⟨s', hs'⟩ := st.new _ (h.above j s hj) (by rw [e]; simp)
      have := tail_eq hs'
      have := pl.lt k hk
      omega

theorem count_lt {α : Type} {q r : α → Bool} {x : α} : ∀ {l : List α}, x ∈ l → (∀ y, r y = true → q y = true) → q x = true → r x = false → (l.filter r).length < (l.filter q).length := by
  intro l
  induction l with
  | nil => intro h; simp at h
  | cons y l ih =>
    intro hx hrq hq hr
    have hle : ∀ l : List α, (l.filter r).length ≤ (l.filter q).length := by
      intro l
      induction l with
      | nil => simp
      | cons z l ih =>
        simp only [List.filter_cons]
        cases hz : r z with
        | true => simp [hrq z hz, ih]
        | false => cases q z <;> simp <;> omega
    by_cases e : x = y
    · subst e
      simp only [List.filter_cons, hq, hr, if_true, List.length_cons]
      have := hle l
      simp; omega
    · have hx' : x ∈ l := by
        rcases List.mem_cons.1 hx with h | h
        · exact absurd h e
        · exact h
      have := ih hx' hrq hq hr
      simp only [List.filter_cons]
      cases hz : r y with
      | true => simp [hrq y hz, this]
      | false => cases q y <;> simp <;> omega

theorem any_wp (hcall : CallOK P call) (pl : Plan ops ord chk) (hcan : Can P call ops p c ord chk Tc Hc X) (hd : dstOk n ops = true) {Q : Exit → Act → World → Prop} : ∀ (fuel : Nat) (listed : Array Bool) (b : Nat) (TS : Temps) (HS : AHeap) (σ : Sig) (I : Imm) (a : Act) (w : World),
    listed.size = ops.size → ((List.range ops.size).filter fun i => !listed.getD i false).length ≤ fuel → HR ops ord c p Hc X b (fun i => listed.getD i false = true) HS → Inv ops ord c p n Tc (fun i => listed.getD i false = true) σ I TS HS a w →
    (∀ σ' I' a' w', Step (Under p) σ I HS w σ' I' (Hc ops.size) w' → St p (c + ops.size) n σ' I' (Tc ops.size) (Hc ops.size) a' w' → Q .normal a' w') → wpAny P .any ops Q fuel listed a w := by
  intro fuel
  induction fuel with
  | zero =>
    intro listed b TS HS σ I a w hsz hc hR hI hk
    have hall : ∀ i, i < ops.size → listed.getD i false = true := by
      intro i hi
      have h0 : ((List.range ops.size).filter fun i => !listed.getD i false) = [] := List.length_eq_zero_iff.1 (by omega)
      have := List.filter_eq_nil_iff.1 h0 i (List.mem_range.2 hi)
      simpa using this
    have hr : Region.ready .any ops listed = [] := by
      cases e : Region.ready .any ops listed with
      | nil => rfl
      | cons i r =>
        have hi : i ∈ Region.ready .any ops listed := by rw [e]; simp
        obtain ⟨h1, o, h2, _⟩ := mem_ready.1 hi
        have hlt := (Array.getElem?_eq_some_iff.1 h2).1
        have := hall i hlt
        rw [Array.getD_eq_getD_getElem?, Array.getElem?_eq_getElem (by omega)] at h1 this
        simp at h1 this
        rw [h1] at this; cases this
    refine wpAny_done hr ?_ _
    have e1 := hR.done pl.inj hcan.fl (fun j hj => hall _ (pl.lt j hj))
    have e2 : TS = Tc ops.size := by
      funext t
      by_cases hex : ∃ k o, k < ops.size ∧ ops[ord k]? = some o ∧ o.dst = some t
      · obtain ⟨k, o, h1, h2, h3⟩ := hex
        exact hI.tw k h1 (hall _ (pl.lt k h1)) o t h2 h3
      · rw [hI.tn t fun k h1 _ o h2 h3 => hex ⟨k, o, h1, h2, h3⟩]
        exact (hcan.early pl ops.size (Nat.le_refl _) fun j hj o h2 h3 => hex ⟨j, o, hj, h2, h3⟩).symm
    have hrel := hI.rel
    rw [e1] at hI
    rw [e2] at hI
    have := hk σ I a w (by rw [← e1]; exact Step.refl _ hrel) ⟨hI.tr, hI.size, hI.defers, hI.rel, hI.above⟩
    exact this
  | succ fuel ih =>
    intro listed b TS HS σ I a w hsz hc hR hI hk
    by_cases hr : Region.ready .any ops listed = []
    · have hall : ∀ i, i < ops.size → listed.getD i false = true := by
        intro i
        induction i using Nat.strongRecOn with
        | _ i ihi =>
          intro hi
          cases e : listed.getD i false with
          | true => rfl
          | false =>
            exfalso
            have : i ∈ Region.ready .any ops listed := by
              refine mem_ready.2 ⟨?_, ops[i], Array.getElem?_eq_getElem hi, fun e' he hb => ?_⟩
              · rw [Array.getD_eq_getD_getElem?, Array.getElem?_eq_getElem (by omega)] at e ⊢
                exact e
              · have := pl.low i _ (Array.getElem?_eq_getElem hi) e' he hb
                exact ihi _ this (by omega)
            rw [hr] at this; simp at this
      refine wpAny_done hr ?_ _
      have e1 := hR.done pl.inj hcan.fl (fun j hj => hall _ (pl.lt j hj))
      have e2 : TS = Tc ops.size := by
        funext t
        by_cases hex : ∃ k o, k < ops.size ∧ ops[ord k]? = some o ∧ o.dst = some t
        · obtain ⟨k, o, h1, h2, h3⟩ := hex
          exact hI.tw k h1 (hall _ (pl.lt k h1)) o t h2 h3
        · rw [hI.tn t fun k h1 _ o h2 h3 => hex ⟨k, o, h1, h2, h3⟩]
          exact (hcan.early pl ops.size (Nat.le_refl _) fun j hj o h2 h3 => hex ⟨j, o, hj, h2, h3⟩).symm
      have hrel := hI.rel
      rw [e1] at hI
      rw [e2] at hI
      exact hk σ I a w (by rw [← e1]; exact Step.refl _ hrel) ⟨hI.tr, hI.size, hI.defers, hI.rel, hI.above⟩
    · refine ⟨fun h => absurd h hr, fun i hi => ?_⟩
      obtain ⟨hni, o, ho, hpre⟩ := mem_ready.1 hi
      have hlt := (Array.getElem?_eq_some_iff.1 ho).1
      obtain ⟨k, hkn, rfl⟩ := pl.onto i hlt
      have hnf : listed.getD (ord k) false = false := by
        rw [Array.getD_eq_getD_getElem?, Array.getElem?_eq_getElem (by omega)] at hni ⊢
        exact hni
      have hbk : b ≤ k := by
        apply Nat.le_of_not_lt
        intro hlt'
        have := hR.low k hlt'
        simp only [hnf] at this; cases this
      have hL : ∀ j, (listed.setIfInBounds (ord k) true).getD j false = true ↔ j = ord k ∨ listed.getD j false = true := by
        intro j
        by_cases e : j = ord k
        · subst e
          simp [Array.getD_eq_getD_getElem?, show ord k < listed.size by omega]
        · rw [getD_set_ne false (fun h => e h.symm)]; simp [e]
      have hcnt : ((List.range ops.size).filter fun i => !(listed.setIfInBounds (ord k) true).getD i false).length ≤ fuel := by
        have : ((List.range ops.size).filter fun i => !(listed.setIfInBounds (ord k) true).getD i false).length < ((List.range ops.size).filter fun i => !listed.getD i false).length := by
          refine count_lt (x := ord k) (List.mem_range.2 hlt) ?_ (by simp only [hnf, Bool.not_false]) ?_
          · intro y hy
            cases e : listed.getD y false with
            | false => rfl
            | true => rw [(hL y).2 (.inr e)] at hy; cases hy
          · rw [(hL (ord k)).2 (.inl rfl)]; rfl
        omega
      have hsz' : (listed.setIfInBounds (ord k) true).size = ops.size := by simp [hsz]
      have hlook : ∀ t ∈ o.looksAt ops, TS t = Tc k t := by
        intro t ht
        by_cases hex : ∃ k' o', k' < ops.size ∧ ops[ord k']? = some o' ∧ o'.dst = some t
        · obtain ⟨k', o', h1, h2, h3⟩ := hex
          by_cases ek : k = k'
          · subst ek
            rw [ho] at h2; cases h2
            rw [hI.tn t fun j hj hl o' ho' hd' => ?_]
            · exact (hcan.early pl k (by omega) fun j hj o' ho' => pl.dst k j hkn (by omega) (by omega) o o' t ho ho' h3).symm
            · have hjk : j ≠ k := by rintro rfl; simp only [hnf] at hl; cases hl
              exact pl.dst k j hkn hj (Ne.symm hjk) o o' t ho ho' h3 hd'
          · have hlk := pl.look k k' hkn h1 ek o o' t ho h2 h3 ht
            by_cases hlt' : k' < k
            · rw [if_pos hlt'] at hlk
              have hl : listed.getD (ord k') false = true := hlk.ready hI.down ho hpre
              rw [hI.tw k' h1 hl o' t h2 h3]
              rw [hcan.put pl h1 h2 h3]
              exact (hcan.late pl k (by omega) (by omega) fun j h4 h5 o'' ho'' => pl.dst k' j h1 (by omega) (by omega) o' o'' t h2 ho'' h3).symm
            · rw [if_neg hlt'] at hlk
              have hnl : ¬ listed.getD (ord k') false = true := by
                intro hl
                have := hlk.listed hI.down hl
                simp only [hnf] at this; cases this
              rw [hI.tn t fun j hj hl o'' ho'' hd'' => ?_]
              · exact (hcan.early pl k (by omega) fun j hj o'' ho'' => pl.dst k' j h1 (by omega) (by omega) o' o'' t h2 ho'' h3).symm
              · have hjk : j ≠ k' := by rintro rfl; exact hnl hl
                exact pl.dst k' j h1 hj (Ne.symm hjk) o' o'' t h2 ho'' h3 hd''
        · rw [hI.tn t fun j hj _ o' h2 h3 => hex ⟨j, o', hj, h2, h3⟩]
          exact (hcan.early pl k (by omega) fun j hj o' h2 h3 => hex ⟨j, o', by omega, h2, h3⟩).symm
      have hfresh : Fresh ((c + ord k) :: p) σ := hI.fresh _ hlt (by simp only [hnf]; simp)
      have hHS : HS ((c + ord k) :: p) = none := by
        cases e : HS ((c + ord k) :: p) with
        | none => rfl
        | some row =>
          obtain ⟨q, _, _, _, hq, _⟩ := hI.rel.rows _ row e
          have := hfresh []
          simp only [List.nil_append] at this
          rw [this] at hq; cases hq
      obtain ⟨o', v, ho', ht, hrun⟩ := hcan.step k hkn
      rw [ho] at ho'; cases ho'
      have hvd : ∀ d, o.dst = some d → Tc ops.size d = v := by
        intro d hd'
        rw [hcan.put pl hkn ho hd', ht, hd', tput_same]
      unfold wpOp
      simp only [ho]
      rw [wanted_rel hI.tr hI.size hd o, awanted_congr hlook]
      by_cases hE : isE o = true
      · have hEA : isEAt ops (ord k) = true := by simpa [isEAt, ho] using hE
        have hall : ∀ j, j < k → listed.getD (ord j) false = true := fun j hj => (pl.eff k hkn hEA j hj).ready hI.down ho hpre
        obtain ⟨d, hkd⟩ := Nat.exists_eq_add_of_le hbk
        obtain ⟨m1, m2, m3, m4⟩ := hR.mid pl.inj hcan.fl d (by omega) (fun j _ h2 => hall j (by omega))
        rw [← hkd] at m1
        have go : ∀ vv w₁ σ₁ I₁, Step (Under ((c + ord k) :: p)) σ I (Hc k) w σ₁ I₁ (Hc (k + 1)) w₁ → VRel σ₁ I₁ v vv → wpAny P .any ops Q fuel (listed.setIfInBounds (ord k) true) (a.put o.dst vv) w₁ := by
          intro vv w₁ σ₁ I₁ st hvv
          have st' := st.frame m1 hI.rel
          have hR' := hR.eff pl.inj hcan.fl hkn hbk hL (by simp only [hnf]; simp) hEA hall (fun m row h0 h1 => extra_gone m1 hI.rel st h0 h1) (by
            intro j hj hl hjk
            have hf := hI.fresh _ (pl.lt j hj) hl
            cases e : Hc (k + 1) ((c + ord j) :: p) with
            | none => rfl
            | some row =>
              obtain ⟨q, _, _, _, hq, _⟩ := st.rel.rows _ row e
              obtain ⟨s', hs'⟩ := st.new ((c + ord j) :: p) (by simpa using hf []) (by rw [hq]; simp)
              have := tail_eq (s := []) hs'
              exact absurd (pl.inj j k hj hkn (by omega)) hjk)
          refine ih _ (k + 1) _ _ σ₁ I₁ _ w₁ hsz' hcnt hR' (hI.next pl hd hkn hL ho hpre hvd st' hvv) ?_
          intro σ₂ I₂ a₂ w₂ hs₂ st₂
          exact hk σ₂ I₂ a₂ w₂ ((st'.weaken fun _ => under_cons).trans hs₂) st₂
        rcases hrun with ⟨hw, hrun, _⟩ | ⟨hw, rfl, hH, _⟩
        · rw [if_pos hw]
          refine .inl (aop_wp hcall hI.tr (hI.rel.sub m1) hfresh ((aop_congr (env_congr hlook)).trans hrun) ?_)
          intro vv w₁ σ₁ I₁ st hvv
          exact go vv w₁ σ₁ I₁ st hvv
        · rw [if_neg (by rw [hw]; simp)]
          refine go undef w σ I ?_ (.val undef)
          rw [hH]; exact Step.refl _ (hI.rel.sub m1)
      · have hE' : isE o = false := by simpa using hE
        have hEA : isEAt ops (ord k) = false := by simpa [isEAt, ho] using hE'
        have go : ∀ vv w₁ σ₁ I₁, Step (Under ((c + ord k) :: p)) σ I HS w σ₁ I₁ (ext HS ((c + ord k) :: p) (X k)) w₁ → VRel σ₁ I₁ v vv → wpAny P .any ops Q fuel (listed.setIfInBounds (ord k) true) (a.put o.dst vv) w₁ := by
          intro vv w₁ σ₁ I₁ st hvv
          refine ih _ b _ _ σ₁ I₁ _ w₁ hsz' hcnt (hR.float pl.inj hkn hbk hL hEA hHS) (hI.next pl hd hkn hL ho hpre hvd st hvv) ?_
          intro σ₂ I₂ a₂ w₂ hs₂ st₂
          exact hk σ₂ I₂ a₂ w₂ ((st.weaken fun _ => under_cons).trans hs₂) st₂
        rcases hrun with ⟨hw, hrun, hfl⟩ | ⟨hw, rfl, hH, hX⟩
        · rw [if_pos hw]
          have hchk : chk k b := by
            rcases pl.bnd k hkn hEA b hbk hR.bIs with h | ⟨k', h1, h2, h3, h4⟩
            · exact h
            · have hl : listed.getD (ord k') false = true := h4.ready hI.down ho hpre
              have := hR.noE k' h1 h2 hl
              rw [h3] at this; cases this
          have := (hfl hE').2 b HS hchk hR.h1
          refine .inl (aop_wp hcall hI.tr hI.rel hfresh ((aop_congr (env_congr hlook)).trans this) ?_)
          intro vv w₁ σ₁ I₁ st hvv
          exact go vv w₁ σ₁ I₁ st hvv
        · rw [if_neg (by rw [hw]; simp)]
          refine go undef w σ I ?_ (.val undef)
          rw [hX]; exact Step.refl _ hI.rel

theorem draw_wp (hm : P.follows .mixedOrders = true) (hcall : CallOK P call) (pl : Plan ops ord chk) (hcan : Can P call ops p c ord chk Tc Hc X) (hd : dstOk n ops = true) {Q : Exit → Nat → Temps → AHeap → Prop} {id : Nat}
    (hq : Q .normal (c + ops.size) (Tc ops.size) (Hc ops.size)) : AWP P p n (.region id ops true) Q c (Tc 0) (Hc 0) := by
  intro σ I a w Q' st k
  refine wp_region_any hm ?_
  have hs0 : Step (Under p) σ I (Hc 0) w σ I (Hc 0) { w with drawn := w.drawn + 1 } := Step.drawn st.rel rfl rfl rfl rfl
  have hno : ∀ i, ¬ (Array.replicate ops.size false).getD i false = true := by
    intro i
    simp [Array.getD_eq_getD_getElem?, Array.getElem?_replicate]
    split <;> simp
  refine any_wp hcall pl hcan hd ops.size _ 0 (Tc 0) (Hc 0) σ I a _ (by simp) ?_ ?_ ?_ ?_
  · exact Nat.le_trans (List.length_filter_le _ _) (by simp)
  · refine ⟨Nat.zero_le _, fun k hk => by omega, fun k _ _ h => absurd h (hno _), .inl rfl, fun m row h => h, fun m row h => .inl h, fun k _ _ h => absurd h (hno _), ?_⟩
    intro k _ hk _
    cases e : Hc 0 ((c + ord k) :: p) with
    | none => rfl
    | some row =>
      obtain ⟨q, _, _, _, hq', _⟩ := st.rel.rows _ row e
      have := st.fresh (c + ord k) [] (by omega)
      simp only [List.nil_append] at this
      rw [this] at hq'; cases hq'
  · refine ⟨fun i o h => absurd h (hno _), fun k _ h => absurd h (hno _), fun _ _ => rfl, fun j hj _ => st.fresh.here _ (by omega), st.fresh.mono (by omega), st.tr, st.size, st.defers, hs0.rel⟩
  · intro σ' I' a' w' hs st'
    exact k _ _ _ _ σ' I' a' w' hq (hs0.trans hs) st'
end
end Go.Proofs.Ytpgoddffacgcmaa.Den
