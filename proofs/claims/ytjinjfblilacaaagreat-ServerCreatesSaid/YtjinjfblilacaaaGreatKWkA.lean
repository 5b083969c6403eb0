/- Contracts of functions over the abstract memory: what only reads its arguments may be given rows that are owned; rows that nobody will write become plain lists. -/
import Derived.Test.YtjinjfblilacaaaGreatKDenM
set_option linter.unusedVariables false
set_option linter.unusedSimpArgs false
section
set_option linter.unusedSimpArgs false
set_option linter.unusedVariables false
namespace Go.Proofs.YtjinjfblilacaaaGreat.Den
variable {P : Program}
/-! ### values that name no block of the caller's that is lent -/
mutual
def AV.clean : AV -> Bool
  | .val _ => true
  | .ptr _ _ => true
  | .imp m c _ => m && AV.cleans c
  | .sl _ _ _ _ => true
  | .im m n c => (m || (Nat.beq n 0 && c.isEmpty)) && AV.cleans c
  | .agg c => AV.cleans c
  | .tup c => AV.cleans c
  | .fn _ a b => AV.cleans a && AV.cleans b
def AV.cleans : List AV -> Bool
  | [] => true
  | a :: l => AV.clean a && AV.cleans l
end
mutual
theorem VRel.only {σ : Sig} {I I' : Imm} (hi : ∀ b c, I true b = some c -> I' true b = some c) {a : AV} {v : Value} (h : VRel σ I a v) (hc : a.clean = true) : VRel σ I' a v :=
  match h with
  | .val v => .val v
  | .ptr h => .ptr h
  | .imp (m := m) h hv => by
    simp only [AV.clean, Bool.and_eq_true] at hc
    obtain ⟨rfl, h2⟩ := hc
    exact .imp (hi _ _ h) (VRels.only hi hv h2)
  | .sl h hl hc => .sl h hl hc
  | .im0 => .im0
  | .im (m := m) (len := len) (cells := cells) h hv hl => by
    simp only [AV.clean, Bool.and_eq_true, Bool.or_eq_true] at hc
    obtain ⟨h1, h2⟩ := hc
    cases m with
    | true => exact .im (hi _ _ h) (VRels.only hi hv h2) hl
    | false =>
      rcases h1 with h1 | ⟨h1, h3⟩
      · cases h1
      · obtain rfl := Nat.eq_of_beq_eq_true h1
        have : cells = [] := by cases cells with | nil => rfl | cons _ _ => simp at h3
        subst this
        exact .im0
  | .agg h => .agg (VRels.only hi h (by simpa only [AV.clean] using hc))
  | .tup h => .tup (VRels.only hi h (by simpa only [AV.clean] using hc))
  | .fn h h' => by
    simp only [AV.clean, Bool.and_eq_true] at hc
    exact .fn (VRels.only hi h hc.1) (VRels.only hi h' hc.2)
theorem VRels.only {σ : Sig} {I I' : Imm} (hi : ∀ b c, I true b = some c -> I' true b = some c) {a : List AV} {v : List Value} (h : VRels σ I a v) (hc : AV.cleans a = true) : VRels σ I' a v :=
  match h with
  | .nil => .nil
  | .cons h t => by
    simp only [AV.cleans, Bool.and_eq_true] at hc
    exact .cons (VRel.only hi h hc.1) (VRels.only hi t hc.2)
end
/-! ### what is lent -/
mutual
inductive Der (H : AHeap) : AV -> AV -> Prop
  | refl (a : AV) : Der H a a
  | nil {m : Bool} : Der H (.val (.slice none 0 0)) (.im m 0 [])
  | sl {n : Name} {off len sz : Nat} {row cells : List AV} (h : H n = some row) (hl : off + len * sz <= row.length) (hc : Ders H ((row.drop off).take (len * sz)) cells) : Der H (.sl n off len sz) (.im false len cells)
  | sl0 {n : Name} {off sz : Nat} {m : Bool} : Der H (.sl n off 0 sz) (.im m 0 [])
  | ptr {n : Name} {off : Nat} {row cells : List AV} (h : H n = some row) (hc : Ders H row cells) : Der H (.ptr n off) (.imp false cells off)
  | im {m : Bool} {len : Nat} {l l' : List AV} (h : Ders H l l') : Der H (.im m len l) (.im m len l')
  | agg {l l' : List AV} (h : Ders H l l') : Der H (.agg l) (.agg l')
inductive Ders (H : AHeap) : List AV -> List AV -> Prop
  | nil : Ders H [] []
  | cons {a a' : AV} {l l' : List AV} (h : Der H a a') (t : Ders H l l') : Ders H (a :: l) (a' :: l')
end
theorem Ders.refl (H : AHeap) : ∀ l, Ders H l l
  | [] => .nil
  | a :: l => .cons (.refl a) (Ders.refl H l)
theorem Ders.length {H : AHeap} : ∀ {l l' : List AV}, Ders H l l' -> l.length = l'.length
  | _, _, .nil => rfl
  | _, _, .cons _ t => by simp [Ders.length t]
section lent
variable {σ : Sig} {I : Imm} {H : AHeap} {w : World}
/-- All of ours is lent. -/
noncomputable def lent (σ : Sig) (I : Imm) (H : AHeap) (w : World) : Imm := fun m b =>
  match I m b with
  | some c => some c
  | none => open Classical in if m = false /\ Owns σ H b then (match w.heap[b]? with | some (.cells c _ _) => some c | _ => none) else none
theorem lent_le : I.le (lent σ I H w) := fun m b c h => by simp [lent, h]
theorem lent_own (hr : ARel σ I H w) {n : Name} {p : Place} {row : List AV} {c : Array Value} {el : TypeId} {fr : Nat × Nat} (hn : H n = some row) (hp : σ n = some p) (hb : w.heap[p.b]? = some (.cells c el fr)) : lent σ I H w false p.b = some c := by
  unfold lent
  rw [hr.dis n p false (by rw [hn]; simp) hp]
  have : Owns σ H p.b := ⟨n, p, by rw [hn]; simp, hp, rfl⟩
  simp [this, hb]
mutual
theorem Der.rel (hr : ARel σ I H w) {a a' : AV} {v : Value} (h : Der H a a') (hv : VRel σ I a v) : VRel σ (lent σ I H w) a' v :=
  match h with
  | .refl _ => hv.mono (Sig.le_refl _) lent_le
  | .nil => by cases hv; exact .im0
  | .sl0 => by cases hv; exact .im0
  | .sl (n := n) (off := off) (len := len) (sz := sz) (row := row) (cells := cells) hn hl hc => by
    cases hv with
    | @sl _ _ _ _ cap p hp hlc hcap =>
      obtain ⟨p', c, el, fr, hp', hb, ht, hf, hrow⟩ := hr.rows n row hn
      rw [hp] at hp'; cases hp'
      have h1 := (hrow.drop off).take (len * sz)
      have e1 : ((seg c p.o row.length).drop off).take (len * sz) = seg c (p.o + off) (len * sz) := by
        simp only [seg, List.drop_take, List.drop_drop, List.take_take]
        congr 1
        omega
      rw [e1] at h1
      have h2 := Ders.rel hr hc h1
      have hlen : cells.length = len * sz := by
        rw [<- Ders.length hc]; simp; omega
      exact .im (lent_own hr hn hp hb) (by rw [hlen]; exact h2) hlc
  | .ptr (n := n) (off := off) (row := row) (cells := cells) hn hc => by
    cases hv with
    | @ptr _ _ p hp =>
      obtain ⟨p', c, el, fr, hp', hb, ht, hf, hrow⟩ := hr.rows n row hn
      rw [hp] at hp'; cases hp'
      have h2 := Ders.rel hr hc hrow
      exact .imp (lent_own hr hn hp hb) (by rw [<- Ders.length hc]; exact h2)
  | .im (l := l) (l' := l') h => by
    cases hv with
    | im0 => cases h; exact .im0
    | im hI hc hl => exact .im (lent_le _ _ _ hI) (by rw [<- Ders.length h]; exact Ders.rel hr h hc) hl
  | .agg h => by
    cases hv with
    | agg hv => exact .agg (Ders.rel hr h hv)
theorem Ders.rel (hr : ARel σ I H w) {l l' : List AV} {vs : List Value} (h : Ders H l l') (hv : VRels σ I l vs) : VRels σ (lent σ I H w) l' vs :=
  match h with
  | .nil => by cases hv; exact .nil
  | .cons h t => by
    cases hv with
    | cons hv tv => exact .cons (Der.rel hr h hv) (Ders.rel hr t tv)
end
end lent
/-! ### rows that nobody will write any more -/
theorem Step.freeze {nm : Name -> Prop} {σ : Sig} {I : Imm} {H : AHeap} {w : World} (hr : ARel σ I H w) {n : Name} {row : List AV} (hrow : H n = some row) :
    ∃ p c I', σ n = some p /\ VRels σ I row (seg c p.o row.length) /\ p.tot = c.size /\ I' true p.b = some c /\ I.le I' /\ Step nm σ I H w σ I' (upd H n none) w := by
  obtain ⟨p, c, el, fr, hp, hb, ht, hf, hv⟩ := hr.rows n row hrow
  have hne : H n ≠ none := by rw [hrow]; simp
  have hdis : ∀ m, I m p.b = none := fun m => hr.dis n p m hne hp
  let I' : Imm := fun m b => if m = true /\ b = p.b then some c else I m b
  have hII : I.le I' := fun m b c' h => by
    show (if m = true /\ b = p.b then some c else I m b) = _
    by_cases e1 : b = p.b
    · subst e1; rw [hdis] at h; cases h
    · rw [if_neg (by rintro ⟨_, e⟩; exact e1 e)]; exact h
  have hI1 : I' true p.b = some c := if_pos ⟨rfl, rfl⟩
  have hother : ∀ n' p', upd H n none n' ≠ none -> σ n' = some p' -> H n' ≠ none /\ p'.b ≠ p.b := by
    intro n' q h1 h2
    have hnn : n' ≠ n := by rintro rfl; rw [upd_same] at h1; exact h1 rfl
    rw [upd_ne _ _ hnn] at h1
    exact ⟨h1, fun e => hnn (hr.inj n' n q p h1 hne h2 hp e)⟩
  refine ⟨p, c, I', hp, hv, ht, hI1, hII, ⟨⟨?_, ?_, ?_, ?_⟩, Sig.le_refl _, fun _ h h' => absurd h h', hII, ?_, ?_, rfl, rfl, rfl, Nat.le_refl _, fun _ _ _ => rfl⟩⟩
  · intro n' row' hn'
    have hnn : n' ≠ n := by rintro rfl; rw [upd_same] at hn'; cases hn'
    rw [upd_ne _ _ hnn] at hn'
    obtain ⟨q, c', el', fr', hq, hb', ht', hf', hv'⟩ := hr.rows n' row' hn'
    exact ⟨q, c', el', fr', hq, hb', ht', hf', hv'.mono (Sig.le_refl _) hII⟩
  · intro a b p1 p2 ha hb2 h1 h2 e
    exact hr.inj a b p1 p2 (hother a p1 ha h1).1 (hother b p2 hb2 h2).1 h1 h2 e
  · intro m b c' hc
    by_cases eb : m = true /\ b = p.b
    · have : c' = c := by simp only [I'] at hc; rw [if_pos eb] at hc; exact (Option.some.inj hc).symm
      subst this
      exact ⟨el, fr, by rw [eb.2]; exact hb⟩
    · have hc' : I m b = some c' := by simp only [I'] at hc; rwa [if_neg eb] at hc
      exact hr.imm m b c' hc'
  · intro n' q m h1 h2
    obtain ⟨h3, h4⟩ := hother n' q h1 h2
    show (if m = true /\ q.b = p.b then some c else I m q.b) = none
    rw [if_neg (by rintro ⟨_, e⟩; exact h4 e)]
    exact hr.dis n' q m h3 h2
  · intro m b c' hc
    by_cases eb : m = true /\ b = p.b
    · exact .inr (.inr ⟨n, p, hne, hp, eb.2.symm⟩)
    · simp only [I'] at hc
      rw [if_neg eb] at hc
      exact .inl hc
  · rintro b ⟨n', q, h1, h2, rfl⟩
    exact .inl ⟨n', q, (hother n' q h1 h2).1, h2, rfl⟩
/-- A value, once a row of its is given up. -/
inductive Frz (n : Name) (row : List AV) : AV -> AV -> Prop
  | refl (a : AV) : Frz n row a a
  | sl {off len sz : Nat} (h : off + len * sz <= row.length) : Frz n row (.sl n off len sz) (.im true len ((row.drop off).take (len * sz)))
  | ptr {off : Nat} : Frz n row (.ptr n off) (.imp true row off)
  | agg {l l' : List AV} (hl : l.length = l'.length) (h : ∀ (i : Nat) (a a' : AV), l[i]? = some a -> l'[i]? = some a' -> a = a' \/ ∃ off len sz, off + len * sz <= row.length /\ a = .sl n off len sz /\ a' = .im true len ((row.drop off).take (len * sz))) : Frz n row (.agg l) (.agg l')
theorem seg_part {c : Array Value} {o k off m : Nat} {row : List AV} {σ : Sig} {I : Imm} (hv : VRels σ I row (seg c o row.length)) (hle : off + m <= row.length) : ((row.drop off).take m).length = m /\ VRels σ I ((row.drop off).take m) (seg c (o + off) m) := by
  refine ⟨by simp; omega, ?_⟩
  have h1 := (hv.drop off).take m
  have e1 : ((seg c o row.length).drop off).take m = seg c (o + off) m := by
    simp only [seg, List.drop_take, List.drop_drop, List.take_take]
    congr 1
    omega
  rwa [e1] at h1
theorem Frz.rel {σ : Sig} {I I' : Imm} {n : Name} {row : List AV} {p : Place} {c : Array Value} (hp : σ n = some p) (hv : VRels σ I row (seg c p.o row.length)) (hI : I' true p.b = some c) (hII : I.le I') {a a' : AV} {v : Value} (h : Frz n row a a') (ha : VRel σ I a v) : VRel σ I' a' v := by
  have one : ∀ {off len sz : Nat} {v : Value}, off + len * sz <= row.length -> VRel σ I (.sl n off len sz) v -> VRel σ I' (.im true len ((row.drop off).take (len * sz))) v := by
    intro off len sz v hle ha
    cases ha with
    | @sl _ _ _ _ cap q hq hl hc =>
      rw [hp] at hq; cases hq
      obtain ⟨h1, h2⟩ := seg_part (k := 0) hv hle
      exact .im hI (by rw [h1]; exact h2.mono (Sig.le_refl _) hII) hl
  cases h with
  | refl => exact ha.mono (Sig.le_refl _) hII
  | sl hle => exact one hle ha
  | ptr =>
    cases ha with
    | @ptr _ _ q hq =>
      rw [hp] at hq; cases hq
      exact .imp hI (hv.mono (Sig.le_refl _) hII)
  | agg hl h =>
    cases ha with
    | agg ha =>
      refine .agg (VRels.of_get (by rw [<- hl]; exact ha.length) fun i x u hx hu => ?_)
      have hi : i < _ := (List.getElem?_eq_some_iff.1 hx).1
      rw [<- hl] at hi
      obtain ⟨u', h1, h2⟩ := ha.get (List.getElem?_eq_getElem hi)
      rw [hu] at h1; cases h1
      rcases h i _ x (List.getElem?_eq_getElem hi) hx with e | ⟨off, len, sz, hle, e1, e2⟩
      · rw [<- e]; exact h2.mono (Sig.le_refl _) hII
      · rw [e1] at h2; rw [e2]; exact one hle h2
section rules
variable {p : Name} {m : Nat} {code : Code} {Q : Exit -> Nat -> Temps -> AHeap -> Prop} {c : Nat} {T T' : Temps} {H H' : AHeap}
/-- A row is given up: temporaries and rows that name it hold its cells from now on. -/
theorem AWP.freeze {n : Name} {row : List AV} (hrow : H n = some row) (hT : ∀ i, Frz n row (T i) (T' i)) (hH : ∀ k r', H' k = some r' -> k ≠ n /\ ∃ r, H k = some r /\ r.length = r'.length /\ ∀ (i : Nat) (a a' : AV), r[i]? = some a -> r'[i]? = some a' -> Frz n row a a')
    (h : AWP P p m code Q c T' H') : AWP P p m code Q c T H := by
  intro ds σ I a w Q' st k
  obtain ⟨q, cc, I', hq, hv, ht, hI, hII, hs⟩ := Step.freeze (nm := Under p) st.rel hrow
  have hs' : Step (Under p) σ I H w σ I' H' w := by
    refine ⟨⟨?_, ?_, hs.rel.imm, ?_⟩, hs.sig, hs.new, hs.imm, hs.inew, ?_, hs.fr⟩
    · intro k r' hk
      obtain ⟨h1, r, h2, h3, h4⟩ := hH k r' hk
      obtain ⟨pl, c', el, fr, g1, g2, g3, g4, g5⟩ := st.rel.rows k r h2
      refine ⟨pl, c', el, fr, g1, g2, g3, g4, ?_⟩
      rw [<- h3]
      refine VRels.of_get (by rw [<- h3]; exact g5.length) fun i x u hx hu => ?_
      have hi : i < r.length := by rw [h3]; exact (List.getElem?_eq_some_iff.1 hx).1
      obtain ⟨u', e1, e2⟩ := g5.get (List.getElem?_eq_getElem hi)
      rw [hu] at e1; cases e1
      exact (h4 i _ x (List.getElem?_eq_getElem hi) hx).rel hq hv hI hII e2
    · intro a b p1 p2 ha hb h1 h2 e
      have get : ∀ k, H' k ≠ none -> H k ≠ none := fun k hk => by
        cases e : H' k with
        | none => exact absurd e hk
        | some r' => obtain ⟨_, r, h2, _⟩ := hH k r' e; rw [h2]; simp
      exact st.rel.inj a b p1 p2 (get a ha) (get b hb) h1 h2 e
    · intro k pl mm hk hp
      cases e : H' k with
      | none => exact absurd e hk
      | some r' =>
        obtain ⟨h1, r, h2, _⟩ := hH k r' e
        exact hs.rel.dis k pl mm (by rw [upd_ne _ _ h1, h2]; simp) hp
    · rintro b ⟨k, pl, hk, hp, rfl⟩
      cases e : H' k with
      | none => exact absurd e hk
      | some r' =>
        obtain ⟨h1, r, h2, _⟩ := hH k r' e
        exact .inl ⟨k, pl, by rw [h2]; simp, hp, rfl⟩
  refine h ds σ I' a w Q' ⟨fun i => (hT i).rel hq hv hI hII (st.tr i), st.size, st.defers, hs'.rel, st.fresh⟩ ?_
  intro e c' T₂ H₂ σ' I₂ a' w' hQ hs₂ st₂
  exact k e c' T₂ H₂ σ' I₂ a' w' hQ (hs'.trans hs₂) st₂
/-- Of the state no more is known from here on. -/
theorem AWP.gen (I : Nat -> Temps -> AHeap -> Prop) (hi : I c T H) (h : ∀ c T H, I c T H -> AWP P p m code Q c T H) : AWP P p m code Q c T H := h c T H hi
/-- Names that the frame has not used yet are names of no row. -/
theorem AWP.known_fresh (h : (∀ j s, c <= j -> H (s ++ j :: p) = none) -> AWP P p m code Q c T H) : AWP P p m code Q c T H := by
  intro ds σ I a w Q' st k
  refine h (fun j s hj => ?_) ds σ I a w Q' st k
  cases e : H (s ++ j :: p) with
  | none => rfl
  | some row =>
    obtain ⟨q, _, _, _, hq, _⟩ := st.rel.rows _ row e
    rw [st.fresh j s hj] at hq; cases hq
end rules
/-! ### a function that gives a slice in a row of its own: the row's name -/
theorem under_self {nm : Name} (h : Under (0 :: nm) nm) : False := by
  obtain ⟨s, hs⟩ := h
  have := congrArg List.length hs
  simp at this
  omega
theorem sim_resB {f : FuncId} {fn : Func} {code : Code} {n : Nat} {args : List AV} {nm : Name} {H B : AHeap} {res : Name -> AV} {row : List AV} (hres : ∀ {σ σ' : Sig} {I : Imm} {a b : Name} {p : Place} {v : Value}, σ a = some p -> σ' b = some p -> VRel σ I (res a) v -> VRel σ' I (res b) v) (hf : P.funcs[f]? = some fn) (hb : fn.body = some code) (hn : fn.ntmps = n) (ha : args.length <= n) (hB : ∀ k r, B k = some r -> H k = some r)
    (h : (∀ s, H (s ++ 0 :: nm) = none) -> AWP P (0 :: nm) n code (fun e _ T H₁ => (e = .normal \/ e = .ret) /\ ∃ n', ares P T H₁ fn.results.toList = some [res n'] /\ B n' = none /\ H₁ n' = some row /\ ∀ k r, B k = some r -> H₁ k = some r) 0 (T0 args) H) :
    Sim P f args nm H (res nm) (upd B nm (some row)) := by
  intro σ I w vs hfr hv hr
  have hnone : ∀ s, H (s ++ nm) = none := fun s => by
    cases e : H (s ++ nm) with
    | none => rfl
    | some row =>
      obtain ⟨q, _, _, _, hq, _⟩ := hr.rows _ row e
      rw [hfr s] at hq; cases hq
  refine calls_of_wp hf hb ?_
  have hlen : args.length = vs.size := by simpa using hv.length
  refine h (fun s => by have := hnone (s ++ [0]); rwa [List.append_assoc] at this) [] σ I _ w _ ⟨?_, ?_, rfl, hr, ?_⟩ ?_
  · intro i
    by_cases hi : i < vs.size
    · have h1 : (vs ++ Array.replicate (fn.ntmps - vs.size) undef).getD i undef = vs[i] := by
        simp [Array.getD_eq_getD_getElem?, Array.getElem?_append_left hi, hi]
      rw [h1]
      obtain ⟨v, h2, h3⟩ := hv.get (List.getElem?_eq_getElem (by omega : i < args.length))
      have h4 : vs[i] = v := by
        have : vs[i]? = some v := by simpa using h2
        rw [Array.getElem?_eq_getElem hi] at this
        exact Option.some.inj this
      rw [h4]
      simpa [T0, List.getElem?_eq_getElem (by omega : i < args.length)] using h3
    · have h1 : (vs ++ Array.replicate (fn.ntmps - vs.size) undef).getD i undef = undef := by
        rw [Array.getD_eq_getD_getElem?, Array.getElem?_append_right (by omega)]
        by_cases h2 : i - vs.size < fn.ntmps - vs.size
        · simp [h2]
        · simp [h2]
      rw [h1]
      have h2 : T0 args i = .val undef := by simp [T0, List.getElem?_eq_none (by omega : args.length <= i)]
      rw [h2]
      exact .val _
  · simp; omega
  · intro j s _
    have := hfr (s ++ [j, 0])
    simpa using this
  · rintro e c' T' H₁ σ' I' a' w' ⟨he, n', hl, hn', hrow, hsub⟩ hs st
    obtain ⟨v, h1, h2⟩ := results_run st.tr st.rel hl
    have hv2 : VRel σ' I' (res n') v := h2
    obtain ⟨p, c, el, fr, g1, g2, g3, g4, g5⟩ := st.rel.rows n' row hrow
    have hnm' : σ' nm = none := by
      cases e : σ' nm with
      | none => rfl
      | some q => exact (under_self (hs.new nm (hfr []) (by rw [e]; simp))).elim
    have hle : σ'.le (upd σ' nm (some p)) := fun k q hk => by
      rw [upd_ne]; exact hk
      rintro rfl; rw [hnm'] at hk; cases hk
    have hnoneB : ∀ s, B (s ++ nm) = none := fun s => by
      cases e : B (s ++ nm) with
      | none => rfl
      | some r => have h5 := hB _ _ e; rw [hnone s] at h5; cases h5
    have other : ∀ k q, B k ≠ none -> upd σ' nm (some p) k = some q -> k ≠ nm /\ H₁ k ≠ none /\ σ' k = some q /\ k ≠ n' := fun k q hk hq => by
      have hk1 : k ≠ nm := by rintro rfl; exact hk (hnoneB [])
      refine ⟨hk1, ?_, by rwa [upd_ne _ _ hk1] at hq, ?_⟩
      · cases e : B k with
        | none => exact absurd e hk
        | some r => rw [hsub k r e]; simp
      · rintro rfl; exact hk hn'
    have cases' : ∀ k, upd B nm (some row) k ≠ none -> k = nm \/ B k ≠ none := fun k hk => by
      by_cases e : k = nm
      · exact .inl e
      · rw [upd_ne _ _ e] at hk; exact .inr hk
    have hstep : Step (Under nm) σ I H w (upd σ' nm (some p)) I' (upd B nm (some row)) w' := by
      refine ⟨⟨?_, ?_, hs.rel.imm, ?_⟩, fun k q hk => hle k q (hs.sig k q hk), ?_, hs.imm, hs.inew, ?_, hs.fr⟩
      · intro k r hk
        by_cases e : k = nm
        · subst e
          rw [upd_same] at hk; cases hk
          exact ⟨p, c, el, fr, upd_same _ _ _, g2, g3, g4, g5.mono hle (Imm.le_refl _)⟩
        · rw [upd_ne _ _ e] at hk
          obtain ⟨q, c', el', fr', e1, e2, e3, e4, e5⟩ := st.rel.rows k r (hsub k r hk)
          exact ⟨q, c', el', fr', hle _ _ e1, e2, e3, e4, e5.mono hle (Imm.le_refl _)⟩
      · intro a b p1 p2 ha hb h1 h2 e
        rcases cases' a ha with rfl | ha1 <;> rcases cases' b hb with rfl | hb1
        · rfl
        · rw [upd_same] at h1; cases h1
          obtain ⟨_, k2, k3, k4⟩ := other b p2 hb1 h2
          exact absurd (st.rel.inj n' b p p2 (by rw [hrow]; simp) k2 g1 k3 e).symm k4
        · rw [upd_same] at h2; cases h2
          obtain ⟨_, k2, k3, k4⟩ := other a p1 ha1 h1
          exact absurd (st.rel.inj a n' p1 p k2 (by rw [hrow]; simp) k3 g1 e) k4
        · obtain ⟨_, k2, k3, _⟩ := other a p1 ha1 h1
          obtain ⟨_, k2', k3', _⟩ := other b p2 hb1 h2
          exact st.rel.inj a b p1 p2 k2 k2' k3 k3' e
      · intro k q m hk hq
        rcases cases' k hk with rfl | hk1
        · rw [upd_same] at hq; cases hq
          exact st.rel.dis n' p m (by rw [hrow]; simp) g1
        · obtain ⟨_, k2, k3, _⟩ := other k q hk1 hq
          exact st.rel.dis k q m k2 k3
      · intro k h0 h1
        by_cases e : k = nm
        · subst e; exact ⟨[], rfl⟩
        · rw [upd_ne _ _ e] at h1
          obtain ⟨s, hs'⟩ := hs.new k h0 h1
          exact ⟨s ++ [0], by simpa using hs'⟩
      · rintro b ⟨k, q, hk, hq, rfl⟩
        rcases cases' k hk with rfl | hk1
        · rw [upd_same] at hq; cases hq
          exact hs.own _ ⟨n', p, by rw [hrow]; simp, g1, rfl⟩
        · obtain ⟨_, k2, k3, _⟩ := other k q hk1 hq
          exact hs.own _ ⟨k, q, k2, k3, rfl⟩
    have hval : VRel (upd σ' nm (some p)) I' (res nm) v := hres g1 (upd_same _ _ _) hv2
    have hfin : bodyPost P fn (fun e w' => ∃ v σ' I', e = .returned v /\ Step (Under nm) σ I H w σ' I' (upd B nm (some row)) w' /\ VRel σ' I' (res nm) v) .ret a' w' :=
      ⟨st.defers, v, h1, v, _, I', rfl, hstep, hval⟩
    rcases he with rfl | rfl
    · exact hfin
    · exact hfin
theorem sim_rowB {f : FuncId} {fn : Func} {code : Code} {n : Nat} {args : List AV} {nm : Name} {H B : AHeap} {off len sz : Nat} {row : List AV} (hf : P.funcs[f]? = some fn) (hb : fn.body = some code) (hn : fn.ntmps = n) (ha : args.length <= n) (hB : ∀ k r, B k = some r -> H k = some r)
    (h : (∀ s, H (s ++ 0 :: nm) = none) -> AWP P (0 :: nm) n code (fun e _ T H₁ => (e = .normal \/ e = .ret) /\ ∃ n', ares P T H₁ fn.results.toList = some [.sl n' off len sz] /\ B n' = none /\ H₁ n' = some row /\ ∀ k r, B k = some r -> H₁ k = some r) 0 (T0 args) H) :
    Sim P f args nm H (.sl nm off len sz) (upd B nm (some row)) :=
  sim_resB (res := fun n => .sl n off len sz) (fun h1 h2 hv => by
    cases hv with
    | sl hq hl hc => rw [h1] at hq; cases hq; exact .sl h2 hl hc) hf hb hn ha hB h
theorem sim_row {f : FuncId} {fn : Func} {code : Code} {n : Nat} {args : List AV} {nm : Name} {H : AHeap} {off len sz : Nat} {row : List AV} (hf : P.funcs[f]? = some fn) (hb : fn.body = some code) (hn : fn.ntmps = n) (ha : args.length <= n)
    (h : (∀ s, H (s ++ 0 :: nm) = none) -> AWP P (0 :: nm) n code (fun e _ T H₁ => (e = .normal \/ e = .ret) /\ ∃ n', ares P T H₁ fn.results.toList = some [.sl n' off len sz] /\ H n' = none /\ H₁ n' = some row /\ ∀ k r, H k = some r -> H₁ k = some r) 0 (T0 args) H) :
    Sim P f args nm H (.sl nm off len sz) (upd H nm (some row)) := sim_rowB hf hb hn ha (fun _ _ h => h) h
/-! ### contracts -/
/-- What a function does, as a piece of the abstract memory. -/
abbrev Spec := List AV -> Name -> AHeap -> Res
structure FnOK (P : Program) (f : FuncId) (s : Spec) : Prop where
  go : isGo P f = true
  sim : ∀ args nm H r H', s args nm H = some (r, H') -> Sim P f args nm H r H'
def noCall : CallF := fun _ _ _ _ => none
theorem noCall_ok : CallOK P noCall := fun _ _ _ _ _ _ h => by cases h
def onF (g : FuncId) (s : Spec) (rest : CallF) : CallF := fun f args nm H => if f = g then s args nm H else rest f args nm H
theorem onF_ok {g : FuncId} {s : Spec} {rest : CallF} (h : FnOK P g s) (hr : CallOK P rest) : CallOK P (onF g s rest) := by
  intro f args nm H r H' he
  unfold onF at he
  split at he
  · rename_i e; subst e; exact ⟨h.go, h.sim _ _ _ _ _ he⟩
  · exact hr _ _ _ _ _ _ he
/-- An empty slice may be nil, or not. -/
theorem Sim.empty {f : FuncId} {pre post : List AV} {m : Bool} {nm : Name} {H H' : AHeap} {r : AV} (h : ∀ a cap, Sim P f (pre ++ .val (.slice a 0 cap) :: post) nm H r H') : Sim P f (pre ++ .im m 0 [] :: post) nm H r H' := by
  intro σ I w vs hfr hv hr
  have key : ∃ a cap, VRels σ I (pre ++ .val (.slice a 0 cap) :: post) vs.toList := by
    clear hfr hr h
    generalize vs.toList = us at hv ⊢
    induction pre generalizing us with
    | nil =>
      cases hv with
      | cons h0 t =>
        cases h0 with
        | @im0 _ a cap => exact ⟨a, cap, .cons (.val _) t⟩
        | im h1 h2 h3 => exact ⟨_, _, .cons (.val _) t⟩
    | cons a l ih =>
      cases hv with
      | cons h0 t =>
        obtain ⟨a', cap, h1⟩ := ih _ t
        exact ⟨a', cap, .cons h0 h1⟩
  obtain ⟨a, cap, h1⟩ := key
  exact h a cap σ I w vs hfr h1 hr
theorem ne_fresh {H : AHeap} {c : Nat} {p q : Name} {row : List AV} (h : ∀ j s, c <= j -> H (s ++ j :: p) = none) (hq : H q = some row) (j : Nat) (hj : c <= j) : q ≠ j :: p := by
  rintro rfl
  have := h j [] hj
  rw [List.nil_append, hq] at this
  cases this
end Go.Proofs.YtjinjfblilacaaaGreat.Den
end
section
set_option linter.unusedSimpArgs false
namespace Go.Proofs.YtjinjfblilacaaaGreat.Den
variable {P : Program}
abbrev vi (x : Int) : AV := .val (.int .i64 x)
abbrev vb (x : Bool) : AV := .val (.bool x)
abbrev vnil : AV := .val (.slice none 0 0)
def bz (n : Nat) : List AV := List.replicate n (.val (.int .u8 0))
def fldK (off : Nat) (x : AV) : Option AV :=
  match x with
  | .ptr n o => some (.ptr n (o + off))
  | .imp m c o => some (.imp m c (o + off))
  | _ => none
@[simp] theorem fldK_ptr (off : Nat) (n : Name) (o : Nat) : fldK off (.ptr n o) = some (.ptr n (o + off)) := rfl
@[simp] theorem fldK_imp (off : Nat) (m : Bool) (c : List AV) (o : Nat) : fldK off (.imp m c o) = some (.imp m c (o + off)) := rfl
def appK (size by_ : Nat) (s x : AV) (nm : Name) (H : AHeap) : Res :=
  match srcCells H size x with
  | some (k, new) =>
    if true = true /\ size = size /\ new.all AV.one = true /\ new.length = k * size then
      match s with
      | .val (.slice none 0 0) => if k = 0 then some (.val (.slice none 0 0), H) else if k * by_ <= 140737488355328 /\ k <= 140737488355328 then some (.sl nm 0 k size, upd H nm (some new)) else none
      | .sl n off len sz =>
        (H n).bind fun row =>
          if sz = size /\ off + len * sz <= row.length /\ (len + k) * by_ <= 140737488355328 /\ len + k <= 140737488355328 then
            some (.sl nm 0 (len + k) sz, upd (upd H n none) nm (some ((row.drop off).take (len * sz) ++ new)))
          else none
      | .im m len cells => if k = 0 then some (.im m len cells, H) else none
      | _ => none
    else none
  | none => none
theorem aappend_eq {t xt e : TypeId} {d : TypeDesc} {size by_ : Nat} (h1 : P.underlying t = some (.slice e)) (h2 : P.underlying xt = some d) (h5 : seqD d = true) (hs : szOf P e = some size) (hb : bytesOf' P e = some by_) (hz : (zeroOf P e).map (·.cells.size) = some size) (s x : AV) (nm : Name) (H : AHeap) :
    aappend P t xt s x nm H = appK size by_ s x nm H := by
  unfold szOf at hs
  unfold bytesOf' at hb
  unfold zeroOf at hz
  cases h3 : P.info? e with
  | none => rw [h3] at hs; cases hs
  | some i =>
    rw [h3] at hs hb hz
    simp only [Option.map_some, Option.some.injEq] at hs hb
    subst hs hb
    cases h4 : i.zero with
    | none => simp [h4] at hz
    | some z =>
      have h6 : z.cells.size = i.size := by simpa [h4] using hz
      simp only [aappend, appK, h1, h2, h3, h4, h5]
      cases srcCells H i.size x with
      | none => rfl
      | some r =>
        obtain ⟨k, new⟩ := r
        simp only [h6, true_and]
        rfl
@[simp] theorem one_int (k : IntKind) (n : Int) : AV.one (.val (.int k n)) = true := rfl
@[simp] theorem cells_int (k : IntKind) (n : Int) : AV.cells (.val (.int k n)) = [.val (.int k n)] := rfl
@[simp] theorem one_bool (b : Bool) : AV.one (.val (.bool b)) = true := rfl
@[simp] theorem cells_bool (b : Bool) : AV.cells (.val (.bool b)) = [.val (.bool b)] := rfl
@[simp] theorem one_str (s : ByteArray) : AV.one (.val (.string s)) = true := rfl
@[simp] theorem cells_str (s : ByteArray) : AV.cells (.val (.string s)) = [.val (.string s)] := rfl
@[simp] theorem one_slc (a : Option Addr) (n c : Nat) : AV.one (.val (.slice a n c)) = true := rfl
@[simp] theorem cells_slc (a : Option Addr) (n c : Nat) : AV.cells (.val (.slice a n c)) = [.val (.slice a n c)] := rfl
@[simp] theorem one_pnt (a : Option Addr) : AV.one (.val (.pointer a)) = true := rfl
@[simp] theorem cells_pnt (a : Option Addr) : AV.cells (.val (.pointer a)) = [.val (.pointer a)] := rfl
@[simp] theorem one_flt (k : FloatKind) (b : Nat) : AV.one (.val (.float k b)) = true := rfl
@[simp] theorem cells_flt (k : FloatKind) (b : Nat) : AV.cells (.val (.float k b)) = [.val (.float k b)] := rfl
@[simp] theorem one_cpx (k : FloatKind) (a b : Nat) : AV.one (.val (.complex k a b)) = true := rfl
@[simp] theorem cells_cpx (k : FloatKind) (a b : Nat) : AV.cells (.val (.complex k a b)) = [.val (.complex k a b)] := rfl
@[simp] theorem one_nfn  : AV.one (.val .nilFunc) = true := rfl
@[simp] theorem cells_nfn  : AV.cells (.val .nilFunc) = [.val .nilFunc] := rfl
@[simp] theorem one_ptr (n : Name) (o : Nat) : AV.one (.ptr n o) = true := rfl
@[simp] theorem cells_ptr (n : Name) (o : Nat) : AV.cells (.ptr n o) = [.ptr n o] := rfl
@[simp] theorem one_imp (m : Bool) (c : List AV) (o : Nat) : AV.one (.imp m c o) = true := rfl
@[simp] theorem cells_imp (m : Bool) (c : List AV) (o : Nat) : AV.cells (.imp m c o) = [.imp m c o] := rfl
@[simp] theorem one_sl (n : Name) (o l z : Nat) : AV.one (.sl n o l z) = true := rfl
@[simp] theorem cells_sl (n : Name) (o l z : Nat) : AV.cells (.sl n o l z) = [.sl n o l z] := rfl
@[simp] theorem one_im (m : Bool) (l : Nat) (c : List AV) : AV.one (.im m l c) = true := rfl
@[simp] theorem cells_im (m : Bool) (l : Nat) (c : List AV) : AV.cells (.im m l c) = [.im m l c] := rfl
@[simp] theorem one_fn (f : Fn) (a b : List AV) : AV.one (.fn f a b) = true := rfl
@[simp] theorem cells_fn (f : Fn) (a b : List AV) : AV.cells (.fn f a b) = [.fn f a b] := rfl
@[simp] theorem cells_agg (l : List AV) : AV.cells (.agg l) = l := rfl
@[simp] theorem wrap_0 (k : IntKind) : k.wrap 0 = 0 := by cases k <;> rfl
@[simp] theorem wrap_1 (k : IntKind) : k.wrap 1 = 1 := by cases k <;> rfl
@[simp] theorem wrap_lit (n : Nat) (h : n < 9223372036854775808) : IntKind.i64.wrap (OfNat.ofNat n : Int) = OfNat.ofNat n := by
  show IntKind.i64.wrap (n : Int) = (n : Int)
  rw [IntKind.wrap_i64]; omega
/-! ### a memory that holds what another one holds -/
def SubL (L : List Name) (H H₁ : AHeap) : Prop := ∀ k row, k ∉ L -> H k = some row -> H₁ k = some row
section subl
variable {L : List Name} {H H₁ : AHeap} {n m : Name} {x : Option (List AV)}
theorem SubL.out (h : SubL [] H H₁) : ∀ k row, H k = some row -> H₁ k = some row := fun k row hk => h k row (by simp) hk
theorem SubL.id : SubL L H H := fun _ _ _ h => h
theorem SubL.set (h : SubL (n :: L) H H₁) : SubL L (upd H n x) (upd H₁ n x) := fun k row hk hr => by
  by_cases e : k = n
  · subst e; rw [upd_same] at hr ⊢; exact hr
  · rw [upd_ne _ _ e] at hr ⊢; exact h k row (by simp [e, hk]) hr
theorem SubL.gone (h : SubL (n :: L) H H₁) : SubL L (upd H n none) H₁ := fun k row hk hr => by
  by_cases e : k = n
  · subst e; rw [upd_same] at hr; cases hr
  · rw [upd_ne _ _ e] at hr; exact h k row (by simp [e, hk]) hr
theorem SubL.ex (hm : m ∈ L) (h : SubL L H H₁) : SubL L H (upd H₁ m x) := fun k row hk hr => by
  rw [upd_ne _ _ (by rintro rfl; exact hk hm)]; exact h k row hk hr
theorem SubL.fresh (hm : H m = none) (h : SubL L H H₁) : SubL L H (upd H₁ m x) := fun k row hk hr => by
  rw [upd_ne _ _ (by rintro rfl; rw [hm] at hr; cases hr)]; exact h k row hk hr
/-- A row that is not there is not there behind another one is written. -/
theorem upd_none {y : Option (List AV)} (hm : H m = none) (hn : m ≠ n) : upd H n y m = none := by rw [upd_ne _ _ hn]; exact hm
end subl
end Go.Proofs.YtjinjfblilacaaaGreat.Den
end
