/- An abstract memory for the walked programs: rows of cells by name, slices that are only read as plain lists; and what it means that a world is one of these. No program in sight. -/
import Derived.Calls
import Derived.Below
import Derived.Laws.Rows
import Derived.Laws.Cells
import Derived.Laws.CopyRow
import Derived.Laws.AppendOwn
import Derived.Orders
import Derived.WalkLawsBesides
import Derived.Laws.Tables
import Derived.Great.BuildSlice
set_option linter.unusedVariables false
set_option linter.unusedSimpArgs false
section
namespace Go.Proofs.YtjinjfblilacaaaGreat.Den
abbrev Name := List Nat
/-- Values that name no block. -/
inductive AV where
  | val (v : Value)
  | ptr (n : Name) (off : Nat)
  | imp (m : Bool) (cells : List AV) (off : Nat)
  | sl (n : Name) (off len sz : Nat)
  | im (m : Bool) (len : Nat) (cells : List AV)
  | agg (cells : List AV)
  | tup (vs : List AV)
  | fn (f : Fn) (first captured : List AV)
instance : Inhabited AV := ⟨.val (.tuple #[])⟩
abbrev AHeap := Name -> Option (List AV)
/-- Where a row lies: its block, its first cell there, the block's size. -/
structure Place where
  b : Nat
  o : Nat
  tot : Nat
abbrev Sig := Name -> Option Place
/-- Blocks that nobody writes any more: those of the caller (false), our own (true). -/
abbrev Imm := Bool -> Nat -> Option (Array Value)
def seg (c : Array Value) (o n : Nat) : List Value := (c.toList.drop o).take n
mutual
inductive VRel (σ : Sig) (I : Imm) : AV -> Value -> Prop
  | val (v : Value) : VRel σ I (.val v) v
  | ptr {n : Name} {off : Nat} {p : Place} (h : σ n = some p) : VRel σ I (.ptr n off) (.pointer (some ⟨p.b, p.o + off, none⟩))
  | imp {m : Bool} {cells : List AV} {off b o : Nat} {c : Array Value} (h : I m b = some c) (hc : VRels σ I cells (seg c o cells.length)) :
      VRel σ I (.imp m cells off) (.pointer (some ⟨b, o + off, none⟩))
  | sl {n : Name} {off len sz cap : Nat} {p : Place} (h : σ n = some p) (hl : len <= cap) (hc : p.o + off + cap * sz <= p.tot) :
      VRel σ I (.sl n off len sz) (.slice (some ⟨p.b, p.o + off, none⟩) len cap)
  | im0 {m : Bool} {a : Option Addr} {cap : Nat} : VRel σ I (.im m 0 []) (.slice a 0 cap)
  | im {m : Bool} {len cap b o : Nat} {cells : List AV} {c : Array Value} (h : I m b = some c) (hc : VRels σ I cells (seg c o cells.length)) (hl : len <= cap) :
      VRel σ I (.im m len cells) (.slice (some ⟨b, o, none⟩) len cap)
  | agg {l : List AV} {arr : Array Value} (h : VRels σ I l arr.toList) : VRel σ I (.agg l) (.agg arr)
  | tup {l : List AV} {arr : Array Value} (h : VRels σ I l arr.toList) : VRel σ I (.tup l) (.tuple arr)
  | fn {f : Fn} {l k : List AV} {a b : Array Value} (h : VRels σ I l a.toList) (h' : VRels σ I k b.toList) : VRel σ I (.fn f l k) (.func f a b)
inductive VRels (σ : Sig) (I : Imm) : List AV -> List Value -> Prop
  | nil : VRels σ I [] []
  | cons {a : AV} {v : Value} {l : List AV} {vs : List Value} (h : VRel σ I a v) (t : VRels σ I l vs) : VRels σ I (a :: l) (v :: vs)
end
theorem VRels.length {σ : Sig} {I : Imm} {l : List AV} {vs : List Value} (h : VRels σ I l vs) : l.length = vs.length := by
  induction l generalizing vs with
  | nil => cases h; rfl
  | cons a l ih => cases h with | cons h t => simp [ih t]
theorem VRels.get {σ : Sig} {I : Imm} {l : List AV} {vs : List Value} (h : VRels σ I l vs) {i : Nat} {a : AV} (ha : l[i]? = some a) : ∃ v, vs[i]? = some v /\ VRel σ I a v := by
  induction l generalizing vs i with
  | nil => simp at ha
  | cons b l ih =>
    cases h with
    | cons h t =>
      cases i with
      | zero => simp at ha; subst ha; exact ⟨_, rfl, h⟩
      | succ i => simpa using ih t (by simpa using ha)
theorem VRels.of_get {σ : Sig} {I : Imm} : ∀ {l : List AV} {vs : List Value}, l.length = vs.length -> (∀ (i : Nat) (a : AV) (v : Value), l[i]? = some a -> vs[i]? = some v -> VRel σ I a v) -> VRels σ I l vs
  | [], [], _, _ => .nil
  | [], _ :: _, h, _ => by simp at h
  | _ :: _, [], h, _ => by simp at h
  | a :: l, v :: vs, h, k => .cons (k 0 a v rfl rfl) (VRels.of_get (by simpa using h) fun i a v ha hv => k (i + 1) a v (by simpa using ha) (by simpa using hv))
theorem VRels.append {σ : Sig} {I : Imm} {l k : List AV} {vs us : List Value} (h : VRels σ I l vs) (h' : VRels σ I k us) : VRels σ I (l ++ k) (vs ++ us) := by
  induction l generalizing vs with
  | nil => cases h; exact h'
  | cons a l ih => cases h with | cons h t => exact .cons h (ih t)
theorem VRels.take {σ : Sig} {I : Imm} {l : List AV} {vs : List Value} (h : VRels σ I l vs) (n : Nat) : VRels σ I (l.take n) (vs.take n) := by
  induction l generalizing vs n with
  | nil => cases h; simp; exact .nil
  | cons a l ih =>
    cases h with
    | cons h t =>
      cases n with
      | zero => simp; exact .nil
      | succ n => simpa using VRels.cons h (ih t n)
theorem VRels.drop {σ : Sig} {I : Imm} {l : List AV} {vs : List Value} (h : VRels σ I l vs) (n : Nat) : VRels σ I (l.drop n) (vs.drop n) := by
  induction l generalizing vs n with
  | nil => cases h; simp; exact .nil
  | cons a l ih =>
    cases h with
    | cons h t =>
      cases n with
      | zero => simpa using VRels.cons h t
      | succ n => simpa using ih t n
theorem VRels.set {σ : Sig} {I : Imm} {l : List AV} {vs : List Value} (h : VRels σ I l vs) (n : Nat) {a : AV} {v : Value} (hv : VRel σ I a v) : VRels σ I (l.set n a) (vs.set n v) := by
  induction l generalizing vs n with
  | nil => cases h; simp; exact .nil
  | cons b l ih =>
    cases h with
    | cons h t =>
      cases n with
      | zero => simpa using VRels.cons hv t
      | succ n => simpa using VRels.cons h (ih t n)
theorem VRels.vals {σ : Sig} {I : Imm} (vs : List Value) : VRels σ I (vs.map .val) vs := by
  induction vs with
  | nil => exact .nil
  | cons v vs ih => exact .cons (.val v) ih
def Sig.le (σ σ' : Sig) : Prop := ∀ n p, σ n = some p -> σ' n = some p
def Imm.le (I I' : Imm) : Prop := ∀ m b c, I m b = some c -> I' m b = some c
theorem Sig.le_refl (σ : Sig) : σ.le σ := fun _ _ h => h
theorem Imm.le_refl (I : Imm) : I.le I := fun _ _ _ h => h
theorem Sig.le_trans {a b c : Sig} (h : a.le b) (k : b.le c) : a.le c := fun n p e => k n p (h n p e)
theorem Imm.le_trans {a b c : Imm} (h : a.le b) (k : b.le c) : a.le c := fun m n p e => k m n p (h m n p e)
mutual
theorem VRel.mono {σ σ' : Sig} {I I' : Imm} (hs : σ.le σ') (hi : I.le I') {a : AV} {v : Value} (h : VRel σ I a v) : VRel σ' I' a v :=
  match h with
  | .val v => .val v
  | .ptr h => .ptr (hs _ _ h)
  | .imp h hc => .imp (hi _ _ _ h) (VRels.mono hs hi hc)
  | .sl h hl hc => .sl (hs _ _ h) hl hc
  | .im0 => .im0
  | .im h hc hl => .im (hi _ _ _ h) (VRels.mono hs hi hc) hl
  | .agg h => .agg (VRels.mono hs hi h)
  | .tup h => .tup (VRels.mono hs hi h)
  | .fn h h' => .fn (VRels.mono hs hi h) (VRels.mono hs hi h')
theorem VRels.mono {σ σ' : Sig} {I I' : Imm} (hs : σ.le σ') (hi : I.le I') {a : List AV} {v : List Value} (h : VRels σ I a v) : VRels σ' I' a v :=
  match h with
  | .nil => .nil
  | .cons h t => .cons (VRel.mono hs hi h) (VRels.mono hs hi t)
end
/-- Nothing is frozen. -/
def frOk (fr : Nat × Nat) (_ : Nat) : Prop := fr.1 = fr.2
theorem frOk.out {fr : Nat × Nat} {n : Nat} (h : frOk fr n) : ∀ i, i < n -> ¬ (fr.1 <= i /\ i < fr.2) := by
  unfold frOk at h; intro i hi; omega
/-- The world holds these rows, each in a block of its own, and these blocks that nobody writes. -/
structure ARel (σ : Sig) (I : Imm) (H : AHeap) (w : World) : Prop where
  rows : ∀ n row, H n = some row -> ∃ (p : Place) (c : Array Value) (el : TypeId) (fr : Nat × Nat), σ n = some p /\ w.heap[p.b]? = some (.cells c el fr) /\ p.tot = c.size /\
    frOk fr c.size /\ VRels σ I row (seg c p.o row.length)
  inj : ∀ n n' p p', H n ≠ none -> H n' ≠ none -> σ n = some p -> σ n' = some p' -> p.b = p'.b -> n = n'
  imm : ∀ m b c, I m b = some c -> ∃ el fr, w.heap[b]? = some (.cells c el fr)
  dis : ∀ n p m, H n ≠ none -> σ n = some p -> I m p.b = none
/-- Whose block is it? -/
def Owns (σ : Sig) (H : AHeap) (b : Nat) : Prop := ∃ n p, H n ≠ none /\ σ n = some p /\ p.b = b
/-- What a piece of a run leaves alone. -/
structure Fr (σ : Sig) (H : AHeap) (w w' : World) : Prop where
  os : w'.os = w.os
  tape : w'.tape = w.tape
  output : w'.output = w.output
  size : w.heap.size <= w'.heap.size
  block : ∀ b, b < w.heap.size -> ¬ Owns σ H b -> w'.heap[b]? = w.heap[b]?
/-- Names under a name are fresh. -/
def Fresh (nm : Name) (σ : Sig) : Prop := ∀ s, σ (s ++ nm) = none
/-- From a place on, all are fresh. -/
def FreshFrom (nm : Name) (k : Nat) (σ : Sig) : Prop := ∀ j s, k <= j -> σ (s ++ (j :: nm)) = none
/-- One step from one memory to another one: what is new lies under a name. -/
structure Step (nm : Name -> Prop) (σ : Sig) (I : Imm) (H : AHeap) (w : World) (σ' : Sig) (I' : Imm) (H' : AHeap) (w' : World) : Prop where
  rel : ARel σ' I' H' w'
  sig : σ.le σ'
  new : ∀ n, σ n = none -> σ' n ≠ none -> nm n
  imm : I.le I'
  inew : ∀ m b c, I' m b = some c -> I m b = some c \/ w.heap.size <= b \/ Owns σ H b
  own : ∀ b, Owns σ' H' b -> Owns σ H b \/ w.heap.size <= b
  fr : Fr σ H w w'
theorem Fr.refl (σ : Sig) (H : AHeap) (w : World) : Fr σ H w w := ⟨rfl, rfl, rfl, Nat.le_refl _, fun _ _ _ => rfl⟩
theorem Step.refl (nm : Name -> Prop) {σ : Sig} {I : Imm} {H : AHeap} {w : World} (h : ARel σ I H w) : Step nm σ I H w σ I H w :=
  ⟨h, Sig.le_refl _, fun _ h h' => absurd h h', Imm.le_refl _, fun _ _ _ h => .inl h, fun _ h => .inl h, Fr.refl _ _ _⟩
theorem Step.trans {nm : Name -> Prop} {σ σ₁ σ₂ : Sig} {I I₁ I₂ : Imm} {H H₁ H₂ : AHeap} {w w₁ w₂ : World}
    (h : Step nm σ I H w σ₁ I₁ H₁ w₁) (k : Step nm σ₁ I₁ H₁ w₁ σ₂ I₂ H₂ w₂) : Step nm σ I H w σ₂ I₂ H₂ w₂ where
  rel := k.rel
  sig := Sig.le_trans h.sig k.sig
  new := fun n h0 h2 => by
    by_cases h1 : σ₁ n = none
    · exact k.new n h1 h2
    · exact h.new n h0 h1
  imm := Imm.le_trans h.imm k.imm
  inew := fun m b c hb => by
    rcases k.inew m b c hb with h1 | h1 | h1
    · exact h.inew m b c h1
    · exact .inr (.inl (Nat.le_trans h.fr.size h1))
    · rcases h.own b h1 with h2 | h2
      · exact .inr (.inr h2)
      · exact .inr (.inl h2)
  own := fun b hb => by
    rcases k.own b hb with h1 | h1
    · exact h.own b h1
    · exact .inr (Nat.le_trans h.fr.size h1)
  fr := ⟨k.fr.os.trans h.fr.os, k.fr.tape.trans h.fr.tape, k.fr.output.trans h.fr.output, Nat.le_trans h.fr.size k.fr.size, fun b hb ho => by
    rw [k.fr.block b (Nat.lt_of_lt_of_le hb h.fr.size) (fun h1 => by
      rcases h.own b h1 with h2 | h2
      · exact ho h2
      · omega)]
    exact h.fr.block b hb ho⟩
theorem Step.weaken {nm nm' : Name -> Prop} {σ σ₁ : Sig} {I I₁ : Imm} {H H₁ : AHeap} {w w₁ : World}
    (h : Step nm σ I H w σ₁ I₁ H₁ w₁) (hn : ∀ n, nm n -> nm' n) : Step nm' σ I H w σ₁ I₁ H₁ w₁ :=
  { h with new := fun n a b => hn n (h.new n a b) }
/-- A world that differs in the draws alone. -/
theorem ARel.drawn {σ : Sig} {I : Imm} {H : AHeap} {w w' : World} (h : ARel σ I H w) (hh : w'.heap = w.heap) : ARel σ I H w' where
  rows := fun n row hn => by rw [hh]; exact h.rows n row hn
  inj := h.inj
  imm := fun m b c hb => by rw [hh]; exact h.imm m b c hb
  dis := h.dis
theorem Step.drawn {nm : Name -> Prop} {σ : Sig} {I : Imm} {H : AHeap} {w w' : World} (h : ARel σ I H w) (hh : w'.heap = w.heap) (ho : w'.os = w.os) (ht : w'.tape = w.tape) (hp : w'.output = w.output) : Step nm σ I H w σ I H w' :=
  ⟨h.drawn hh, Sig.le_refl _, fun _ h h' => absurd h h', Imm.le_refl _, fun _ _ _ h => .inl h, fun _ h => .inl h, ⟨ho, ht, hp, by rw [hh]; exact Nat.le_refl _, fun b _ _ => by rw [hh]⟩⟩
def upd {α : Type} (f : Name -> α) (n : Name) (x : α) : Name -> α := fun k => if k = n then x else f k
theorem upd_same {α : Type} (f : Name -> α) (n : Name) (x : α) : upd f n x n = x := by simp [upd]
theorem upd_ne {α : Type} (f : Name -> α) {n k : Name} (x : α) (h : k ≠ n) : upd f n x k = f k := by simp [upd, h]
/-- A new block that is a row of ours. -/
theorem Step.block {nm : Name -> Prop} {σ : Sig} {I : Imm} {H : AHeap} {w w' : World} (h : ARel σ I H w) {n : Name} (hn : σ n = none) (hnm : nm n)
    {row : List AV} {c : Array Value} {el : TypeId} {fr : Nat × Nat} (hfr : frOk fr c.size) (hr : VRels σ I row (seg c 0 row.length))
    (hold : ∀ i, i < w.heap.size -> w'.heap[i]? = w.heap[i]?) (hnew : w'.heap[w.heap.size]? = some (.cells c el fr)) (hsz : w'.heap.size = w.heap.size + 1) (hos : w'.os = w.os) (hta : w'.tape = w.tape) (hou : w'.output = w.output) :
    Step nm σ I H w (upd σ n (some ⟨w.heap.size, 0, c.size⟩)) I (upd H n (some row)) w' /\ H n = none := by
  have hHn : H n = none := by
    cases e : H n with
    | none => rfl
    | some row => obtain ⟨p, _, _, _, hp, _⟩ := h.rows n row e; rw [hn] at hp; cases hp
  have hle : σ.le (upd σ n (some ⟨w.heap.size, 0, c.size⟩)) := fun k p hk => by
    rw [upd_ne]; exact hk
    rintro rfl; rw [hn] at hk; cases hk
  have hlt : ∀ k p, H k ≠ none -> σ k = some p -> p.b < w.heap.size := fun k p hk hp => by
    cases e : H k with
    | none => exact absurd e hk
    | some row =>
      obtain ⟨p', c', _, _, hp', hb, _⟩ := h.rows k row e
      rw [hp] at hp'; cases hp'
      exact (Array.getElem?_eq_some_iff.1 hb).1
  have hilt : ∀ m b c, I m b = some c -> b < w.heap.size := fun m b c hb => by
    obtain ⟨_, _, hb⟩ := h.imm m b c hb
    exact (Array.getElem?_eq_some_iff.1 hb).1
  refine ⟨⟨⟨?_, ?_, ?_, ?_⟩, hle, ?_, Imm.le_refl _, fun _ _ _ h => .inl h, ?_, ⟨hos, hta, hou, by omega, fun b hb _ => hold b hb⟩⟩, hHn⟩
  · intro k row' hk
    by_cases e : k = n
    · subst e
      rw [upd_same] at hk; cases hk
      exact ⟨_, c, el, fr, upd_same _ _ _, hnew, rfl, hfr, hr.mono hle (Imm.le_refl _)⟩
    · rw [upd_ne _ _ e] at hk
      obtain ⟨p, c', el', fr', hp, hb, ht, hf, hv⟩ := h.rows k row' hk
      exact ⟨p, c', el', fr', by rw [upd_ne _ _ e]; exact hp, by rw [hold _ (Array.getElem?_eq_some_iff.1 hb).1]; exact hb, ht, hf, hv.mono hle (Imm.le_refl _)⟩
  · intro k k' p p' hk hk' hp hp' hb
    by_cases e : k = n <;> by_cases e' : k' = n
    · rw [e, e']
    · subst e
      rw [upd_same] at hp; cases hp
      rw [upd_ne _ _ e'] at hk' hp'
      have := hlt k' p' hk' hp'
      simp at hb; omega
    · subst e'
      rw [upd_same] at hp'; cases hp'
      rw [upd_ne _ _ e] at hk hp
      have := hlt k p hk hp
      simp at hb; omega
    · rw [upd_ne _ _ e] at hk hp
      rw [upd_ne _ _ e'] at hk' hp'
      exact h.inj k k' p p' hk hk' hp hp' hb
  · intro m b c' hb
    obtain ⟨el', fr', hb'⟩ := h.imm m b c' hb
    exact ⟨el', fr', by rw [hold _ (hilt m b c' hb)]; exact hb'⟩
  · intro k p m hk hp
    by_cases e : k = n
    · subst e
      rw [upd_same] at hp; cases hp
      cases e2 : I m w.heap.size with
      | none => rfl
      | some c' => have := hilt m _ c' e2; omega
    · rw [upd_ne _ _ e] at hk hp
      exact h.dis k p m hk hp
  · intro k h0 h1
    by_cases e : k = n
    · subst e; exact hnm
    · rw [upd_ne _ _ e] at h1; exact absurd h0 h1
  · rintro b ⟨k, p, hk, hp, rfl⟩
    by_cases e : k = n
    · subst e
      rw [upd_same] at hp; cases hp
      exact .inr (Nat.le_refl _)
    · rw [upd_ne _ _ e] at hk hp
      exact .inl ⟨k, p, hk, hp, rfl⟩
theorem Step.alloc {nm : Name -> Prop} {σ : Sig} {I : Imm} {H : AHeap} {w : World} (h : ARel σ I H w) {n : Name} (hn : σ n = none) (hnm : nm n)
    {row : List AV} {c : Array Value} {el : TypeId} {fr : Nat × Nat} (hfr : frOk fr c.size) (hr : VRels σ I row (seg c 0 row.length)) :
    Step nm σ I H w (upd σ n (some ⟨w.heap.size, 0, c.size⟩)) I (upd H n (some row)) (w.alloc (.cells c el fr)) /\ H n = none :=
  Step.block h hn hnm hfr hr (fun i hi => by first | exact heap_alloc_old w _ i hi | exact heap_alloc_old w _ hi) (heap_alloc_new w _) (by simp) rfl rfl rfl
theorem seg_length (c : Array Value) (o n : Nat) : (seg c o n).length = min n (c.size - o) := by simp [seg]
theorem seg_get (c : Array Value) (o n i : Nat) (h : i < n) : (seg c o n)[i]? = c[o + i]? := by
  simp [seg, h]
/-- A row's cell, as the world has it. -/
theorem ARel.cell {σ : Sig} {I : Imm} {H : AHeap} {w : World} (h : ARel σ I H w) {n : Name} {row : List AV} (hn : H n = some row) {p : Place} (hp : σ n = some p) {i : Nat} {a : AV} (ha : row[i]? = some a) :
    ∃ v, w.cell? ⟨p.b, p.o + i, none⟩ = some v /\ VRel σ I a v /\ w.frozen? ⟨p.b, p.o + i, none⟩ = false /\ p.b < w.heap.size := by
  obtain ⟨p', c, el, fr, hp', hb, ht, hf, hv⟩ := h.rows n row hn
  rw [hp] at hp'; cases hp'
  obtain ⟨v, hv1, hv2⟩ := hv.get ha
  have hi : i < row.length := (List.getElem?_eq_some_iff.1 ha).1
  rw [seg_get _ _ _ _ hi] at hv1
  have hlt : p.o + i < c.size := (Array.getElem?_eq_some_iff.1 hv1).1
  refine ⟨v, ?_, hv2, ?_, (Array.getElem?_eq_some_iff.1 hb).1⟩
  · simp [World.cell?, hb, hv1]
  · have := hf.out _ hlt
    simp only [World.frozen?, hb]
    simp only [not_and] at this
    by_cases h1 : fr.1 <= p.o + i
    · simp [h1]; exact Nat.le_of_not_lt (this h1)
    · simp [h1]
/-- A block that nobody writes: a cell. -/
theorem ARel.icell {σ : Sig} {I : Imm} {H : AHeap} {w : World} (h : ARel σ I H w) {m : Bool} {b o : Nat} {c : Array Value} (hb : I m b = some c) {cells : List AV} (hc : VRels σ I cells (seg c o cells.length)) {i : Nat} {a : AV} (ha : cells[i]? = some a) :
    ∃ v, w.cell? ⟨b, o + i, none⟩ = some v /\ VRel σ I a v := by
  obtain ⟨el, fr, hb'⟩ := h.imm m b c hb
  obtain ⟨v, hv1, hv2⟩ := hc.get ha
  rw [seg_get _ _ _ _ (List.getElem?_eq_some_iff.1 ha).1] at hv1
  exact ⟨v, by simp [World.cell?, hb', hv1], hv2⟩
theorem heap_setCell_row (w : World) (b i : Nat) (c : Array Value) (el : TypeId) (fr : Nat × Nat) (v : Value) (hb : w.heap[b]? = some (.cells c el fr)) :
    (w.setCell ⟨b, i, none⟩ v).heap[b]? = some (.cells (c.setIfInBounds i v) el fr) := by
  simp [World.setCell, Array.getElem?_modify, hb]
/-- One cell of a row is written. -/
theorem Step.set1 {nm : Name -> Prop} {σ : Sig} {I : Imm} {H : AHeap} {w : World} (h : ARel σ I H w) {n : Name} {row : List AV} (hn : H n = some row) {p : Place} (hp : σ n = some p)
    {off : Nat} (ho : off < row.length) {a : AV} {v : Value} (hv : VRel σ I a v) :
    Step nm σ I H w σ I (upd H n (some (row.set off a))) (w.setCell ⟨p.b, p.o + off, none⟩ v) := by
  obtain ⟨p', c, el, fr, hp', hb, ht, hf, hr⟩ := h.rows n row hn
  rw [hp] at hp'; cases hp'
  have hlen := hr.length
  rw [seg_length] at hlen
  have hin : p.o + off < c.size := by omega
  have hne : ∀ k, upd H n (some (row.set off a)) k ≠ none ↔ H k ≠ none := fun k => by
    by_cases e : k = n
    · subst e; simp [upd_same, hn]
    · rw [upd_ne _ _ e]
  refine ⟨⟨?_, ?_, ?_, ?_⟩, Sig.le_refl _, fun _ h0 h1 => absurd h0 h1, Imm.le_refl _, fun _ _ _ h => .inl h, ?_, ⟨rfl, rfl, rfl, by simp, ?_⟩⟩
  · intro k row' hk
    by_cases e : k = n
    · subst e
      rw [upd_same] at hk; cases hk
      refine ⟨p, c.setIfInBounds (p.o + off) v, el, fr, hp, heap_setCell_row w _ _ _ _ _ _ hb, by simpa using ht, by simpa using hf, ?_⟩
      have e1 : seg (c.setIfInBounds (p.o + off) v) p.o (row.set off a).length = (seg c p.o row.length).set off v := by
        apply List.ext_getElem?
        intro i
        simp only [seg, List.length_set, Array.toList_setIfInBounds]
        by_cases hi : i < row.length
        · rw [List.getElem?_take_of_lt hi, List.getElem?_drop, List.getElem?_set, List.getElem?_set, List.getElem?_take_of_lt hi, List.getElem?_drop]
          by_cases e2 : off = i
          · subst e2
            rw [if_pos rfl, if_pos rfl, if_pos (by simpa using hin), if_pos (by simp; omega)]
          · rw [if_neg (by omega), if_neg e2]
        · rw [List.getElem?_take_eq_none (by omega), List.getElem?_set, if_neg (by omega), List.getElem?_take_eq_none (by omega)]
      rw [e1]
      exact hr.set off hv
    · rw [upd_ne _ _ e] at hk
      obtain ⟨q, c', el', fr', hq, hb', ht', hf', hv'⟩ := h.rows k row' hk
      refine ⟨q, c', el', fr', hq, ?_, ht', hf', hv'⟩
      rw [heap_setCell_other]
      · exact hb'
      · intro e2
        exact e (h.inj k n q p (by rw [hk]; simp) (by rw [hn]; simp) hq hp e2)
  · intro k k' q q' hk hk' hq hq' hb
    exact h.inj k k' q q' ((hne k).1 hk) ((hne k').1 hk') hq hq' hb
  · intro m b c' hb'
    obtain ⟨el', fr', h'⟩ := h.imm m b c' hb'
    refine ⟨el', fr', ?_⟩
    rw [heap_setCell_other]
    · exact h'
    · intro e2
      have := h.dis n p m (by rw [hn]; simp) hp
      subst e2; rw [hb'] at this; cases this
  · intro k q m hk hq
    exact h.dis k q m ((hne k).1 hk) hq
  · rintro b ⟨k, q, hk, hq, rfl⟩
    exact .inl ⟨k, q, (hne k).1 hk, hq, rfl⟩
  · intro b _ hno
    rw [heap_setCell_other]
    intro e2
    exact hno ⟨n, p, by rw [hn]; simp, hp, e2.symm⟩
/-- A row is forgotten. -/
theorem Step.forget {nm : Name -> Prop} {σ : Sig} {I : Imm} {H H' : AHeap} {w : World} (h : ARel σ I H w) (hs : ∀ n row, H' n = some row -> H n = some row) :
    Step nm σ I H w σ I H' w := by
  have hne : ∀ n, H' n ≠ none -> H n ≠ none := fun n hn => by
    cases e : H' n with
    | none => exact absurd e hn
    | some row => rw [hs n row e]; simp
  exact ⟨⟨fun n row hn => h.rows n row (hs n row hn), fun n n' p p' hn hn' => h.inj n n' p p' (hne n hn) (hne n' hn'), h.imm, fun n p m hn => h.dis n p m (hne n hn)⟩,
    Sig.le_refl _, fun _ h0 h1 => absurd h0 h1, Imm.le_refl _, fun _ _ _ h => .inl h, fun b ⟨n, p, hn, hp, hb⟩ => .inl ⟨n, p, hne n hn, hp, hb⟩, Fr.refl _ _ _⟩
end Go.Proofs.YtjinjfblilacaaaGreat.Den
end
section
namespace Go.Proofs.YtjinjfblilacaaaGreat.Den
def szOf (P : Program) (t : TypeId) : Option Nat := (P.info? t).map (·.size)
def aggB (P : Program) (t : TypeId) : Option Bool :=
  match P.underlying t with
  | some (.struct _) | some (.array _ _) => some true
  | some _ => some false
  | none => none
def zeroOf (P : Program) (t : TypeId) : Option Value := (P.info? t).bind (·.zero)
def bytesOf' (P : Program) (t : TypeId) : Option Nat := (P.info? t).map (·.bytes)
def AV.cells : AV -> List AV
  | .agg l => l
  | .val v => v.cells.toList.map .val
  | a => [a]
/-- It takes just one cell. -/
def AV.one : AV -> Bool
  | .agg _ | .tup _ => false
  | .val v => v.oneCell'
  | _ => true
def allVals : List AV -> Option (List Value)
  | [] => some []
  | .val v :: r => (allVals r).map (v :: ·)
  | _ => none
def AV.toVal? : AV -> Option Value
  | .val v => some v
  | .agg l => (allVals l).map fun vs => .agg vs.toArray
  | _ => none
/-- The value of a piece of the model that looks at nothing but the program. -/
def peek (P : Program) {α : Type} : Sem α -> Option α
  | .pure a => some a
  | .program k => peek P (k P)
  | .mark _ k => peek P k
  | _ => none
theorem peek_run {P : Program} {α : Type} {s : Sem α} {a : α} (h : peek P s = some a) (w : World) : s.run P w = .ok a w := by
  induction s with
  | pure b => simp only [peek, Option.some.injEq] at h; subst h; rfl
  | program k ih => simp only [peek] at h; exact ih P h
  | mark m k ih => simp only [peek] at h; exact ih h
  | _ => simp [peek] at h
def setMany : List AV -> Nat -> List AV -> List AV
  | row, _, [] => row
  | row, off, v :: vs => setMany (row.set off v) (off + 1) vs
abbrev Env := Operand -> AV
abbrev Temps := Nat -> AV
def tset (T : Temps) (i : Nat) (v : AV) : Temps := fun k => if k = i then v else T k
def tput (T : Temps) (d : Option Tmp) (v : AV) : Temps :=
  match d with
  | some i => tset T i v
  | none => T
def env (T : Temps) : Env
  | .tmp t => T t
  | .const v => .val v
  | .global g => .val (.pointer (some ⟨g, 0, none⟩))
  | .func f => .fn (.func f) [] []
/-- Numbers, truths, texts. -/
def binV (op : BinOp) (x y : Value) : Option Value :=
  match op, x, y with
  | .add, .int k a, .int k' b => if k = k' then some (.int k (k.wrap (a + b))) else none
  | .sub, .int k a, .int k' b => if k = k' then some (.int k (k.wrap (a - b))) else none
  | .mul, .int k a, .int k' b => if k = k' then some (.int k (k.wrap (a * b))) else none
  | .quo, .int k a, .int k' b => if k = k' /\ b ≠ 0 then some (.int k (k.wrap (a.tdiv b))) else none
  | .rem, .int k a, .int k' b => if k = k' /\ b ≠ 0 then some (.int k (a.tmod b)) else none
  | .and, .int k a, .int k' b => if k = k' then some (.int k (k.wrap ((BitVec.ofInt k.bits a &&& BitVec.ofInt k.bits b).toNat))) else none
  | .or, .int k a, .int k' b => if k = k' then some (.int k (k.wrap ((BitVec.ofInt k.bits a ||| BitVec.ofInt k.bits b).toNat))) else none
  | .xor, .int k a, .int k' b => if k = k' then some (.int k (k.wrap ((BitVec.ofInt k.bits a ^^^ BitVec.ofInt k.bits b).toNat))) else none
  | .eql, .int k a, .int k' b => if k = k' then some (.bool (a == b)) else none
  | .neq, .int k a, .int k' b => if k = k' then some (.bool (a != b)) else none
  | .lss, .int k a, .int k' b => if k = k' then some (.bool (decide (a < b))) else none
  | .leq, .int k a, .int k' b => if k = k' then some (.bool (decide (a <= b))) else none
  | .gtr, .int k a, .int k' b => if k = k' then some (.bool (decide (a > b))) else none
  | .geq, .int k a, .int k' b => if k = k' then some (.bool (decide (a ≥ b))) else none
  | .shl, .int k a, .int _ b => if 0 <= b then some (.int k (k.wrap (a * 2 ^ min b.toNat k.bits))) else none
  | .shr, .int k a, .int _ b => if 0 <= b then some (.int k (a.fdiv (2 ^ min b.toNat k.bits))) else none
  | .add, .string a, .string b => if ((a.size + b.size : Nat) : Int) > IntKind.i64.max then none else some (.string (a ++ b))
  | .eql, .string a, .string b => some (.bool (a.toList == b.toList))
  | .neq, .string a, .string b => some (.bool !(a.toList == b.toList))
  | .eql, .float k a, .float k' b => if k = k' then some (.bool (k.format.order a b == some .eq)) else none
  | .neq, .float k a, .float k' b => if k = k' then some (.bool (k.format.order a b != some .eq)) else none
  | .lss, .float k a, .float k' b => if k = k' then some (.bool (k.format.order a b == some .lt)) else none
  | .leq, .float k a, .float k' b => if k = k' then some (.bool (k.format.order a b == some .lt || k.format.order a b == some .eq)) else none
  | .gtr, .float k a, .float k' b => if k = k' then some (.bool (k.format.order a b == some .gt)) else none
  | .geq, .float k a, .float k' b => if k = k' then some (.bool (k.format.order a b == some .gt || k.format.order a b == some .eq)) else none
  | .add, .float k a, .float k' b => if k = k' then (floatBits .add k a b).map (.float k) else none
  | .sub, .float k a, .float k' b => if k = k' then (floatBits .sub k a b).map (.float k) else none
  | .mul, .float k a, .float k' b => if k = k' then (floatBits .mul k a b).map (.float k) else none
  | .add, .complex k a b, .complex k' c d => if k = k' then (cSumBits .add k a b c d).map fun (x, y) => .complex k x y else none
  | .eql, .complex k a b, .complex k' c d => if k = k' then some (.bool ((k.format.order a c == some .eq) && (k.format.order b d == some .eq))) else none
  | .neq, .complex k a b, .complex k' c d => if k = k' then some (.bool !((k.format.order a c == some .eq) && (k.format.order b d == some .eq))) else none
  | _, _, _ => none
def convV (P : Program) (src dst : TypeId) (x : Value) : Option Value :=
  match P.underlying src, P.underlying dst, x with
  | some _, some (.int k), .int _ n => some (.int k (k.wrap n))
  | some _, some (.float k), .int _ n => some (.float k (k.nearest n))
  | some _, some (.int k), .float s b => (floatToIntVal s b k).map (.int k)
  | some _, some .string, .string s => some (.string s)
  | _, _, _ => none
/-- Is it nil? -/
def AV.nilEq : AV -> Value -> Option TypeDesc -> Option Bool
  | .ptr _ _, .pointer none, some (.pointer _) => some false
  | .imp _ _ _, .pointer none, some (.pointer _) => some false
  | .sl _ _ _ _, .slice none 0 0, some (.slice _) => some false
  | .im _ (_ + 1) _, .slice none 0 0, some (.slice _) => some false
  | .fn _ _ _, .nilFunc, some (.func _ _ _) => some false
  | _, _, _ => none
def aeq (P : Program) (neg : Bool) (t : TypeId) (x y : Operand) (a b : AV) : Option AV :=
  match a, b with
  | .val u, .val v =>
    match binV (if neg then .neq else .eql) u v with
    | some r => some (.val r)
    | none => (peek P (do eqGuard (if neg then .neq else .eql) t x y u v; binOp (if neg then .neq else .eql) t u v)).map .val
  | .agg _, .agg _ =>
    match a.toVal?, b.toVal? with
    | some u, some v => (peek P (do eqGuard (if neg then .neq else .eql) t x y u v; binOp (if neg then .neq else .eql) t u v)).map .val
    | _, _ => none
  | a, .val v => (a.nilEq v (P.underlying t)).map fun r => .val (.bool (r != neg))
  | _, _ => none
def fillA (place : Nat -> Option (Nat × Nat)) : List AV -> List (Nat × AV) -> Option (List AV)
  | cells, [] => some cells
  | cells, (i, v) :: rest =>
    match place i with
    | none => none
    | some (off, size) => if v.cells.length ≠ size \/ off + size > cells.length then none else fillA place (setMany cells off v.cells) rest
/-- Where a struct's fields lie, and how many cells each has. -/
def places (P : Program) : List Field -> Option (List (Nat × Nat))
  | [] => some []
  | f :: fs => (szOf P f.type).bind fun s => (places P fs).map ((f.offset, s) :: ·)
def natOf : AV -> Option Nat
  | .val (.int _ n) => if 0 <= n then some n.toNat else none
  | _ => none
/-- Elements that are read: how many, and their cells. -/
def srcCells (H : AHeap) (size : Nat) : AV -> Option (Nat × List AV)
  | .val (.slice _ 0 _) => some (0, [])
  | .val (.string s) => if size = 1 then some (s.size, s.data.toList.map fun b => .val (.int .u8 b.toNat)) else none
  | .sl n off len sz => if sz = size then (H n).bind fun row => if off + len * size <= row.length then some (len, (row.drop off).take (len * size)) else none else none
  | .im _ len cells => if cells.length = len * size then some (len, cells) else none
  | _ => none
def bytesA : List AV -> Option (List UInt8)
  | [] => some []
  | .val (.int .u8 n) :: r => if 0 <= n /\ n < 256 then (bytesA r).map (UInt8.ofNat n.toNat :: ·) else none
  | _ => none
def isU8 : Option TypeDesc -> Bool
  | some (.int .u8) => true
  | _ => false
def zeroCellsA (P : Program) (t : TypeId) : Option (List AV) := (zeroOf P t).map fun z => z.cells.toList.map .val
/-- The row of a fresh slice. -/
def rowOf (zero : List AV) : Nat -> List AV
  | 0 => []
  | n + 1 => zero ++ rowOf zero n
abbrev Res := Option (AV × AHeap)
def aload (P : Program) (t : TypeId) (a : AV) (H : AHeap) : Option AV :=
  match a, aggB P t, szOf P t with
  | .ptr n off, some true, some size => (H n).bind fun row => if off + size <= row.length then some (.agg ((row.drop off).take size)) else none
  | .ptr n off, some false, some _ => (H n).bind fun row => row[off]?
  | .imp _ cells off, some true, some size => if off + size <= cells.length then some (.agg ((cells.drop off).take size)) else none
  | .imp _ cells off, some false, some _ => cells[off]?
  | _, _, _ => none
def astore (P : Program) (t : TypeId) (a x : AV) (H : AHeap) : Option AHeap :=
  match a with
  | .ptr n off =>
    if szOf P t = some x.cells.length /\ x.cells.all AV.one then
      (H n).bind fun row => if off + x.cells.length <= row.length then some (upd H n (some (setMany row off x.cells))) else none
    else none
  | _ => none
def boundOf (d : Nat) : Option AV -> Option Nat
  | none => some d
  | some v => natOf v
def aslice (P : Program) (t : TypeId) (x : AV) (lo hi : Option AV) (H : AHeap) : Option AV :=
  match x with
  | .val (.string s) =>
    match boundOf 0 lo, boundOf s.size hi, P.underlying t with
    | some l, some h, some .string => if l <= h /\ h <= s.size then some (.val (.string (s.extract l h))) else none
    | _, _, _ => none
  | .val (.slice none 0 0) =>
    match boundOf 0 lo, boundOf 0 hi, P.underlying t with
    | some 0, some 0, some (.slice e) => if (szOf P e).isSome then some (.val (.slice none 0 0)) else none
    | _, _, _ => none
  | .sl n off len sz =>
    match boundOf 0 lo, boundOf len hi, P.underlying t with
    | some l, some h, some (.slice e) =>
      if szOf P e = some sz /\ l <= h /\ h <= len then (if l = 0 then some (.sl n off h sz) else if l = h then some (.im true 0 []) else some (.sl n (off + l * sz) (h - l) sz)) else none
    | _, _, _ => none
  | .im m len cells =>
    match boundOf 0 lo, boundOf len hi, P.underlying t with
    | some l, some h, some (.slice e) =>
      match szOf P e with
      | some sz => if l <= h /\ h <= len /\ cells.length = len * sz then (if l = h then some (.im m 0 []) else some (.im m (h - l) ((cells.drop (l * sz)).take ((h - l) * sz)))) else none
      | none => none
    | _, _, _ => none
  | .ptr n off =>
    match P.underlying t with
    | some (.array N e) =>
      match boundOf 0 lo, boundOf N hi, szOf P e with
      | some l, some h, some sz =>
        (H n).bind fun row => if l <= h /\ h <= N /\ sz ≠ 0 /\ off + N * sz <= row.length then (if l = h then some (.im true 0 []) else some (.sl n (off + l * sz) (h - l) sz)) else none
      | _, _, _ => none
    | _ => none
  | _ => none
def aindexAddr (P : Program) (t : TypeId) (x i : AV) : Option AV :=
  match natOf i, x, P.underlying t with
  | some i, .sl n off len sz, some (.slice e) => if szOf P e = some sz /\ i < len then some (.ptr n (off + i * sz)) else none
  | some i, .im m len cells, some (.slice e) => (szOf P e).bind fun sz => if i < len then some (.imp m cells (i * sz)) else none
  | some i, .ptr n off, some (.array len e) => (szOf P e).bind fun sz => if i < len then some (.ptr n (off + i * sz)) else none
  | some i, .imp m cells off, some (.array len e) => (szOf P e).bind fun sz => if i < len then some (.imp m cells (off + i * sz)) else none
  | _, _, _ => none
def afieldAddr (P : Program) (s : TypeId) (x : AV) (f : Nat) : Option AV :=
  match P.underlying s with
  | some (.struct fs) =>
    (fs[f]?).bind fun fl => (szOf P fl.type).bind fun sz =>
      if sz = 0 then none else
      match x with
      | .ptr n off => some (.ptr n (off + fl.offset))
      | .imp m cells off => some (.imp m cells (off + fl.offset))
      | _ => none
  | _ => none
def apart (P : Program) (t : TypeId) (l : List AV) (off : Nat) : Option AV :=
  match aggB P t, szOf P t with
  | some true, some size => if off + size <= l.length then some (.agg ((l.drop off).take size)) else none
  | some false, some _ => l[off]?
  | _, _ => none
def aindex (P : Program) (t : TypeId) (x i : AV) : Option AV :=
  match natOf i, x, P.underlying t with
  | some i, .agg l, some (.array len e) => (szOf P e).bind fun sz => if i < len then apart P e l (i * sz) else none
  | some i, .val (.string s), some .string => (s.data[i]?).map fun b => .val (.int .u8 b.toNat)
  | _, _, _ => none
def alen (P : Program) (t : TypeId) (x : AV) : Option AV :=
  match P.underlying t, x with
  | some (.array n _), _ => some (.val (.int .i64 n))
  | some .string, .val (.string s) => some (.val (.int .i64 s.size))
  | some (.slice _), .val (.slice _ n _) => some (.val (.int .i64 n))
  | some (.slice _), .sl _ _ len _ => some (.val (.int .i64 len))
  | some (.slice _), .im _ len _ => some (.val (.int .i64 len))
  | some (.pointer p), _ =>
    match P.underlying p with
    | some (.array n _) => some (.val (.int .i64 n))
    | _ => none
  | _, _ => none
/-- May elements be read out of it? -/
def seqD : TypeDesc -> Bool
  | .slice _ | .string => true
  | _ => false
def aappend (P : Program) (t xt : TypeId) (s x : AV) (nm : Name) (H : AHeap) : Res :=
  match P.underlying t, P.underlying xt with
  | some (.slice e), some d =>
    match P.info? e with
    | some i =>
      match i.zero, srcCells H i.size x with
      | some z, some (k, new) =>
        if seqD d = true /\ z.cells.size = i.size /\ new.all AV.one = true /\ new.length = k * i.size then
          match s with
          | .val (.slice none 0 0) => if k = 0 then some (.val (.slice none 0 0), H) else if k * i.bytes <= 140737488355328 /\ k <= 140737488355328 then some (.sl nm 0 k i.size, upd H nm (some new)) else none
          | .sl n off len sz =>
            (H n).bind fun row =>
              if sz = i.size /\ off + len * sz <= row.length /\ (len + k) * i.bytes <= 140737488355328 /\ len + k <= 140737488355328 then
                some (.sl nm 0 (len + k) sz, upd (upd H n none) nm (some ((row.drop off).take (len * sz) ++ new)))
              else none
          | .im m len cells => if k = 0 then some (.im m len cells, H) else none
          | _ => none
        else none
      | _, _ => none
    | none => none
  | _, _ => none
def acopy (P : Program) (t : TypeId) (d x : AV) (H : AHeap) : Res :=
  match P.underlying t, d with
  | some (.slice e), .sl n off len sz =>
    match szOf P e, (H n), srcCells H sz x with
    | some s, some row, some (k, new) =>
      if s = sz /\ new.length = k * sz /\ new.all AV.one /\ off + min k len * sz <= row.length then
        some (.val (.int .i64 (min k len : Nat)), upd H n (some (setMany row off (new.take (min k len * sz)))))
      else none
    | _, _, _ => none
  | _, _ => none
def abuiltin (P : Program) (b : Builtin) (ts : Array TypeId) (args : List AV) (nm : Name) (H : AHeap) : Res :=
  match b, args with
  | .len, [x] => (ts[0]?).bind fun t => (alen P t x).map (·, H)
  | .append, [s, x] => (ts[0]?).bind fun t => (ts[1]?).bind fun xt => aappend P t xt s x nm H
  | .copy, [d, x] => (ts[0]?).bind fun t => acopy P t d x H
  | .min, [.val (.int k x), .val (.int _ y)] => some (.val (.int k (if y < x then y else x)), H)
  | .max, [.val (.int k x), .val (.int _ y)] => some (.val (.int k (if x < y then y else x)), H)
  | .complex, [.val (.float k a), .val (.float k' b)] => if k = k' then some (.val (.complex k a b), H) else none
  | .real, [.val (.complex k a _)] => some (.val (.float k a), H)
  | .imag, [.val (.complex k _ b)] => some (.val (.float k b), H)
  | _, _ => none
abbrev CallF := FuncId -> List AV -> Name -> AHeap -> Res
def acall (call : CallF) (f : AV) (args : List AV) (nm : Name) (H : AHeap) : Res :=
  match f with
  | .fn (.func f) first captured => call f (first ++ args ++ captured) nm H
  | _ => none
/-- One operation: its value, and the memory behind it. -/
def aop (P : Program) (call : CallF) (o : Oper) (ρ : Env) (nm : Name) (H : AHeap) : Res :=
  match o.op with
  | .move x | .assign x => some (ρ x, H)
  | .pick c a b =>
    match ρ c with
    | .val (.bool t) => some (if t then ρ a else ρ b, H)
    | _ => none
  | .alloc e => (zeroCellsA P e).map fun z => (.ptr nm 0, upd H nm (some z))
  | .box _ x => some (.ptr nm 0, upd H nm (some (ρ x).cells))
  | .build t parts =>
    match zeroCellsA P t, P.underlying t with
    | some z, some (.struct fs) => (places P fs.toList).bind fun ps => (fillA (ps[·]?) z (parts.toList.map fun (i, x) => (i, ρ x))).map fun l => (.agg l, H)
    | some z, some (.array _ e) => (szOf P e).bind fun s => (fillA (fun i => some (i * s, s)) z (parts.toList.map fun (i, x) => (i, ρ x))).map fun l => (.agg l, H)
    | _, _ => none
  | .buildSlice t len parts =>
    match P.underlying t with
    | some (.slice e) =>
      match szOf P e, zeroCellsA P e with
      | some s, some z =>
        if z.length = s /\ s ≠ 0 /\ len * s <= 16777216 then
          (fillA (fun i => some (i * s, s)) (rowOf z len) (parts.toList.map fun (i, x) => (i, ρ x))).map fun l => (.sl nm 0 len s, upd H nm (some l))
        else none
      | _, _ => none
    | _ => none
  | .load t a => (aload P t (ρ a) H).map (·, H)
  | .store t a x => (astore P t (ρ a) (ρ x) H).map (.val undef, ·)
  | .nilCheck x =>
    match ρ x with
    | .ptr n off => some (.ptr n off, H)
    | .imp m c off => some (.imp m c off, H)
    | .fn (.func f) a b => some (.fn (.func f) a b, H)
    | _ => none
  | .binOp .eql t x y _ => (aeq P false t x y (ρ x) (ρ y)).map (·, H)
  | .binOp .neq t x y _ => (aeq P true t x y (ρ x) (ρ y)).map (·, H)
  | .binOp op _ x y _ =>
    match ρ x, ρ y with
    | .val u, .val v => (binV op u v).map (.val ·, H)
    | _, _ => none
  | .unOp .not _ x =>
    match ρ x with
    | .val (.bool b) => some (.val (.bool !b), H)
    | _ => none
  | .unOp .neg _ x =>
    match ρ x with
    | .val (.int k n) => some (.val (.int k (k.wrap (0 - n))), H)
    | _ => none
  | .unOp .xor _ x =>
    match ρ x with
    | .val (.int k n) => some (.val (.int k (k.wrap ((BitVec.ofInt k.bits (if k.signed then -1 else k.max) ^^^ BitVec.ofInt k.bits n).toNat))), H)
    | _ => none
  | .convert src dst x =>
    match ρ x with
    | .val (.string s) =>
      match P.underlying src, P.underlying dst with
      | some .string, some (.slice e) =>
        if isU8 (P.underlying e) then some (.im true s.size (s.data.toList.map fun b => .val (.int .u8 b.toNat)), H) else none
      | _, _ => (convV P src dst (.string s)).map (.val ·, H)
    | .val (.slice none _ _) =>
      match P.underlying src, P.underlying dst with
      | some (.slice e), some .string => if isU8 (P.underlying e) then some (.val (.string .empty), H) else none
      | _, _ => none
    | .val v => (convV P src dst v).map (.val ·, H)
    | x =>
      match P.underlying src, P.underlying dst with
      | some (.slice e), some .string =>
        if isU8 (P.underlying e) then (srcCells H 1 x).bind fun (_, cells) => (bytesA cells).map fun l => (.val (.string ⟨l.toArray⟩), H) else none
      | some (.slice _), some (.slice e) =>
        match x with
        | .sl n off len sz => (H n).bind fun row => if src = dst /\ isU8 (P.underlying e) = true /\ off + len * sz <= row.length then some (.im true len ((row.drop off).take (len * sz)), upd H n none) else none
        | _ => none
      | _, _ => none
  | .makeFunc fn first captured => some (.fn fn (first.toList.map ρ) (captured.toList.map ρ), H)
  | .makeSlice t l c =>
    match P.underlying t, natOf (ρ l), natOf (ρ c) with
    | some (.slice e), some l, some c =>
      match szOf P e, zeroCellsA P e, bytesOf' P e with
      | some s, some z, some by_ => if z.length = s /\ s ≠ 0 /\ l <= c /\ c <= 281474976710656 /\ by_ * c <= 281474976710656 then some (.sl nm 0 l s, upd H nm (some (rowOf z c))) else none
      | _, _, _ => none
    | _, _, _ => none
  | .slice t x lo hi none => (aslice P t (ρ x) (lo.map ρ) (hi.map ρ) H).map (·, H)
  | .fieldAddr s x f => (afieldAddr P s (ρ x) f).map (·, H)
  | .field t x f =>
    match P.underlying t, ρ x with
    | some (.struct fs), .agg l => (fs[f]?).bind fun fl => (apart P fl.type l fl.offset).map (·, H)
    | _, _ => none
  | .indexAddr t x i => (aindexAddr P t (ρ x) (ρ i)).map (·, H)
  | .index t x i => (aindex P t (ρ x) (ρ i)).map (·, H)
  | .extract x i =>
    match ρ x with
    | .tup l => (l[i]?).map (·, H)
    | _ => none
  | .call c =>
    match c.callee with
    | .builtin b => abuiltin P b c.argTypes (c.args.toList.map ρ) nm H
    | .value f => acall call (ρ f) (c.args.toList.map ρ) nm H
    | .invoke _ _ => none
  | _ => none
end Go.Proofs.YtjinjfblilacaaaGreat.Den
end
section
namespace Go.Proofs.YtjinjfblilacaaaGreat.Den
variable {P : Program}
section small
variable (w : World)
theorem run_underlying' {t : TypeId} {d : TypeDesc} (h : P.underlying t = some d) : (underlying t).run P w = .ok d w := by simp [underlying, h]
theorem run_typeInfo' {t : TypeId} {i : TypeInfo} (h : P.info? t = some i) : (typeInfo t).run P w = .ok i w := by simp [typeInfo, h]
theorem info_of_size {t : TypeId} {s : Nat} (h : szOf P t = some s) : ∃ i, P.info? t = some i /\ i.size = s := by
  unfold szOf at h
  cases e : P.info? t with
  | none => simp [e] at h
  | some i => simp [e] at h; exact ⟨i, rfl, h⟩
theorem run_sizeOf' {t : TypeId} {s : Nat} (h : szOf P t = some s) : (sizeOf t).run P w = .ok s w := by
  obtain ⟨i, hi, rfl⟩ := info_of_size h
  simp [sizeOf, run_typeInfo' w hi]
theorem run_zero' {t : TypeId} {z : Value} (h : zeroOf P t = some z) : (zeroValue t).run P w = .ok z w := by
  unfold zeroOf at h
  cases e : P.info? t with
  | none => simp [e] at h
  | some i =>
    simp [e] at h
    simp [zeroValue, run_typeInfo' w e, h]
theorem run_isAgg' {t : TypeId} {b : Bool} (h : aggB P t = some b) : (isAgg t).run P w = .ok b w := by
  unfold aggB at h
  cases e : P.underlying t with
  | none => simp [e] at h
  | some d =>
    rw [e] at h
    cases d <;> simp at h <;> subst h <;> simp [isAgg, run_underlying' w e]
theorem run_newRow' (el : TypeId) (c : Array Value) : (newRow el c).run P w = .ok ⟨w.heap.size, 0, none⟩ (w.alloc (.cells c el)) := by simp [newRow]
theorem run_sureAddr' (a : Addr) : (Instr.sureAddr (.pointer (some a))).run P w = .ok a w := by simp [Instr.sureAddr]
end small
theorem cells_rel {σ : Sig} {I : Imm} {a : AV} {v : Value} (h : VRel σ I a v) : VRels σ I a.cells v.cells.toList := by
  cases h with
  | val v => cases v <;> simp [AV.cells, Value.cells] <;> first | exact VRels.vals _ | exact VRels.cons (.val _) .nil
  | ptr h => exact .cons (.ptr h) .nil
  | imp h hc => exact .cons (.imp h hc) .nil
  | sl h hl hc => exact .cons (.sl h hl hc) .nil
  | im0 => exact .cons .im0 .nil
  | im h hc hl => exact .cons (.im h hc hl) .nil
  | agg h => exact h
  | tup h => exact .cons (.tup h) .nil
  | fn h h' => exact .cons (.fn h h') .nil
theorem one_rel {σ : Sig} {I : Imm} {a : AV} {v : Value} (h : VRel σ I a v) (ho : a.one = true) : v.oneCell' = true := by
  cases h <;> simp_all [AV.one, Value.oneCell']
theorem seg_whole' (c : Array Value) (n : Nat) (h : n = c.size) : seg c 0 n = c.toList := by subst h; simp only [seg, List.drop_zero]; rw [<- Array.length_toList, List.take_length]
theorem no_frozen (c : Array Value) : frOk (0, 0) c.size := rfl
/-- A new row that no text shares. -/
theorem Step.row {nm : Name -> Prop} {σ : Sig} {I : Imm} {H : AHeap} {w : World} (h : ARel σ I H w) {n : Name} (hn : σ n = none) (hnm : nm n)
    {row : List AV} {c : Array Value} (el : TypeId) (hr : VRels σ I row c.toList) :
    ∃ σ', Step nm σ I H w σ' I (upd H n (some row)) (w.alloc (.cells c el)) /\ σ' n = some ⟨w.heap.size, 0, c.size⟩ := by
  have hl : row.length = c.size := by simpa using hr.length
  exact ⟨_, (Step.alloc h hn hnm (no_frozen c) (by rw [seg_whole' c _ hl]; exact hr)).1, upd_same _ _ _⟩
theorem addr_add (b o k : Nat) : (⟨b, o, none⟩ : Addr).add k = ⟨b, o + k, none⟩ := by
  unfold Addr.add
  split
  · rename_i h; subst h; rfl
  · rfl
/-! ### loads -/
theorem load_cells {σ : Sig} {I : Imm} {w : World} {b o : Nat} {l : List AV} {n : Nat} (hl : l.length = n)
    (hc : ∀ (i : Nat) (a : AV), l[i]? = some a -> ∃ v, w.cell? ⟨b, o + i, none⟩ = some v /\ VRel σ I a v) :
    ∃ vs : Array Value, (loadCells ⟨b, o, none⟩ n).run P w = .ok vs w /\ VRels σ I l vs.toList := by
  have hex : ∃ vs : List Value, vs.length = n /\ ∀ (i : Nat) (a : AV), l[i]? = some a -> ∃ v, vs[i]? = some v /\ w.cell? ⟨b, o + i, none⟩ = some v /\ VRel σ I a v := by
    induction l generalizing o n with
    | nil => exact ⟨[], by simpa using hl, fun i a h => by simp at h⟩
    | cons a l ih =>
      obtain ⟨v, hv1, hv2⟩ := hc 0 a rfl
      cases n with
      | zero => simp at hl
      | succ n =>
        obtain ⟨vs, hvl, hvs⟩ := ih (o := o + 1) (n := n) (by simpa using hl) (fun i b hb => by
          have := hc (i + 1) b (by simpa using hb)
          rwa [show o + (i + 1) = o + 1 + i from by omega] at this)
        refine ⟨v :: vs, by simp [hvl], fun i b hb => ?_⟩
        cases i with
        | zero => simp at hb; subst hb; exact ⟨v, rfl, hv1, hv2⟩
        | succ i =>
          obtain ⟨u, h1, h2, h3⟩ := hvs i b (by simpa using hb)
          exact ⟨u, by simpa using h1, by rwa [show o + (i + 1) = o + 1 + i from by omega], h3⟩
  obtain ⟨vs, hvl, hvs⟩ := hex
  refine ⟨vs.toArray, ?_, ?_⟩
  · have := run_loadCells_list (P := P) (w := w) ⟨b, o, none⟩ vs (fun j v hj => by
      have hj' : j < l.length := by rw [hl, <- hvl]; exact (List.getElem?_eq_some_iff.1 hj).1
      obtain ⟨u, h1, h2, _⟩ := hvs j l[j] (List.getElem?_eq_getElem hj')
      rw [hj] at h1; cases h1
      rw [addr_add]; exact h2)
    rw [hvl] at this
    exact this
  · exact VRels.of_get (by simp [hl, hvl]) fun i a v ha hv => by
      obtain ⟨u, h1, _, h3⟩ := hvs i a ha
      simp at hv
      rw [hv] at h1; cases h1; exact h3
theorem run_loadAt {σ : Sig} {I : Imm} {H : AHeap} {w : World} (hr : ARel σ I H w) {t : TypeId} {a r : AV} {v : Value} (ha : VRel σ I a v) (h : aload P t a H = some r) :
    ∃ u, (Instr.loadAt t v).run P w = .ok u w /\ VRel σ I r u := by
  unfold aload at h
  cases hg : aggB P t with
  | none => cases ha <;> simp [hg] at h
  | some g =>
    cases hs : szOf P t with
    | none => cases ha <;> simp [hg, hs] at h
    | some size =>
      have base : ∀ (b o : Nat) (l : List AV), (∀ (i : Nat) (a : AV), l[i]? = some a -> ∃ v, w.cell? ⟨b, o + i, none⟩ = some v /\ VRel σ I a v) ->
          (g = true -> l.length = size /\ r = .agg l) -> (g = false -> l[0]? = some r) -> ∃ u, (Instr.loadAt t (.pointer (some ⟨b, o, none⟩))).run P w = .ok u w /\ VRel σ I r u := by
        intro b o l hc h1 h2
        cases g with
        | true =>
          obtain ⟨hl, rfl⟩ := h1 rfl
          obtain ⟨vs, hv1, hv2⟩ := load_cells (P := P) hl hc
          exact ⟨.agg vs, by simp [Instr.loadAt, run_sureAddr', loadVar, run_isAgg' w hg, run_sizeOf' w hs, hv1], .agg hv2⟩
        | false =>
          obtain ⟨u, hu1, hu2⟩ := hc 0 r (h2 rfl)
          have hu3 : w.cell? ⟨b, o, none⟩ = some u := hu1
          exact ⟨u, by simp [Instr.loadAt, run_sureAddr', loadVar, run_isAgg' w hg, hu3], hu2⟩
      cases ha with
      | @ptr n off p hp =>
        cases g with
        | true =>
          simp only [hg, hs] at h
          cases hn : H n with
          | none => simp [hn] at h
          | some row =>
            simp only [hn, Option.bind_some] at h
            split at h <;> simp at h
            rename_i hle
            refine base p.b (p.o + off) ((row.drop off).take size) ?_ (fun _ => ⟨by simp; omega, h.symm⟩) (fun e => by cases e)
            intro i a hi
            rw [List.getElem?_take] at hi
            split at hi
            · rw [List.getElem?_drop] at hi
              obtain ⟨u, h1, h2, _⟩ := hr.cell hn hp hi
              exact ⟨u, by rwa [show p.o + off + i = p.o + (off + i) from by omega], h2⟩
            · cases hi
        | false =>
          simp only [hg, hs] at h
          cases hn : H n with
          | none => simp [hn] at h
          | some row =>
            simp only [hn, Option.bind_some] at h
            refine base p.b (p.o + off) [r] ?_ (fun e => by cases e) (fun _ => rfl)
            intro i a hi
            cases i with
            | succ i => simp at hi
            | zero =>
              simp at hi; subst hi
              obtain ⟨u, h1, h2, _⟩ := hr.cell hn hp h
              exact ⟨u, by simpa using h1, h2⟩
      | @imp m cells off b o c hb hcells =>
        cases g with
        | true =>
          simp only [hg, hs] at h
          split at h <;> simp at h
          rename_i hle
          refine base b (o + off) ((cells.drop off).take size) ?_ (fun _ => ⟨by simp; omega, h.symm⟩) (fun e => by cases e)
          intro i a hi
          rw [List.getElem?_take] at hi
          split at hi
          · rw [List.getElem?_drop] at hi
            obtain ⟨u, h1, h2⟩ := hr.icell hb hcells hi
            exact ⟨u, by rwa [show o + off + i = o + (off + i) from by omega], h2⟩
          · cases hi
        | false =>
          simp only [hg, hs] at h
          refine base b (o + off) [r] ?_ (fun e => by cases e) (fun _ => rfl)
          intro i a hi
          cases i with
          | succ i => simp at hi
          | zero =>
            simp at hi; subst hi
            obtain ⟨u, h1, h2⟩ := hr.icell hb hcells h
            exact ⟨u, by simpa using h1, h2⟩
      | _ => simp at h
/-! ### stores -/
theorem store_cells {nm : Name -> Prop} {σ : Sig} {I : Imm} {n : Name} {p : Place} (hp : σ n = some p) : ∀ (vs : List AV) (us : List Value) (H : AHeap) (w : World) (row : List AV) (off i : Nat),
    ARel σ I H w -> H n = some row -> VRels σ I vs us -> vs.all AV.one = true -> off + i + vs.length <= row.length ->
    ∃ w', (storeCells ⟨p.b, p.o + off, none⟩ us i).run P w = .ok () w' /\ Step nm σ I H w σ I (upd H n (some (setMany row (off + i) vs))) w' := by
  intro vs
  induction vs with
  | nil =>
    intro us H w row off i hr hn hv _ _
    cases hv
    refine ⟨w, by simp [storeCells], ?_⟩
    have : upd H n (some (setMany row (off + i) [])) = H := by
      funext k
      by_cases e : k = n
      · subst e; rw [upd_same, hn]; rfl
      · rw [upd_ne _ _ e]
    rw [this]; exact Step.refl _ hr
  | cons a vs ih =>
    intro us H w row off i hr hn hv ho hle
    cases hv with
    | @cons _ v _ us hv ht =>
      simp only [List.all_cons, Bool.and_eq_true] at ho
      simp only [List.length_cons] at hle
      have hlt : off + i < row.length := by omega
      obtain ⟨old, hc, _, hf, _⟩ := hr.cell hn hp (List.getElem?_eq_getElem hlt)
      have st := Step.set1 (nm := nm) hr hn hp hlt hv
      obtain ⟨w', h1, h2⟩ := ih us _ _ (row.set (off + i) a) off (i + 1) st.rel (upd_same _ _ _) ht ho.2 (by simp; omega)
      refine ⟨w', ?_, ?_⟩
      · rw [show p.o + (off + i) = p.o + off + i from by omega] at hc hf h1
        simp only [storeCells, Sem.run_bind, addr_add, run_store P w _ v _ (one_rel hv ho.1), hc, hf, Bool.false_eq_true, if_false, Result.andThen_ok]
        exact h1
      · have e1 : upd (upd H n (some (row.set (off + i) a))) n (some (setMany (row.set (off + i) a) (off + (i + 1)) vs)) = upd H n (some (setMany row (off + i) (a :: vs))) := by
          funext k
          by_cases e : k = n
          · subst e; rw [upd_same, upd_same]; rfl
          · rw [upd_ne _ _ e, upd_ne _ _ e, upd_ne _ _ e]
        rw [e1] at h2
        exact st.trans h2
theorem run_storeAt {nm : Name -> Prop} {σ : Sig} {I : Imm} {H H' : AHeap} {w : World} (hr : ARel σ I H w) {t : TypeId} {a x : AV} {v u : Value} (ha : VRel σ I a v) (hx : VRel σ I x u) (h : astore P t a x H = some H') :
    ∃ w', (Instr.storeAt t v u).run P w = .ok () w' /\ Step nm σ I H w σ I H' w' := by
  unfold astore at h
  cases ha with
  | @ptr n off p hp =>
    simp only at h
    split at h
    · rename_i hc
      cases hn : H n with
      | none => simp [hn] at h
      | some row =>
        simp only [hn, Option.bind_some] at h
        split at h <;> simp at h
        rename_i hle
        subst h
        have hcr := cells_rel hx
        have hlen : x.cells.length = u.cells.size := by simpa using hcr.length
        obtain ⟨w', h1, h2⟩ := store_cells (P := P) (nm := nm) hp x.cells u.cells.toList H w row off 0 hr hn hcr hc.2 (by omega)
        refine ⟨w', ?_, h2⟩
        simp [Instr.storeAt, run_sureAddr', storeVar, run_sizeOf' w hc.1, hlen, h1]
    · cases h
  | _ => simp at h
end Go.Proofs.YtjinjfblilacaaaGreat.Den
end
section
namespace Go.Proofs.YtjinjfblilacaaaGreat.Den
variable {P : Program}
theorem natOf_rel {σ : Sig} {I : Imm} {a : AV} {v : Value} {i : Nat} (h : VRel σ I a v) (hn : natOf a = some i) : ∃ k : IntKind, v = .int k (i : Int) := by
  cases h with
  | val v =>
    cases v <;> simp only [natOf] at hn <;> try (cases hn; done)
    rename_i k n
    split at hn
    · simp at hn; subst hn; exact ⟨k, by rw [Int.toNat_of_nonneg (by assumption)]⟩
    · cases hn
  | _ => simp [natOf] at hn
theorem run_asIntOf' (w : World) (k : IntKind) (i : Int) : (asIntOf (.int k i)).run P w = .ok (k, i) w := by simp [asIntOf]
theorem run_fieldAt' {σ : Sig} {I : Imm} {s : TypeId} {a r : AV} {v : Value} {f : Nat} (w : World) (ha : VRel σ I a v) (h : afieldAddr P s a f = some r) :
    ∃ u, (Instr.fieldAt s v f).run P w = .ok u w /\ VRel σ I r u := by
  unfold afieldAddr at h
  cases hu : P.underlying s with
  | none => simp [hu] at h
  | some d =>
    cases d <;> simp only [hu] at h <;> try (cases h; done)
    rename_i fs
    cases hf : fs[f]? with
    | none => simp [hf] at h
    | some fl =>
      simp only [hf, Option.bind_some] at h
      cases hs : szOf P fl.type with
      | none => simp [hs] at h
      | some sz =>
        simp only [hs, Option.bind_some] at h
        split at h
        · cases h
        · rename_i hz
          cases ha with
          | @ptr n off p hp =>
            simp at h; subst h
            refine ⟨_, ?_, VRel.ptr hp⟩
            simp [Instr.fieldAt, run_underlying' w hu, hf, run_sureAddr', fieldPlace, run_sizeOf' w hs, hz, addr_add, Nat.add_assoc]
          | @imp m cells off b o c hb hc =>
            simp at h; subst h
            refine ⟨_, ?_, VRel.imp hb hc⟩
            simp [Instr.fieldAt, run_underlying' w hu, hf, run_sureAddr', fieldPlace, run_sizeOf' w hs, hz, addr_add, Nat.add_assoc]
          | _ => simp at h
theorem run_indexAt' {σ : Sig} {I : Imm} {t : TypeId} {x i r : AV} {v u : Value} (w : World) (hx : VRel σ I x v) (hi : VRel σ I i u) (h : aindexAddr P t x i = some r) :
    ∃ q, (Instr.indexAt t v u).run P w = .ok q w /\ VRel σ I r q := by
  unfold aindexAddr at h
  cases hn : natOf i with
  | none => simp [hn] at h
  | some k =>
    obtain ⟨kd, rfl⟩ := natOf_rel hi hn
    cases hu : P.underlying t with
    | none => cases x <;> simp [hn, hu] at h
    | some d =>
      simp only [hn, hu] at h
      cases hx with
      | @sl n off len sz cap p hp hl hc =>
        cases d <;> simp only at h <;> try (cases h; done)
        rename_i e
        split at h <;> simp at h
        rename_i hcond
        subst h
        refine ⟨_, ?_, VRel.ptr hp⟩
        simp [Instr.indexAt, run_asIntOf', run_underlying' w hu, run_sizeOf' w hcond.1, hcond.2, addr_add, Nat.add_assoc]
      | @im0 m a cap =>
        cases d <;> simp only at h <;> try (cases h; done)
        rename_i e
        cases hs : szOf P e <;> simp [hs] at h
      | @im m len cap b o cells c hb hc hl =>
        cases d <;> simp only at h <;> try (cases h; done)
        rename_i e
        cases hs : szOf P e with
        | none => simp [hs] at h
        | some sz =>
          simp only [hs, Option.bind_some] at h
          split at h <;> simp at h
          rename_i hcond
          subst h
          refine ⟨_, ?_, VRel.imp hb hc⟩
          simp [Instr.indexAt, run_asIntOf', run_underlying' w hu, run_sizeOf' w hs, hcond, addr_add]
      | @ptr n off p hp =>
        cases d <;> simp only at h <;> try (cases h; done)
        rename_i len e
        cases hs : szOf P e with
        | none => simp [hs] at h
        | some sz =>
          simp only [hs, Option.bind_some] at h
          split at h <;> simp at h
          rename_i hcond
          subst h
          refine ⟨_, ?_, VRel.ptr hp⟩
          simp [Instr.indexAt, run_asIntOf', run_underlying' w hu, run_sizeOf' w hs, hcond, run_sureAddr', addr_add, Nat.add_assoc]
      | @imp m cells off b o c hb hc =>
        cases d <;> simp only at h <;> try (cases h; done)
        rename_i len e
        cases hs : szOf P e with
        | none => simp [hs] at h
        | some sz =>
          simp only [hs, Option.bind_some] at h
          split at h <;> simp at h
          rename_i hcond
          subst h
          refine ⟨_, ?_, VRel.imp hb hc⟩
          simp [Instr.indexAt, run_asIntOf', run_underlying' w hu, run_sizeOf' w hs, hcond, run_sureAddr', addr_add, Nat.add_assoc]
      | _ => cases d <;> simp at h
theorem run_part' {σ : Sig} {I : Imm} {t : TypeId} {l : List AV} {arr : Array Value} {off : Nat} {r : AV} (w : World) (hl : VRels σ I l arr.toList) (h : apart P t l off = some r) :
    ∃ u, (part t arr off).run P w = .ok u w /\ VRel σ I r u := by
  unfold apart at h
  cases hg : aggB P t with
  | none => simp [hg] at h
  | some g =>
    cases hs : szOf P t with
    | none => cases g <;> simp [hg, hs] at h
    | some size =>
      cases g with
      | true =>
        simp only [hg, hs] at h
        split at h <;> simp at h
        rename_i hle
        subst h
        refine ⟨_, by simp [part, run_isAgg' w hg, run_sizeOf' w hs]; rfl, .agg ?_⟩
        have : (arr.extract off (off + size)).toList = (arr.toList.drop off).take size := by
          rw [Array.toList_extract, List.extract_eq_take_drop]; congr 1; omega
        rw [this]
        exact (hl.drop off).take size
      | false =>
        simp only [hg, hs] at h
        obtain ⟨u, h1, h2⟩ := hl.get h
        have h3 : arr[off]? = some u := by simpa using h1
        exact ⟨u, by simp [part, run_isAgg' w hg, h3], h2⟩
theorem run_field' {σ : Sig} {I : Imm} {t : TypeId} {l : List AV} {v : Value} {f : Nat} {fs : Array Field} {fl : Field} {r : AV} (w : World) (hu : P.underlying t = some (.struct fs)) (hx : VRel σ I (.agg l) v)
    (hf : fs[f]? = some fl) (h : apart P fl.type l fl.offset = some r) : ∃ u, (Instr.field t v f).run P w = .ok u w /\ VRel σ I r u := by
  cases hx with
  | @agg _ arr hl =>
    obtain ⟨u, h1, h2⟩ := run_part' w hl h
    exact ⟨u, by simp [Instr.field, run_underlying' w hu, hf, asAgg, h1], h2⟩
theorem run_index' {σ : Sig} {I : Imm} {t : TypeId} {x i r : AV} {v u : Value} (w : World) (hx : VRel σ I x v) (hi : VRel σ I i u) (h : aindex P t x i = some r) :
    ∃ q, (Instr.index t v u).run P w = .ok q w /\ VRel σ I r q := by
  unfold aindex at h
  cases hn : natOf i with
  | none => simp [hn] at h
  | some k =>
    obtain ⟨kd, rfl⟩ := natOf_rel hi hn
    cases hu : P.underlying t with
    | none => cases x <;> simp [hn, hu] at h
    | some d =>
      simp only [hn, hu] at h
      cases hx with
      | @agg l arr hl =>
        cases d <;> simp only at h <;> try (cases h; done)
        rename_i len e
        cases hs : szOf P e with
        | none => simp [hs] at h
        | some sz =>
          simp only [hs, Option.bind_some] at h
          split at h
          · rename_i hlt
            obtain ⟨q, h1, h2⟩ := run_part' w hl h
            exact ⟨q, by simp [Instr.index, run_asIntOf', run_underlying' w hu, hlt, run_sizeOf' w hs, h1], h2⟩
          · cases h
      | val v =>
        cases v <;> cases d <;> simp only at h <;> try (cases h; done)
        rename_i s
        cases hb : s.data[k]? with
        | none => simp [hb] at h
        | some b =>
          simp [hb] at h
          subst h
          refine ⟨.int .u8 b.toNat, ?_, .val _⟩
          have hb' : s[k]? = some b := by
            have hk : k < s.size := (Array.getElem?_eq_some_iff.1 hb).1
            rw [getElem?_pos s k hk]
            have := (Array.getElem?_eq_some_iff.1 hb).2
            exact congrArg some this
          simp [Instr.index, run_asIntOf', run_underlying' w hu, hb']
      | _ => cases d <;> simp at h
theorem run_extract' {σ : Sig} {I : Imm} {l : List AV} {v : Value} {i : Nat} {r : AV} (w : World) (hx : VRel σ I (.tup l) v) (h : l[i]? = some r) : ∃ u, (Instr.extract v i).run P w = .ok u w /\ VRel σ I r u := by
  cases hx with
  | @tup _ arr hl =>
    obtain ⟨u, h1, h2⟩ := hl.get h
    have h3 : arr[i]? = some u := by simpa using h1
    exact ⟨u, by simp [Instr.extract, h3], h2⟩
/-! ### slices of slices -/
theorem run_bounds (w : World) (isS : Bool) (len cap l h : Nat) (lo hi : Option Value) (hlo : lo = none /\ l = 0 \/ ∃ k, lo = some (.int k (l : Int))) (hhi : hi = none /\ h = len \/ ∃ k, hi = some (.int k (h : Int)))
    (h1 : l <= h) (h2 : h <= len) (h3 : len <= cap) : (Instr.sliceBounds isS len cap lo hi none).run P w = .ok (l, h, cap) w := by
  have hb : ∀ (x y : Nat) (k : IntKind) (c : BoundsCode), x <= y -> (Instr.sliceBound (.int k (x : Int)) y c).run P w = .ok x w := fun x y k c hxy => by
    simp [Instr.sliceBound, run_asIntOf', hxy]
  have hhc : h <= cap := by omega
  rcases hlo with ⟨rfl, rfl⟩ | ⟨k, rfl⟩ <;> rcases hhi with ⟨rfl, rfl⟩ | ⟨k', rfl⟩
  · simp [Instr.sliceBounds]
  · cases isS <;> simp [Instr.sliceBounds, hb _ _ _ _ hhc]
  · cases isS <;> simp [Instr.sliceBounds, hb _ _ _ _ h1]
  · cases isS <;> simp [Instr.sliceBounds, hb _ _ _ _ hhc, hb _ _ _ _ h1]
theorem low_rel {σ : Sig} {I : Imm} {lo : Option AV} {lv : Option Value} {l d : Nat} (h : (lo = none /\ lv = none) \/ ∃ a v, lo = some a /\ lv = some v /\ VRel σ I a v)
    (hn : boundOf d lo = some l) : lv = none /\ l = d \/ ∃ k, lv = some (.int k (l : Int)) := by
  rcases h with ⟨rfl, rfl⟩ | ⟨a, v, rfl, rfl, hv⟩
  · simp [boundOf] at hn; exact .inl ⟨rfl, hn.symm⟩
  · obtain ⟨k, rfl⟩ := natOf_rel hv hn
    exact .inr ⟨k, rfl⟩
theorem run_slice_sl {σ : Sig} {I : Imm} {t e : TypeId} {n : Name} {off len sz l h : Nat} {v : Value} {lo hi : Option AV} {lv hv : Option Value} (w : World) (hx : VRel σ I (.sl n off len sz) v)
    (hlo : (lo = none /\ lv = none) \/ ∃ a v, lo = some a /\ lv = some v /\ VRel σ I a v) (hhi : (hi = none /\ hv = none) \/ ∃ a v, hi = some a /\ hv = some v /\ VRel σ I a v)
    (hl : boundOf 0 lo = some l) (hh : boundOf len hi = some h) (hu : P.underlying t = some (.slice e)) (hs : szOf P e = some sz)
    (h1 : l <= h) (h2 : h <= len) :
    ∃ u, (Instr.sliceAt t v lv hv none).run P w = .ok u w /\ VRel σ I (if l = 0 then .sl n off h sz else if l = h then .im true 0 [] else .sl n (off + l * sz) (h - l) sz) u := by
  cases hx with
  | @sl _ _ _ _ cap p hp hlc hc =>
    have hb := run_bounds (P := P) w true len cap l h lv hv (low_rel hlo hl) (low_rel hhi hh) h1 h2 hlc
    refine ⟨.slice (if cap = l then some ⟨p.b, p.o + off, none⟩ else some ⟨p.b, p.o + off + l * sz, none⟩) (h - l) (cap - l), ?_, ?_⟩
    · simp [Instr.sliceAt, run_underlying' w hu, Instr.slice, hb, run_sizeOf' w hs, addr_add]
    · by_cases e0 : l = 0
      · subst e0
        simp only [if_pos, Nat.zero_mul, Nat.add_zero, Nat.sub_zero]
        rw [show (if cap = 0 then some (⟨p.b, p.o + off, none⟩ : Addr) else some ⟨p.b, p.o + off, none⟩) = some ⟨p.b, p.o + off, none⟩ from by split <;> rfl]
        exact .sl hp (by omega) hc
      · rw [if_neg e0]
        by_cases e1 : l = h
        · rw [if_pos e1, show h - l = 0 from by omega]
          exact .im0
        · rw [if_neg e1, if_neg (by omega), Nat.add_assoc]
          refine .sl hp (by omega) ?_
          have : cap * sz = l * sz + (cap - l) * sz := by rw [<- Nat.add_mul]; congr 1; omega
          omega
theorem run_slice_im {σ : Sig} {I : Imm} {t e : TypeId} {m : Bool} {cells : List AV} {len sz l h : Nat} {v : Value} {lo hi : Option AV} {lv hv : Option Value} (w : World) (hx : VRel σ I (.im m len cells) v)
    (hlo : (lo = none /\ lv = none) \/ ∃ a v, lo = some a /\ lv = some v /\ VRel σ I a v) (hhi : (hi = none /\ hv = none) \/ ∃ a v, hi = some a /\ hv = some v /\ VRel σ I a v)
    (hl : boundOf 0 lo = some l) (hh : boundOf len hi = some h) (hu : P.underlying t = some (.slice e)) (hs : szOf P e = some sz)
    (h1 : l <= h) (h2 : h <= len) (hlen : cells.length = len * sz) :
    ∃ u, (Instr.sliceAt t v lv hv none).run P w = .ok u w /\ VRel σ I (if l = h then .im m 0 [] else .im m (h - l) ((cells.drop (l * sz)).take ((h - l) * sz))) u := by
  cases hx with
  | @im0 _ a cap =>
    obtain rfl : l = 0 := by omega
    obtain rfl : h = 0 := by omega
    have hb := run_bounds (P := P) w true 0 cap 0 0 lv hv (low_rel hlo hl) (low_rel hhi hh) h1 h2 (Nat.zero_le _)
    refine ⟨.slice (if cap = 0 then a else a.map (·.add (0 * sz))) (0 - 0) (cap - 0), ?_, ?_⟩
    · simp [Instr.sliceAt, run_underlying' w hu, Instr.slice, hb, run_sizeOf' w hs]
    · rw [if_pos rfl]; exact .im0
  | @im _ _ cap b o _ c hb' hc hlc =>
    have hb := run_bounds (P := P) w true len cap l h lv hv (low_rel hlo hl) (low_rel hhi hh) h1 h2 hlc
    refine ⟨.slice (if cap = l then some ⟨b, o, none⟩ else some ⟨b, o + l * sz, none⟩) (h - l) (cap - l), ?_, ?_⟩
    · simp [Instr.sliceAt, run_underlying' w hu, Instr.slice, hb, run_sizeOf' w hs, addr_add]
    · by_cases e1 : l = h
      · rw [if_pos e1, show h - l = 0 from by omega]
        exact .im0
      · rw [if_neg e1, if_neg (by omega)]
        refine .im hb' ?_ (by omega)
        have hle : l * sz + (h - l) * sz <= cells.length := by
          rw [hlen, <- Nat.add_mul]; exact Nat.mul_le_mul_right _ (by omega)
        have hlen2 : ((cells.drop (l * sz)).take ((h - l) * sz)).length = (h - l) * sz := by simp; omega
        rw [hlen2]
        have : seg c (o + l * sz) ((h - l) * sz) = ((seg c o cells.length).drop (l * sz)).take ((h - l) * sz) := by
          simp only [seg]
          rw [List.drop_take, List.take_take, List.drop_drop, Nat.min_eq_left (by omega)]
        rw [this]
        exact (hc.drop _).take _
theorem run_slice_arr {σ : Sig} {I : Imm} {H : AHeap} {t e : TypeId} {n : Name} {off N sz l h : Nat} {row : List AV} {v : Value} {lo hi : Option AV} {lv hv : Option Value} (w : World) (hr : ARel σ I H w) (hx : VRel σ I (.ptr n off) v)
    (hlo : (lo = none /\ lv = none) \/ ∃ a v, lo = some a /\ lv = some v /\ VRel σ I a v) (hhi : (hi = none /\ hv = none) \/ ∃ a v, hi = some a /\ hv = some v /\ VRel σ I a v)
    (hl : boundOf 0 lo = some l) (hh : boundOf N hi = some h) (hu : P.underlying t = some (.array N e)) (hs : szOf P e = some sz)
    (hn : H n = some row) (h1 : l <= h) (h2 : h <= N) (hz0 : sz ≠ 0) (h3 : off + N * sz <= row.length) :
    ∃ u, (Instr.sliceAt t v lv hv none).run P w = .ok u w /\ VRel σ I (if l = h then .im true 0 [] else .sl n (off + l * sz) (h - l) sz) u := by
  cases hx with
  | @ptr _ _ p hp =>
    have hb := run_bounds (P := P) w false N N l h lv hv (low_rel hlo hl) (low_rel hhi hh) h1 h2 (Nat.le_refl _)
    refine ⟨.slice (some (if N = l then ⟨p.b, p.o + off, none⟩ else ⟨p.b, p.o + off + l * sz, none⟩)) (h - l) (N - l), ?_, ?_⟩
    · simp [Instr.sliceAt, run_underlying' w hu, hb, run_sizeOf' w hs, addr_add, run_sureAddr']
    · by_cases e1 : l = h
      · rw [if_pos e1, show h - l = 0 from by omega]
        exact .im0
      · rw [if_neg e1, if_neg (by omega), Nat.add_assoc]
        refine .sl hp (by omega) ?_
        obtain ⟨p', c, el, fr, hp', hb', ht, hf, hv'⟩ := hr.rows n row hn
        rw [hp] at hp'; cases hp'
        have hlen := hv'.length
        rw [seg_length] at hlen
        have : N * sz = l * sz + (N - l) * sz := by rw [<- Nat.add_mul]; congr 1; omega
        by_cases hz : row.length = 0
        · have : off + N * sz = 0 := by omega
          have h5 : N * sz = 0 := by omega
          have h6 : l * sz = 0 /\ (N - l) * sz = 0 := by omega
          exfalso
          rcases Nat.mul_eq_zero.1 h5 with h7 | h7 <;> omega
        · omega
theorem run_slice' {σ : Sig} {I : Imm} {H : AHeap} {t : TypeId} {x r : AV} {v : Value} {lo hi : Option AV} {lv hv : Option Value} (w : World) (hr : ARel σ I H w) (hx : VRel σ I x v)
    (hlo : (lo = none /\ lv = none) \/ ∃ a v, lo = some a /\ lv = some v /\ VRel σ I a v) (hhi : (hi = none /\ hv = none) \/ ∃ a v, hi = some a /\ hv = some v /\ VRel σ I a v)
    (h : aslice P t x lo hi H = some r) : ∃ u, (Instr.sliceAt t v lv hv none).run P w = .ok u w /\ VRel σ I r u := by
  unfold aslice at h
  cases x with
  | val x =>
    cases hx
    cases v with
    | string s =>
      simp only at h
      split at h
      · rename_i l hh hl hhh hu
        split at h <;> simp at h
        rename_i hc
        subst h
        have hb := run_bounds (P := P) w false s.size s.size l hh lv hv (low_rel hlo hl) (low_rel hhi hhh) hc.1 hc.2 (Nat.le_refl _)
        exact ⟨_, by simp [Instr.sliceAt, run_underlying' w hu, Instr.slice, hb], .val _⟩
      · cases h
    | slice a len cap =>
      cases a with
      | some a => simp at h
      | none =>
        cases len with
        | succ n => simp at h
        | zero =>
          cases cap with
          | succ n => simp at h
          | zero =>
            simp only at h
            split at h
            · rename_i e hl hhh hu
              split at h <;> simp at h
              rename_i hc
              subst h
              obtain ⟨sz, hs⟩ := Option.isSome_iff_exists.1 hc
              have hb := run_bounds (P := P) w true 0 0 0 0 lv hv (low_rel hlo hl) (low_rel hhi hhh) (Nat.le_refl _) (Nat.le_refl _) (Nat.le_refl _)
              exact ⟨_, by simp [Instr.sliceAt, run_underlying' w hu, Instr.slice, hb, run_sizeOf' w hs], .val _⟩
            · cases h
    | _ => simp at h
  | sl n off len sz =>
    simp only at h
    split at h
    · rename_i l hh e hl hhh hu
      split at h
      · rename_i hc
        obtain ⟨u, h1, h2⟩ := run_slice_sl (P := P) w hx hlo hhi hl hhh hu hc.1 hc.2.1 hc.2.2
        refine ⟨u, h1, ?_⟩
        by_cases e0 : l = 0
        · simp [e0] at h h2; subst h; exact h2
        · by_cases e1 : l = hh
          · simp [e1] at h h2
            by_cases e2 : hh = 0
            · omega
            · simp [e2] at h h2; subst h; exact h2
          · simp [e0, e1] at h h2; subst h; exact h2
      · cases h
    · cases h
  | im m len cells =>
    simp only at h
    split at h
    · rename_i l hh e hl hhh hu
      split at h
      · rename_i sz hs
        split at h
        · rename_i hc
          obtain ⟨u, h1, h2⟩ := run_slice_im (P := P) w hx hlo hhi hl hhh hu hs hc.1 hc.2.1 hc.2.2
          refine ⟨u, h1, ?_⟩
          by_cases e1 : l = hh
          · simp [e1] at h h2; subst h; exact h2
          · simp [e1] at h h2; subst h; exact h2
        · cases h
      · cases h
    · cases h
  | ptr n off =>
    simp only at h
    split at h
    · rename_i N e hu
      split at h
      · rename_i l hh sz hl hhh hs
        cases hn : H n with
        | none => simp [hn] at h
        | some row =>
          simp only [hn, Option.bind_some] at h
          split at h
          · rename_i hc
            obtain ⟨u, h1, h2⟩ := run_slice_arr (P := P) w hr hx hlo hhi hl hhh hu hs hn hc.1 hc.2.1 hc.2.2.1 hc.2.2.2
            refine ⟨u, h1, ?_⟩
            by_cases e1 : l = hh
            · simp [e1] at h h2; subst h; exact h2
            · simp [e1] at h h2; subst h; exact h2
          · cases h
      · cases h
    · cases h
  | _ => simp at h
end Go.Proofs.YtjinjfblilacaaaGreat.Den
end
section
namespace Go.Proofs.YtjinjfblilacaaaGreat.Den
variable {P : Program}
theorem setMany_length : ∀ (vs row : List AV) (off : Nat), (setMany row off vs).length = row.length
  | [], _, _ => rfl
  | _ :: vs, row, off => by simp [setMany, setMany_length vs]
theorem fill_one (σ : Sig) (I : Imm) (off : Nat) : ∀ (us : List Value) (vs : List AV) (k : Nat) (cells : List AV) (arr : Array Value), VRels σ I vs us -> VRels σ I cells arr.toList ->
    VRels σ I (setMany cells (off + k) vs) ((us.zipIdx k).foldl (fun cs (c, j) => cs.setIfInBounds (off + j) c) arr).toList
  | [], _, _, _, _, h, hc => by cases h; simpa [setMany] using hc
  | u :: us, _, k, cells, arr, h, hc => by
    cases h with
    | cons h t =>
      simp only [setMany, List.zipIdx_cons, List.foldl_cons]
      have := fill_one σ I off us _ (k + 1) (cells.set (off + k) _) (arr.setIfInBounds (off + k) u) t (by simpa using hc.set (off + k) h)
      simpa [Nat.add_assoc] using this
theorem fill_rel {σ : Sig} {I : Imm} {place : Nat -> Option (Nat × Nat)} : ∀ (parts : List (Nat × AV)) (pv : List (Nat × Value)) (cells r : List AV) (arr : Array Value),
    parts.length = pv.length -> (∀ (k i : Nat) (a : AV) (j : Nat) (v : Value), parts[k]? = some (i, a) -> pv[k]? = some (j, v) -> i = j /\ VRel σ I a v) -> VRels σ I cells arr.toList -> fillA place cells parts = some r ->
    ∃ ar, Instr.fill place arr pv = some ar /\ VRels σ I r ar.toList
  | [], [], cells, r, arr, _, _, hc, h => by simp [fillA] at h; subst h; exact ⟨arr, rfl, hc⟩
  | [], _ :: _, _, _, _, hl, _, _, _ => by simp at hl
  | _ :: _, [], _, _, _, hl, _, _, _ => by simp at hl
  | (i, a) :: parts, (j, v) :: pv, cells, r, arr, hl, hp, hc, h => by
    obtain ⟨rfl, hv⟩ := hp 0 i a j v rfl rfl
    simp only [fillA] at h
    cases e : place i with
    | none => simp [e] at h
    | some x =>
      obtain ⟨off, size⟩ := x
      simp only [e] at h
      split at h
      · cases h
      · rename_i hcond
        have hcr := cells_rel hv
        have hlen : a.cells.length = v.cells.size := by simpa using hcr.length
        have hlc : cells.length = arr.size := by simpa using hc.length
        have hone := fill_one σ I off v.cells.toList a.cells 0 cells arr hcr hc
        have hcond2 : ¬ (v.cells.size ≠ size \/ off + v.cells.size > arr.size) := by
          rw [not_or] at hcond ⊢
          omega
        obtain ⟨ar, h1, h2⟩ := fill_rel parts pv _ r _ (by simpa using hl) (fun k i a j v h1 h2 => hp (k + 1) i a j v (by simpa using h1) (by simpa using h2)) hone h
        refine ⟨ar, ?_, h2⟩
        simp only [Instr.fill, e]
        rw [if_neg (by simpa using hcond2)]
        rw [<- h1]
        congr 1
        rw [<- Array.toList_zipIdx, Array.foldl_toList]
theorem parts_rel {σ : Sig} {I : Imm} {ρ : Env} {ρc : Operand -> Value} (he : ∀ x, VRel σ I (ρ x) (ρc x)) (parts : Array (Nat × Operand)) :
    let pa := parts.toList.map fun (i, x) => (i, ρ x)
    let pv := (parts.map fun (i, x) => (i, ρc x)).toList
    pa.length = pv.length /\ ∀ (k i : Nat) (a : AV) (j : Nat) (v : Value), pa[k]? = some (i, a) -> pv[k]? = some (j, v) -> i = j /\ VRel σ I a v := by
  refine ⟨by simp, ?_⟩
  intro k i a j v h1 h2
  simp only [Array.toList_map, List.getElem?_map] at h1 h2
  cases e : parts.toList[k]? with
  | none => simp [e] at h1
  | some x =>
    obtain ⟨m, y⟩ := x
    simp [e] at h1 h2
    obtain ⟨rfl, rfl⟩ := h1
    obtain ⟨rfl, rfl⟩ := h2
    exact ⟨rfl, he y⟩
theorem places_mapM : ∀ (fs : List Field) (ps : List (Nat × Nat)), places P fs = some ps -> fs.mapM (fun f => (P.info? f.type).map fun i => (f.offset, i.size)) = some ps
  | [], ps, h => by simp [places] at h; subst h; simp
  | f :: fs, ps, h => by
    simp only [places] at h
    cases hs : szOf P f.type with
    | none => simp [hs] at h
    | some s =>
      obtain ⟨i, hi, rfl⟩ := info_of_size hs
      cases hp : places P fs with
      | none => simp [hs, hp] at h
      | some ps' =>
        simp [hs, hp] at h
        subst h
        simp [List.mapM_cons, hi, places_mapM fs ps' hp]
theorem zero_rel {σ : Sig} {I : Imm} {t : TypeId} {z : List AV} (h : zeroCellsA P t = some z) : ∃ zv, zeroOf P t = some zv /\ VRels σ I z zv.cells.toList /\ z.length = zv.cells.size := by
  unfold zeroCellsA at h
  cases e : zeroOf P t with
  | none => simp [e] at h
  | some zv => simp [e] at h; subst h; exact ⟨zv, rfl, VRels.vals _, by simp⟩
theorem zeroOf_info {t : TypeId} {zv : Value} (h : zeroOf P t = some zv) : ∃ i, P.info? t = some i /\ i.zero = some zv := by
  unfold zeroOf at h
  cases e : P.info? t with
  | none => simp [e] at h
  | some i => simp [e] at h; exact ⟨i, rfl, h⟩
theorem run_build_struct {σ : Sig} {I : Imm} {ρ : Env} {ρc : Operand -> Value} (w : World) (he : ∀ x, VRel σ I (ρ x) (ρc x)) {t : TypeId} {parts : Array (Nat × Operand)} {fs : Array Field} {z r : List AV} {ps : List (Nat × Nat)}
    (hz : zeroCellsA P t = some z) (hu : P.underlying t = some (.struct fs)) (hp : places P fs.toList = some ps) (hf : fillA (ps[·]?) z (parts.toList.map fun (i, x) => (i, ρ x)) = some r) :
    ∃ u, (Instr.build t (parts.map fun (i, x) => (i, ρc x))).run P w = .ok u w /\ VRel σ I (.agg r) u := by
  obtain ⟨zv, h1, h2, h3⟩ := zero_rel (σ := σ) (I := I) hz
  obtain ⟨i, hi, hiz⟩ := zeroOf_info h1
  obtain ⟨hl, hpr⟩ := parts_rel he parts
  obtain ⟨ar, h4, h5⟩ := fill_rel _ _ z r zv.cells hl hpr h2 hf
  refine ⟨.agg ar, run_build w t _ ar ?_, .agg h5⟩
  unfold Program.built
  simp only [hi, hu, hiz, places_mapM _ _ hp]
  rw [<- h4]
  congr 1
  funext k
  simp
theorem run_build_array {σ : Sig} {I : Imm} {ρ : Env} {ρc : Operand -> Value} (w : World) (he : ∀ x, VRel σ I (ρ x) (ρc x)) {t e : TypeId} {n s : Nat} {parts : Array (Nat × Operand)} {z r : List AV}
    (hz : zeroCellsA P t = some z) (hu : P.underlying t = some (.array n e)) (hs : szOf P e = some s) (hf : fillA (fun i => some (i * s, s)) z (parts.toList.map fun (i, x) => (i, ρ x)) = some r) :
    ∃ u, (Instr.build t (parts.map fun (i, x) => (i, ρc x))).run P w = .ok u w /\ VRel σ I (.agg r) u := by
  obtain ⟨zv, h1, h2, h3⟩ := zero_rel (σ := σ) (I := I) hz
  obtain ⟨i, hi, hiz⟩ := zeroOf_info h1
  obtain ⟨ie, hie, rfl⟩ := info_of_size hs
  obtain ⟨hl, hpr⟩ := parts_rel he parts
  obtain ⟨ar, h4, h5⟩ := fill_rel _ _ z r zv.cells hl hpr h2 hf
  refine ⟨.agg ar, run_build w t _ ar ?_, .agg h5⟩
  unfold Program.built
  simp only [hi, hu, hiz, hie]
  exact h4
theorem rowOf_length (z : List AV) : ∀ n, (rowOf z n).length = n * z.length
  | 0 => by simp [rowOf]
  | n + 1 => by simp [rowOf, rowOf_length z n, Nat.add_mul, Nat.add_comm]
theorem rowOf_get (z : List AV) (hz : 0 < z.length) : ∀ (n i : Nat), i < n * z.length -> (rowOf z n)[i]? = z[i % z.length]?
  | 0, i, h => by simp at h
  | n + 1, i, h => by
    rw [Nat.add_mul, Nat.one_mul] at h
    simp only [rowOf]
    by_cases hi : i < z.length
    · rw [List.getElem?_append_left hi, Nat.mod_eq_of_lt hi]
    · rw [List.getElem?_append_right (by omega), rowOf_get z hz n (i - z.length) (by omega)]
      congr 1
      exact (Nat.mod_eq_sub_mod (by omega)).symm
theorem zeros_rel {σ : Sig} {I : Imm} {z : List AV} {zc : Array Value} (hz : VRels σ I z zc.toList) (hpos : 0 < z.length) (n : Nat) :
    VRels σ I (rowOf z n) ((Array.range (n * zc.size)).map (zc[· % zc.size]!)).toList := by
  have hl : z.length = zc.size := by simpa using hz.length
  refine VRels.of_get (by simp [rowOf_length, hl]) ?_
  intro i a v ha hv
  have hi : i < n * z.length := by rw [<- rowOf_length]; exact (List.getElem?_eq_some_iff.1 ha).1
  rw [rowOf_get z hpos n i hi] at ha
  obtain ⟨u, h1, h2⟩ := hz.get ha
  have hm : i % z.length < zc.size := by rw [<- hl]; exact Nat.mod_lt _ hpos
  have h3 : v = zc[i % zc.size]! := by
    have hi' : i < n * zc.size := by rw [<- hl]; exact hi
    simp [hi'] at hv
    exact hv.symm
  have h4 : zc[i % zc.size]! = u := by
    rw [<- hl]
    have : zc[i % z.length]? = some u := by simpa using h1
    rw [getElem!_def, this]
  rw [h3, h4]; exact h2
/-! ### lengths, texts, bytes -/
theorem run_len' {σ : Sig} {I : Imm} {t : TypeId} {x r : AV} {v : Value} (w : World) (ts : Array TypeId) (ty : TypeId) (ht : ts[0]? = some t) (hx : VRel σ I x v) (h : alen P t x = some r) :
    ∃ u, (Builtin.len_ ts ty #[v]).run P w = .ok u w /\ VRel σ I r u := by
  unfold alen at h
  cases hu : P.underlying t with
  | none => simp [hu] at h
  | some d =>
    simp only [hu] at h
    cases d <;> (try simp only at h) <;> try (cases h; done)
    case array n e =>
      simp at h; subst h
      cases v <;> exact ⟨_, by simp [Builtin.len_, ht, run_underlying' w hu]; rfl, .val _⟩
    case string =>
      cases hx <;> (try simp only at h) <;> try (cases h; done)
      cases v <;> (try simp only at h) <;> try (cases h; done)
      simp at h; subst h
      exact ⟨_, by simp [Builtin.len_, ht, run_underlying' w hu]; rfl, .val _⟩
    case slice e =>
      cases hx <;> (try simp only at h) <;> try (cases h; done)
      case val =>
        cases v <;> (try simp only at h) <;> try (cases h; done)
        simp at h; subst h
        exact ⟨_, by simp [Builtin.len_, ht, run_underlying' w hu]; rfl, .val _⟩
      all_goals
        simp at h; subst h
        exact ⟨_, by simp [Builtin.len_, ht, run_underlying' w hu]; rfl, .val _⟩
    case pointer p =>
      split at h
      · rename_i n e hp
        simp at h; subst h
        cases v <;> exact ⟨_, by simp [Builtin.len_, ht, run_underlying' w hu, run_underlying' w hp]; rfl, .val _⟩
      · cases h
/-- Elements that are read, as the model reads them. -/
theorem run_src {σ : Sig} {I : Imm} {H : AHeap} {w : World} (hr : ARel σ I H w) {size k : Nat} {x : AV} {v : Value} {new : List AV} (hx : VRel σ I x v) (h : srcCells H size x = some (k, new)) :
    (Builtin.lenOf v).run P w = .ok k w /\ ∀ j, j <= k -> ∃ arr : Array Value, (Builtin.firstCells size j v).run P w = .ok arr w /\ VRels σ I (new.take (j * size)) arr.toList := by
  unfold srcCells at h
  cases x with
  | val x =>
    cases hx
    cases v with
    | string s =>
      simp only at h
      split at h <;> simp at h
      rename_i hs
      obtain ⟨rfl, rfl⟩ := h
      subst hs
      refine ⟨by simp [Builtin.lenOf], fun j hj => ⟨_, by simp [Builtin.firstCells]; rfl, ?_⟩⟩
      have e2 : ((s.data.map fun b => Value.int .u8 b.toNat).extract 0 j).toList = (s.data.toList.take j).map fun b => Value.int .u8 b.toNat := by
        simp [List.map_take]
      rw [e2, Nat.mul_one, <- List.map_take]
      generalize s.data.toList.take j = l
      induction l with
      | nil => exact .nil
      | cons b l ih => exact .cons (.val _) ih
    | slice a len cap =>
      cases len with
      | zero =>
        simp at h
        obtain ⟨rfl, rfl⟩ := h
        refine ⟨by simp [Builtin.lenOf], fun j hj => ?_⟩
        obtain rfl : j = 0 := by omega
        cases a with
        | none => exact ⟨#[], by simp [Builtin.firstCells], by simpa using VRels.nil⟩
        | some a => exact ⟨#[], by simp [Builtin.firstCells, loadCells, loadCellsFrom], by simpa using VRels.nil⟩
      | succ n => simp at h
    | _ => simp at h
  | sl n off len sz =>
    simp only at h
    split at h
    · rename_i hs
      subst hs
      cases hn : H n with
      | none => simp [hn] at h
      | some row =>
        simp only [hn, Option.bind_some] at h
        split at h <;> simp at h
        rename_i hle
        obtain ⟨rfl, rfl⟩ := h
        cases hx with
        | @sl _ _ _ _ cap p hp hl hc =>
          refine ⟨by simp [Builtin.lenOf], fun j hj => ?_⟩
          have hjs : j * sz <= len * sz := Nat.mul_le_mul_right _ hj
          have := load_cells (P := P) (σ := σ) (I := I) (w := w) (b := p.b) (o := p.o + off) (l := ((row.drop off).take (len * sz)).take (j * sz)) (n := j * sz) (by simp; omega) (fun i a hi => by
            rw [List.take_take, List.getElem?_take] at hi
            split at hi
            · rw [List.getElem?_drop] at hi
              obtain ⟨u, h1, h2, _⟩ := hr.cell hn hp hi
              exact ⟨u, by rwa [show p.o + off + i = p.o + (off + i) from by omega], h2⟩
            · cases hi)
          obtain ⟨vs, h1, h2⟩ := this
          exact ⟨vs, by simp only [Builtin.firstCells]; exact h1, h2⟩
    · cases h
  | im m len cells =>
    simp only at h
    split at h <;> simp at h
    rename_i hlen
    obtain ⟨rfl, rfl⟩ := h
    cases hx with
    | @im0 _ a cap =>
      refine ⟨by simp [Builtin.lenOf], fun j hj => ?_⟩
      obtain rfl : j = 0 := by omega
      cases a with
      | none => exact ⟨#[], by simp [Builtin.firstCells], by simpa using VRels.nil⟩
      | some a => exact ⟨#[], by simp [Builtin.firstCells, loadCells, loadCellsFrom], by simpa using VRels.nil⟩
    | @im _ _ cap b o _ c hb hc hl =>
      refine ⟨by simp [Builtin.lenOf], fun j hj => ?_⟩
      have hjs : j * size <= len * size := Nat.mul_le_mul_right _ hj
      have := load_cells (P := P) (σ := σ) (I := I) (w := w) (b := b) (o := o) (l := cells.take (j * size)) (n := j * size) (by simp; omega) (fun i a hi => by
        rw [List.getElem?_take] at hi
        split at hi
        · exact hr.icell hb hc hi
        · cases hi)
      obtain ⟨vs, h1, h2⟩ := this
      exact ⟨vs, by simp only [Builtin.firstCells]; exact h1, h2⟩
  | _ => simp at h
end Go.Proofs.YtjinjfblilacaaaGreat.Den
end
