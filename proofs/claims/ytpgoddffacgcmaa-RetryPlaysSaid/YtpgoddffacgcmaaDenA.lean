/- An abstract memory for the walked programs: rows of cells by name, slices that are only read as plain lists; and what it means that a world is one of these. No program in sight. -/
import Derived.Calls
import Derived.Below
import Derived.Laws.Rows
import Derived.Laws.Cells
import Derived.Laws.CopyRow
import Derived.Laws.AppendOwn
import Derived.Orders
namespace Go.Proofs.Ytpgoddffacgcmaa.Den

abbrev Name := List Nat

/-- Values that name no block. -/
inductive AV where
  | val (v : Value)
  | ptr (n : Name) (off : Nat)
  | imp (m : Bool) (cells : List AV) (off : Nat)
  | sl (n : Name) (off len sz : Nat)
  | im (m : Bool) (len : Nat) (cells : List AV)
  | agg (cells : List AV)
  | tup (vs : List AV)
  | fn (f : Fn) (first captured : List AV)

instance : Inhabited AV := ⟨.val (.tuple #[])⟩

abbrev AHeap := Name → Option (List AV)
/-- Where a row lies: its block, its first cell there, the block's size. -/
structure Place where
  b : Nat
  o : Nat
  tot : Nat
abbrev Sig := Name → Option Place
/-- Blocks that nobody writes any more: those of the caller (false), our own (true). -/
abbrev Imm := Bool → Nat → Option (Array Value)

def seg (c : Array Value) (o n : Nat) : List Value := (c.toList.drop o).take n

mutual
inductive VRel (σ : Sig) (I : Imm) : AV → Value → Prop
  | val (v : Value) : VRel σ I (.val v) v
  | ptr {n : Name} {off : Nat} {p : Place} (h : σ n = some p) : VRel σ I (.ptr n off) (.pointer (some ⟨p.b, p.o + off, none⟩))
  | imp {m : Bool} {cells : List AV} {off b o : Nat} {c : Array Value} (h : I m b = some c) (hc : VRels σ I cells (seg c o cells.length)) :
      VRel σ I (.imp m cells off) (.pointer (some ⟨b, o + off, none⟩))
  | sl {n : Name} {off len sz cap : Nat} {p : Place} (h : σ n = some p) (hl : len ≤ cap) (hc : p.o + off + cap * sz ≤ p.tot) :
      VRel σ I (.sl n off len sz) (.slice (some ⟨p.b, p.o + off, none⟩) len cap)
  | im0 {m : Bool} {a : Option Addr} {cap : Nat} : VRel σ I (.im m 0 []) (.slice a 0 cap)
  | im {m : Bool} {len cap b o : Nat} {cells : List AV} {c : Array Value} (h : I m b = some c) (hc : VRels σ I cells (seg c o cells.length)) (hl : len ≤ cap) :
      VRel σ I (.im m len cells) (.slice (some ⟨b, o, none⟩) len cap)
  | agg {l : List AV} {arr : Array Value} (h : VRels σ I l arr.toList) : VRel σ I (.agg l) (.agg arr)
  | tup {l : List AV} {arr : Array Value} (h : VRels σ I l arr.toList) : VRel σ I (.tup l) (.tuple arr)
  | fn {f : Fn} {l k : List AV} {a b : Array Value} (h : VRels σ I l a.toList) (h' : VRels σ I k b.toList) : VRel σ I (.fn f l k) (.func f a b)
inductive VRels (σ : Sig) (I : Imm) : List AV → List Value → Prop
  | nil : VRels σ I [] []
  | cons {a : AV} {v : Value} {l : List AV} {vs : List Value} (h : VRel σ I a v) (t : VRels σ I l vs) : VRels σ I (a :: l) (v :: vs)
end

theorem VRels.length {σ : Sig} {I : Imm} {l : List AV} {vs : List Value} (h : VRels σ I l vs) : l.length = vs.length := by
  induction l generalizing vs with
  | nil => cases h; rfl
  | cons a l ih => cases h with | cons h t => simp [ih t]

theorem VRels.get {σ : Sig} {I : Imm} {l : List AV} {vs : List Value} (h : VRels σ I l vs) {i : Nat} {a : AV} (ha : l[i]? = some a) : ∃ v, vs[i]? = some v ∧ VRel σ I a v := by
  induction l generalizing vs i with
  | nil => simp at ha
  | cons b l ih =>
    cases h with
    | cons h t =>
      cases i with
      | zero => simp at ha; subst ha; exact ⟨_, rfl, h⟩
      | succ i => simpa using ih t (by simpa using ha)

theorem VRels.of_get {σ : Sig} {I : Imm} : ∀ {l : List AV} {vs : List Value}, l.length = vs.length → (∀ (i : Nat) (a : AV) (v : Value), l[i]? = some a → vs[i]? = some v → VRel σ I a v) → VRels σ I l vs
  | [], [], _, _ => .nil
  | [], _ :: _, h, _ => by simp at h
  | _ :: _, [], h, _ => by simp at h
  | a :: l, v :: vs, h, k => .cons (k 0 a v rfl rfl) (VRels.of_get (by simpa using h) fun i a v ha hv => k (i + 1) a v (by simpa using ha) (by simpa using hv))

theorem VRels.append {σ : Sig} {I : Imm} {l k : List AV} {vs us : List Value} (h : VRels σ I l vs) (h' : VRels σ I k us) : VRels σ I (l ++ k) (vs ++ us) := by
  induction l generalizing vs with
  | nil => cases h; exact h'
  | cons a l ih => cases h with | cons h t => exact .cons h (ih t)

theorem VRels.take {σ : Sig} {I : Imm} {l : List AV} {vs : List Value} (h : VRels σ I l vs) (n : Nat) : VRels σ I (l.take n) (vs.take n) := by
  induction l generalizing vs n with
  | nil => cases h; simp; exact .nil
  | cons a l ih =>
    cases h with
    | cons h t =>
      cases n with
      | zero => simp; exact .nil
      | succ n => simpa using VRels.cons h (ih t n)

theorem VRels.drop {σ : Sig} {I : Imm} {l : List AV} {vs : List Value} (h : VRels σ I l vs) (n : Nat) : VRels σ I (l.drop n) (vs.drop n) := by
  induction l generalizing vs n with
  | nil => cases h; simp; exact .nil
  | cons a l ih =>
    cases h with
    | cons h t =>
      cases n with
      | zero => simpa using VRels.cons h t
      | succ n => simpa using ih t n

theorem VRels.set {σ : Sig} {I : Imm} {l : List AV} {vs : List Value} (h : VRels σ I l vs) (n : Nat) {a : AV} {v : Value} (hv : VRel σ I a v) : VRels σ I (l.set n a) (vs.set n v) := by
  induction l generalizing vs n with
  | nil => cases h; simp; exact .nil
  | cons b l ih =>
    cases h with
    | cons h t =>
      cases n with
      | zero => simpa using VRels.cons hv t
      | succ n => simpa using VRels.cons h (ih t n)

theorem VRels.vals {σ : Sig} {I : Imm} (vs : List Value) : VRels σ I (vs.map .val) vs := by
  induction vs with
  | nil => exact .nil
  | cons v vs ih => exact .cons (.val v) ih

def Sig.le (σ σ' : Sig) : Prop := ∀ n p, σ n = some p → σ' n = some p
def Imm.le (I I' : Imm) : Prop := ∀ m b c, I m b = some c → I' m b = some c
theorem Sig.le_refl (σ : Sig) : σ.le σ := fun _ _ h => h
theorem Imm.le_refl (I : Imm) : I.le I := fun _ _ _ h => h
theorem Sig.le_trans {a b c : Sig} (h : a.le b) (k : b.le c) : a.le c := fun n p e => k n p (h n p e)
theorem Imm.le_trans {a b c : Imm} (h : a.le b) (k : b.le c) : a.le c := fun m n p e => k m n p (h m n p e)

mutual
theorem VRel.mono {σ σ' : Sig} {I I' : Imm} (hs : σ.le σ') (hi : I.le I') {a : AV} {v : Value} (h : VRel σ I a v) : VRel σ' I' a v :=
  match h with
  | .val v => .val v
  | .ptr h => .ptr (hs _ _ h)
  | .imp h hc => .imp (hi _ _ _ h) (VRels.mono hs hi hc)
  | .sl h hl hc => .sl (hs _ _ h) hl hc
  | .im0 => .im0
  | .im h hc hl => .im (hi _ _ _ h) (VRels.mono hs hi hc) hl
  | .agg h => .agg (VRels.mono hs hi h)
  | .tup h => .tup (VRels.mono hs hi h)
  | .fn h h' => .fn (VRels.mono hs hi h) (VRels.mono hs hi h')
theorem VRels.mono {σ σ' : Sig} {I I' : Imm} (hs : σ.le σ') (hi : I.le I') {a : List AV} {v : List Value} (h : VRels σ I a v) : VRels σ' I' a v :=
  match h with
  | .nil => .nil
  | .cons h t => .cons (VRel.mono hs hi h) (VRels.mono hs hi t)
end

/-- The world holds these rows, each in a block of its own, and these blocks that nobody writes. -/
structure ARel (σ : Sig) (I : Imm) (H : AHeap) (w : World) : Prop where
  rows : ∀ n row, H n = some row → ∃ (p : Place) (c : Array Value) (el : TypeId) (fr : Nat × Nat), σ n = some p ∧ w.heap[p.b]? = some (.cells c el fr) ∧ p.tot = c.size ∧
    (∀ i, i < c.size → ¬ (fr.1 ≤ i ∧ i < fr.2)) ∧ VRels σ I row (seg c p.o row.length)
  inj : ∀ n n' p p', H n ≠ none → H n' ≠ none → σ n = some p → σ n' = some p' → p.b = p'.b → n = n'
  imm : ∀ m b c, I m b = some c → ∃ el fr, w.heap[b]? = some (.cells c el fr)
  dis : ∀ n p m, H n ≠ none → σ n = some p → I m p.b = none

/-- Whose block is it? -/
def Owns (σ : Sig) (H : AHeap) (b : Nat) : Prop := ∃ n p, H n ≠ none ∧ σ n = some p ∧ p.b = b

/-- What a piece of a run leaves alone. -/
structure Fr (σ : Sig) (H : AHeap) (w w' : World) : Prop where
  os : w'.os = w.os
  tape : w'.tape = w.tape
  output : w'.output = w.output
  size : w.heap.size ≤ w'.heap.size
  block : ∀ b, b < w.heap.size → ¬ Owns σ H b → w'.heap[b]? = w.heap[b]?

/-- Names under a name are fresh. -/
def Fresh (nm : Name) (σ : Sig) : Prop := ∀ s, σ (s ++ nm) = none
/-- From a place on, all are fresh. -/
def FreshFrom (nm : Name) (k : Nat) (σ : Sig) : Prop := ∀ j s, k ≤ j → σ (s ++ (j :: nm)) = none

/-- One step from one memory to another one: what is new lies under a name. -/
structure Step (nm : Name → Prop) (σ : Sig) (I : Imm) (H : AHeap) (w : World) (σ' : Sig) (I' : Imm) (H' : AHeap) (w' : World) : Prop where
  rel : ARel σ' I' H' w'
  sig : σ.le σ'
  new : ∀ n, σ n = none → σ' n ≠ none → nm n
  imm : I.le I'
  inew : ∀ m b c, I' m b = some c → I m b = some c ∨ w.heap.size ≤ b ∨ Owns σ H b
  own : ∀ b, Owns σ' H' b → Owns σ H b ∨ w.heap.size ≤ b
  fr : Fr σ H w w'

theorem Fr.refl (σ : Sig) (H : AHeap) (w : World) : Fr σ H w w := ⟨rfl, rfl, rfl, Nat.le_refl _, fun _ _ _ => rfl⟩

theorem Step.refl (nm : Name → Prop) {σ : Sig} {I : Imm} {H : AHeap} {w : World} (h : ARel σ I H w) : Step nm σ I H w σ I H w :=
  ⟨h, Sig.le_refl _, fun _ h h' => absurd h h', Imm.le_refl _, fun _ _ _ h => .inl h, fun _ h => .inl h, Fr.refl _ _ _⟩

theorem Step.trans {nm : Name → Prop} {σ σ₁ σ₂ : Sig} {I I₁ I₂ : Imm} {H H₁ H₂ : AHeap} {w w₁ w₂ : World}
    (h : Step nm σ I H w σ₁ I₁ H₁ w₁) (k : Step nm σ₁ I₁ H₁ w₁ σ₂ I₂ H₂ w₂) : Step nm σ I H w σ₂ I₂ H₂ w₂ where
  rel := k.rel
  sig := Sig.le_trans h.sig k.sig
  new := fun n h0 h2 => by
    by_cases h1 : σ₁ n = none
    · exact k.new n h1 h2
    · exact h.new n h0 h1
  imm := Imm.le_trans h.imm k.imm
  inew := fun m b c hb => by
    rcases k.inew m b c hb with h1 | h1 | h1
    · exact h.inew m b c h1
    · exact .inr (.inl (Nat.le_trans h.fr.size h1))
    · rcases h.own b h1 with h2 | h2
      · exact .inr (.inr h2)
      · exact .inr (.inl h2)
  own := fun b hb => by
    rcases k.own b hb with h1 | h1
    · exact h.own b h1
    · exact .inr (Nat.le_trans h.fr.size h1)
  fr := ⟨k.fr.os.trans h.fr.os, k.fr.tape.trans h.fr.tape, k.fr.output.trans h.fr.output, Nat.le_trans h.fr.size k.fr.size, fun b hb ho => by
    rw [k.fr.block b (Nat.lt_of_lt_of_le hb h.fr.size) (fun h1 => by
      rcases h.own b h1 with h2 | h2
      · exact ho h2
      · omega)]
    exact h.fr.block b hb ho⟩

theorem Step.weaken {nm nm' : Name → Prop} {σ σ₁ : Sig} {I I₁ : Imm} {H H₁ : AHeap} {w w₁ : World}
    (h : Step nm σ I H w σ₁ I₁ H₁ w₁) (hn : ∀ n, nm n → nm' n) : Step nm' σ I H w σ₁ I₁ H₁ w₁ :=
  { h with new := fun n a b => hn n (h.new n a b) }

/-- A world that differs in the draws alone. -/
theorem ARel.drawn {σ : Sig} {I : Imm} {H : AHeap} {w w' : World} (h : ARel σ I H w) (hh : w'.heap = w.heap) : ARel σ I H w' where
  rows := fun n row hn => by rw [hh]; exact h.rows n row hn
  inj := h.inj
  imm := fun m b c hb => by rw [hh]; exact h.imm m b c hb
  dis := h.dis

theorem Step.drawn {nm : Name → Prop} {σ : Sig} {I : Imm} {H : AHeap} {w w' : World} (h : ARel σ I H w) (hh : w'.heap = w.heap) (ho : w'.os = w.os) (ht : w'.tape = w.tape) (hp : w'.output = w.output) : Step nm σ I H w σ I H w' :=
  ⟨h.drawn hh, Sig.le_refl _, fun _ h h' => absurd h h', Imm.le_refl _, fun _ _ _ h => .inl h, fun _ h => .inl h, ⟨ho, ht, hp, by rw [hh]; exact Nat.le_refl _, fun b _ _ => by rw [hh]⟩⟩

def upd {α : Type} (f : Name → α) (n : Name) (x : α) : Name → α := fun k => if k = n then x else f k
theorem upd_same {α : Type} (f : Name → α) (n : Name) (x : α) : upd f n x n = x := by simp [upd]
theorem upd_ne {α : Type} (f : Name → α) {n k : Name} (x : α) (h : k ≠ n) : upd f n x k = f k := by simp [upd, h]

/-- A new block that is a row of ours. -/
theorem Step.block {nm : Name → Prop} {σ : Sig} {I : Imm} {H : AHeap} {w w' : World} (h : ARel σ I H w) {n : Name} (hn : σ n = none) (hnm : nm n)
    {row : List AV} {c : Array Value} {el : TypeId} {fr : Nat × Nat} (hfr : ∀ i, i < c.size → ¬ (fr.1 ≤ i ∧ i < fr.2)) (hr : VRels σ I row (seg c 0 row.length))
    (hold : ∀ i, i < w.heap.size → w'.heap[i]? = w.heap[i]?) (hnew : w'.heap[w.heap.size]? = some (.cells c el fr)) (hsz : w'.heap.size = w.heap.size + 1) (hos : w'.os = w.os) (hta : w'.tape = w.tape) (hou : w'.output = w.output) :
    Step nm σ I H w (upd σ n (some ⟨w.heap.size, 0, c.size⟩)) I (upd H n (some row)) w' ∧ H n = none := by
  have hHn : H n = none := by
    cases e : H n with
    | none => rfl
    | some row => obtain ⟨p, _, _, _, hp, _⟩ := h.rows n row e; rw [hn] at hp; cases hp
  have hle : σ.le (upd σ n (some ⟨w.heap.size, 0, c.size⟩)) := fun k p hk => by
    rw [upd_ne]; exact hk
    rintro rfl; rw [hn] at hk; cases hk
  have hlt : ∀ k p, H k ≠ none → σ k = some p → p.b < w.heap.size := fun k p hk hp => by
    cases e : H k with
    | none => exact absurd e hk
    | some row =>
      obtain ⟨p', c', _, _, hp', hb, _⟩ := h.rows k row e
      rw [hp] at hp'; cases hp'
      exact (Array.getElem?_eq_some_iff.1 hb).1
  have hilt : ∀ m b c, I m b = some c → b < w.heap.size := fun m b c hb => by
    obtain ⟨_, _, hb⟩ := h.imm m b c hb
    exact (Array.getElem?_eq_some_iff.1 hb).1
  refine ⟨⟨⟨?_, ?_, ?_, ?_⟩, hle, ?_, Imm.le_refl _, fun _ _ _ h => .inl h, ?_, ⟨hos, hta, hou, by omega, fun b hb _ => hold b hb⟩⟩, hHn⟩
  · intro k row' hk
    by_cases e : k = n
    · subst e
      rw [upd_same] at hk; cases hk
      exact ⟨_, c, el, fr, upd_same _ _ _, hnew, rfl, hfr, hr.mono hle (Imm.le_refl _)⟩
    · rw [upd_ne _ _ e] at hk
      obtain ⟨p, c', el', fr', hp, hb, ht, hf, hv⟩ := h.rows k row' hk
      exact ⟨p, c', el', fr', by rw [upd_ne _ _ e]; exact hp, by rw [hold _ (Array.getElem?_eq_some_iff.1 hb).1]; exact hb, ht, hf, hv.mono hle (Imm.le_refl _)⟩
  · intro k k' p p' hk hk' hp hp' hb
    by_cases e : k = n <;> by_cases e' : k' = n
    · rw [e, e']
    · subst e
      rw [upd_same] at hp; cases hp
      rw [upd_ne _ _ e'] at hk' hp'
      have := hlt k' p' hk' hp'
      simp at hb; omega
    · subst e'
      rw [upd_same] at hp'; cases hp'
      rw [upd_ne _ _ e] at hk hp
      have := hlt k p hk hp
      simp at hb; omega
    · rw [upd_ne _ _ e] at hk hp
      rw [upd_ne _ _ e'] at hk' hp'
      exact h.inj k k' p p' hk hk' hp hp' hb
  · intro m b c' hb
    obtain ⟨el', fr', hb'⟩ := h.imm m b c' hb
    exact ⟨el', fr', by rw [hold _ (hilt m b c' hb)]; exact hb'⟩
  · intro k p m hk hp
    by_cases e : k = n
    · subst e
      rw [upd_same] at hp; cases hp
      cases e2 : I m w.heap.size with
      | none => rfl
      | some c' => have := hilt m _ c' e2; omega
    · rw [upd_ne _ _ e] at hk hp
      exact h.dis k p m hk hp
  · intro k h0 h1
    by_cases e : k = n
    · subst e; exact hnm
    · rw [upd_ne _ _ e] at h1; exact absurd h0 h1
  · rintro b ⟨k, p, hk, hp, rfl⟩
    by_cases e : k = n
    · subst e
      rw [upd_same] at hp; cases hp
      exact .inr (Nat.le_refl _)
    · rw [upd_ne _ _ e] at hk hp
      exact .inl ⟨k, p, hk, hp, rfl⟩

theorem Step.alloc {nm : Name → Prop} {σ : Sig} {I : Imm} {H : AHeap} {w : World} (h : ARel σ I H w) {n : Name} (hn : σ n = none) (hnm : nm n)
    {row : List AV} {c : Array Value} {el : TypeId} {fr : Nat × Nat} (hfr : ∀ i, i < c.size → ¬ (fr.1 ≤ i ∧ i < fr.2)) (hr : VRels σ I row (seg c 0 row.length)) :
    Step nm σ I H w (upd σ n (some ⟨w.heap.size, 0, c.size⟩)) I (upd H n (some row)) (w.alloc (.cells c el fr)) ∧ H n = none :=
  Step.block h hn hnm hfr hr (fun i hi => heap_alloc_old w _ i hi) (heap_alloc_new w _) (by simp) rfl rfl rfl

theorem seg_length (c : Array Value) (o n : Nat) : (seg c o n).length = min n (c.size - o) := by simp [seg]
theorem seg_get (c : Array Value) (o n i : Nat) (h : i < n) : (seg c o n)[i]? = c[o + i]? := by
  simp [seg, h]

/-- A row's cell, as the world has it. -/
theorem ARel.cell {σ : Sig} {I : Imm} {H : AHeap} {w : World} (h : ARel σ I H w) {n : Name} {row : List AV} (hn : H n = some row) {p : Place} (hp : σ n = some p) {i : Nat} {a : AV} (ha : row[i]? = some a) :
    ∃ v, w.cell? ⟨p.b, p.o + i, none⟩ = some v ∧ VRel σ I a v ∧ w.frozen? ⟨p.b, p.o + i, none⟩ = false ∧ p.b < w.heap.size := by
  obtain ⟨p', c, el, fr, hp', hb, ht, hf, hv⟩ := h.rows n row hn
  rw [hp] at hp'; cases hp'
  obtain ⟨v, hv1, hv2⟩ := hv.get ha
  have hi : i < row.length := (List.getElem?_eq_some_iff.1 ha).1
  rw [seg_get _ _ _ _ hi] at hv1
  have hlt : p.o + i < c.size := (Array.getElem?_eq_some_iff.1 hv1).1
  refine ⟨v, ?_, hv2, ?_, (Array.getElem?_eq_some_iff.1 hb).1⟩
  · simp [World.cell?, hb, hv1]
  · have := hf _ hlt
    simp only [World.frozen?, hb]
    simp only [not_and] at this
    by_cases h1 : fr.1 ≤ p.o + i
    · simp [h1]; exact Nat.le_of_not_lt (this h1)
    · simp [h1]

/-- A block that nobody writes: a cell. -/
theorem ARel.icell {σ : Sig} {I : Imm} {H : AHeap} {w : World} (h : ARel σ I H w) {m : Bool} {b o : Nat} {c : Array Value} (hb : I m b = some c) {cells : List AV} (hc : VRels σ I cells (seg c o cells.length)) {i : Nat} {a : AV} (ha : cells[i]? = some a) :
    ∃ v, w.cell? ⟨b, o + i, none⟩ = some v ∧ VRel σ I a v := by
  obtain ⟨el, fr, hb'⟩ := h.imm m b c hb
  obtain ⟨v, hv1, hv2⟩ := hc.get ha
  rw [seg_get _ _ _ _ (List.getElem?_eq_some_iff.1 ha).1] at hv1
  exact ⟨v, by simp [World.cell?, hb', hv1], hv2⟩

theorem heap_setCell_row (w : World) (b i : Nat) (c : Array Value) (el : TypeId) (fr : Nat × Nat) (v : Value) (hb : w.heap[b]? = some (.cells c el fr)) :
    (w.setCell ⟨b, i, none⟩ v).heap[b]? = some (.cells (c.setIfInBounds i v) el fr) := by
  simp [World.setCell, Array.getElem?_modify, hb]

/-- One cell of a row is written. -/
theorem Step.set1 {nm : Name → Prop} {σ : Sig} {I : Imm} {H : AHeap} {w : World} (h : ARel σ I H w) {n : Name} {row : List AV} (hn : H n = some row) {p : Place} (hp : σ n = some p)
    {off : Nat} (ho : off < row.length) {a : AV} {v : Value} (hv : VRel σ I a v) :
    Step nm σ I H w σ I (upd H n (some (row.set off a))) (w.setCell ⟨p.b, p.o + off, none⟩ v) := by
  obtain ⟨p', c, el, fr, hp', hb, ht, hf, hr⟩ := h.rows n row hn
  rw [hp] at hp'; cases hp'
  have hlen := hr.length
  rw [seg_length] at hlen
  have hin : p.o + off < c.size := by omega
  have hne : ∀ k, upd H n (some (row.set off a)) k ≠ none ↔ H k ≠ none := fun k => by
    by_cases e : k = n
    · subst e; simp [upd_same, hn]
    · rw [upd_ne _ _ e]
  refine ⟨⟨?_, ?_, ?_, ?_⟩, Sig.le_refl _, fun _ h0 h1 => absurd h0 h1, Imm.le_refl _, fun _ _ _ h => .inl h, ?_, ⟨rfl, rfl, rfl, by simp, ?_⟩⟩
  · intro k row' hk
    by_cases e : k = n
    · subst e
      rw [upd_same] at hk; cases hk
      refine ⟨p, c.setIfInBounds (p.o + off) v, el, fr, hp, heap_setCell_row w _ _ _ _ _ _ hb, by simpa using ht, by simpa using hf, ?_⟩
      have e1 : seg (c.setIfInBounds (p.o + off) v) p.o (row.set off a).length = (seg c p.o row.length).set off v := by
        apply List.ext_getElem?
        intro i
        simp only [seg, List.length_set, Array.toList_setIfInBounds]
        by_cases hi : i < row.length
        · rw [List.getElem?_take_of_lt hi, List.getElem?_drop, List.getElem?_set, List.getElem?_set, List.getElem?_take_of_lt hi, List.getElem?_drop]
          by_cases e2 : off = i
          · subst e2
            rw [if_pos rfl, if_pos rfl, if_pos (by simpa using hin), if_pos (by simp; omega)]
          · rw [if_neg (by omega), if_neg e2]
        · rw [List.getElem?_take_eq_none (by omega), List.getElem?_set, if_neg (by omega), List.getElem?_take_eq_none (by omega)]
      rw [e1]
      exact hr.set off hv
    · rw [upd_ne _ _ e] at hk
      obtain ⟨q, c', el', fr', hq, hb', ht', hf', hv'⟩ := h.rows k row' hk
      refine ⟨q, c', el', fr', hq, ?_, ht', hf', hv'⟩
      rw [heap_setCell_other]
      · exact hb'
      · intro e2
        exact e (h.inj k n q p (by rw [hk]; simp) (by rw [hn]; simp) hq hp e2)
  · intro k k' q q' hk hk' hq hq' hb
    exact h.inj k k' q q' ((hne k).1 hk) ((hne k').1 hk') hq hq' hb
  · intro m b c' hb'
    obtain ⟨el', fr', h'⟩ := h.imm m b c' hb'
    refine ⟨el', fr', ?_⟩
    rw [heap_setCell_other]
    · exact h'
    · intro e2
      have := h.dis n p m (by rw [hn]; simp) hp
      subst e2; rw [hb'] at this; cases this
  · intro k q m hk hq
    exact h.dis k q m ((hne k).1 hk) hq
  · rintro b ⟨k, q, hk, hq, rfl⟩
    exact .inl ⟨k, q, (hne k).1 hk, hq, rfl⟩
  · intro b _ hno
    rw [heap_setCell_other]
    intro e2
    exact hno ⟨n, p, by rw [hn]; simp, hp, e2.symm⟩

/-- A row is forgotten. -/
theorem Step.forget {nm : Name → Prop} {σ : Sig} {I : Imm} {H H' : AHeap} {w : World} (h : ARel σ I H w) (hs : ∀ n row, H' n = some row → H n = some row) :
    Step nm σ I H w σ I H' w := by
  have hne : ∀ n, H' n ≠ none → H n ≠ none := fun n hn => by
    cases e : H' n with
    | none => exact absurd e hn
    | some row => rw [hs n row e]; simp
  exact ⟨⟨fun n row hn => h.rows n row (hs n row hn), fun n n' p p' hn hn' => h.inj n n' p p' (hne n hn) (hne n' hn'), h.imm, fun n p m hn => h.dis n p m (hne n hn)⟩,
    Sig.le_refl _, fun _ h0 h1 => absurd h0 h1, Imm.le_refl _, fun _ _ _ h => .inl h, fun b ⟨n, p, hn, hp, hb⟩ => .inl ⟨n, p, hne n hn, hp, hb⟩, Fr.refl _ _ _⟩

end Go.Proofs.Ytpgoddffacgcmaa.Den
