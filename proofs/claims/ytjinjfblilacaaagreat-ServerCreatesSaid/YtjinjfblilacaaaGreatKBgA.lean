/- The servers at their beginning, known. -/
import Derived.Test.YtjinjfblilacaaaGreatKLrA
import Derived.Test.YtjinjfblilacaaaGreatKRsO
import Derived.Test.YtjinjfblilacaaaGreatKWkA
import Derived.WalkLawsBesides
import Derived.Test.YtjinjfblilacaaaGreatKSymS
import Derived.Test.YtjinjfblilacaaaGreatKWkT
set_option linter.unusedVariables false
set_option linter.unusedSimpArgs false
section
set_option maxRecDepth 1000000
namespace Go.Proofs.YtjinjfblilacaaaGreat.Den
open Go
noncomputable def bgr0 : List SV := (cA [.ptr 2 0, .ptr 28 0, .ptr 3 0, .ptr 29 0, .ptr 15 0, .ptr 41 0, .ptr 26 0, .ptr 52 0, sN, sN, nI 0, nI 0] [])
noncomputable def bgr1 : List SV := (cA [.sl 1 0 40000 1, .val (.complex .f64 0 0), nI 0, .bool false] [])
noncomputable def bgr2 : List SV := (cA [nI 0, .sl 12 0 2 1, .sl 13 0 2 1, .sl 14 0 2 1, .ptr 11 0, sN, sN, sN] [])
noncomputable def bgr3 : List SV := (cA [nI 0, .im true 2 (cB [107, 48] []), .im true 2 (cB [107, 49] []), .im true 2 (cB [107, 50] []), .ptr 25 0, sN, sN, sN] [])
noncomputable def bgr4 : List SV := (cA [.sl 27 0 40000 1, .val (.complex .f64 0 0), nI 0, .bool false] [])
noncomputable def bgr5 : List SV := (cA [nI 1, .sl 38 0 2 1, .sl 39 0 2 1, .sl 40 0 2 1, .ptr 37 0, sN, sN, sN] [])
noncomputable def bgr6 : List SV := (cA [nI 1, .im true 2 (cB [107, 48] []), .im true 2 (cB [107, 49] []), .im true 2 (cB [107, 50] []), .ptr 51 0, sN, sN, sN] [])
noncomputable def bg0 : PZ := ⟨16, (cA [nI 40000] []), 0,
  [],
  .ptr 0 0, 53,
  [(0, bgr0, 0),
  (1, [], 40000),
  (2, bgr1, 0),
  (3, (cA [.sl 24 0 0 1, nI 0, nI 40000, nI 0, .bool false] []), 0),
  (11, (cA [.ptr 2 0, nI 0, nI 0] []), 0),
  (12, (cB [107, 48] []), 0),
  (13, (cB [107, 49] []), 0),
  (14, (cB [107, 50] []), 0),
  (15, bgr2, 0),
  (24, [], 0),
  (25, (cA [.ptr 3 0, nI 0, nI 0] []), 0),
  (26, bgr3, 0),
  (27, [], 40000),
  (28, bgr4, 0),
  (29, (cA [.sl 50 0 0 1, nI 0, nI 40000, nI 0, .bool false] []), 0),
  (37, (cA [.ptr 28 0, nI 0, nI 0] []), 0),
  (38, (cB [107, 48] []), 0),
  (39, (cB [107, 49] []), 0),
  (40, (cB [107, 50] []), 0),
  (41, bgr5, 0),
  (50, [], 0),
  (51, (cA [.ptr 29 0, nI 0, nI 0] []), 0),
  (52, bgr6, 0)]⟩
end Go.Proofs.YtjinjfblilacaaaGreat.Den
end
section
set_option linter.unusedSimpArgs false
set_option linter.unusedVariables false
namespace Go.Proofs.YtjinjfblilacaaaGreat.Den
open Go.RowKit
variable {P : Program} {ρ : Vals} {ν : Nat -> Option Name}
mutual
def shV (d : Nat) : SV -> SV
  | .ptr n o => .ptr (Nat.add n d) o
  | .sl n o l z => .sl (Nat.add n d) o l z
  | .imp m c o => .imp m (shVs d c) o
  | .im m n c => .im m n (shVs d c)
  | .agg c => .agg (shVs d c)
  | .tup c => .tup (shVs d c)
  | .fn f a b => .fn f (shVs d a) (shVs d b)
  | .int k e => .int k e
  | .bool b => .bool b
  | .str l => .str l
  | .val v => .val v
def shVs (d : Nat) : List SV -> List SV
  | [] => []
  | a :: l => shV d a :: shVs d l
end
mutual
theorem shV_in {d : Nat} : ∀ (s : SV) {x : AV}, SRel ρ ν (shV d s) x -> SRel ρ (fun k => ν (k + d)) s x
  | .ptr n o, _, h => by simp only [shV] at h; cases h with | ptr h => exact .ptr h
  | .sl n o l z, _, h => by simp only [shV] at h; cases h with | sl h => exact .sl h
  | .imp m c o, _, h => by simp only [shV] at h; cases h with | imp h => exact .imp (shVs_in c h)
  | .im m n c, _, h => by simp only [shV] at h; cases h with | im h => exact .im (shVs_in c h)
  | .agg c, _, h => by simp only [shV] at h; cases h with | agg h => exact .agg (shVs_in c h)
  | .tup c, _, h => by simp only [shV] at h; cases h with | tup h => exact .tup (shVs_in c h)
  | .fn f a b, _, h => by simp only [shV] at h; cases h with | fn h h' => exact .fn (shVs_in a h) (shVs_in b h')
  | .int k e, _, h => by simp only [shV] at h; cases h; exact .int k e
  | .bool b, _, h => by simp only [shV] at h; cases h; exact .bool b
  | .str l, _, h => by simp only [shV] at h; cases h; exact .str l
  | .val v, _, h => by simp only [shV] at h; cases h; exact .val v
theorem shVs_in {d : Nat} : ∀ (l : List SV) {xs : List AV}, SRels ρ ν (shVs d l) xs -> SRels ρ (fun k => ν (k + d)) l xs
  | [], _, h => by simp only [shVs] at h; cases h; exact .nil
  | a :: l, _, h => by
    simp only [shVs] at h
    cases h with
    | cons h t => exact .cons (shV_in a h) (shVs_in l t)
end
mutual
theorem shV_out {d : Nat} {ν' : Nat -> Option Name} (hn : ∀ k m, ν k = some m -> ν' (k + d) = some m) : ∀ (s : SV) {x : AV}, SRel ρ ν s x -> SRel ρ ν' (shV d s) x
  | .ptr n o, _, h => by simp only [shV]; cases h with | ptr h => exact .ptr (hn _ _ h)
  | .sl n o l z, _, h => by simp only [shV]; cases h with | sl h => exact .sl (hn _ _ h)
  | .imp m c o, _, h => by simp only [shV]; cases h with | imp h => exact .imp (shVs_out hn c h)
  | .im m n c, _, h => by simp only [shV]; cases h with | im h => exact .im (shVs_out hn c h)
  | .agg c, _, h => by simp only [shV]; cases h with | agg h => exact .agg (shVs_out hn c h)
  | .tup c, _, h => by simp only [shV]; cases h with | tup h => exact .tup (shVs_out hn c h)
  | .fn f a b, _, h => by simp only [shV]; cases h with | fn h h' => exact .fn (shVs_out hn a h) (shVs_out hn b h')
  | .int k e, _, h => by simp only [shV]; cases h; exact .int k e
  | .bool b, _, h => by simp only [shV]; cases h; exact .bool b
  | .str l, _, h => by simp only [shV]; cases h; exact .str l
  | .val v, _, h => by simp only [shV]; cases h; exact .val v
theorem shVs_out {d : Nat} {ν' : Nat -> Option Name} (hn : ∀ k m, ν k = some m -> ν' (k + d) = some m) : ∀ (l : List SV) {xs : List AV}, SRels ρ ν l xs -> SRels ρ ν' (shVs d l) xs
  | [], _, h => by simp only [shVs]; cases h; exact .nil
  | a :: l, _, h => by
    simp only [shVs]
    cases h with
    | cons h t => exact .cons (shV_out hn a h) (shVs_out hn l t)
end
noncomputable def shRows (d : Nat) : ZRows -> ZRows
  | [] => []
  | (k, l, z) :: r => (Nat.add k d, shVs d l, z) :: shRows d r
noncomputable def PZ.shift (p : PZ) (d : Nat) : PZ := ⟨p.f, shVs d p.args, Nat.add p.next d, shRows d p.rows, shV d p.r, Nat.add p.next' d, shRows d p.rows'⟩
theorem shVs_append (d : Nat) : ∀ (a b : List SV), shVs d (a ++ b) = shVs d a ++ shVs d b
  | [], b => rfl
  | x :: a, b => by simp only [List.cons_append, shVs, shVs_append d a b]
theorem cA_eq : ∀ (l r : List SV), cA l r = l ++ r
  | [], r => rfl
  | a :: l, r => by rw [cA_cons, cA_eq l r]; rfl
theorem shVs_cZ (d : Nat) : ∀ n, shVs d (cZ n []) = cZ n []
  | 0 => rfl
  | n + 1 => by
    show shVs d (zb :: cZ n []) = zb :: cZ n []
    rw [shVs, shVs_cZ d n]; rfl
theorem shVs_zrow (d : Nat) (l : List SV) (z : Nat) : shVs d (zrow l z) = zrow (shVs d l) z := by
  rw [zrow_eq, zrow_eq, cA_eq, cA_eq, shVs_append, shVs_cZ]
theorem shRows_mem {d : Nat} : ∀ {l : ZRows} {k : Nat} {c : List SV} {z : Nat}, (k, c, z) ∈ l -> (k + d, shVs d c, z) ∈ shRows d l
  | (k', c', z') :: r, k, c, z, h => by
    simp only [shRows]
    rcases List.mem_cons.1 h with e | h
    · cases e; exact List.mem_cons_self
    · exact List.mem_cons_of_mem _ (shRows_mem h)
theorem shRows_mem' {d : Nat} : ∀ {l : ZRows} {k : Nat} {c : List SV} {z : Nat}, (k, c, z) ∈ shRows d l -> ∃ k' c', (k', c', z) ∈ l /\ k = k' + d /\ c = shVs d c'
  | [], _, _, _, h => by cases h
  | (k', c', z') :: r, k, c, z, h => by
    simp only [shRows] at h
    rcases List.mem_cons.1 h with e | h
    · cases e; exact ⟨k', c', by simp, rfl, rfl⟩
    · obtain ⟨a, b, h1, h2⟩ := shRows_mem' h
      exact ⟨a, b, List.mem_cons_of_mem _ h1, h2⟩
theorem putZ_some : ∀ {l : ZRows} {m : Tr (List SV)} {k : Nat}, (∃ q ∈ l, q.1 = k) -> smallZ l = true -> ∃ row, (putZ l m).get k = some row
  | [], _, _, h, _ => by obtain ⟨q, hq, _⟩ := h; cases hq
  | (k', c, z) :: r, m, k, h, hs => by
    simp only [smallZ, List.all_cons, Bool.and_eq_true] at hs
    have h1 := blt_lt hs.1
    by_cases hr : ∃ q ∈ r, q.1 = k
    · exact putZ_some (l := r) (m := m.put k' (zrow c z)) hr hs.2
    · have hr' : ∀ q ∈ r, q.1 ≠ k := fun q hq e => hr ⟨q, hq, e⟩
      have hk : k = k' := by
        obtain ⟨q, hq, e⟩ := h
        rcases List.mem_cons.1 hq with rfl | hq
        · exact e.symm
        · exact absurd e (hr' q hq)
      refine ⟨zrow c z, ?_⟩
      show (putZ r (m.put k' (zrow c z))).get k = _
      rw [putZ_out hr' hs.2, put_get _ _ _ _ (by omega), if_pos hk]
/-- Moved rows stand where they were, moved. -/
theorem putZ_move {d : Nat} : ∀ {l : ZRows} {k : Nat} {row : List SV}, smallZ l = true -> smallZ (shRows d l) = true -> ∀ {m m' : Tr (List SV)}, (∀ row, m.get k = some row -> m'.get (k + d) = some (shVs d row)) -> (putZ l m).get k = some row -> (putZ (shRows d l) m').get (k + d) = some (shVs d row)
  | [], k, row, _, _, m, m', hm, h => hm row h
  | (k', c, z) :: r, k, row, hs, hs', m, m', hm, h => by
    simp only [smallZ, List.all_cons, Bool.and_eq_true] at hs
    simp only [shRows, smallZ, List.all_cons, Bool.and_eq_true] at hs'
    have h1 := blt_lt hs.1
    have h2 := blt_lt hs'.1
    have h2' : k' + d < 1000000000 := h2
    refine putZ_move (l := r) hs.2 hs'.2 (m := m.put k' (zrow c z)) (m' := m'.put (Nat.add k' d) (zrow (shVs d c) z)) ?_ h
    intro row hr
    rw [put_get _ _ _ _ (by omega)] at hr
    rw [put_get _ _ _ _ (by have e : k'.add d = k' + d := rfl; omega)]
    by_cases e : k = k'
    · subst e
      rw [if_pos rfl] at hr
      cases hr
      rw [if_pos (show k + d = k.add d from rfl), shVs_zrow]
    · rw [if_neg e] at hr
      rw [if_neg (fun e' => e (by have e2 : k + d = k' + d := e'; omega))]
      exact hm row hr
theorem putZ_shift {d next next' : Nat} {l : ZRows} (hs : smallZ l = true) (hs' : smallZ (shRows d l) = true) {k : Nat} {row : List SV} (h : (zmem next l).get k = some row) : (zmem next' (shRows d l)).get (k + d) = some (shVs d row) :=
  putZ_move hs hs' (fun row hr => by rw [nil_get] at hr; cases hr) h
/-- What is known at one place is known at all others. -/
theorem PZ.Holds.shift {p : PZ} (hp : p.Holds P ρ) (d : Nat) (hs : smallZ p.rows = true) (hs' : smallZ (shRows d p.rows) = true) (hk : smallZ p.rows' = true) (hk' : smallZ (shRows d p.rows') = true) : (p.shift d).Holds P ρ := by
  refine ⟨hp.1, fun ν H nm xs hm hfre hxs => ?_⟩
  let ν₀ : Nat -> Option Name := fun k => ν (k + d)
  have hm0 : MRel ρ ν₀ (zmem p.next p.rows) H := by
    refine ⟨?_, ?_, ?_⟩
    · intro k row hk
      rcases putZ_get p.rows .nil k row hk with ⟨c, z, h1, rfl⟩ | h1
      · have h2 : ∃ row', (zmem (Nat.add p.next d) (shRows d p.rows)).get (k + d) = some row' := by
          have : ∃ q ∈ shRows d p.rows, q.1 = k + d := ⟨_, shRows_mem h1, rfl⟩
          exact putZ_some this hs'
        obtain ⟨row', h2⟩ := h2
        obtain ⟨m, r, g1, g2, g3⟩ := hm.rows _ _ h2
        refine ⟨m, r, g1, g2, ?_⟩
        have h3 : row' = shVs d (zrow c z) := by
          have := putZ_shift (d := d) (next' := Nat.add p.next d) hs hs' hk
          rw [this] at h2
          exact (Option.some.inj h2).symm
        rw [h3] at g3
        exact shVs_in _ g3
      · rw [nil_get] at h1; cases h1
    · intro a b m h1 h2
      have := hm.inj _ _ _ h1 h2
      omega
    · intro k hk
      have := hm.lt _ hk
      have h1 : k + d < p.next + d := this
      show k < p.next
      omega
  have hfre0 : Fre ν₀ nm := fun k s => hfre (k + d) s
  obtain ⟨z, H', g1, ν₁, g2, g3, g4, g5⟩ := hp.2 ν₀ H nm xs hm0 hfre0 (shVs_in _ hxs)
  let ν' : Nat -> Option Name := fun j => if j < d then ν j else ν₁ (j - d)
  have up : ∀ k m, ν₁ k = some m -> ν' (k + d) = some m := fun k m h => by
    show (if k + d < d then ν (k + d) else ν₁ (k + d - d)) = some m
    rw [if_neg (by omega), Nat.add_sub_cancel]; exact h
  refine ⟨z, H', g1, ν', ?_, ?_, ⟨?_, ?_, ?_⟩, shV_out up _ g5⟩
  · intro j m hj
    show (if j < d then ν j else ν₁ (j - d)) = some m
    split
    · exact hj
    · rename_i hd
      refine g2 _ _ ?_
      show ν (j - d + d) = some m
      rw [Nat.sub_add_cancel (by omega)]; exact hj
  · intro j m hj
    have hj' : (if j < d then ν j else ν₁ (j - d)) = some m := hj
    split at hj'
    · exact .inl hj'
    · rename_i hd
      rcases g3 _ _ hj' with h1 | h1
      · have h2 : ν (j - d + d) = some m := h1
        rw [Nat.sub_add_cancel (by omega)] at h2; exact .inl h2
      · exact .inr h1
  · intro k row hkr
    rcases putZ_get _ .nil k row hkr with ⟨c, zz, h1, rfl⟩ | h1
    · obtain ⟨k', c', h2, rfl, rfl⟩ := shRows_mem' h1
      have h3 : ∃ row', (zmem p.next' p.rows').get k' = some row' := putZ_some ⟨_, h2, rfl⟩ hk
      obtain ⟨row', h3⟩ := h3
      obtain ⟨m, r, e1, e2, e3⟩ := g4.rows _ _ h3
      refine ⟨m, r, up _ _ e1, e2, ?_⟩
      have h4 := putZ_shift (d := d) (next' := Nat.add p.next' d) hk hk' h3
      have h5 : (zmem (Nat.add p.next' d) (shRows d p.rows')).get (k' + d) = some (zrow (shVs d c') zz) := hkr
      rw [h4] at h5
      rw [<- Option.some.inj h5]
      exact shVs_out up _ e3
    · rw [nil_get] at h1; cases h1
  · intro a b m h1 h2
    have h1' : (if a < d then ν a else ν₁ (a - d)) = some m := h1
    have h2' : (if b < d then ν b else ν₁ (b - d)) = some m := h2
    have low : ∀ x y, x < d -> ¬ y < d -> ν x = some m -> ν₁ (y - d) = some m -> False := fun x y hx hy e1 e2 => by
      rcases g3 _ _ e2 with e3 | ⟨s, e3⟩
      · have e4 : ν (y - d + d) = some m := e3
        rw [Nat.sub_add_cancel (by omega)] at e4
        have := hm.inj _ _ _ e1 e4
        omega
      · subst e3; exact hfre x s e1
    split at h1' <;> split at h2'
    · exact hm.inj _ _ _ h1' h2'
    · rename_i a1 a2; exact (low a b a1 a2 h1' h2').elim
    · rename_i a1 a2; exact (low b a a2 a1 h2' h1').elim
    · have := g4.inj _ _ _ h1' h2'
      omega
  · intro j hj
    have hj' : (if j < d then ν j else ν₁ (j - d)) ≠ none := hj
    show j < p.next' + d
    split at hj'
    · omega
    · have := g4.lt _ hj'
      have h1 : j - d < p.next' := this
      omega
end Go.Proofs.YtjinjfblilacaaaGreat.Den
end
section
set_option linter.unusedSimpArgs false
set_option linter.unusedVariables false
namespace Go.Proofs.YtjinjfblilacaaaGreat.Den
variable {P : Program}
/-! ### what is inside, said outside: rows of another name (ρ: outer to innr), rows that nobody will write (Z) -/
mutual
inductive Ot (ρ : Name -> Option Name) (Z : Name -> Prop) (H : AHeap) : AV -> AV -> Prop
  | refl (a : AV) : Ot ρ Z H a a
  | nil {m : Bool} : Ot ρ Z H (.val (.slice none 0 0)) (.im m 0 [])
  | sl0 {n : Name} {off sz : Nat} {m : Bool} : Ot ρ Z H (.sl n off 0 sz) (.im m 0 [])
  | slr {k n : Name} {off len sz : Nat} (h : ρ k = some n) : Ot ρ Z H (.sl n off len sz) (.sl k off len sz)
  | ptrr {k n : Name} {off : Nat} (h : ρ k = some n) : Ot ρ Z H (.ptr n off) (.ptr k off)
  | slf {n : Name} {off len sz : Nat} {row cells : List AV} (hz : Z n) (h : H n = some row) (hl : off + len * sz <= row.length) (hc : Ots ρ Z H ((row.drop off).take (len * sz)) cells) : Ot ρ Z H (.sl n off len sz) (.im true len cells)
  | im {m : Bool} {len : Nat} {l l' : List AV} (h : Ots ρ Z H l l') : Ot ρ Z H (.im m len l) (.im m len l')
  | agg {l l' : List AV} (h : Ots ρ Z H l l') : Ot ρ Z H (.agg l) (.agg l')
  | tup {l l' : List AV} (h : Ots ρ Z H l l') : Ot ρ Z H (.tup l) (.tup l')
inductive Ots (ρ : Name -> Option Name) (Z : Name -> Prop) (H : AHeap) : List AV -> List AV -> Prop
  | nil : Ots ρ Z H [] []
  | cons {a a' : AV} {l l' : List AV} (h : Ot ρ Z H a a') (t : Ots ρ Z H l l') : Ots ρ Z H (a :: l) (a' :: l')
end
section
variable {ρ : Name -> Option Name} {Z : Name -> Prop} {H : AHeap}
theorem Ots.refl : ∀ l, Ots ρ Z H l l
  | [] => .nil
  | a :: l => .cons (.refl a) (Ots.refl l)
theorem Ots.length : ∀ {l l' : List AV}, Ots ρ Z H l l' -> l.length = l'.length
  | _, _, .nil => rfl
  | _, _, .cons _ t => by simp [Ots.length t]
theorem Ots.append {a a' : List AV} (h : Ots ρ Z H a a') {b b' : List AV} (k : Ots ρ Z H b b') : Ots ρ Z H (a ++ b) (a' ++ b') :=
  match a, a', h with
  | _, _, .nil => k
  | _, _, .cons h t => .cons h (Ots.append t k)
/-- A list of values, each said outside. -/
theorem Ots.map {α : Type} {f g : α -> AV} (h : ∀ a, Ot ρ Z H (f a) (g a)) : ∀ l : List α, Ots ρ Z H (l.map f) (l.map g)
  | [] => .nil
  | a :: l => .cons (h a) (Ots.map h l)
/-- A whole row that nobody will write. -/
theorem Ot.whole {n : Name} {len sz : Nat} {row cells : List AV} (hz : Z n) (h : H n = some row) (hl : row.length = len * sz) (hc : Ots ρ Z H row cells) : Ot ρ Z H (.sl n 0 len sz) (.im true len cells) :=
  .slf hz h (by omega) (by rw [List.drop_zero, <- hl, List.take_length]; exact hc)
theorem Ot.row {n : Name} {len : Nat} {cells : List AV} (hz : Z n) (h : H n = some cells) (hl : cells.length = len) : Ot ρ Z H (.sl n 0 len 1) (.im true len cells) :=
  .whole hz h (by omega) (Ots.refl _)
variable {σf σ' : Sig} {I I' : Imm} {w : World}
mutual
theorem Ot.rel (hr : ARel σf I H w) (hs : ∀ k n p, ρ k = some n -> σf n = some p -> σ' k = some p) (hle : σf.le σ') (hII : I.le I')
    (hZ : ∀ n p c el fr, Z n -> H n ≠ none -> σf n = some p -> w.heap[p.b]? = some (.cells c el fr) -> I' true p.b = some c) {a a' : AV} {v : Value} (h : Ot ρ Z H a a') (hv : VRel σf I a v) : VRel σ' I' a' v :=
  match h with
  | .refl _ => hv.mono hle hII
  | .nil => by cases hv; exact .im0
  | .sl0 => by cases hv; exact .im0
  | .slr h => by cases hv with | sl hp hl hc => exact .sl (hs _ _ _ h hp) hl hc
  | .ptrr h => by cases hv with | ptr hp => exact .ptr (hs _ _ _ h hp)
  | .slf (n := n) (off := off) (len := len) (sz := sz) (row := row) (cells := cells) hz hn hl hc => by
    cases hv with
    | @sl _ _ _ _ cap p hp hlc hcap =>
      obtain ⟨p', c, el, fr, hp', hb, ht, hf, hrow⟩ := hr.rows n row hn
      rw [hp] at hp'; cases hp'
      obtain ⟨h0, h1⟩ := seg_part (k := 0) hrow hl
      have h2 := Ots.rel hr hs hle hII hZ hc h1
      have hlen : cells.length = len * sz := by rw [<- Ots.length hc]; exact h0
      exact .im (hZ n p c el fr hz (by rw [hn]; simp) hp hb) (by rw [hlen]; exact h2) hlc
  | .im (l := l) (l' := l') h => by
    cases hv with
    | im0 => cases h; exact .im0
    | im hI hc hl => exact .im (hII _ _ _ hI) (by rw [<- Ots.length h]; exact Ots.rel hr hs hle hII hZ h hc) hl
  | .agg h => by cases hv with | agg hv => exact .agg (Ots.rel hr hs hle hII hZ h hv)
  | .tup h => by cases hv with | tup hv => exact .tup (Ots.rel hr hs hle hII hZ h hv)
theorem Ots.rel (hr : ARel σf I H w) (hs : ∀ k n p, ρ k = some n -> σf n = some p -> σ' k = some p) (hle : σf.le σ') (hII : I.le I')
    (hZ : ∀ n p c el fr, Z n -> H n ≠ none -> σf n = some p -> w.heap[p.b]? = some (.cells c el fr) -> I' true p.b = some c) {l l' : List AV} {vs : List Value} (h : Ots ρ Z H l l') (hv : VRels σf I l vs) : VRels σ' I' l' vs :=
  match h with
  | .nil => by cases hv; exact .nil
  | .cons h t => by
    cases hv with
    | cons hv tv => exact .cons (Ot.rel hr hs hle hII hZ h hv) (Ots.rel hr hs hle hII hZ t tv)
end
end
/-- A row's name inside. -/
def innr (ρ : Name -> Option Name) (k : Name) : Name :=
  match ρ k with
  | some n => n
  | none => k
theorem innr_some {ρ : Name -> Option Name} {k n : Name} (h : ρ k = some n) : innr ρ k = n := by simp [innr, h]
theorem innr_none {ρ : Name -> Option Name} {k : Name} (h : ρ k = none) : innr ρ k = k := by simp [innr, h]
/-- What is left, said outside. -/
structure Said (nm : Name) (H₁ : AHeap) (a r : AV) (H' : AHeap) (ρ : Name -> Option Name) (Z : Name -> Prop) : Prop where
  val : Ot ρ Z H₁ a r
  name : ∀ k n, ρ k = some n -> Under nm k /\ ¬ Under (0 :: nm) k
  row : ∀ k row', H' k = some row' -> ¬ Z (innr ρ k) /\ ∃ row, H₁ (innr ρ k) = some row /\ Ots ρ Z H₁ row row'
  inj : ∀ k k', H' k ≠ none -> H' k' ≠ none -> innr ρ k = innr ρ k' -> k = k'
open Classical in
theorem sim_out {f : FuncId} {fn : Func} {code : Code} {n : Nat} {args : List AV} {nm : Name} {H H' : AHeap} {r : AV} (hf : P.funcs[f]? = some fn) (hb : fn.body = some code) (hn : fn.ntmps = n) (ha : args.length <= n)
    (h : (∀ s, H (s ++ 0 :: nm) = none) -> AWP P (0 :: nm) n code (fun e _ T H₁ => (e = .normal \/ e = .ret) /\ ∃ l ρ Z, ares P T H₁ fn.results.toList = some l /\ Said nm H₁ (ares1 l) r H' ρ Z) 0 (T0 args) H) :
    Sim P f args nm H r H' := by
  intro σ I w vs hfr hv hr
  have hnone : ∀ s, H (s ++ nm) = none := fun s => by
    cases e : H (s ++ nm) with
    | none => rfl
    | some row =>
      obtain ⟨q, _, _, _, hq, _⟩ := hr.rows _ row e
      rw [hfr s] at hq; cases hq
  refine calls_of_wp hf hb ?_
  have hlen : args.length = vs.size := by simpa using hv.length
  refine h (fun s => by have := hnone (s ++ [0]); rwa [List.append_assoc] at this) [] σ I _ w _ ⟨?_, ?_, rfl, hr, ?_⟩ ?_
  · intro i
    by_cases hi : i < vs.size
    · have h1 : (vs ++ Array.replicate (fn.ntmps - vs.size) undef).getD i undef = vs[i] := by
        simp [Array.getD_eq_getD_getElem?, Array.getElem?_append_left hi, hi]
      rw [h1]
      obtain ⟨v, h2, h3⟩ := hv.get (List.getElem?_eq_getElem (by omega : i < args.length))
      have h4 : vs[i] = v := by
        have : vs[i]? = some v := by simpa using h2
        rw [Array.getElem?_eq_getElem hi] at this
        exact Option.some.inj this
      rw [h4]
      simpa [T0, List.getElem?_eq_getElem (by omega : i < args.length)] using h3
    · have h1 : (vs ++ Array.replicate (fn.ntmps - vs.size) undef).getD i undef = undef := by
        rw [Array.getD_eq_getD_getElem?, Array.getElem?_append_right (by omega)]
        by_cases h2 : i - vs.size < fn.ntmps - vs.size
        · simp [h2]
        · simp [h2]
      rw [h1]
      have h2 : T0 args i = .val undef := by simp [T0, List.getElem?_eq_none (by omega : args.length <= i)]
      rw [h2]
      exact .val _
  · simp; omega
  · intro j s _
    have := hfr (s ++ [j, 0])
    simpa using this
  · rintro e c' T' H₁ σf If a' w' ⟨he, l, ρ, Z, hl, hsd⟩ hs st
    obtain ⟨v, h1, h2⟩ := results_run st.tr st.rel hl
    have hsold : ∀ k n, ρ k = some n -> σ k = none := fun k n hk => by
      obtain ⟨s, rfl⟩ := (hsd.name k n hk).1
      exact hfr s
    let σ' : Sig := fun k => match ρ k with
      | some n => σf n
      | none => σf k
    have hσ : ∀ k, σ' k = σf (innr ρ k) := fun k => by
      show (match ρ k with | some n => σf n | none => σf k) = _
      cases e : ρ k with
      | some n => rw [innr_some e]
      | none => rw [innr_none e]
    have hle : σf.le σ' := fun k p hk => by
      rw [hσ]
      cases e : ρ k with
      | none => rw [innr_none e]; exact hk
      | some n =>
        exfalso
        have := hs.new k (hsold k n e) (by rw [hk]; simp)
        exact (hsd.name k n e).2 this
    let I₂ : Imm := fun m b => if m = true /\ ∃ n p, Z n /\ H₁ n ≠ none /\ σf n = some p /\ p.b = b then (match w'.heap[b]? with | some (.cells c _ _) => some c | _ => none) else If m b
    have hdisZ : ∀ n p, Z n -> H₁ n ≠ none -> σf n = some p -> ∀ m, If m p.b = none := fun n p _ hn hp m => st.rel.dis n p m hn hp
    have hII : If.le I₂ := fun m b c hc => by
      show (if _ then _ else _) = _
      rw [if_neg]
      · exact hc
      · rintro ⟨_, n, p, hz, hn, hp, rfl⟩
        rw [hdisZ n p hz hn hp] at hc; cases hc
    have hZ : ∀ n p c el fr, Z n -> H₁ n ≠ none -> σf n = some p -> w'.heap[p.b]? = some (.cells c el fr) -> I₂ true p.b = some c := fun n p c el fr hz hn hp hb => by
      show (if _ then _ else _) = _
      rw [if_pos ⟨rfl, n, p, hz, hn, hp, rfl⟩, hb]
    have hren : ∀ k n p, ρ k = some n -> σf n = some p -> σ' k = some p := fun k n p hk hp => by rw [hσ, innr_some hk]; exact hp
    have hval : VRel σ' I₂ r v := Ot.rel st.rel hren hle hII hZ hsd.val h2
    have hin : ∀ k, H' k ≠ none -> H₁ (innr ρ k) ≠ none /\ ¬ Z (innr ρ k) := fun k hk => by
      cases e : H' k with
      | none => exact absurd e hk
      | some row' =>
        obtain ⟨g1, row, g2, _⟩ := hsd.row k row' e
        exact ⟨by rw [g2]; simp, g1⟩
    have hstep : Step (Under nm) σ I H w σ' I₂ H' w' := by
      refine ⟨⟨?_, ?_, ?_, ?_⟩, ?_, ?_, Imm.le_trans hs.imm hII, ?_, ?_, hs.fr⟩
      · intro k row' hk
        obtain ⟨g1, row, g2, g3⟩ := hsd.row k row' hk
        obtain ⟨p, c, el, fr, e1, e2, e3, e4, e5⟩ := st.rel.rows _ row g2
        refine ⟨p, c, el, fr, by rw [hσ]; exact e1, e2, e3, e4, ?_⟩
        rw [<- Ots.length g3]
        exact Ots.rel st.rel hren hle hII hZ g3 e5
      · intro k k' p p' hk hk' hp hp' hb
        rw [hσ] at hp hp'
        exact hsd.inj k k' hk hk' (st.rel.inj _ _ p p' (hin k hk).1 (hin k' hk').1 hp hp' hb)
      · intro m b c hc
        by_cases hz : m = true /\ ∃ n p, Z n /\ H₁ n ≠ none /\ σf n = some p /\ p.b = b
        · have hc' : (match w'.heap[b]? with | some (.cells c _ _) => some c | _ => none) = some c := by
            have : I₂ m b = some c := hc
            simp only [I₂] at this
            rwa [if_pos hz] at this
          split at hc'
          · rename_i c' el fr hb; cases hc'; exact ⟨el, fr, hb⟩
          · cases hc'
        · have hc' : If m b = some c := by
            have : I₂ m b = some c := hc
            simp only [I₂] at this
            rwa [if_neg hz] at this
          exact st.rel.imm m b c hc'
      · intro k p m hk hp
        rw [hσ] at hp
        show (if _ then _ else _) = none
        rw [if_neg]
        · exact st.rel.dis _ p m (hin k hk).1 hp
        · rintro ⟨_, n, q, hz, hn', hq, e⟩
          have := st.rel.inj n (innr ρ k) q p hn' (hin k hk).1 hq hp e
          rw [this] at hz
          exact (hin k hk).2 hz
      · intro k p hk
        rw [hσ]
        cases e : ρ k with
        | none => rw [innr_none e]; exact hs.sig k p hk
        | some n => rw [hsold k n e] at hk; cases hk
      · intro k h0 hk
        cases e : ρ k with
        | some n => exact (hsd.name k n e).1
        | none =>
          rw [hσ, innr_none e] at hk
          obtain ⟨s, hs'⟩ := hs.new k h0 hk
          exact ⟨s ++ [0], by simpa using hs'⟩
      · intro m b c hc
        by_cases hz : m = true /\ ∃ n p, Z n /\ H₁ n ≠ none /\ σf n = some p /\ p.b = b
        · obtain ⟨_, n, p, _, hn', hp, rfl⟩ := hz
          rcases hs.own _ ⟨n, p, hn', hp, rfl⟩ with g | g
          · exact .inr (.inr g)
          · exact .inr (.inl g)
        · have hc' : If m b = some c := by
            have : I₂ m b = some c := hc
            simp only [I₂] at this
            rwa [if_neg hz] at this
          exact hs.inew m b c hc'
      · rintro b ⟨k, p, hk, hp, rfl⟩
        rw [hσ] at hp
        exact hs.own _ ⟨_, p, (hin k hk).1, hp, rfl⟩
    have hfin : bodyPost P fn (fun e w' => ∃ v σ' I', e = .returned v /\ Step (Under nm) σ I H w σ' I' H' w' /\ VRel σ' I' r v) .ret a' w' :=
      ⟨st.defers, v, h1, v, σ', I₂, rfl, hstep, hval⟩
    rcases he with rfl | rfl
    · exact hfin
    · exact hfin
/-! ### plain results -/
/-- A call that was shown in an empty memory, of a result that names no row of its own. -/
theorem Sim.any {f : FuncId} {xs : List AV} {nm : Name} {r : AV} (h : Sim P f xs nm (fun _ => none) r (fun _ => none)) (H : AHeap) : Sim P f xs nm H r H := by
  have hg0 : givenH (fun _ => False) H = fun _ => none := by
    funext k
    unfold givenH
    rw [if_neg (fun h => h)]
  have hfr := Sim.frame (D := fun _ => False) (H := H) (by rw [hg0]; exact h)
  intro σ I w vs hfresh hv har
  refine (hfr σ I w vs hfresh hv har).mono ?_
  rintro e w' ⟨v, σ', I', rfl, st, hr⟩
  refine ⟨v, σ', I', rfl, st.trans (Step.forget st.rel ?_), hr⟩
  intro k row hk
  have hnu : ¬ Under nm k := by
    rintro ⟨s, rfl⟩
    obtain ⟨p, _, _, _, h1, _⟩ := har.rows _ _ hk
    rw [hfresh s] at h1
    cases h1
  unfold leftH
  rw [if_neg (by rintro (h | h); exact hnu h; exact h), hk]
/-- A function of plain results, from its code: in an empty memory all rows become plain lists. -/
theorem sim_pure {f : FuncId} {fn : Func} {code : Code} {n : Nat} {args : List AV} {nm : Name} {r : AV} (hf : P.funcs[f]? = some fn) (hb : fn.body = some code) (hn : fn.ntmps = n) (ha : args.length <= n)
    (h : AWP P (0 :: nm) n code (fun e _ T H₁ => (e = .normal \/ e = .ret) /\ ∃ l, ares P T H₁ fn.results.toList = some l /\ Ot (fun _ => none) (fun _ => True) H₁ (ares1 l) r) 0 (T0 args) (fun _ => none)) (H : AHeap) :
    Sim P f args nm H r H :=
  Sim.any (sim_out hf hb hn ha fun _ => h.mono fun e c T H₁ ⟨h1, l, h2, h3⟩ => ⟨h1, l, fun _ => none, fun _ => True, h2, ⟨h3, fun _ _ h => (by cases h), fun _ _ h => (by cases h), fun _ _ h => absurd rfl h⟩⟩) H
/-- Calls of known arguments and plain results, one or more. -/
noncomputable def atS : List (List AV × AV) -> Spec := fun l args nm H => by
  classical exact (l.find? fun p => decide (args = p.1)).map fun p => (p.2, H)
theorem atS_at {xs : List AV} {r : AV} {l : List (List AV × AV)} (nm : Name) (H : AHeap) : atS ((xs, r) :: l) xs nm H = some (r, H) := by
  unfold atS; simp
theorem atS_ok {f : FuncId} (hg : isGo P f = true) {l : List (List AV × AV)} (h : ∀ p ∈ l, ∀ nm H, Sim P f p.1 nm H p.2 H) : FnOK P f (atS l) := by
  refine ⟨hg, fun args nm H r H' hs => ?_⟩
  unfold atS at hs
  simp only [Option.map_eq_some_iff, Prod.mk.injEq] at hs
  obtain ⟨p, h1, rfl, rfl⟩ := hs
  have h2 := List.find?_some h1
  simp only [decide_eq_true_eq] at h2
  subst h2
  exact h p (List.mem_of_find?_eq_some h1) nm H
/-! ### objects: rows by name -/
abbrev Rows := List (Name × List AV)
def heapOf (L : Rows) : AHeap := fun k => (L.find? fun p => p.1 = k).map (·.2)
def namesOf (L : Rows) (k : Name) : Prop := k ∈ L.map (·.1)
def Holds (H : AHeap) (L : Rows) : Prop := ∀ k, namesOf L k -> H k = heapOf L k
end Go.Proofs.YtjinjfblilacaaaGreat.Den
end
section
namespace Go.Proofs.YtjinjfblilacaaaGreat.FI
open Ieee
/-- The double of a natural number. -/
def F (n : Nat) : Nat := Ieee.double.nearest false n 0
theorem log2_scale (t k : Nat) (h : t ≠ 0) : (t * 2 ^ k).log2 = t.log2 + k := by
  have h1 : t * 2 ^ k ≠ 0 := by
    have := Nat.two_pow_pos k
    intro h0
    rcases Nat.mul_eq_zero.1 h0 with h0 | h0 <;> omega
  have hlo := Nat.log2_self_le h
  have hhi := @Nat.lt_log2_self t
  apply Nat.le_antisymm
  · have : (t * 2 ^ k).log2 < t.log2 + k + 1 := by
      rw [Nat.log2_lt h1]
      have : t.log2 + k + 1 = (t.log2 + 1) + k := by omega
      rw [this, Nat.pow_add]
      exact Nat.mul_lt_mul_of_pos_right hhi (Nat.two_pow_pos k)
    omega
  · rw [Nat.le_log2 h1, Nat.pow_add]
    exact Nat.mul_le_mul_right _ hlo
theorem log2_lt53 (t : Nat) (h : t < 2 ^ 53) : t.log2 < 53 := by
  by_cases h0 : t = 0
  · subst h0; decide
  · rw [Nat.log2_lt h0]; exact h
theorem cut_zero (way : Toward) (n : Nat) (h : way = .even \/ way = .zero) : way.cut false n 0 = n := by
  rcases h with rfl | rfl <;> simp [Toward.cut, Nat.mod_one]
theorem cut_exact (way : Toward) (t k : Nat) (h : way = .even \/ way = .zero) : way.cut false (t * 2 ^ k) k = t := by
  by_cases h0 : t = 0
  · subst h0
    rcases h with rfl | rfl
    · have : 0 < 1 <<< min k (Nat.log2 0 + 2) := by rw [Nat.shiftLeft_eq]; have := Nat.two_pow_pos (min k (Nat.log2 0 + 2)); omega
      simp only [Toward.cut, Nat.zero_mul, Nat.zero_div, Nat.zero_mod, Nat.mul_zero]
      have h1 : decide (1 <<< min k (Nat.log2 0 + 2) < 0) = false := by simp
      have h2 : (1 <<< min k (Nat.log2 0 + 2) == 0) = false := beq_eq_false_iff_ne.2 (by omega)
      rw [h1, h2]; rfl
    · simp [Toward.cut]
  · have hl := log2_scale t k h0
    have hm : min k ((t * 2 ^ k).log2 + 2) = k := by omega
    have hp := Nat.two_pow_pos k
    have hd : t * 2 ^ k / 2 ^ k = t := Nat.mul_div_cancel _ hp
    have hr : t * 2 ^ k % 2 ^ k = 0 := Nat.mul_mod_left _ _
    rcases h with rfl | rfl
    · simp only [Toward.cut, hm, Nat.shiftLeft_eq, Nat.one_mul, hd, hr, Nat.mul_zero]
      have h1 : decide (2 ^ k < 0) = false := by simp
      have h2 : (2 ^ k == 0) = false := by simp
      rw [h1, h2]; rfl
    · simp only [Toward.cut, hm, Nat.shiftLeft_eq, Nat.one_mul, hd]; rfl
/-- How many digits the double's significand lies below the point. -/
def pl (a : Nat) : Nat := if a = 0 then 1074 else 52 - a.log2
theorem leastPlace_double : double.leastPlace = -1074 := by decide
theorem binade_double : double.binade = 2 ^ 52 := by rfl
theorem infRung_double : double.infRung = 2047 * 2 ^ 52 := by rfl
theorem sign_double : double.signWeight = 2 ^ 63 := by rfl
theorem fraction_double : double.fractionBits = 52 := by rfl
theorem nearest_scale (t k : Nat) (h : t < 2 ^ 53) : double.nearest false (t * 2 ^ k) (-(k : Int)) = F t := by
  unfold F
  by_cases h0 : t = 0
  · subst h0; simp [Format.nearest]
  · have hk := Nat.two_pow_pos k
    have h1 : t * 2 ^ k ≠ 0 := by
      intro h2
      rcases Nat.mul_eq_zero.1 h2 with h2 | h2 <;> omega
    have hl := log2_scale t k h0
    have h53 := log2_lt53 t h
    simp only [Format.nearest, if_neg h0, if_neg h1, hl, leastPlace_double, fraction_double]
    have e1 : max (-(k : Int) + ((t.log2 + k : Nat) : Int) - ((52 : Nat) : Int)) (-1074) = (t.log2 : Int) - 52 := by omega
    have e2 : max ((0 : Int) + (t.log2 : Int) - ((52 : Nat) : Int)) (-1074) = (t.log2 : Int) - 52 := by omega
    rw [e1, e2]
    congr 2
    have g2 : Toward.even.cut false (t <<< ((0 : Int) - ((t.log2 : Int) - 52)).toNat) ((t.log2 : Int) - 52 - 0).toNat = t * 2 ^ (52 - t.log2) := by
      have : ((t.log2 : Int) - 52 - 0).toNat = 0 := by omega
      rw [this, cut_zero _ _ (.inl rfl), Nat.shiftLeft_eq]
      congr 2; omega
    have g1 : Toward.even.cut false ((t * 2 ^ k) <<< (-(k : Int) - ((t.log2 : Int) - 52)).toNat) ((t.log2 : Int) - 52 - -(k : Int)).toNat = t * 2 ^ (52 - t.log2) := by
      rw [Nat.shiftLeft_eq]
      by_cases hc : k + t.log2 <= 52
      · have e3 : ((t.log2 : Int) - 52 - -(k : Int)).toNat = 0 := by omega
        have e4 : (-(k : Int) - ((t.log2 : Int) - 52)).toNat = 52 - t.log2 - k := by omega
        rw [e3, e4, cut_zero _ _ (.inl rfl), Nat.mul_assoc, <- Nat.pow_add]
        congr 2; omega
      · have e3 : ((t.log2 : Int) - 52 - -(k : Int)).toNat = k - (52 - t.log2) := by omega
        have e4 : (-(k : Int) - ((t.log2 : Int) - 52)).toNat = 0 := by omega
        rw [e3, e4, Nat.pow_zero, Nat.mul_one]
        have e5 : t * 2 ^ k = (t * 2 ^ (52 - t.log2)) * 2 ^ (k - (52 - t.log2)) := by
          rw [Nat.mul_assoc, <- Nat.pow_add]; congr 2; omega
        rw [e5, cut_exact _ _ _ (.inl rfl)]
    rw [g1, g2]
theorem F_eq (t : Nat) (h0 : t ≠ 0) (h : t < 2 ^ 53) : F t = (t.log2 + 1022) * 2 ^ 52 + t * 2 ^ (52 - t.log2) := by
  have h53 := log2_lt53 t h
  unfold F
  simp only [Format.nearest, if_neg h0, leastPlace_double, fraction_double, infRung_double, binade_double, Format.word]
  have e2 : max ((0 : Int) + (t.log2 : Int) - ((52 : Nat) : Int)) (-1074) = (t.log2 : Int) - 52 := by omega
  rw [e2]
  have g2 : Toward.even.cut false (t <<< ((0 : Int) - ((t.log2 : Int) - 52)).toNat) ((t.log2 : Int) - 52 - 0).toNat = t * 2 ^ (52 - t.log2) := by
    have : ((t.log2 : Int) - 52 - 0).toNat = 0 := by omega
    rw [this, cut_zero _ _ (.inl rfl), Nat.shiftLeft_eq]
    congr 2; omega
  rw [g2]
  have e3 : ((t.log2 : Int) - 52 - -1074).toNat = t.log2 + 1022 := by omega
  rw [e3]
  have hb := @Nat.lt_log2_self t
  have hub : t * 2 ^ (52 - t.log2) < 2 ^ 53 := by
    have : (2 : Nat) ^ 53 = 2 ^ (t.log2 + 1) * 2 ^ (52 - t.log2) := by rw [<- Nat.pow_add]; congr 1; omega
    rw [this]
    exact Nat.mul_lt_mul_of_pos_right hb (Nat.two_pow_pos _)
  simp only [Bool.false_eq_true, if_false]
  exact Nat.min_eq_left (by omega)
theorem read_F (t : Nat) (h : t < 2 ^ 53) : double.read (F t) = .number false (t * 2 ^ pl t) (-(pl t : Int)) := by
  by_cases h0 : t = 0
  · subst h0
    rw [Nat.zero_mul]
    decide
  · have h53 := log2_lt53 t h
    have hF := F_eq t h0 h
    have hlo := Nat.log2_self_le h0
    have hb := @Nat.lt_log2_self t
    have hub : t * 2 ^ (52 - t.log2) < 2 ^ 53 := by
      have : (2 : Nat) ^ 53 = 2 ^ (t.log2 + 1) * 2 ^ (52 - t.log2) := by rw [<- Nat.pow_add]; congr 1; omega
      rw [this]
      exact Nat.mul_lt_mul_of_pos_right hb (Nat.two_pow_pos _)
    have hlb : 2 ^ 52 <= t * 2 ^ (52 - t.log2) := by
      have : (2 : Nat) ^ 52 = 2 ^ t.log2 * 2 ^ (52 - t.log2) := by rw [<- Nat.pow_add]; congr 1; omega
      rw [this]
      exact Nat.mul_le_mul_right _ hlo
    have hpl : pl t = 52 - t.log2 := by simp [pl, h0]
    rw [hpl, hF]
    generalize hK : t * 2 ^ (52 - t.log2) = K at *
    simp only [Format.read, sign_double, binade_double, infRung_double, leastPlace_double]
    have a1 : ((t.log2 + 1022) * 2 ^ 52 + K) % 2 ^ 63 = (t.log2 + 1022) * 2 ^ 52 + K := by omega
    have a2 : ((t.log2 + 1022) * 2 ^ 52 + K) / 2 ^ 63 = 0 := by omega
    rw [a1, a2]
    rw [if_neg (by omega), if_pos (by omega)]
    have a3 : ((t.log2 + 1022) * 2 ^ 52 + K) % 2 ^ 52 = K - 2 ^ 52 := by
      have : (t.log2 + 1022) * 2 ^ 52 + K = (K - 2 ^ 52) + 2 ^ 52 * (t.log2 + 1023) := by omega
      rw [this, Nat.add_mul_mod_self_left, Nat.mod_eq_of_lt (by omega)]
    have a4 : ((t.log2 + 1022) * 2 ^ 52 + K) / 2 ^ 52 = t.log2 + 1023 := by
      have : (t.log2 + 1022) * 2 ^ 52 + K = (K - 2 ^ 52) + 2 ^ 52 * (t.log2 + 1023) := by omega
      rw [this, Nat.add_mul_div_left _ _ (by decide), Nat.div_eq_of_lt (by omega)]; omega
    rw [a3, a4]
    have a5 : 2 ^ 52 + (K - 2 ^ 52) = K := by omega
    have a6 : (-1074 : Int) + ((t.log2 + 1023 - 1 : Nat) : Int) = -((52 - t.log2 : Nat) : Int) := by omega
    rw [a5, a6]
    rfl
theorem add_F (a b : Nat) (h : a + b < 2 ^ 53) : double.add (F a) (F b) = some (F (a + b)) := by
  unfold Format.add
  rw [read_F a (by omega), read_F b (by omega)]
  generalize pl a = p
  generalize pl b = q
  simp only [Datum.sum, Option.map_some, Format.write, signed, Bool.false_eq_true, if_false, Nat.shiftLeft_eq]
  have e0 : min (-(p : Int)) (-(q : Int)) = -((max p q : Nat) : Int) := by omega
  rw [e0]
  have e1 : (-(p : Int) - -((max p q : Nat) : Int)).toNat = max p q - p := by omega
  have e2 : (-(q : Int) - -((max p q : Nat) : Int)).toNat = max p q - q := by omega
  rw [e1, e2]
  have e3 : a * 2 ^ p * 2 ^ (max p q - p) = a * 2 ^ max p q := by rw [Nat.mul_assoc, <- Nat.pow_add]; congr 2; omega
  have e4 : b * 2 ^ q * 2 ^ (max p q - q) = b * 2 ^ max p q := by rw [Nat.mul_assoc, <- Nat.pow_add]; congr 2; omega
  rw [e3, e4]
  generalize max p q = M
  have e5 : ((a * 2 ^ M : Nat) : Int) + ((b * 2 ^ M : Nat) : Int) = (((a + b) * 2 ^ M : Nat) : Int) := by rw [Nat.add_mul, Int.natCast_add]
  rw [e5]
  have e6 : (if (((a + b) * 2 ^ M : Nat) : Int) = 0 then (false && false) else decide ((((a + b) * 2 ^ M : Nat) : Int) < 0)) = false := by
    split
    · rfl
    · exact decide_eq_false (Int.not_lt.2 (Int.natCast_nonneg _))
  rw [e6, Int.natAbs_natCast, nearest_scale _ _ h]
theorem toInt_F (a : Nat) (ha : a < 2 ^ 53) : (double.read (F a)).toInt .zero = some (a : Int) := by
  rw [read_F a ha]
  generalize pl a = p
  simp only [Datum.toInt, Datum.integral, signed, Bool.false_eq_true, if_false]
  have e1 : (-(p : Int)).toNat = 0 := by omega
  have e2 : (- -(p : Int)).toNat = p := by omega
  rw [e1, e2]
  simp only [Nat.shiftLeft_zero]
  rw [cut_exact _ _ _ (.inr rfl)]
theorem ofInt_F (n : Nat) : floatOfInt .f64 (n : Int) = F n := by
  unfold floatOfInt FloatKind.nearest FloatKind.encode F
  have : decide ((n : Int) < 0) = false := by simp
  rw [this]
  rfl
theorem bits_add (a b : Nat) (h : a + b < 2 ^ 53) : floatBits .add .f64 (F a) (F b) = some (F (a + b)) := add_F a b h
theorem int_F (a : Nat) (ha : a < 2 ^ 53) : floatToIntVal .f64 (F a) .i64 = some (a : Int) := by
  unfold floatToIntVal FloatKind.decode
  have : (FloatKind.f64.format.read (F a)).toInt .zero = some (a : Int) := toInt_F a ha
  rw [this]
  have h : IntKind.i64.min <= (a : Int) /\ (a : Int) <= IntKind.i64.max := by
    have h1 : IntKind.i64.min = -9223372036854775808 := by decide
    have h2 : IntKind.i64.max = 9223372036854775807 := by decide
    omega
  simp only [if_pos h]
end Go.Proofs.YtjinjfblilacaaaGreat.FI
end
section
set_option linter.unusedSimpArgs false
set_option linter.unusedVariables false
set_option maxRecDepth 100000
namespace Go.Proofs.YtjinjfblilacaaaGreat.Den
open Go.RowKit
variable {P : Program}
abbrev cx (a b : Nat) : AV := .val (.complex .f64 (FI.F a) (FI.F b))
abbrev fl (a : Nat) : AV := .val (.float .f64 (FI.F a))
theorem F_zero : FI.F 0 = 0 := by decide
theorem cx_add {a b c d : Nat} (h1 : a + c < 2 ^ 53) (h2 : b + d < 2 ^ 53) : cSumBits .add .f64 (FI.F a) (FI.F b) (FI.F c) (FI.F d) = some (FI.F (a + c), FI.F (b + d)) := by
  unfold cSumBits
  rw [FI.bits_add _ _ h1, FI.bits_add _ _ h2]
  rfl
theorem cx_add0 {a b d : Nat} (h1 : a < 2 ^ 53) (h2 : b + d < 2 ^ 53) : cSumBits .add .f64 (FI.F a) (FI.F b) 0 (FI.F d) = some (FI.F a, FI.F (b + d)) := by
  have := cx_add (a := a) (c := 0) (by omega) h2
  rwa [F_zero] at this
theorem near_F (n : Nat) : FloatKind.f64.nearest (n : Int) = FI.F n := FI.ofInt_F n
/-- A call with a known effect. -/
noncomputable def stS (xs : List AV) (pre : AHeap -> Prop) (r : Name -> AV) (post : Name -> AHeap -> AHeap) : Spec := fun args nm H => by
  classical exact if args = xs /\ pre H then some (r nm, post nm H) else none
theorem stS_ok {f : FuncId} (hg : isGo P f = true) {xs : List AV} {pre : AHeap -> Prop} {r : Name -> AV} {post : Name -> AHeap -> AHeap} (h : ∀ nm H, pre H -> Sim P f xs nm H (r nm) (post nm H)) : FnOK P f (stS xs pre r post) := by
  refine ⟨hg, fun args nm H r' H' hs => ?_⟩
  unfold stS at hs
  split at hs
  · rename_i hc
    obtain ⟨rfl, hL⟩ := hc
    cases hs
    exact h nm H hL
  · cases hs
theorem stS_at {xs : List AV} {pre : AHeap -> Prop} {r : Name -> AV} {post : Name -> AHeap -> AHeap} {nm : Name} {H : AHeap} (h : pre H) : stS xs pre r post xs nm H = some (r nm, post nm H) := by
  unfold stS; rw [if_pos ⟨rfl, h⟩]
/-! ### a region, operation by operation -/
section
variable {call : CallF} {ops : Array Oper} {p : Name} {c i n : Nat} {r : List Nat} {T : Temps} {H H' : AHeap} {v : AV} {o : Oper} {K : Nat -> Temps -> AHeap -> Prop}
theorem run_ex {d : Option Nat} (ho : ops[i]? = some o) (hd : o.dst = d) (hw : awanted ops o T = true) (h : ∃ x, aop P call o (env T) ((c + i) :: p) H = some x /\ Ran K n (runList P call ops p c r (tput T d x.1) x.2)) : Ran K n (runList P call ops p c (i :: r) T H) := by
  obtain ⟨⟨v, H'⟩, h, k⟩ := h
  subst hd
  simp only [runList, ho, hw, if_true, h]
  exact k
theorem run_skip {d : Option Nat} (ho : ops[i]? = some o) (hd : o.dst = d) (hw : awanted ops o T = false) (k : Ran K n (runList P call ops p c r (tput T d (.val undef)) H)) : Ran K n (runList P call ops p c (i :: r) T H) := by
  subst hd
  simp only [runList, ho, hw, Bool.false_eq_true, if_false]
  exact k
theorem run_end (k : K n T H) : Ran K n (runList P call ops p c [] T H) := k
theorem planW_go {ops' : Array Oper} {K : Nat -> Temps -> AHeap -> Prop} {x : Item} {r : List Item} {k : Nat} {Hs : List (Nat × AHeap)} {o : Oper} {d : Option Nat} (ho : ops'[x.i]? = some o) (hd : o.dst = d) (hw : awanted ops' o T = true)
    (h : ∃ y : AV × AHeap, aop P call o (env T) ((c + x.i) :: p) H = some y /\ chkW P call o (env T) ((c + x.i) :: p) y.1 Hs x.chk /\ planW P call ops' p c K (k + 1) r (tput T d y.1) (bif x.e then (k + 1, y.2) :: Hs else Hs) y.2) :
    planW P call ops' p c K k (x :: r) T Hs H := by
  obtain ⟨⟨v, H'⟩, h1, h2, h3⟩ := h
  subst hd
  simp only [planW, ho, hw, if_true, h1]
  exact ⟨h2, h3⟩
theorem planW_skip {ops' : Array Oper} {K : Nat -> Temps -> AHeap -> Prop} {x : Item} {r : List Item} {k : Nat} {Hs : List (Nat × AHeap)} {o : Oper} {d : Option Nat} (ho : ops'[x.i]? = some o) (hd : o.dst = d) (hw : awanted ops' o T = false)
    (h : planW P call ops' p c K (k + 1) r (tput T d (.val undef)) (bif x.e then (k + 1, H) :: Hs else Hs) H) :
    planW P call ops' p c K k (x :: r) T Hs H := by
  subst hd
  simp only [planW, ho, hw, Bool.false_eq_true, if_false]
  exact h
end
end Go.Proofs.YtjinjfblilacaaaGreat.Den
end
section
set_option linter.unusedSimpArgs false
set_option linter.unusedVariables false
set_option maxRecDepth 100000
namespace Go.Proofs.YtjinjfblilacaaaGreat.Den
open Go.RowKit FI
attribute [local simp] runList aop abuiltin acall awanted ayielded env T0 tput tset Ran aload astore setMany upd binV aslice aindexAddr apart aindex alen acopy srcCells natOf boundOf aeq AV.nilEq convV appK fillA List.range List.range.loop onF isU8 rowOf
/-! ### disk -/
theorem alb_sl (n : Name) (o l z : Nat) : alen Tryz.prog 60 (.sl n o l z) = some (vi (l : Nat)) := by rfl
theorem dcount_sim {d : Name} {x y z : AV} {a b : Nat} (hb : b < 2 ^ 53) (nm : Name) (H : AHeap) (hd : H d = some [x, cx a b, y, z]) : Sim Tryz.prog 89 [.ptr d 0] nm H (vi b) H := by
  have hcall := @noCall_ok Tryz.prog
  have hi := int_F b hb
  refine sim_go Tryz.func89 rfl rfl (Nat.le_of_ble_eq_true rfl) fun hH => ?_
  (repeat refine AWP.seq ?_)
  refine AWP.region_last hcall rfl fun K hK => ?_
  simp
  apply hK; clear hK K; simp only [onNormal, onExit]
  (repeat refine AWP.seq ?_)
  refine AWP.region_last hcall rfl fun K hK => ?_
  simp [hd, hi]
  apply hK; clear hK K; simp only [onNormal, onExit]
  (try refine AWP.ret ?_); (try simp only [onNormal, onExit]); refine ⟨by simp, ⟨_, rfl, by simp [ares1]⟩, fun k row hk => ?_⟩
  exact hk
theorem dstep_sim {d : Name} {x c : AV} (nm : Name) (H : AHeap) (hd : H d = some [x, c, vi 0, vb false]) : Sim Tryz.prog 283 [.ptr d 0] nm H (vb false) H := by
  have hcall := @noCall_ok Tryz.prog
  refine sim_go Tryz.func283 rfl rfl (Nat.le_of_ble_eq_true rfl) fun hH => ?_
  (repeat refine AWP.seq ?_)
  refine AWP.region_last hcall rfl fun K hK => ?_
  simp
  apply hK; clear hK K; simp only [onNormal, onExit]
  (repeat refine AWP.seq ?_)
  refine AWP.region_last hcall rfl fun K hK => ?_
  simp [hd]
  apply hK; clear hK K; simp only [onNormal, onExit]
  (repeat refine AWP.seq ?_); refine AWP.cond (b := false) (by simp) ?_; simp only [if_true, if_false, Bool.false_eq_true]
  refine AWP.skip ?_; simp only [onNormal, onExit]
  (repeat refine AWP.seq ?_)
  refine AWP.region_last hcall rfl fun K hK => ?_
  simp [hd]
  apply hK; clear hK K; simp only [onNormal, onExit]
  (try refine AWP.ret ?_); (try simp only [onNormal, onExit]); refine ⟨by simp, ⟨_, rfl, by simp [ares1]⟩, fun k row hk => ?_⟩
  exact hk
theorem dcount_fn {d : Name} {x y z : AV} {a b : Nat} (hb : b < 2 ^ 53) : FnOK Tryz.prog 89 (stS [.ptr d 0] (fun H => H d = some [x, cx a b, y, z]) (fun _ => vi b) (fun _ H => H)) :=
  stS_ok (by kernel_rfl) fun nm H h => dcount_sim hb nm H h
theorem dstep_fn {d : Name} {x : AV} : FnOK Tryz.prog 283 (stS [.ptr d 0] (fun H => ∃ c, H d = some [x, c, vi 0, vb false]) (fun _ => vb false) (fun _ H => H)) :=
  stS_ok (by kernel_rfl) fun nm H ⟨c, h⟩ => dstep_sim nm H h
/-- What the disk is behind bytes more. -/
def dPut (d b : Name) (row cells : List AV) (N s c k : Nat) (H : AHeap) : AHeap := upd (upd H b (some (setMany row c cells))) d (some [.sl b 0 N 1, cx s (c + k), vi 0, vb false])
set_option maxHeartbeats 1000000 in
theorem dappend_sim {d b : Name} {row cells : List AV} {src : AV} {N s c k : Nat} (nm : Name) (H : AHeap) (hd : H d = some [.sl b 0 N 1, cx s c, vi 0, vb false]) (hb : H b = some row) (hN : row.length = N) (hN2 : N <= 65536) (hs : s < 2 ^ 53)
    (hsrc : srcCells H 1 src = some (k, cells)) (hk1 : cells.all AV.one = true) (hk2 : cells.length = k) (hlen : alen Tryz.prog 60 src = some (vi k)) (hfit : c + k <= N) (hk0 : 0 < k) (hdb : d ≠ b) (hds : ∀ m off len s, src = .sl m off len s -> m ≠ d /\ m ≠ b) :
    Sim Tryz.prog 170 [.ptr d 0, src] nm H (vi 0) (dPut d b row cells N s c k H) := by
  have hsz1 : ¬ ((N : Int) - (c : Int) < (k : Int)) := by omega
  have hsz2 : IntKind.i64.wrap ((N : Int) - (c : Int)) = (N : Int) - (c : Int) := by rw [IntKind.wrap_i64]; omega
  have hcall := onF_ok (dcount_fn (d := d) (x := .sl b 0 N 1) (y := vi 0) (z := vb false) (a := s) (b := c) (by omega)) (onF_ok (dstep_fn (d := d) (x := .sl b 0 N 1)) (@noCall_ok Tryz.prog))
  have hct : ∀ nm', stS [.ptr d 0] (fun H => H d = some [.sl b 0 N 1, cx s c, vi 0, vb false]) (fun _ => vi c) (fun _ H => H) [.ptr d 0] nm' H = some (vi c, H) := fun nm' => stS_at hd
  refine sim_go Tryz.func170 rfl rfl (Nat.le_of_ble_eq_true rfl) fun hH => ?_
  (repeat refine AWP.seq ?_)
  refine AWP.region_last hcall rfl fun K hK => ?_
  simp
  apply hK; clear hK K; simp only [onNormal, onExit]
  (repeat refine AWP.seq ?_); refine AWP.block ?_
  (repeat refine AWP.seq ?_)
  refine AWP.region_last hcall rfl fun K hK => ?_
  simp [hd]
  apply hK; clear hK K; simp only [onNormal, onExit]
  (repeat refine AWP.seq ?_); refine AWP.cond (b := false) (by simp) ?_; simp only [if_true, if_false, Bool.false_eq_true]
  (repeat refine AWP.seq ?_)
  refine AWP.draw_last rfl hcall [0, 1, 0, 4, 12, 28, 60, 0, 128, 508, 1023, 2047] [⟨7, false, []⟩, ⟨8, true, []⟩, ⟨0, false, []⟩, ⟨1, false, []⟩, ⟨2, false, []⟩, ⟨3, false, []⟩, ⟨4, false, []⟩, ⟨5, false, [0, 2]⟩, ⟨6, false, []⟩, ⟨9, false, []⟩, ⟨10, false, []⟩, ⟨11, false, []⟩] rfl (by kernel_rfl) fun K hK => ?_
  simp (maxDischargeDepth := 20) [planW, chkW, -alen, List.lookup, hd, hct, hlen, alb_sl, hsz1, hsz2]
  apply hK; clear hK K; simp only [onNormal, onExit]
  (repeat refine AWP.seq ?_); refine AWP.cond (b := false) (by simp [hsz1, hsz2]) ?_; simp only [if_true, if_false, Bool.false_eq_true]
  refine AWP.skip ?_; simp only [onNormal, onExit]
  have hcn : (c : Int) <= (N : Int) := by omega
  have hcn' : c <= N := by omega
  have hsl : ∀ H, aslice Tryz.prog 60 (.sl b 0 N 1) (some (vi (c : Int))) none H = some (.sl b c (N - c) 1) := fun H => by
    have h1 : ¬ c = N := by omega
    simp only [aslice, boundOf, natOf, r3und70]
    by_cases h0 : c = 0
    · subst h0; simp
    · simp [h0, h1, hcn']
  have hmin : min k (N - c) = k := by omega
  have htk : cells.take k = cells := List.take_of_length_le (by omega)
  have hone : ∀ x ∈ cells, x.one = true := by simpa using hk1
  have hfit' : c + k <= row.length := by omega
  (repeat refine AWP.seq ?_)
  refine AWP.draw_last rfl hcall [0, 1, 3, 7, 0, 16, 63, 0, 255] [⟨4, false, []⟩, ⟨5, true, []⟩, ⟨0, false, []⟩, ⟨1, false, []⟩, ⟨2, false, []⟩, ⟨3, false, [0, 2]⟩, ⟨6, false, [2]⟩, ⟨7, false, []⟩, ⟨8, true, []⟩] rfl (by kernel_rfl) fun K hK => ?_
  simp (maxDischargeDepth := 20) [planW, chkW, -srcCells, -aslice, List.lookup, hd, hct, hb, hsl, hsrc, -List.all_eq_true, hk1, hk2, hmin, htk, hfit']
  apply hK; clear hK K; simp only [onNormal, onExit]
  have hnb := near_F k
  have hca := cx_add0 (a := s) (b := c) (d := k) hs (by omega)
  have hbd : ¬ b = d := fun e => hdb e.symm
  (repeat refine AWP.seq ?_)
  refine AWP.region_last hcall rfl fun K hK => ?_
  simp [-alen, hlen, hd, hdb, hbd, hnb, hca]
  apply hK; clear hK K; simp only [onNormal, onExit]
  have hst : ∀ nm', stS [.ptr d 0] (fun H => ∃ c, H d = some [.sl b 0 N 1, c, vi 0, vb false]) (fun _ => vb false) (fun _ H => H) [.ptr d 0] nm' (dPut d b row cells N s c k H) = some (vb false, dPut d b row cells N s c k H) := fun nm' => stS_at ⟨cx s (c + k), by simp [dPut, upd]⟩
  simp only [dPut] at hst
  (repeat refine AWP.seq ?_)
  refine AWP.region_last hcall rfl fun K hK => ?_
  simp [hst]
  apply hK; clear hK K; simp only [onNormal, onExit]
  (repeat refine AWP.seq ?_); refine AWP.cond (b := false) (by simp) ?_; simp only [if_true, if_false, Bool.false_eq_true]
  refine AWP.skip ?_; simp only [onNormal, onExit]
  (repeat refine AWP.seq ?_)
  refine AWP.region_last hcall rfl fun K hK => ?_
  simp
  apply hK; clear hK K; simp only [onNormal, onExit]
  (try refine AWP.ret ?_); (try simp only [onNormal, onExit]); refine ⟨by simp, ⟨_, rfl, by simp [ares1]⟩, fun k row hk => ?_⟩
  exact hk
theorem dsync_sim {d : Name} {x : AV} {s c : Nat} (nm : Name) (H : AHeap) (hd : H d = some [x, cx s c, vi 0, vb false]) : Sim Tryz.prog 176 [.ptr d 0] nm H (vi 0) (upd H d (some [x, cx c c, vi 0, vb false])) := by
  have hcall := onF_ok (dstep_fn (d := d) (x := x)) (@noCall_ok Tryz.prog)
  have hst : ∀ nm', stS [.ptr d 0] (fun H => ∃ c, H d = some [x, c, vi 0, vb false]) (fun _ => vb false) (fun _ H => H) [.ptr d 0] nm' H = some (vb false, H) := fun nm' => stS_at ⟨_, hd⟩
  refine sim_go Tryz.func176 rfl rfl (Nat.le_of_ble_eq_true rfl) fun hH => ?_
  (repeat refine AWP.seq ?_)
  refine AWP.region_last hcall rfl fun K hK => ?_
  simp
  apply hK; clear hK K; simp only [onNormal, onExit]
  (repeat refine AWP.seq ?_)
  refine AWP.region_last hcall rfl fun K hK => ?_
  simp [hd, hst]
  apply hK; clear hK K; simp only [onNormal, onExit]
  (repeat refine AWP.seq ?_); refine AWP.cond (b := false) (by simp) ?_; simp only [if_true, if_false, Bool.false_eq_true]
  refine AWP.skip ?_; simp only [onNormal, onExit]
  (repeat refine AWP.seq ?_)
  refine AWP.draw_last rfl hcall [0, 0, 2, 6, 14, 30, 0, 64, 192, 448, 960, 2046, 4095, 8191, 16383] [⟨0, false, []⟩, ⟨1, false, []⟩, ⟨2, false, []⟩, ⟨3, false, []⟩, ⟨4, false, [0]⟩, ⟨5, false, []⟩, ⟨6, false, []⟩, ⟨7, false, []⟩, ⟨8, false, []⟩, ⟨9, false, [0]⟩, ⟨10, false, []⟩, ⟨11, false, []⟩, ⟨12, false, []⟩, ⟨13, false, []⟩, ⟨14, true, []⟩] rfl (by kernel_rfl) fun K hK => ?_
  simp [planW, chkW, hd]
  apply hK; clear hK K; simp only [onNormal, onExit]
  (repeat refine AWP.seq ?_)
  refine AWP.region_last hcall rfl fun K hK => ?_
  simp
  apply hK; clear hK K; simp only [onNormal, onExit]
  (try refine AWP.ret ?_); (try simp only [onNormal, onExit]); refine ⟨by simp, ⟨_, rfl, by simp [ares1]⟩, fun k row hk => ?_⟩
  exact hk
open Classical in
/-- Append of a row's bytes. -/
noncomputable def dappS (d b : Name) (row : List AV) (N s c : Nat) : Spec := fun args nm H =>
  match args with
  | [.ptr e 0, .sl y 0 k 1] =>
    match H y with
    | some cells => if e = d /\ H d = some [.sl b 0 N 1, cx s c, vi 0, vb false] /\ H b = some row /\ cells.all AV.one = true /\ cells.length = k /\ c + k <= N /\ 0 < k /\ y ≠ d /\ y ≠ b then some (vi 0, dPut d b row cells N s c k H) else none
    | none => none
  | _ => none
theorem dapp_ok {d b : Name} {row : List AV} {N s c : Nat} (hN : row.length = N) (hN2 : N <= 65536) (hs : s < 2 ^ 53) (hdb : d ≠ b) : FnOK Tryz.prog 170 (dappS d b row N s c) := by
  refine ⟨by kernel_rfl, fun args nm H r H' h => ?_⟩
  unfold dappS at h
  split at h
  · split at h
    · rename_i y k cells hy
      split at h
      · rename_i hc
        obtain ⟨rfl, h1, h2, h3, h4, h5, h6, h7, h8⟩ := hc
        cases h
        exact dappend_sim nm H h1 h2 hN hN2 hs (by simp [srcCells, hy, h4, List.take_of_length_le (Nat.le_of_eq h4)]) h3 h4 (alb_sl _ _ _ _) h5 h6 hdb (fun m off len s e => by cases e; exact ⟨h7, h8⟩)
      · cases h
    · cases h
  · cases h
/-! ### log -/
theorem lcount_sim {l : Name} {x z : AV} {c : Int} (nm : Name) (H : AHeap) (hl : H l = some [x, vi c, z]) : Sim Tryz.prog 174 [.ptr l 0] nm H (vi c) H := by
  have hcall := @noCall_ok Tryz.prog
  refine sim_go Tryz.func174 rfl rfl (Nat.le_of_ble_eq_true rfl) fun hH => ?_
  (repeat refine AWP.seq ?_)
  refine AWP.region_last hcall rfl fun K hK => ?_
  simp
  apply hK; clear hK K; simp only [onNormal, onExit]
  (repeat refine AWP.seq ?_)
  refine AWP.region_last hcall rfl fun K hK => ?_
  simp [hl]
  apply hK; clear hK K; simp only [onNormal, onExit]
  (try refine AWP.ret ?_); (try simp only [onNormal, onExit]); refine ⟨by simp, ⟨_, rfl, by simp [ares1]⟩, fun k row hk => ?_⟩
  exact hk
theorem lsync_sim {l d : Name} {x : AV} {s c : Nat} {n m : Int} (nm : Name) (H : AHeap) (hl : H l = some [.ptr d 0, vi n, vi m]) (hd : H d = some [x, cx s c, vi 0, vb false]) (hld : l ≠ d) : Sim Tryz.prog 74 [.ptr l 0] nm H (vi 0) (upd (upd H d (some [x, cx c c, vi 0, vb false])) l (some [.ptr d 0, vi n, vi n])) := by
  have hcall := onF_ok (stS_ok (xs := [.ptr d 0]) (pre := fun H => H d = some [x, cx s c, vi 0, vb false]) (r := fun _ => vi 0) (post := fun _ H => upd H d (some [x, cx c c, vi 0, vb false])) (by kernel_rfl) fun nm H h => dsync_sim nm H h) (@noCall_ok Tryz.prog)
  have hst : ∀ nm', stS [.ptr d 0] (fun H => H d = some [x, cx s c, vi 0, vb false]) (fun _ => vi 0) (fun _ H => upd H d (some [x, cx c c, vi 0, vb false])) [.ptr d 0] nm' H = some (vi 0, upd H d (some [x, cx c c, vi 0, vb false])) := fun nm' => stS_at hd
  refine sim_go Tryz.func74 rfl rfl (Nat.le_of_ble_eq_true rfl) fun hH => ?_
  (repeat refine AWP.seq ?_)
  refine AWP.region_last hcall rfl fun K hK => ?_
  simp
  apply hK; clear hK K; simp only [onNormal, onExit]
  (repeat refine AWP.seq ?_)
  refine AWP.region_last hcall rfl fun K hK => ?_
  simp [hl, hst]
  apply hK; clear hK K; simp only [onNormal, onExit]
  (repeat refine AWP.seq ?_)
  refine AWP.region_last hcall rfl fun K hK => ?_
  simp
  apply hK; clear hK K; simp only [onNormal, onExit]
  (repeat refine AWP.seq ?_); refine AWP.cond (b := true) (by simp) ?_; simp only [if_true, if_false, Bool.false_eq_true]
  (repeat refine AWP.seq ?_)
  refine AWP.region_last hcall rfl fun K hK => ?_
  simp [hl, hld]
  apply hK; clear hK K; simp only [onNormal, onExit]
  (repeat refine AWP.seq ?_)
  refine AWP.region_last hcall rfl fun K hK => ?_
  simp
  apply hK; clear hK K; simp only [onNormal, onExit]
  (try refine AWP.ret ?_); (try simp only [onNormal, onExit]); refine ⟨by simp, ⟨_, rfl, by simp [ares1]⟩, fun k row hk => ?_⟩
  exact hk
/-- What the log is behind a record more. -/
def lPut (l d b : Name) (row cells : List AV) (N s c : Nat) (n : Int) (z : AV) (k : Nat) (H : AHeap) : AHeap := upd (dPut d b row (bs (i8 k) ++ cells) N s c (8 + k) H) l (some [.ptr d 0, vi (n + 1), z])
set_option maxHeartbeats 1000000 in
theorem lappend_sim {l d b : Name} {row cells : List AV} {y : Name} {N s c k : Nat} {n : Int} {z : AV} (nm : Name) (H : AHeap) (hl : H l = some [.ptr d 0, vi n, z]) (hn : 0 <= n /\ n < 1000000) (hd : H d = some [.sl b 0 N 1, cx s c, vi 0, vb false]) (hb : H b = some row) (hN : row.length = N) (hN2 : N <= 65536) (hs : s < 2 ^ 53)
    (hy : H y = some cells) (hk1 : cells.all AV.one = true) (hk2 : cells.length = k) (hk3 : 0 < k /\ k <= 16384) (hfit : c + (8 + k) <= N) (hld : l ≠ d) (hdb : d ≠ b) (hlb : l ≠ b) (hyd : y ≠ d) (hyb : y ≠ b) (hyl : y ≠ l) :
    Sim Tryz.prog 68 [.ptr l 0, .sl y 0 k 1] nm H (vi 0) (lPut l d b row cells N s c n z k H) := by
  have hcall := onF_ok int_ok (onF_ok concatB_ok (onF_ok (dapp_ok (d := d) (b := b) (row := row) (N := N) (s := s) (c := c) hN hN2 hs hdb) (@noCall_ok Tryz.prog)))
  refine sim_go Tryz.func68 rfl rfl (Nat.le_of_ble_eq_true rfl) fun hH => ?_
  (repeat refine AWP.seq ?_)
  refine AWP.region_last hcall rfl fun K hK => ?_
  simp
  apply hK; clear hK K; simp only [onNormal, onExit]
  have h1 : ¬ ((16384 : Int) < (k : Int)) := by omega
  (repeat refine AWP.seq ?_)
  refine AWP.region_last hcall rfl fun K hK => ?_
  simp [h1]
  apply hK; clear hK K; simp only [onNormal, onExit]
  (repeat refine AWP.seq ?_); refine AWP.cond (b := false) (by simp [h1]) ?_; simp only [if_true, if_false, Bool.false_eq_true]
  refine AWP.skip ?_; simp only [onNormal, onExit]
  (repeat refine AWP.seq ?_)
  refine AWP.region_last hcall rfl fun K hK => ?_
  simp [hl]
  apply hK; clear hK K; simp only [onNormal, onExit]
  have hr : ∀ x, H (x :: nm) = none := fun x => hH [x]
  have hn1 : ∀ x, ¬ y = x :: nm := fun x e => by rw [e, hr] at hy; cases hy
  have hn2 : ∀ x, ¬ d = x :: nm := fun x e => by rw [e, hr] at hd; cases hd
  have hn3 : ∀ x, ¬ b = x :: nm := fun x e => by rw [e, hr] at hb; cases hb
  have hn4 : ∀ x, ¬ l = x :: nm := fun x e => by rw [e, hr] at hl; cases hl
  have hint : ∀ nm', intS [vnil, vi (k : Int)] nm' H = some (.sl nm' 0 8 1, upd H nm' (some (bs (i8 k)))) := fun nm' => by simp [intS, fullC]
  have hi8 : (bs (i8 (k : Int))).length = 8 := by rw [bs_length]; exact i8p_length _ _
  have hi8o : (bs (i8 (k : Int))).all AV.one = true := bs_one _
  have hall : (bs (i8 (k : Int)) ++ cells).all AV.one = true := by rw [List.all_append, hi8o, hk1]; rfl
  have hcon : concatS 1 1 [.sl (15 :: nm) 0 2 1] (16 :: nm) (upd (upd H (13 :: nm) (some (bs (i8 (k : Int))))) (15 :: nm) (some [.sl (13 :: nm) 0 8 1, .sl y 0 k 1])) = some (.sl (16 :: nm) 0 (8 + k) 1, upd (upd (upd H (13 :: nm) (some (bs (i8 (k : Int))))) (15 :: nm) (some [.sl (13 :: nm) 0 8 1, .sl y 0 k 1])) (16 :: nm) (some (bs (i8 (k : Int)) ++ cells))) := by
    have ht1 : (bs (i8 (k : Int))).take 8 = bs (i8 (k : Int)) := List.take_of_length_le (by omega)
    have ht2 : cells.take k = cells := List.take_of_length_le (by omega)
    have h0 : 0 < k := hk3.1
    have h9 : 8 + k <= 140737488355328 := by omega
    have h8 : ¬ (8 + k = 0) := by omega
    simp [-List.all_eq_true, concatS, elems, partsC, partC, hn1, hy, hi8, hk2, ht1, ht2, h0, h9, h8, hall, bs_one, hk1]
  have hdp : dappS d b row N s c [.ptr d 0, .sl (16 :: nm) 0 (8 + k) 1] (17 :: nm) (upd (upd (upd H (13 :: nm) (some (bs (i8 (k : Int))))) (15 :: nm) (some [.sl (13 :: nm) 0 8 1, .sl y 0 k 1])) (16 :: nm) (some (bs (i8 (k : Int)) ++ cells))) = some (vi 0, dPut d b row (bs (i8 (k : Int)) ++ cells) N s c (8 + k) (upd (upd (upd H (13 :: nm) (some (bs (i8 (k : Int))))) (15 :: nm) (some [.sl (13 :: nm) 0 8 1, .sl y 0 k 1])) (16 :: nm) (some (bs (i8 (k : Int)) ++ cells)))) := by
    have e1 : ¬ 16 :: nm = d := fun e => hn2 16 e.symm
    have e2 : ¬ 16 :: nm = b := fun e => hn3 16 e.symm
    have h0 : 0 < 8 + k := by omega
    simp [-List.all_eq_true, dappS, hn2, hn3, hd, hb, hall, hi8, hk2, hfit, h0, e1, e2]
  (repeat refine AWP.seq ?_)
  refine AWP.region_last hcall rfl fun K hK => ?_
  simp [hint, hcon, hdp]
  apply hK; clear hK K; simp only [onNormal, onExit]
  (repeat refine AWP.seq ?_)
  refine AWP.region_last hcall rfl fun K hK => ?_
  simp
  apply hK; clear hK K; simp only [onNormal, onExit]
  (repeat refine AWP.seq ?_); refine AWP.cond (b := true) (by simp) ?_; simp only [if_true, if_false, Bool.false_eq_true]
  have hwn : IntKind.i64.wrap (n + 1) = n + 1 := by rw [IntKind.wrap_i64]; omega
  (repeat refine AWP.seq ?_)
  refine AWP.region_last hcall rfl fun K hK => ?_
  simp [dPut, hn4, hld, hlb, hl, hwn]
  apply hK; clear hK K; simp only [onNormal, onExit]
  (repeat refine AWP.seq ?_)
  refine AWP.region_last hcall rfl fun K hK => ?_
  simp
  apply hK; clear hK K; simp only [onNormal, onExit]
  (try refine AWP.ret ?_); (try simp only [onNormal, onExit]); refine ⟨by simp, ⟨_, rfl, by simp [ares1]⟩, fun k row hk => ?_⟩
  simp only [lPut, dPut] at hk
  refine SubL.out ?_ k row hk; repeat (first | exact SubL.id | refine SubL.set ?_ | refine SubL.gone ?_ | (refine SubL.ex ?_ ?_; · simp; done) | refine SubL.fresh (hH [_]) ?_ | refine SubL.fresh (hH [_, _]) ?_ | (refine SubL.fresh (upd_none (hH [_]) ?_) ?_; · simp; done) | (refine SubL.fresh (upd_none (hH [_, _]) ?_) ?_; · simp; done))
end Go.Proofs.YtjinjfblilacaaaGreat.Den
end
section
set_option maxRecDepth 100000
namespace Go.Proofs.YtjinjfblilacaaaGreat.Den
open Go.RowKit
@[simp] theorem plc27 : places Tryz.prog [{ name := "D", type := 3, offset := 0, embedded := false, tag := "", pkgPath := "", byteOffset := 0 }, { name := "U", type := 3, offset := 1, embedded := false, tag := "", pkgPath := "", byteOffset := 8 }] = some [(0, 1), (1, 1)] := by kernel_rfl
@[simp] theorem plc30 : places Tryz.prog [{ name := "Host", type := 3, offset := 0, embedded := false, tag := "", pkgPath := "", byteOffset := 0 }, { name := "N", type := 3, offset := 1, embedded := false, tag := "", pkgPath := "", byteOffset := 8 }] = some [(0, 1), (1, 1)] := by kernel_rfl
@[simp] theorem plc50 : places Tryz.prog [{ name := "Id", type := 31, offset := 0, embedded := false, tag := "", pkgPath := "", byteOffset := 0 }, { name := "Doc", type := 9, offset := 2, embedded := false, tag := "", pkgPath := "", byteOffset := 16 }, { name := "People", type := 47, offset := 3, embedded := false, tag := "", pkgPath := "", byteOffset := 32 }, { name := "Version", type := 3, offset := 4, embedded := false, tag := "", pkgPath := "", byteOffset := 56 }, { name := "Hash", type := 49, offset := 5, embedded := false, tag := "", pkgPath := "", byteOffset := 64 }] = some [(0, 2), (2, 1), (3, 1), (4, 1), (5, 32)] := by kernel_rfl
@[simp] theorem plc156 : places Tryz.prog [{ name := "States", type := 155, offset := 0, embedded := false, tag := "", pkgPath := "", byteOffset := 0 }, { name := "Log", type := 82, offset := 1, embedded := false, tag := "", pkgPath := "", byteOffset := 24 }] = some [(0, 1), (1, 1)] := by kernel_rfl
@[simp] theorem plc158 : places Tryz.prog [{ name := "Due", type := 3, offset := 0, embedded := false, tag := "", pkgPath := "", byteOffset := 0 }, { name := "Wait", type := 3, offset := 1, embedded := false, tag := "", pkgPath := "", byteOffset := 8 }] = some [(0, 1), (1, 1)] := by kernel_rfl
@[simp] theorem plc163 : places Tryz.prog [{ name := "id", type := 31, offset := 0, embedded := false, tag := "", pkgPath := "comitia/server", byteOffset := 0 }, { name := "creator", type := 28, offset := 2, embedded := false, tag := "", pkgPath := "comitia/server", byteOffset := 16 }, { name := "hosted", type := 4, offset := 4, embedded := false, tag := "", pkgPath := "comitia/server", byteOffset := 32 }, { name := "h", type := 157, offset := 5, embedded := false, tag := "", pkgPath := "comitia/server", byteOffset := 40 }, { name := "peers", type := 162, offset := 7, embedded := false, tag := "", pkgPath := "comitia/server", byteOffset := 88 }, { name := "r", type := 154, offset := 16, embedded := false, tag := "", pkgPath := "comitia/server", byteOffset := 160 }, { name := "asking", type := 4, offset := 55, embedded := false, tag := "", pkgPath := "comitia/server", byteOffset := 304 }, { name := "timer", type := 159, offset := 56, embedded := false, tag := "", pkgPath := "comitia/server", byteOffset := 312 }, { name := "records", type := 22, offset := 58, embedded := false, tag := "", pkgPath := "comitia/server", byteOffset := 328 }] = some [(0, 2), (2, 2), (4, 1), (5, 2), (7, 9), (16, 39), (55, 1), (56, 2), (58, 1)] := by kernel_rfl
end Go.Proofs.YtjinjfblilacaaaGreat.Den
end
section
set_option linter.unusedSimpArgs false
set_option linter.unusedVariables false
set_option maxRecDepth 100000
namespace Go.Proofs.YtjinjfblilacaaaGreat.Den
open Go.RowKit FI
attribute [local simp] runList aop abuiltin acall awanted ayielded env T0 tput tset Ran aload astore setMany upd binV aslice aindexAddr apart aindex alen acopy srcCells natOf boundOf aeq AV.nilEq convV appK fillA List.range List.range.loop onF isU8 rowOf
abbrev vs0 : AV := .val (.string .empty)
/-- A state's cells. -/
def stateA (a b : Int) (doc people : AV) (v : Int) (h : List UInt8) : List AV := [vi a, vi b, doc, people, vi v] ++ bs h
def hash0 (a b c d : Int) : List UInt8 := shaSum (i8 a ++ i8 b ++ i8 c ++ i8 d)
def state0 (a b c d : Int) : List AV := stateA a b vs0 (.im true 1 [vi c, vi d]) 0 (hash0 a b c d)
/-- What bytes there are. -/
def BAt (H : AHeap) (v : AV) (l : List UInt8) : Prop := (v = vnil /\ l = []) \/ ∃ n, v = .sl n 0 l.length 1 /\ H n = some (bs l) /\ 0 < l.length
theorem i8_len (n : Int) : (i8 n).length = 8 := i8p_length n 8
theorem BAt.full {H : AHeap} {v : AV} {l : List UInt8} (h : BAt H v l) : fullC H v = some (l.length, bs l) := by
  rcases h with ⟨rfl, rfl⟩ | ⟨n, rfl, h1, h2⟩
  · rfl
  · have h3 : (bs l).take l.length = bs l := List.take_of_length_le (Nat.le_of_eq (bs_length l))
    have h4 : 0 < (l.length : Nat) := h2
    simp [fullC, elems, h1, h2, h3, bs_length]
theorem int_at {H : AHeap} {v : AV} {l : List UInt8} (h : BAt H v l) (hl : l.length < 1000000) (x : Int) (nm : Name) : intS [v, vi x] nm H = some (.sl nm 0 (l.length + 8) 1, upd H nm (some (bs (l ++ i8 x)))) := by
  have h1 : l.length < 140737488355320 := by omega
  have h2 : (bs l).all AV.one = true := bs_one l
  simp only [intS, h.full, h1, h2, bs_append]
  simp
theorem BAt.next {H : AHeap} {n : Name} (l : List UInt8) (x : Int) : BAt (upd H n (some (bs (l ++ i8 x)))) (.sl n 0 (l.length + 8) 1) (l ++ i8 x) :=
  .inr ⟨n, by rw [List.length_append, i8_len], upd_same _ _ _, by rw [List.length_append, i8_len]; omega⟩
def hashB (a b c d : Int) : Nat -> List UInt8
  | 0 => []
  | 1 => i8 a ++ i8 b
  | _ => i8 a ++ i8 b ++ i8 c ++ i8 d
set_option maxHeartbeats 1000000 in
theorem wnew_sim {a b c d : Nat} (ha : a < 2 ^ 53) (hb : b < 2 ^ 53) (hc : c < 2 ^ 53) (hd : d < 2 ^ 53) (nm : Name) (H : AHeap) : Sim Tryz.prog 282 [.agg [vi a, vi b], .agg [vi c, vi d]] nm H (.agg (state0 a b c d)) H := by
  have hcall := onF_ok int_ok (onF_ok sum_ok (@noCall_ok Tryz.prog))
  refine sim_pure Tryz.func282 rfl rfl (Nat.le_of_ble_eq_true rfl) ?_ H
  (repeat refine AWP.seq ?_)
  refine AWP.region_last hcall rfl fun K hK => ?_
  simp
  apply hK; clear hK K; simp only [onNormal, onExit]
  (repeat refine AWP.seq ?_)
  refine AWP.region_last hcall rfl fun K hK => ?_
  simp
  apply hK; clear hK K; simp only [onNormal, onExit]
  (repeat refine AWP.seq ?_)
  refine AWP.region_last hcall rfl fun K hK => ?_
  simp [near_F]
  apply hK; clear hK K; simp only [onNormal, onExit]
  (repeat refine AWP.seq ?_); refine AWP.block ?_
  refine AWP.loop (fun m c' T H => ∃ j : Nat, j <= 2 /\ m = 2 - j /\ T 2 = .ptr (0 :: 0 :: nm) 0 /\ T 3 = .ptr (1 :: 0 :: nm) 0 /\ T 4 = .ptr (2 :: 0 :: nm) 0 /\ T 22 = .sl (18 :: 0 :: nm) 0 2 1 /\ T 23 = vi 2 /\ T 24 = vi j /\ H (0 :: 0 :: nm) = some [vi a, vi b] /\ H (1 :: 0 :: nm) = some [vi c, vi d] /\ H (2 :: 0 :: nm) = some ([vi 0, vi 0, vs0, vnil, vi 0] ++ bz 32) /\ H (18 :: 0 :: nm) = some [cx a b, cx c d] /\ BAt H (T 5) (hashB a b c d j)) 2 ⟨0, by omega, rfl, by simp, by simp, by simp, by simp, by simp, by simp, by simp [upd], by simp [upd], by simp [upd], by simp [upd], .inl ⟨by simp, rfl⟩⟩ ?_
  rintro m c' T H1 ⟨j, hj, rfl, t2, t3, t4, t22, t23, t24, h0, h1, h2, h18, hB⟩
  refine AWP.known_fresh fun hfr => ?_
  obtain ⟨v, hv⟩ : ∃ v, v = T 5 := ⟨_, rfl⟩
  rw [<- hv] at hB
  have hn : ∀ q, H1 q ≠ none -> ∀ x, c' <= x -> ¬ q = x :: 0 :: nm := fun q hq x hx e => by rw [e] at hq; exact hq (hfr x [] hx)
  by_cases hlt : j < 2
  · have hlt' : (j : Int) < 2 := by omega
    have hwj : IntKind.i64.wrap ((j : Int) + 1) = ((j + 1 : Nat) : Int) := by rw [IntKind.wrap_i64]; omega
    have hlen : (hashB a b c d j).length < 100 := by
      rcases (by omega : j = 0 \/ j = 1) with rfl | rfl <;> simp [hashB, i8_len]
    (repeat refine AWP.seq ?_)
    refine AWP.region_last hcall rfl fun K hK => ?_
    simp [t24, t23, hlt']
    apply hK; clear hK K; simp only [onNormal, onExit]
    (repeat refine AWP.seq ?_); refine AWP.cond (b := true) (by simp [hlt']) ?_; simp only [if_true, if_false, Bool.false_eq_true]
    refine AWP.skip ?_; simp only [onNormal, onExit]
    (repeat refine AWP.seq ?_); refine AWP.block ?_
    obtain ⟨x, y, hx, hy, hr, hnx⟩ : ∃ x y : Nat, x < 2 ^ 53 /\ y < 2 ^ 53 /\ [cx a b, cx c d][j]? = some (cx x y) /\ hashB a b c d (j + 1) = hashB a b c d j ++ i8 x ++ i8 y := by
      rcases (by omega : j = 0 \/ j = 1) with rfl | rfl
      · exact ⟨a, b, ha, hb, rfl, by simp [hashB]⟩
      · exact ⟨c, d, hc, hd, rfl, by simp [hashB]⟩
    obtain ⟨l, hl⟩ : ∃ l, l = hashB a b c d j := ⟨_, rfl⟩
    rw [<- hl] at hB hlen hnx
    have hi1 := fun nm' => int_at hB (by omega) (x : Int) nm'
    have hi2 : ∀ n nm', intS [.sl n 0 (l.length + 8) 1, vi (y : Int)] nm' (upd H1 n (some (bs (l ++ i8 x)))) = some (.sl nm' 0 ((l ++ i8 x).length + 8) 1, upd (upd H1 n (some (bs (l ++ i8 x)))) nm' (some (bs (l ++ i8 x ++ i8 y)))) := fun n nm' => int_at (BAt.next l x) (by rw [List.length_append, i8_len]; omega) y nm'
    have hia := int_F x hx
    have hib := int_F y hy
    have hr' : ∀ h : j < [cx a b, cx c d].length, [cx a b, cx c d][j] = cx x y := fun h => (List.getElem?_eq_some_iff.1 hr).2
    obtain ⟨R, hR⟩ : ∃ R, R = [cx a b, cx c d] := ⟨_, rfl⟩
    have hRl : R.length = 2 := by rw [hR]; rfl
    rw [<- hR] at h18 hr hr'
    have hjR : j < R.length := by omega
    (repeat refine AWP.seq ?_)
    refine AWP.region_last hcall rfl fun K hK => ?_
    simp [t22, t24, h18, hlt, hr, hr', hjR]
    apply hK; clear hK K; simp only [onNormal, onExit]
    (repeat refine AWP.seq ?_)
    refine AWP.region_last hcall rfl fun K hK => ?_
    simp [<- hv, hia, hib, hi1, hi2, -List.length_append, -List.append_assoc]
    apply hK; clear hK K; simp only [onNormal, onExit]
    (repeat refine AWP.seq ?_)
    refine AWP.region_last hcall rfl fun K hK => ?_
    simp [t24, hwj]
    apply hK; clear hK K; simp only [onNormal, onExit]
    have e0 := hn (0 :: 0 :: nm) (by rw [h0]; simp)
    have e1 := hn (1 :: 0 :: nm) (by rw [h1]; simp)
    have e2 := hn (2 :: 0 :: nm) (by rw [h2]; simp)
    have e18 := hn (18 :: 0 :: nm) (by rw [h18]; simp)
    refine ⟨2 - (j + 1), by omega, j + 1, by omega, rfl, by simp [t2], by simp [t3], by simp [t4], by simp [t22], by simp [t23], by simp, ?_, ?_, ?_, ?_, ?_⟩
    · simp only [upd]; rw [if_neg (e0 _ (by omega)), if_neg (e0 _ (by omega))]; exact h0
    · simp only [upd]; rw [if_neg (e1 _ (by omega)), if_neg (e1 _ (by omega))]; exact h1
    · simp only [upd]; rw [if_neg (e2 _ (by omega)), if_neg (e2 _ (by omega))]; exact h2
    · simp only [upd]; rw [if_neg (e18 _ (by omega)), if_neg (e18 _ (by omega)), h18, hR]
    · rw [hnx]
      have := BAt.next (H := upd H1 ((c' + 1 + 3 + 4) :: 0 :: nm) (some (bs (l ++ i8 x)))) (n := (c' + 1 + 3 + 8) :: 0 :: nm) (l ++ i8 x) y
      simpa using this
  · obtain rfl : j = 2 := by omega
    (repeat refine AWP.seq ?_)
    refine AWP.region_last hcall rfl fun K hK => ?_
    simp [t24, t23]
    apply hK; clear hK K; simp only [onNormal, onExit]
    (repeat refine AWP.seq ?_); refine AWP.cond (b := false) (by simp) ?_; simp only [if_true, if_false, Bool.false_eq_true]
    refine AWP.exit ?_; simp only [onNormal, onExit, if_true, reduceCtorEq, if_false]
    have hl32 : (hashB (a : Int) b c d 2).length = 32 := by simp [hashB, i8_len]
    obtain ⟨n, rfl, hn5, _⟩ : ∃ n, v = .sl n 0 32 1 /\ H1 n = some (bs (hashB a b c d 2)) /\ True := by
      rcases hB with ⟨_, h⟩ | ⟨n, h, h', _⟩
      · rw [h] at hl32; cases hl32
      · exact ⟨n, by rw [h, hl32], h', trivial⟩
    have e5 := hn n (by rw [hn5]; simp)
    have hsm : ∀ nm' q, c' <= q -> sumS [.sl (q :: 0 :: nm) 0 1 1] nm' (upd H1 (q :: 0 :: nm) (some [.sl n 0 32 1])) = some (.agg (bs (hash0 a b c d)), upd H1 (q :: 0 :: nm) (some [.sl n 0 32 1])) := fun nm' q hq => by
      have ht : (bs (hashB (a : Int) b c d 2)).take 32 = bs (hashB a b c d 2) := List.take_of_length_le (by rw [bs_length, hl32]; exact Nat.le_refl _)
      have hl' : (bs (hashB (a : Int) b c d 2)).length = 32 := by rw [bs_length, hl32]
      have hh : hash0 (a : Int) b c d = shaSum (hashB a b c d 2) := rfl
      simp [sumS, elems, partsC, partC, e5 q hq, hn5, hl', ht, bytesA_bs, hh]
    have hs1 := fun nm' => hsm nm' (c' + 1 + 4) (by omega)
    have hhl : (bs (hash0 (a : Int) b c d)).length = 32 := by rw [bs_length]; rfl
    have hh0 : (hash0 (a : Int) b c d).length = 32 := rfl
    have hbz : (bz 32).length = 32 := by simp [bz]
    have hmw : ∀ x1 x2 x3 x4 x5 y1 y2 y3 y4 y5, setMany (x1 :: x2 :: x3 :: x4 :: x5 :: bz 32) 0 (y1 :: y2 :: y3 :: y4 :: y5 :: bs (hash0 (a : Int) b c d)) = y1 :: y2 :: y3 :: y4 :: y5 :: bs (hash0 a b c d) := fun x1 x2 x3 x4 x5 y1 y2 y3 y4 y5 => setMany_full (by simp [hbz, hh0])
    have hfix : ∀ x1 x2 x3 x4 x5, setMany (x1 :: x2 :: x3 :: x4 :: x5 :: bz 32) 5 (bs (hash0 (a : Int) b c d)) = x1 :: x2 :: x3 :: x4 :: x5 :: bs (hash0 a b c d) := fun x1 x2 x3 x4 x5 => setMany_append _ [x1, x2, x3, x4, x5] _ (by rw [hhl]; simp [bz])
    have hc18 : 18 < c' := by
      apply Nat.lt_of_not_le
      intro h
      have := hfr 18 [] h
      rw [List.nil_append, h18] at this
      cases this
    (repeat refine AWP.seq ?_)
    refine AWP.draw_ops rfl hcall [0, 0, 2, 0, 8, 24, 63, 127] [⟨3, false, []⟩, ⟨4, false, []⟩, ⟨5, true, []⟩, ⟨0, false, [0, 3]⟩, ⟨1, false, [0, 3]⟩, ⟨2, false, []⟩, ⟨6, false, []⟩, ⟨7, true, []⟩] rfl (by kernel_rfl) fun ops' hops K hK => ?_
    have o_0 := op_at hops 0 rfl
    have o_1 := op_at hops 1 rfl
    have o_2 := op_at hops 2 rfl
    have o_3 := op_at hops 3 rfl
    have o_4 := op_at hops 4 rfl
    have o_5 := op_at hops 5 rfl
    have o_6 := op_at hops 6 rfl
    have o_7 := op_at hops 7 rfl
    have o_sz : ops'.size = 8 := op_sz hops rfl
    clear hops
    refine planW_ex (d := (some 41)) o_3 rfl rfl ⟨_, by simp [List.lookup, t2, t3, t4, h0, h1, h2, <- hv, hs1, hfix, e5, hbz, hh0, hmw, -List.all_eq_true, bs_one]; try rfl, trivial, ?_⟩
    clear o_3
    refine planW_ex (d := (some 42)) o_4 rfl rfl ⟨_, by simp [List.lookup, t2, t3, t4, h0, h1, h2, <- hv, hs1, hfix, e5, hbz, hh0, hmw, -List.all_eq_true, bs_one]; try rfl, trivial, ?_⟩
    clear o_4
    refine planW_ex (d := (some 43)) o_5 rfl rfl ⟨_, by simp [List.lookup, t2, t3, t4, h0, h1, h2, <- hv, hs1, hfix, e5, hbz, hh0, hmw, -List.all_eq_true, bs_one]; try rfl, trivial, ?_⟩
    clear o_5
    refine planW_ex (d := (some 38)) o_0 rfl rfl ⟨_, by simp [List.lookup, t2, t3, t4, h0, h1, h2, <- hv, hs1, hfix, e5, hbz, hh0, hmw, -List.all_eq_true, bs_one]; try rfl, by simp [chkW, List.lookup, List.lookup, t2, t3, t4, h0, h1, h2, <- hv, hs1, hfix, e5, hbz, hh0, hmw, -List.all_eq_true, bs_one], ?_⟩
    clear o_0
    refine planW_ex (d := (some 39)) o_1 rfl rfl ⟨_, by simp [List.lookup, t2, t3, t4, h0, h1, h2, <- hv, hs1, hfix, e5, hbz, hh0, hmw, -List.all_eq_true, bs_one]; try rfl, by simp [chkW, List.lookup, List.lookup, t2, t3, t4, h0, h1, h2, <- hv, hs1, hfix, e5, hbz, hh0, hmw, -List.all_eq_true, bs_one], ?_⟩
    clear o_1
    refine planW_ex (d := (some 40)) o_2 rfl rfl ⟨_, by simp [List.lookup, t2, t3, t4, h0, h1, h2, <- hv, hs1, hfix, e5, hbz, hh0, hmw, -List.all_eq_true, bs_one]; try rfl, trivial, ?_⟩
    clear o_2
    refine planW_ex (d := (some 44)) o_6 rfl rfl ⟨_, by simp [List.lookup, t2, t3, t4, h0, h1, h2, <- hv, hs1, hfix, e5, hbz, hh0, hmw, -List.all_eq_true, bs_one]; try rfl, trivial, ?_⟩
    clear o_6
    refine planW_ex (d := none) o_7 rfl rfl ⟨_, by simp [List.lookup, t2, t3, t4, h0, h1, h2, <- hv, hs1, hfix, e5, hbz, hh0, hmw, -List.all_eq_true, bs_one]; try rfl, trivial, ?_⟩
    clear o_7
    refine planW_end o_sz ?_
    apply hK; clear hK K o_sz; simp only [onNormal, onExit, tput]
    (try refine AWP.ret ?_); (try simp only [onNormal, onExit])
    have htk : (bs (hash0 (a : Int) b c d)).take 32 = bs (hash0 a b c d) := List.take_of_length_le (by omega)
    refine ⟨by simp, [_], by simp [ares, Tryz.results282, t4, hh0, htk]; rfl, ?_⟩
    refine .agg (.cons (.refl _) (.cons (.refl _) (.cons (.refl _) (.cons (.whole (row := [vi c, vi d]) trivial (by simp [upd]) rfl (Ots.refl _)) (.cons (.refl _) (Ots.refl _))))))
theorem reset_sim {n : Int} (nm : Name) (H : AHeap) : Sim Tryz.prog 103 [vi n] nm H (.agg [vi n, vi 1]) H := by
  have hcall := @noCall_ok Tryz.prog
  refine sim_pure Tryz.func103 rfl rfl (Nat.le_of_ble_eq_true rfl) ?_ H
  (repeat refine AWP.seq ?_)
  refine AWP.region_last hcall rfl fun K hK => ?_
  simp
  apply hK; clear hK K; simp only [onNormal, onExit]
  (repeat refine AWP.seq ?_)
  refine AWP.region_last hcall rfl fun K hK => ?_
  simp
  apply hK; clear hK K; simp only [onNormal, onExit]
  (try refine AWP.ret ?_); (try simp only [onNormal, onExit])
  exact ⟨by simp, [_], by simp [ares, Tryz.results103], .refl _⟩
theorem hnew_sim {a b c d : Nat} (ha : a < 2 ^ 53) (hb : b < 2 ^ 53) (hc : c < 2 ^ 53) (hd : d < 2 ^ 53) (nm : Name) (H : AHeap) : Sim Tryz.prog 168 [.agg [vi a, vi b], .agg [vi c, vi d]] nm H (.agg [.im true 1 (state0 a b c d), vnil]) H := by
  have hcall := onF_ok (atS_ok (f := 282) (l := [([.agg [vi (a : Int), vi b], .agg [vi (c : Int), vi d]], .agg (state0 a b c d))]) (by kernel_rfl) fun p hp nm H => by
    cases List.mem_singleton.1 hp
    exact wnew_sim ha hb hc hd nm H) (@noCall_ok Tryz.prog)
  have hl : (state0 (a : Int) b c d).length = 37 := by simp [state0, stateA, bs_length]; rfl
  have hmw : ∀ row : List AV, row.length = 37 -> setMany row 0 (state0 (a : Int) b c d) = state0 a b c d := fun row h => setMany_full (by rw [h, hl])
  refine sim_pure Tryz.func168 rfl rfl (Nat.le_of_ble_eq_true rfl) ?_ H
  (repeat refine AWP.seq ?_)
  refine AWP.region_last hcall rfl fun K hK => ?_
  simp
  apply hK; clear hK K; simp only [onNormal, onExit]
  have hat := fun nm' H' => atS_at (xs := [.agg [vi (a : Int), vi b], .agg [vi (c : Int), vi d]]) (r := .agg (state0 a b c d)) (l := []) nm' H'
  have hbz : (bz 32).length = 32 := by simp [bz]
  (repeat refine AWP.seq ?_)
  refine AWP.region_last hcall rfl fun K hK => ?_
  simp [hat, hl, hmw, hbz]
  apply hK; clear hK K; simp only [onNormal, onExit]
  (try refine AWP.ret ?_); (try simp only [onNormal, onExit])
  refine ⟨by simp, [_], by simp [ares, Tryz.results168]; rfl, ?_⟩
  refine .agg (.cons (.whole (row := state0 a b c d) trivial (by simp [upd]) (by rw [hl]) (Ots.refl _)) (.cons (.refl _) .nil))
/-- A wave's cells while they are made. -/
def waveP (a b c d p q r : Int) : List AV := [vi a, vi b, vi c, vi d, vb true, .im true 1 (state0 a b c d), vnil, vi 0, vi 0, vi p, vi 0, vi 0, vi q, vi 0, vi 0, vi r, vi 0, vi 0, vs0, vnil, vi 0] ++ (bz 32 ++ [vnil, vnil, vb false, vi 0, vi 1, vnil])
def w01 (j k : Nat) : Int := if k < j then 1 else 0
/-- A wave's cells, at its beginning: hosted. -/
def waveA (a b c d : Int) (recs : AV) : List AV := [vi a, vi b, vi c, vi d, vb true, .im true 1 (state0 a b c d), vnil, vi 0, vi 0, vi 1, vi 0, vi 0, vi 1, vi 0, vi 0, vi 1, vi 0, vi 0, vs0, vnil, vi 0] ++ (bz 32 ++ [vnil, vnil, vb false, vi 0, vi 1, recs])
def freshN (nm : Name) : Name := 14 :: nm
set_option maxHeartbeats 1000000 in
theorem fresh_sim {s : Name} {srow : List AV} {a b c d : Nat} (ha : a < 2 ^ 53) (hb : b < 2 ^ 53) (hc : c < 2 ^ 53) (hd : d < 2 ^ 53) (nm : Name) (H : AHeap) (hs : H s = some srow) (hs0 : srow[0]? = some (vi a)) :
    Sim Tryz.prog 67 [.ptr s 0, .agg [vi a, vi b], .agg [vi c, vi d]] nm H (.ptr (freshN nm) 0) (upd H (freshN nm) (some (waveA a b c d vnil))) := by
  have hcall := onF_ok (atS_ok (f := 103) (l := [([vi 0], .agg [vi 0, vi 1])]) (by kernel_rfl) fun p hp nm H => by
    cases List.mem_singleton.1 hp
    exact reset_sim nm H) (onF_ok (atS_ok (f := 168) (l := [([.agg [vi (a : Int), vi b], .agg [vi (c : Int), vi d]], .agg [.im true 1 (state0 a b c d), vnil])]) (by kernel_rfl) fun p hp nm H => by
    cases List.mem_singleton.1 hp
    exact hnew_sim ha hb hc hd nm H) (@noCall_ok Tryz.prog))
  have hre := fun nm' H' => atS_at (xs := [vi 0]) (r := .agg [vi 0, vi 1]) (l := []) nm' H'
  have hho := fun nm' H' => atS_at (xs := [.agg [vi (a : Int), vi b], .agg [vi (c : Int), vi d]]) (r := .agg [.im true 1 (state0 a b c d), vnil]) (l := []) nm' H'
  have hs0' : ∀ h : 0 < srow.length, srow[0] = vi a := fun h => (List.getElem?_eq_some_iff.1 hs0).2
  have hsl : 0 < srow.length := (List.getElem?_eq_some_iff.1 hs0).1
  refine sim_go Tryz.func67 rfl rfl (Nat.le_of_ble_eq_true rfl) fun hH => ?_
  (repeat refine AWP.seq ?_)
  refine AWP.region_last hcall rfl fun K hK => ?_
  simp
  apply hK; clear hK K; simp only [onNormal, onExit]
  have hbz : (bz 32).length = 32 := by simp [bz]
  have hsn : ∀ x, ¬ s = x :: nm := fun x e => by have := hH [x]; rw [List.singleton_append, <- e, hs] at this; cases this
  have hsn' : ∀ x, ¬ x :: nm = s := fun x e => hsn x e.symm
  (repeat refine AWP.seq ?_)
  refine AWP.draw_ops rfl hcall [0, 0, 0, 4, 0, 16, 48, 112, 252, 0, 1023, 2047, 4095] [⟨9, true, []⟩, ⟨0, false, [0, 1]⟩, ⟨1, false, [0, 1]⟩, ⟨2, false, []⟩, ⟨3, false, [0, 1]⟩, ⟨4, false, []⟩, ⟨5, false, []⟩, ⟨6, false, []⟩, ⟨7, false, [0, 1]⟩, ⟨8, false, []⟩, ⟨10, false, []⟩, ⟨11, false, []⟩, ⟨12, false, []⟩] rfl (by kernel_rfl) fun ops' hops K hK => ?_
  have o_0 := op_at hops 0 rfl
  have o_1 := op_at hops 1 rfl
  have o_2 := op_at hops 2 rfl
  have o_3 := op_at hops 3 rfl
  have o_4 := op_at hops 4 rfl
  have o_5 := op_at hops 5 rfl
  have o_6 := op_at hops 6 rfl
  have o_7 := op_at hops 7 rfl
  have o_8 := op_at hops 8 rfl
  have o_9 := op_at hops 9 rfl
  have o_10 := op_at hops 10 rfl
  have o_11 := op_at hops 11 rfl
  have o_12 := op_at hops 12 rfl
  have o_sz : ops'.size = 13 := op_sz hops rfl
  clear hops
  refine planW_ex (d := (some 18)) o_9 rfl rfl ⟨_, by simp [List.lookup, hre, hs, hs0, hs0', hsl, hsn, hsn', hbz, List.set_append_right]; try rfl, trivial, ?_⟩
  clear o_9
  refine planW_ex (d := (some 9)) o_0 rfl rfl ⟨_, by simp [List.lookup, hre, hs, hs0, hs0', hsl, hsn, hsn', hbz, List.set_append_right]; try rfl, by simp [chkW, List.lookup, List.lookup, hre, hs, hs0, hs0', hsl, hsn, hsn', hbz, List.set_append_right], ?_⟩
  clear o_0
  refine planW_ex (d := (some 10)) o_1 rfl rfl ⟨_, by simp [List.lookup, hre, hs, hs0, hs0', hsl, hsn, hsn', hbz, List.set_append_right]; try rfl, by simp [chkW, List.lookup, List.lookup, hre, hs, hs0, hs0', hsl, hsn, hsn', hbz, List.set_append_right], ?_⟩
  clear o_1
  refine planW_ex (d := (some 11)) o_2 rfl rfl ⟨_, by simp [List.lookup, hre, hs, hs0, hs0', hsl, hsn, hsn', hbz, List.set_append_right]; try rfl, trivial, ?_⟩
  clear o_2
  refine planW_ex (d := (some 12)) o_3 rfl rfl ⟨_, by simp [List.lookup, hre, hs, hs0, hs0', hsl, hsn, hsn', hbz, List.set_append_right]; try rfl, by simp [chkW, List.lookup, List.lookup, hre, hs, hs0, hs0', hsl, hsn, hsn', hbz, List.set_append_right], ?_⟩
  clear o_3
  refine planW_ex (d := (some 13)) o_4 rfl rfl ⟨_, by simp [List.lookup, hre, hs, hs0, hs0', hsl, hsn, hsn', hbz, List.set_append_right]; try rfl, trivial, ?_⟩
  clear o_4
  refine planW_ex (d := (some 14)) o_5 rfl rfl ⟨_, by simp [List.lookup, hre, hs, hs0, hs0', hsl, hsn, hsn', hbz, List.set_append_right]; try rfl, trivial, ?_⟩
  clear o_5
  refine planW_ex (d := (some 15)) o_6 rfl rfl ⟨_, by simp [List.lookup, hre, hs, hs0, hs0', hsl, hsn, hsn', hbz, List.set_append_right]; try rfl, trivial, ?_⟩
  clear o_6
  refine planW_ex (d := (some 16)) o_7 rfl rfl ⟨_, by simp [List.lookup, hre, hs, hs0, hs0', hsl, hsn, hsn', hbz, List.set_append_right]; try rfl, by simp [chkW, List.lookup, List.lookup, hre, hs, hs0, hs0', hsl, hsn, hsn', hbz, List.set_append_right], ?_⟩
  clear o_7
  refine planW_ex (d := (some 17)) o_8 rfl rfl ⟨_, by simp [List.lookup, hre, hs, hs0, hs0', hsl, hsn, hsn', hbz, List.set_append_right]; try rfl, trivial, ?_⟩
  clear o_8
  refine planW_ex (d := (some 19)) o_10 rfl rfl ⟨_, by simp [List.lookup, hre, hs, hs0, hs0', hsl, hsn, hsn', hbz, List.set_append_right]; try rfl, trivial, ?_⟩
  clear o_10
  refine planW_ex (d := (some 20)) o_11 rfl rfl ⟨_, by simp [List.lookup, hre, hs, hs0, hs0', hsl, hsn, hsn', hbz, List.set_append_right]; try rfl, trivial, ?_⟩
  clear o_11
  refine planW_ex (d := (some 7)) o_12 rfl rfl ⟨_, by simp [List.lookup, hre, hs, hs0, hs0', hsl, hsn, hsn', hbz, List.set_append_right]; try rfl, trivial, ?_⟩
  clear o_12
  refine planW_end o_sz ?_
  apply hK; clear hK K o_sz; simp only [onNormal, onExit, tput]
  (repeat refine AWP.seq ?_)
  refine AWP.region_last hcall rfl fun K hK => ?_
  simp
  apply hK; clear hK K; simp only [onNormal, onExit]
  (repeat refine AWP.seq ?_); refine AWP.cond (b := true) (by simp) ?_; simp only [if_true, if_false, Bool.false_eq_true]
  (repeat refine AWP.seq ?_)
  refine AWP.region_last hcall rfl fun K hK => ?_
  simp [hho]
  apply hK; clear hK K; simp only [onNormal, onExit]
  (repeat refine AWP.seq ?_)
  refine AWP.region_last hcall rfl fun K hK => ?_
  simp
  apply hK; clear hK K; simp only [onNormal, onExit]
  (repeat refine AWP.seq ?_); refine AWP.block ?_
  obtain ⟨Hb, hHb⟩ : ∃ Hb, Hb = upd (upd H (0 :: nm) (some [vi (a : Int), vi b])) (1 :: nm) (some [vi (c : Int), vi d]) := ⟨_, rfl⟩
  have hout : ∀ k row, k ≠ freshN nm -> H k = some row -> Hb k = some row := fun k row _ hk => by
    have : ∀ x, ¬ k = x :: nm := fun x e => by have := hH [x]; rw [List.singleton_append, <- e, hk] at this; cases this
    rw [hHb]; simp [upd, this, hk]
  rw [<- hHb]
  refine AWP.loop (fun m c' T H => ∃ j : Nat, j <= 3 /\ m = 3 - j /\ T 7 = .ptr (14 :: nm) 0 /\ T 37 = vi j /\ H (14 :: nm) = some (waveP a b c d (w01 j 0) (w01 j 1) (w01 j 2)) /\ ∀ k row, k ≠ 14 :: nm -> Hb k = some row -> H k = some row) 3 ⟨0, by omega, rfl, by simp, by simp, by rw [upd_same]; simp [waveP, w01], fun k row hk h => by rw [upd_ne _ _ hk, upd_ne _ _ hk]; exact h⟩ ?_
  rintro m c' T H1 ⟨j, hj, rfl, t7, t37, h14, hrest⟩
  by_cases hlt : j < 3
  · have hlt' : (j : Int) < 3 := by omega
    have hwj : IntKind.i64.wrap ((j : Int) + 1) = ((j + 1 : Nat) : Int) := by rw [IntKind.wrap_i64]; omega
    (repeat refine AWP.seq ?_)
    refine AWP.region_last hcall rfl fun K hK => ?_
    simp [t37, hlt']
    apply hK; clear hK K; simp only [onNormal, onExit]
    (repeat refine AWP.seq ?_); refine AWP.cond (b := true) (by simp [hlt']) ?_; simp only [if_true, if_false, Bool.false_eq_true]
    refine AWP.skip ?_; simp only [onNormal, onExit]
    (repeat refine AWP.seq ?_); refine AWP.block ?_
    (repeat refine AWP.seq ?_)
    refine AWP.region_last hcall rfl fun K hK => ?_
    simp [t37]
    apply hK; clear hK K; simp only [onNormal, onExit]
    rcases (by omega : j = 0 \/ j = 1 \/ j = 2) with rfl | rfl | rfl
    all_goals simp only [waveP, List.cons_append, List.nil_append] at h14
    · (repeat refine AWP.seq ?_)
      refine AWP.draw_ops rfl hcall [0, 0, 0, 1, 9, 31, 63, 127] [⟨2, true, []⟩, ⟨0, false, []⟩, ⟨1, false, []⟩, ⟨3, false, []⟩, ⟨4, false, []⟩, ⟨5, false, []⟩, ⟨6, false, []⟩, ⟨7, true, []⟩] rfl (by kernel_rfl) fun ops' hops K hK => ?_
      have o_0 := op_at hops 0 rfl
      have o_1 := op_at hops 1 rfl
      have o_2 := op_at hops 2 rfl
      have o_3 := op_at hops 3 rfl
      have o_4 := op_at hops 4 rfl
      have o_5 := op_at hops 5 rfl
      have o_6 := op_at hops 6 rfl
      have o_7 := op_at hops 7 rfl
      have o_sz : ops'.size = 8 := op_sz hops rfl
      clear hops
      refine planW_ex (d := (some 42)) o_2 rfl rfl ⟨_, by simp [List.lookup, t7, t37, hre, h14, hbz]; try rfl, trivial, ?_⟩
      clear o_2
      refine planW_ex (d := (some 40)) o_0 rfl rfl ⟨_, by simp [List.lookup, t7, t37, hre, h14, hbz]; try rfl, trivial, ?_⟩
      clear o_0
      refine planW_ex (d := (some 41)) o_1 rfl rfl ⟨_, by simp [List.lookup, t7, t37, hre, h14, hbz]; try rfl, trivial, ?_⟩
      clear o_1
      refine planW_ex (d := (some 43)) o_3 rfl rfl ⟨_, by simp [List.lookup, t7, t37, hre, h14, hbz]; try rfl, trivial, ?_⟩
      clear o_3
      refine planW_ex (d := (some 44)) o_4 rfl rfl ⟨_, by simp [List.lookup, t7, t37, hre, h14, hbz]; try rfl, trivial, ?_⟩
      clear o_4
      refine planW_ex (d := (some 45)) o_5 rfl rfl ⟨_, by simp [List.lookup, t7, t37, hre, h14, hbz]; try rfl, trivial, ?_⟩
      clear o_5
      refine planW_ex (d := (some 46)) o_6 rfl rfl ⟨_, by simp [List.lookup, t7, t37, hre, h14, hbz]; try rfl, trivial, ?_⟩
      clear o_6
      refine planW_ex (d := none) o_7 rfl rfl ⟨_, by simp [List.lookup, t7, t37, hre, h14, hbz]; try rfl, trivial, ?_⟩
      clear o_7
      refine planW_end o_sz ?_
      apply hK; clear hK K o_sz; simp only [onNormal, onExit, tput]
      (repeat refine AWP.seq ?_)
      refine AWP.region_last hcall rfl fun K hK => ?_
      simp [t37]
      apply hK; clear hK K; simp only [onNormal, onExit]
      exact ⟨2, by omega, 1, by omega, rfl, by simp [t7], by simp <;> decide, by rw [upd_same]; simp [waveP, w01], fun k row hk h => by rw [upd_ne _ _ hk]; exact hrest k row hk h⟩
    · (repeat refine AWP.seq ?_)
      refine AWP.draw_ops rfl hcall [0, 0, 0, 1, 9, 31, 63, 127] [⟨2, true, []⟩, ⟨0, false, []⟩, ⟨1, false, []⟩, ⟨3, false, []⟩, ⟨4, false, []⟩, ⟨5, false, []⟩, ⟨6, false, []⟩, ⟨7, true, []⟩] rfl (by kernel_rfl) fun ops' hops K hK => ?_
      have o_0 := op_at hops 0 rfl
      have o_1 := op_at hops 1 rfl
      have o_2 := op_at hops 2 rfl
      have o_3 := op_at hops 3 rfl
      have o_4 := op_at hops 4 rfl
      have o_5 := op_at hops 5 rfl
      have o_6 := op_at hops 6 rfl
      have o_7 := op_at hops 7 rfl
      have o_sz : ops'.size = 8 := op_sz hops rfl
      clear hops
      refine planW_ex (d := (some 42)) o_2 rfl rfl ⟨_, by simp [List.lookup, t7, t37, hre, h14, hbz]; try rfl, trivial, ?_⟩
      clear o_2
      refine planW_ex (d := (some 40)) o_0 rfl rfl ⟨_, by simp [List.lookup, t7, t37, hre, h14, hbz]; try rfl, trivial, ?_⟩
      clear o_0
      refine planW_ex (d := (some 41)) o_1 rfl rfl ⟨_, by simp [List.lookup, t7, t37, hre, h14, hbz]; try rfl, trivial, ?_⟩
      clear o_1
      refine planW_ex (d := (some 43)) o_3 rfl rfl ⟨_, by simp [List.lookup, t7, t37, hre, h14, hbz]; try rfl, trivial, ?_⟩
      clear o_3
      refine planW_ex (d := (some 44)) o_4 rfl rfl ⟨_, by simp [List.lookup, t7, t37, hre, h14, hbz]; try rfl, trivial, ?_⟩
      clear o_4
      refine planW_ex (d := (some 45)) o_5 rfl rfl ⟨_, by simp [List.lookup, t7, t37, hre, h14, hbz]; try rfl, trivial, ?_⟩
      clear o_5
      refine planW_ex (d := (some 46)) o_6 rfl rfl ⟨_, by simp [List.lookup, t7, t37, hre, h14, hbz]; try rfl, trivial, ?_⟩
      clear o_6
      refine planW_ex (d := none) o_7 rfl rfl ⟨_, by simp [List.lookup, t7, t37, hre, h14, hbz]; try rfl, trivial, ?_⟩
      clear o_7
      refine planW_end o_sz ?_
      apply hK; clear hK K o_sz; simp only [onNormal, onExit, tput]
      (repeat refine AWP.seq ?_)
      refine AWP.region_last hcall rfl fun K hK => ?_
      simp [t37]
      apply hK; clear hK K; simp only [onNormal, onExit]
      exact ⟨1, by omega, 2, by omega, rfl, by simp [t7], by simp <;> decide, by rw [upd_same]; simp [waveP, w01], fun k row hk h => by rw [upd_ne _ _ hk]; exact hrest k row hk h⟩
    · (repeat refine AWP.seq ?_)
      refine AWP.draw_ops rfl hcall [0, 0, 0, 1, 9, 31, 63, 127] [⟨2, true, []⟩, ⟨0, false, []⟩, ⟨1, false, []⟩, ⟨3, false, []⟩, ⟨4, false, []⟩, ⟨5, false, []⟩, ⟨6, false, []⟩, ⟨7, true, []⟩] rfl (by kernel_rfl) fun ops' hops K hK => ?_
      have o_0 := op_at hops 0 rfl
      have o_1 := op_at hops 1 rfl
      have o_2 := op_at hops 2 rfl
      have o_3 := op_at hops 3 rfl
      have o_4 := op_at hops 4 rfl
      have o_5 := op_at hops 5 rfl
      have o_6 := op_at hops 6 rfl
      have o_7 := op_at hops 7 rfl
      have o_sz : ops'.size = 8 := op_sz hops rfl
      clear hops
      refine planW_ex (d := (some 42)) o_2 rfl rfl ⟨_, by simp [List.lookup, t7, t37, hre, h14, hbz]; try rfl, trivial, ?_⟩
      clear o_2
      refine planW_ex (d := (some 40)) o_0 rfl rfl ⟨_, by simp [List.lookup, t7, t37, hre, h14, hbz]; try rfl, trivial, ?_⟩
      clear o_0
      refine planW_ex (d := (some 41)) o_1 rfl rfl ⟨_, by simp [List.lookup, t7, t37, hre, h14, hbz]; try rfl, trivial, ?_⟩
      clear o_1
      refine planW_ex (d := (some 43)) o_3 rfl rfl ⟨_, by simp [List.lookup, t7, t37, hre, h14, hbz]; try rfl, trivial, ?_⟩
      clear o_3
      refine planW_ex (d := (some 44)) o_4 rfl rfl ⟨_, by simp [List.lookup, t7, t37, hre, h14, hbz]; try rfl, trivial, ?_⟩
      clear o_4
      refine planW_ex (d := (some 45)) o_5 rfl rfl ⟨_, by simp [List.lookup, t7, t37, hre, h14, hbz]; try rfl, trivial, ?_⟩
      clear o_5
      refine planW_ex (d := (some 46)) o_6 rfl rfl ⟨_, by simp [List.lookup, t7, t37, hre, h14, hbz]; try rfl, trivial, ?_⟩
      clear o_6
      refine planW_ex (d := none) o_7 rfl rfl ⟨_, by simp [List.lookup, t7, t37, hre, h14, hbz]; try rfl, trivial, ?_⟩
      clear o_7
      refine planW_end o_sz ?_
      apply hK; clear hK K o_sz; simp only [onNormal, onExit, tput]
      (repeat refine AWP.seq ?_)
      refine AWP.region_last hcall rfl fun K hK => ?_
      simp [t37]
      apply hK; clear hK K; simp only [onNormal, onExit]
      exact ⟨0, by omega, 3, by omega, rfl, by simp [t7], by simp <;> decide, by rw [upd_same]; simp [waveP, w01], fun k row hk h => by rw [upd_ne _ _ hk]; exact hrest k row hk h⟩
  · obtain rfl : j = 3 := by omega
    (repeat refine AWP.seq ?_)
    refine AWP.region_last hcall rfl fun K hK => ?_
    simp [t37]
    apply hK; clear hK K; simp only [onNormal, onExit]
    (repeat refine AWP.seq ?_); refine AWP.cond (b := false) (by simp) ?_; simp only [if_true, if_false, Bool.false_eq_true]
    refine AWP.exit ?_; simp only [onNormal, onExit, if_true, reduceCtorEq, if_false]
    (repeat refine AWP.seq ?_)
    refine AWP.region_last hcall rfl fun K hK => ?_
    simp [t7]
    apply hK; clear hK K; simp only [onNormal, onExit]
    (try refine AWP.ret ?_); (try simp only [onNormal, onExit]); refine ⟨by simp, ⟨_, rfl, by simp [ares1, t7, freshN]⟩, fun k row hk => ?_⟩
    by_cases e : k = freshN nm
    · subst e
      rw [upd_same] at hk
      exact h14.trans (by rw [<- hk]; rfl)
    · rw [upd_ne _ _ e] at hk
      exact hrest k row e (hout k row e hk)
end Go.Proofs.YtjinjfblilacaaaGreat.Den
end
