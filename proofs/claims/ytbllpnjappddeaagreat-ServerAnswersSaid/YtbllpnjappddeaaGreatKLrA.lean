/- A law that a run of the executor answered; a text of so many bytes that are not known. -/
import Derived.Test.YtbllpnjappddeaaGreatKDpD
import Derived.Test.YtbllpnjappddeaaGreatKOvL
import Derived.Test.YtbllpnjappddeaaGreatKSymPt
import Derived.Test.YtbllpnjappddeaaGreatKWkT
import Derived.Lib.Hide
import Derived.Test.YtbllpnjappddeaaGreatRows
import Derived.Below
import Derived.ProofKit
set_option linter.unusedVariables false
set_option linter.unusedSimpArgs false
section
set_option linter.unusedSimpArgs false
set_option linter.unusedVariables false
namespace Go.Proofs.YtbllpnjappddeaaGreat.Den
open Go.RowKit
variable {P : Program} {ρ : Vals}
def isTrue : SRes -> Bool
 | some (.bool b, _) => b
 | _ => false
/-- A law that a run answered. -/
theorem true_of_runs {sc : SCall} (hsc : SCallOK P ρ sc) {f : FuncId} {args : List SV} {xs : List AV} (hx : SRels ρ (fun _ => none) args xs) (h : isTrue (sc f args ⟨0, .nil⟩) = true) :
  ∃ H', Sim P f xs [] (fun _ => none) (.val (.bool true)) H' := by
 cases hc : sc f args ⟨0, .nil⟩ with
 | none => rw [hc] at h; cases h
 | some x =>
  obtain ⟨r, h'⟩ := x
  rw [hc] at h
  cases r with
  | bool b =>
   have hb : b = true := h
   subst hb
   obtain ⟨_, g⟩ := hsc _ _ _ _ _ hc
   obtain ⟨z, H', k1, ν', k2, k3, k4, k5⟩ := g (fun _ => none) (fun _ => none) [] xs ⟨fun n row hn => (by rw [show (⟨0, .nil⟩ : Mem).get n = none from nil_get n] at hn; cases hn), fun n k m hn => (by cases hn), fun n hn => absurd rfl hn⟩ (fun n s hn => (by cases hn)) hx
   cases k5
   exact ⟨H', k1⟩
  | _ => cases h
/-- So many unknown bytes. -/
noncomputable def ubytes : Nat -> Nat -> List IE := @Nat.rec (fun _ => Nat -> List IE) (fun _ => []) (fun _ ih k => .byte k :: ih (Nat.add k 1))
theorem ubytes_map {α : Type} (g : IE -> α) : ∀ (n k : Nat), (ubytes n k).map g = (List.range' k n).map fun i => g (.byte i)
 | 0, _ => rfl
 | n + 1, k => by
  show g (.byte k) :: (ubytes n (k + 1)).map g = _
  rw [ubytes_map g n (k + 1), List.range'_succ, List.map_cons]
theorem strOf_ubytes (s : ByteArray) (hb : ∀ i, i < s.size -> ρ.b i = s.data.toList.getD i 0) : strOf ρ (ubytes s.size 0) = s := by
 unfold strOf
 rw [ubytes_map]
 have e : (List.range' 0 s.size).map (fun i => UInt8.ofNat ((IE.byte i).den ρ).toNat) = s.data.toList := by
  apply List.ext_getElem
  ·simp
  ·intro i h1 h2
   have hi : i < s.size := by simpa using h1
   simp only [List.getElem_map, List.getElem_range', IE.den]
   have := hb i hi
   rw [Nat.zero_add, Nat.one_mul, this, List.getD_eq_getElem?_getD, List.getElem?_eq_getElem h2]
   simp
 rw [e]
/-- The executor with table W. -/
noncomputable def callQ : SCall := qcall [] ovrW
theorem callQ_ok (ρ : Vals) : SCallOK Tryz.prog ρ callQ := qcall_ok FOk.nil (ovrW_ok ρ)
end Go.Proofs.YtbllpnjappddeaaGreat.Den
end
section
set_option linter.unusedSimpArgs false
set_option linter.unusedVariables false
namespace Go.Proofs.YtbllpnjappddeaaGreat.Den
open Go.RowKit
variable {P : Program} {ρ : Vals} {ν : Nat -> Option Name}
mutual
def shV (d : Nat) : SV -> SV
 | .ptr n o => .ptr (Nat.add n d) o
 | .sl n o l z => .sl (Nat.add n d) o l z
 | .imp m c o => .imp m (shVs d c) o
 | .im m n c => .im m n (shVs d c)
 | .agg c => .agg (shVs d c)
 | .tup c => .tup (shVs d c)
 | .fn f a b => .fn f (shVs d a) (shVs d b)
 | .int k e => .int k e
 | .bool b => .bool b
 | .str l => .str l
 | .val v => .val v
def shVs (d : Nat) : List SV -> List SV
 | [] => []
 | a :: l => shV d a :: shVs d l
end
mutual
theorem shV_in {d : Nat} : ∀ (s : SV) {x : AV}, SRel ρ ν (shV d s) x -> SRel ρ (fun k => ν (k + d)) s x
 | .ptr n o, _, h => by simp only [shV] at h; cases h with | ptr h => exact .ptr h
 | .sl n o l z, _, h => by simp only [shV] at h; cases h with | sl h => exact .sl h
 | .imp m c o, _, h => by simp only [shV] at h; cases h with | imp h => exact .imp (shVs_in c h)
 | .im m n c, _, h => by simp only [shV] at h; cases h with | im h => exact .im (shVs_in c h)
 | .agg c, _, h => by simp only [shV] at h; cases h with | agg h => exact .agg (shVs_in c h)
 | .tup c, _, h => by simp only [shV] at h; cases h with | tup h => exact .tup (shVs_in c h)
 | .fn f a b, _, h => by simp only [shV] at h; cases h with | fn h h' => exact .fn (shVs_in a h) (shVs_in b h')
 | .int k e, _, h => by simp only [shV] at h; cases h; exact .int k e
 | .bool b, _, h => by simp only [shV] at h; cases h; exact .bool b
 | .str l, _, h => by simp only [shV] at h; cases h; exact .str l
 | .val v, _, h => by simp only [shV] at h; cases h; exact .val v
theorem shVs_in {d : Nat} : ∀ (l : List SV) {xs : List AV}, SRels ρ ν (shVs d l) xs -> SRels ρ (fun k => ν (k + d)) l xs
 | [], _, h => by simp only [shVs] at h; cases h; exact .nil
 | a :: l, _, h => by
  simp only [shVs] at h
  cases h with
  | cons h t => exact .cons (shV_in a h) (shVs_in l t)
end
mutual
theorem shV_out {d : Nat} {ν' : Nat -> Option Name} (hn : ∀ k m, ν k = some m -> ν' (k + d) = some m) : ∀ (s : SV) {x : AV}, SRel ρ ν s x -> SRel ρ ν' (shV d s) x
 | .ptr n o, _, h => by simp only [shV]; cases h with | ptr h => exact .ptr (hn _ _ h)
 | .sl n o l z, _, h => by simp only [shV]; cases h with | sl h => exact .sl (hn _ _ h)
 | .imp m c o, _, h => by simp only [shV]; cases h with | imp h => exact .imp (shVs_out hn c h)
 | .im m n c, _, h => by simp only [shV]; cases h with | im h => exact .im (shVs_out hn c h)
 | .agg c, _, h => by simp only [shV]; cases h with | agg h => exact .agg (shVs_out hn c h)
 | .tup c, _, h => by simp only [shV]; cases h with | tup h => exact .tup (shVs_out hn c h)
 | .fn f a b, _, h => by simp only [shV]; cases h with | fn h h' => exact .fn (shVs_out hn a h) (shVs_out hn b h')
 | .int k e, _, h => by simp only [shV]; cases h; exact .int k e
 | .bool b, _, h => by simp only [shV]; cases h; exact .bool b
 | .str l, _, h => by simp only [shV]; cases h; exact .str l
 | .val v, _, h => by simp only [shV]; cases h; exact .val v
theorem shVs_out {d : Nat} {ν' : Nat -> Option Name} (hn : ∀ k m, ν k = some m -> ν' (k + d) = some m) : ∀ (l : List SV) {xs : List AV}, SRels ρ ν l xs -> SRels ρ ν' (shVs d l) xs
 | [], _, h => by simp only [shVs]; cases h; exact .nil
 | a :: l, _, h => by
  simp only [shVs]
  cases h with
  | cons h t => exact .cons (shV_out hn a h) (shVs_out hn l t)
end
noncomputable def shRows (d : Nat) : ZRows -> ZRows
 | [] => []
 | (k, l, z) :: r => (Nat.add k d, shVs d l, z) :: shRows d r
noncomputable def PZ.shift (p : PZ) (d : Nat) : PZ := ⟨p.f, shVs d p.args, Nat.add p.next d, shRows d p.rows, shV d p.r, Nat.add p.next' d, shRows d p.rows'⟩
theorem shVs_append (d : Nat) : ∀ (a b : List SV), shVs d (a ++ b) = shVs d a ++ shVs d b
 | [], b => rfl
 | x :: a, b => by simp only [List.cons_append, shVs, shVs_append d a b]
theorem cA_eq : ∀ (l r : List SV), cA l r = l ++ r
 | [], r => rfl
 | a :: l, r => by rw [cA_cons, cA_eq l r]; rfl
theorem shVs_cZ (d : Nat) : ∀ n, shVs d (cZ n []) = cZ n []
 | 0 => rfl
 | n + 1 => by
  show shVs d (zb :: cZ n []) = zb :: cZ n []
  rw [shVs, shVs_cZ d n]; rfl
theorem shVs_zrow (d : Nat) (l : List SV) (z : Nat) : shVs d (zrow l z) = zrow (shVs d l) z := by
 rw [zrow_eq, zrow_eq, cA_eq, cA_eq, shVs_append, shVs_cZ]
theorem shRows_mem {d : Nat} : ∀ {l : ZRows} {k : Nat} {c : List SV} {z : Nat}, (k, c, z) ∈ l -> (k + d, shVs d c, z) ∈ shRows d l
 | (k', c', z') :: r, k, c, z, h => by
  simp only [shRows]
  rcases List.mem_cons.1 h with e | h
  ·cases e; exact List.mem_cons_self
  ·exact List.mem_cons_of_mem _ (shRows_mem h)
theorem shRows_mem' {d : Nat} : ∀ {l : ZRows} {k : Nat} {c : List SV} {z : Nat}, (k, c, z) ∈ shRows d l -> ∃ k' c', (k', c', z) ∈ l /\ k = k' + d /\ c = shVs d c'
 | [], _, _, _, h => by cases h
 | (k', c', z') :: r, k, c, z, h => by
  simp only [shRows] at h
  rcases List.mem_cons.1 h with e | h
  ·cases e; exact ⟨k', c', by simp, rfl, rfl⟩
  ·obtain ⟨a, b, h1, h2⟩ := shRows_mem' h
   exact ⟨a, b, List.mem_cons_of_mem _ h1, h2⟩
theorem putZ_some : ∀ {l : ZRows} {m : Tr (List SV)} {k : Nat}, (∃ q ∈ l, q.1 = k) -> smallZ l = true -> ∃ row, (putZ l m).get k = some row
 | [], _, _, h, _ => by obtain ⟨q, hq, _⟩ := h; cases hq
 | (k', c, z) :: r, m, k, h, hs => by
  simp only [smallZ, List.all_cons, Bool.and_eq_true] at hs
  have h1 := blt_lt hs.1
  by_cases hr : ∃ q ∈ r, q.1 = k
  ·exact putZ_some (l := r) (m := m.put k' (zrow c z)) hr hs.2
  ·have hr' : ∀ q ∈ r, q.1 ≠ k := fun q hq e => hr ⟨q, hq, e⟩
   have hk : k = k' := by
    obtain ⟨q, hq, e⟩ := h
    rcases List.mem_cons.1 hq with rfl | hq
    ·exact e.symm
    ·exact absurd e (hr' q hq)
   refine ⟨zrow c z, ?_⟩
   show (putZ r (m.put k' (zrow c z))).get k = _
   rw [putZ_out hr' hs.2, put_get _ _ _ _ (by omega), if_pos hk]
/-- Moved rows stand where they were, moved. -/
theorem putZ_move {d : Nat} : ∀ {l : ZRows} {k : Nat} {row : List SV}, smallZ l = true -> smallZ (shRows d l) = true -> ∀ {m m' : Tr (List SV)}, (∀ row, m.get k = some row -> m'.get (k + d) = some (shVs d row)) -> (putZ l m).get k = some row -> (putZ (shRows d l) m').get (k + d) = some (shVs d row)
 | [], k, row, _, _, m, m', hm, h => hm row h
 | (k', c, z) :: r, k, row, hs, hs', m, m', hm, h => by
  simp only [smallZ, List.all_cons, Bool.and_eq_true] at hs
  simp only [shRows, smallZ, List.all_cons, Bool.and_eq_true] at hs'
  have h1 := blt_lt hs.1
  have h2 := blt_lt hs'.1
  have h2' : k' + d < 1000000000 := h2
  refine putZ_move (l := r) hs.2 hs'.2 (m := m.put k' (zrow c z)) (m' := m'.put (Nat.add k' d) (zrow (shVs d c) z)) ?_ h
  intro row hr
  rw [put_get _ _ _ _ (by omega)] at hr
  rw [put_get _ _ _ _ (by have e : k'.add d = k' + d := rfl; omega)]
  by_cases e : k = k'
  ·subst e
   rw [if_pos rfl] at hr
   cases hr
   rw [if_pos (show k + d = k.add d from rfl), shVs_zrow]
  ·rw [if_neg e] at hr
   rw [if_neg (fun e' => e (by have e2 : k + d = k' + d := e'; omega))]
   exact hm row hr
theorem putZ_shift {d next next' : Nat} {l : ZRows} (hs : smallZ l = true) (hs' : smallZ (shRows d l) = true) {k : Nat} {row : List SV} (h : (zmem next l).get k = some row) : (zmem next' (shRows d l)).get (k + d) = some (shVs d row) :=
 putZ_move hs hs' (fun row hr => by rw [nil_get] at hr; cases hr) h
/-- What is known at one place is known at all others. -/
theorem PZ.Holds.shift {p : PZ} (hp : p.Holds P ρ) (d : Nat) (hs : smallZ p.rows = true) (hs' : smallZ (shRows d p.rows) = true) (hk : smallZ p.rows' = true) (hk' : smallZ (shRows d p.rows') = true) : (p.shift d).Holds P ρ := by
 refine ⟨hp.1, fun ν H nm xs hm hfre hxs => ?_⟩
 let ν₀ : Nat -> Option Name := fun k => ν (k + d)
 have hm0 : MRel ρ ν₀ (zmem p.next p.rows) H := by
  refine ⟨?_, ?_, ?_⟩
  ·intro k row hk
   rcases putZ_get p.rows .nil k row hk with ⟨c, z, h1, rfl⟩ | h1
   ·have h2 : ∃ row', (zmem (Nat.add p.next d) (shRows d p.rows)).get (k + d) = some row' := by
     have : ∃ q ∈ shRows d p.rows, q.1 = k + d := ⟨_, shRows_mem h1, rfl⟩
     exact putZ_some this hs'
    obtain ⟨row', h2⟩ := h2
    obtain ⟨m, r, g1, g2, g3⟩ := hm.rows _ _ h2
    refine ⟨m, r, g1, g2, ?_⟩
    have h3 : row' = shVs d (zrow c z) := by
     have := putZ_shift (d := d) (next' := Nat.add p.next d) hs hs' hk
     rw [this] at h2
     exact (Option.some.inj h2).symm
    rw [h3] at g3
    exact shVs_in _ g3
   ·rw [nil_get] at h1; cases h1
  ·intro a b m h1 h2
   have := hm.inj _ _ _ h1 h2
   omega
  ·intro k hk
   have := hm.lt _ hk
   have h1 : k + d < p.next + d := this
   show k < p.next
   omega
 have hfre0 : Fre ν₀ nm := fun k s => hfre (k + d) s
 obtain ⟨z, H', g1, ν₁, g2, g3, g4, g5⟩ := hp.2 ν₀ H nm xs hm0 hfre0 (shVs_in _ hxs)
 let ν' : Nat -> Option Name := fun j => if j < d then ν j else ν₁ (j - d)
 have up : ∀ k m, ν₁ k = some m -> ν' (k + d) = some m := fun k m h => by
  show (if k + d < d then ν (k + d) else ν₁ (k + d - d)) = some m
  rw [if_neg (by omega), Nat.add_sub_cancel]; exact h
 refine ⟨z, H', g1, ν', ?_, ?_, ⟨?_, ?_, ?_⟩, shV_out up _ g5⟩
 ·intro j m hj
  show (if j < d then ν j else ν₁ (j - d)) = some m
  split
  ·exact hj
  ·rename_i hd
   refine g2 _ _ ?_
   show ν (j - d + d) = some m
   rw [Nat.sub_add_cancel (by omega)]; exact hj
 ·intro j m hj
  have hj' : (if j < d then ν j else ν₁ (j - d)) = some m := hj
  split at hj'
  ·exact .inl hj'
  ·rename_i hd
   rcases g3 _ _ hj' with h1 | h1
   ·have h2 : ν (j - d + d) = some m := h1
    rw [Nat.sub_add_cancel (by omega)] at h2; exact .inl h2
   ·exact .inr h1
 ·intro k row hkr
  rcases putZ_get _ .nil k row hkr with ⟨c, zz, h1, rfl⟩ | h1
  ·obtain ⟨k', c', h2, rfl, rfl⟩ := shRows_mem' h1
   have h3 : ∃ row', (zmem p.next' p.rows').get k' = some row' := putZ_some ⟨_, h2, rfl⟩ hk
   obtain ⟨row', h3⟩ := h3
   obtain ⟨m, r, e1, e2, e3⟩ := g4.rows _ _ h3
   refine ⟨m, r, up _ _ e1, e2, ?_⟩
   have h4 := putZ_shift (d := d) (next' := Nat.add p.next' d) hk hk' h3
   have h5 : (zmem (Nat.add p.next' d) (shRows d p.rows')).get (k' + d) = some (zrow (shVs d c') zz) := hkr
   rw [h4] at h5
   rw [<- Option.some.inj h5]
   exact shVs_out up _ e3
  ·rw [nil_get] at h1; cases h1
 ·intro a b m h1 h2
  have h1' : (if a < d then ν a else ν₁ (a - d)) = some m := h1
  have h2' : (if b < d then ν b else ν₁ (b - d)) = some m := h2
  have low : ∀ x y, x < d -> ¬ y < d -> ν x = some m -> ν₁ (y - d) = some m -> False := fun x y hx hy e1 e2 => by
   rcases g3 _ _ e2 with e3 | ⟨s, e3⟩
   ·have e4 : ν (y - d + d) = some m := e3
    rw [Nat.sub_add_cancel (by omega)] at e4
    have := hm.inj _ _ _ e1 e4
    omega
   ·subst e3; exact hfre x s e1
  split at h1' <;> split at h2'
  ·exact hm.inj _ _ _ h1' h2'
  ·rename_i a1 a2; exact (low a b a1 a2 h1' h2').elim
  ·rename_i a1 a2; exact (low b a a2 a1 h2' h1').elim
  ·have := g4.inj _ _ _ h1' h2'
   omega
 ·intro j hj
  have hj' : (if j < d then ν j else ν₁ (j - d)) ≠ none := hj
  show j < p.next' + d
  split at hj'
  ·omega
  ·have := g4.lt _ hj'
   have h1 : j - d < p.next' := this
   omega
/-- A known call, wherever it stands. -/
noncomputable def optSh (p : PZ) (args : List SV) (h : Mem) : SRes := bif Nat.ble p.next h.next then forceN (Nat.sub h.next p.next) fun d => bif smallZ (shRows d p.rows) && okF (p.shift d) then optF (p.shift d) args h else none else none
theorem optSh_ok {p : PZ} (hp : p.Good P ρ) (hs : smallZ p.rows = true) {args : List SV} {h h' : Mem} {r : SV} (hr : optSh p args h = some (r, h')) : isGo P p.f = true /\ ∀ (ν : Nat -> Option Name) (H : AHeap) (nm : Name) (xs : List AV), MRel ρ ν h H -> Fre ν nm -> SRels ρ ν args xs -> ∃ z H', Sim P p.f xs nm H z H' /\ Out ρ ν nm r h' z H' := by
 unfold optSh at hr
 cases hb : Nat.ble p.next h.next with
 | false => rw [hb] at hr; cases hr
 | true =>
  rw [hb] at hr
  simp only [cond_true, forceN_eq] at hr
  cases hc : (smallZ (shRows (Nat.sub h.next p.next) p.rows) && okF (p.shift (Nat.sub h.next p.next))) with
  | false => rw [hc] at hr; cases hr
  | true =>
   rw [hc] at hr
   simp only [cond_true] at hr
   simp only [Bool.and_eq_true] at hc
   have h1 : smallZ p.rows' = true := by have := hp.2; simp only [okF, Bool.and_eq_true] at this; exact this.1
   have h2 : smallZ (shRows (Nat.sub h.next p.next) p.rows') = true := by have := hc.2; simp only [okF, Bool.and_eq_true] at this; exact this.1
   exact optF_ok (p := p.shift (Nat.sub h.next p.next)) (hp.1.shift _ hs hc.1 h1 h2) hc.2 hr
/-- The first of those that fits, wherever it stands; else as the executor does it. -/
noncomputable def optShL (sc : SCall) (f : FuncId) : List PZ -> List SV -> Mem -> SRes
 | [], args, h => sc f args h
 | p :: r, args, h => bif Nat.beq f p.f then (match optSh p args h with
  | some x => some x
  | none => optShL sc f r args h) else optShL sc f r args h
/-- Known, and fit to be moved. -/
def PZ.Fit (P : Program) (ρ : Vals) (p : PZ) : Prop := p.Good P ρ /\ smallZ p.rows = true
theorem optShL_ok {sc : SCall} (hsc : SCallOK P ρ sc) {f : FuncId} : ∀ {l : List PZ}, (∀ p ∈ l, p.Fit P ρ) -> ∀ {args : List SV} {h h' : Mem} {r : SV}, optShL sc f l args h = some (r, h') -> isGo P f = true /\ ∀ (ν : Nat -> Option Name) (H : AHeap) (nm : Name) (xs : List AV), MRel ρ ν h H -> Fre ν nm -> SRels ρ ν args xs -> ∃ z H', Sim P f xs nm H z H' /\ Out ρ ν nm r h' z H'
 | [], _, args, h, h', r, hr => hsc f args h r h' hr
 | p :: l, hl, args, h, h', r, hr => by
  simp only [optShL] at hr
  have rest := optShL_ok hsc (f := f) (l := l) (fun q hq => hl q (List.mem_cons_of_mem _ hq)) (args := args) (h := h) (h' := h') (r := r)
  cases hf : Nat.beq f p.f with
  | false => rw [hf] at hr; exact rest hr
  | true =>
   rw [hf] at hr
   simp only [cond_true] at hr
   split at hr
   ·rename_i x hx
    cases hr
    obtain ⟨hp, hk⟩ := hl p (by simp)
    rw [Nat.eq_of_beq_eq_true hf]
    exact optSh_ok hp hk hx
   ·exact rest hr
noncomputable def ovrSh (sc : SCall) (fs : List FuncId) (l : List PZ) (ovr : FuncId -> Option (List SV -> Mem -> SRes)) (f : FuncId) : Option (List SV -> Mem -> SRes) := bif fs.any (Nat.beq f) then some (optShL sc f l) else ovr f
theorem ovrSh_ok {sc : SCall} (hsc : SCallOK P ρ sc) {fs : List FuncId} {l : List PZ} (hl : ∀ p ∈ l, p.Fit P ρ) {ovr : FuncId -> Option (List SV -> Mem -> SRes)} (ho : OvrOK P ρ ovr) : OvrOK P ρ (ovrSh sc fs l ovr) := by
 intro f g hg args h r h' hr
 unfold ovrSh at hg
 cases hc : fs.any (Nat.beq f) with
 | false => rw [hc] at hg; exact ho f g hg args h r h' hr
 | true =>
  rw [hc] at hg
  simp only [cond_true, Option.some.injEq] at hg
  subst hg
  exact optShL_ok hsc hl hr
end Go.Proofs.YtbllpnjappddeaaGreat.Den
end
section
set_option linter.unusedSimpArgs false
set_option linter.unusedVariables false
set_option maxRecDepth 100000
namespace Go.Proofs.YtbllpnjappddeaaGreat.Den
open Go.RowKit
variable {P : Program} {ρ : Vals} {ν : Nat -> Option Name}
/-- What names 0 (sums) and 1 (signs: the key's length is told ahead) say. -/
def ofI (l : List Int) : List UInt8 := l.map fun n => UInt8.ofNat n.toNat
def shaF : Nat -> List Int -> Nat -> UInt8
 | 0, l, i => (shaSum (ofI l)).getD i 0
 | _ + 1, n :: l, i => (macOf ((ofI l).take n.toNat) ((ofI l).drop n.toNat)).getD i 0
 | _ + 1, [], _ => 0
theorem ofI_dens : ∀ {l : List IE} {b : List UInt8}, strOf ρ l = ⟨b.toArray⟩ -> ofI (IE.dens ρ l) = b := by
 intro l b h
 have h1 : (l.map fun e => UInt8.ofNat (e.den ρ).toNat) = b := by
  have := congrArg (fun x : ByteArray => x.data.toList) h
  simpa [strOf] using this
 rw [<- h1]
 clear h h1
 induction l with
 | nil => rfl
 | cons a l ih => show _ :: ofI (IE.dens ρ l) = _ :: _; rw [ih]
/-- All parts' bytes. -/
def symParts (h : Mem) : List SV -> Option (List IE)
 | [] => some []
 | x :: r =>
  match partS h 1 x with
  | some (k, l) =>
   match sbytes l with
   | some a => bif Nat.beq a.length k then (symParts h r).map (a ++ ·) else none
   | none => none
  | none => none
theorem strOfX_append (a b : List IE) : strOf ρ (a ++ b) = strOf ρ a ++ strOf ρ b := by
 unfold strOf
 apply ByteArray.ext
 simp
theorem strOf_list {l : List IE} {b : List UInt8} (h : strOf ρ l = ⟨b.toArray⟩) : l.length = b.length := by
 have := congrArg ByteArray.size h
 rw [strOf_size] at this
 rw [this]; show b.toArray.size = b.length; simp
theorem symParts_rel {h : Mem} {H : AHeap} (hm : MRows ρ ν h H) : ∀ {l : List SV} {ys : List AV} {es : List IE}, SRels ρ ν l ys -> symParts h l = some es -> ∃ b, partsC H 1 ys = some (b.length, bs b) /\ strOf ρ es = ⟨b.toArray⟩
 | [], ys, es, hx, h => by
  cases hx
  cases h
  exact ⟨[], rfl, rfl⟩
 | a :: l, ys, es, hx, h => by
  cases hx with
  | cons hx ht =>
   simp only [symParts] at h
   split at h
   ·rename_i k c hs
    split at h
    ·rename_i a' hl
     cases hc : Nat.beq a'.length k with
     | false => rw [hc] at h; cases h
     | true =>
      rw [hc] at h
      have hk := Nat.eq_of_beq_eq_true hc
      simp only [cond_true, Option.map_eq_some_iff] at h
      obtain ⟨b, h1, rfl⟩ := h
      obtain ⟨xs, g1, g2, _⟩ := partS_rel hm hx hs
      obtain ⟨b1, e1, e2⟩ := sbytes_ok g2 hl
      obtain ⟨b2, f1, f2⟩ := symParts_rel hm ht h1
      refine ⟨b1 ++ b2, ?_, ?_⟩
      ·have : k = b1.length := by rw [<- hk, strOf_list e2]
       simp only [partsC, g1, f1, Option.map_some, bytesA_some e1, bs_append, this, List.length_append]
      ·rw [strOfX_append, e2, f2]
       apply ByteArray.ext
       simp
    ·cases h
   ·cases h
/-- Thirty-two bytes with a name. -/
def fnB (f : Nat) (l : List IE) : List SV := [.int .u8 (.fn f l 0), .int .u8 (.fn f l 1), .int .u8 (.fn f l 2), .int .u8 (.fn f l 3), .int .u8 (.fn f l 4), .int .u8 (.fn f l 5), .int .u8 (.fn f l 6), .int .u8 (.fn f l 7), .int .u8 (.fn f l 8), .int .u8 (.fn f l 9), .int .u8 (.fn f l 10), .int .u8 (.fn f l 11), .int .u8 (.fn f l 12), .int .u8 (.fn f l 13), .int .u8 (.fn f l 14), .int .u8 (.fn f l 15), .int .u8 (.fn f l 16), .int .u8 (.fn f l 17), .int .u8 (.fn f l 18), .int .u8 (.fn f l 19), .int .u8 (.fn f l 20), .int .u8 (.fn f l 21), .int .u8 (.fn f l 22), .int .u8 (.fn f l 23), .int .u8 (.fn f l 24), .int .u8 (.fn f l 25), .int .u8 (.fn f l 26), .int .u8 (.fn f l 27), .int .u8 (.fn f l 28), .int .u8 (.fn f l 29), .int .u8 (.fn f l 30), .int .u8 (.fn f l 31)]
theorem fnB_eq (f : Nat) (l : List IE) : fnB f l = (List.range 32).map fun i => .int .u8 (.fn f l i) := rfl
theorem fnB_rel' {f : Nat} {l : List IE} {b : List UInt8} (h : ∀ i, i < b.length -> ρ.f f (IE.dens ρ l) i = b.getD i 0) : ∀ (n k : Nat), n + k = b.length -> SRels ρ ν ((List.range' k n).map fun i => .int .u8 (.fn f l i)) (bs (b.drop k))
 | 0, k, hk => by
  rw [List.drop_of_length_le (by omega)]; exact .nil
 | n + 1, k, hk => by
  have hlt : k < b.length := by omega
  rw [List.range'_succ, List.map_cons, List.drop_eq_getElem_cons hlt]
  refine .cons ?_ (fnB_rel' h n (k + 1) (by omega))
  have e : b[k] = ρ.f f (IE.dens ρ l) k := by
   rw [h k hlt, List.getD_eq_getElem?_getD, List.getElem?_eq_getElem hlt]; rfl
  rw [e]
  exact .int .u8 (.fn f l k)
theorem fnB_rel {f : Nat} {l : List IE} {b : List UInt8} (hb : b.length = 32) (h : ∀ i, i < b.length -> ρ.f f (IE.dens ρ l) i = b.getD i 0) : SRels ρ ν (fnB f l) (bs b) := by
 rw [fnB_eq, List.range_eq_range']
 have := fnB_rel' (ν := ν) h 32 0 (by omega)
 simpa using this
def symSum (args : List SV) (h : Mem) : SRes :=
 match args with
 | [p] =>
  match partS h 1 p with
  | some (m, ps) =>
   match symParts h ps with
   | some l => bif Nat.blt 0 m && Nat.ble m 1099511627776 && Nat.blt 0 l.length && Nat.ble l.length 1099511627776 then some (.agg (fnB 0 l), h) else none
   | none => none
  | none => none
 | _ => none
/-- Known bytes: their sum; others: its name. -/
def osumX (args : List SV) (h : Mem) : SRes :=
 match osumB args h with
 | some x => some x
 | none => symSum args h
theorem osumX_ok (hρ : ρ.f = shaF) {args : List SV} {h h' : Mem} {r : SV} (hr : osumX args h = some (r, h')) : isGo Tryz.prog 240 = true /\ ∀ (ν : Nat -> Option Name) (H : AHeap) (nm : Name) (xs : List AV), MRel ρ ν h H -> Fre ν nm -> SRels ρ ν args xs ->
  ∃ z H', Sim Tryz.prog 240 xs nm H z H' /\ Out ρ ν nm r h' z H' := by
 unfold osumX at hr
 split at hr
 ·rename_i x hx
  cases hr
  exact osumB_ok hx
 refine ovr_fn sum_ok (g := symSum) (fun args h r h' hr ν H nm xs hm hf hx => ?_) hr
 unfold symSum at hr
 split at hr
 ·rename_i p
  split at hr
  ·rename_i m ps hs
   split at hr
   ·rename_i l hl
    cases hc : (Nat.blt 0 m && Nat.ble m 1099511627776 && Nat.blt 0 l.length && Nat.ble l.length 1099511627776) with
    | false => rw [hc] at hr; cases hr
    | true =>
     rw [hc] at hr
     simp only [cond_true, Option.some.injEq, Prod.mk.injEq] at hr
     obtain ⟨rfl, rfl⟩ := hr
     simp only [Bool.and_eq_true] at hc
     obtain ⟨⟨⟨c1, c2⟩, c3⟩, c4⟩ := hc
     cases hx with
     | @cons _ y _ _ hx t =>
      cases t
      obtain ⟨ys, g1, g2, g3⟩ := partS_rel hm.rows hx hs
      have hel : elems H 1 y = some (m, ys) := by
       rcases g3 with ⟨_, rfl, _⟩ | ⟨h4, h5⟩
       ·cases c1
       ·exact src_elems h4 h5 (blt_lt c1)
      obtain ⟨b, f1, f2⟩ := symParts_rel hm.rows g2 hl
      have hlen := strOf_list f2
      refine ⟨.agg (bs (shaSum b)), H, ?_, .same hm (.agg (fnB_rel (shaSum_length b) fun i _ => ?_))⟩
      ·simp only [sumS, hel, f1, bytesA_bs]
       rw [if_pos ⟨by have := blt_lt c3; omega, by have := Nat.le_of_ble_eq_true c4; omega, Nat.le_of_ble_eq_true c2⟩]
      ·rw [hρ]
       show (shaSum (ofI (IE.dens ρ l))).getD i 0 = _
       rw [ofI_dens f2]
   ·cases hr
  ·cases hr
 ·cases hr
def symMac (args : List SV) (h : Mem) : SRes :=
 match args with
 | [key, .sl q off len 1] =>
  match symParts h [key], partS h 1 (.sl q off len 1) with
  | some k, some (m, ps) =>
   match symParts h ps with
   | some l => bif Nat.ble k.length 64 && Nat.ble l.length 549755813888 && Nat.blt 0 m && Nat.ble m 549755813 && ps.all SV.one then forceN k.length fun n => some (.agg (fnB 1 (.lit (.ofNat n) :: (k ++ l))), h) else none
   | none => none
  | _, _ => none
 | _ => none
def omacX (args : List SV) (h : Mem) : SRes :=
 match omac args h with
 | some x => some x
 | none => symMac args h
theorem omacX_ok (hρ : ρ.f = shaF) {args : List SV} {h h' : Mem} {r : SV} (hr : omacX args h = some (r, h')) : isGo Tryz.prog 143 = true /\ ∀ (ν : Nat -> Option Name) (H : AHeap) (nm : Name) (xs : List AV), MRel ρ ν h H -> Fre ν nm -> SRels ρ ν args xs ->
  ∃ z H', Sim Tryz.prog 143 xs nm H z H' /\ Out ρ ν nm r h' z H' := by
 unfold omacX at hr
 split at hr
 ·rename_i x hx
  cases hr
  exact omac_ok hx
 refine ovr_fn mac_ok (g := symMac) (fun args h r h' hr ν H nm xs hm hf hx => ?_) hr
 unfold symMac at hr
 split at hr
 ·rename_i key q off len
  split at hr
  ·rename_i k m ps hk hs
   split at hr
   ·rename_i l hl
    cases hc : (Nat.ble k.length 64 && Nat.ble l.length 549755813888 && Nat.blt 0 m && Nat.ble m 549755813 && ps.all SV.one) with
    | false => rw [hc] at hr; cases hr
    | true =>
     rw [hc] at hr
     simp only [cond_true, forceN_eq, Option.some.injEq, Prod.mk.injEq] at hr
     obtain ⟨rfl, rfl⟩ := hr
     simp only [Bool.and_eq_true] at hc
     obtain ⟨⟨⟨⟨c1, c2⟩, c3⟩, c4⟩, c5⟩ := hc
     cases hx with
     | @cons _ yk _ _ hxk t =>
      cases t with
      | @cons _ y _ _ hx t =>
       cases t
       obtain ⟨ys, g1, g2, g3⟩ := partS_rel hm.rows hx hs
       have hel : elems H 1 y = some (m, ys) := by
        rcases g3 with ⟨_, rfl, _⟩ | ⟨h4, h5⟩
        ·cases c3
        ·exact src_elems h4 h5 (blt_lt c3)
       obtain ⟨bl, f1, f2⟩ := symParts_rel hm.rows g2 hl
       obtain ⟨bk, k1, k2⟩ := symParts_rel hm.rows (.cons hxk .nil) hk
       have hpk : partC H 1 yk = some (bk.length, bs bk) := by
        obtain ⟨a, c, n', c', e1, e2, e3, e4⟩ := partsC_cons k1
        simp only [partsC, Option.some.injEq, Prod.mk.injEq] at e2
        obtain ⟨rfl, rfl⟩ := e2
        rw [e1, e3, e4, List.append_nil, Nat.add_zero]
       have hyo : ys.all AV.one = true := ones_rel g2 c5
       have hll := strOf_list f2
       have hkl := strOf_list k2
       cases hx with
       | sl =>
        refine ⟨.agg (bs (macOf bk bl)), H, ?_, .same hm (.agg (fnB_rel (shaSum_length _) fun i _ => ?_))⟩
        ·simp only [macS, hpk, hel, f1, bytesA_bs]
         rw [if_pos ⟨by have := Nat.le_of_ble_eq_true c1; omega, by have := Nat.le_of_ble_eq_true c2; omega, Nat.le_of_ble_eq_true c4, blt_lt c3, hyo⟩]
        ·rw [hρ]
         have e : ofI (IE.dens ρ (k ++ l)) = bk ++ bl := ofI_dens (by
          rw [strOfX_append, k2, f2]
          apply ByteArray.ext
          simp)
         show (macOf ((ofI (IE.dens ρ (k ++ l))).take k.length) ((ofI (IE.dens ρ (k ++ l))).drop k.length)).getD i 0 = _
         rw [e, hkl, List.take_left, List.drop_left]
   ·cases hr
  ·cases hr
 ·cases hr
/-! ### a byte, a sum, that is not known -/
def symByte (args : List SV) (h : Mem) : SRes :=
 match args with
 | [.ptr q 0] =>
  match h.get q with
  | some [.im true len (.int .u8 e :: rest), .int .i64 (.lit (.ofNat 0))] => bif Nat.beq (Nat.add rest.length 1) len && e.isByte then forceN (Nat.sub len 1) fun m => some (.int .i64 e, h.set q [.im true m rest, .int .i64 (.lit (.ofNat 0))]) else none
  | _ => none
 | _ => none
theorem symByte_rel {args : List SV} {h h' : Mem} {r : SV} (hr : symByte args h = some (r, h')) {H : AHeap} {nm : Name} {xs : List AV} (hm : MRel ρ ν h H) (hx : SRels ρ ν args xs) : ∃ z H', byteRS xs nm H = some (z, H') /\ Out ρ ν nm r h' z H' := by
 unfold symByte at hr
 split at hr
 ·rename_i q
  split at hr
  ·rename_i len e rest hg
   cases hc : (Nat.beq (Nat.add rest.length 1) len && e.isByte) with
   | false => rw [hc] at hr; cases hr
   | true =>
    rw [hc] at hr
    simp only [cond_true, forceN_eq, Option.some.injEq, Prod.mk.injEq] at hr
    obtain ⟨rfl, rfl⟩ := hr
    simp only [Bool.and_eq_true] at hc
    have c1 : rest.length + 1 = len := Nat.eq_of_beq_eq_true hc.1
    have hb := isByte_ok (ρ := ρ) hc.2
    cases hx with
    | cons hq t =>
     cases t
     cases hq with
     | @ptr _ _ m hν =>
      obtain ⟨m', row', hν', hH, hrow⟩ := hm.rows _ _ hg
      rw [hν] at hν'; cases hν'
      cases hrow with
      | cons h1 t =>
       cases t with
       | cons h2 t =>
        cases t
        cases h2
        cases h1 with
        | @im _ _ _ c' h1 =>
         cases h1 with
         | @cons _ y _ ys hy hys =>
          cases hy
          have hl : ys.length + 1 = len := by rw [<- hys.length, c1]
          have hH' : H m = some [.im true len (.val (.int .u8 (e.den ρ)) :: ys), vi 0] := hH
          refine ⟨vi (e.den ρ), upd H m (some (rdr (len - 1) ys 0)), ?_, .same (hm.set hν (row := [.im true (Nat.sub len 1) rest, .int .i64 (.lit (.ofNat 0))]) (.cons (.im hys) (.cons (.int .i64 (.lit (.ofNat 0))) .nil))) (.int .i64 e)⟩
          have hb2 : bytesA [.val (.int .u8 (e.den ρ))] = some [UInt8.ofNat (e.den ρ).toNat] := by simp only [bytesA]; rw [if_pos hb]; rfl
          have hle : IntKind.i64.wrap ((le [UInt8.ofNat (e.den ρ).toNat] : Nat) : Int) = e.den ρ := by
           have : (UInt8.ofNat (e.den ρ).toNat).toNat = (e.den ρ).toNat := by simp; omega
           simp only [le, this]
           rw [IntKind.wrap_i64]; omega
          simp only [byteRS, numberS, hH']
          rw [if_pos ⟨by decide, by decide, by simp; omega⟩, if_neg (by rintro (h | h); exact h rfl; omega)]
          simp only [show ((1 : Int)).toNat = 1 from rfl, List.take_succ_cons, List.take_zero, hb2, hle, List.drop_succ_cons, List.drop_zero]
  ·cases hr
 ·cases hr
def obyteX (args : List SV) (h : Mem) : SRes :=
 match onum 1 args h with
 | some x => some x
 | none => symByte args h
theorem obyteX_ok {args : List SV} {h h' : Mem} {r : SV} (hr : obyteX args h = some (r, h')) : isGo Tryz.prog 206 = true /\ ∀ (ν : Nat -> Option Name) (H : AHeap) (nm : Name) (xs : List AV), MRel ρ ν h H -> Fre ν nm -> SRels ρ ν args xs ->
  ∃ z H', Sim Tryz.prog 206 xs nm H z H' /\ Out ρ ν nm r h' z H' := by
 unfold obyteX at hr
 split at hr
 ·rename_i x hx
  cases hr
  exact obyteR_ok hx
 ·exact ovr_fn byteR_ok (g := symByte) (fun args h r h' hr ν H nm xs hm hf hx => symByte_rel hr hm hx) hr
/-- So many bytes, known or not, and what stands behind them. -/
def symTake : Nat -> List SV -> Option (List IE × List SV)
 | 0, l => some ([], l)
 | k + 1, l =>
  match l with
  | .int .u8 e :: r => bif e.isByte then (symTake k r).map (fun p => (e :: p.1, p.2)) else none
  | _ => none
theorem symTake_rel : ∀ {k : Nat} {l rest : List SV} {es : List IE} {xs : List AV}, symTake k l = some (es, rest) -> SRels ρ ν l xs -> ∃ b, xs.take k = bs b /\ b.length = k /\ SRels ρ ν rest (xs.drop k) /\ SRels ρ ν (es.map fun e => SV.int .u8 e) (bs b)
 | 0, l, rest, es, xs, h, hx => by
  simp only [symTake, Option.some.injEq, Prod.mk.injEq] at h
  obtain ⟨rfl, rfl⟩ := h
  exact ⟨[], by simp [bs], rfl, by simpa using hx, .nil⟩
 | k + 1, l, rest, es, xs, h, hx => by
  simp only [symTake] at h
  split at h
  ·rename_i e r
   cases hc : e.isByte with
   | false => rw [hc] at h; cases h
   | true =>
    rw [hc] at h
    simp only [cond_true, Option.map_eq_some_iff] at h
    obtain ⟨⟨a, b⟩, h1, h2⟩ := h
    simp only [Prod.mk.injEq] at h2
    obtain ⟨rfl, rfl⟩ := h2
    have hb := isByte_ok (ρ := ρ) hc
    cases hx with
    | cons hx ht =>
     cases hx
     obtain ⟨b, g1, g2, g3, g4⟩ := symTake_rel h1 ht
     have e1 : ((UInt8.ofNat (e.den ρ).toNat).toNat : Int) = e.den ρ := by simp; omega
     refine ⟨UInt8.ofNat (e.den ρ).toNat :: b, ?_, by simp [g2], by simpa using g3, ?_⟩
     ·simp only [List.take_succ_cons, g1, bs, List.map_cons, e1]
     ·refine .cons ?_ g4
      show SRel ρ ν _ (.val (.int .u8 ((UInt8.ofNat (e.den ρ).toNat).toNat : Int)))
      rw [e1]
      exact .int .u8 e
  ·cases h
def symHash (args : List SV) (h : Mem) : SRes :=
 match args with
 | [.ptr q 0] =>
  match h.get q with
  | some [.im true len cells, .int .i64 (.lit (.ofNat 0))] =>
   bif Nat.beq cells.length len && Nat.ble 32 len then
    match symTake 32 cells with
    | some (es, rest) => forceN (Nat.sub len 32) fun m => some (.agg (es.map fun e => SV.int .u8 e), h.set q [.im true m rest, .int .i64 (.lit (.ofNat 0))])
    | none => none
   else none
  | _ => none
 | _ => none
def ohashX (args : List SV) (h : Mem) : SRes :=
 match ohash args h with
 | some x => some x
 | none => symHash args h
theorem ohashX_ok {args : List SV} {h h' : Mem} {r : SV} (hr : ohashX args h = some (r, h')) : isGo Tryz.prog 312 = true /\ ∀ (ν : Nat -> Option Name) (H : AHeap) (nm : Name) (xs : List AV), MRel ρ ν h H -> Fre ν nm -> SRels ρ ν args xs ->
  ∃ z H', Sim Tryz.prog 312 xs nm H z H' /\ Out ρ ν nm r h' z H' := by
 unfold ohashX at hr
 split at hr
 ·rename_i x hx
  cases hr
  exact ohash_ok hx
 refine ovr_fn hash_ok (g := symHash) (fun args h r h' hr ν H nm xs hm hfre hx => ?_) hr
 unfold symHash at hr
 split at hr
 ·rename_i q
  split at hr
  ·rename_i len cells hg
   cases hc : (Nat.beq cells.length len && Nat.ble 32 len) with
   | false => rw [hc] at hr; cases hr
   | true =>
    rw [hc] at hr
    simp only [cond_true] at hr
    simp only [Bool.and_eq_true] at hc
    have c1 := Nat.eq_of_beq_eq_true hc.1
    have c2 := Nat.le_of_ble_eq_true hc.2
    split at hr
    ·rename_i es rest ht
     simp only [forceN_eq, Option.some.injEq, Prod.mk.injEq] at hr
     obtain ⟨rfl, rfl⟩ := hr
     cases hx with
     | cons hq t =>
      cases t
      cases hq with
      | @ptr _ _ m hν =>
       obtain ⟨m', row', hν', hH, hrow⟩ := hm.rows _ _ hg
       rw [hν] at hν'; cases hν'
       cases hrow with
       | cons h1 t =>
        cases t with
        | cons h2 t =>
         cases t
         cases h2
         cases h1 with
         | @im _ _ _ c' h1 =>
          obtain ⟨b, g1, g2, g3, g4⟩ := symTake_rel ht h1
          have hcl : c'.length = len := by rw [<- h1.length, c1]
          refine ⟨.agg (bs b), upd H m (some (rdr (len - 32) (c'.drop 32) 0)), ?_, ?_⟩
          ·have hH' : H m = some [.im true len c', vi 0] := hH
           simp only [hashRS, hH', g1, bytesA_bs]
           exact if_pos (And.intro c2 hcl)
          ·refine .same (hm.set hν ?_) (.agg g4)
           exact .cons (.im g3) (.cons (.int .i64 (.lit (.ofNat 0))) .nil)
    ·cases hr
  ·cases hr
 ·cases hr
/-- One more row of a table. -/
def orow (f₀ : FuncId) (g : List SV -> Mem -> SRes) (ovr : FuncId -> Option (List SV -> Mem -> SRes)) (f : FuncId) : Option (List SV -> Mem -> SRes) := bif Nat.beq f f₀ then some g else ovr f
theorem orow_ok {f₀ : FuncId} {g : List SV -> Mem -> SRes} {ovr : FuncId -> Option (List SV -> Mem -> SRes)} (hg : ∀ {args : List SV} {h h' : Mem} {r : SV}, g args h = some (r, h') -> isGo P f₀ = true /\ ∀ (ν : Nat -> Option Name) (H : AHeap) (nm : Name) (xs : List AV), MRel ρ ν h H -> Fre ν nm -> SRels ρ ν args xs -> ∃ z H', Sim P f₀ xs nm H z H' /\ Out ρ ν nm r h' z H')
  (ho : OvrOK P ρ ovr) : OvrOK P ρ (orow f₀ g ovr) := by
 intro f g' hg' args h r h' hr
 unfold orow at hg'
 cases e : Nat.beq f f₀ with
 | true =>
  rw [e] at hg'
  simp only [cond_true, Option.some.injEq] at hg'
  subst hg'
  rw [Nat.eq_of_beq_eq_true e]
  exact hg hr
 | false =>
  rw [e] at hg'
  exact ho f g' hg' args h r h' hr
/-- The table, with names for what is not known: without what reads a delta as a whole. -/
def ovrX0 : FuncId -> Option (List SV -> Mem -> SRes) := orow 240 osumX (orow 143 omacX (orow 206 obyteX (orow 312 ohashX (orow 134 osafe ovrV))))
theorem ovrX0_ok (hρ : ρ.f = shaF) : OvrOK Tryz.prog ρ ovrX0 := orow_ok (osumX_ok hρ) (orow_ok (omacX_ok hρ) (orow_ok obyteX_ok (orow_ok ohashX_ok (orow_ok osafe_ok (ovrV_ok ρ)))))
end Go.Proofs.YtbllpnjappddeaaGreat.Den
end
section
set_option linter.unusedSimpArgs false
set_option linter.unusedVariables false
namespace Go.Proofs.YtbllpnjappddeaaGreat.Den
open Go.RowKit
variable {P : Program}
def trueS : Spec := fun args nm H =>
 match args with
 | [] => some (vb true, H)
 | _ => none
/-- It is true, whatever the memory. -/
theorem fn_true {ρ : Vals} {sc : SCall} (hsc : SCallOK P ρ sc) {f : FuncId} (h : isTrue (sc f [] ⟨0, .nil⟩) = true) : FnOK P f trueS := by
 have hg : isGo P f = true := by
  cases hc : sc f [] ⟨0, .nil⟩ with
  | none => rw [hc] at h; cases h
  | some x => exact (hsc _ _ _ _ _ hc).1
 refine ⟨hg, fun args nm H r H' hs => ?_⟩
 unfold trueS at hs
 split at hs
 ·cases hs
  have key : ∃ H₁, Sim P f [] nm (fun _ => none) (vb true) H₁ := by
   cases hc : sc f [] ⟨0, .nil⟩ with
   | none => rw [hc] at h; cases h
   | some x =>
    obtain ⟨r, h'⟩ := x
    rw [hc] at h
    cases r with
    | bool b =>
     have hb : b = true := h
     subst hb
     obtain ⟨_, g⟩ := hsc _ _ _ _ _ hc
     obtain ⟨z, H₁, k1, ν', k2, k3, k4, k5⟩ := g (fun _ => none) (fun _ => none) nm [] ⟨fun n row hn => (by rw [show (⟨0, .nil⟩ : Mem).get n = none from nil_get n] at hn; cases hn), fun n k m hn => (by cases hn), fun n hn => absurd rfl hn⟩ (fun n s hn => (by cases hn)) .nil
     cases k5
     exact ⟨H₁, k1⟩
    | _ => cases h
  obtain ⟨H₁, hsim⟩ := key
  have hg0 : givenH (fun _ => False) H = fun _ => none := by
   funext k
   unfold givenH
   rw [if_neg (fun h => h)]
  have hfr := Sim.frame (D := fun _ => False) (H := H) (H' := H₁) (by rw [hg0]; exact hsim)
  intro σ I w vs hfresh hv har
  refine (hfr σ I w vs hfresh hv har).mono ?_
  rintro e w' ⟨v, σ', I', rfl, st, hr⟩
  refine ⟨v, σ', I', rfl, st.trans (Step.forget st.rel ?_), hr⟩
  intro k row hk
  have hnu : ¬ Under nm k := by
   rintro ⟨s, rfl⟩
   obtain ⟨p, _, _, _, h1, _⟩ := har.rows _ _ hk
   rw [hfresh s] at h1
   cases h1
  unfold leftH
  rw [if_neg (by rintro (h | h); exact hnu h; exact h), hk]
 ·cases hs
end Go.Proofs.YtbllpnjappddeaaGreat.Den
end
section
set_option linter.unusedSimpArgs false
set_option linter.unusedVariables false
set_option maxRecDepth 1000000
namespace Go.Proofs.YtbllpnjappddeaaGreat
open Go.RowKit
theorem wrap64_id (x : Int) (h : -9223372036854775808 <= x) (k : x <= 9223372036854775807) : wrap64 x = x := by simp only [wrap64]; omega
theorem tmod_neg (a n : Int) (hn : 0 < n) (h : a.tmod n < 0) : a.tmod n + n = a % n := by
  have h5 := Int.tmod_add_mul_tdiv a n
  have h6 : -n < a.tmod n := by have := Int.lt_tmod_of_pos a hn; omega
  have h7 : a % n = (a.tmod n) % n := by rw [<- Int.add_mul_emod_self_left (a.tmod n) n (a.tdiv n), h5]
  rw [h7, <- Int.add_emod_right, Int.emod_eq_of_lt (by omega) (by omega)]
theorem tmod_pos (a n : Int) (hn : 0 < n) (h : 0 <= a.tmod n) : a.tmod n = a % n := by
 have h5 := Int.tmod_add_mul_tdiv a n
 have h8 := Int.tmod_lt_of_pos a hn
 have h7 : a % n = (a.tmod n) % n := by rw [<- Int.add_mul_emod_self_left (a.tmod n) n (a.tdiv n), h5]
 rw [h7, Int.emod_eq_of_lt h h8]
set_option maxHeartbeats 400000 in
theorem within20_any (a n : Int) (hn : 0 < n) (hn2 : n <= 9223372036854775807) (w : World) :
  Calls Tryz.prog 30 #[.int .i64 a, .int .i64 n] w fun e w' => e = .returned (.int .i64 (a % n)) /\ w = w' := by
 have hn0 : n ≠ 0 := by omega
 by_cases h : a.tmod n < 0
 ·have e := tmod_neg a n hn h
  have h0 := Int.emod_nonneg a hn0
  have h1 := Int.emod_lt_of_pos a hn
  have e2 : wrap64 (a.tmod n + n) = a % n := by rw [e]; exact wrap64_id _ (by omega) (by omega)
  have E := Lib.hid e2
  clear e e2 h0 h1
  go_enter Tryz.func30, Tryz.ntmps30
  go_wp2
  rw [E.out]
  go_ret
  exact ⟨rfl, rfl⟩
 ·have h' : 0 <= a.tmod n := by omega
  have e := tmod_pos a n hn h'
  have E := Lib.hid e
  clear e
  go_enter Tryz.func30, Tryz.ntmps30
  go_wp2
  rw [E.out]
  go_ret
  exact ⟨rfl, rfl⟩
namespace Den
variable {ρ : Vals}
def withinS : Spec := fun args nm H =>
 match args with
 | [.val (.int .i64 a), .val (.int .i64 n)] => if 0 < n /\ n <= 9223372036854775807 then some (vi (a % n), H) else none
 | _ => none
theorem within_fn {f : FuncId} (hgo : isGo Tryz.prog f = true) (h : ∀ (a n : Int), 0 < n -> n <= 9223372036854775807 -> ∀ w, Calls Tryz.prog f #[.int .i64 a, .int .i64 n] w fun e w' => e = .returned (.int .i64 (a % n)) /\ w = w') : FnOK Tryz.prog f withinS := by
 refine ⟨hgo, fun args nm H r H' hs => ?_⟩
 unfold withinS at hs
 split at hs
 ·rename_i a n
  split at hs
  ·rename_i hc
   cases hs
   refine Sim.below (vs := #[.int .i64 a, .int .i64 n]) (fun σ I us hu => ?_) (fun _ _ => .val _) fun w => ?_
   ·cases hu with
    | cons a t => cases t with | cons b t => cases t; cases a; cases b; rfl
   ·refine (h a n hc.1 hc.2 w).mono fun e w' ⟨h1, h2⟩ => ⟨?_, h2 ▸ Below.refl _ _⟩
    rw [h1]
  ·cases hs
 ·cases hs
theorem within20_ok : FnOK Tryz.prog 30 withinS := within_fn (by kernel_rfl) within20_any
/-! ### unknown numbers, of which it is known what they are in such a range -/
/-- Number i, in a range of n, is said by an expression. -/
def owin (l : List (Nat × Nat × IE)) (args : List SV) (h : Mem) : SRes :=
 match args with
 | [.int .i64 (.var i), .int .i64 (.lit (.ofNat n))] => match l.find? fun p => Nat.beq p.1 i && Nat.beq p.2.1 n with
  | some p => some (.int .i64 p.2.2, h)
  | none => none
 | _ => none
theorem owin_ok {f : FuncId} (hf : FnOK Tryz.prog f withinS) {l : List (Nat × Nat × IE)} (hl : ∀ p ∈ l, 0 < p.2.1 /\ (p.2.1 : Int) <= 9223372036854775807 /\ p.2.2.den ρ = ρ.i p.1 % (p.2.1 : Int)) {args : List SV} {h h' : Mem} {r : SV} (hr : owin l args h = some (r, h')) :
  isGo Tryz.prog f = true /\ ∀ (ν : Nat -> Option Name) (H : AHeap) (nm : Name) (xs : List AV), MRel ρ ν h H -> Fre ν nm -> SRels ρ ν args xs -> ∃ z H', Sim Tryz.prog f xs nm H z H' /\ Out ρ ν nm r h' z H' := by
 refine ovr_fn hf (g := owin l) (fun args h r h' hr ν H nm xs hm hfre hx => ?_) hr
 unfold owin at hr
 split at hr
 ·rename_i i n
  split at hr
  ·rename_i p hp
   simp only [Option.some.injEq, Prod.mk.injEq] at hr
   obtain ⟨rfl, rfl⟩ := hr
   obtain ⟨h1, h2, h3⟩ := hl p (List.mem_of_find?_eq_some hp)
   have h4 := List.find?_some hp
   simp only [Bool.and_eq_true] at h4
   have e1 := Nat.eq_of_beq_eq_true h4.1
   have e2 := Nat.eq_of_beq_eq_true h4.2
   subst e1 e2
   cases hx with
   | cons hx t =>
    cases t with
    | cons hy t =>
     cases t
     cases hx
     cases hy
     refine ⟨vi (ρ.i p.1 % (p.2.1 : Int)), H, ?_, Out.same hm ?_⟩
     ·show (if (0 : Int) < (p.2.1 : Int) /\ (p.2.1 : Int) <= 9223372036854775807 then _ else none) = _
      rw [if_pos ⟨by omega, h2⟩]; rfl
     ·rw [<- h3]; exact .int .i64 _
  ·cases hr
 ·cases hr
end Den
end Go.Proofs.YtbllpnjappddeaaGreat
end
section
namespace Go.Proofs.YtbllpnjappddeaaGreat
open Go.ChangeShapes Go.WideShapes Go.ChangeAt Go.RowKit
/-- A law without variables: it answered true, the arguments read as they did, and only new memory was written. -/
theorem law_post {H : Type} {enc : TypeId × Value -> H} {P : Program} {f : Func} {s : ChangeSpec} {tb : TypeId} {W W' : World} {args : Array Value} {ds : List (DataW H)} {ps : List MemPlace}
  (hb : Below W.heap.size W W') (hres : f.resultTypes = #[tb]) (htb : P.underlying tb = some .bool)
  (hW : DataW.Whole enc P f.params.toList s.vars false W args.toList ds [] ps)
  (hs : s.fn H ds = { results := [.lit (.bool true)], args := ds })
  (hargs : ∀ sp : Nat -> Bool, (∀ p ∈ ps, sp p.block = true) -> DataW.TrodAll enc P W' 0 sp true f.params.toList args.toList ds ps)
  (hv : s.vars = []) :
  s.post enc P f false true false false W args (.bool true) W' := by
 have below : ∀ p ∈ ps, p.block < W.heap.size := fun p hp => hW.lt p hp
 have hvars : ∀ sp : Nat -> Bool, DataW.TrodVars enc P W' sp s.vars [] [] := fun sp => by rw [hv]; rfl
 have hsame : s.fn H (ds ++ []) = { results := [.lit (.bool true)], args := ds } := by rw [List.append_nil]; exact hs
 refine ⟨ds, [], ps, [], ps, [], hW, ?_, ?_, ?_, ?_, ?_⟩
 ·rw [hsame, hres]
  exact trodAll_mk1 (shut_bool htb true)
 ·rw [hsame]
  exact hargs _ fun p hp => by simpa using below p hp
 ·rw [hsame]
  exact hvars _
 ·exact World.keptBut_mono (fun p hp => ⟨hp, by simp [hp]⟩) (hb.frame (· ∈ ps))
 ·intro h
  cases h
end Go.Proofs.YtbllpnjappddeaaGreat
end
