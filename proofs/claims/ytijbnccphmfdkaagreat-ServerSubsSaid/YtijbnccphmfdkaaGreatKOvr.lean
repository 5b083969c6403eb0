/- What stands for functions; the plans of all regions; known calls. -/
import Derived.Test.YtijbnccphmfdkaaGreatKLib
import Derived.Test.YtijbnccphmfdkaaGreatKShaC
import Derived.Test.YtijbnccphmfdkaaGreatKSymD
section
set_option linter.unusedSimpArgs false
set_option maxRecDepth 1000000
namespace Go.Proofs.YtijbnccphmfdkaaGreat.Den

def ovrS (f : FuncId) : Option (List SV → Mem → SRes) :=
  bif Nat.beq f 144 then some (ogrow 1 1) else
  bif Nat.beq f 264 then some (ogrow 2 16) else
  bif Nat.beq f 161 then some oins else
  bif Nat.beq f 198 then some oadd else none

theorem ovrS_ok (ρ : Vals) : OvrOK Tryz.prog ρ ovrS := by
  intro f g hg args h r h' hr
  unfold ovrS at hg
  cases h1 : Nat.beq f 144 with
  | true =>
    rw [h1] at hg
    simp only [cond_true, Option.some.injEq] at hg
    subst hg
    rw [Nat.eq_of_beq_eq_true h1]
    exact ogrow_bytes ρ hr
  | false =>
    rw [h1] at hg
    cases h2 : Nat.beq f 264 with
    | true =>
      rw [h2] at hg
      simp only [cond_true, cond_false, Option.some.injEq] at hg
      subst hg
      rw [Nat.eq_of_beq_eq_true h2]
      exact ogrow_addrs ρ hr
    | false =>
      rw [h2] at hg
      cases h3 : Nat.beq f 161 with
      | true =>
        rw [h3] at hg
        simp only [cond_true, cond_false, Option.some.injEq] at hg
        subst hg
        rw [Nat.eq_of_beq_eq_true h3]
        exact oins_ok ρ hr
      | false =>
        rw [h3] at hg
        cases h4 : Nat.beq f 198 with
        | true =>
          rw [h4] at hg
          simp only [cond_true, cond_false, Option.some.injEq] at hg
          subst hg
          rw [Nat.eq_of_beq_eq_true h4]
          exact oadd_ok ρ hr
        | false => rw [h4] at hg; cases hg

/-- The executor, as it is used. -/
noncomputable def callO : SCall := gscall [] Tryz.prog 1000000 ovrS 60
theorem callO_ok (ρ : Vals) : SCallOK Tryz.prog ρ callO := by
  unfold callO
  rw [gscall_eq]
  exact scall_ok FOk.nil (ovrS_ok ρ) 60

end Go.Proofs.YtijbnccphmfdkaaGreat.Den
end

section
set_option linter.unusedSimpArgs false
set_option maxRecDepth 1000000
namespace Go.Proofs.YtijbnccphmfdkaaGreat.Den

noncomputable def tenOK (m : Nat) : Bool := (List.range 10).all fun j => fnOK Tryz.prog (Nat.add (Nat.mul 10 m) j)
theorem tenOK0 : tenOK 0 = true := by decide +kernel
theorem tenOK1 : tenOK 1 = true := by decide +kernel
theorem tenOK2 : tenOK 2 = true := by decide +kernel
theorem tenOK3 : tenOK 3 = true := by decide +kernel
theorem tenOK4 : tenOK 4 = true := by decide +kernel
theorem tenOK5 : tenOK 5 = true := by decide +kernel
theorem tenOK6 : tenOK 6 = true := by decide +kernel
theorem tenOK7 : tenOK 7 = true := by decide +kernel
theorem tenOK8 : tenOK 8 = true := by decide +kernel
theorem tenOK9 : tenOK 9 = true := by decide +kernel
theorem tenOK10 : tenOK 10 = true := by decide +kernel
theorem tenOK11 : tenOK 11 = true := by decide +kernel
theorem tenOK12 : tenOK 12 = true := by decide +kernel
theorem tenOK13 : tenOK 13 = true := by decide +kernel
theorem tenOK14 : tenOK 14 = true := by decide +kernel
theorem tenOK15 : tenOK 15 = true := by decide +kernel
theorem tenOK16 : tenOK 16 = true := by decide +kernel
theorem tenOK17 : tenOK 17 = true := by decide +kernel
theorem tenOK18 : tenOK 18 = true := by decide +kernel
theorem tenOK19 : tenOK 19 = true := by decide +kernel
theorem tenOK20 : tenOK 20 = true := by decide +kernel
theorem tenOK21 : tenOK 21 = true := by decide +kernel
theorem tenOK22 : tenOK 22 = true := by decide +kernel
theorem tenOK23 : tenOK 23 = true := by decide +kernel
theorem tenOK24 : tenOK 24 = true := by decide +kernel
theorem tenOK25 : tenOK 25 = true := by decide +kernel
theorem tenOK26 : tenOK 26 = true := by decide +kernel
theorem tenOK27 : tenOK 27 = true := by decide +kernel
theorem tenOK28 : tenOK 28 = true := by decide +kernel

theorem tenOK_at {m : Nat} (h : tenOK m = true) (i : Nat) (hi : i / 10 = m) : fnOK Tryz.prog i = true := by
  have := (List.all_eq_true.1 h) (i % 10) (List.mem_range.2 (Nat.mod_lt _ (by decide)))
  have e : Nat.add (Nat.mul 10 m) (i % 10) = i := by show 10 * m + i % 10 = i; omega
  rwa [e] at this
theorem size_is : Tryz.prog.funcs.size = 285 := by decide +kernel
theorem all_at (f : Nat) (hlt : f < 285) : fnOK Tryz.prog f = true := by
  have hd : f / 10 < 29 := by omega
  generalize hm : f / 10 = m at hd
  match m, hd with
  | 0, _ => exact tenOK_at tenOK0 f hm
  | 1, _ => exact tenOK_at tenOK1 f hm
  | 2, _ => exact tenOK_at tenOK2 f hm
  | 3, _ => exact tenOK_at tenOK3 f hm
  | 4, _ => exact tenOK_at tenOK4 f hm
  | 5, _ => exact tenOK_at tenOK5 f hm
  | 6, _ => exact tenOK_at tenOK6 f hm
  | 7, _ => exact tenOK_at tenOK7 f hm
  | 8, _ => exact tenOK_at tenOK8 f hm
  | 9, _ => exact tenOK_at tenOK9 f hm
  | 10, _ => exact tenOK_at tenOK10 f hm
  | 11, _ => exact tenOK_at tenOK11 f hm
  | 12, _ => exact tenOK_at tenOK12 f hm
  | 13, _ => exact tenOK_at tenOK13 f hm
  | 14, _ => exact tenOK_at tenOK14 f hm
  | 15, _ => exact tenOK_at tenOK15 f hm
  | 16, _ => exact tenOK_at tenOK16 f hm
  | 17, _ => exact tenOK_at tenOK17 f hm
  | 18, _ => exact tenOK_at tenOK18 f hm
  | 19, _ => exact tenOK_at tenOK19 f hm
  | 20, _ => exact tenOK_at tenOK20 f hm
  | 21, _ => exact tenOK_at tenOK21 f hm
  | 22, _ => exact tenOK_at tenOK22 f hm
  | 23, _ => exact tenOK_at tenOK23 f hm
  | 24, _ => exact tenOK_at tenOK24 f hm
  | 25, _ => exact tenOK_at tenOK25 f hm
  | 26, _ => exact tenOK_at tenOK26 f hm
  | 27, _ => exact tenOK_at tenOK27 f hm
  | 28, _ => exact tenOK_at tenOK28 f hm
  | _ + 29, hd => exact absurd hd (by omega)
theorem all_ok : FnsOK Tryz.prog fun _ => true := by
  intro f fn code _ hf hb
  have h := all_at f (by rw [← size_is]; exact (Array.getElem?_eq_some_iff.1 hf).1)
  simp only [fnOK, hf, hb] at h
  exact h

/-- The executor, quickest. -/
noncomputable def callP : SCall := hscall (fun _ => true) [] Tryz.prog 1000000 ovrS 60
theorem callP_eq : callP = callO := hscall_eq all_ok [] 1000000 ovrS 60
theorem callP_ok (ρ : Vals) : SCallOK Tryz.prog ρ callP := by rw [callP_eq]; exact callO_ok ρ

end Go.Proofs.YtijbnccphmfdkaaGreat.Den
end

section
set_option linter.unusedSimpArgs false
namespace Go.Proofs.YtijbnccphmfdkaaGreat.Den
open Go.RowKit
variable {P : Program} {ρ : Vals} {ν : Nat → Option Name}

/-! ### rows written out -/
noncomputable def cA (l r : List SV) : List SV := @List.rec SV (fun _ => List SV) r (fun a _ ih => a :: ih) l
noncomputable def cB (l : List Nat) (r : List SV) : List SV := @List.rec Nat (fun _ => List SV) r (fun n _ ih => SV.int .u8 (.lit (.ofNat n)) :: ih) l
noncomputable def zb : SV := .int .u8 (.lit (.ofNat 0))
noncomputable def cZ (n : Nat) (r : List SV) : List SV := @Nat.rec (fun _ => List SV) r (fun _ ih => zb :: ih) n
noncomputable def cE (l : List Nat) : List IE := @List.rec Nat (fun _ => List IE) [] (fun n _ ih => IE.lit (.ofNat n) :: ih) l
noncomputable def nI (n : Nat) : SV := .int .i64 (.lit (.ofNat n))
noncomputable def nN (n : Nat) : SV := .int .i64 (.lit (.negSucc n))
noncomputable def sN : SV := .val (.slice none 0 0)

/-! ### quick comparisons -/
noncomputable def kOrd : IntKind → Nat := @IntKind.rec (fun _ => Nat) 0 1 2 3 4 5 6 7
theorem kOrd_inj : ∀ {a b : IntKind}, kOrd a = kOrd b → a = b := by intro a b; cases a <;> cases b <;> simp [kOrd]
noncomputable def zq (a b : Int) : Bool := @Int.casesOn (fun _ => Bool) a (fun m => @Int.casesOn (fun _ => Bool) b (fun n => Nat.beq m n) fun _ => false) (fun m => @Int.casesOn (fun _ => Bool) b (fun _ => false) fun n => Nat.beq m n)
theorem zq_eq {a b : Int} (h : zq a b = true) : a = b := by
  cases a <;> cases b <;> first | cases h | (have h' := Nat.eq_of_beq_eq_true h; subst h'; rfl)
noncomputable def iq (a b : IE) : Bool :=
  match a, b with
  | .lit m, .lit n => zq m n
  | a, b => IE.beq a b
theorem iq_eq {a b : IE} (h : iq a b = true) : a = b := by
  unfold iq at h
  split at h
  · rw [zq_eq h]
  · exact IE.beq_eq h
noncomputable def vq (a b : SV) : Bool :=
  match a, b with
  | .int k m, .int k' n => Nat.beq (kOrd k) (kOrd k') && iq m n
  | a, b => SV.beq a b
theorem vq_eq {a b : SV} (h : vq a b = true) : a = b := by
  unfold vq at h
  split at h
  · simp only [Bool.and_eq_true] at h
    rw [kOrd_inj (Nat.eq_of_beq_eq_true h.1), iq_eq h.2]
  · exact SV.beq_eq h

noncomputable def isZ (a : SV) : Bool :=
  match a with
  | .int .u8 (.lit (.ofNat n)) => Nat.beq n 0
  | _ => false
theorem isZ_eq {a : SV} (h : isZ a = true) : a = zb := by
  unfold isZ at h
  split at h
  · rw [Nat.eq_of_beq_eq_true h]; rfl
  · cases h
/-- Just so many zero bytes. -/
noncomputable def tZ : Nat → List SV → Bool := @Nat.rec (fun _ => List SV → Bool) (fun l => @List.casesOn SV (fun _ => Bool) l true (fun _ _ => false)) (fun _ ih l => @List.casesOn SV (fun _ => Bool) l false (fun a r => @Bool.casesOn (fun _ => Bool) (isZ a) false (ih r)))
theorem tZ_eq : ∀ {n : Nat} {l : List SV}, tZ n l = true → l = cZ n []
  | 0, l, h => by cases l with
    | nil => rfl
    | cons a r => cases h
  | n + 1, l, h => by
    cases l with
    | nil => cases h
    | cons a r =>
      have h' : @Bool.casesOn (fun _ => Bool) (isZ a) false (tZ n r) = true := h
      cases hz : isZ a with
      | false => rw [hz] at h'; cases h'
      | true =>
        rw [hz] at h'
        have h2 : tZ n r = true := h'
        rw [isZ_eq hz, tZ_eq h2]; rfl

/-- A row: just these cells, and so many zero bytes. -/
noncomputable def rowq : List SV → Nat → List SV → Bool := @List.rec SV (fun _ => Nat → List SV → Bool) (fun m row => tZ m row) (fun a _ ih m row => @List.casesOn SV (fun _ => Bool) row false (fun b r => @Bool.casesOn (fun _ => Bool) (vq b a) false (ih m r)))
theorem cA_nil (r : List SV) : cA [] r = r := rfl
theorem cA_cons (a : SV) (l r : List SV) : cA (a :: l) r = a :: cA l r := rfl
theorem rowq_eq : ∀ {l : List SV} {m : Nat} {row : List SV}, rowq l m row = true → row = cA l (cZ m [])
  | [], m, row, h => tZ_eq h
  | a :: l, m, row, h => by
    cases row with
    | nil => cases h
    | cons b r =>
      have h' : @Bool.casesOn (fun _ => Bool) (vq b a) false (rowq l m r) = true := h
      cases hz : vq b a with
      | false => rw [hz] at h'; cases h'
      | true =>
        rw [hz] at h'
        have h2 : rowq l m r = true := h'
        rw [vq_eq hz, rowq_eq h2]; rfl

/-! ### memories written out -/
/-- Rows: its number, its cells, how many zero bytes lie behind. -/
abbrev ZRows := List (Nat × List SV × Nat)
noncomputable def zrow (l : List SV) (m : Nat) : List SV := @Nat.casesOn (fun _ => List SV) m l (fun _ => cA l (cZ m []))
theorem zrow_eq : ∀ (l : List SV) (m : Nat), zrow l m = cA l (cZ m [])
  | l, 0 => by
    show l = cA l []
    induction l with
    | nil => rfl
    | cons a l ih => rw [cA_cons, ← ih]
  | _, _ + 1 => rfl
noncomputable def putZ : ZRows → Tr (List SV) → Tr (List SV)
  | [], m => m
  | (k, l, z) :: r, m => putZ r (m.put k (zrow l z))
noncomputable def zmem (next : Nat) (rows : ZRows) : Mem := ⟨next, putZ rows .nil⟩
noncomputable def sameZ (h : Mem) : ZRows → Bool
  | [] => true
  | (k, l, z) :: r => (match h.get k with
    | some row => rowq l z row
    | none => false) && sameZ h r
theorem putZ_get : ∀ (l : ZRows) (m : Tr (List SV)) (k : Nat) (row : List SV), (putZ l m).get k = some row → (∃ c z, (k, c, z) ∈ l ∧ row = zrow c z) ∨ m.get k = some row
  | [], _, _, _, h => .inr h
  | (k', c, z) :: r, m, k, row, h => by
    rcases putZ_get r _ k row h with ⟨c', z', h1, h2⟩ | h1
    · exact .inl ⟨c', z', List.mem_cons_of_mem _ h1, h2⟩
    · rcases put_get_some m k' (zrow c z) k row h1 with ⟨rfl, rfl⟩ | ⟨_, h2⟩
      · exact .inl ⟨c, z, by simp, rfl⟩
      · exact .inr h2
theorem sameZ_at {h' : Mem} : ∀ {l : ZRows}, sameZ h' l = true → ∀ k c z, (k, c, z) ∈ l → h'.get k = some (zrow c z)
  | [], _, _, _, _, h => by cases h
  | (k', c', z') :: r, hs, k, c, z, h => by
    simp only [sameZ, Bool.and_eq_true] at hs
    rcases List.mem_cons.1 h with e | h
    · cases e
      have h1 := hs.1
      split at h1
      · rename_i r' hr'; rw [hr', rowq_eq h1, zrow_eq]
      · cases h1
    · exact sameZ_at hs.2 k c z h

theorem sameZ_rel {next : Nat} {h' : Mem} {H : AHeap} {rows : ZRows} (hn : next = h'.next) (hm : MRel ρ ν h' H) (hs : sameZ h' rows = true) : MRel ρ ν (zmem next rows) H where
  rows := fun k row hk => by
    rcases putZ_get rows .nil k row hk with ⟨c, z, h1, rfl⟩ | h1
    · exact hm.rows k _ (sameZ_at hs k c z h1)
    · rw [nil_get] at h1; cases h1
  inj := hm.inj
  lt := fun k hk => by show k < next; rw [hn]; exact hm.lt k hk

/-! ### known calls -/
structure PZ where
  f : FuncId
  args : List SV
  next : Nat
  rows : ZRows
  r : SV
  next' : Nat
  rows' : ZRows
/-- Checked: a call of the executor does that. -/
noncomputable def pzR (r : SV) (next' : Nat) (rows' : ZRows) : SRes → Bool
  | some (x, h') => vq x r && Nat.beq next' h'.next && sameZ h' rows'
  | none => false
noncomputable def pzOK (sc : SCall) (p : PZ) : Bool := pzR p.r p.next' p.rows' (sc p.f p.args (zmem p.next p.rows))
/-- What it says. -/
noncomputable def PZ.Holds (P : Program) (ρ : Vals) (p : PZ) : Prop :=
  isGo P p.f = true ∧ ∀ (ν : Nat → Option Name) (H : AHeap) (nm : Name) (xs : List AV), MRel ρ ν (zmem p.next p.rows) H → Fre ν nm → SRels ρ ν p.args xs → ∃ z H', Sim P p.f xs nm H z H' ∧ Out ρ ν nm p.r (zmem p.next' p.rows') z H'

theorem pz_holds {sc : SCall} {p : PZ} (h : pzOK sc p = true) (hsc : SCallOK P ρ sc) : p.Holds P ρ := by
  unfold pzOK at h
  cases hc : sc p.f p.args (zmem p.next p.rows) with
  | none => rw [hc] at h; cases h
  | some x =>
    obtain ⟨r, h'⟩ := x
    rw [hc] at h
    simp only [pzR, Bool.and_eq_true] at h
    obtain ⟨⟨h1, h2⟩, h3⟩ := h
    obtain ⟨g1, g2⟩ := hsc _ _ _ _ _ hc
    refine ⟨g1, fun ν H nm xs hm hfre hxs => ?_⟩
    obtain ⟨z, H', k1, ν', k2, k3, k4, k5⟩ := g2 ν H nm xs hm hfre hxs
    refine ⟨z, H', k1, ν', k2, k3, sameZ_rel (Nat.eq_of_beq_eq_true h2) k4 h3, ?_⟩
    rw [← vq_eq h1]
    exact k5

theorem holds_nil : ∀ p ∈ ([] : List PZ), p.Holds P ρ := fun _ h => by cases h
theorem holds_cons {q : PZ} {l : List PZ} (h : q.Holds P ρ) (t : ∀ p ∈ l, p.Holds P ρ) : ∀ p ∈ q :: l, p.Holds P ρ := fun p hp => by
  cases hp with
  | head => exact h
  | tail _ hp => exact t p hp

/-- As it stands for the call. -/
noncomputable def optZ (p : PZ) (args : List SV) (h : Mem) : SRes := bif Nat.beq p.next h.next && SV.beqs args p.args && sameZ h p.rows then some (p.r, zmem p.next' p.rows') else none
/-- The first of those that fits; else as the executor does it. -/
noncomputable def optL (sc : SCall) (f : FuncId) : List PZ → List SV → Mem → SRes
  | [], args, h => sc f args h
  | p :: r, args, h => bif Nat.beq f p.f then (match optZ p args h with
    | some x => some x
    | none => optL sc f r args h) else optL sc f r args h
/-- What is known stands for calls, ahead of all others. -/
noncomputable def ovrZ (sc : SCall) (fs : List FuncId) (l : List PZ) (ovr : FuncId → Option (List SV → Mem → SRes)) (f : FuncId) : Option (List SV → Mem → SRes) := bif fs.any (Nat.beq f) then some (optL sc f l) else ovr f

theorem optL_ok {sc : SCall} (hsc : SCallOK P ρ sc) {f : FuncId} : ∀ {l : List PZ}, (∀ p ∈ l, p.Holds P ρ) → ∀ {args : List SV} {h h' : Mem} {r : SV}, optL sc f l args h = some (r, h') → isGo P f = true ∧ ∀ (ν : Nat → Option Name) (H : AHeap) (nm : Name) (xs : List AV), MRel ρ ν h H → Fre ν nm → SRels ρ ν args xs → ∃ z H', Sim P f xs nm H z H' ∧ Out ρ ν nm r h' z H'
  | [], _, args, h, h', r, hr => hsc f args h r h' hr
  | p :: l, hl, args, h, h', r, hr => by
    simp only [optL] at hr
    have rest := optL_ok hsc (f := f) (l := l) (fun q hq => hl q (List.mem_cons_of_mem _ hq)) (args := args) (h := h) (h' := h') (r := r)
    cases hf : Nat.beq f p.f with
    | false => rw [hf] at hr; exact rest hr
    | true =>
      rw [hf] at hr
      simp only [cond_true] at hr
      split at hr
      · rename_i x hx
        cases hr
        have hp := hl p (by simp)
        rw [Nat.eq_of_beq_eq_true hf]
        refine ⟨hp.1, fun ν H nm xs hm hfre hxs => ?_⟩
        unfold optZ at hx
        cases hc : (Nat.beq p.next h.next && SV.beqs args p.args && sameZ h p.rows) with
        | false => rw [hc] at hx; cases hx
        | true =>
          rw [hc] at hx
          simp only [cond_true, Option.some.injEq, Prod.mk.injEq] at hx
          obtain ⟨rfl, rfl⟩ := hx
          simp only [Bool.and_eq_true] at hc
          obtain ⟨⟨h1, h2⟩, h3⟩ := hc
          rw [SV.beqs_eq h2] at hxs
          exact hp.2 ν H nm xs (sameZ_rel (Nat.eq_of_beq_eq_true h1) hm h3) hfre hxs
      · exact rest hr

theorem ovrZ_ok {sc : SCall} (hsc : SCallOK P ρ sc) {fs : List FuncId} {l : List PZ} (hl : ∀ p ∈ l, p.Holds P ρ) {ovr : FuncId → Option (List SV → Mem → SRes)} (ho : OvrOK P ρ ovr) : OvrOK P ρ (ovrZ sc fs l ovr) := by
  intro f g hg args h r h' hr
  unfold ovrZ at hg
  cases hc : fs.any (Nat.beq f) with
  | false => rw [hc] at hg; exact ho f g hg args h r h' hr
  | true =>
    rw [hc] at hg
    simp only [cond_true, Option.some.injEq] at hg
    subst hg
    exact optL_ok hsc hl hr

/-- The executor with what is known. -/
noncomputable def callZ (fs : List FuncId) (l : List PZ) : SCall := hscall (fun _ => true) [] Tryz.prog 1000000 (ovrZ callP fs l ovrS) 60
theorem callZ_ok (ρ : Vals) {fs : List FuncId} {l : List PZ} (hl : ∀ p ∈ l, p.Holds Tryz.prog ρ) : SCallOK Tryz.prog ρ (callZ fs l) := by
  unfold callZ
  rw [hscall_eq all_ok, gscall_eq]
  exact scall_ok FOk.nil (ovrZ_ok (callP_ok ρ) hl (ovrS_ok ρ)) 60

end Go.Proofs.YtijbnccphmfdkaaGreat.Den
end
