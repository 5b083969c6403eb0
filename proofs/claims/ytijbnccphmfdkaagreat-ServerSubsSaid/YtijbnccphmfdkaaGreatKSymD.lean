/- Cuts of a run, functions that only read, known states, plans checked once. -/
import Derived.Test.YtijbnccphmfdkaaGreatKSymB
import Derived.Test.YtijbnccphmfdkaaGreatKSymC
import Derived.Test.YtijbnccphmfdkaaGreatKDenB
section
set_option linter.unusedSimpArgs false
namespace Go.Proofs.YtijbnccphmfdkaaGreat.Den
variable {P : Program} {ρ : Vals} {ν : Nat → Option Name}

/-! ### which temporaries are written -/
def Dom (n : Nat) (T : Tr SV) : Prop := ∀ t, n ≤ t → T.get t = none

theorem Dom.put {n : Nat} (hn : n < 1000000) {T : Tr SV} (h : Dom n T) {d : Option Tmp} (hd : ∀ k, d = some k → k < n) (v : SV) : Dom n (sput T d v) := by
  cases d with
  | none => exact h
  | some k =>
    intro t ht
    have hk := hd k rfl
    show (T.put k v).get t = none
    rw [put_get T k v t (Nat.lt_of_lt_of_le (Nat.succ_lt_succ (Nat.lt_trans hk hn)) (by decide)), if_neg (Nat.ne_of_gt (Nat.lt_of_lt_of_le hk ht))]
    exact h t ht

theorem dst_list {n : Nat} {ops : Array Oper} (h : dstOk n ops = true) : ∀ o ∈ ops.toList, ∀ d, o.dst = some d → d < n := by
  intro o ho d hd
  have := (List.all_eq_true.1 h) o ho
  rw [hd] at this
  exact blt_lt this

section
variable {Γ : List Fact} {sc : SCall} {n : Nat}

theorem sregion_dom (hn : n < 1000000) {ops : Array Oper} : ∀ (l : List Oper) (T T' : Tr SV) (h h' : Mem) (D D' : SLate), (∀ o ∈ l, ∀ d, o.dst = some d → d < n) → Dom n T → sregion Γ P sc ops l T h D = some (T', h', D') → Dom n T' := by
  intro l
  induction l with
  | nil => intro T T' h h' D D' _ hT hr; simp only [sregion, Option.some.injEq, Prod.mk.injEq] at hr; rw [← hr.1]; exact hT
  | cons o l ih =>
    intro T T' h h' D D' hd hT hr
    have hl : ∀ o ∈ l, ∀ d, o.dst = some d → d < n := fun o ho => hd o (List.mem_cons_of_mem _ ho)
    have ho := hd o (by simp)
    by_cases hdf : ∃ cl, o.op = .defer cl
    · obtain ⟨cl, hop⟩ := hdf
      rw [sregion_defer hop] at hr
      split at hr
      · split at hr
        · exact ih _ _ _ _ _ _ hl hT hr
        · cases hr
      · cases hr
    · have hnd : isDefer o = false := by
        unfold isDefer
        split
        · rename_i cl hop; exact absurd ⟨cl, hop⟩ hdf
        · rfl
      rw [sregion_cons hnd] at hr
      split at hr
      · split at hr
        · exact ih _ _ _ _ _ _ hl (hT.put hn ho _) hr
        · cases hr
      · exact ih _ _ _ _ _ _ hl (hT.put hn ho _) hr
      · cases hr

theorem sdraw_dom (hn : n < 1000000) {ops : Array Oper} (hd : dstOk n ops = true) : ∀ (l : List Item) (k : Nat) (T T' : Tr SV) (Hs : List (Nat × Mem)) (h h' : Mem), Dom n T → sdraw Γ P sc ops k l T Hs h = some (T', h') → Dom n T' := by
  intro l
  induction l with
  | nil => intro k T T' Hs h h' hT hr; simp only [sdraw, Option.some.injEq, Prod.mk.injEq] at hr; rw [← hr.1]; exact hT
  | cons x l ih =>
    intro k T T' Hs h h' hT hr
    simp only [sdraw] at hr
    cases ho : ops[x.i]? with
    | none => rw [ho] at hr; cases hr
    | some o =>
      rw [ho] at hr
      simp only [] at hr
      have hdo := dstOk_at hd ho
      split at hr
      · split at hr
        · rename_i v h₁ _
          cases hc : schk P o (senv T) v Hs x.chk with
          | false => rw [hc] at hr; cases hr
          | true => rw [hc] at hr; exact ih _ _ _ _ _ _ (hT.put hn hdo _) hr
        · cases hr
      · exact ih _ _ _ _ _ _ (hT.put hn hdo _) hr
      · cases hr

theorem sjumps_dom {run : Tr SV → Mem → SLate → CRes} {l : Nat} (hrun : ∀ T h D e T' h' D', Dom n T → run T h D = some (e, T', h', D') → Dom n T') : ∀ (m : Nat) (r : CRes) (e : Exit) (T' : Tr SV) (h' : Mem) (D' : SLate),
    (∀ e T h D, r = some (e, T, h, D) → Dom n T) → sjumps run l m r = some (e, T', h', D') → Dom n T'
  | 0, _, _, _, _, _, _, h => by simp [sjumps] at h
  | m + 1, none, _, _, _, _, _, h => by simp [sjumps] at h
  | m + 1, some (e1, T1, h1, D1), e, T', h', D', hr, h => by
    have hT := hr e1 T1 h1 D1 rfl
    cases e1 with
    | goto l1 =>
      simp only [sjumps] at h
      cases hb : Nat.beq l1 l with
      | true => rw [hb] at h; exact sjumps_dom hrun m _ e T' h' D' (fun e T h D he => hrun _ _ _ e T h D hT he) h
      | false => rw [hb] at h; cases h
    | _ => simp only [sjumps, Option.some.injEq, Prod.mk.injEq] at h; rw [← h.2.1]; exact hT

theorem srun_dom (hn : n < 1000000) : ∀ (f : Nat) (code : Code) (T : Tr SV) (h : Mem) (D : SLate) (e : Exit) (T' : Tr SV) (h' : Mem) (D' : SLate), Dom n T → srun Γ P sc n f code T h D = some (e, T', h', D') → Dom n T' := by
  intro f
  induction f with
  | zero => intro code T h D e T' h' D' _ hr; simp [srun] at hr
  | succ f ih =>
    intro code T h D e T' h' D' hT hr
    cases code with
    | region id ops d =>
      simp only [srun] at hr
      cases hd : dstOk n ops with
      | false => rw [hd] at hr; cases hr
      | true =>
        rw [hd] at hr
        simp only [cond_true] at hr
        cases d with
        | true =>
          simp only [cond_true] at hr
          cases hq : (P.follows .mixedOrders && planOK ops (mkPlan ops).1 (mkPlan ops).2) with
          | false => rw [hq] at hr; cases hr
          | true =>
            rw [hq] at hr
            simp only [cond_true, Option.map_eq_some_iff] at hr
            obtain ⟨⟨T1, h1⟩, hr, e1⟩ := hr
            simp only [Prod.mk.injEq] at e1
            rw [← e1.2.1]
            exact sdraw_dom hn hd _ _ _ _ _ _ _ hT hr
        | false =>
          simp only [cond_false, Option.map_eq_some_iff] at hr
          obtain ⟨⟨T1, h1, D1⟩, hr, e1⟩ := hr
          simp only [Prod.mk.injEq] at e1
          rw [← e1.2.1]
          exact sregion_dom hn _ _ _ _ _ _ _ (dst_list hd) hT hr
    | seq x y =>
      simp only [srun] at hr
      cases hr1 : srun Γ P sc n f x T h D with
      | none => rw [hr1] at hr; cases hr
      | some r =>
        obtain ⟨e1, T1, h1, D1⟩ := r
        rw [hr1] at hr
        have hx := ih x T h D e1 T1 h1 D1 hT hr1
        cases e1 with
        | normal => exact ih y T1 h1 D1 e T' h' D' hx hr
        | _ => simp only [Option.some.injEq, Prod.mk.injEq] at hr; rw [← hr.2.1]; exact hx
    | cond x y z =>
      simp only [srun] at hr
      split at hr
      · rename_i b _
        cases b with
        | true => exact ih y T h D e T' h' D' hT hr
        | false => exact ih z T h D e T' h' D' hT hr
      · cases hr
    | block id x =>
      simp only [srun] at hr
      cases hr1 : srun Γ P sc n f x T h D with
      | none => rw [hr1] at hr; cases hr
      | some r =>
        obtain ⟨e1, T1, h1, D1⟩ := r
        rw [hr1] at hr
        have hx := ih x T h D e1 T1 h1 D1 hT hr1
        cases e1 with
        | exit id' =>
          simp only at hr
          cases hb : Nat.beq id' id with
          | true => rw [hb] at hr; simp only [cond_true, Option.some.injEq, Prod.mk.injEq] at hr; rw [← hr.2.1]; exact hx
          | false => rw [hb] at hr; simp only [cond_false, Option.some.injEq, Prod.mk.injEq] at hr; rw [← hr.2.1]; exact hx
        | _ => simp only [Option.some.injEq, Prod.mk.injEq] at hr; rw [← hr.2.1]; exact hx
    | loop x =>
      simp only [srun] at hr
      cases hr1 : srun Γ P sc n f x T h D with
      | none => rw [hr1] at hr; cases hr
      | some r =>
        obtain ⟨e1, T1, h1, D1⟩ := r
        rw [hr1] at hr
        have hx := ih x T h D e1 T1 h1 D1 hT hr1
        cases e1 with
        | normal => exact ih (.loop x) T1 h1 D1 e T' h' D' hx hr
        | _ => simp only [Option.some.injEq, Prod.mk.injEq] at hr; rw [← hr.2.1]; exact hx
    | scope x =>
      simp only [srun] at hr
      cases hr1 : srun Γ P sc n f x T h D with
      | none => rw [hr1] at hr; cases hr
      | some r =>
        obtain ⟨e1, T1, h1, D1⟩ := r
        rw [hr1] at hr
        have hx := ih x T h D e1 T1 h1 D1 hT hr1
        cases e1 with
        | goto l =>
          simp only at hr
          split at hr
          · rename_i rest _
            exact sjumps_dom (fun T h D e T' h' D' hT hr => ih rest T h D e T' h' D' hT hr) f _ e T' h' D' (fun e T h D he => by cases he; exact hx) hr
          · cases hr
        | _ => simp only [Option.some.injEq, Prod.mk.injEq] at hr; rw [← hr.2.1]; exact hx
    | rangeFunc _ _ _ _ => simp [srun] at hr
    | refuse _ => simp [srun] at hr
    | _ => simp only [srun, Option.some.injEq, Prod.mk.injEq] at hr; rw [← hr.2.1]; exact hT
end

/-! ### other names -/
mutual
def IE.sub (θ : Nat → IE) : IE → IE
  | .lit n => .lit n
  | .var i => θ i
  | .byte i => .byte i
  | .bin op k a b => .bin op k (IE.sub θ a) (IE.sub θ b)
  | .wrap k a => .wrap k (IE.sub θ a)
  | .fn f l i => .fn f (IE.subs θ l) i
def IE.subs (θ : Nat → IE) : List IE → List IE
  | [] => []
  | a :: l => IE.sub θ a :: IE.subs θ l
end

mutual
def SV.sub (θ : Nat → IE) (r : Nat → Nat) : SV → SV
  | .int k e => .int k (e.sub θ)
  | .bool b => .bool b
  | .str l => .str (IE.subs θ l)
  | .val v => .val v
  | .ptr n o => .ptr (r n) o
  | .imp m c o => .imp m (SV.subs θ r c) o
  | .sl n o l z => .sl (r n) o l z
  | .im m l c => .im m l (SV.subs θ r c)
  | .agg c => .agg (SV.subs θ r c)
  | .tup c => .tup (SV.subs θ r c)
  | .fn f a b => .fn f (SV.subs θ r a) (SV.subs θ r b)
def SV.subs (θ : Nat → IE) (r : Nat → Nat) : List SV → List SV
  | [] => []
  | a :: l => SV.sub θ r a :: SV.subs θ r l
end

def Vals.sub (ρ : Vals) (θ : Nat → IE) : Vals := ⟨fun j => (θ j).den ρ, ρ.b, ρ.f⟩

mutual
theorem den_sub (θ : Nat → IE) : ∀ e : IE, (e.sub θ).den ρ = e.den (ρ.sub θ)
  | .lit n => rfl
  | .var i => rfl
  | .byte i => rfl
  | .bin op k a b => by simp only [IE.sub, IE.den, den_sub θ a, den_sub θ b]
  | .wrap k a => by simp only [IE.sub, IE.den, den_sub θ a]
  | .fn f l i => by simp only [IE.sub, IE.den, dens_sub θ l]; rfl
theorem dens_sub (θ : Nat → IE) : ∀ l : List IE, IE.dens ρ (IE.subs θ l) = IE.dens (ρ.sub θ) l
  | [] => rfl
  | a :: l => by simp only [IE.subs, IE.dens, den_sub θ a, dens_sub θ l]
end

theorem strOf_sub (θ : Nat → IE) (l : List IE) : strOf ρ (IE.subs θ l) = strOf (ρ.sub θ) l := by
  have : ∀ l : List IE, (IE.subs θ l).map (fun e => UInt8.ofNat (e.den ρ).toNat) = l.map fun e => UInt8.ofNat (e.den (ρ.sub θ)).toNat := by
    intro l
    induction l with
    | nil => rfl
    | cons a l ih => simp only [IE.subs, List.map_cons, den_sub, ih]
  simp only [strOf, this]

mutual
theorem SRel.sub {θ : Nat → IE} {r : Nat → Nat} : ∀ {a : SV} {x : AV}, SRel ρ ν (a.sub θ r) x → SRel (ρ.sub θ) (fun n => ν (r n)) a x
  | .int k e, x, h => by
    simp only [SV.sub] at h
    cases h
    rw [den_sub]
    exact .int k e
  | .bool b, x, h => by simp only [SV.sub] at h; cases h; exact .bool b
  | .str l, x, h => by
    simp only [SV.sub] at h
    cases h
    rw [strOf_sub]
    exact .str l
  | .val v, x, h => by simp only [SV.sub] at h; cases h; exact .val v
  | .ptr n o, x, h => by simp only [SV.sub] at h; cases h with | ptr h => exact .ptr h
  | .imp m c o, x, h => by simp only [SV.sub] at h; cases h with | imp h => exact .imp (SRels.sub h)
  | .sl n o l z, x, h => by simp only [SV.sub] at h; cases h with | sl h => exact .sl h
  | .im m l c, x, h => by simp only [SV.sub] at h; cases h with | im h => exact .im (SRels.sub h)
  | .agg c, x, h => by simp only [SV.sub] at h; cases h with | agg h => exact .agg (SRels.sub h)
  | .tup c, x, h => by simp only [SV.sub] at h; cases h with | tup h => exact .tup (SRels.sub h)
  | .fn f a b, x, h => by simp only [SV.sub] at h; cases h with | fn h h' => exact .fn (SRels.sub h) (SRels.sub h')
theorem SRels.sub {θ : Nat → IE} {r : Nat → Nat} : ∀ {a : List SV} {x : List AV}, SRels ρ ν (SV.subs θ r a) x → SRels (ρ.sub θ) (fun n => ν (r n)) a x
  | [], x, h => by simp only [SV.subs] at h; cases h; exact .nil
  | a :: l, x, h => by simp only [SV.subs] at h; cases h with | cons h t => exact .cons (SRel.sub h) (SRels.sub t)
end

/-! ### one state by another one -/
def rnOf (R : List Nat) (nx : Nat) : Nat → Nat := fun n => (R[n]?).getD (nx + n)

def okTemps (θ : Nat → IE) (r : Nat → Nat) (T T' : Tr SV) : Nat → Bool
  | 0 => true
  | n + 1 => SV.beq ((T'.get n).getD (.val undef)) (((T.get n).getD (.val undef)).sub θ r) && okTemps θ r T T' n

def okRow (θ : Nat → IE) (r : Nat → Nat) (m : Nat) (h' : Mem) : Option (List SV) → Bool
  | none => true
  | some row => match h'.get m with
    | some row' => SV.beqs row' (SV.subs θ r row)
    | none => false
def okRows (θ : Nat → IE) (r : Nat → Nat) (h h' : Mem) : Nat → Bool
  | 0 => true
  | n + 1 => okRow θ r (r n) h' (h.get n) && okRows θ r h h' n

/-- The second state is the first one, but for names. -/
def okSub (n : Nat) (θ : Nat → IE) (R : List Nat) (T T' : Tr SV) (h h' : Mem) : Bool :=
  Nat.beq R.length h.next && R.all (fun m => Nat.blt m h'.next) && decide R.Nodup && okTemps θ (rnOf R h'.next) T T' n && okRows θ (rnOf R h'.next) h h' h.next

theorem okTemps_at {θ : Nat → IE} {r : Nat → Nat} {T T' : Tr SV} : ∀ {n : Nat}, okTemps θ r T T' n = true → ∀ t, t < n → (T'.get t).getD (.val undef) = ((T.get t).getD (.val undef)).sub θ r
  | 0, _, t, ht => by omega
  | n + 1, h, t, ht => by
    simp only [okTemps, Bool.and_eq_true] at h
    by_cases e : t = n
    · subst e; exact SV.beq_eq h.1
    · exact okTemps_at h.2 t (by omega)

theorem okRows_at {θ : Nat → IE} {r : Nat → Nat} {h h' : Mem} : ∀ {n : Nat}, okRows θ r h h' n = true → ∀ k, k < n → ∀ row, h.get k = some row → h'.get (r k) = some (SV.subs θ r row)
  | 0, _, k, hk => by omega
  | n + 1, hh, k, hk => by
    simp only [okRows, Bool.and_eq_true] at hh
    intro row hrow
    by_cases e : k = n
    · subst e
      have h1 := hh.1
      rw [hrow] at h1
      simp only [okRow] at h1
      split at h1
      · rename_i row' hr'; rw [hr', SV.beqs_eq h1]
      · cases h1
    · exact okRows_at hh.2 k (by omega) row hrow

theorem SAt.sub {p : Name} {n : Nat} {θ : Nat → IE} {R : List Nat} {T T' : Tr SV} {h h' : Mem} {s : AT} (hs : SAt ρ p T' h' [] ν s) (hd : Dom n T) (hd' : Dom n T') (hb : ∀ k, h.next ≤ k → h.get k = none) (hok : okSub n θ R T T' h h' = true) :
    ∃ ν', SAt (ρ.sub θ) p T h [] ν' s := by
  unfold okSub at hok
  simp only [Bool.and_eq_true] at hok
  obtain ⟨⟨⟨⟨h1, h2⟩, h3⟩, h4⟩, h5⟩ := hok
  have h1 := Nat.eq_of_beq_eq_true h1
  have h3 := of_decide_eq_true h3
  have hlt : ∀ k, k < R.length → rnOf R h'.next k < h'.next := by
    intro k hk
    have := (List.all_eq_true.1 h2) R[k] (List.getElem_mem hk)
    simp only [rnOf, List.getElem?_eq_getElem hk, Option.getD_some]
    exact blt_lt this
  have hge : ∀ k, R.length ≤ k → h'.next ≤ rnOf R h'.next k := by
    intro k hk
    simp only [rnOf, List.getElem?_eq_none hk, Option.getD_none]
    omega
  have hnone : ∀ k, R.length ≤ k → ν (rnOf R h'.next k) = none := by
    intro k hk
    cases e : ν (rnOf R h'.next k) with
    | none => rfl
    | some m => exact absurd (hs.mem.lt _ (by rw [e]; simp)) (Nat.not_lt.2 (hge k hk))
  refine ⟨fun k => ν (rnOf R h'.next k), ⟨?_, ⟨?_, ?_, ?_⟩, ?_, ?_⟩⟩
  · intro t
    by_cases ht : t < n
    · have := hs.tr t
      rw [okTemps_at h4 t ht] at this
      exact this.sub
    · have h0 := hs.tr t
      rw [hd' t (by omega)] at h0
      rw [hd t (by omega)]
      simp only [Option.getD_none] at h0 ⊢
      generalize s.T t = x at h0
      cases h0
      exact .val _
  · intro k row hrow
    have hk : k < h.next := Nat.lt_of_not_le fun hle => by rw [hb k hle] at hrow; cases hrow
    have h6 := okRows_at h5 k hk row hrow
    obtain ⟨m, row', g1, g2, g3⟩ := hs.mem.rows _ _ h6
    exact ⟨m, row', g1, g2, g3.sub⟩
  · intro k l m hk hl
    have hk' : k < R.length := Nat.lt_of_not_le fun hle => by rw [hnone k hle] at hk; cases hk
    have hl' : l < R.length := Nat.lt_of_not_le fun hle => by rw [hnone l hle] at hl; cases hl
    have := hs.mem.inj _ _ m hk hl
    simp only [rnOf, List.getElem?_eq_getElem hk', List.getElem?_eq_getElem hl', Option.getD_some] at this
    exact (List.getElem_inj h3).1 this
  · intro k hk
    rw [← h1]
    exact Nat.lt_of_not_le fun hle => hk (hnone k hle)
  · intro i hi k s' hk
    exact hs.fre i hi _ s' hk
  · have hl := hs.late
    cases hl' : s.L with
    | nil => exact .nil
    | cons a l => rw [hl'] at hl; cases hl

/-! ### chains -/
/-- From here to there, whatever is named how. -/
def XG (W : (Exit → Act → World → Prop) → Act → World → Prop) (n : Nat) (ρ : Vals) (T : Tr SV) (h : Mem) (e : Exit) (ρ' : Vals) (T' : Tr SV) (h' : Mem) : Prop :=
  ∀ (p : Name) (ν : Nat → Option Name) (s : AT), SAt ρ p T h [] ν s → ∃ ν' s', SAt ρ' p T' h' [] ν' s' ∧ AGo W p n e s s'

section
variable {n : Nat} {V W U : (Exit → Act → World → Prop) → Act → World → Prop}

theorem XGoes.xg {T T' : Tr SV} {h h' : Mem} {e : Exit} (hx : XGoes W ρ n T h [] e T' h' []) : XG W n ρ T h e ρ T' h' := fun p ν s st =>
  let ⟨ν', s', _, a, b⟩ := hx p ν s st; ⟨ν', s', a, b⟩

theorem XG.then {ρ ρ₁ ρ' : Vals} {T T₁ T' : Tr SV} {h h₁ h' : Mem} {e₁ e : Exit} (hx : XG V n ρ T h e₁ ρ₁ T₁ h₁) (hy : XG W n ρ₁ T₁ h₁ e ρ' T' h') (hu : ∀ Q a w, V (fun e' a' w' => e' = e₁ ∧ W Q a' w') a w → U Q a w) : XG U n ρ T h e ρ' T' h' := by
  intro p ν s st
  obtain ⟨ν₁, s₁, a2, a3⟩ := hx p ν s st
  obtain ⟨ν₂, s₂, b2, b3⟩ := hy p ν₁ s₁ a2
  refine ⟨ν₂, s₂, b2, fun σ I a w Q hst hk => hu Q a w (a3 σ I a w _ hst ?_)⟩
  intro σ' I' a' w' hst' st'
  exact ⟨rfl, b3 σ' I' a' w' Q st' fun σ₂ I₂ a₂ w₂ hst₂ st₂ => hk σ₂ I₂ a₂ w₂ (hst'.trans hst₂) st₂⟩

theorem XG.as {ρ ρ' : Vals} {T T' : Tr SV} {h h' : Mem} {e e' : Exit} (hx : XG V n ρ T h e ρ' T' h') (hu : ∀ (Q : Exit → Act → World → Prop) a w, V (fun e₁ a' w' => e₁ = e ∧ Q e' a' w') a w → U Q a w) : XG U n ρ T h e' ρ' T' h' := by
  intro p ν s st
  obtain ⟨ν₁, s₁, a2, a3⟩ := hx p ν s st
  exact ⟨ν₁, s₁, a2, fun σ I a w Q hst hk => hu Q a w (a3 σ I a w _ hst fun σ' I' a' w' hst' st' => ⟨rfl, hk σ' I' a' w' hst' st'⟩)⟩

/-- The end by other names. -/
theorem XG.sub {ρ ρ' : Vals} {T T₁ T' : Tr SV} {h h₁ h' : Mem} {e : Exit} {θ : Nat → IE} {R : List Nat} (hx : XG W n ρ T h e ρ' T' h') (hd : Dom n T₁) (hd' : Dom n T') (hb : ∀ k, h₁.next ≤ k → h₁.get k = none) (hok : okSub n θ R T₁ T' h₁ h' = true) : XG W n ρ T h e (ρ'.sub θ) T₁ h₁ := by
  intro p ν s st
  obtain ⟨ν₁, s₁, a2, a3⟩ := hx p ν s st
  obtain ⟨ν₂, b⟩ := a2.sub hd hd' hb hok
  exact ⟨ν₂, s₁, b, a3⟩

theorem XG.seq {x y : Code} {ρ ρ₁ ρ' : Vals} {T T₁ T' : Tr SV} {h h₁ h' : Mem} {e : Exit} (hx : XG (Code.wp P x) n ρ T h .normal ρ₁ T₁ h₁) (hy : XG (Code.wp P y) n ρ₁ T₁ h₁ e ρ' T' h') : XG (Code.wp P (.seq x y)) n ρ T h e ρ' T' h' :=
  hx.then hy fun Q a w h => wp_seq (wp_mono h (by rintro _ a w ⟨rfl, h⟩; exact h))

theorem XG.block {id : Nat} {x : Code} {ρ ρ' : Vals} {T T' : Tr SV} {h h' : Mem} {e e' : Exit} (hx : XG (Code.wp P x) n ρ T h e ρ' T' h') (he : e' = inB id e) : XG (Code.wp P (.block id x)) n ρ T h e' ρ' T' h' :=
  hx.as fun Q a w hw => wp_block (wp_mono hw (by
    rintro e₁ a w ⟨rfl, h0⟩
    subst he
    cases e₁ with
    | exit id' =>
      simp only [Exit.inBlock]
      simp only [inB] at h0
      by_cases e1 : id' = id
      · rw [if_pos e1] at h0 ⊢; exact h0
      · rw [if_neg e1] at h0 ⊢; exact h0
    | _ => exact h0))

theorem XG.round {x : Code} {m : Nat} {ρ ρ₁ ρ' : Vals} {T T₁ T' : Tr SV} {h h₁ h' : Mem} {e : Exit} (hx : XG (Code.wp P x) n ρ T h .normal ρ₁ T₁ h₁) (hy : XG (fun Q => Code.rounds P x Q m) n ρ₁ T₁ h₁ e ρ' T' h') : XG (fun Q => Code.rounds P x Q (m + 1)) n ρ T h e ρ' T' h' :=
  hx.then hy fun Q a w h => by
    rw [rounds_succ]
    exact wp_mono h (by rintro _ a w ⟨rfl, h⟩; exact h)

theorem XG.round_out {x : Code} {m : Nat} {ρ ρ' : Vals} {T T' : Tr SV} {h h' : Mem} {e : Exit} (he : e ≠ .normal) (hx : XG (Code.wp P x) n ρ T h e ρ' T' h') : XG (fun Q => Code.rounds P x Q (m + 1)) n ρ T h e ρ' T' h' :=
  hx.as fun Q a w h => by
    rw [rounds_succ]
    exact wp_mono h (by
      rintro e₁ a w ⟨rfl, h0⟩
      cases e₁ <;> first | exact absurd rfl he | exact h0)

theorem XG.loop {x : Code} {m : Nat} {ρ ρ' : Vals} {T T' : Tr SV} {h h' : Mem} {e : Exit} (hx : XG (fun Q => Code.rounds P x Q m) n ρ T h e ρ' T' h') : XG (Code.wp P (.loop x)) n ρ T h e ρ' T' h' := by
  intro p ν s st
  obtain ⟨ν₁, s₁, a2, a3⟩ := hx p ν s st
  exact ⟨ν₁, s₁, a2, fun σ I a w Q hst hk => wp_loop_rounds m (a3 σ I a w Q hst hk)⟩
end

end Go.Proofs.YtijbnccphmfdkaaGreat.Den
end

section
set_option linter.unusedSimpArgs false
namespace Go.Proofs.YtijbnccphmfdkaaGreat.Den
variable {P : Program} {ρ : Vals}

/-! ### new names -/
structure CS where
  th : List IE
  nv : Nat
  mp : Tr Nat
  rn : Tr Nat
  nr : Nat

def cnIE (e : IE) (s : CS) : IE × CS :=
  match e with
  | .lit n => (.lit n, s)
  | .byte i => (.byte i, s)
  | e => (.var s.nv, { s with th := e :: s.th, nv := Nat.add s.nv 1 })
def cnIEs : List IE → CS → List IE × CS
  | [], s => ([], s)
  | a :: l, s =>
    match cnIE a s with
    | (a, s) => match cnIEs l s with
      | (l, s) => (a :: l, s)
def cnAd (n : Nat) (s : CS) : Nat × CS :=
  match s.mp.get n with
  | some m => (m, s)
  | none => forceN s.nr fun k => (k, { s with mp := s.mp.put n k, rn := s.rn.put k n, nr := Nat.add k 1 })
mutual
def cnSV : SV → CS → SV × CS
  | .int k e, s => match cnIE e s with | (e, s) => (.int k e, s)
  | .bool b, s => (.bool b, s)
  | .str l, s => match cnIEs l s with | (l, s) => (.str l, s)
  | .val v, s => (.val v, s)
  | .ptr n o, s => match cnAd n s with | (n, s) => (.ptr n o, s)
  | .imp m c o, s => match cnSVs c s with | (c, s) => (.imp m c o, s)
  | .sl n o l z, s => match cnAd n s with | (n, s) => (.sl n o l z, s)
  | .im m l c, s => match cnSVs c s with | (c, s) => (.im m l c, s)
  | .agg c, s => match cnSVs c s with | (c, s) => (.agg c, s)
  | .tup c, s => match cnSVs c s with | (c, s) => (.tup c, s)
  | .fn f a b, s => match cnSVs a s with | (a, s) => match cnSVs b s with | (b, s) => (.fn f a b, s)
def cnSVs : List SV → CS → List SV × CS
  | [], s => ([], s)
  | a :: l, s => match cnSV a s with | (a, s) => match cnSVs l s with | (l, s) => (a :: l, s)
end

def cnTemps (T : Tr SV) (n : Nat) : Nat → CS → List (Option SV) × CS
  | 0, s => ([], s)
  | f + 1, s =>
    match T.get (n - (f + 1)) with
    | none => match cnTemps T n f s with | (l, s) => (none :: l, s)
    | some v => match cnSV v s with | (v, s) => match cnTemps T n f s with | (l, s) => (some v :: l, s)

def cnRows (h : Mem) : Nat → Nat → CS → List (Option (List SV)) × CS
  | 0, _, s => ([], s)
  | f + 1, i, s =>
    bif Nat.ble s.nr i then ([], s) else
    match (s.rn.get i).bind h.get with
    | none => match cnRows h f (Nat.add i 1) s with | (l, s) => (none :: l, s)
    | some row => match cnSVs row s with | (row, s) => match cnRows h f (Nat.add i 1) s with | (l, s) => (some row :: l, s)

def rlist (rn : Tr Nat) (n : Nat) : Nat → List Nat
  | 0 => []
  | f + 1 => (rn.get (n - (f + 1))).getD 0 :: rlist rn n f

def thTr : List IE → Nat → Tr IE → Tr IE
  | [], _, T => T
  | e :: l, k, T => thTr l (Nat.add k 1) (T.put k e)
/-- What is named, by its number. -/
def thOf (l : List IE) : Nat → IE := fun j => ((thTr l 0 .nil).get j).getD (.lit 0)

def mkT : Nat → List (Option SV) → Tr SV → Tr SV
  | _, [], T => T
  | k, none :: r, T => mkT (k + 1) r T
  | k, some v :: r, T => mkT (k + 1) r (T.put k v)
def mkM : List (Option (List SV)) → Mem → Mem
  | [], h => h
  | none :: r, h => mkM r ⟨h.next + 1, h.m⟩
  | some row :: r, h => mkM r (h.push row)

theorem mkT_get : ∀ (l : List (Option SV)) (k : Nat) (T : Tr SV) (t : Nat), t < 2000000 → k + l.length ≤ t → (mkT k l T).get t = T.get t
  | [], _, _, _, _, _ => rfl
  | none :: r, k, T, t, h, hk => by
    rw [List.length_cons] at hk
    exact mkT_get r (k + 1) T t h (by omega)
  | some v :: r, k, T, t, h, hk => by
    rw [List.length_cons] at hk
    have hlt : k + 1 < 2 ^ 60 := Nat.lt_of_lt_of_le (show k + 1 < 2000002 by omega) (by decide)
    rw [show mkT k (some v :: r) T = mkT (k + 1) r (T.put k v) from rfl, mkT_get r (k + 1) _ t h (by omega), put_get T k v t hlt, if_neg (by omega)]

theorem mkT_dom : ∀ (l : List (Option SV)) (k n : Nat) (T : Tr SV), n < 1000000 → k + l.length ≤ n → Dom n T → Dom n (mkT k l T)
  | [], _, _, _, _, _, h => h
  | none :: r, k, n, T, hn, hk, h => by
    rw [List.length_cons] at hk
    exact mkT_dom r (k + 1) n T hn (by omega) h
  | some v :: r, k, n, T, hn, hk, h => by
    rw [List.length_cons] at hk
    refine mkT_dom r (k + 1) n _ hn (by omega) ?_
    exact h.put hn (d := some k) (fun j hj => by cases hj; exact Nat.lt_of_lt_of_le (show k < k + (r.length + 1) by omega) hk) v

def Above (h : Mem) : Prop := ∀ k, h.next ≤ k → h.get k = none
theorem mkM_above : ∀ (l : List (Option (List SV))) (h : Mem), Above h → Above (mkM l h)
  | [], _, h0 => h0
  | none :: r, h, h0 => mkM_above r _ fun k hk => h0 k (by simp only at hk; omega)
  | some row :: r, h, h0 => mkM_above r _ fun k hk => by
    simp only [Mem.push] at hk
    cases e : (h.push row).get k with
    | none => rfl
    | some x =>
      rcases put_get_some h.m h.next row k x e with ⟨h1, _⟩ | ⟨_, h2⟩
      · omega
      · have := h0 k (by omega)
        simp only [Mem.get] at this
        rw [this] at h2; cases h2
theorem above_nil : Above ⟨0, .nil⟩ := fun k _ => nil_get k

/-- A state by new names: what was unknown, the rows, the state. -/
def canon3 (rows : List (Option (List SV))) (q : List (Option SV) × CS) : List IE × List Nat × Tr SV × Mem := (q.2.th.reverse, rlist q.2.rn q.2.nr q.2.nr, mkT 0 q.1 .nil, mkM rows ⟨0, .nil⟩)
def canon2 (n : Nat) (T : Tr SV) (p : List (Option (List SV)) × CS) : List IE × List Nat × Tr SV × Mem := canon3 p.1 (cnTemps T n n p.2)
def fresh0 (s : CS) : CS := ⟨[], 0, s.mp, s.rn, s.nr⟩
def canon1 (n : Nat) (T : Tr SV) (h : Mem) (p : List (Option SV) × CS) : List IE × List Nat × Tr SV × Mem := canon2 n T (cnRows h 100000 0 (fresh0 p.2))
/-- First the rows, then the temporaries. -/
def canon (n : Nat) (T : Tr SV) (h : Mem) : List IE × List Nat × Tr SV × Mem := canon1 n T h (cnTemps T n n ⟨[], 0, .nil, .nil, 0⟩)

theorem cnTemps_length (T : Tr SV) (n : Nat) : ∀ (f : Nat) (s : CS), (cnTemps T n f s).1.length = f
  | 0, _ => rfl
  | f + 1, s => by
    simp only [cnTemps]
    split
    · simp [cnTemps_length T n f]
    · simp [cnTemps_length T n f]

theorem canon_dom {n : Nat} (hn : n < 1000000) (T : Tr SV) (h : Mem) : Dom n (canon n T h).2.2.1 := by
  show Dom n (mkT 0 (cnTemps T n n (cnRows h 100000 0 (fresh0 (cnTemps T n n ⟨[], 0, .nil, .nil, 0⟩).2)).2).1 .nil)
  exact mkT_dom _ 0 n .nil hn (by rw [cnTemps_length]; omega) fun t _ => nil_get t
theorem canon_above {n : Nat} (T : Tr SV) (h : Mem) : Above (canon n T h).2.2.2 := by
  show Above (mkM (cnRows h 100000 0 (fresh0 (cnTemps T n n ⟨[], 0, .nil, .nil, 0⟩).2)).1 ⟨0, .nil⟩)
  exact mkM_above _ ⟨0, .nil⟩ above_nil

/-! ### runs with cuts -/
def Vals.subs (ρ : Vals) : List (List IE) → Vals
  | [] => ρ
  | θ :: Θ => (ρ.sub (thOf θ)).subs Θ
theorem subs_append (ρ : Vals) : ∀ (A B : List (List IE)), ρ.subs (A ++ B) = (ρ.subs A).subs B
  | [], _ => rfl
  | _ :: A, B => subs_append _ A B

abbrev XRes := Option (Exit × Tr SV × Mem × List (List IE))
def xof : CRes → XRes
  | some (e, T, h, []) => some (e, T, h, [])
  | _ => none
def xcut (n : Nat) (k : Tr SV → Mem → XRes) (T' : Tr SV) (h' : Mem) : List IE × List Nat × Tr SV × Mem → XRes
  | (θ, R, T, h) => bif okSub n (thOf θ) R T T' h h' then (k T h).map fun (e, T, h, Θ) => (e, T, h, θ :: Θ) else none

def xloop (g : Tr SV → Mem → SLate → CRes) (k : Tr SV → Mem → XRes) (T : Tr SV) (h : Mem) : XRes :=
  match g T h [] with
  | some (.normal, T', h', []) => k T' h'
  | some (e, T', h', []) => some (e, T', h', [])
  | _ => none

noncomputable def xrun (Γ : List Fact) (P : Program) (call : SCall) (n : Nat) : Nat → Code → Tr SV → Mem → XRes
  | 0, _, _, _ => none
  | f + 1, c, T, h =>
    match c with
    | .seq x y =>
      match xrun Γ P call n f x T h with
      | some (.normal, T, h, Θ) => (xrun Γ P call n f y T h).map fun (e, T, h, Θ') => (e, T, h, Θ ++ Θ')
      | r => r
    | .block id x => (xrun Γ P call n f x T h).map fun (e, T, h, Θ) => (inB id e, T, h, Θ)
    | .loop x => xcut n (xloop (grun Γ P call n f x) (xrun Γ P call n f (.loop x))) T h (canon n T h)
    | c => xof (grun Γ P call n f c T h [])

section
variable {Γ : List Fact} {sc : SCall} {n : Nat}

theorem xof_some {r : CRes} {e : Exit} {T : Tr SV} {h : Mem} {Θ : List (List IE)} (hr : xof r = some (e, T, h, Θ)) : r = some (e, T, h, []) ∧ Θ = [] := by
  unfold xof at hr
  split at hr
  · simp only [Option.some.injEq, Prod.mk.injEq] at hr
    obtain ⟨rfl, rfl, rfl, rfl⟩ := hr
    exact ⟨rfl, rfl⟩
  · cases hr

theorem xplain (hF : ∀ ρ, FOk ρ Γ) (hsc : ∀ ρ, SCallOK P ρ sc) (hn : n < 1000000) {f : Nat} {c : Code} {T T' : Tr SV} {h h' : Mem} {e : Exit} {Θ : List (List IE)} (hd : Dom n T) (hr : xof (grun Γ P sc n f c T h []) = some (e, T', h', Θ)) :
    Dom n T' ∧ ∀ ρ : Vals, XG (Code.wp P c) n ρ T h e (ρ.subs Θ) T' h' := by
  obtain ⟨h1, rfl⟩ := xof_some hr
  rw [grun_eq, frun_eq] at h1
  exact ⟨srun_dom hn f c T h [] e T' h' [] hd h1, fun ρ => (srun_ok (hF ρ) (hsc ρ) hn f c T h [] e T' h' [] h1).xg⟩

theorem XG.pre {W : (Exit → Act → World → Prop) → Act → World → Prop} {ρ ρ' : Vals} {T T₁ T' : Tr SV} {h h₁ h' : Mem} {e : Exit} {θ : Nat → IE} {R : List Nat} (hd : Dom n T₁) (hd' : Dom n T) (hb : ∀ k, h₁.next ≤ k → h₁.get k = none) (hok : okSub n θ R T₁ T h₁ h = true) (hx : XG W n (ρ.sub θ) T₁ h₁ e ρ' T' h') : XG W n ρ T h e ρ' T' h' := by
  intro p ν s st
  obtain ⟨ν₁, b⟩ := st.sub hd hd' hb hok
  exact hx p ν₁ s b

theorem xrun_rounds (hF : ∀ ρ, FOk ρ Γ) (hsc : ∀ ρ, SCallOK P ρ sc) (hn : n < 1000000) {x : Code} : ∀ (f : Nat) (T T' : Tr SV) (h h' : Mem) (e : Exit) (Θ : List (List IE)), Dom n T → xrun Γ P sc n f (.loop x) T h = some (e, T', h', Θ) →
    Dom n T' ∧ ∀ ρ : Vals, XG (fun Q => Code.rounds P x Q f) n ρ T h e (ρ.subs Θ) T' h' := by
  intro f
  induction f with
  | zero => intro T T' h h' e Θ _ hr; simp [xrun] at hr
  | succ f ih =>
    intro T T' h h' e Θ hd hr
    simp only [xrun] at hr
    have hc := canon_dom (n := n) hn T h
    have ha := canon_above (n := n) T h
    generalize hcan : canon n T h = q at hr hc ha
    obtain ⟨θ, R, T2, h2⟩ := q
    simp only [xcut] at hr hc ha
    cases hok : okSub n (thOf θ) R T2 T h2 h with
    | false => rw [hok] at hr; cases hr
    | true =>
      rw [hok] at hr
      simp only [cond_true, Option.map_eq_some_iff] at hr
      obtain ⟨⟨e3, T3, h3, Θ3⟩, hr3, e4⟩ := hr
      simp only [Prod.mk.injEq] at e4
      obtain ⟨rfl, rfl, rfl, rfl⟩ := e4
      unfold xloop at hr3
      split at hr3
      · rename_i T1 h1 hg
        rw [grun_eq, frun_eq] at hg
        have hd1 := srun_dom hn f x T2 h2 [] .normal T1 h1 [] hc hg
        obtain ⟨g1, g2⟩ := ih T1 T3 h1 h3 e3 Θ3 hd1 hr3
        exact ⟨g1, fun ρ => XG.pre hc hd ha hok (XG.round (srun_ok (hF _) (hsc _) hn f x T2 h2 [] .normal T1 h1 [] hg).xg (g2 _))⟩
      · rename_i e1 T1 h1 hne hg
        simp only [Option.some.injEq, Prod.mk.injEq] at hr3
        obtain ⟨rfl, rfl, rfl, rfl⟩ := hr3
        rw [grun_eq, frun_eq] at hg
        have he : e1 ≠ .normal := by rintro rfl; exact hne rfl
        exact ⟨srun_dom hn f x T2 h2 [] e1 T1 h1 [] hc hg, fun ρ => XG.pre hc hd ha hok (XG.round_out he (srun_ok (hF _) (hsc _) hn f x T2 h2 [] e1 T1 h1 [] hg).xg)⟩
      · cases hr3

theorem xrun_ok (hF : ∀ ρ, FOk ρ Γ) (hsc : ∀ ρ, SCallOK P ρ sc) (hn : n < 1000000) : ∀ (f : Nat) (c : Code) (T T' : Tr SV) (h h' : Mem) (e : Exit) (Θ : List (List IE)), Dom n T → xrun Γ P sc n f c T h = some (e, T', h', Θ) →
    Dom n T' ∧ ∀ ρ : Vals, XG (Code.wp P c) n ρ T h e (ρ.subs Θ) T' h' := by
  intro f
  induction f with
  | zero => intro c T T' h h' e Θ _ hr; simp [xrun] at hr
  | succ f ih =>
    intro c T T' h h' e Θ hd hr
    cases c with
    | seq x y =>
      simp only [xrun] at hr
      cases hr1 : xrun Γ P sc n f x T h with
      | none => rw [hr1] at hr; cases hr
      | some r =>
        obtain ⟨e1, T1, h1, Θ1⟩ := r
        rw [hr1] at hr
        obtain ⟨a1, a2⟩ := ih x T T1 h h1 e1 Θ1 hd hr1
        cases e1 with
        | normal =>
          simp only [Option.map_eq_some_iff] at hr
          obtain ⟨⟨e3, T3, h3, Θ3⟩, hr3, e4⟩ := hr
          simp only [Prod.mk.injEq] at e4
          obtain ⟨rfl, rfl, rfl, rfl⟩ := e4
          obtain ⟨b1, b2⟩ := ih y T1 T3 h1 h3 e3 Θ3 a1 hr3
          refine ⟨b1, fun ρ => ?_⟩
          rw [subs_append]
          exact XG.seq (a2 ρ) (b2 _)
        | _ =>
          simp only [Option.some.injEq, Prod.mk.injEq] at hr
          obtain ⟨rfl, rfl, rfl, rfl⟩ := hr
          refine ⟨a1, fun ρ => (a2 ρ).as fun Q a w h => wp_seq (wp_mono h (by rintro e₁ a w ⟨rfl, h⟩; exact h))⟩
    | block id x =>
      simp only [xrun, Option.map_eq_some_iff] at hr
      obtain ⟨⟨e3, T3, h3, Θ3⟩, hr3, e4⟩ := hr
      simp only [Prod.mk.injEq] at e4
      obtain ⟨rfl, rfl, rfl, rfl⟩ := e4
      obtain ⟨a1, a2⟩ := ih x T T3 h h3 e3 Θ3 hd hr3
      exact ⟨a1, fun ρ => XG.block (a2 ρ) rfl⟩
    | loop x =>
      obtain ⟨a1, a2⟩ := xrun_rounds hF hsc hn (f + 1) T T' h h' e Θ hd hr
      exact ⟨a1, fun ρ => XG.loop (a2 ρ)⟩
    | _ => exact xplain hF hsc hn hd hr
end

end Go.Proofs.YtijbnccphmfdkaaGreat.Den
end

section
set_option linter.unusedSimpArgs false
namespace Go.Proofs.YtijbnccphmfdkaaGreat.Den
variable {ρ : Vals}

/-! ### expressions of words -/
def nden (N B : Nat → Nat) : IE → Nat
  | .lit n => n.toNat
  | .var i => N i
  | .byte i => B i
  | .bin op _ a b =>
    match op with
    | .add => Nat.mod (Nat.add (nden N B a) (nden N B b)) 4294967296
    | .xor => Nat.xor (nden N B a) (nden N B b)
    | .and => Nat.land (nden N B a) (nden N B b)
    | .or => Nat.lor (nden N B a) (nden N B b)
    | .shl => Nat.mod (Nat.shiftLeft (nden N B a) (nden N B b)) 4294967296
    | .shr => Nat.shiftRight (nden N B a) (nden N B b)
    | _ => 0
  | _ => 0

def smallLit : IE → Bool
  | .lit (.ofNat n) => Nat.blt n 32
  | _ => false
def isU32 : IntKind → Bool
  | .u32 => true
  | _ => false
def good : IE → Bool
  | .lit (.ofNat n) => Nat.blt n 4294967296
  | .var _ => true
  | .byte _ => true
  | .bin op k a b => isU32 k && good a && good b && (match op with
    | .add | .xor | .and | .or => true
    | .shl | .shr => smallLit b
    | _ => false)
  | _ => false

/-- The names stand for words. -/
structure NS (ρ : Vals) (N B : Nat → Nat) : Prop where
  i : ∀ j, ρ.i j = (N j : Int) ∧ N j < 4294967296
  b : ∀ j, (ρ.b j).toNat = B j

theorem wrap_u32 (n : Nat) : IntKind.u32.wrap (n : Int) = ((n % 4294967296 : Nat) : Int) := by
  simp [IntKind.wrap, IntKind.bits, IntKind.signed]
theorem bv_u32 (n : Nat) (h : n < 4294967296) : (BitVec.ofInt IntKind.u32.bits (n : Int)).toNat = n := by
  show (BitVec.ofInt 32 (n : Int)).toNat = n
  simp [BitVec.toNat_ofInt]; omega

theorem den_nden {N B : Nat → Nat} (h : NS ρ N B) : ∀ e : IE, good e = true → e.den ρ = (nden N B e : Int) ∧ nden N B e < 4294967296
  | .lit n, hg => by
    cases n with
    | ofNat n => exact ⟨rfl, blt_lt hg⟩
    | negSucc n => simp [good] at hg
  | .var i, _ => h.i i
  | .byte i, _ => by
    refine ⟨?_, ?_⟩
    · show (((ρ.b i).toNat : Nat) : Int) = _
      rw [h.b]; rfl
    · show B i < _
      rw [← h.b i]
      have := (ρ.b i).toNat_lt
      omega
  | .bin op k a b, hg => by
    simp only [good, Bool.and_eq_true] at hg
    obtain ⟨⟨⟨hk, ha⟩, hb⟩, ho⟩ := hg
    have hk' : k = .u32 := by cases k <;> simp [isU32] at hk; rfl
    subst hk'
    obtain ⟨a1, a2⟩ := den_nden h a ha
    obtain ⟨b1, b2⟩ := den_nden h b hb
    have hsh : smallLit b = true → ∃ n, b = .lit (.ofNat n) ∧ n < 32 := by
      intro hs
      unfold smallLit at hs
      split at hs
      · exact ⟨_, rfl, blt_lt hs⟩
      · cases hs
    have hb32 : IntKind.u32.bits = 32 := rfl
    cases op with
    | add =>
      simp only [IE.den, arI, Option.getD_some, a1, b1]
      have : (nden N B a : Int) + (nden N B b : Int) = ((nden N B a + nden N B b : Nat) : Int) := by simp
      rw [this, wrap_u32]
      exact ⟨rfl, Nat.mod_lt _ (by decide)⟩
    | xor =>
      simp only [IE.den, arI, Option.getD_some, a1, b1, BitVec.toNat_xor, bv_u32 _ a2, bv_u32 _ b2]
      have hlt : nden N B a ^^^ nden N B b < 4294967296 := Nat.xor_lt_two_pow (n := 32) a2 b2
      rw [wrap_u32, Nat.mod_eq_of_lt hlt]
      exact ⟨rfl, hlt⟩
    | and =>
      simp only [IE.den, arI, Option.getD_some, a1, b1, BitVec.toNat_and, bv_u32 _ a2, bv_u32 _ b2]
      have hlt : nden N B a &&& nden N B b < 4294967296 := Nat.lt_of_le_of_lt Nat.and_le_left a2
      rw [wrap_u32, Nat.mod_eq_of_lt hlt]
      exact ⟨rfl, hlt⟩
    | or =>
      simp only [IE.den, arI, Option.getD_some, a1, b1, BitVec.toNat_or, bv_u32 _ a2, bv_u32 _ b2]
      have hlt : nden N B a ||| nden N B b < 4294967296 := Nat.or_lt_two_pow (n := 32) a2 b2
      rw [wrap_u32, Nat.mod_eq_of_lt hlt]
      exact ⟨rfl, hlt⟩
    | shl =>
      obtain ⟨n, rfl, hn⟩ := hsh ho
      have hmin : min n 32 = n := by omega
      have hy : (0 : Int) ≤ Int.ofNat n := Int.natCast_nonneg n
      simp only [IE.den, arI, a1, hb32]
      rw [if_pos hy, Option.getD_some]
      show IntKind.u32.wrap ((nden N B a : Int) * 2 ^ min n 32) = _ ∧ _
      rw [hmin]
      have : (nden N B a : Int) * 2 ^ n = ((nden N B a * 2 ^ n : Nat) : Int) := by simp
      rw [this, wrap_u32]
      refine ⟨?_, Nat.mod_lt _ (by decide)⟩
      show _ = ((Nat.mod (nden N B a <<< n) 4294967296 : Nat) : Int)
      rw [Nat.shiftLeft_eq]; rfl
    | shr =>
      obtain ⟨n, rfl, hn⟩ := hsh ho
      have hmin : min n 32 = n := by omega
      have hy : (0 : Int) ≤ Int.ofNat n := Int.natCast_nonneg n
      simp only [IE.den, arI, a1, hb32]
      rw [if_pos hy, Option.getD_some]
      show Int.fdiv (nden N B a : Int) (2 ^ min n 32) = ((nden N B a >>> n : Nat) : Int) ∧ nden N B a >>> n < _
      rw [hmin, Nat.shiftRight_eq_div_pow]
      refine ⟨?_, Nat.lt_of_le_of_lt (Nat.div_le_self _ _) a2⟩
      rw [Int.fdiv_eq_ediv_of_nonneg _ (by exact Int.le_of_lt (Int.pow_pos (by decide)))]
      simp
    | _ => simp at ho
  | .wrap k a, hg => by simp [good] at hg
  | .fn f l i, hg => by simp [good] at hg

/-! ### names, by their number -/
theorem thTr_get : ∀ (l : List IE) (k : Nat) (T : Tr IE) (j : Nat), k + l.length < 2 ^ 59 → (thTr l k T).get j = if k ≤ j ∧ j < k + l.length then l[j - k]? else T.get j := by
  intro l
  induction l with
  | nil => intro k T j _; simp only [thTr, List.length_nil]; rw [if_neg (by omega)]
  | cons x l ih =>
    intro k T j hk
    rw [List.length_cons] at hk ⊢
    have h60 : (2 : Nat) ^ 59 ≤ 2 ^ 60 := by decide
    rw [show thTr (x :: l) k T = thTr l (k + 1) (T.put k x) from rfl, ih (k + 1) _ j (by omega), put_get T k x j (by omega)]
    by_cases h1 : k + 1 ≤ j ∧ j < k + 1 + l.length
    · rw [if_pos h1, if_pos (by omega)]
      have : j - k = j - (k + 1) + 1 := by omega
      rw [this]; rfl
    · rw [if_neg h1]
      by_cases h2 : j = k
      · subst h2; rw [if_pos rfl, if_pos (by omega)]; simp
      · rw [if_neg h2, if_neg (by omega)]

theorem thOf_eq (l : List IE) (h : l.length < 1000000) (j : Nat) : thOf l j = l.getD j (.lit 0) := by
  unfold thOf
  rw [thTr_get l 0 .nil j (Nat.lt_trans (by simpa using h) (by decide))]
  by_cases hj : j < l.length
  · rw [if_pos (by omega)]
    simp [List.getD_eq_getElem?_getD]
  · rw [if_neg (by omega), nil_get]
    simp [List.getD_eq_getElem?_getD, List.getElem?_eq_none (by omega : l.length ≤ j)]

def okTh (θ : List IE) : Bool := Nat.blt θ.length 1000000 && θ.all good
def nth1 (N B : Nat → Nat) (θ : List IE) : Nat → Nat := fun j => nden N B (θ.getD j (.lit 0))
def nsubs (B : Nat → Nat) : (Nat → Nat) → List (List IE) → Nat → Nat
  | N, [] => N
  | N, θ :: Θ => nsubs B (nth1 N B θ) Θ

theorem NS.sub {N B : Nat → Nat} (h : NS ρ N B) {θ : List IE} (hg : okTh θ = true) : NS (ρ.sub (thOf θ)) (nth1 N B θ) B where
  i := fun j => by
    simp only [okTh, Bool.and_eq_true] at hg
    have hlen := blt_lt hg.1
    have hgood : good (θ.getD j (.lit 0)) = true := by
      rw [List.getD_eq_getElem?_getD]
      by_cases hj : j < θ.length
      · rw [List.getElem?_eq_getElem hj, Option.getD_some]
        exact (List.all_eq_true.1 hg.2) _ (List.getElem_mem hj)
      · rw [List.getElem?_eq_none (by omega), Option.getD_none]; rfl
    show (thOf θ j).den ρ = _ ∧ _
    rw [thOf_eq θ hlen]
    exact den_nden h _ hgood
  b := h.b

theorem NS.subs {B : Nat → Nat} : ∀ (Θ : List (List IE)) (ρ : Vals) (N : Nat → Nat), NS ρ N B → Θ.all okTh = true → NS (ρ.subs Θ) (nsubs B N Θ) B := by
  intro Θ
  induction Θ with
  | nil => intro ρ N h _; exact h
  | cons θ Θ ih =>
    intro ρ N h hg
    simp only [List.all_cons, Bool.and_eq_true] at hg
    exact ih _ _ (h.sub hg.1) hg.2

/-! ### the names that matter -/
def varsLt (m : Nat) : IE → Bool
  | .lit _ => true
  | .var i => Nat.blt i m
  | .byte _ => true
  | .bin _ _ a b => varsLt m a && varsLt m b
  | _ => false
def okTrack : Nat → List (List IE) → List (List IE) → Bool
  | _, [], [] => true
  | m, θ :: Θ, x :: X => IE.beqs (θ.take x.length) x && x.all (varsLt m) && okTrack x.length Θ X
  | _, _, _ => false
def envOf (env : List Nat) : Nat → Nat := fun j => env.getD j 0
def track (B : Nat → Nat) : List Nat → List (List IE) → List Nat
  | env, [] => env
  | env, x :: X => track B (x.map (nden (envOf env) B)) X

theorem nden_congr {N N' B : Nat → Nat} {m : Nat} (h : ∀ j, j < m → N j = N' j) : ∀ e : IE, varsLt m e = true → nden N B e = nden N' B e
  | .lit _, _ => rfl
  | .var i, hv => h i (blt_lt hv)
  | .byte _, _ => rfl
  | .bin op k a b, hv => by
    simp only [varsLt, Bool.and_eq_true] at hv
    cases op <;> simp only [nden, nden_congr h a hv.1, nden_congr h b hv.2]
  | .wrap _ _, hv => by simp [varsLt] at hv
  | .fn _ _ _, hv => by simp [varsLt] at hv

theorem track_ok {B : Nat → Nat} : ∀ (Θ X : List (List IE)) (m : Nat) (N : Nat → Nat) (env : List Nat), okTrack m Θ X = true → env.length = m → (∀ j, j < m → N j = envOf env j) →
    ∀ j, j < (track B env X).length → nsubs B N Θ j = envOf (track B env X) j
  | [], [], m, N, env, _, hl, h, j, hj => h j (by simp only [track] at hj; omega)
  | θ :: Θ, x :: X, m, N, env, hok, hl, h, j, hj => by
    simp only [okTrack, Bool.and_eq_true] at hok
    obtain ⟨⟨h1, h2⟩, h3⟩ := hok
    have h1 := IE.beqs_eq h1
    refine track_ok Θ X x.length _ _ h3 (by simp) ?_ j hj
    intro i hi
    have hθ : θ.getD i (.lit 0) = x[i] := by
      have e1 : (θ.take x.length)[i]? = some x[i] := by rw [h1]; exact List.getElem?_eq_getElem hi
      have e2 : θ[i]? = some x[i] := by rw [List.getElem?_take] at e1; rwa [if_pos hi] at e1
      rw [List.getD_eq_getElem?_getD, e2]; rfl
    have hv := (List.all_eq_true.1 h2) x[i] (List.getElem_mem hi)
    show nden N B (θ.getD i (.lit 0)) = _
    rw [hθ, nden_congr h _ hv]
    simp [envOf, List.getD_eq_getElem?_getD, List.getElem?_map, List.getElem?_eq_getElem hi]

end Go.Proofs.YtijbnccphmfdkaaGreat.Den
end

section
set_option linter.unusedSimpArgs false
namespace Go.Proofs.YtijbnccphmfdkaaGreat.Den
open Go.RowKit
variable {P : Program} {ρ ρ' : Vals}

def noH : AHeap := fun _ => none
def noS : Sig := fun _ => none
def noN : Nat → Option Name := fun _ => none

theorem arel_no {I : Imm} {w : World} (hI : ∀ m b c, I m b = some c → ∃ el fr, w.heap[b]? = some (.cells c el fr)) : ARel noS I noH w :=
  ⟨fun n row hn => (by cases hn), fun n n' p p' hn => absurd rfl hn, hI, fun n p m hn => absurd rfl hn⟩

theorem mrel_no : MRel ρ noN ⟨0, .nil⟩ noH :=
  ⟨fun n row hn => (by rw [Mem.get, nil_get] at hn; cases hn), fun n k m hn => (by cases hn), fun n hn => absurd rfl hn⟩

theorem vals_agg {σ : Sig} {I : Imm} : ∀ {l vs : List Value}, VRels σ I (l.map .val) vs → vs = l
  | [], vs, h => by cases h; rfl
  | v :: l, vs, h => by
    cases h with
    | cons h t => cases h; rw [vals_agg t]

/-- What a run with cuts is, for a call. -/
theorem calls_of_xg {f : FuncId} {fn : Func} {code : Code} {args l : List SV} {e : Exit} {T' : Tr SV} {h' : Mem} (hf : P.funcs[f]? = some fn) (hb : fn.body = some code) (hn : args.length ≤ fn.ntmps) (hn' : fn.ntmps < 1000000)
    (hx : XG (Code.wp P code) fn.ntmps ρ (sargs 0 args .nil) ⟨0, .nil⟩ e ρ' T' h') (he : e = .normal ∨ e = .ret) (hr : sres P T' h' fn.results.toList = some l) {xs : List AV} (ha : SRels ρ noN args xs) :
    ∃ ν' ys, SRels ρ' ν' l ys ∧ ∀ (I : Imm) (w : World) (vs : Array Value), VRels noS I xs vs.toList → (∀ m b c, I m b = some c → ∃ el fr, w.heap[b]? = some (.cells c el fr)) →
      Calls P f vs w fun e w' => ∃ v σ' I', e = .returned v ∧ Below w.heap.size w w' ∧ VRel σ' I' (ares1 ys) v := by
  obtain ⟨ν', s', g1, g2⟩ := hx [] noN ⟨0, T0 xs, noH, []⟩ ⟨sargs_T0 ha (by omega), mrel_no, fun i _ n s hs => (by cases hs), .nil⟩
  obtain ⟨ys, h1, h2⟩ := sres_ok g1.tr g1.mem.rows _ _ hr
  refine ⟨ν', ys, h2, fun I w vs hv hI => ?_⟩
  refine calls_of_wp hf hb (g2 noS I _ w _ (start_st (by rw [← ha.length]; exact hn) (fun s => rfl) hv (arel_no hI)) ?_)
  intro σ' I' a' w' hst st'
  have hds : a'.defers = [] := (g1.late.nil_inv ▸ st'.late).nil_inv
  obtain ⟨v, h4, h5⟩ := results_run st'.st.tr st'.st.rel h1
  have hbl : Below w.heap.size w w' := ⟨hst.fr.os, hst.fr.tape, hst.fr.output, hst.fr.size, fun k hk => hst.fr.block k hk (by
    rintro ⟨n, p, hn, _⟩
    exact hn rfl)⟩
  rcases he with rfl | rfl
  · exact ⟨hds, v, h4, v, σ', I', rfl, hbl, h5⟩
  · exact ⟨hds, v, h4, v, σ', I', rfl, hbl, h5⟩

/-- All blocks, as if nobody wrote them. -/
def allI (w : World) : Imm := fun _ b => match w.heap[b]? with
  | some (.cells c _ _) => some c
  | _ => none

theorem allI_ok (w : World) : ∀ m b c, allI w m b = some c → ∃ el fr, w.heap[b]? = some (.cells c el fr) := by
  intro m b c h
  unfold allI at h
  split at h
  · rename_i c' el fr hb; cases h; exact ⟨el, fr, hb⟩
  · cases h

/-- Cells that name nothing. -/
def vcells (l : List Value) : List AV := l.map .val

theorem vcells_any {σ σ' : Sig} {I I' : Imm} : ∀ {l vs : List Value}, VRels σ I (vcells l) vs → VRels σ' I' (vcells l) vs := by
  intro l vs h
  rw [vals_agg h]
  exact VRels.vals l

/-- A slice of plain cells that are in the memory, as one that nobody writes. -/
theorem src_im {σ : Sig} {I : Imm} {H : AHeap} {w : World} (hr : ARel σ I H w) {y : AV} {v : Value} (hv : VRel σ I y v) {k sz : Nat} {l : List Value} (hk : k ≠ 0) (hs : srcCells H sz y = some (k, vcells l)) (hl : l.length = k * sz) (hy : (∃ n o len z, y = .sl n o len z) ∨ ∃ m len c, y = .im m len c) :
    VRel noS (allI w) (.im true k (vcells l)) v := by
  rcases hy with ⟨n, o, len, z, rfl⟩ | ⟨m, len, c, rfl⟩
  · simp only [srcCells] at hs
    split at hs
    · rename_i hz
      subst hz
      cases hn : H n with
      | none => rw [hn] at hs; simp at hs
      | some row =>
        rw [hn] at hs
        simp only [Option.bind_some] at hs
        split at hs
        · rename_i hle
          simp only [Option.some.injEq, Prod.mk.injEq] at hs
          obtain ⟨rfl, hs⟩ := hs
          cases hv with
          | @sl _ _ _ _ cap p hp hlc hc =>
            obtain ⟨p', c', el, fr, h1, h2, h3, h4, h5⟩ := hr.rows n row hn
            rw [hp] at h1; cases h1
            have hI : allI w true p.b = some c' := by simp only [allI, h2]
            refine .im hI ?_ hlc
            have hseg := (h5.drop o).take (len * z)
            rw [hs] at hseg
            have hlen : (vcells l).length = len * z := by simp [vcells, hl]
            rw [hlen]
            refine vcells_any (σ := σ) (I := I) ?_
            have e1 : ((seg c' p.o row.length).drop o).take (len * z) = seg c' (p.o + o) (len * z) := by
              simp only [seg, List.drop_take, List.drop_drop, List.take_take]
              congr 1
              omega
            rw [e1] at hseg
            exact hseg
        · cases hs
    · cases hs
  · simp only [srcCells] at hs
    split at hs
    · simp only [Option.some.injEq, Prod.mk.injEq] at hs
      obtain ⟨rfl, hs⟩ := hs
      cases hv with
      | im0 => exact absurd rfl hk
      | @im _ _ cap b o _ c' hI hc hlc =>
        obtain ⟨el, fr, hb⟩ := hr.imm _ _ _ hI
        rw [hs] at hc
        exact .im (by simp only [allI, hb]) (vcells_any hc) hlc
    · cases hs

/-- Plain values, whatever the names. -/
theorem agg_any {σ σ' : Sig} {I I' : Imm} {l : List Value} {v : Value} (h : VRel σ I (.agg (vcells l)) v) : VRel σ' I' (.agg (vcells l)) v := by
  cases h with
  | agg h => exact .agg (vcells_any h)

end Go.Proofs.YtijbnccphmfdkaaGreat.Den
end

section
set_option linter.unusedSimpArgs false
namespace Go.Proofs.YtijbnccphmfdkaaGreat.Den
open Go.RowKit
variable {P : Program} {ρ : Vals}

def isNil {α : Type} : List α → Bool
  | [] => true
  | _ => false

/-- Calls by one table till the first cut, by another one behind. -/
noncomputable def yrun (P : Program) (call0 call : SCall) (n : Nat) : Nat → Code → Tr SV → Mem → XRes
  | 0, _, _, _ => none
  | f + 1, c, T, h =>
    match c with
    | .seq x y =>
      match yrun P call0 call n f x T h with
      | some (.normal, T, h, Θ) => (bif isNil Θ then yrun P call0 call n f y T h else xrun [] P call n f y T h).map fun (e, T, h, Θ') => (e, T, h, Θ ++ Θ')
      | r => r
    | .block id x => xrun [] P call n (f + 1) (.block id x) T h
    | .loop x => xrun [] P call n (f + 1) (.loop x) T h
    | c => xof (grun [] P call0 n f c T h [])

theorem FOk.nil : FOk ρ [] := fun x hx => by cases hx

theorem yrun_ok {sc0 sc : SCall} {n : Nat} (hsc0 : SCallOK P ρ sc0) (hsc : ∀ ρ, SCallOK P ρ sc) (hn : n < 1000000) : ∀ (f : Nat) (c : Code) (T T' : Tr SV) (h h' : Mem) (e : Exit) (Θ : List (List IE)), Dom n T → yrun P sc0 sc n f c T h = some (e, T', h', Θ) →
    Dom n T' ∧ XG (Code.wp P c) n ρ T h e (ρ.subs Θ) T' h' := by
  intro f
  induction f with
  | zero => intro c T T' h h' e Θ _ hr; simp [yrun] at hr
  | succ f ih =>
    intro c T T' h h' e Θ hd hr
    cases c with
    | seq x y =>
      simp only [yrun] at hr
      cases hr1 : yrun P sc0 sc n f x T h with
      | none => rw [hr1] at hr; cases hr
      | some r =>
        obtain ⟨e1, T1, h1, Θ1⟩ := r
        rw [hr1] at hr
        obtain ⟨a1, a2⟩ := ih x T T1 h h1 e1 Θ1 hd hr1
        cases e1 with
        | normal =>
          simp only [Option.map_eq_some_iff] at hr
          obtain ⟨⟨e3, T3, h3, Θ3⟩, hr3, e4⟩ := hr
          simp only [Prod.mk.injEq] at e4
          obtain ⟨rfl, rfl, rfl, rfl⟩ := e4
          cases Θ1 with
          | nil =>
            obtain ⟨b1, b2⟩ := ih y T1 T3 h1 h3 e3 Θ3 a1 hr3
            exact ⟨b1, XG.seq a2 b2⟩
          | cons θ Θ1 =>
            obtain ⟨b1, b2⟩ := xrun_ok (fun _ => FOk.nil) hsc hn f y T1 T3 h1 h3 e3 Θ3 a1 hr3
            refine ⟨b1, ?_⟩
            rw [subs_append]
            exact XG.seq a2 (b2 _)
        | _ =>
          simp only [Option.some.injEq, Prod.mk.injEq] at hr
          obtain ⟨rfl, rfl, rfl, rfl⟩ := hr
          exact ⟨a1, a2.as fun Q a w h => wp_seq (wp_mono h (by rintro e₁ a w ⟨rfl, h⟩; exact h))⟩
    | block id x =>
      obtain ⟨a1, a2⟩ := xrun_ok (fun _ => FOk.nil) hsc hn (f + 1) (.block id x) T T' h h' e Θ hd hr
      exact ⟨a1, a2 ρ⟩
    | loop x =>
      obtain ⟨a1, a2⟩ := xrun_ok (fun _ => FOk.nil) hsc hn (f + 1) (.loop x) T T' h h' e Θ hd hr
      exact ⟨a1, a2 ρ⟩
    | _ =>
      obtain ⟨h1, rfl⟩ := xof_some hr
      rw [grun_eq, frun_eq] at h1
      exact ⟨srun_dom hn f _ T h [] e T' h' [] hd h1, (srun_ok FOk.nil hsc0 hn f _ T h [] e T' h' [] h1).xg⟩

/-! ### a function, all of it -/
def isEnd : Exit → Bool
  | .normal => true
  | .ret => true
  | _ => false
def ychk3 (Θ : List (List IE)) (chk : List SV → List (List IE) → Bool) : Option (List SV) → Bool
  | some l => chk l Θ
  | none => false
def ychk2 (P : Program) (fn : Func) (chk : List SV → List (List IE) → Bool) : XRes → Bool
  | some (e, T, h, Θ) => bif isEnd e then ychk3 Θ chk (sres P T h fn.results.toList) else false
  | none => false
noncomputable def ychk1 (P : Program) (call0 call : SCall) (F : Nat) (f : FuncId) (args : List SV) (fn : Func) (chk : List SV → List (List IE) → Bool) : Option Code → Bool
  | some code => bif isGo P f && Nat.ble args.length fn.ntmps && Nat.blt fn.ntmps 1000000 then ychk2 P fn chk (yrun P call0 call fn.ntmps F code (sargs 0 args .nil) ⟨0, .nil⟩) else false
  | none => false
noncomputable def ychk0 (P : Program) (call0 call : SCall) (F : Nat) (f : FuncId) (args : List SV) (chk : List SV → List (List IE) → Bool) : Option Func → Bool
  | some fn => ychk1 P call0 call F f args fn chk fn.body
  | none => false
/-- A function is run, with cuts, and what it gives is checked. -/
noncomputable def ychk (P : Program) (call0 call : SCall) (F : Nat) (f : FuncId) (args : List SV) (chk : List SV → List (List IE) → Bool) : Bool := ychk0 P call0 call F f args chk (fnAt P f)

theorem sargs_dom {n : Nat} {l : List SV} (hl : l.length ≤ n) (hn : n < 1000000) : Dom n (sargs 0 l .nil) := by
  intro t ht
  rw [sargs_get l 0 .nil t (Nat.lt_trans (show 0 + l.length < 1000001 by omega) (by decide)), if_neg (by omega), nil_get]

theorem ychk_ok {sc0 sc : SCall} (hsc0 : SCallOK P ρ sc0) (hsc : ∀ ρ, SCallOK P ρ sc) {F : Nat} {f : FuncId} {args : List SV} {chk : List SV → List (List IE) → Bool} (h : ychk P sc0 sc F f args chk = true) :
    isGo P f = true ∧ ∃ l Θ, chk l Θ = true ∧ ∀ xs, SRels ρ noN args xs → ∃ ν' ys, SRels (ρ.subs Θ) ν' l ys ∧ ∀ (I : Imm) (w : World) (vs : Array Value), VRels noS I xs vs.toList → (∀ m b c, I m b = some c → ∃ el fr, w.heap[b]? = some (.cells c el fr)) →
      Calls P f vs w fun e w' => ∃ v σ' I', e = .returned v ∧ Below w.heap.size w w' ∧ VRel σ' I' (ares1 ys) v := by
  unfold ychk at h
  cases hf : fnAt P f with
  | none => rw [hf] at h; cases h
  | some fn =>
    rw [hf] at h
    simp only [ychk0] at h
    cases hb : fn.body with
    | none => rw [hb] at h; cases h
    | some code =>
      rw [hb] at h
      simp only [ychk1] at h
      cases hc : (isGo P f && Nat.ble args.length fn.ntmps && Nat.blt fn.ntmps 1000000) with
      | false => rw [hc] at h; cases h
      | true =>
        rw [hc] at h
        simp only [cond_true] at h
        simp only [Bool.and_eq_true] at hc
        obtain ⟨⟨hgo, ha⟩, hn⟩ := hc
        have ha := Nat.le_of_ble_eq_true ha
        have hn := blt_lt hn
        unfold ychk2 at h
        split at h
        · rename_i e T h' Θ hy
          cases he : isEnd e with
          | false => rw [he] at h; cases h
          | true =>
            rw [he] at h
            simp only [cond_true] at h
            cases hr : sres P T h' fn.results.toList with
            | none => rw [hr] at h; cases h
            | some l =>
              rw [hr] at h
              refine ⟨hgo, l, Θ, h, fun xs hxs => ?_⟩
              obtain ⟨_, g⟩ := yrun_ok hsc0 hsc hn F code _ T _ h' e Θ (sargs_dom ha hn) hy
              refine calls_of_xg hf hb ha hn g ?_ hr hxs
              cases e <;> first | exact .inl rfl | exact .inr rfl | cases he
        · cases h

end Go.Proofs.YtijbnccphmfdkaaGreat.Den
end

section
set_option linter.unusedSimpArgs false
namespace Go.Proofs.YtijbnccphmfdkaaGreat.Den
open Go.RowKit
variable {P : Program} {ρ : Vals} {ν : Nat → Option Name}

/-! ### states written out -/
def putT : List (Nat × SV) → Tr SV → Tr SV
  | [], T => T
  | (k, v) :: r, T => putT r (T.put k v)
def putM : List (Nat × List SV) → Tr (List SV) → Tr (List SV)
  | [], m => m
  | (k, v) :: r, m => putM r (m.put k v)
structure LS where
  T : List (Nat × SV)
  next : Nat
  rows : List (Nat × List SV)
def LS.tr (s : LS) : Tr SV := putT s.T .nil
def LS.mem (s : LS) : Mem := ⟨s.next, putM s.rows .nil⟩

theorem putM_get : ∀ (l : List (Nat × List SV)) (m : Tr (List SV)) (k : Nat) (row : List SV), (putM l m).get k = some row → (k, row) ∈ l ∨ m.get k = some row
  | [], _, _, _, h => .inr h
  | (k', v) :: r, m, k, row, h => by
    rcases putM_get r _ k row h with h1 | h1
    · exact .inl (List.mem_cons_of_mem _ h1)
    · rcases put_get_some m k' v k row h1 with ⟨rfl, rfl⟩ | ⟨_, h2⟩
      · exact .inl (by simp)
      · exact .inr h2

/-- The same temporaries. -/
def sameT (T T' : Tr SV) : Nat → Bool
  | 0 => true
  | n + 1 => SV.beq ((T'.get n).getD (.val undef)) ((T.get n).getD (.val undef)) && sameT T T' n
def sameM (next : Nat) (h' : Mem) : List (Nat × List SV) → Bool
  | [] => true
  | (k, row) :: r => (match h'.get k with
    | some row' => SV.beqs row' row
    | none => false) && sameM next h' r
def isLS (n : Nat) (s : LS) (T' : Tr SV) (h' : Mem) : Bool := Nat.beq s.next h'.next && s.T.all (fun p => Nat.blt p.1 n) && sameT s.tr T' n && sameM s.next h' s.rows

theorem sameT_at {T T' : Tr SV} : ∀ {n : Nat}, sameT T T' n = true → ∀ t, t < n → (T'.get t).getD (.val undef) = (T.get t).getD (.val undef)
  | 0, _, t, ht => by omega
  | n + 1, h, t, ht => by
    simp only [sameT, Bool.and_eq_true] at h
    by_cases e : t = n
    · subst e; exact SV.beq_eq h.1
    · exact sameT_at h.2 t (by omega)
theorem sameM_at {next : Nat} {h' : Mem} : ∀ {l : List (Nat × List SV)}, sameM next h' l = true → ∀ k row, (k, row) ∈ l → h'.get k = some row
  | [], _, _, _, h => by cases h
  | (k', row') :: r, hs, k, row, h => by
    simp only [sameM, Bool.and_eq_true] at hs
    rcases List.mem_cons.1 h with e | h
    · cases e
      have h1 := hs.1
      split at h1
      · rename_i r' hr'; rw [hr', SV.beqs_eq h1]
      · cases h1
    · exact sameM_at hs.2 k row h

theorem sameM_rel {next : Nat} {h' : Mem} {H : AHeap} {rows : List (Nat × List SV)} (hn : next = h'.next) (hm : MRel ρ ν h' H) (hs : sameM next h' rows = true) : MRel ρ ν ⟨next, putM rows .nil⟩ H where
  rows := fun k row hk => by
    rcases putM_get rows .nil k row hk with h1 | h1
    · exact hm.rows k row (sameM_at hs k row h1)
    · rw [nil_get] at h1; cases h1
  inj := hm.inj
  lt := fun k hk => by rw [hn]; exact hm.lt k hk

theorem putT_dom {n : Nat} (hn : n < 1000000) : ∀ (l : List (Nat × SV)) (T : Tr SV), l.all (fun p => Nat.blt p.1 n) = true → Dom n T → Dom n (putT l T)
  | [], _, _, h => h
  | (k, v) :: r, T, hl, h => by
    simp only [List.all_cons, Bool.and_eq_true] at hl
    exact putT_dom hn r _ hl.2 (h.put hn (d := some k) (fun j hj => by cases hj; exact blt_lt hl.1) v)

theorem isLS_dom {n : Nat} (hn : n < 1000000) {s : LS} {T' : Tr SV} {h' : Mem} (h : isLS n s T' h' = true) : Dom n s.tr := by
  simp only [isLS, Bool.and_eq_true] at h
  exact putT_dom hn s.T .nil h.1.1.2 fun t _ => nil_get t

theorem SAt.lit {p : Name} {n : Nat} (hn : n < 1000000) {s : LS} {T' : Tr SV} {h' : Mem} {a : AT} (hs : SAt ρ p T' h' [] ν a) (hd : Dom n T') (h : isLS n s T' h' = true) : SAt ρ p s.tr s.mem [] ν a := by
  have hdom := isLS_dom hn h
  simp only [isLS, Bool.and_eq_true] at h
  obtain ⟨⟨⟨h1, h2⟩, h3⟩, h4⟩ := h
  refine ⟨?_, sameM_rel (Nat.eq_of_beq_eq_true h1) hs.mem h4, hs.fre, hs.late⟩
  intro t
  by_cases ht : t < n
  · have := hs.tr t
    rwa [sameT_at h3 t ht] at this
  · have := hs.tr t
    rw [hd t (by omega)] at this
    rw [hdom t (by omega)]
    exact this

/-- The end, written out. -/
theorem XGoes.lit {W : (Exit → Act → World → Prop) → Act → World → Prop} {n : Nat} (hn : n < 1000000) {T T' : Tr SV} {h h' : Mem} {e : Exit} {s : LS} (hx : XGoes W ρ n T h [] e T' h' []) (hd : Dom n T') (hs : isLS n s T' h' = true) : XGoes W ρ n T h [] e s.tr s.mem [] := by
  intro p ν a st
  obtain ⟨ν', a', g1, g2, g3⟩ := hx p ν a st
  exact ⟨ν', a', g1, g2.lit hn hd hs, g3⟩

/-! ### pieces of code, from state to state -/
/-- Checked: from one state to another one. -/
noncomputable def seg1 (P : Program) (sc : SCall) (n F : Nat) (c : Code) (s : LS) (e : Exit → Bool) (s' : LS) : Bool :=
  match grun [] P sc n F c s.tr s.mem [] with
  | some (x, T', h', []) => e x && isLS n s' T' h'
  | _ => false
def isNormal : Exit → Bool
  | .normal => true
  | _ => false

theorem seg1_ok {sc : SCall} (hsc : SCallOK P ρ sc) {n F : Nat} (hn : n < 1000000) {c : Code} {s s' : LS} {f : Exit → Bool} (hd : s.T.all (fun p => Nat.blt p.1 n) = true) (h : seg1 P sc n F c s f s' = true) : ∃ e, f e = true ∧ XGoes (Code.wp P c) ρ n s.tr s.mem [] e s'.tr s'.mem [] := by
  unfold seg1 at h
  split at h
  · rename_i x T' h' hg
    simp only [Bool.and_eq_true] at h
    rw [grun_eq, frun_eq] at hg
    exact ⟨x, h.1, (srun_ok FOk.nil hsc hn F c _ _ [] x T' h' [] hg).lit hn (srun_dom hn F c _ _ [] x T' h' [] (putT_dom hn s.T .nil hd fun t _ => nil_get t) hg) h.2⟩
  · cases h

theorem seg1_normal {sc : SCall} (hsc : SCallOK P ρ sc) {n F : Nat} (hn : n < 1000000) {c : Code} {s s' : LS} (hd : s.T.all (fun p => Nat.blt p.1 n) = true) (h : seg1 P sc n F c s isNormal s' = true) : XGoes (Code.wp P c) ρ n s.tr s.mem [] .normal s'.tr s'.mem [] := by
  obtain ⟨e, he, hx⟩ := seg1_ok hsc hn hd h
  cases e <;> first | exact hx | cases he

/-! ### a call, at one state -/
/-- What a call does, of these arguments, in this memory. -/
def SPoint (P : Program) (ρ : Vals) (f : FuncId) (args : List SV) (h : Mem) (r : SV) (h' : Mem) : Prop :=
  isGo P f = true ∧ ∀ (ν : Nat → Option Name) (H : AHeap) (nm : Name) (xs : List AV), MRel ρ ν h H → Fre ν nm → SRels ρ ν args xs → ∃ z H', Sim P f xs nm H z H' ∧ Out ρ ν nm r h' z H'

/-- From the run of its body. -/
theorem point_of {f : FuncId} {fn : Func} {code : Code} {args : List SV} {h h' : Mem} {e : Exit} {T' : Tr SV} {l : List SV} (hgo : isGo P f = true) (hf : P.funcs[f]? = some fn) (hb : fn.body = some code) (ha : args.length ≤ fn.ntmps) (hn : fn.ntmps < 1000000)
    (hx : XGoes (Code.wp P code) ρ fn.ntmps (sargs 0 args .nil) h [] e T' h' []) (he : e = .normal ∨ e = .ret) (hr : sres P T' h' fn.results.toList = some l) : SPoint P ρ f args h (sres1 l) h' := by
  refine ⟨hgo, fun ν H nm xs hm hfre hargs => ?_⟩
  have hfr0 : FreFrom ν nm 0 := fun i _ m s hs => hfre m (s ++ [i]) (by simpa using hs)
  obtain ⟨ν', s', g1, g2, g3⟩ := hx nm ν ⟨0, T0 xs, H, []⟩ ⟨sargs_T0 hargs (by omega), hm, hfr0, .nil⟩
  obtain ⟨ys, h1, h2⟩ := sres_ok g2.tr g2.mem.rows _ _ hr
  refine ⟨ares1 ys, s'.H, ?_, ν', g1.nu, g1.new, g2.mem, sres1_rel h2⟩
  intro σ I w vs hfr hv har
  refine calls_of_wp hf hb (g3 σ I _ w _ (start_st (by rw [← hargs.length]; exact ha) hfr hv har) ?_)
  intro σ' I' a' w' hst st'
  have hds : a'.defers = [] := (g2.late.nil_inv ▸ st'.late).nil_inv
  obtain ⟨v, h4, h5⟩ := results_run st'.st.tr st'.st.rel h1
  rcases he with rfl | rfl
  · exact ⟨hds, v, h4, v, σ', I', rfl, hst, h5⟩
  · exact ⟨hds, v, h4, v, σ', I', rfl, hst, h5⟩

/-- A known call, for the executor: where the memory holds what is asked. -/
structure Pt where
  args : List SV
  next : Nat
  rows : List (Nat × List SV)
  r : SV
  h' : Mem
def opt (p : Pt) (args : List SV) (h : Mem) : SRes := bif SV.beqs args p.args && Nat.beq p.next h.next && sameM p.next h p.rows then some (p.r, p.h') else none

theorem opt_ok {f : FuncId} {p : Pt} (hp : SPoint P ρ f p.args ⟨p.next, putM p.rows .nil⟩ p.r p.h') {args : List SV} {h h' : Mem} {r : SV} (hr : opt p args h = some (r, h')) : isGo P f = true ∧ ∀ (ν : Nat → Option Name) (H : AHeap) (nm : Name) (xs : List AV), MRel ρ ν h H → Fre ν nm → SRels ρ ν args xs → ∃ z H', Sim P f xs nm H z H' ∧ Out ρ ν nm r h' z H' := by
  refine ⟨hp.1, fun ν H nm xs hm hfre hxs => ?_⟩
  unfold opt at hr
  cases hc : (SV.beqs args p.args && Nat.beq p.next h.next && sameM p.next h p.rows) with
  | false => rw [hc] at hr; cases hr
  | true =>
    rw [hc] at hr
    simp only [cond_true, Option.some.injEq, Prod.mk.injEq] at hr
    obtain ⟨rfl, rfl⟩ := hr
    simp only [Bool.and_eq_true] at hc
    obtain ⟨⟨h1, h2⟩, h3⟩ := hc
    rw [SV.beqs_eq h1] at hxs
    exact hp.2 ν H nm xs (sameM_rel (Nat.eq_of_beq_eq_true h2) hm h3) hfre hxs

end Go.Proofs.YtijbnccphmfdkaaGreat.Den
end

section
set_option linter.unusedSimpArgs false
set_option linter.unusedVariables false
namespace Go.Proofs.YtijbnccphmfdkaaGreat.Den

/-- All regions of a piece of code may be run by their plans. -/
def codeOK (P : Program) (n : Nat) : Code → Bool
  | .region _ ops d => dstOk n ops && (!d || (P.follows .mixedOrders && planOK ops (mkPlan ops).1 (mkPlan ops).2))
  | .seq x y => codeOK P n x && codeOK P n y
  | .cond _ x y => codeOK P n x && codeOK P n y
  | .block _ x => codeOK P n x
  | .loop x => codeOK P n x
  | .scope x => codeOK P n x
  | _ => true

theorem findLabel_ok {P : Program} {n : Nat} : ∀ (c : Code) (l : Nat) (rest : Code), findLabel c l = some rest → codeOK P n c = true → codeOK P n rest = true := by
  intro c
  induction c with
  | seq a b iha ihb =>
    intro l rest h hc
    simp only [codeOK, Bool.and_eq_true] at hc
    simp only [findLabel] at h
    split at h
    · rename_i r hr
      cases h
      simp only [codeOK, Bool.and_eq_true]
      exact ⟨iha l r hr hc.1, hc.2⟩
    · exact ihb l rest h hc.2
  | label l' =>
    intro l rest h _
    simp only [findLabel] at h
    split at h
    · cases h; rfl
    · cases h
  | _ => intro l rest h; simp [findLabel] at h

/-- The plan, made once for a region. -/
def planItemsOf (ops : Array Oper) : List Item := (mkPlan ops).2

noncomputable def hreg : Bool → Array Oper → List Fact → Program → SCall → Tr SV → Mem → SLate → CRes := @Bool.rec (fun _ => Array Oper → List Fact → Program → SCall → Tr SV → Mem → SLate → CRes) (fun ops Γ P call T h D => gn3 (gregion ops.toList Γ P call ops T h D)) (fun ops Γ P call T h D => gn2 (gdraw (planItemsOf ops) 0 Γ P call ops T [(0, h)] h) D)
noncomputable def hnode : Code → NT := @Code.rec (fun _ => NT)
  (fun Γ P call n f k T h D => some (.normal, T, h, D))
  (fun id ops d Γ P call n f k T h D => hreg d ops Γ P call T h D)
  (fun x y _ _ Γ P call n f k T h D => gthen (k x T h D) (k y))
  (fun x y z _ _ Γ P call n f k T h D => gcond (genv x T) y z k T h D)
  (fun id x _ Γ P call n f k T h D => fblock id (k x T h D))
  (fun x _ Γ P call n f k T h D => gthen (k x T h D) (k (.loop x)))
  (fun _ _ _ _ _ _ Γ P call n f k T h D => none)
  (fun id Γ P call n f k T h D => some (.exit id, T, h, D))
  (fun x _ Γ P call n f k T h D => fscope x k f (k x T h D))
  (fun l Γ P call n f k T h D => some (.normal, T, h, D))
  (fun l Γ P call n f k T h D => some (.goto l, T, h, D))
  (fun Γ P call n f k T h D => some (.ret, T, h, D))
  (fun _ Γ P call n f k T h D => none)
noncomputable def hrun (Γ : List Fact) (P : Program) (call : SCall) (n : Nat) : Nat → CK := @Nat.rec (fun _ => CK) (fun _ _ _ _ => none) (fun f k c => hnode c Γ P call n f k)

theorem hreg_eq {P : Program} {n : Nat} {ops : Array Oper} {d : Bool} (h : (dstOk n ops && (!d || (P.follows .mixedOrders && planOK ops (mkPlan ops).1 (mkPlan ops).2))) = true) (Γ : List Fact) (call : SCall) (T : Tr SV) (m : Mem) (D : SLate) : hreg d ops Γ P call T m D = gnr (dstOk n ops) ops d Γ P call T m D := by
  simp only [Bool.and_eq_true] at h
  rw [h.1]
  cases d with
  | false => rfl
  | true =>
    have h2 := h.2
    simp only [Bool.not_true, Bool.false_or] at h2
    show gn2 (gdraw (mkPlan ops).2 0 Γ P call ops T [(0, m)] m) D = gn1 (gplan P ops) ops Γ P call T m D
    unfold gplan
    rw [h2]
    rfl

theorem hrun_eq (Γ : List Fact) (P : Program) (call : SCall) (n : Nat) : ∀ (f : Nat) (c : Code), codeOK P n c = true → hrun Γ P call n f c = grun Γ P call n f c := by
  intro f
  induction f with
  | zero => intro c _; rfl
  | succ f ih =>
    intro c hc
    funext T h D
    show hnode c Γ P call n f (hrun Γ P call n f) T h D = gnode c Γ P call n f (grun Γ P call n f) T h D
    cases c with
    | region id ops d => exact hreg_eq hc Γ call T h D
    | seq x y =>
      simp only [codeOK, Bool.and_eq_true] at hc
      show gthen (hrun Γ P call n f x T h D) (hrun Γ P call n f y) = gthen (grun Γ P call n f x T h D) (grun Γ P call n f y)
      rw [ih x hc.1, ih y hc.2]
    | loop x =>
      have hx : codeOK P n x = true := hc
      show gthen (hrun Γ P call n f x T h D) (hrun Γ P call n f (.loop x)) = gthen (grun Γ P call n f x T h D) (grun Γ P call n f (.loop x))
      rw [ih x hx, ih (.loop x) hx]
    | cond x y z =>
      simp only [codeOK, Bool.and_eq_true] at hc
      show gcond (genv x T) y z (hrun Γ P call n f) T h D = gcond (genv x T) y z (grun Γ P call n f) T h D
      rw [gcond_eq, gcond_eq]
      cases genv x T <;> first | rfl | skip
      rename_i b
      cases b
      · show hrun Γ P call n f z T h D = _; rw [ih z hc.2]; rfl
      · show hrun Γ P call n f y T h D = _; rw [ih y hc.1]; rfl
    | block id x =>
      have hx : codeOK P n x = true := hc
      show fblock id (hrun Γ P call n f x T h D) = fblock id (grun Γ P call n f x T h D)
      rw [ih x hx]
    | scope x =>
      have hx : codeOK P n x = true := hc
      show fscope x (hrun Γ P call n f) f (hrun Γ P call n f x T h D) = fscope x (grun Γ P call n f) f (grun Γ P call n f x T h D)
      rw [ih x hx]
      cases hg : grun Γ P call n f x T h D with
      | none => rfl
      | some r =>
        obtain ⟨e, T1, h1, D1⟩ := r
        cases e with
        | goto l =>
          show fscope1 (hrun Γ P call n f) l f T1 h1 D1 (findLabel x l) = fscope1 (grun Γ P call n f) l f T1 h1 D1 (findLabel x l)
          cases hl : findLabel x l with
          | none => rfl
          | some rest =>
            show sjumps (hrun Γ P call n f rest) l f (some (.goto l, T1, h1, D1)) = sjumps (grun Γ P call n f rest) l f (some (.goto l, T1, h1, D1))
            rw [ih rest (findLabel_ok x l rest hl hx)]
        | _ => rfl
    | _ => rfl

/-! ### functions -/
noncomputable def hbody2 (ok : Bool) (Γ : List Fact) (P : Program) (F : Nat) (call : SCall) (args : List SV) (h : Mem) (fn : Func) (code : Code) : CRes := bif ok then hrun Γ P call fn.ntmps F code (sargs 0 args .nil) h [] else grun Γ P call fn.ntmps F code (sargs 0 args .nil) h []
noncomputable def hbody1 (ok : Bool) (Γ : List Fact) (P : Program) (F : Nat) (call : SCall) (f : FuncId) (args : List SV) (h : Mem) (fn : Func) : Option Code → Option (Func × Tr SV × Mem × SLate)
  | some code => bif isGo P f && Nat.ble args.length fn.ntmps && Nat.blt fn.ntmps 1000000 then fbody2 fn (hbody2 ok Γ P F call args h fn code) else none
  | none => none
noncomputable def hbody (ok : Bool) (Γ : List Fact) (P : Program) (F : Nat) (call : SCall) (f : FuncId) (args : List SV) (h : Mem) : Option Func → Option (Func × Tr SV × Mem × SLate)
  | some fn => hbody1 ok Γ P F call f args h fn fn.body
  | none => none
noncomputable def hcall1 (ok : Bool) (Γ : List Fact) (P : Program) (F : Nat) (call : SCall) (f : FuncId) (args : List SV) (h : Mem) : Option (List SV → Mem → SRes) → SRes
  | some g => g args h
  | none => fcallE P (sdef Γ P F call) (hbody ok Γ P F call f args h (fnAt P f))
noncomputable def hscall (ok : FuncId → Bool) (Γ : List Fact) (P : Program) (F : Nat) (ovr : FuncId → Option (List SV → Mem → SRes)) : Nat → SCall := @Nat.rec (fun _ => SCall) (fun _ _ _ => none) (fun _ call f args h => hcall1 (ok f) Γ P F call f args h (ovr f))

/-- Which functions were checked. -/
def FnsOK (P : Program) (ok : FuncId → Bool) : Prop := ∀ f fn code, ok f = true → fnAt P f = some fn → fn.body = some code → codeOK P fn.ntmps code = true

theorem hscall_eq {P : Program} {ok : FuncId → Bool} (hok : FnsOK P ok) (Γ : List Fact) (F : Nat) (ovr : FuncId → Option (List SV → Mem → SRes)) : ∀ d, hscall ok Γ P F ovr d = gscall Γ P F ovr d := by
  intro d
  induction d with
  | zero => rfl
  | succ d ih =>
    funext f args h
    show hcall1 (ok f) Γ P F (hscall ok Γ P F ovr d) f args h (ovr f) = gcall1 Γ P F (gscall Γ P F ovr d) f args h (ovr f)
    rw [ih]
    cases ovr f with
    | some g => rfl
    | none =>
      simp only [hcall1, gcall1]
      congr 1
      cases hf : fnAt P f with
      | none => rfl
      | some fn =>
        simp only [hbody, gbody]
        cases hb : fn.body with
        | none => rfl
        | some code =>
          simp only [hbody1, gbody1, hbody2]
          cases ho : ok f with
          | false => rfl
          | true => rw [cond_true, hrun_eq Γ P _ fn.ntmps F code (hok f fn code ho hf hb)]

/-- Numbers as a set: bits. -/
def bitOf (mask : Nat) (f : FuncId) : Bool := Nat.beq (Nat.mod (Nat.shiftRight mask f) 2) 1
def fnOK (P : Program) (f : FuncId) : Bool :=
  match fnAt P f with
  | some fn => (match fn.body with
    | some code => codeOK P fn.ntmps code
    | none => true)
  | none => true
theorem fns_of_list {P : Program} {l : List FuncId} {ok : FuncId → Bool} (h : l.all (fnOK P) = true) (hk : ∀ f, ok f = true → f ∈ l) : FnsOK P ok := by
  intro f fn code ho hf hb
  have := (List.all_eq_true.1 h) f (hk f ho)
  simp only [fnOK, hf, hb] at this
  exact this

end Go.Proofs.YtijbnccphmfdkaaGreat.Den
end
