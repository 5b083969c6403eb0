/- Cuts of a run: a state of the executor by another one, its unknown numbers and its rows under other names. -/
import Derived.Test.YtjinjfblilacaaaGreatKSymP
import Derived.Test.YtjinjfblilacaaaGreatKDenM
import Derived.Test.YtjinjfblilacaaaGreatRows
import Derived.WalkKit
import Derived.WalkSpells
import Derived.WalkLawsBesides
import Derived.Lib.Walk
import Derived.Lib.SliceRun
import Derived.Lib.AppendZeros
import Derived.Test.YtjinjfblilacaaaGreatKCdA
set_option linter.unusedVariables false
set_option linter.unusedSimpArgs false
section
set_option linter.unusedSimpArgs false
namespace Go.Proofs.YtjinjfblilacaaaGreat.Den
variable {P : Program} {ρ : Vals} {ν : Nat -> Option Name}
/-! ### which temporaries are written -/
def Dom (n : Nat) (T : Tr SV) : Prop := ∀ t, n <= t -> T.get t = none
theorem Dom.put {n : Nat} (hn : n < 1000000) {T : Tr SV} (h : Dom n T) {d : Option Tmp} (hd : ∀ k, d = some k -> k < n) (v : SV) : Dom n (sput T d v) := by
  cases d with
  | none => exact h
  | some k =>
    intro t ht
    have hk := hd k rfl
    show (T.put k v).get t = none
    rw [put_get T k v t (Nat.lt_of_lt_of_le (Nat.succ_lt_succ (Nat.lt_trans hk hn)) (by decide)), if_neg (Nat.ne_of_gt (Nat.lt_of_lt_of_le hk ht))]
    exact h t ht
theorem dst_list {n : Nat} {ops : Array Oper} (h : dstOk n ops = true) : ∀ o ∈ ops.toList, ∀ d, o.dst = some d -> d < n := by
  intro o ho d hd
  have := (List.all_eq_true.1 h) o ho
  rw [hd] at this
  exact blt_lt this
section
variable {Γ : List Fact} {sc : SCall} {n : Nat}
theorem sregion_dom (hn : n < 1000000) {ops : Array Oper} : ∀ (l : List Oper) (T T' : Tr SV) (h h' : Mem) (D D' : SLate), (∀ o ∈ l, ∀ d, o.dst = some d -> d < n) -> Dom n T -> sregion Γ P sc ops l T h D = some (T', h', D') -> Dom n T' := by
  intro l
  induction l with
  | nil => intro T T' h h' D D' _ hT hr; simp only [sregion, Option.some.injEq, Prod.mk.injEq] at hr; rw [<- hr.1]; exact hT
  | cons o l ih =>
    intro T T' h h' D D' hd hT hr
    have hl : ∀ o ∈ l, ∀ d, o.dst = some d -> d < n := fun o ho => hd o (List.mem_cons_of_mem _ ho)
    have ho := hd o (by simp)
    by_cases hdf : ∃ cl, o.op = .defer cl
    · obtain ⟨cl, hop⟩ := hdf
      rw [sregion_defer hop] at hr
      split at hr
      · split at hr
        · exact ih _ _ _ _ _ _ hl hT hr
        · cases hr
      · cases hr
    · have hnd : isDefer o = false := by
        unfold isDefer
        split
        · rename_i cl hop; exact absurd ⟨cl, hop⟩ hdf
        · rfl
      rw [sregion_cons hnd] at hr
      split at hr
      · split at hr
        · exact ih _ _ _ _ _ _ hl (hT.put hn ho _) hr
        · cases hr
      · exact ih _ _ _ _ _ _ hl (hT.put hn ho _) hr
      · cases hr
theorem sdraw_dom (hn : n < 1000000) {ops : Array Oper} (hd : dstOk n ops = true) : ∀ (l : List Item) (k : Nat) (T T' : Tr SV) (Hs : List (Nat × Mem)) (h h' : Mem), Dom n T -> sdraw Γ P sc ops k l T Hs h = some (T', h') -> Dom n T' := by
  intro l
  induction l with
  | nil => intro k T T' Hs h h' hT hr; simp only [sdraw, Option.some.injEq, Prod.mk.injEq] at hr; rw [<- hr.1]; exact hT
  | cons x l ih =>
    intro k T T' Hs h h' hT hr
    simp only [sdraw] at hr
    cases ho : ops[x.i]? with
    | none => rw [ho] at hr; cases hr
    | some o =>
      rw [ho] at hr
      simp only [] at hr
      have hdo := dstOk_at hd ho
      split at hr
      · split at hr
        · rename_i v h₁ _
          cases hc : schk P o (senv T) v Hs x.chk with
          | false => rw [hc] at hr; cases hr
          | true => rw [hc] at hr; exact ih _ _ _ _ _ _ (hT.put hn hdo _) hr
        · cases hr
      · exact ih _ _ _ _ _ _ (hT.put hn hdo _) hr
      · cases hr
theorem sjumps_dom {run : Tr SV -> Mem -> SLate -> CRes} {l : Nat} (hrun : ∀ T h D e T' h' D', Dom n T -> run T h D = some (e, T', h', D') -> Dom n T') : ∀ (m : Nat) (r : CRes) (e : Exit) (T' : Tr SV) (h' : Mem) (D' : SLate),
    (∀ e T h D, r = some (e, T, h, D) -> Dom n T) -> sjumps run l m r = some (e, T', h', D') -> Dom n T'
  | 0, _, _, _, _, _, _, h => by simp [sjumps] at h
  | m + 1, none, _, _, _, _, _, h => by simp [sjumps] at h
  | m + 1, some (e1, T1, h1, D1), e, T', h', D', hr, h => by
    have hT := hr e1 T1 h1 D1 rfl
    cases e1 with
    | goto l1 =>
      simp only [sjumps] at h
      cases hb : Nat.beq l1 l with
      | true => rw [hb] at h; exact sjumps_dom hrun m _ e T' h' D' (fun e T h D he => hrun _ _ _ e T h D hT he) h
      | false => rw [hb] at h; cases h
    | _ => simp only [sjumps, Option.some.injEq, Prod.mk.injEq] at h; rw [<- h.2.1]; exact hT
theorem srun_dom (hn : n < 1000000) : ∀ (f : Nat) (code : Code) (T : Tr SV) (h : Mem) (D : SLate) (e : Exit) (T' : Tr SV) (h' : Mem) (D' : SLate), Dom n T -> srun Γ P sc n f code T h D = some (e, T', h', D') -> Dom n T' := by
  intro f
  induction f with
  | zero => intro code T h D e T' h' D' _ hr; simp [srun] at hr
  | succ f ih =>
    intro code T h D e T' h' D' hT hr
    cases code with
    | region id ops d =>
      simp only [srun] at hr
      cases hd : dstOk n ops with
      | false => rw [hd] at hr; cases hr
      | true =>
        rw [hd] at hr
        simp only [cond_true] at hr
        cases d with
        | true =>
          simp only [cond_true] at hr
          cases hq : (P.follows .mixedOrders && planOK ops (mkPlan ops).1 (mkPlan ops).2) with
          | false => rw [hq] at hr; cases hr
          | true =>
            rw [hq] at hr
            simp only [cond_true, Option.map_eq_some_iff] at hr
            obtain ⟨⟨T1, h1⟩, hr, e1⟩ := hr
            simp only [Prod.mk.injEq] at e1
            rw [<- e1.2.1]
            exact sdraw_dom hn hd _ _ _ _ _ _ _ hT hr
        | false =>
          simp only [cond_false, Option.map_eq_some_iff] at hr
          obtain ⟨⟨T1, h1, D1⟩, hr, e1⟩ := hr
          simp only [Prod.mk.injEq] at e1
          rw [<- e1.2.1]
          exact sregion_dom hn _ _ _ _ _ _ _ (dst_list hd) hT hr
    | seq x y =>
      simp only [srun] at hr
      cases hr1 : srun Γ P sc n f x T h D with
      | none => rw [hr1] at hr; cases hr
      | some r =>
        obtain ⟨e1, T1, h1, D1⟩ := r
        rw [hr1] at hr
        have hx := ih x T h D e1 T1 h1 D1 hT hr1
        cases e1 with
        | normal => exact ih y T1 h1 D1 e T' h' D' hx hr
        | _ => simp only [Option.some.injEq, Prod.mk.injEq] at hr; rw [<- hr.2.1]; exact hx
    | cond x y z =>
      simp only [srun] at hr
      split at hr
      · rename_i b _
        cases b with
        | true => exact ih y T h D e T' h' D' hT hr
        | false => exact ih z T h D e T' h' D' hT hr
      · cases hr
    | block id x =>
      simp only [srun] at hr
      cases hr1 : srun Γ P sc n f x T h D with
      | none => rw [hr1] at hr; cases hr
      | some r =>
        obtain ⟨e1, T1, h1, D1⟩ := r
        rw [hr1] at hr
        have hx := ih x T h D e1 T1 h1 D1 hT hr1
        cases e1 with
        | exit id' =>
          simp only at hr
          cases hb : Nat.beq id' id with
          | true => rw [hb] at hr; simp only [cond_true, Option.some.injEq, Prod.mk.injEq] at hr; rw [<- hr.2.1]; exact hx
          | false => rw [hb] at hr; simp only [cond_false, Option.some.injEq, Prod.mk.injEq] at hr; rw [<- hr.2.1]; exact hx
        | _ => simp only [Option.some.injEq, Prod.mk.injEq] at hr; rw [<- hr.2.1]; exact hx
    | loop x =>
      simp only [srun] at hr
      cases hr1 : srun Γ P sc n f x T h D with
      | none => rw [hr1] at hr; cases hr
      | some r =>
        obtain ⟨e1, T1, h1, D1⟩ := r
        rw [hr1] at hr
        have hx := ih x T h D e1 T1 h1 D1 hT hr1
        cases e1 with
        | normal => exact ih (.loop x) T1 h1 D1 e T' h' D' hx hr
        | _ => simp only [Option.some.injEq, Prod.mk.injEq] at hr; rw [<- hr.2.1]; exact hx
    | scope x =>
      simp only [srun] at hr
      cases hr1 : srun Γ P sc n f x T h D with
      | none => rw [hr1] at hr; cases hr
      | some r =>
        obtain ⟨e1, T1, h1, D1⟩ := r
        rw [hr1] at hr
        have hx := ih x T h D e1 T1 h1 D1 hT hr1
        cases e1 with
        | goto l =>
          simp only at hr
          split at hr
          · rename_i rest _
            exact sjumps_dom (fun T h D e T' h' D' hT hr => ih rest T h D e T' h' D' hT hr) f _ e T' h' D' (fun e T h D he => by cases he; exact hx) hr
          · cases hr
        | _ => simp only [Option.some.injEq, Prod.mk.injEq] at hr; rw [<- hr.2.1]; exact hx
    | rangeFunc _ _ _ _ => simp [srun] at hr
    | refuse _ => simp [srun] at hr
    | _ => simp only [srun, Option.some.injEq, Prod.mk.injEq] at hr; rw [<- hr.2.1]; exact hT
end
/-! ### other names -/
mutual
def IE.sub (θ : Nat -> IE) : IE -> IE
  | .lit n => .lit n
  | .var i => θ i
  | .byte i => .byte i
  | .bin op k a b => .bin op k (IE.sub θ a) (IE.sub θ b)
  | .wrap k a => .wrap k (IE.sub θ a)
  | .fn f l i => .fn f (IE.subs θ l) i
def IE.subs (θ : Nat -> IE) : List IE -> List IE
  | [] => []
  | a :: l => IE.sub θ a :: IE.subs θ l
end
mutual
def SV.sub (θ : Nat -> IE) (r : Nat -> Nat) : SV -> SV
  | .int k e => .int k (e.sub θ)
  | .bool b => .bool b
  | .str l => .str (IE.subs θ l)
  | .val v => .val v
  | .ptr n o => .ptr (r n) o
  | .imp m c o => .imp m (SV.subs θ r c) o
  | .sl n o l z => .sl (r n) o l z
  | .im m l c => .im m l (SV.subs θ r c)
  | .agg c => .agg (SV.subs θ r c)
  | .tup c => .tup (SV.subs θ r c)
  | .fn f a b => .fn f (SV.subs θ r a) (SV.subs θ r b)
def SV.subs (θ : Nat -> IE) (r : Nat -> Nat) : List SV -> List SV
  | [] => []
  | a :: l => SV.sub θ r a :: SV.subs θ r l
end
def Vals.sub (ρ : Vals) (θ : Nat -> IE) : Vals := ⟨fun j => (θ j).den ρ, ρ.b, ρ.f⟩
mutual
theorem den_sub (θ : Nat -> IE) : ∀ e : IE, (e.sub θ).den ρ = e.den (ρ.sub θ)
  | .lit n => rfl
  | .var i => rfl
  | .byte i => rfl
  | .bin op k a b => by simp only [IE.sub, IE.den, den_sub θ a, den_sub θ b]
  | .wrap k a => by simp only [IE.sub, IE.den, den_sub θ a]
  | .fn f l i => by simp only [IE.sub, IE.den, dens_sub θ l]; rfl
theorem dens_sub (θ : Nat -> IE) : ∀ l : List IE, IE.dens ρ (IE.subs θ l) = IE.dens (ρ.sub θ) l
  | [] => rfl
  | a :: l => by simp only [IE.subs, IE.dens, den_sub θ a, dens_sub θ l]
end
theorem strOf_sub (θ : Nat -> IE) (l : List IE) : strOf ρ (IE.subs θ l) = strOf (ρ.sub θ) l := by
  have : ∀ l : List IE, (IE.subs θ l).map (fun e => UInt8.ofNat (e.den ρ).toNat) = l.map fun e => UInt8.ofNat (e.den (ρ.sub θ)).toNat := by
    intro l
    induction l with
    | nil => rfl
    | cons a l ih => simp only [IE.subs, List.map_cons, den_sub, ih]
  simp only [strOf, this]
mutual
theorem SRel.sub {θ : Nat -> IE} {r : Nat -> Nat} : ∀ {a : SV} {x : AV}, SRel ρ ν (a.sub θ r) x -> SRel (ρ.sub θ) (fun n => ν (r n)) a x
  | .int k e, x, h => by
    simp only [SV.sub] at h
    cases h
    rw [den_sub]
    exact .int k e
  | .bool b, x, h => by simp only [SV.sub] at h; cases h; exact .bool b
  | .str l, x, h => by
    simp only [SV.sub] at h
    cases h
    rw [strOf_sub]
    exact .str l
  | .val v, x, h => by simp only [SV.sub] at h; cases h; exact .val v
  | .ptr n o, x, h => by simp only [SV.sub] at h; cases h with | ptr h => exact .ptr h
  | .imp m c o, x, h => by simp only [SV.sub] at h; cases h with | imp h => exact .imp (SRels.sub h)
  | .sl n o l z, x, h => by simp only [SV.sub] at h; cases h with | sl h => exact .sl h
  | .im m l c, x, h => by simp only [SV.sub] at h; cases h with | im h => exact .im (SRels.sub h)
  | .agg c, x, h => by simp only [SV.sub] at h; cases h with | agg h => exact .agg (SRels.sub h)
  | .tup c, x, h => by simp only [SV.sub] at h; cases h with | tup h => exact .tup (SRels.sub h)
  | .fn f a b, x, h => by simp only [SV.sub] at h; cases h with | fn h h' => exact .fn (SRels.sub h) (SRels.sub h')
theorem SRels.sub {θ : Nat -> IE} {r : Nat -> Nat} : ∀ {a : List SV} {x : List AV}, SRels ρ ν (SV.subs θ r a) x -> SRels (ρ.sub θ) (fun n => ν (r n)) a x
  | [], x, h => by simp only [SV.subs] at h; cases h; exact .nil
  | a :: l, x, h => by simp only [SV.subs] at h; cases h with | cons h t => exact .cons (SRel.sub h) (SRels.sub t)
end
/-! ### one state by another one -/
def rnOf (R : List Nat) (nx : Nat) : Nat -> Nat := fun n => (R[n]?).getD (nx + n)
def okTemps (θ : Nat -> IE) (r : Nat -> Nat) (T T' : Tr SV) : Nat -> Bool
  | 0 => true
  | n + 1 => SV.beq ((T'.get n).getD (.val undef)) (((T.get n).getD (.val undef)).sub θ r) && okTemps θ r T T' n
def okRow (θ : Nat -> IE) (r : Nat -> Nat) (m : Nat) (h' : Mem) : Option (List SV) -> Bool
  | none => true
  | some row => match h'.get m with
    | some row' => SV.beqs row' (SV.subs θ r row)
    | none => false
def okRows (θ : Nat -> IE) (r : Nat -> Nat) (h h' : Mem) : Nat -> Bool
  | 0 => true
  | n + 1 => okRow θ r (r n) h' (h.get n) && okRows θ r h h' n
/-- The second state is the first one, but for names. -/
def okSub (n : Nat) (θ : Nat -> IE) (R : List Nat) (T T' : Tr SV) (h h' : Mem) : Bool :=
  Nat.beq R.length h.next && R.all (fun m => Nat.blt m h'.next) && decide R.Nodup && okTemps θ (rnOf R h'.next) T T' n && okRows θ (rnOf R h'.next) h h' h.next
theorem okTemps_at {θ : Nat -> IE} {r : Nat -> Nat} {T T' : Tr SV} : ∀ {n : Nat}, okTemps θ r T T' n = true -> ∀ t, t < n -> (T'.get t).getD (.val undef) = ((T.get t).getD (.val undef)).sub θ r
  | 0, _, t, ht => by omega
  | n + 1, h, t, ht => by
    simp only [okTemps, Bool.and_eq_true] at h
    by_cases e : t = n
    · subst e; exact SV.beq_eq h.1
    · exact okTemps_at h.2 t (by omega)
theorem okRows_at {θ : Nat -> IE} {r : Nat -> Nat} {h h' : Mem} : ∀ {n : Nat}, okRows θ r h h' n = true -> ∀ k, k < n -> ∀ row, h.get k = some row -> h'.get (r k) = some (SV.subs θ r row)
  | 0, _, k, hk => by omega
  | n + 1, hh, k, hk => by
    simp only [okRows, Bool.and_eq_true] at hh
    intro row hrow
    by_cases e : k = n
    · subst e
      have h1 := hh.1
      rw [hrow] at h1
      simp only [okRow] at h1
      split at h1
      · rename_i row' hr'; rw [hr', SV.beqs_eq h1]
      · cases h1
    · exact okRows_at hh.2 k (by omega) row hrow
theorem SAt.sub {p : Name} {n : Nat} {θ : Nat -> IE} {R : List Nat} {T T' : Tr SV} {h h' : Mem} {s : AT} (hs : SAt ρ p T' h' [] ν s) (hd : Dom n T) (hd' : Dom n T') (hb : ∀ k, h.next <= k -> h.get k = none) (hok : okSub n θ R T T' h h' = true) :
    ∃ ν', SAt (ρ.sub θ) p T h [] ν' s := by
  unfold okSub at hok
  simp only [Bool.and_eq_true] at hok
  obtain ⟨⟨⟨⟨h1, h2⟩, h3⟩, h4⟩, h5⟩ := hok
  have h1 := Nat.eq_of_beq_eq_true h1
  have h3 := of_decide_eq_true h3
  have hlt : ∀ k, k < R.length -> rnOf R h'.next k < h'.next := by
    intro k hk
    have := (List.all_eq_true.1 h2) R[k] (List.getElem_mem hk)
    simp only [rnOf, List.getElem?_eq_getElem hk, Option.getD_some]
    exact blt_lt this
  have hge : ∀ k, R.length <= k -> h'.next <= rnOf R h'.next k := by
    intro k hk
    simp only [rnOf, List.getElem?_eq_none hk, Option.getD_none]
    omega
  have hnone : ∀ k, R.length <= k -> ν (rnOf R h'.next k) = none := by
    intro k hk
    cases e : ν (rnOf R h'.next k) with
    | none => rfl
    | some m => exact absurd (hs.mem.lt _ (by rw [e]; simp)) (Nat.not_lt.2 (hge k hk))
  refine ⟨fun k => ν (rnOf R h'.next k), ⟨?_, ⟨?_, ?_, ?_⟩, ?_, ?_⟩⟩
  · intro t
    by_cases ht : t < n
    · have := hs.tr t
      rw [okTemps_at h4 t ht] at this
      exact this.sub
    · have h0 := hs.tr t
      rw [hd' t (by omega)] at h0
      rw [hd t (by omega)]
      simp only [Option.getD_none] at h0 ⊢
      generalize s.T t = x at h0
      cases h0
      exact .val _
  · intro k row hrow
    have hk : k < h.next := Nat.lt_of_not_le fun hle => by rw [hb k hle] at hrow; cases hrow
    have h6 := okRows_at h5 k hk row hrow
    obtain ⟨m, row', g1, g2, g3⟩ := hs.mem.rows _ _ h6
    exact ⟨m, row', g1, g2, g3.sub⟩
  · intro k l m hk hl
    have hk' : k < R.length := Nat.lt_of_not_le fun hle => by rw [hnone k hle] at hk; cases hk
    have hl' : l < R.length := Nat.lt_of_not_le fun hle => by rw [hnone l hle] at hl; cases hl
    have := hs.mem.inj _ _ m hk hl
    simp only [rnOf, List.getElem?_eq_getElem hk', List.getElem?_eq_getElem hl', Option.getD_some] at this
    exact (List.getElem_inj h3).1 this
  · intro k hk
    rw [<- h1]
    exact Nat.lt_of_not_le fun hle => hk (hnone k hle)
  · intro i hi k s' hk
    exact hs.fre i hi _ s' hk
  · have hl := hs.late
    cases hl' : s.L with
    | nil => exact .nil
    | cons a l => rw [hl'] at hl; cases hl
/-! ### chains -/
/-- From here to there, whatever is named how. -/
def XG (W : (Exit -> Act -> World -> Prop) -> Act -> World -> Prop) (n : Nat) (ρ : Vals) (T : Tr SV) (h : Mem) (e : Exit) (ρ' : Vals) (T' : Tr SV) (h' : Mem) : Prop :=
  ∀ (p : Name) (ν : Nat -> Option Name) (s : AT), SAt ρ p T h [] ν s -> ∃ ν' s', SAt ρ' p T' h' [] ν' s' /\ AGo W p n e s s'
section
variable {n : Nat} {V W U : (Exit -> Act -> World -> Prop) -> Act -> World -> Prop}
theorem XGoes.xg {T T' : Tr SV} {h h' : Mem} {e : Exit} (hx : XGoes W ρ n T h [] e T' h' []) : XG W n ρ T h e ρ T' h' := fun p ν s st =>
  let ⟨ν', s', _, a, b⟩ := hx p ν s st; ⟨ν', s', a, b⟩
theorem XG.then {ρ ρ₁ ρ' : Vals} {T T₁ T' : Tr SV} {h h₁ h' : Mem} {e₁ e : Exit} (hx : XG V n ρ T h e₁ ρ₁ T₁ h₁) (hy : XG W n ρ₁ T₁ h₁ e ρ' T' h') (hu : ∀ Q a w, V (fun e' a' w' => e' = e₁ /\ W Q a' w') a w -> U Q a w) : XG U n ρ T h e ρ' T' h' := by
  intro p ν s st
  obtain ⟨ν₁, s₁, a2, a3⟩ := hx p ν s st
  obtain ⟨ν₂, s₂, b2, b3⟩ := hy p ν₁ s₁ a2
  refine ⟨ν₂, s₂, b2, fun σ I a w Q hst hk => hu Q a w (a3 σ I a w _ hst ?_)⟩
  intro σ' I' a' w' hst' st'
  exact ⟨rfl, b3 σ' I' a' w' Q st' fun σ₂ I₂ a₂ w₂ hst₂ st₂ => hk σ₂ I₂ a₂ w₂ (hst'.trans hst₂) st₂⟩
theorem XG.as {ρ ρ' : Vals} {T T' : Tr SV} {h h' : Mem} {e e' : Exit} (hx : XG V n ρ T h e ρ' T' h') (hu : ∀ (Q : Exit -> Act -> World -> Prop) a w, V (fun e₁ a' w' => e₁ = e /\ Q e' a' w') a w -> U Q a w) : XG U n ρ T h e' ρ' T' h' := by
  intro p ν s st
  obtain ⟨ν₁, s₁, a2, a3⟩ := hx p ν s st
  exact ⟨ν₁, s₁, a2, fun σ I a w Q hst hk => hu Q a w (a3 σ I a w _ hst fun σ' I' a' w' hst' st' => ⟨rfl, hk σ' I' a' w' hst' st'⟩)⟩
/-- The end by other names. -/
theorem XG.sub {ρ ρ' : Vals} {T T₁ T' : Tr SV} {h h₁ h' : Mem} {e : Exit} {θ : Nat -> IE} {R : List Nat} (hx : XG W n ρ T h e ρ' T' h') (hd : Dom n T₁) (hd' : Dom n T') (hb : ∀ k, h₁.next <= k -> h₁.get k = none) (hok : okSub n θ R T₁ T' h₁ h' = true) : XG W n ρ T h e (ρ'.sub θ) T₁ h₁ := by
  intro p ν s st
  obtain ⟨ν₁, s₁, a2, a3⟩ := hx p ν s st
  obtain ⟨ν₂, b⟩ := a2.sub hd hd' hb hok
  exact ⟨ν₂, s₁, b, a3⟩
theorem XG.seq {x y : Code} {ρ ρ₁ ρ' : Vals} {T T₁ T' : Tr SV} {h h₁ h' : Mem} {e : Exit} (hx : XG (Code.wp P x) n ρ T h .normal ρ₁ T₁ h₁) (hy : XG (Code.wp P y) n ρ₁ T₁ h₁ e ρ' T' h') : XG (Code.wp P (.seq x y)) n ρ T h e ρ' T' h' :=
  hx.then hy fun Q a w h => wp_seq (wp_mono h (by rintro _ a w ⟨rfl, h⟩; exact h))
theorem XG.block {id : Nat} {x : Code} {ρ ρ' : Vals} {T T' : Tr SV} {h h' : Mem} {e e' : Exit} (hx : XG (Code.wp P x) n ρ T h e ρ' T' h') (he : e' = inB id e) : XG (Code.wp P (.block id x)) n ρ T h e' ρ' T' h' :=
  hx.as fun Q a w hw => wp_block (wp_mono hw (by
    rintro e₁ a w ⟨rfl, h0⟩
    subst he
    cases e₁ with
    | exit id' =>
      simp only [Exit.inBlock]
      simp only [inB] at h0
      by_cases e1 : id' = id
      · rw [if_pos e1] at h0 ⊢; exact h0
      · rw [if_neg e1] at h0 ⊢; exact h0
    | _ => exact h0))
theorem XG.round {x : Code} {m : Nat} {ρ ρ₁ ρ' : Vals} {T T₁ T' : Tr SV} {h h₁ h' : Mem} {e : Exit} (hx : XG (Code.wp P x) n ρ T h .normal ρ₁ T₁ h₁) (hy : XG (fun Q => Code.rounds P x Q m) n ρ₁ T₁ h₁ e ρ' T' h') : XG (fun Q => Code.rounds P x Q (m + 1)) n ρ T h e ρ' T' h' :=
  hx.then hy fun Q a w h => by
    rw [rounds_succ]
    exact wp_mono h (by rintro _ a w ⟨rfl, h⟩; exact h)
theorem XG.round_out {x : Code} {m : Nat} {ρ ρ' : Vals} {T T' : Tr SV} {h h' : Mem} {e : Exit} (he : e ≠ .normal) (hx : XG (Code.wp P x) n ρ T h e ρ' T' h') : XG (fun Q => Code.rounds P x Q (m + 1)) n ρ T h e ρ' T' h' :=
  hx.as fun Q a w h => by
    rw [rounds_succ]
    exact wp_mono h (by
      rintro e₁ a w ⟨rfl, h0⟩
      cases e₁ <;> first | exact absurd rfl he | exact h0)
theorem XG.loop {x : Code} {m : Nat} {ρ ρ' : Vals} {T T' : Tr SV} {h h' : Mem} {e : Exit} (hx : XG (fun Q => Code.rounds P x Q m) n ρ T h e ρ' T' h') : XG (Code.wp P (.loop x)) n ρ T h e ρ' T' h' := by
  intro p ν s st
  obtain ⟨ν₁, s₁, a2, a3⟩ := hx p ν s st
  exact ⟨ν₁, s₁, a2, fun σ I a w Q hst hk => wp_loop_rounds m (a3 σ I a w Q hst hk)⟩
end
end Go.Proofs.YtjinjfblilacaaaGreat.Den
end
section
set_option linter.unusedSimpArgs false
namespace Go.Proofs.YtjinjfblilacaaaGreat.Den
variable {P : Program} {ρ : Vals}
/-! ### new names -/
structure CS where
  th : List IE
  nv : Nat
  mp : Tr Nat
  rn : Tr Nat
  nr : Nat
def cnIE (e : IE) (s : CS) : IE × CS :=
  match e with
  | .lit n => (.lit n, s)
  | .byte i => (.byte i, s)
  | e => (.var s.nv, { s with th := e :: s.th, nv := Nat.add s.nv 1 })
def cnIEs : List IE -> CS -> List IE × CS
  | [], s => ([], s)
  | a :: l, s =>
    match cnIE a s with
    | (a, s) => match cnIEs l s with
      | (l, s) => (a :: l, s)
def cnAd (n : Nat) (s : CS) : Nat × CS :=
  match s.mp.get n with
  | some m => (m, s)
  | none => forceN s.nr fun k => (k, { s with mp := s.mp.put n k, rn := s.rn.put k n, nr := Nat.add k 1 })
mutual
def cnSV : SV -> CS -> SV × CS
  | .int k e, s => match cnIE e s with | (e, s) => (.int k e, s)
  | .bool b, s => (.bool b, s)
  | .str l, s => match cnIEs l s with | (l, s) => (.str l, s)
  | .val v, s => (.val v, s)
  | .ptr n o, s => match cnAd n s with | (n, s) => (.ptr n o, s)
  | .imp m c o, s => match cnSVs c s with | (c, s) => (.imp m c o, s)
  | .sl n o l z, s => match cnAd n s with | (n, s) => (.sl n o l z, s)
  | .im m l c, s => match cnSVs c s with | (c, s) => (.im m l c, s)
  | .agg c, s => match cnSVs c s with | (c, s) => (.agg c, s)
  | .tup c, s => match cnSVs c s with | (c, s) => (.tup c, s)
  | .fn f a b, s => match cnSVs a s with | (a, s) => match cnSVs b s with | (b, s) => (.fn f a b, s)
def cnSVs : List SV -> CS -> List SV × CS
  | [], s => ([], s)
  | a :: l, s => match cnSV a s with | (a, s) => match cnSVs l s with | (l, s) => (a :: l, s)
end
def cnTemps (T : Tr SV) (n : Nat) : Nat -> CS -> List (Option SV) × CS
  | 0, s => ([], s)
  | f + 1, s =>
    match T.get (n - (f + 1)) with
    | none => match cnTemps T n f s with | (l, s) => (none :: l, s)
    | some v => match cnSV v s with | (v, s) => match cnTemps T n f s with | (l, s) => (some v :: l, s)
def cnRows (h : Mem) : Nat -> Nat -> CS -> List (Option (List SV)) × CS
  | 0, _, s => ([], s)
  | f + 1, i, s =>
    bif Nat.ble s.nr i then ([], s) else
    match (s.rn.get i).bind h.get with
    | none => match cnRows h f (Nat.add i 1) s with | (l, s) => (none :: l, s)
    | some row => match cnSVs row s with | (row, s) => match cnRows h f (Nat.add i 1) s with | (l, s) => (some row :: l, s)
def rlist (rn : Tr Nat) (n : Nat) : Nat -> List Nat
  | 0 => []
  | f + 1 => (rn.get (n - (f + 1))).getD 0 :: rlist rn n f
def thTr : List IE -> Nat -> Tr IE -> Tr IE
  | [], _, T => T
  | e :: l, k, T => thTr l (Nat.add k 1) (T.put k e)
/-- What is named, by its number. -/
def thOf (l : List IE) : Nat -> IE := fun j => ((thTr l 0 .nil).get j).getD (.lit 0)
def mkT : Nat -> List (Option SV) -> Tr SV -> Tr SV
  | _, [], T => T
  | k, none :: r, T => mkT (k + 1) r T
  | k, some v :: r, T => mkT (k + 1) r (T.put k v)
def mkM : List (Option (List SV)) -> Mem -> Mem
  | [], h => h
  | none :: r, h => mkM r ⟨h.next + 1, h.m⟩
  | some row :: r, h => mkM r (h.push row)
theorem mkT_dom : ∀ (l : List (Option SV)) (k n : Nat) (T : Tr SV), n < 1000000 -> k + l.length <= n -> Dom n T -> Dom n (mkT k l T)
  | [], _, _, _, _, _, h => h
  | none :: r, k, n, T, hn, hk, h => by
    rw [List.length_cons] at hk
    exact mkT_dom r (k + 1) n T hn (by omega) h
  | some v :: r, k, n, T, hn, hk, h => by
    rw [List.length_cons] at hk
    refine mkT_dom r (k + 1) n _ hn (by omega) ?_
    exact h.put hn (d := some k) (fun j hj => by cases hj; exact Nat.lt_of_lt_of_le (show k < k + (r.length + 1) by omega) hk) v
def Above (h : Mem) : Prop := ∀ k, h.next <= k -> h.get k = none
theorem mkM_above : ∀ (l : List (Option (List SV))) (h : Mem), Above h -> Above (mkM l h)
  | [], _, h0 => h0
  | none :: r, h, h0 => mkM_above r _ fun k hk => h0 k (by simp only at hk; omega)
  | some row :: r, h, h0 => mkM_above r _ fun k hk => by
    simp only [Mem.push] at hk
    cases e : (h.push row).get k with
    | none => rfl
    | some x =>
      rcases put_get_some h.m h.next row k x e with ⟨h1, _⟩ | ⟨_, h2⟩
      · omega
      · have := h0 k (by omega)
        simp only [Mem.get] at this
        rw [this] at h2; cases h2
theorem above_nil : Above ⟨0, .nil⟩ := fun k _ => nil_get k
/-- A state by new names: what was unknown, the rows, the state. -/
def canon3 (rows : List (Option (List SV))) (q : List (Option SV) × CS) : List IE × List Nat × Tr SV × Mem := (q.2.th.reverse, rlist q.2.rn q.2.nr q.2.nr, mkT 0 q.1 .nil, mkM rows ⟨0, .nil⟩)
def canon2 (n : Nat) (T : Tr SV) (p : List (Option (List SV)) × CS) : List IE × List Nat × Tr SV × Mem := canon3 p.1 (cnTemps T n n p.2)
def fresh0 (s : CS) : CS := ⟨[], 0, s.mp, s.rn, s.nr⟩
def canon1 (n : Nat) (T : Tr SV) (h : Mem) (p : List (Option SV) × CS) : List IE × List Nat × Tr SV × Mem := canon2 n T (cnRows h 100000 0 (fresh0 p.2))
/-- First the rows, then the temporaries. -/
def canon (n : Nat) (T : Tr SV) (h : Mem) : List IE × List Nat × Tr SV × Mem := canon1 n T h (cnTemps T n n ⟨[], 0, .nil, .nil, 0⟩)
theorem cnTemps_length (T : Tr SV) (n : Nat) : ∀ (f : Nat) (s : CS), (cnTemps T n f s).1.length = f
  | 0, _ => rfl
  | f + 1, s => by
    simp only [cnTemps]
    split
    · simp [cnTemps_length T n f]
    · simp [cnTemps_length T n f]
theorem canon_dom {n : Nat} (hn : n < 1000000) (T : Tr SV) (h : Mem) : Dom n (canon n T h).2.2.1 := by
  show Dom n (mkT 0 (cnTemps T n n (cnRows h 100000 0 (fresh0 (cnTemps T n n ⟨[], 0, .nil, .nil, 0⟩).2)).2).1 .nil)
  exact mkT_dom _ 0 n .nil hn (by rw [cnTemps_length]; omega) fun t _ => nil_get t
theorem canon_above {n : Nat} (T : Tr SV) (h : Mem) : Above (canon n T h).2.2.2 := by
  show Above (mkM (cnRows h 100000 0 (fresh0 (cnTemps T n n ⟨[], 0, .nil, .nil, 0⟩).2)).1 ⟨0, .nil⟩)
  exact mkM_above _ ⟨0, .nil⟩ above_nil
/-! ### runs with cuts -/
def Vals.subs (ρ : Vals) : List (List IE) -> Vals
  | [] => ρ
  | θ :: Θ => (ρ.sub (thOf θ)).subs Θ
theorem subs_append (ρ : Vals) : ∀ (A B : List (List IE)), ρ.subs (A ++ B) = (ρ.subs A).subs B
  | [], _ => rfl
  | _ :: A, B => subs_append _ A B
abbrev XRes := Option (Exit × Tr SV × Mem × List (List IE))
def xof : CRes -> XRes
  | some (e, T, h, []) => some (e, T, h, [])
  | _ => none
def xcut (n : Nat) (k : Tr SV -> Mem -> XRes) (T' : Tr SV) (h' : Mem) : List IE × List Nat × Tr SV × Mem -> XRes
  | (θ, R, T, h) => bif okSub n (thOf θ) R T T' h h' then (k T h).map fun (e, T, h, Θ) => (e, T, h, θ :: Θ) else none
def xloop (g : Tr SV -> Mem -> SLate -> CRes) (k : Tr SV -> Mem -> XRes) (T : Tr SV) (h : Mem) : XRes :=
  match g T h [] with
  | some (.normal, T', h', []) => k T' h'
  | some (e, T', h', []) => some (e, T', h', [])
  | _ => none
noncomputable def xrun (Γ : List Fact) (P : Program) (call : SCall) (n : Nat) : Nat -> Code -> Tr SV -> Mem -> XRes
  | 0, _, _, _ => none
  | f + 1, c, T, h =>
    match c with
    | .seq x y =>
      match xrun Γ P call n f x T h with
      | some (.normal, T, h, Θ) => (xrun Γ P call n f y T h).map fun (e, T, h, Θ') => (e, T, h, Θ ++ Θ')
      | r => r
    | .block id x => (xrun Γ P call n f x T h).map fun (e, T, h, Θ) => (inB id e, T, h, Θ)
    | .loop x => xcut n (xloop (grun Γ P call n f x) (xrun Γ P call n f (.loop x))) T h (canon n T h)
    | c => xof (grun Γ P call n f c T h [])
section
variable {Γ : List Fact} {sc : SCall} {n : Nat}
theorem xof_some {r : CRes} {e : Exit} {T : Tr SV} {h : Mem} {Θ : List (List IE)} (hr : xof r = some (e, T, h, Θ)) : r = some (e, T, h, []) /\ Θ = [] := by
  unfold xof at hr
  split at hr
  · simp only [Option.some.injEq, Prod.mk.injEq] at hr
    obtain ⟨rfl, rfl, rfl, rfl⟩ := hr
    exact ⟨rfl, rfl⟩
  · cases hr
theorem xplain (hF : ∀ ρ, FOk ρ Γ) (hsc : ∀ ρ, SCallOK P ρ sc) (hn : n < 1000000) {f : Nat} {c : Code} {T T' : Tr SV} {h h' : Mem} {e : Exit} {Θ : List (List IE)} (hd : Dom n T) (hr : xof (grun Γ P sc n f c T h []) = some (e, T', h', Θ)) :
    Dom n T' /\ ∀ ρ : Vals, XG (Code.wp P c) n ρ T h e (ρ.subs Θ) T' h' := by
  obtain ⟨h1, rfl⟩ := xof_some hr
  rw [grun_eq, frun_eq] at h1
  exact ⟨srun_dom hn f c T h [] e T' h' [] hd h1, fun ρ => (srun_ok (hF ρ) (hsc ρ) hn f c T h [] e T' h' [] h1).xg⟩
theorem XG.pre {W : (Exit -> Act -> World -> Prop) -> Act -> World -> Prop} {ρ ρ' : Vals} {T T₁ T' : Tr SV} {h h₁ h' : Mem} {e : Exit} {θ : Nat -> IE} {R : List Nat} (hd : Dom n T₁) (hd' : Dom n T) (hb : ∀ k, h₁.next <= k -> h₁.get k = none) (hok : okSub n θ R T₁ T h₁ h = true) (hx : XG W n (ρ.sub θ) T₁ h₁ e ρ' T' h') : XG W n ρ T h e ρ' T' h' := by
  intro p ν s st
  obtain ⟨ν₁, b⟩ := st.sub hd hd' hb hok
  exact hx p ν₁ s b
theorem xrun_rounds (hF : ∀ ρ, FOk ρ Γ) (hsc : ∀ ρ, SCallOK P ρ sc) (hn : n < 1000000) {x : Code} : ∀ (f : Nat) (T T' : Tr SV) (h h' : Mem) (e : Exit) (Θ : List (List IE)), Dom n T -> xrun Γ P sc n f (.loop x) T h = some (e, T', h', Θ) ->
    Dom n T' /\ ∀ ρ : Vals, XG (fun Q => Code.rounds P x Q f) n ρ T h e (ρ.subs Θ) T' h' := by
  intro f
  induction f with
  | zero => intro T T' h h' e Θ _ hr; simp [xrun] at hr
  | succ f ih =>
    intro T T' h h' e Θ hd hr
    simp only [xrun] at hr
    have hc := canon_dom (n := n) hn T h
    have ha := canon_above (n := n) T h
    generalize hcan : canon n T h = q at hr hc ha
    obtain ⟨θ, R, T2, h2⟩ := q
    simp only [xcut] at hr hc ha
    cases hok : okSub n (thOf θ) R T2 T h2 h with
    | false => rw [hok] at hr; cases hr
    | true =>
      rw [hok] at hr
      simp only [cond_true, Option.map_eq_some_iff] at hr
      obtain ⟨⟨e3, T3, h3, Θ3⟩, hr3, e4⟩ := hr
      simp only [Prod.mk.injEq] at e4
      obtain ⟨rfl, rfl, rfl, rfl⟩ := e4
      unfold xloop at hr3
      split at hr3
      · rename_i T1 h1 hg
        rw [grun_eq, frun_eq] at hg
        have hd1 := srun_dom hn f x T2 h2 [] .normal T1 h1 [] hc hg
        obtain ⟨g1, g2⟩ := ih T1 T3 h1 h3 e3 Θ3 hd1 hr3
        exact ⟨g1, fun ρ => XG.pre hc hd ha hok (XG.round (srun_ok (hF _) (hsc _) hn f x T2 h2 [] .normal T1 h1 [] hg).xg (g2 _))⟩
      · rename_i e1 T1 h1 hne hg
        simp only [Option.some.injEq, Prod.mk.injEq] at hr3
        obtain ⟨rfl, rfl, rfl, rfl⟩ := hr3
        rw [grun_eq, frun_eq] at hg
        have he : e1 ≠ .normal := by rintro rfl; exact hne rfl
        exact ⟨srun_dom hn f x T2 h2 [] e1 T1 h1 [] hc hg, fun ρ => XG.pre hc hd ha hok (XG.round_out he (srun_ok (hF _) (hsc _) hn f x T2 h2 [] e1 T1 h1 [] hg).xg)⟩
      · cases hr3
theorem xrun_ok (hF : ∀ ρ, FOk ρ Γ) (hsc : ∀ ρ, SCallOK P ρ sc) (hn : n < 1000000) : ∀ (f : Nat) (c : Code) (T T' : Tr SV) (h h' : Mem) (e : Exit) (Θ : List (List IE)), Dom n T -> xrun Γ P sc n f c T h = some (e, T', h', Θ) ->
    Dom n T' /\ ∀ ρ : Vals, XG (Code.wp P c) n ρ T h e (ρ.subs Θ) T' h' := by
  intro f
  induction f with
  | zero => intro c T T' h h' e Θ _ hr; simp [xrun] at hr
  | succ f ih =>
    intro c T T' h h' e Θ hd hr
    cases c with
    | seq x y =>
      simp only [xrun] at hr
      cases hr1 : xrun Γ P sc n f x T h with
      | none => rw [hr1] at hr; cases hr
      | some r =>
        obtain ⟨e1, T1, h1, Θ1⟩ := r
        rw [hr1] at hr
        obtain ⟨a1, a2⟩ := ih x T T1 h h1 e1 Θ1 hd hr1
        cases e1 with
        | normal =>
          simp only [Option.map_eq_some_iff] at hr
          obtain ⟨⟨e3, T3, h3, Θ3⟩, hr3, e4⟩ := hr
          simp only [Prod.mk.injEq] at e4
          obtain ⟨rfl, rfl, rfl, rfl⟩ := e4
          obtain ⟨b1, b2⟩ := ih y T1 T3 h1 h3 e3 Θ3 a1 hr3
          refine ⟨b1, fun ρ => ?_⟩
          rw [subs_append]
          exact XG.seq (a2 ρ) (b2 _)
        | _ =>
          simp only [Option.some.injEq, Prod.mk.injEq] at hr
          obtain ⟨rfl, rfl, rfl, rfl⟩ := hr
          refine ⟨a1, fun ρ => (a2 ρ).as fun Q a w h => wp_seq (wp_mono h (by rintro e₁ a w ⟨rfl, h⟩; exact h))⟩
    | block id x =>
      simp only [xrun, Option.map_eq_some_iff] at hr
      obtain ⟨⟨e3, T3, h3, Θ3⟩, hr3, e4⟩ := hr
      simp only [Prod.mk.injEq] at e4
      obtain ⟨rfl, rfl, rfl, rfl⟩ := e4
      obtain ⟨a1, a2⟩ := ih x T T3 h h3 e3 Θ3 hd hr3
      exact ⟨a1, fun ρ => XG.block (a2 ρ) rfl⟩
    | loop x =>
      obtain ⟨a1, a2⟩ := xrun_rounds hF hsc hn (f + 1) T T' h h' e Θ hd hr
      exact ⟨a1, fun ρ => XG.loop (a2 ρ)⟩
    | _ => exact xplain hF hsc hn hd hr
end
end Go.Proofs.YtjinjfblilacaaaGreat.Den
end
section
set_option linter.unusedSimpArgs false
namespace Go.Proofs.YtjinjfblilacaaaGreat.Den
variable {ρ : Vals}
/-! ### expressions of words -/
def nden (N B : Nat -> Nat) : IE -> Nat
  | .lit n => n.toNat
  | .var i => N i
  | .byte i => B i
  | .bin op _ a b =>
    match op with
    | .add => Nat.mod (Nat.add (nden N B a) (nden N B b)) 4294967296
    | .xor => Nat.xor (nden N B a) (nden N B b)
    | .and => Nat.land (nden N B a) (nden N B b)
    | .or => Nat.lor (nden N B a) (nden N B b)
    | .shl => Nat.mod (Nat.shiftLeft (nden N B a) (nden N B b)) 4294967296
    | .shr => Nat.shiftRight (nden N B a) (nden N B b)
    | _ => 0
  | _ => 0
def smallLit : IE -> Bool
  | .lit (.ofNat n) => Nat.blt n 32
  | _ => false
def isU32 : IntKind -> Bool
  | .u32 => true
  | _ => false
def good : IE -> Bool
  | .lit (.ofNat n) => Nat.blt n 4294967296
  | .var _ => true
  | .byte _ => true
  | .bin op k a b => isU32 k && good a && good b && (match op with
    | .add | .xor | .and | .or => true
    | .shl | .shr => smallLit b
    | _ => false)
  | _ => false
/-- The names stand for words. -/
structure NS (ρ : Vals) (N B : Nat -> Nat) : Prop where
  i : ∀ j, ρ.i j = (N j : Int) /\ N j < 4294967296
  b : ∀ j, (ρ.b j).toNat = B j
theorem wrap_u32 (n : Nat) : IntKind.u32.wrap (n : Int) = ((n % 4294967296 : Nat) : Int) := by
  simp [IntKind.wrap, IntKind.bits, IntKind.signed]
theorem bv_u32 (n : Nat) (h : n < 4294967296) : (BitVec.ofInt IntKind.u32.bits (n : Int)).toNat = n := by
  show (BitVec.ofInt 32 (n : Int)).toNat = n
  simp [BitVec.toNat_ofInt]; omega
theorem den_nden {N B : Nat -> Nat} (h : NS ρ N B) : ∀ e : IE, good e = true -> e.den ρ = (nden N B e : Int) /\ nden N B e < 4294967296
  | .lit n, hg => by
    cases n with
    | ofNat n => exact ⟨rfl, blt_lt hg⟩
    | negSucc n => simp [good] at hg
  | .var i, _ => h.i i
  | .byte i, _ => by
    refine ⟨?_, ?_⟩
    · show (((ρ.b i).toNat : Nat) : Int) = _
      rw [h.b]; rfl
    · show B i < _
      rw [<- h.b i]
      have := (ρ.b i).toNat_lt
      omega
  | .bin op k a b, hg => by
    simp only [good, Bool.and_eq_true] at hg
    obtain ⟨⟨⟨hk, ha⟩, hb⟩, ho⟩ := hg
    have hk' : k = .u32 := by cases k <;> simp [isU32] at hk; rfl
    subst hk'
    obtain ⟨a1, a2⟩ := den_nden h a ha
    obtain ⟨b1, b2⟩ := den_nden h b hb
    have hsh : smallLit b = true -> ∃ n, b = .lit (.ofNat n) /\ n < 32 := by
      intro hs
      unfold smallLit at hs
      split at hs
      · exact ⟨_, rfl, blt_lt hs⟩
      · cases hs
    have hb32 : IntKind.u32.bits = 32 := rfl
    cases op with
    | add =>
      simp only [IE.den, arI, Option.getD_some, a1, b1]
      have : (nden N B a : Int) + (nden N B b : Int) = ((nden N B a + nden N B b : Nat) : Int) := by simp
      rw [this, wrap_u32]
      exact ⟨rfl, Nat.mod_lt _ (by decide)⟩
    | xor =>
      simp only [IE.den, arI, Option.getD_some, a1, b1, BitVec.toNat_xor, bv_u32 _ a2, bv_u32 _ b2]
      have hlt : nden N B a ^^^ nden N B b < 4294967296 := Nat.xor_lt_two_pow (n := 32) a2 b2
      rw [wrap_u32, Nat.mod_eq_of_lt hlt]
      exact ⟨rfl, hlt⟩
    | and =>
      simp only [IE.den, arI, Option.getD_some, a1, b1, BitVec.toNat_and, bv_u32 _ a2, bv_u32 _ b2]
      have hlt : nden N B a &&& nden N B b < 4294967296 := Nat.lt_of_le_of_lt Nat.and_le_left a2
      rw [wrap_u32, Nat.mod_eq_of_lt hlt]
      exact ⟨rfl, hlt⟩
    | or =>
      simp only [IE.den, arI, Option.getD_some, a1, b1, BitVec.toNat_or, bv_u32 _ a2, bv_u32 _ b2]
      have hlt : nden N B a ||| nden N B b < 4294967296 := Nat.or_lt_two_pow (n := 32) a2 b2
      rw [wrap_u32, Nat.mod_eq_of_lt hlt]
      exact ⟨rfl, hlt⟩
    | shl =>
      obtain ⟨n, rfl, hn⟩ := hsh ho
      have hmin : min n 32 = n := by omega
      have hy : (0 : Int) <= Int.ofNat n := Int.natCast_nonneg n
      simp only [IE.den, arI, a1, hb32]
      rw [if_pos hy, Option.getD_some]
      show IntKind.u32.wrap ((nden N B a : Int) * 2 ^ min n 32) = _ /\ _
      rw [hmin]
      have : (nden N B a : Int) * 2 ^ n = ((nden N B a * 2 ^ n : Nat) : Int) := by simp
      rw [this, wrap_u32]
      refine ⟨?_, Nat.mod_lt _ (by decide)⟩
      show _ = ((Nat.mod (nden N B a <<< n) 4294967296 : Nat) : Int)
      rw [Nat.shiftLeft_eq]; rfl
    | shr =>
      obtain ⟨n, rfl, hn⟩ := hsh ho
      have hmin : min n 32 = n := by omega
      have hy : (0 : Int) <= Int.ofNat n := Int.natCast_nonneg n
      simp only [IE.den, arI, a1, hb32]
      rw [if_pos hy, Option.getD_some]
      show Int.fdiv (nden N B a : Int) (2 ^ min n 32) = ((nden N B a >>> n : Nat) : Int) /\ nden N B a >>> n < _
      rw [hmin, Nat.shiftRight_eq_div_pow]
      refine ⟨?_, Nat.lt_of_le_of_lt (Nat.div_le_self _ _) a2⟩
      rw [Int.fdiv_eq_ediv_of_nonneg _ (by exact Int.le_of_lt (Int.pow_pos (by decide)))]
      simp
    | _ => simp at ho
  | .wrap k a, hg => by simp [good] at hg
  | .fn f l i, hg => by simp [good] at hg
/-! ### names, by their number -/
theorem thTr_get : ∀ (l : List IE) (k : Nat) (T : Tr IE) (j : Nat), k + l.length < 2 ^ 59 -> (thTr l k T).get j = if k <= j /\ j < k + l.length then l[j - k]? else T.get j := by
  intro l
  induction l with
  | nil => intro k T j _; simp only [thTr, List.length_nil]; rw [if_neg (by omega)]
  | cons x l ih =>
    intro k T j hk
    rw [List.length_cons] at hk ⊢
    have h60 : (2 : Nat) ^ 59 <= 2 ^ 60 := by decide
    rw [show thTr (x :: l) k T = thTr l (k + 1) (T.put k x) from rfl, ih (k + 1) _ j (by omega), put_get T k x j (by omega)]
    by_cases h1 : k + 1 <= j /\ j < k + 1 + l.length
    · rw [if_pos h1, if_pos (by omega)]
      have : j - k = j - (k + 1) + 1 := by omega
      rw [this]; rfl
    · rw [if_neg h1]
      by_cases h2 : j = k
      · subst h2; rw [if_pos rfl, if_pos (by omega)]; simp
      · rw [if_neg h2, if_neg (by omega)]
theorem thOf_eq (l : List IE) (h : l.length < 1000000) (j : Nat) : thOf l j = l.getD j (.lit 0) := by
  unfold thOf
  rw [thTr_get l 0 .nil j (Nat.lt_trans (by simpa using h) (by decide))]
  by_cases hj : j < l.length
  · rw [if_pos (by omega)]
    simp [List.getD_eq_getElem?_getD]
  · rw [if_neg (by omega), nil_get]
    simp [List.getD_eq_getElem?_getD, List.getElem?_eq_none (by omega : l.length <= j)]
def okTh (θ : List IE) : Bool := Nat.blt θ.length 1000000 && θ.all good
def nth1 (N B : Nat -> Nat) (θ : List IE) : Nat -> Nat := fun j => nden N B (θ.getD j (.lit 0))
def nsubs (B : Nat -> Nat) : (Nat -> Nat) -> List (List IE) -> Nat -> Nat
  | N, [] => N
  | N, θ :: Θ => nsubs B (nth1 N B θ) Θ
theorem NS.sub {N B : Nat -> Nat} (h : NS ρ N B) {θ : List IE} (hg : okTh θ = true) : NS (ρ.sub (thOf θ)) (nth1 N B θ) B where
  i := fun j => by
    simp only [okTh, Bool.and_eq_true] at hg
    have hlen := blt_lt hg.1
    have hgood : good (θ.getD j (.lit 0)) = true := by
      rw [List.getD_eq_getElem?_getD]
      by_cases hj : j < θ.length
      · rw [List.getElem?_eq_getElem hj, Option.getD_some]
        exact (List.all_eq_true.1 hg.2) _ (List.getElem_mem hj)
      · rw [List.getElem?_eq_none (by omega), Option.getD_none]; rfl
    show (thOf θ j).den ρ = _ /\ _
    rw [thOf_eq θ hlen]
    exact den_nden h _ hgood
  b := h.b
theorem NS.subs {B : Nat -> Nat} : ∀ (Θ : List (List IE)) (ρ : Vals) (N : Nat -> Nat), NS ρ N B -> Θ.all okTh = true -> NS (ρ.subs Θ) (nsubs B N Θ) B := by
  intro Θ
  induction Θ with
  | nil => intro ρ N h _; exact h
  | cons θ Θ ih =>
    intro ρ N h hg
    simp only [List.all_cons, Bool.and_eq_true] at hg
    exact ih _ _ (h.sub hg.1) hg.2
/-! ### the names that matter -/
def varsLt (m : Nat) : IE -> Bool
  | .lit _ => true
  | .var i => Nat.blt i m
  | .byte _ => true
  | .bin _ _ a b => varsLt m a && varsLt m b
  | _ => false
def okTrack : Nat -> List (List IE) -> List (List IE) -> Bool
  | _, [], [] => true
  | m, θ :: Θ, x :: X => IE.beqs (θ.take x.length) x && x.all (varsLt m) && okTrack x.length Θ X
  | _, _, _ => false
def envOf (env : List Nat) : Nat -> Nat := fun j => env.getD j 0
def track (B : Nat -> Nat) : List Nat -> List (List IE) -> List Nat
  | env, [] => env
  | env, x :: X => track B (x.map (nden (envOf env) B)) X
theorem nden_congr {N N' B : Nat -> Nat} {m : Nat} (h : ∀ j, j < m -> N j = N' j) : ∀ e : IE, varsLt m e = true -> nden N B e = nden N' B e
  | .lit _, _ => rfl
  | .var i, hv => h i (blt_lt hv)
  | .byte _, _ => rfl
  | .bin op k a b, hv => by
    simp only [varsLt, Bool.and_eq_true] at hv
    cases op <;> simp only [nden, nden_congr h a hv.1, nden_congr h b hv.2]
  | .wrap _ _, hv => by simp [varsLt] at hv
  | .fn _ _ _, hv => by simp [varsLt] at hv
theorem track_ok {B : Nat -> Nat} : ∀ (Θ X : List (List IE)) (m : Nat) (N : Nat -> Nat) (env : List Nat), okTrack m Θ X = true -> env.length = m -> (∀ j, j < m -> N j = envOf env j) ->
    ∀ j, j < (track B env X).length -> nsubs B N Θ j = envOf (track B env X) j
  | [], [], m, N, env, _, hl, h, j, hj => h j (by simp only [track] at hj; omega)
  | θ :: Θ, x :: X, m, N, env, hok, hl, h, j, hj => by
    simp only [okTrack, Bool.and_eq_true] at hok
    obtain ⟨⟨h1, h2⟩, h3⟩ := hok
    have h1 := IE.beqs_eq h1
    refine track_ok Θ X x.length _ _ h3 (by simp) ?_ j hj
    intro i hi
    have hθ : θ.getD i (.lit 0) = x[i] := by
      have e1 : (θ.take x.length)[i]? = some x[i] := by rw [h1]; exact List.getElem?_eq_getElem hi
      have e2 : θ[i]? = some x[i] := by rw [List.getElem?_take] at e1; rwa [if_pos hi] at e1
      rw [List.getD_eq_getElem?_getD, e2]; rfl
    have hv := (List.all_eq_true.1 h2) x[i] (List.getElem_mem hi)
    show nden N B (θ.getD i (.lit 0)) = _
    rw [hθ, nden_congr h _ hv]
    simp [envOf, List.getD_eq_getElem?_getD, List.getElem?_map, List.getElem?_eq_getElem hi]
end Go.Proofs.YtjinjfblilacaaaGreat.Den
end
section
set_option linter.unusedSimpArgs false
namespace Go.Proofs.YtjinjfblilacaaaGreat.Den
open Go.RowKit
variable {P : Program} {ρ ρ' : Vals}
def noH : AHeap := fun _ => none
def noS : Sig := fun _ => none
def noN : Nat -> Option Name := fun _ => none
theorem arel_no {I : Imm} {w : World} (hI : ∀ m b c, I m b = some c -> ∃ el fr, w.heap[b]? = some (.cells c el fr)) : ARel noS I noH w :=
  ⟨fun n row hn => (by cases hn), fun n n' p p' hn => absurd rfl hn, hI, fun n p m hn => absurd rfl hn⟩
theorem mrel_no : MRel ρ noN ⟨0, .nil⟩ noH :=
  ⟨fun n row hn => (by rw [Mem.get, nil_get] at hn; cases hn), fun n k m hn => (by cases hn), fun n hn => absurd rfl hn⟩
theorem vals_agg {σ : Sig} {I : Imm} : ∀ {l vs : List Value}, VRels σ I (l.map .val) vs -> vs = l
  | [], vs, h => by cases h; rfl
  | v :: l, vs, h => by
    cases h with
    | cons h t => cases h; rw [vals_agg t]
/-- What a run with cuts is, for a call. -/
theorem calls_of_xg {f : FuncId} {fn : Func} {code : Code} {args l : List SV} {e : Exit} {T' : Tr SV} {h' : Mem} (hf : P.funcs[f]? = some fn) (hb : fn.body = some code) (hn : args.length <= fn.ntmps) (hn' : fn.ntmps < 1000000)
    (hx : XG (Code.wp P code) fn.ntmps ρ (sargs 0 args .nil) ⟨0, .nil⟩ e ρ' T' h') (he : e = .normal \/ e = .ret) (hr : sres P T' h' fn.results.toList = some l) {xs : List AV} (ha : SRels ρ noN args xs) :
    ∃ ν' ys, SRels ρ' ν' l ys /\ ∀ (I : Imm) (w : World) (vs : Array Value), VRels noS I xs vs.toList -> (∀ m b c, I m b = some c -> ∃ el fr, w.heap[b]? = some (.cells c el fr)) ->
      Calls P f vs w fun e w' => ∃ v σ' I', e = .returned v /\ Below w.heap.size w w' /\ VRel σ' I' (ares1 ys) v := by
  obtain ⟨ν', s', g1, g2⟩ := hx [] noN ⟨0, T0 xs, noH, []⟩ ⟨sargs_T0 ha (by omega), mrel_no, fun i _ n s hs => (by cases hs), .nil⟩
  obtain ⟨ys, h1, h2⟩ := sres_ok g1.tr g1.mem.rows _ _ hr
  refine ⟨ν', ys, h2, fun I w vs hv hI => ?_⟩
  refine calls_of_wp hf hb (g2 noS I _ w _ (start_st (by rw [<- ha.length]; exact hn) (fun s => rfl) hv (arel_no hI)) ?_)
  intro σ' I' a' w' hst st'
  have hds : a'.defers = [] := (g1.late.nil_inv ▸ st'.late).nil_inv
  obtain ⟨v, h4, h5⟩ := results_run st'.st.tr st'.st.rel h1
  have hbl : Below w.heap.size w w' := ⟨hst.fr.os, hst.fr.tape, hst.fr.output, hst.fr.size, fun k hk => hst.fr.block k hk (by
    rintro ⟨n, p, hn, _⟩
    exact hn rfl)⟩
  rcases he with rfl | rfl
  · exact ⟨hds, v, h4, v, σ', I', rfl, hbl, h5⟩
  · exact ⟨hds, v, h4, v, σ', I', rfl, hbl, h5⟩
/-- All blocks, as if nobody wrote them. -/
def allI (w : World) : Imm := fun _ b => match w.heap[b]? with
  | some (.cells c _ _) => some c
  | _ => none
theorem allI_ok (w : World) : ∀ m b c, allI w m b = some c -> ∃ el fr, w.heap[b]? = some (.cells c el fr) := by
  intro m b c h
  unfold allI at h
  split at h
  · rename_i c' el fr hb; cases h; exact ⟨el, fr, hb⟩
  · cases h
/-- Cells that name nothing. -/
def vcells (l : List Value) : List AV := l.map .val
theorem vcells_any {σ σ' : Sig} {I I' : Imm} : ∀ {l vs : List Value}, VRels σ I (vcells l) vs -> VRels σ' I' (vcells l) vs := by
  intro l vs h
  rw [vals_agg h]
  exact VRels.vals l
/-- A slice of plain cells that are in the memory, as one that nobody writes. -/
theorem src_im {σ : Sig} {I : Imm} {H : AHeap} {w : World} (hr : ARel σ I H w) {y : AV} {v : Value} (hv : VRel σ I y v) {k sz : Nat} {l : List Value} (hk : k ≠ 0) (hs : srcCells H sz y = some (k, vcells l)) (hl : l.length = k * sz) (hy : (∃ n o len z, y = .sl n o len z) \/ ∃ m len c, y = .im m len c) :
    VRel noS (allI w) (.im true k (vcells l)) v := by
  rcases hy with ⟨n, o, len, z, rfl⟩ | ⟨m, len, c, rfl⟩
  · simp only [srcCells] at hs
    split at hs
    · rename_i hz
      subst hz
      cases hn : H n with
      | none => rw [hn] at hs; simp at hs
      | some row =>
        rw [hn] at hs
        simp only [Option.bind_some] at hs
        split at hs
        · rename_i hle
          simp only [Option.some.injEq, Prod.mk.injEq] at hs
          obtain ⟨rfl, hs⟩ := hs
          cases hv with
          | @sl _ _ _ _ cap p hp hlc hc =>
            obtain ⟨p', c', el, fr, h1, h2, h3, h4, h5⟩ := hr.rows n row hn
            rw [hp] at h1; cases h1
            have hI : allI w true p.b = some c' := by simp only [allI, h2]
            refine .im hI ?_ hlc
            have hseg := (h5.drop o).take (len * z)
            rw [hs] at hseg
            have hlen : (vcells l).length = len * z := by simp [vcells, hl]
            rw [hlen]
            refine vcells_any (σ := σ) (I := I) ?_
            have e1 : ((seg c' p.o row.length).drop o).take (len * z) = seg c' (p.o + o) (len * z) := by
              simp only [seg, List.drop_take, List.drop_drop, List.take_take]
              congr 1
              omega
            rw [e1] at hseg
            exact hseg
        · cases hs
    · cases hs
  · simp only [srcCells] at hs
    split at hs
    · simp only [Option.some.injEq, Prod.mk.injEq] at hs
      obtain ⟨rfl, hs⟩ := hs
      cases hv with
      | im0 => exact absurd rfl hk
      | @im _ _ cap b o _ c' hI hc hlc =>
        obtain ⟨el, fr, hb⟩ := hr.imm _ _ _ hI
        rw [hs] at hc
        exact .im (by simp only [allI, hb]) (vcells_any hc) hlc
    · cases hs
/-- Plain values, whatever the names. -/
theorem agg_any {σ σ' : Sig} {I I' : Imm} {l : List Value} {v : Value} (h : VRel σ I (.agg (vcells l)) v) : VRel σ' I' (.agg (vcells l)) v := by
  cases h with
  | agg h => exact .agg (vcells_any h)
end Go.Proofs.YtjinjfblilacaaaGreat.Den
end
section
set_option linter.unusedSimpArgs false
set_option linter.unusedVariables false
namespace Go.Proofs.YtjinjfblilacaaaGreat
open Go.RowKit Go.Lib
set_option maxHeartbeats 2000000 in
set_option maxRecDepth 100000 in
theorem grow_bytes (n : Nat) (h0 : 0 < n) (hbig : n <= 140737488355328) (w : World) :
    Calls Tryz.prog 284 #[.slice none 0 0, .int .i64 n] w fun e w' =>
      ∃ G, n <= G /\ e = .returned (.slice (some ⟨w.heap.size, 0, none⟩) 0 G) /\ w' = w.drew.alloc (.cells (Builtin.zeroCells (Value.int .u8 0).cells n ++ Builtin.zeroCells (Value.int .u8 0).cells (G - n)) 5) := by
  obtain ⟨i0, hi0, hz0, hzs, hzb⟩ : ∃ i, Tryz.prog.info? 5 = some i /\ i.zero = some (.int .u8 0) /\ i.size = 1 /\ i.bytes = 1 := ⟨_, rfl, rfl, rfl, rfl⟩
  have hrz : ∀ ty, (Builtin.append_ #[60, 3] ty #[.slice none 0 0, .int .i64 (n : Int)]).run Tryz.prog w = _ := fun ty =>
    Lib.run_append_nil_zeros w 60 3 ty 5 i0 (.int .u8 0) .i64 .i64 rfl rfl hi0 hz0 n h0 (by rw [hzs]; decide) (by omega) (by rw [hzb]; omega)
  have hGn : n <= grownCap w n 0 5 := grownCap_ge w _ _ _
  have hG63 : grownCap w n 0 5 <= 9223372036854775807 := by
    have := grownCap_le_maxLen w n 0 5 (by unfold maxLen; omega)
    unfold maxLen at this
    omega
  obtain ⟨G, hG⟩ : ∃ G, G = grownCap w n 0 5 := ⟨_, rfl⟩
  rw [<- hG] at hrz hGn hG63
  have h1 : ¬ ((n : Int) < 0) := by omega
  have h2 : wrap64 ((n : Int)) = (n : Int) := by unfold wrap64; omega
  have h4 : (n : Int) > 0 := by omega
  clear hG
  go_enter Tryz.func284, Tryz.ntmps284
  go_wp2_with (at_builtin; refine Lib.wpList_append_run _ rfl _ _ _ _ rfl _ _ rfl rfl _ _ (hrz _) ?_)
  all_goals (go_ret; exact ⟨G, hGn, rfl, rfl⟩)
set_option maxRecDepth 100000 in
theorem grow_bytes0 (w : World) : Calls Tryz.prog 284 #[.slice none 0 0, .int .i64 0] w fun e w' => e = .returned (.slice none 0 0) /\ w' = w := by
  go_enter Tryz.func284, Tryz.ntmps284
  go_wp2
  go_ret
  exact ⟨rfl, rfl⟩
set_option maxRecDepth 1000000
namespace Den
end Den
end Go.Proofs.YtjinjfblilacaaaGreat
end
section
set_option linter.unusedSimpArgs false
set_option linter.unusedVariables false
set_option maxRecDepth 100000
namespace Go.Proofs.YtjinjfblilacaaaGreat.Den
open Go.RowKit
attribute [local simp] runList aop abuiltin acall awanted ayielded env T0 tput tset Ran aload astore setMany upd binV aslice aindexAddr apart aindex alen acopy srcCells natOf boundOf aeq AV.nilEq convV appK fillA List.range List.range.loop onF isU8 rowOf
def growS (sz by_ : Nat) : Spec := fun args nm H =>
  match args with
  | [.val (.slice none 0 0), .val (.int .i64 (.ofNat k))] => if k = 0 then some (vnil, H) else if k * by_ <= 140737488355328 then some (.sl nm 0 0 sz, upd H nm (some [])) else none
  | _ => none
theorem growS_ok {f : FuncId} {sz by_ : Nat} {z : List Value} {e0 : TypeId} (hz : z.length = sz) (hgo : isGo Tryz.prog f = true)
    (h0 : ∀ w, Calls Tryz.prog f #[.slice none 0 0, .int .i64 0] w fun e w' => e = .returned (.slice none 0 0) /\ w' = w)
    (h1 : ∀ n, 0 < n -> n * by_ <= 140737488355328 -> ∀ w, Calls Tryz.prog f #[.slice none 0 0, .int .i64 n] w fun e w' => ∃ G, n <= G /\ e = .returned (.slice (some ⟨w.heap.size, 0, none⟩) 0 G) /\ w' = w.drew.alloc (.cells (Builtin.zeroCells z.toArray n ++ Builtin.zeroCells z.toArray (G - n)) e0)) :
    FnOK Tryz.prog f (growS sz by_) := by
  refine ⟨hgo, fun args nm H r H' h => ?_⟩
  unfold growS at h
  split at h
  · rename_i k
    have hargs : ∀ {σ : Sig} {I : Imm} {vs : Array Value}, VRels σ I [.val (.slice none 0 0), .val (.int .i64 (k : Int))] vs.toList -> vs = #[.slice none 0 0, .int .i64 (k : Int)] := by
      intro σ I vs hv
      apply Array.ext'
      generalize vs.toList = l at hv
      cases hv with
      | cons h1 t => cases h1; cases t with
        | cons h2 t => cases h2; cases t; rfl
    split at h
    · rename_i hk
      subst hk
      cases h
      intro σ I w vs _ hv har
      rw [hargs hv]
      refine (h0 w).mono ?_
      rintro e w' ⟨rfl, rfl⟩
      exact ⟨_, σ, I, rfl, Step.refl _ har, .val _⟩
    · rename_i hk
      split at h
      · rename_i hb
        cases h
        intro σ I w vs hfr hv har
        rw [hargs hv]
        refine (h1 k (by omega) hb w).mono ?_
        rintro e w' ⟨G, hG, rfl, rfl⟩
        have hs1 : Step (Under nm) σ I H w σ I H w.drew := Step.drawn har rfl rfl rfl rfl
        have hs2 := (Step.alloc (nm := Under nm) hs1.rel (hfr []) ⟨[], rfl⟩ (row := []) (c := Builtin.zeroCells z.toArray k ++ Builtin.zeroCells z.toArray (G - k)) (el := e0) (fr := (0, 0)) rfl (by simp [seg]; exact .nil)).1
        refine ⟨_, _, _, rfl, hs1.trans hs2, ?_⟩
        refine .sl (p := ⟨w.heap.size, 0, (Builtin.zeroCells z.toArray k ++ Builtin.zeroCells z.toArray (G - k)).size⟩) (upd_same _ _ _) (Nat.zero_le _) ?_
        have hzc : ∀ m, (Builtin.zeroCells z.toArray m).size = m * sz := by
          intro m
          simp [Builtin.zeroCells, hz]
        simp only [Array.size_append, hzc, <- Nat.add_mul]
        rw [show k + (G - k) = G by omega]
        omega
      · cases h
  · cases h
theorem growB_ok : FnOK Tryz.prog 284 (growS 1 1) := growS_ok (z := [.int .u8 0]) rfl rfl grow_bytes0 (fun n hn hb w => grow_bytes n hn (by omega) w)
/-! ### Clone -/
/-- The elements of a slice that is not empty: how many, and their cells. -/
def elems (H : AHeap) (sz : Nat) : AV -> Option (Nat × List AV)
  | .sl n off len s => if s = sz /\ 0 < len then (H n).bind fun row => if off + len * sz <= row.length then some (len, (row.drop off).take (len * sz)) else none else none
  | .im _ len cells => if 0 < len /\ cells.length = len * sz then some (len, cells) else none
  | _ => none
theorem elems_pos {H : AHeap} {sz : Nat} {x : AV} {k : Nat} {c : List AV} (h : elems H sz x = some (k, c)) : 0 < k /\ c.length = k * sz := by
  unfold elems at h
  split at h
  · split at h
    · rename_i hc
      simp only [Option.bind_eq_some_iff] at h
      obtain ⟨row, _, h2⟩ := h
      split at h2
      · rename_i hle
        cases h2
        refine ⟨hc.2, ?_⟩
        rw [List.length_take, List.length_drop]; omega
      · cases h2
    · cases h
  · split at h
    · rename_i hc; cases h; exact hc
    · cases h
  · cases h
theorem elems_src {H : AHeap} {sz : Nat} {x : AV} {k : Nat} {c : List AV} (h : elems H sz x = some (k, c)) : srcCells H sz x = some (k, c) := by
  unfold elems at h
  split at h
  · split at h
    · rename_i hc; simp only [srcCells, hc.1, if_true]; exact h
    · cases h
  · split at h
    · rename_i hc; simp only [srcCells]; rw [if_pos hc.2]; exact h
    · cases h
  · cases h
/-- A slice with elements is not nil. -/
theorem elems_nil {H : AHeap} {sz : Nat} {x : AV} {k : Nat} {c : List AV} (h : elems H sz x = some (k, c)) {P : Program} {t e : TypeId} (ht : P.underlying t = some (.slice e)) (neg : Bool) (a b : Operand) : aeq P neg t a b x vnil = some (vb neg) := by
  unfold elems at h
  split at h
  · cases neg <;> simp [aeq, AV.nilEq, ht]
  · rename_i m len cells
    split at h
    · rename_i hc
      obtain ⟨j, rfl⟩ : ∃ j, len = j + 1 := ⟨len - 1, by omega⟩
      cases neg <;> simp [aeq, AV.nilEq, ht]
    · cases h
  · cases h
/-- The elements of a slice, in a row of their own; nil: nil. -/
def cloneS (sz by_ : Nat) : Spec := fun args nm H =>
  match args with
  | [.val (.slice none 0 0)] => some (vnil, H)
  | [x] =>
    match elems H sz x with
    | some (k, cells) => if cells.all AV.one = true /\ k * by_ <= 140737488355328 /\ k <= 140737488355328 then some (.sl nm 0 k sz, upd H nm (some cells)) else none
    | none => none
  | _ => none
theorem upd_elems {H : AHeap} {sz : Nat} {x : AV} {k : Nat} {c : List AV} {n : Name} {o : Option (List AV)} (hn : H n = none) (h : elems H sz x = some (k, c)) : elems (upd H n o) sz x = some (k, c) := by
  unfold elems at h ⊢
  split at h
  · rename_i n' off len s
    split at h
    · rename_i hc
      rw [if_pos hc]
      have : n' ≠ n := by
        rintro rfl
        rw [hn] at h; cases h
      rw [upd_ne _ _ this]; exact h
    · cases h
  · exact h
  · cases h
set_option maxHeartbeats 400000 in
theorem cloneB_ok : FnOK Tryz.prog 88 (cloneS 1 1) := by
  refine ⟨by kernel_rfl, fun args nm H r H' h => ?_⟩
  have hcall := @noCall_ok Tryz.prog
  unfold cloneS at h
  split at h
  · cases h
    refine sim_go Tryz.func88 rfl rfl (Nat.le_of_ble_eq_true rfl) fun hH => ?_
    (repeat refine AWP.seq ?_)
    refine AWP.region_last hcall rfl fun K hK => ?_
    simp
    apply hK; clear hK K; simp only [onNormal, onExit]
    (repeat refine AWP.seq ?_)
    refine AWP.region_last hcall rfl fun K hK => ?_
    simp
    apply hK; clear hK K; simp only [onNormal, onExit]
    (repeat refine AWP.seq ?_); refine AWP.cond (b := true) (by simp) ?_; simp only [if_true, if_false, Bool.false_eq_true]
    (repeat refine AWP.seq ?_)
    refine AWP.region_last hcall rfl fun K hK => ?_
    simp
    apply hK; clear hK K; simp only [onNormal, onExit]
    (try refine AWP.ret ?_); (try simp only [onNormal, onExit]); refine ⟨by simp, ⟨_, rfl, by simp [ares1]⟩, fun k row hk => ?_⟩
    exact hk
  · rename_i x hx
    split at h
    · rename_i k cells hs
      split at h
      · rename_i hc
        cases h
        obtain ⟨h3, h4, h5⟩ := hc
        have hp := elems_pos hs
        refine sim_row Tryz.func88 rfl rfl (Nat.le_of_ble_eq_true rfl) fun hH => ?_
        have h9 : elems (upd H (3 :: 0 :: nm) (some [])) 1 x = some (k, cells) := upd_elems (hH [3]) hs
        have h8 := elems_src h9
        (repeat refine AWP.seq ?_)
        refine AWP.region_last hcall rfl fun K hK => ?_
        simp
        apply hK; clear hK K; simp only [onNormal, onExit]
        (repeat refine AWP.seq ?_)
        refine AWP.region_last hcall rfl fun K hK => ?_
        simp [-aeq, elems_nil hs r3und70]
        apply hK; clear hK K; simp only [onNormal, onExit]
        (repeat refine AWP.seq ?_); refine AWP.cond (b := false) (by simp) ?_; simp only [if_true, if_false, Bool.false_eq_true]
        refine AWP.skip ?_; simp only [onNormal, onExit]
        (repeat refine AWP.seq ?_)
        refine AWP.region_last hcall rfl fun K hK => ?_
        simp [-srcCells, h8, h3, h4, h5, hp.2]
        apply hK; clear hK K; simp only [onNormal, onExit]
        (try refine AWP.ret ?_); (try simp only [onNormal, onExit]); refine ⟨by simp, _, rfl, ?_, ?_, fun k row hk => ?_⟩
        · exact hH [5]
        · simp
        · refine SubL.out ?_ k row hk; repeat (first | exact SubL.id | refine SubL.set ?_ | refine SubL.gone ?_ | (refine SubL.ex ?_ ?_; · simp; done) | refine SubL.fresh (hH [_]) ?_ | refine SubL.fresh (hH [_, _]) ?_ | (refine SubL.fresh (upd_none (hH [_]) ?_) ?_; · simp; done) | (refine SubL.fresh (upd_none (hH [_, _]) ?_) ?_; · simp; done))
      · cases h
    · cases h
  · cases h
end Go.Proofs.YtjinjfblilacaaaGreat.Den
end
section
set_option linter.unusedSimpArgs false
set_option linter.unusedVariables false
set_option maxRecDepth 100000
namespace Go.Proofs.YtjinjfblilacaaaGreat.Den
open Go.RowKit
attribute [local simp] runList aop abuiltin acall awanted ayielded env T0 tput tset Ran aload astore setMany upd binV aslice aindexAddr apart aindex alen acopy srcCells natOf boundOf aeq AV.nilEq convV appK fillA List.range List.range.loop onF isU8 rowOf
variable {P : Program} {H : AHeap} {sz : Nat}
/-- The elements of a slice, whatever it is: how many, and their cells. -/
def partC (H : AHeap) (sz : Nat) : AV -> Option (Nat × List AV)
  | .val (.slice _ 0 _) => some (0, [])
  | .sl n off len s => if s = sz then (H n).bind fun row => if off + len * sz <= row.length then some (len, (row.drop off).take (len * sz)) else none else none
  | .im _ len cells => if cells.length = len * sz then some (len, cells) else none
  | _ => none
theorem partC_sl (n : Name) (off len s : Nat) : partC H sz (.sl n off len s) = if s = sz then (H n).bind fun row => if off + len * sz <= row.length then some (len, (row.drop off).take (len * sz)) else none else none := rfl
theorem elems_sl (n : Name) (off len s : Nat) : elems H sz (.sl n off len s) = if s = sz /\ 0 < len then (H n).bind fun row => if off + len * sz <= row.length then some (len, (row.drop off).take (len * sz)) else none else none := rfl
theorem part_length {x : AV} {k : Nat} {c : List AV} (h : partC H sz x = some (k, c)) : c.length = k * sz := by
  unfold partC at h
  split at h
  · cases h; simp
  · split at h
    · simp only [Option.bind_eq_some_iff] at h
      obtain ⟨row, _, h2⟩ := h
      split at h2
      · cases h2; rw [List.length_take, List.length_drop]; omega
      · cases h2
    · cases h
  · split at h
    · rename_i hc; cases h; exact hc
    · cases h
  · cases h
theorem part_src {x : AV} {k : Nat} {c : List AV} (h : partC H sz x = some (k, c)) : srcCells H sz x = some (k, c) := by
  unfold partC at h
  split at h
  · cases h; rfl
  · simp only [srcCells]; exact h
  · simp only [srcCells]; exact h
  · cases h
theorem part_sub {H₁ : AHeap} (hs : ∀ k r, H k = some r -> H₁ k = some r) {x : AV} {k : Nat} {c : List AV} (h : partC H sz x = some (k, c)) : partC H₁ sz x = some (k, c) := by
  unfold partC at h ⊢
  split at h
  · exact h
  · split at h
    · rename_i hc
      simp only [Option.bind_eq_some_iff] at h
      obtain ⟨row, h1, h2⟩ := h
      rw [if_pos hc, hs _ _ h1]
      exact h2
    · cases h
  · exact h
  · cases h
theorem elems_sub {H₁ : AHeap} (hs : ∀ k r, H k = some r -> H₁ k = some r) {x : AV} {k : Nat} {c : List AV} (h : elems H sz x = some (k, c)) : elems H₁ sz x = some (k, c) := by
  unfold elems at h ⊢
  split at h
  · split at h
    · rename_i hc
      simp only [Option.bind_eq_some_iff] at h
      obtain ⟨row, h1, h2⟩ := h
      rw [if_pos hc, hs _ _ h1]
      exact h2
    · cases h
  · exact h
  · cases h
theorem part_len {x : AV} {k : Nat} {c : List AV} (h : partC H sz x = some (k, c)) {t e : TypeId} (ht : P.underlying t = some (.slice e)) : alen P t x = some (vi k) := by
  unfold partC at h
  split at h
  · cases h; simp [alen, ht]
  · split at h
    · simp only [Option.bind_eq_some_iff] at h
      obtain ⟨row, _, h2⟩ := h
      split at h2
      · cases h2; simp [alen, ht]
      · cases h2
    · cases h
  · split at h
    · cases h; simp [alen, ht]
    · cases h
  · cases h
theorem elems_at {p : AV} {m : Nat} {ps : List AV} (h : elems H 1 p = some (m, ps)) {t e : TypeId} (ht : P.underlying t = some (.slice e)) (hsz : szOf P e = some 1) (hag : aggB P e = some false) {j : Nat} {x : AV} (hx : ps[j]? = some x) :
    ∃ a, aindexAddr P t p (vi j) = some a /\ ∀ H₁ : AHeap, (∀ k r, H k = some r -> H₁ k = some r) -> aload P e a H₁ = some x := by
  have hj : j < ps.length := (List.getElem?_eq_some_iff.1 hx).1
  have hp := elems_pos h
  unfold elems at h
  split at h
  · rename_i n off len s
    split at h
    · rename_i hc
      simp only [Option.bind_eq_some_iff] at h
      obtain ⟨row, h1, h2⟩ := h
      split at h2
      · rename_i hle
        cases h2
        have hjl : j < m := by omega
        refine ⟨.ptr n (off + j), ?_, fun H₁ hs => ?_⟩
        · simp [aindexAddr, natOf, ht, hsz, hc.1, hjl]
        · simp only [aload, hsz, hag, hs _ _ h1, Option.bind_some]
          simpa [List.getElem?_take, List.getElem?_drop, hjl] using hx
      · cases h2
    · cases h
  · rename_i mm len cells
    split at h
    · rename_i hc
      cases h
      have hjl : j < m := by omega
      refine ⟨.imp mm ps j, ?_, fun H₁ hs => ?_⟩
      · simp [aindexAddr, natOf, ht, hsz, hc.2, hjl]
      · simp only [aload, hsz, hag]; exact hx
    · cases h
  · cases h
theorem elems_len {p : AV} {m : Nat} {ps : List AV} (h : elems H sz p = some (m, ps)) {t e : TypeId} (ht : P.underlying t = some (.slice e)) : alen P t p = some (vi m) := by
  unfold elems at h
  split at h
  · split at h
    · simp only [Option.bind_eq_some_iff] at h
      obtain ⟨row, _, h2⟩ := h
      split at h2
      · cases h2; simp [alen, ht]
      · cases h2
    · cases h
  · split at h
    · cases h; simp [alen, ht]
    · cases h
  · cases h
def partsC (H : AHeap) (sz : Nat) : List AV -> Option (Nat × List AV)
  | [] => some (0, [])
  | x :: r =>
    match partC H sz x with
    | some (k, c) => (partsC H sz r).map fun d => (k + d.1, c ++ d.2)
    | none => none
theorem partsC_cons {x : AV} {r : List AV} {n : Nat} {cells : List AV} (h : partsC H sz (x :: r) = some (n, cells)) : ∃ k c n' c', partC H sz x = some (k, c) /\ partsC H sz r = some (n', c') /\ n = k + n' /\ cells = c ++ c' := by
  simp only [partsC] at h
  split at h
  · rename_i k c hk
    simp only [Option.map_eq_some_iff] at h
    obtain ⟨⟨n', c'⟩, h1, h2⟩ := h
    cases h2
    exact ⟨k, c, n', c', hk, h1, rfl, rfl⟩
  · cases h
theorem partsC_length {l : List AV} : ∀ {n : Nat} {cells : List AV}, partsC H sz l = some (n, cells) -> cells.length = n * sz := by
  induction l with
  | nil => intro n cells h; cases h; simp
  | cons x r ih =>
    intro n cells h
    obtain ⟨k, c, n', c', h1, h2, rfl, rfl⟩ := partsC_cons h
    simp [part_length h1, ih h2, Nat.add_mul]
theorem partsC_sub {H₁ : AHeap} (hs : ∀ k r, H k = some r -> H₁ k = some r) : ∀ {l : List AV} {n : Nat} {cells : List AV}, partsC H sz l = some (n, cells) -> partsC H₁ sz l = some (n, cells)
  | [], _, _, h => h
  | x :: r, n, cells, h => by
    obtain ⟨k, c, n', c', h1, h2, rfl, rfl⟩ := partsC_cons h
    simp only [partsC, part_sub hs h1, partsC_sub hs h2, Option.map_some]
/-- All elements, one slice's behind the other's. -/
def concatS (sz by_ : Nat) : Spec := fun args nm H =>
  match args with
  | [p] =>
    match elems H 1 p with
    | some (m, ps) =>
      match partsC H sz ps with
      | some (n, cells) => if cells.all AV.one = true /\ n * by_ <= 140737488355328 /\ n <= 140737488355328 /\ m <= 140737488355328 then (if n = 0 then some (vnil, H) else some (.sl nm 0 n sz, upd H nm (some cells))) else none
      | none => none
    | none => none
  | _ => none
set_option maxHeartbeats 1000000 in
theorem concatB_ok : FnOK Tryz.prog 171 (concatS 1 1) := by
  refine ⟨by kernel_rfl, fun args nm H r H' h => ?_⟩
  have hcall := onF_ok growB_ok (@noCall_ok Tryz.prog)
  unfold concatS at h
  split at h
  · rename_i p
    split at h
    · rename_i m ps hp
      split at h
      · rename_i n cells hn
        split at h
        · rename_i hc
          obtain ⟨hone, hby, hbn, hbm⟩ := hc
          have hpl := elems_pos hp
          have main : ∀ (nm : Name), (∀ s, H (s ++ nm) = none) -> ∀ (Q : Exit -> Nat -> Temps -> AHeap -> Prop),
              (n = 0 -> ∀ c T, T 2 = vnil -> ∀ H1 : AHeap, (∀ k r, H k = some r -> H1 k = some r) -> Q .ret c T H1) ->
              (0 < n -> ∀ c T q, T 2 = .sl q 0 n 1 -> H q = none -> ∀ H1 : AHeap, H1 q = some cells -> (∀ k r, H k = some r -> H1 k = some r) -> Q .ret c T H1) ->
              AWP Tryz.prog nm Tryz.f171.ntmps (Tryz.f171.body.getD .skip) Q 0 (T0 [p]) H := by
            intro nm hH Q hQ0 hQ1
            (repeat refine AWP.seq ?_)
            refine AWP.region_last hcall rfl fun K hK => ?_
            simp
            apply hK; clear hK K; simp only [onNormal, onExit]
            (repeat refine AWP.seq ?_)
            refine AWP.region_last hcall rfl fun K hK => ?_
            simp
            apply hK; clear hK K; simp only [onNormal, onExit]
            (repeat refine AWP.seq ?_)
            refine AWP.region_last hcall rfl fun K hK => ?_
            simp [-alen, elems_len hp r3und42]
            apply hK; clear hK K; simp only [onNormal, onExit]
            (repeat refine AWP.seq ?_); refine AWP.block ?_
            refine AWP.loop (fun k c T H1 => H1 = H /\ T 0 = p /\ T 9 = p /\ T 10 = vi m /\ ∃ dn rs kd cd kr cr, ps = dn ++ rs /\ partsC H 1 rs = some (kr, cr) /\ kd + kr = n /\ cd ++ cr = cells /\ T 11 = vi dn.length /\ T 3 = vi kd /\ k = rs.length) ps.length ⟨rfl, by simp, by simp, by simp, [], ps, 0, [], n, cells, by simp, hn, by simp, by simp, by simp, by simp, rfl⟩ ?_
            rintro _ c T H1 ⟨rfl, t0, t9, t10, dn, rs, kd, cd, kr, cr, e1, e2, e3, e4, t11, t3, rfl⟩
            have hml : ps.length = m := by simpa using hpl.2
            cases rs with
            | nil =>
              have hd : dn.length = m := by rw [<- hml, e1]; simp
              have hkr : kr = 0 := by simp only [partsC, Option.some.injEq, Prod.mk.injEq] at e2; exact e2.1.symm
              have hkd : kd = n := by omega
              subst hkd
              (repeat refine AWP.seq ?_)
              refine AWP.region_last hcall rfl fun K hK => ?_
              simp [t10, t11, hd]
              apply hK; clear hK K; simp only [onNormal, onExit]
              (repeat refine AWP.seq ?_); refine AWP.cond (b := false) (by simp) ?_; simp only [if_true, if_false, Bool.false_eq_true]
              refine AWP.exit ?_; simp only [onNormal, onExit, if_true, reduceCtorEq, if_false]
              have hg : ∀ q, growS 1 1 [vnil, vi kd] q H1 = if kd = 0 then some (vnil, H1) else some (.sl q 0 0 1, upd H1 q (some [])) := by
                intro q
                show (if kd = 0 then _ else if kd * 1 <= 140737488355328 then _ else none) = _
                rw [if_pos (show kd * 1 <= 140737488355328 from hby)]
              by_cases h0 : kd = 0
              · subst h0
                (repeat refine AWP.seq ?_)
                refine AWP.region_last hcall rfl fun K hK => ?_
                simp [t3, hg]
                apply hK; clear hK K; simp only [onNormal, onExit]
                (repeat refine AWP.seq ?_)
                refine AWP.region_last hcall rfl fun K hK => ?_
                simp [-alen, t0, elems_len hp r3und42]
                apply hK; clear hK K; simp only [onNormal, onExit]
                (repeat refine AWP.seq ?_); refine AWP.block ?_
                refine AWP.loop (fun k c T H2 => H2 = H1 /\ T 25 = p /\ T 26 = vi m /\ T 6 = vnil /\ ∃ dn rs, ps = dn ++ rs /\ (∃ cr, partsC H1 1 rs = some (0, cr)) /\ T 27 = vi dn.length /\ k = rs.length) ps.length ⟨rfl, by simp [t0], by simp, by simp, [], ps, by simp, ⟨_, hn⟩, by simp, rfl⟩ ?_
                rintro _ c T H2 ⟨rfl, t25, t26, t6, dn2, rs2, f1, ⟨cr2, f2⟩, t27, rfl⟩
                cases rs2 with
                | nil =>
                  have hd2 : dn2.length = m := by rw [<- hml, f1]; simp
                  (repeat refine AWP.seq ?_)
                  refine AWP.region_last hcall rfl fun K hK => ?_
                  simp [t26, t27, hd2]
                  apply hK; clear hK K; simp only [onNormal, onExit]
                  (repeat refine AWP.seq ?_); refine AWP.cond (b := false) (by simp) ?_; simp only [if_true, if_false, Bool.false_eq_true]
                  refine AWP.exit ?_; simp only [onNormal, onExit, if_true, reduceCtorEq, if_false]
                  (repeat refine AWP.seq ?_)
                  refine AWP.region_last hcall rfl fun K hK => ?_
                  simp [t6]
                  apply hK; clear hK K; simp only [onNormal, onExit]
                  refine AWP.ret ?_
                  exact hQ0 rfl _ _ (by simp) _ (fun _ _ h => h)
                | cons x rs2 =>
                  obtain ⟨kx, cx, kr', cr', g1, g2, g3, g4⟩ := partsC_cons f2
                  obtain ⟨rfl, rfl⟩ : kx = 0 /\ kr' = 0 := by omega
                  have hd2 : dn2.length < m := by rw [<- hml, f1]; simp
                  have hx : ps[dn2.length]? = some x := by rw [f1]; simp
                  obtain ⟨a, ha, hla⟩ := elems_at hp r3und42 r3sz70 r3ag70 hx
                  have hcx : cx = [] := List.eq_nil_of_length_eq_zero (by have := part_length g1; omega)
                  subst hcx
                  (repeat refine AWP.seq ?_)
                  refine AWP.region_last hcall rfl fun K hK => ?_
                  simp [t26, t27, hd2]
                  apply hK; clear hK K; simp only [onNormal, onExit]
                  (repeat refine AWP.seq ?_); refine AWP.cond (b := true) (by simp [hd2]) ?_; simp only [if_true, if_false, Bool.false_eq_true]
                  refine AWP.skip ?_; simp only [onNormal, onExit]
                  (repeat refine AWP.seq ?_); refine AWP.block ?_
                  (repeat refine AWP.seq ?_)
                  refine AWP.region_last hcall rfl fun K hK => ?_
                  simp [-aindexAddr, -aload, t25, t27, ha, hla H2 (fun _ _ h => h)]
                  apply hK; clear hK K; simp only [onNormal, onExit]
                  (repeat refine AWP.seq ?_)
                  refine AWP.region_last hcall rfl fun K hK => ?_
                  simp [-srcCells, t6, part_src g1]
                  apply hK; clear hK K; simp only [onNormal, onExit]
                  have hw2 : IntKind.i64.wrap ((dn2.length : Int) + 1) = ((dn2.length + 1 : Nat) : Int) := by rw [IntKind.wrap_i64]; omega
                  (repeat refine AWP.seq ?_)
                  refine AWP.region_last hcall rfl fun K hK => ?_
                  simp [t27, hw2]
                  apply hK; clear hK K; simp only [onNormal, onExit]
                  exact ⟨rs2.length, by simp, by simp, by simp [t25], by simp [t26], by simp, dn2 ++ [x], rs2, by simp [f1], ⟨_, g2⟩, by simp, rfl⟩
              · have hgn : H1 ((c + 3) :: nm) = none := hH [c + 3]
                have hgn' : ∀ q, growS 1 1 [vnil, vi kd] q H1 = some (.sl q 0 0 1, upd H1 q (some [])) := fun q => by rw [hg, if_neg h0]
                (repeat refine AWP.seq ?_)
                refine AWP.region_last hcall rfl fun K hK => ?_
                simp [t3, hgn']
                apply hK; clear hK K; simp only [onNormal, onExit]
                (repeat refine AWP.seq ?_)
                refine AWP.region_last hcall rfl fun K hK => ?_
                simp [-alen, t0, elems_len hp r3und42]
                apply hK; clear hK K; simp only [onNormal, onExit]
                (repeat refine AWP.seq ?_); refine AWP.block ?_
                refine AWP.loop (fun k c T H2 => (∀ k r, H1 k = some r -> H2 k = some r) /\ T 25 = p /\ T 26 = vi m /\ ∃ q dn rs kd' cd' kr cr, ps = dn ++ rs /\ partsC H1 1 rs = some (kr, cr) /\ kd' + kr = kd /\ cd' ++ cr = cells /\ cd'.length = kd' * 1 /\ T 6 = .sl q 0 kd' 1 /\ H1 q = none /\ H2 q = some cd' /\ T 27 = vi dn.length /\ k = rs.length) ps.length ⟨?_, by simp [t0], by simp, (c + 1 + 1) :: nm, [], ps, 0, [], kd, cells, by simp, hn, by simp, by simp, by simp, by simp, hH [c + 1 + 1], by simp, by simp, rfl⟩ ?_
                · intro k r hk
                  refine SubL.out (SubL.fresh (hH [_]) SubL.id) k r hk
                rintro _ c T H2 ⟨hsub, t25, t26, q, dn2, rs2, kd2, cd2, kr2, cr2, f1, f2, f3, f4, f5, t6, hq1, hq2, t27, rfl⟩
                cases rs2 with
                | nil =>
                  have hd2 : dn2.length = m := by rw [<- hml, f1]; simp
                  simp only [partsC, Option.some.injEq, Prod.mk.injEq] at f2
                  obtain ⟨rfl, rfl⟩ := f2
                  obtain rfl : kd2 = kd := by omega
                  obtain rfl : cd2 = cells := by simpa using f4
                  (repeat refine AWP.seq ?_)
                  refine AWP.region_last hcall rfl fun K hK => ?_
                  simp [t26, t27, hd2]
                  apply hK; clear hK K; simp only [onNormal, onExit]
                  (repeat refine AWP.seq ?_); refine AWP.cond (b := false) (by simp) ?_; simp only [if_true, if_false, Bool.false_eq_true]
                  refine AWP.exit ?_; simp only [onNormal, onExit, if_true, reduceCtorEq, if_false]
                  (repeat refine AWP.seq ?_)
                  refine AWP.region_last hcall rfl fun K hK => ?_
                  simp [t6]
                  apply hK; clear hK K; simp only [onNormal, onExit]
                  refine AWP.ret ?_
                  exact hQ1 (by omega) _ _ q (by simp) hq1 _ hq2 hsub
                | cons x rs2 =>
                  obtain ⟨kx, cx, kr', cr', g1, g2, rfl, rfl⟩ := partsC_cons f2
                  have hd2 : dn2.length < m := by rw [<- hml, f1]; simp
                  have hx : ps[dn2.length]? = some x := by rw [f1]; simp
                  obtain ⟨a, ha, hla⟩ := elems_at hp r3und42 r3sz70 r3ag70 hx
                  have hcx := part_length g1
                  have hone2 : cx.all AV.one = true := by
                    rw [<- f4] at hone
                    simp only [List.all_append, Bool.and_eq_true] at hone
                    exact hone.2.1
                  (repeat refine AWP.seq ?_)
                  refine AWP.region_last hcall rfl fun K hK => ?_
                  simp [t26, t27, hd2]
                  apply hK; clear hK K; simp only [onNormal, onExit]
                  (repeat refine AWP.seq ?_); refine AWP.cond (b := true) (by simp [hd2]) ?_; simp only [if_true, if_false, Bool.false_eq_true]
                  refine AWP.skip ?_; simp only [onNormal, onExit]
                  (repeat refine AWP.seq ?_); refine AWP.block ?_
                  (repeat refine AWP.seq ?_)
                  refine AWP.region_last hcall rfl fun K hK => ?_
                  simp [-aindexAddr, -aload, t25, t27, ha, hla H2 hsub]
                  apply hK; clear hK K; simp only [onNormal, onExit]
                  have hb1 : kd2 * 1 <= cd2.length := by omega
                  have hb2 : (kd2 + kx) * 1 <= 140737488355328 := by
                    have : (kd2 + kx) * 1 <= kd * 1 := Nat.mul_le_mul_right _ (by omega)
                    omega
                  have hb3 : kd2 + kx <= 140737488355328 := by omega
                  have hct : cd2.take (kd2 * 1) = cd2 := List.take_of_length_le (by omega)
                  (try simp only [Nat.mul_one] at hb1 hb2 hct hcx)
                  (repeat refine AWP.seq ?_)
                  refine AWP.region_last hcall rfl fun K hK => ?_
                  simp [-srcCells, t6, part_src (part_sub hsub g1), hone2, hcx, hq2, hb1, hb2, hb3, hct]
                  apply hK; clear hK K; simp only [onNormal, onExit]
                  have hw2 : IntKind.i64.wrap ((dn2.length : Int) + 1) = ((dn2.length + 1 : Nat) : Int) := by rw [IntKind.wrap_i64]; omega
                  (repeat refine AWP.seq ?_)
                  refine AWP.region_last hcall rfl fun K hK => ?_
                  simp [t27, hw2]
                  apply hK; clear hK K; simp only [onNormal, onExit]
                  refine ⟨rs2.length, by simp, ?_, by simp [t25], by simp [t26], (c + 1 + 3 + 2) :: nm, dn2 ++ [x], rs2, kd2 + kx, cd2 ++ cx, kr', cr', by simp [f1], g2, by omega, by rw [<- f4]; simp, by simp [f5, hcx, Nat.add_mul], by simp, hH [c + 1 + 3 + 2], by simp, by simp, rfl⟩
                  intro k r hk
                  exact SubL.out (SubL.fresh (hH [_]) (SubL.fresh hq1 (fun k r _ hk => hsub k r hk))) k r hk
            | cons x rs =>
              obtain ⟨kx, cx, kr', cr', g1, g2, rfl, rfl⟩ := partsC_cons e2
              have hd : dn.length < m := by rw [<- hml, e1]; simp
              have hx : ps[dn.length]? = some x := by rw [e1]; simp
              obtain ⟨a, ha, hla⟩ := elems_at hp r3und42 r3sz70 r3ag70 hx
              (repeat refine AWP.seq ?_)
              refine AWP.region_last hcall rfl fun K hK => ?_
              simp [t10, t11, hd]
              apply hK; clear hK K; simp only [onNormal, onExit]
              (repeat refine AWP.seq ?_); refine AWP.cond (b := true) (by simp [hd]) ?_; simp only [if_true, if_false, Bool.false_eq_true]
              refine AWP.skip ?_; simp only [onNormal, onExit]
              (repeat refine AWP.seq ?_); refine AWP.block ?_
              (repeat refine AWP.seq ?_)
              refine AWP.region_last hcall rfl fun K hK => ?_
              simp [-aindexAddr, -aload, t9, t11, ha, hla H1 (fun _ _ h => h)]
              apply hK; clear hK K; simp only [onNormal, onExit]
              have hw : IntKind.i64.wrap ((kd : Int) + kx) = ((kd + kx : Nat) : Int) := by rw [IntKind.wrap_i64]; omega
              have hz : ¬ ((kd : Int) + kx < 0) := by omega
              (repeat refine AWP.seq ?_)
              refine AWP.region_last hcall rfl fun K hK => ?_
              simp [-alen, t3, part_len g1 r3und70, hw]
              apply hK; clear hK K; simp only [onNormal, onExit]
              (repeat refine AWP.seq ?_)
              refine AWP.region_last hcall rfl fun K hK => ?_
              simp [hz]
              apply hK; clear hK K; simp only [onNormal, onExit]
              (repeat refine AWP.seq ?_); refine AWP.cond (b := false) (by simp [hz]) ?_; simp only [if_true, if_false, Bool.false_eq_true]
              refine AWP.skip ?_; simp only [onNormal, onExit]
              have hw2 : IntKind.i64.wrap ((dn.length : Int) + 1) = ((dn.length + 1 : Nat) : Int) := by rw [IntKind.wrap_i64]; omega
              (repeat refine AWP.seq ?_)
              refine AWP.region_last hcall rfl fun K hK => ?_
              simp [t11, hw2]
              apply hK; clear hK K; simp only [onNormal, onExit]
              refine ⟨rs.length, by simp, by simp, by simp [t0], by simp [t9], by simp [t10], dn ++ [x], rs, kd + kx, cd ++ cx, kr', cr', by simp [e1], g2, by omega, by rw [<- e4]; simp, by simp, by simp, rfl⟩
          by_cases h0 : n = 0
          · rw [if_pos h0] at h
            cases h
            refine sim_go Tryz.func171 rfl rfl (Nat.le_of_ble_eq_true rfl) fun hH => ?_
            refine main nm hH _ (fun _ c T t2 H1 hs => ⟨.inr rfl, ⟨_, rfl, by simp [ares1, t2]⟩, fun k row hk => hs k row hk⟩) (fun hpos => by omega)
          · rw [if_neg h0] at h
            cases h
            refine sim_row Tryz.func171 rfl rfl (Nat.le_of_ble_eq_true rfl) fun hH => ?_
            refine main (0 :: nm) hH _ (fun he => absurd he h0) (fun _ c T q t2 hq H1 hr hs => ⟨.inr rfl, q, ?_, hq, hr, hs⟩)
            show some [T 2] = _
            rw [t2]
        · cases h
      · cases h
    · cases h
  · cases h
end Go.Proofs.YtjinjfblilacaaaGreat.Den
end
section
set_option linter.unusedSimpArgs false
set_option linter.unusedVariables false
set_option maxRecDepth 100000
namespace Go.Proofs.YtjinjfblilacaaaGreat.Den
open Go.RowKit
attribute [local simp] runList aop abuiltin acall awanted ayielded env T0 tput tset Ran aload astore setMany upd binV aslice aindexAddr apart aindex alen acopy srcCells natOf boundOf aeq AV.nilEq convV appK fillA List.range List.range.loop onF isU8 rowOf
def u8 (n : Int) : AV := .val (.int .u8 (IntKind.u8.wrap n))
/-- A byte behind bytes. -/
def byteS : Spec := fun args nm H =>
  match args with
  | [b, .val (.int .i64 n)] =>
    match partC H 1 b with
    | some (k, c) => if c.all AV.one = true /\ k < 140737488355328 then some (.sl nm 0 (k + 1) 1, upd H nm (some (c ++ [u8 n]))) else none
    | none => none
  | _ => none
set_option maxHeartbeats 400000 in
theorem byte_ok : FnOK Tryz.prog 285 byteS := by
  refine ⟨by kernel_rfl, fun args nm H r H' h => ?_⟩
  have hcall := onF_ok concatB_ok (@noCall_ok Tryz.prog)
  unfold byteS at h
  split at h
  · rename_i b n
    split at h
    · rename_i k c hb
      split at h
      · rename_i hc
        cases h
        have hcl := part_length hb
        simp only [Nat.mul_one] at hcl
        obtain ⟨h1, h2⟩ := hc
        refine sim_row Tryz.func285 rfl rfl (Nat.le_of_ble_eq_true rfl) fun hH => ?_
        have hb2 : ∀ o1 o2, partC (upd (upd H (4 :: 0 :: nm) o1) (5 :: 0 :: nm) o2) 1 b = some (k, c) := fun o1 o2 => part_sub (SubL.out (SubL.fresh (hH [5]) (SubL.fresh (hH [4]) SubL.id))) hb
        have hb3 : k + 1 <= 140737488355328 := by omega
        have hone : b.one = true /\ b.cells = [b] := by
          unfold partC at hb
          split at hb <;> first | exact ⟨rfl, rfl⟩ | cases hb
        (repeat refine AWP.seq ?_)
        refine AWP.region_last hcall rfl fun K hK => ?_
        simp
        apply hK; clear hK K; simp only [onNormal, onExit]
        (repeat refine AWP.seq ?_)
        refine AWP.region_last hcall rfl fun K hK => ?_
        simp [concatS, elems_sl, partsC, partC_sl, hb2, h1, hb3, hone.1, hone.2]
        apply hK; clear hK K; simp only [onNormal, onExit]
        (try refine AWP.ret ?_); (try simp only [onNormal, onExit]); refine ⟨by simp, _, rfl, ?_, ?_, fun k row hk => ?_⟩
        · exact hH [6]
        · simp [u8]
        · refine SubL.out ?_ k row hk; repeat (first | exact SubL.id | refine SubL.set ?_ | refine SubL.gone ?_ | (refine SubL.ex ?_ ?_; · simp; done) | refine SubL.fresh (hH [_]) ?_ | refine SubL.fresh (hH [_, _]) ?_ | (refine SubL.fresh (upd_none (hH [_]) ?_) ?_; · simp; done) | (refine SubL.fresh (upd_none (hH [_, _]) ?_) ?_; · simp; done))
      · cases h
    · cases h
  · cases h
theorem lenB1 (n : Nat) : IntKind.u8.wrap (n : Int) = ((UInt8.ofNat n).toNat : Int) := by
  rw [IntKind.wrap_u8, UInt8.toNat_ofNat']
  omega
theorem bs_one (l : List UInt8) : (bs l).all AV.one = true := List.all_eq_true.2 fun a ha => by obtain ⟨b, _, rfl⟩ := List.mem_map.1 ha; rfl
/-! ### numbers of eight bytes -/
def byteAt (n : Int) (i : Nat) : UInt8 := UInt8.ofNat ((n % 18446744073709551616).toNat / 256 ^ i)
def i8p (n : Int) (i : Nat) : List UInt8 := (List.range i).map (byteAt n)
def i8 (n : Int) : List UInt8 := i8p n 8
theorem i8p_length (n : Int) (i : Nat) : (i8p n i).length = i := by rw [i8p, List.length_map, List.length_range]
theorem i8p_succ (n : Int) (i : Nat) : i8p n (i + 1) = i8p n i ++ [byteAt n i] := by rw [i8p, List.range_succ, List.map_append]; rfl
theorem byteAt_wrap (n : Int) (i : Nat) (hi : i < 8) : IntKind.u8.wrap ((IntKind.u64.wrap n).fdiv (2 ^ min (8 * (i : Int)).toNat IntKind.u64.bits)) = ((byteAt n i).toNat : Int) := by
  have e0 : (8 * (i : Int)).toNat = 8 * i := by omega
  have e1 : min (8 * i) IntKind.u64.bits = 8 * i := Nat.min_eq_left (by show 8 * i <= 64; omega)
  have h0 := Int.emod_nonneg n (by decide : (18446744073709551616 : Int) ≠ 0)
  have hd : (IntKind.u64.wrap n).fdiv (2 ^ min (8 * (i : Int)).toNat IntKind.u64.bits) = (((n % 18446744073709551616).toNat / 256 ^ i : Nat) : Int) := by
    rw [e0, e1, IntKind.wrap_u64, Int.fdiv_eq_ediv_of_nonneg _ (Int.le_of_lt (Int.pow_pos (by decide)))]
    push_cast
    rw [Int.toNat_of_nonneg h0]
    congr 1
    rw [Int.pow_mul]; rfl
  rw [hd, lenB1]; rfl
/-- All elements of a slice: nil has none. -/
def fullC (H : AHeap) : AV -> Option (Nat × List AV)
  | .val (.slice none 0 0) => some (0, [])
  | x => elems H 1 x
def intS : Spec := fun args nm H =>
  match args with
  | [b, .val (.int .i64 n)] =>
    match fullC H b with
    | some (k, c) => if c.all AV.one = true /\ k < 140737488355320 then some (.sl nm 0 (k + 8) 1, upd H nm (some (c ++ bs (i8 n)))) else none
    | none => none
  | _ => none
set_option maxHeartbeats 1000000 in
theorem int_ok : FnOK Tryz.prog 172 intS := by
  refine ⟨by kernel_rfl, fun args nm H r H' h => ?_⟩
  have hcall := onF_ok cloneB_ok (@noCall_ok Tryz.prog)
  unfold intS at h
  split at h
  · rename_i b n
    split at h
    · rename_i k c hb
      split at h
      · rename_i hc
        cases h
        obtain ⟨h1, h2⟩ := hc
        have hcl : c.length = k := by
          unfold fullC at hb
          split at hb
          · cases hb; rfl
          · have := (elems_pos hb).2; omega
        -- what Clone gives
        have hcn : ∀ q, H q = none -> ∃ x H1, cloneS 1 1 [b] q H = some (x, H1) /\ (∀ a r, H a = some r -> H1 a = some r) /\ (k = 0 /\ x = vnil \/ 0 < k /\ x = .sl q 0 k 1 /\ H1 q = some c) := by
          intro q hq
          unfold fullC at hb
          split at hb
          · cases hb
            exact ⟨vnil, H, rfl, fun _ _ h => h, .inl ⟨rfl, rfl⟩⟩
          · rename_i hnn
            have hp := elems_pos hb
            refine ⟨.sl q 0 k 1, upd H q (some c), ?_, fun a r ha => ?_, .inr ⟨hp.1, rfl, upd_same _ _ _⟩⟩
            · unfold cloneS
              split
              · rename_i e; injection e with e; subst e; cases hb
              · rename_i x hx e
                injection e with e; subst e
                rw [hb]
                simp only
                rw [if_pos ⟨h1, by omega, by omega⟩]
              · rename_i hx1 hx2 ; exact absurd rfl (hx2 b)
            · rw [upd_ne]; exact ha
              rintro rfl; rw [hq] at ha; cases ha
        refine sim_row Tryz.func172 rfl rfl (Nat.le_of_ble_eq_true rfl) fun hH => ?_
        obtain ⟨x, H1, g1, g2, g3⟩ := hcn (2 :: 0 :: nm) (hH [2])
        (repeat refine AWP.seq ?_)
        refine AWP.region_last hcall rfl fun K hK => ?_
        simp
        apply hK; clear hK K; simp only [onNormal, onExit]
        (repeat refine AWP.seq ?_)
        refine AWP.scope 0 (fun m c' T H2 => ∃ i q, 0 < i /\ i < 8 /\ m = 8 - i /\ T 1 = vi n /\ T 6 = vi i /\ T 5 = .sl q 0 (k + i) 1 /\ H q = none /\ H2 q = some (c ++ bs (i8p n i)) /\ (∀ a r, H a = some r -> H2 a = some r)) rfl ?_ ?_
        · (repeat refine AWP.seq ?_)
          refine AWP.region_last hcall rfl fun K hK => ?_
          simp [g1]
          apply hK; clear hK K; simp only [onNormal, onExit]
          (repeat refine AWP.seq ?_)
          refine AWP.region_last hcall rfl fun K hK => ?_
          simp
          apply hK; clear hK K; simp only [onNormal, onExit]
          (repeat refine AWP.seq ?_)
          refine AWP.label ?_; simp only [onNormal]
          have hb0 : IntKind.u8.wrap ((IntKind.u64.wrap n).fdiv (2 ^ min 0 IntKind.u64.bits)) = ((byteAt n 0).toNat : Int) := byteAt_wrap n 0 (by omega)
          have hb0' : IntKind.u8.wrap (IntKind.u64.wrap n) = ((byteAt n 0).toNat : Int) := by simpa using hb0
          rcases g3 with ⟨hk0, rfl⟩ | ⟨hk0, rfl, hr0⟩
          · subst hk0
            obtain rfl : c = [] := List.eq_nil_of_length_eq_zero hcl
            (repeat refine AWP.seq ?_)
            refine AWP.region_last hcall rfl fun K hK => ?_
            simp [hb0]
            apply hK; clear hK K; simp only [onNormal, onExit]
            (repeat refine AWP.seq ?_)
            refine AWP.region_last hcall rfl fun K hK => ?_
            simp
            apply hK; clear hK K; simp only [onNormal, onExit]
            (repeat refine AWP.seq ?_)
            refine AWP.region_last hcall rfl fun K hK => ?_
            simp
            apply hK; clear hK K; simp only [onNormal, onExit]
            (repeat refine AWP.seq ?_); refine AWP.cond (b := true) (by simp) ?_; simp only [if_true, if_false, Bool.false_eq_true]
            refine AWP.goto ?_; simp only [onNormal, onGoto]
            refine ⟨by trivial, 7, 1, 13 :: 0 :: nm, by omega, by omega, rfl, by simp, by simp, by simp, hH [_], by simp [i8p_succ n 0, show i8p n 0 = [] from rfl, bs, hb0'], ?_⟩
            refine SubL.out (SubL.fresh (hH [_]) (SubL.fresh (hH [_]) fun a r _ ha => g2 a r ha))
          · have hct : c.take k = c := List.take_of_length_le (by omega)
            have hne1 : ¬ (2 :: 0 :: nm = 12 :: 0 :: nm) := by simp
            have hkl : k <= c.length := by omega
            have hb1 : k + 1 <= 140737488355328 := by omega
            (repeat refine AWP.seq ?_)
            refine AWP.region_last hcall rfl fun K hK => ?_
            simp [hb0, hr0, hct, hkl, hb1]
            apply hK; clear hK K; simp only [onNormal, onExit]
            (repeat refine AWP.seq ?_)
            refine AWP.region_last hcall rfl fun K hK => ?_
            simp
            apply hK; clear hK K; simp only [onNormal, onExit]
            (repeat refine AWP.seq ?_)
            refine AWP.region_last hcall rfl fun K hK => ?_
            simp
            apply hK; clear hK K; simp only [onNormal, onExit]
            (repeat refine AWP.seq ?_); refine AWP.cond (b := true) (by simp) ?_; simp only [if_true, if_false, Bool.false_eq_true]
            refine AWP.goto ?_; simp only [onNormal, onGoto]
            refine ⟨by trivial, 7, 1, 13 :: 0 :: nm, by omega, by omega, rfl, by simp, by simp, by simp, hH [_], by simp [i8p_succ n 0, show i8p n 0 = [] from rfl, bs, hb0'], ?_⟩
            refine SubL.out (SubL.fresh (hH [_]) (SubL.fresh (hH [_]) (SubL.fresh (hH [_]) fun a r _ ha => g2 a r ha)))
        · rintro m c' T H2 ⟨i, q, hi0, hi8, rfl, t1, t6, t5, hq1, hq2, hsub⟩
          (repeat refine AWP.seq ?_)
          refine AWP.skip ?_; simp only [onNormal]
          have hzz : (0 : Int) <= 8 * (i : Int) := by omega
          have hw8 : IntKind.i64.wrap (8 * (i : Int)) = 8 * (i : Int) := by rw [IntKind.wrap_i64]; omega
          have hw2 : IntKind.i64.wrap ((i : Int) + 1) = ((i + 1 : Nat) : Int) := by rw [IntKind.wrap_i64]; omega
          have hbw := byteAt_wrap n i (by omega)
          have hrs : bs (i8p n i) ++ [.val (.int .u8 ((byteAt n i).toNat : Int))] = bs (i8p n (i + 1)) := by
            rw [i8p_succ, <- bs_append]; rfl
          have hlr : (c ++ bs (i8p n i)).length = k + i := by rw [List.length_append, bs_length, i8p_length, hcl]
          have hct : (c ++ bs (i8p n i)).take (k + i) = c ++ bs (i8p n i) := List.take_of_length_le (by omega)
          have hb1 : k + i + 1 <= 140737488355328 := by omega
          have hle : k + i <= (c ++ bs (i8p n i)).length := by omega
          generalize hrow : c ++ bs (i8p n i) = row at *
          refine AWP.known_fresh fun hfr => ?_
          have hqn := ne_fresh hfr hq2 (c' + 7) (by omega)
          (repeat refine AWP.seq ?_)
          refine AWP.region_last hcall rfl fun K hK => ?_
          simp [t5, t1, t6, hw8, hzz, hbw, hq2, hct, hb1, hle, hqn]
          apply hK; clear hK K; simp only [onNormal, onExit]
          (repeat refine AWP.seq ?_)
          refine AWP.region_last hcall rfl fun K hK => ?_
          simp [t6, hw2]
          apply hK; clear hK K; simp only [onNormal, onExit]
          by_cases h7 : i + 1 < 8
          · (repeat refine AWP.seq ?_)
            refine AWP.region_last hcall rfl fun K hK => ?_
            simp [h7]
            apply hK; clear hK K; simp only [onNormal, onExit]
            have h7' : (i : Int) + 1 < 8 := by omega
            (repeat refine AWP.seq ?_); refine AWP.cond (b := true) (by simp [h7']) ?_; simp only [if_true, if_false, Bool.false_eq_true]
            refine AWP.goto ?_; simp only [onNormal, onGoto]
            refine ⟨by trivial, 8 - (i + 1), by omega, i + 1, (c' + 8) :: 0 :: nm, by omega, h7, rfl, by simp [t1], by simp, by simp [Nat.add_assoc], hH [_], by simp [<- hrs, <- hrow], ?_⟩
            refine SubL.out (SubL.fresh (hH [_]) (SubL.fresh hq1 (SubL.fresh (hH [_]) fun a r _ ha => hsub a r ha)))
          · (repeat refine AWP.seq ?_)
            refine AWP.region_last hcall rfl fun K hK => ?_
            simp
            apply hK; clear hK K; simp only [onNormal, onExit]
            have h7' : ¬ ((i : Int) + 1 < 8) := by omega
            (repeat refine AWP.seq ?_); refine AWP.cond (b := false) (by simp [h7']) ?_; simp only [if_true, if_false, Bool.false_eq_true]
            refine AWP.skip ?_; simp only [onNormal, onExit]
            obtain rfl : i = 7 := by omega
            have hone : row.all AV.one = true := by
              rw [<- hrow, List.all_append, h1, bs_one]; rfl
            have hb8 : k + 8 <= 140737488355328 := by omega
            have hlr8 : row.length = k + 7 := hlr
            have hi8' : row ++ [.val (.int .u8 ((byteAt n 7).toNat : Int))] = c ++ bs (i8 n) := by
              rw [<- hrow, List.append_assoc, hrs]; rfl
            have hl8 : (i8 n).length = 8 := i8p_length n 8
            have htk : (c ++ bs (i8 n)).take (k + 7 + 1) = c ++ bs (i8 n) := List.take_of_length_le (by rw [List.length_append, bs_length, hl8, hcl]; omega)
            have hone8 : (c ++ bs (i8 n)).all AV.one = true := by rw [List.all_append, h1, bs_one]; rfl
            have hle8 : k + 7 + 1 <= k + 8 := by omega
            (repeat refine AWP.seq ?_)
            refine AWP.region_last hcall rfl fun K hK => ?_
            simp [cloneS, elems_sl, hlr8, hb8, hi8', hl8, htk, hone8, hcl, hle8]
            apply hK; clear hK K; simp only [onNormal, onExit]
            (try refine AWP.ret ?_); (try simp only [onNormal, onExit]); refine ⟨by simp, _, rfl, ?_, ?_, fun k row hk => ?_⟩
            · exact hH [_]
            · simp
            · exact SubL.out (SubL.fresh (hH [_]) (SubL.fresh (hH [_]) (SubL.fresh hq1 (SubL.fresh (hH [_]) fun a r _ ha => hsub a r ha)))) k row hk
      · cases h
    · cases h
  · cases h
end Go.Proofs.YtjinjfblilacaaaGreat.Den
end
section
set_option linter.unusedSimpArgs false
set_option linter.unusedVariables false
set_option maxRecDepth 100000
namespace Go.Proofs.YtjinjfblilacaaaGreat.Den
open Go.RowKit
attribute [local simp] runList aop abuiltin acall awanted ayielded env T0 tput tset Ran aload astore setMany upd binV aslice aindexAddr apart aindex alen acopy srcCells natOf boundOf aeq AV.nilEq convV appK fillA List.range List.range.loop onF isU8 rowOf
end Go.Proofs.YtjinjfblilacaaaGreat.Den
end
section
set_option linter.unusedSimpArgs false
set_option linter.unusedVariables false
set_option maxRecDepth 100000
namespace Go.Proofs.YtjinjfblilacaaaGreat.Den
open Go.RowKit
attribute [local simp] runList aop abuiltin acall awanted ayielded env T0 tput tset Ran aload astore setMany upd binV aslice aindexAddr apart aindex alen acopy srcCells natOf boundOf aeq AV.nilEq convV appK fillA List.range List.range.loop onF isU8 rowOf
end Go.Proofs.YtjinjfblilacaaaGreat.Den
end
section
set_option linter.unusedSimpArgs false
set_option linter.unusedVariables false
set_option maxRecDepth 100000
namespace Go.Proofs.YtjinjfblilacaaaGreat.Den
open Go.RowKit
attribute [local simp] runList aop abuiltin acall awanted ayielded env T0 tput tset Ran aload astore setMany upd binV aslice aindexAddr apart aindex alen acopy srcCells natOf boundOf aeq AV.nilEq convV appK fillA List.range List.range.loop onF isU8 rowOf
end Go.Proofs.YtjinjfblilacaaaGreat.Den
end
