/- A symbolic executor: its calls are calls of the model. -/
import Derived.Test.YtjinjfblilacaaaGreatKDenR
import Derived.Test.YtjinjfblilacaaaGreatKCdA
set_option linter.unusedVariables false
set_option linter.unusedSimpArgs false
section
set_option linter.unusedSimpArgs false
namespace Go.Proofs.YtjinjfblilacaaaGreat.Den
variable {P : Program} {ρ : Vals}
/-- A call at the end of another function. -/
def SimD (P : Program) (f : FuncId) (args : List AV) (nm : Name) (H : AHeap) (r : AV) (H' : AHeap) : Prop :=
  ∀ (σ : Sig) (I : Imm) (w : World) (vs : Array Value), Fresh nm σ -> VRels σ I args vs.toList -> ARel σ I H w ->
    CallsD P f vs .returning w fun e u w' => u = .returning /\ ∃ v σ' I', e = .returned v /\ Step (Under nm) σ I H w σ' I' H' w' /\ VRel σ' I' r v
def SDefOK (P : Program) (ρ : Vals) (sc : SCall) : Prop :=
  ∀ f args h r h', sc f args h = some (r, h') -> isGo P f = true /\ ∀ (ν : Nat -> Option Name) (H : AHeap) (nm : Name) (xs : List AV), MRel ρ ν h H -> Fre ν nm -> SRels ρ ν args xs -> ∃ z H', SimD P f xs nm H z H' /\ Out ρ ν nm r h' z H'
theorem sargs_get : ∀ (l : List SV) (k : Nat) (T : Tr SV) (t : Nat), k + l.length < 2 ^ 59 -> (sargs k l T).get t = if k <= t /\ t < k + l.length then l[t - k]? else T.get t := by
  intro l
  induction l with
  | nil => intro k T t _; simp only [sargs, List.length_nil]; rw [if_neg (by omega)]
  | cons x l ih =>
    intro k T t hk
    rw [List.length_cons] at hk ⊢
    simp only [sargs]
    rw [ih (k + 1) _ t (by omega), put_get T k x t (by
      have : (2 : Nat) ^ 59 <= 2 ^ 60 := by decide
      omega)]
    by_cases h1 : k + 1 <= t /\ t < k + 1 + l.length
    · rw [if_pos h1, if_pos (by omega)]
      have : t - k = t - (k + 1) + 1 := by omega
      rw [this]; rfl
    · rw [if_neg h1]
      by_cases h2 : t = k
      · subst h2; rw [if_pos rfl, if_pos (by omega)]; simp
      · rw [if_neg h2, if_neg (by omega)]
theorem sargs_T0 {ν : Nat -> Option Name} {l : List SV} {xs : List AV} (h : SRels ρ ν l xs) (hl : l.length < 1000000) : TRel ρ ν (sargs 0 l .nil) (T0 xs) := by
  intro t
  rw [sargs_get l 0 .nil t (Nat.lt_trans (by simpa using hl) (by decide))]
  have hlen := h.length
  by_cases ht : t < l.length
  · rw [if_pos (by omega)]
    obtain ⟨x, h1, h2⟩ := h.get (List.getElem?_eq_getElem ht)
    simp only [Nat.sub_zero, List.getElem?_eq_getElem ht, Option.getD_some, T0, h1]
    exact h2
  · rw [if_neg (by omega)]
    simp only [nil_get, T0, List.getElem?_eq_none (by omega : xs.length <= t), Option.getD_none]
    exact .val _
theorem sres_ok {ν : Nat -> Option Name} {T : Tr SV} {Ta : Temps} (ht : TRel ρ ν T Ta) {h : Mem} {H : AHeap} (hm : MRows ρ ν h H) : ∀ (rs : List ResultVar) (l : List SV), sres P T h rs = some l -> ∃ xs, ares P Ta H rs = some xs /\ SRels ρ ν l xs
  | [], l, hr => by simp [sres] at hr; subst hr; exact ⟨[], rfl, .nil⟩
  | .tmp t :: rs, l, hr => by
    simp only [sres, Option.map_eq_some_iff] at hr
    obtain ⟨l', h1, rfl⟩ := hr
    obtain ⟨xs, h2, h3⟩ := sres_ok ht hm rs l' h1
    exact ⟨Ta t :: xs, by simp only [ares, h2, Option.map_some], .cons (ht t) h3⟩
  | .cell a t :: rs, l, hr => by
    simp only [sres, Option.bind_eq_some_iff, Option.map_eq_some_iff] at hr
    obtain ⟨x, h0, l', h1, rfl⟩ := hr
    obtain ⟨xs, h2, h3⟩ := sres_ok ht hm rs l' h1
    obtain ⟨y, h4, h5⟩ := sload_rel hm (ht a) h0
    exact ⟨y :: xs, by simp only [ares, h4, h2, Option.bind_some, Option.map_some], .cons h5 h3⟩
theorem sres1_rel {ν : Nat -> Option Name} {l : List SV} {xs : List AV} (h : SRels ρ ν l xs) : SRel ρ ν (sres1 l) (ares1 xs) := by
  cases h with
  | nil => exact .tup .nil
  | cons h t =>
    cases t with
    | nil => exact h
    | cons h' t => exact .tup (.cons h (.cons h' t))
section
variable {Γ : List Fact} {sc : SCall}
theorem start_st {nm : Name} {n : Nat} {xs : List AV} {H : AHeap} {σ : Sig} {I : Imm} {w : World} {vs : Array Value} (hn : xs.length <= n) (hfr : Fresh nm σ) (hv : VRels σ I xs vs.toList) (hr : ARel σ I H w) :
    StD nm n ⟨0, T0 xs, H, []⟩ σ I { tmps := vs ++ Array.replicate (n - vs.size) undef, defers := [] } w := by
  have hlen : xs.length = vs.size := by simpa using hv.length
  refine ⟨⟨?_, ?_, rfl, hr, ?_⟩, .nil⟩
  · intro i
    by_cases hi : i < vs.size
    · have h1 : (vs ++ Array.replicate (n - vs.size) undef).getD i undef = vs[i] := by
        simp [Array.getD_eq_getD_getElem?, Array.getElem?_append_left hi, hi]
      rw [h1]
      obtain ⟨v, h2, h3⟩ := hv.get (List.getElem?_eq_getElem (by omega : i < xs.length))
      have h4 : vs[i] = v := by
        have : vs[i]? = some v := by simpa using h2
        rw [Array.getElem?_eq_getElem hi] at this
        exact Option.some.inj this
      rw [h4]
      simpa [T0, List.getElem?_eq_getElem (by omega : i < xs.length)] using h3
    · have h1 : (vs ++ Array.replicate (n - vs.size) undef).getD i undef = undef := by
        rw [Array.getD_eq_getD_getElem?, Array.getElem?_append_right (by omega)]
        by_cases h2 : i - vs.size < n - vs.size
        · simp [h2]
        · simp [h2]
      rw [h1]
      have h2 : T0 xs i = .val undef := by simp [T0, List.getElem?_eq_none (by omega : xs.length <= i)]
      show VRel σ I (T0 xs i) undef
      rw [h2]
      exact .val _
  · simp; omega
  · intro j s _
    have := hfr (s ++ [j])
    simpa using this
theorem sbody_ok (hF : FOk ρ Γ) (hsc : SCallOK P ρ sc) {F : Nat} {f : FuncId} {args : List SV} {h h' : Mem} {fn : Func} {T' : Tr SV} {D' : SLate} (hr : sbody Γ P F sc f args h = some (fn, T', h', D')) :
    isGo P f = true /\ P.funcs[f]? = some fn /\ ∃ code, fn.body = some code /\ ∀ (ν : Nat -> Option Name) (H : AHeap) (nm : Name) (xs : List AV), MRel ρ ν h H -> Fre ν nm -> SRels ρ ν args xs ->
      ∃ ν' s' e, (e = .normal \/ e = .ret) /\ NStep nm ν ν' /\ SAt ρ nm T' h' D' ν' s' /\ ∀ (σ : Sig) (I : Imm) (w : World) (vs : Array Value) (Q : Exit -> Act -> World -> Prop), Fresh nm σ -> VRels σ I xs vs.toList -> ARel σ I H w ->
        (∀ σ' I' a' w', Step (Under nm) σ I H w σ' I' s'.H w' -> StD nm fn.ntmps s' σ' I' a' w' -> Q e a' w') -> code.wp P Q { tmps := vs ++ Array.replicate (fn.ntmps - vs.size) undef, defers := [] } w := by
  unfold sbody at hr
  cases hf : P.funcs[f]? with
  | none => rw [hf] at hr; cases hr
  | some fn' =>
    rw [hf] at hr
    simp only at hr
    cases hb : fn'.body with
    | none => rw [hb] at hr; cases hr
    | some code =>
      rw [hb] at hr
      simp only at hr
      cases hc : (isGo P f && Nat.ble args.length fn'.ntmps && Nat.blt fn'.ntmps 1000000) with
      | false => rw [hc] at hr; cases hr
      | true =>
        rw [hc] at hr
        simp only [cond_true] at hr
        simp only [Bool.and_eq_true] at hc
        obtain ⟨⟨hgo, ha⟩, hn⟩ := hc
        have ha := Nat.le_of_ble_eq_true ha
        have hn := blt_lt hn
        have key : ∃ e, (e = .normal \/ e = .ret) /\ fn' = fn /\ srun Γ P sc fn'.ntmps F code (sargs 0 args .nil) h [] = some (e, T', h', D') := by
          split at hr
          · rename_i T1 h1 D1 hs
            simp only [Option.some.injEq, Prod.mk.injEq] at hr
            obtain ⟨rfl, rfl, rfl, rfl⟩ := hr
            exact ⟨_, .inl rfl, rfl, hs⟩
          · rename_i T1 h1 D1 hs
            simp only [Option.some.injEq, Prod.mk.injEq] at hr
            obtain ⟨rfl, rfl, rfl, rfl⟩ := hr
            exact ⟨_, .inr rfl, rfl, hs⟩
          · cases hr
        obtain ⟨e, he, rfl, hs⟩ := key
        refine ⟨hgo, rfl, code, hb, fun ν H nm xs hm hfre hargs => ?_⟩
        have hfr0 : FreFrom ν nm 0 := fun i _ m s hs => hfre m (s ++ [i]) (by simpa using hs)
        obtain ⟨ν', s', g1, g2, g3⟩ := srun_ok hF hsc hn F code _ h [] e T' h' D' hs nm ν ⟨0, T0 xs, H, []⟩ ⟨sargs_T0 hargs (by omega), hm, hfr0, .nil⟩
        refine ⟨ν', s', e, he, g1, g2, fun σ I w vs Q hfr hv hr hk => ?_⟩
        exact g3 σ I _ w Q (start_st (by rw [<- hargs.length]; exact ha) hfr hv hr) hk
theorem LRel.nil_inv {ν : Nat -> Option Name} {L : List ALate} (h : LRel ρ ν [] L) : L = [] := by cases h; rfl
theorem DRel.nil_inv {σ : Sig} {I : Imm} {ds : List Deferred} (h : DRel σ I [] ds) : ds = [] := by cases h; rfl
theorem sdef_ok (hF : FOk ρ Γ) (hsc : SCallOK P ρ sc) {F : Nat} : SDefOK P ρ (sdef Γ P F sc) := by
  intro f args h r h' hr
  unfold sdef at hr
  split at hr
  · rename_i fn T' h₁ hb
    obtain ⟨hgo, hf, code, hbody, hrun⟩ := sbody_ok hF hsc hb
    simp only [Option.map_eq_some_iff, Prod.mk.injEq] at hr
    obtain ⟨l, h1, rfl, rfl⟩ := hr
    refine ⟨hgo, fun ν H nm xs hm hfre hargs => ?_⟩
    obtain ⟨ν', s', e, he, g1, g2, g3⟩ := hrun ν H nm xs hm hfre hargs
    obtain ⟨ys, h2, h3⟩ := sres_ok g2.tr g2.mem.rows _ _ h1
    refine ⟨ares1 ys, s'.H, ?_, ν', g1.nu, g1.new, g2.mem, sres1_rel h3⟩
    intro σ I w vs hfr hv hr
    refine callsD_of_wp hf hbody (R := fun e w' => ∃ v σ' I', e = .returned v /\ Step (Under nm) σ I H w σ' I' s'.H w' /\ VRel σ' I' (ares1 ys) v) (g3 σ I w vs _ hfr hv hr ?_)
    intro σ' I' a' w' hst st'
    have hds : a'.defers = [] := (g2.late.nil_inv ▸ st'.late).nil_inv
    obtain ⟨v, h4, h5⟩ := results_run st'.st.tr st'.st.rel h2
    rcases he with rfl | rfl
    · exact ⟨hds, v, h4, v, σ', I', rfl, hst, h5⟩
    · exact ⟨hds, v, h4, v, σ', I', rfl, hst, h5⟩
  · cases hr
theorem isGo_call {f : FuncId} (hgo : isGo P f = true) (args : Array Value) (w : World) : (callFunc f args).run P w = .ok (.enter f args) w := by
  unfold isGo at hgo
  split at hgo
  · rename_i fn hfn
    simp only [Bool.and_eq_true, Bool.not_eq_true'] at hgo
    have hbn : fn.body.isNone = false := by cases e : fn.body <;> simp_all
    have hname : ¬ fn.name = "runtime.NumGoroutine" := by simpa using hgo.2
    simp [callFunc, hfn, hname]
    intro hnone
    rw [hnone] at hbn; cases hbn
  · cases hgo
theorem slast_ok {sd : SCall} (hsd : SDefOK P ρ sd) {fn : Func} {T : Tr SV} {Ta : Temps} {nm : Name} {h' : Mem} {l : List SV} : ∀ (D : SLate) (h : Mem) (ν : Nat -> Option Name) (c : Nat) (H : AHeap) (L : List ALate), slast sd D h = some h' -> TRel ρ ν T Ta -> MRel ρ ν h H -> FreFrom ν nm c -> LRel ρ ν D L -> sres P T h' fn.results.toList = some l ->
    ∃ ν' H' xs, NStep nm ν ν' /\ MRel ρ ν' h' H' /\ SRels ρ ν' l xs /\ ∀ (σ : Sig) (I : Imm) (tmps : Array Value) (ds : List Deferred) (w : World) (R : Ending -> World -> Prop), (∀ i, VRel σ I (Ta i) (tmps.getD i undef)) -> ARel σ I H w -> FreshFrom nm c σ -> DRel σ I L ds ->
      (∀ σ' I' v w', Step (Under nm) σ I H w σ' I' H' w' -> VRel σ' I' (ares1 xs) v -> R (.returned v) w') -> Leaves P fn tmps R ds .returning w := by
  intro D
  induction D with
  | nil =>
    intro h ν c H L hs ht hm hf hL hr
    simp only [slast, Option.some.injEq] at hs
    subst hs
    cases hL
    obtain ⟨xs, h1, h2⟩ := sres_ok ht hm.rows _ _ hr
    refine ⟨ν, H, xs, .refl nm ν, hm, h2, fun σ I tmps ds w R htm hrel hfr hd hk => ?_⟩
    cases hd
    obtain ⟨v, h4, h5⟩ := results_run htm hrel h1
    exact ⟨v, h4, hk σ I v w (Step.refl _ hrel) h5⟩
  | cons d D ih =>
    intro h ν c H L hs ht hm hf hL hr
    cases hL with
    | @cons fn' a b args a' b' args' _ L i1 i2 i3 it =>
      simp only [slast] at hs
      split at hs
      · rename_i f a0 b0 hq
        injection hq with q1 q2 q3
        subst q1 q2 q3
        split at hs
        · rename_i r h₁ hc
          obtain ⟨hgo, hsim⟩ := hsd _ _ _ _ _ hc
          obtain ⟨z, H₁, j1, ν₁, n1, n2, n3, n4⟩ := hsim ν H (c :: nm) _ hm (hf c (Nat.le_refl _)) ((i1.append i3).append i2)
          obtain ⟨ν', H', xs, g1, g2, g3, g4⟩ := ih h₁ ν₁ (c + 1) H₁ L hs (ht.mono n1) n3 (hf.after n2) (it.mono n1) hr
          refine ⟨ν', H', xs, NStep.trans ⟨n1, fun n m h => (n2 n m h).imp id under_cons⟩ g1, g2, g3, fun σ I tmps ds w R htm hrel hfr hd hk => ?_⟩
          cases hd with
          | @cons _ _ _ _ va vb vs _ ds k1 k2 k3 kt =>
            refine leaves_cons (by intro e; cases e) (f := f) (args := (va ++ vs) ++ vb) (by simp only [invoke]; exact isGo_call hgo _ w) ?_
            refine (j1 σ I w _ (hfr.here c (Nat.le_refl _)) ?_ hrel).mono ?_
            · simp only [Array.toList_append]
              exact (k1.append k3).append k2
            · rintro e u w' ⟨rfl, v, σ₁, I₁, rfl, hst, hv⟩
              show Leaves P fn tmps R ds .returning w'
              refine g4 σ₁ I₁ tmps ds w' R (fun i => (htm i).mono hst.sig hst.imm) hst.rel (hfr.step hst) (kt.mono hst.sig hst.imm) ?_
              intro σ' I' v w'' hst' hv'
              exact hk σ' I' v w'' ((hst.weaken fun _ => under_cons).trans hst') hv'
        · cases hs
      · cases hs
/-- What stands for a function must do what it does. -/
def OvrOK (P : Program) (ρ : Vals) (ovr : FuncId -> Option (List SV -> Mem -> SRes)) : Prop :=
  ∀ f g, ovr f = some g -> ∀ args h r h', g args h = some (r, h') -> isGo P f = true /\ ∀ (ν : Nat -> Option Name) (H : AHeap) (nm : Name) (xs : List AV), MRel ρ ν h H -> Fre ν nm -> SRels ρ ν args xs -> ∃ z H', Sim P f xs nm H z H' /\ Out ρ ν nm r h' z H'
theorem scall_ok (hF : FOk ρ Γ) {F : Nat} {ovr : FuncId -> Option (List SV -> Mem -> SRes)} (ho : OvrOK P ρ ovr) : ∀ d, SCallOK P ρ (scall Γ P F ovr d) := by
  intro d
  induction d with
  | zero => intro f args h r h' hr; cases hr
  | succ d ih =>
    intro f args h r h' hr
    simp only [scall] at hr
    split at hr
    · rename_i g hg
      exact ho f g hg args h r h' hr
    · split at hr
      · rename_i fn T' h₁ D' hb
        obtain ⟨hgo, hf, code, hbody, hrun⟩ := sbody_ok hF ih hb
        simp only [Option.bind_eq_some_iff, Option.map_eq_some_iff, Prod.mk.injEq] at hr
        obtain ⟨h₂, h1, l, h2, rfl, rfl⟩ := hr
        refine ⟨hgo, fun ν H nm xs hm hfre hargs => ?_⟩
        obtain ⟨ν₁, s₁, e, he, g1, g2, g3⟩ := hrun ν H nm xs hm hfre hargs
        obtain ⟨ν', H', ys, k1, k2, k3, k4⟩ := slast_ok (sdef_ok hF ih) (fn := fn) D' h₁ ν₁ s₁.c s₁.H s₁.L h1 g2.tr g2.mem g2.fre g2.late h2
        refine ⟨ares1 ys, H', ?_, ν', (g1.trans k1).nu, (g1.trans k1).new, k2, sres1_rel k3⟩
        intro σ I w vs hfr hv hr
        refine calls_of_wp_defers hf hbody (g3 σ I w vs _ hfr hv hr ?_)
        intro σ' I' a' w' hst st'
        have hl := k4 σ' I' a'.tmps a'.defers w' (fun e w' => ∃ v σ' I', e = .returned v /\ Step (Under nm) σ I H w σ' I' H' w' /\ VRel σ' I' (ares1 ys) v) st'.st.tr st'.st.rel st'.st.fresh st'.late (fun σ₂ I₂ v w₂ hst₂ hv₂ => ⟨v, σ₂, I₂, rfl, hst.trans hst₂, hv₂⟩)
        rcases he with rfl | rfl
        · exact hl
        · exact hl
      · cases hr
end
end Go.Proofs.YtjinjfblilacaaaGreat.Den
end
section
namespace Go.Proofs.YtjinjfblilacaaaGreat.Den
def shaK : List Nat := [
  0x428a2f98, 0x71374491, 0xb5c0fbcf, 0xe9b5dba5, 0x3956c25b, 0x59f111f1, 0x923f82a4, 0xab1c5ed5,
  0xd807aa98, 0x12835b01, 0x243185be, 0x550c7dc3, 0x72be5d74, 0x80deb1fe, 0x9bdc06a7, 0xc19bf174,
  0xe49b69c1, 0xefbe4786, 0x0fc19dc6, 0x240ca1cc, 0x2de92c6f, 0x4a7484aa, 0x5cb0a9dc, 0x76f988da,
  0x983e5152, 0xa831c66d, 0xb00327c8, 0xbf597fc7, 0xc6e00bf3, 0xd5a79147, 0x06ca6351, 0x14292967,
  0x27b70a85, 0x2e1b2138, 0x4d2c6dfc, 0x53380d13, 0x650a7354, 0x766a0abb, 0x81c2c92e, 0x92722c85,
  0xa2bfe8a1, 0xa81a664b, 0xc24b8b70, 0xc76c51a3, 0xd192e819, 0xd6990624, 0xf40e3585, 0x106aa070,
  0x19a4c116, 0x1e376c08, 0x2748774c, 0x34b0bcb5, 0x391c0cb3, 0x4ed8aa4a, 0x5b9cca4f, 0x682e6ff3,
  0x748f82ee, 0x78a5636f, 0x84c87814, 0x8cc70208, 0x90befffa, 0xa4506ceb, 0xbef9a3f7, 0xc67178f2]
structure W8 where
  (a b c d e f g h : Nat)
def forceL {α : Type} : List Nat -> (List Nat -> α) -> α
  | [], k => k []
  | x :: l, k => forceN x fun x => forceL l fun l => k (x :: l)
end Go.Proofs.YtjinjfblilacaaaGreat.Den
end
section
namespace Go.Proofs.YtjinjfblilacaaaGreat.Den
/-! ### one operation -/
def fpick (a b : Operand) (ρ : SEnv) (h : Mem) : SV -> SRes
  | .bool t => some (bif t then ρ a else ρ b, h)
  | _ => none
def falloc (P : Program) (e : TypeId) (h : Mem) : SRes := (szeros P e).map fun z => (.ptr h.next 0, h.push z)
def fbuild (P : Program) (t : TypeId) (parts : Array (Nat × Operand)) (ρ : SEnv) (h : Mem) : SRes :=
  match szeros P t, P.underlying t with
  | some z, some (.struct fs) => (places P fs.toList).bind fun ps => (sfill (ps[·]?) z (parts.toList.map fun (i, x) => (i, ρ x))).map fun l => (.agg l, h)
  | some z, some (.array _ e) => (szOf P e).bind fun s => (sfill (fun i => some (i * s, s)) z (parts.toList.map fun (i, x) => (i, ρ x))).map fun l => (.agg l, h)
  | _, _ => none
def fbuildSlice (P : Program) (t : TypeId) (len : Nat) (parts : Array (Nat × Operand)) (ρ : SEnv) (h : Mem) : SRes :=
  match P.underlying t with
  | some (.slice e) =>
    match szOf P e, szeros P e with
    | some s, some z =>
      bif Nat.beq z.length s && !Nat.beq s 0 && Nat.ble (len * s) 16777216 then
        (sfill (fun i => some (i * s, s)) (srow z len) (parts.toList.map fun (i, x) => (i, ρ x))).map fun l => (.sl h.next 0 len s, h.push l)
      else none
    | _, _ => none
  | _ => none
def fload (P : Program) (t : TypeId) (a : SV) (h : Mem) : SRes := (sload P t a h).map (·, h)
def fstore (P : Program) (t : TypeId) (a x : SV) (h : Mem) : SRes := (sstore P t a x h).map (.val undef, ·)
def fnil (h : Mem) : SV -> SRes
  | .ptr n off => some (.ptr n off, h)
  | .imp m c off => some (.imp m c off, h)
  | .fn (.func f) a b => some (.fn (.func f) a b, h)
  | _ => none
def fbin (Γ : List Fact) (P : Program) (op : BinOp) (t : TypeId) (x y : Operand) (ρ : SEnv) (h : Mem) : SRes :=
  match op with
  | .eql => (seq Γ P false t x y (ρ x) (ρ y)).map (·, h)
  | .neq => (seq Γ P true t x y (ρ x) (ρ y)).map (·, h)
  | op => (sbin Γ op (ρ x) (ρ y)).map (·, h)
def fnot (h : Mem) : SV -> SRes
  | .bool b => some (.bool !b, h)
  | _ => none
def fneg (h : Mem) : SV -> SRes
  | .int k (.lit n) => forceI (k.wrap (0 - n)) fun z => some (.int k (.lit z), h)
  | _ => none
def fxor (h : Mem) : SV -> SRes
  | .int k (.lit n) => forceI (k.wrap ((BitVec.ofInt k.bits (if k.signed then -1 else k.max) ^^^ BitVec.ofInt k.bits n).toNat)) fun z => some (.int k (.lit z), h)
  | .int k e => some (.int k (.bin .xor k (.lit (if k.signed then -1 else k.max)) e), h)
  | _ => none
def fun1 (op : UnOp) (x : SV) (h : Mem) : SRes :=
  match op with
  | .not => fnot h x
  | .neg => fneg h x
  | .xor => fxor h x
  | _ => none
def fmakeSlice (P : Program) (t : TypeId) (l c : SV) (h : Mem) : SRes :=
  match P.underlying t, sNat l, sNat c with
  | some (.slice e), some l, some c =>
    match szOf P e, szeros P e, bytesOf' P e with
    | some s, some z, some by_ => bif Nat.beq z.length s && !Nat.beq s 0 && Nat.ble l c && Nat.ble c 281474976710656 && Nat.ble (by_ * c) 281474976710656 then some (.sl h.next 0 l s, h.push (srow z c)) else none
    | _, _, _ => none
  | _, _, _ => none
def fsliceP (P : Program) (t : TypeId) (n off : Nat) (lo hi : Option SV) (h : Mem) : SRes :=
  match P.underlying t with
  | some (.array N e) =>
    match sbound 0 lo, sbound N hi, szOf P e with
    | some l, some k, some sz =>
      (h.get n).bind fun row => (sdrop (off + N * sz) row).bind fun _ => bif Nat.ble l k && Nat.ble k N && !Nat.beq sz 0 then (bif Nat.beq l k then some (.im true 0 [], h) else some (.sl n (off + l * sz) (k - l) sz, h)) else none
    | _, _, _ => none
  | _ => none
def fslice (P : Program) (t : TypeId) (x : SV) (lo hi : Option SV) (h : Mem) : SRes :=
  match x with
  | .ptr n off => fsliceP P t n off lo hi h
  | x => (sslice P t x lo hi).map (·, h)
def fsliceO (P : Program) (t : TypeId) (x : Operand) (lo hi mx : Option Operand) (ρ : SEnv) (h : Mem) : SRes :=
  match mx with
  | none => fslice P t (ρ x) (lo.map ρ) (hi.map ρ) h
  | some _ => none
def ffield (P : Program) (t : TypeId) (x : SV) (f : Nat) (h : Mem) : SRes :=
  match P.underlying t, x with
  | some (.struct fs), .agg l => (fs[f]?).bind fun fl => (spart P fl.type l fl.offset).map (·, h)
  | _, _ => none
def fextract (i : Nat) (h : Mem) : SV -> SRes
  | .tup l => (l[i]?).map (·, h)
  | _ => none
def fcallV (call : SCall) (args : List SV) (h : Mem) : SV -> SRes
  | .fn (.func f) first captured => call f (first ++ args ++ captured) h
  | _ => none
def fcall (P : Program) (call : SCall) (c : Call) (ρ : SEnv) (h : Mem) : SRes :=
  match c.callee with
  | .builtin b => sbuiltin P b c.argTypes (c.args.toList.map ρ) h
  | .value f => fcallV call (c.args.toList.map ρ) h (ρ f)
  | .invoke _ _ => none
def fop (Γ : List Fact) (P : Program) (call : SCall) (o : Op) (ρ : SEnv) (h : Mem) : SRes :=
  match o with
  | .move x | .assign x => some (ρ x, h)
  | .pick c a b => fpick a b ρ h (ρ c)
  | .alloc e => falloc P e h
  | .box _ x => some (.ptr h.next 0, h.push (ρ x).cells)
  | .build t parts => fbuild P t parts ρ h
  | .buildSlice t len parts => fbuildSlice P t len parts ρ h
  | .load t a => fload P t (ρ a) h
  | .store t a x => fstore P t (ρ a) (ρ x) h
  | .nilCheck x => fnil h (ρ x)
  | .binOp op t x y _ => fbin Γ P op t x y ρ h
  | .unOp op _ x => fun1 op (ρ x) h
  | .convert src dst x => sconv P src dst (ρ x) h
  | .makeFunc fn first captured => some (.fn fn (first.toList.map ρ) (captured.toList.map ρ), h)
  | .makeSlice t l c => fmakeSlice P t (ρ l) (ρ c) h
  | .slice t x lo hi mx => fsliceO P t x lo hi mx ρ h
  | .fieldAddr s x f => (sfieldAddr P s (ρ x) f).map (·, h)
  | .field t x f => ffield P t (ρ x) f h
  | .indexAddr t x i => (sindexAddr P t (ρ x) (ρ i)).map (·, h)
  | .index t x i => (sindex P t (ρ x) (ρ i)).map (·, h)
  | .extract x i => fextract i h (ρ x)
  | .call c => fcall P call c ρ h
  | _ => none
theorem fop_eq (Γ : List Fact) (P : Program) (call : SCall) (o : Oper) (ρ : SEnv) (h : Mem) : fop Γ P call o.op ρ h = sop Γ P call o ρ h := by
  obtain ⟨dst, op, ty, pos, after, guard⟩ := o
  cases op with
  | binOp op t x y t2 => cases op <;> rfl
  | unOp op t x => cases op <;> rfl
  | slice t x lo hi mx =>
    cases mx with
    | none =>
      simp only [fop, fsliceO, fslice, sop, fsliceP]
      cases ρ x <;> rfl
    | some m => rfl
  | _ => first | rfl | (simp only [fop, sop, fpick, fnil, fextract, fcall, fcallV]; (try split) <;> rfl)
/-! ### regions -/
def fwant (ops : Array Oper) (T : Tr SV) (j : Nat) (want : Bool) : Option Bool :=
  match (ops[j]?).bind (·.dst) with
  | some d =>
    match (T.get d).getD (.val undef) with
    | .bool b => some (b == want)
    | .val (.tuple _) => some false
    | _ => none
  | none => some false
def fwanted (ops : Array Oper) (T : Tr SV) : Option (Nat × Bool) -> Option Bool
  | none => some true
  | some (j, want) => fwant ops T j want
def isDef : Op -> Bool
  | .defer _ => true
  | _ => false
abbrev RRes := Option (Tr SV × Mem × SLate)
abbrev RK := Tr SV -> Mem -> SLate -> RRes
def fdefer2 (k : RK) (T : Tr SV) (h : Mem) (D : SLate) (args : List SV) : SV -> RRes
  | .fn fn a b => k T h ((.fn fn a b, args) :: D)
  | _ => none
def fdefer (k : RK) (o : Oper) (T : Tr SV) (h : Mem) (D : SLate) : Op -> RRes
  | .defer c =>
    match c.callee, o.guard, o.dst with
    | .value f, none, none => fdefer2 k T h D (c.args.toList.map (senv T)) (senv T f)
    | _, _, _ => none
  | _ => none
def frun1 (k : RK) (dst : Option Tmp) (T : Tr SV) (D : SLate) : SRes -> RRes
  | some (v, h') => k (sput T dst v) h' D
  | none => none
def frun2 (Γ : List Fact) (P : Program) (call : SCall) (k : RK) (o : Oper) (T : Tr SV) (h : Mem) (D : SLate) : Option Bool -> RRes
  | some true => frun1 k o.dst T D (fop Γ P call o.op (senv T) h)
  | some false => k (sput T o.dst (.val undef)) h D
  | none => none
def fstep (Γ : List Fact) (P : Program) (call : SCall) (ops : Array Oper) (o : Oper) (k : RK) (T : Tr SV) (h : Mem) (D : SLate) : RRes :=
  bif isDef o.op then fdefer k o T h D o.op else frun2 Γ P call k o T h D (fwanted ops T o.guard)
def fregion (Γ : List Fact) (P : Program) (call : SCall) (ops : Array Oper) (l : List Oper) : RK :=
  match l with
  | [] => fun T h D => some (T, h, D)
  | o :: r => fstep Γ P call ops o (fregion Γ P call ops r)
theorem fwanted_eq (ops : Array Oper) (T : Tr SV) (o : Oper) : fwanted ops T o.guard = swanted ops o T := by
  unfold swanted fwanted
  split <;> rename_i h
  · rw [h]
  · rw [h]; rfl
theorem fregion_eq (Γ : List Fact) (P : Program) (call : SCall) (ops : Array Oper) : ∀ (l : List Oper) (T : Tr SV) (h : Mem) (D : SLate), fregion Γ P call ops l T h D = sregion Γ P call ops l T h D := by
  intro l
  induction l with
  | nil => intro T h D; rfl
  | cons o r ih =>
    intro T h D
    have hk : fregion Γ P call ops r = sregion Γ P call ops r := by funext T h D; exact ih T h D
    simp only [fregion, fstep, hk, fwanted_eq, sregion]
    cases ho : o.op with
    | defer c =>
      simp only [isDef, cond_true, fdefer]
      cases c.callee with
      | value f =>
        cases o.guard with
        | none =>
          cases o.dst with
          | none => simp only [fdefer2]; cases senv T f <;> rfl
          | some d => rfl
        | some g => rfl
      | _ => rfl
    | _ =>
      simp only [isDef, cond_false, frun2]
      cases swanted ops o T with
      | none => rfl
      | some b =>
        cases b with
        | false => rfl
        | true =>
          simp only [fop_eq, frun1]
          cases sop Γ P call o (senv T) h <;> rfl
abbrev WRes := Option (Tr SV × Mem)
abbrev WK := Tr SV -> List (Nat × Mem) -> Mem -> WRes
def fdraw2 (P : Program) (o : Oper) (x : Item) (Hs : List (Nat × Mem)) (k1 : Nat) (k : WK) (T : Tr SV) : SRes -> WRes
  | some (v, h') => bif schk P o (senv T) v Hs x.chk then k (sput T o.dst v) (bif x.e then (k1, h') :: Hs else Hs) h' else none
  | none => none
def fdraw1 (Γ : List Fact) (P : Program) (call : SCall) (o : Oper) (x : Item) (k1 : Nat) (k : WK) (T : Tr SV) (Hs : List (Nat × Mem)) (h : Mem) : Option Bool -> WRes
  | some true => fdraw2 P o x Hs k1 k T (fop Γ P call o.op (senv T) h)
  | some false => k (sput T o.dst (.val undef)) (bif x.e then (k1, h) :: Hs else Hs) h
  | none => none
def fdraw0 (Γ : List Fact) (P : Program) (call : SCall) (ops : Array Oper) (x : Item) (k1 : Nat) (k : WK) (T : Tr SV) (Hs : List (Nat × Mem)) (h : Mem) : Option Oper -> WRes
  | some o => fdraw1 Γ P call o x k1 k T Hs h (fwanted ops T o.guard)
  | none => none
def fdraw (Γ : List Fact) (P : Program) (call : SCall) (ops : Array Oper) (l : List Item) : Nat -> WK :=
  match l with
  | [] => fun _ T _ h => some (T, h)
  | x :: r => fun k T Hs h => fdraw0 Γ P call ops x (k + 1) (fdraw Γ P call ops r (k + 1)) T Hs h ops[x.i]?
theorem fdraw_eq (Γ : List Fact) (P : Program) (call : SCall) (ops : Array Oper) : ∀ (l : List Item) (k : Nat) (T : Tr SV) (Hs : List (Nat × Mem)) (h : Mem), fdraw Γ P call ops l k T Hs h = sdraw Γ P call ops k l T Hs h := by
  intro l
  induction l with
  | nil => intro k T Hs h; rfl
  | cons x r ih =>
    intro k T Hs h
    simp only [fdraw, sdraw]
    cases ops[x.i]? with
    | none => rfl
    | some o =>
      simp only [fdraw0, fwanted_eq]
      cases swanted ops o T with
      | none => rfl
      | some b =>
        cases b with
        | false => simp only [fdraw1, ih]
        | true =>
          simp only [fdraw1, fop_eq]
          cases sop Γ P call o (senv T) h with
          | none => rfl
          | some vh => simp only [fdraw2, ih]
/-! ### code -/
abbrev CK := Code -> Tr SV -> Mem -> SLate -> CRes
def fregN (D : SLate) : WRes -> CRes
  | some (T, h) => some (.normal, T, h, D)
  | none => none
def fregR : RRes -> CRes
  | some (T, h, D) => some (.normal, T, h, D)
  | none => none
def fregD (Γ : List Fact) (P : Program) (call : SCall) (ops : Array Oper) (T : Tr SV) (h : Mem) (D : SLate) (p : List Nat × List Item) : CRes :=
  bif P.follows .mixedOrders && planOK ops p.1 p.2 then fregN D (fdraw Γ P call ops p.2 0 T [(0, h)] h) else none
def freg (Γ : List Fact) (P : Program) (call : SCall) (n : Nat) (ops : Array Oper) (d : Bool) (T : Tr SV) (h : Mem) (D : SLate) : CRes :=
  bif dstOk n ops then (bif d then fregD Γ P call ops T h D (mkPlan ops) else fregR (fregion Γ P call ops ops.toList T h D)) else none
def fthen (k : Tr SV -> Mem -> SLate -> CRes) : CRes -> CRes
  | some (.normal, T, h, D) => k T h D
  | r => r
def fcond (y z : Code) (k : CK) (T : Tr SV) (h : Mem) (D : SLate) : SV -> CRes
  | .bool b => bif b then k y T h D else k z T h D
  | _ => none
def fblock (id : Nat) : CRes -> CRes
  | some (.exit id', T, h, D) => bif Nat.beq id' id then some (.normal, T, h, D) else some (.exit id', T, h, D)
  | r => r
def fscope1 (k : CK) (l f : Nat) (T : Tr SV) (h : Mem) (D : SLate) : Option Code -> CRes
  | some rest => sjumps (k rest) l f (some (.goto l, T, h, D))
  | none => none
def fscope (x : Code) (k : CK) (f : Nat) : CRes -> CRes
  | some (.goto l, T, h, D) => fscope1 k l f T h D (findLabel x l)
  | r => r
def fnode (Γ : List Fact) (P : Program) (call : SCall) (n f : Nat) (k : CK) (c : Code) (T : Tr SV) (h : Mem) (D : SLate) : CRes :=
  match c with
  | .skip => some (.normal, T, h, D)
  | .label _ => some (.normal, T, h, D)
  | .exit id => some (.exit id, T, h, D)
  | .goto l => some (.goto l, T, h, D)
  | .ret => some (.ret, T, h, D)
  | .region _ ops d => freg Γ P call n ops d T h D
  | .seq x y => fthen (k y) (k x T h D)
  | .cond x y z => fcond y z k T h D (senv T x)
  | .block id x => fblock id (k x T h D)
  | .loop x => fthen (k (.loop x)) (k x T h D)
  | .scope x => fscope x k f (k x T h D)
  | _ => none
noncomputable def frun (Γ : List Fact) (P : Program) (call : SCall) (n f : Nat) : CK := Nat.rec (motive := fun _ => CK) (fun _ _ _ _ => none) (fun f k => fnode Γ P call n f k) f
theorem frun_eq (Γ : List Fact) (P : Program) (call : SCall) (n : Nat) : ∀ f, frun Γ P call n f = srun Γ P call n f := by
  intro f
  induction f with
  | zero => funext c T h D; cases c <;> rfl
  | succ f ih =>
    funext c T h D
    show fnode Γ P call n f (frun Γ P call n f) c T h D = _
    rw [ih]
    cases c with
    | region id ops d =>
      simp only [fnode, freg, srun]
      cases dstOk n ops with
      | false => rfl
      | true =>
        cases d with
        | true =>
          simp only [cond_true, fregD, fdraw_eq]
          cases (P.follows Departure.mixedOrders && planOK ops (mkPlan ops).1 (mkPlan ops).2) with
          | false => rfl
          | true => simp only [cond_true]; cases sdraw Γ P call ops 0 (mkPlan ops).2 T [(0, h)] h <;> rfl
        | false =>
          simp only [cond_true, cond_false, fregion_eq]
          cases sregion Γ P call ops ops.toList T h D <;> rfl
    | cond x y z => simp only [fnode, srun]; cases senv T x <;> rfl
    | _ => rfl
/-! ### functions -/
def fbody2 (fn : Func) : CRes -> Option (Func × Tr SV × Mem × SLate)
  | some (.normal, T, h', D) => some (fn, T, h', D)
  | some (.ret, T, h', D) => some (fn, T, h', D)
  | _ => none
noncomputable def fbody1 (Γ : List Fact) (P : Program) (F : Nat) (call : SCall) (f : FuncId) (args : List SV) (h : Mem) (fn : Func) : Option Code -> Option (Func × Tr SV × Mem × SLate)
  | some code => bif isGo P f && Nat.ble args.length fn.ntmps && Nat.blt fn.ntmps 1000000 then fbody2 fn (frun Γ P call fn.ntmps F code (sargs 0 args .nil) h []) else none
  | none => none
noncomputable def fbody (Γ : List Fact) (P : Program) (F : Nat) (call : SCall) (f : FuncId) (args : List SV) (h : Mem) : Option Func -> Option (Func × Tr SV × Mem × SLate)
  | some fn => fbody1 Γ P F call f args h fn fn.body
  | none => none
theorem fbody_eq (Γ : List Fact) (P : Program) (F : Nat) (call : SCall) (f : FuncId) (args : List SV) (h : Mem) : fbody Γ P F call f args h P.funcs[f]? = sbody Γ P F call f args h := by
  unfold sbody
  cases P.funcs[f]? with
  | none => rfl
  | some fn =>
    simp only [fbody]
    cases fn.body with
    | none => rfl
    | some code =>
      simp only [fbody1, frun_eq]
      cases (isGo P f && Nat.ble args.length fn.ntmps && Nat.blt fn.ntmps 1000000) with
      | false => rfl
      | true =>
        simp only [cond_true]
        unfold fbody2
        rfl
def ffin (h : Mem) : Option (List SV) -> SRes
  | some l => some (sres1 l, h)
  | none => none
def fend (P : Program) (fn : Func) (T : Tr SV) : Option Mem -> SRes
  | some h => ffin h (sres P T h fn.results.toList)
  | none => none
def fcallE (P : Program) (call : SCall) : Option (Func × Tr SV × Mem × SLate) -> SRes
  | some (fn, T, h', D) => fend P fn T (slast call D h')
  | none => none
noncomputable def fcall1 (Γ : List Fact) (P : Program) (F : Nat) (call : SCall) (f : FuncId) (args : List SV) (h : Mem) : Option (List SV -> Mem -> SRes) -> SRes
  | some g => g args h
  | none => fcallE P (sdef Γ P F call) (fbody Γ P F call f args h P.funcs[f]?)
noncomputable def fscall (Γ : List Fact) (P : Program) (F : Nat) (ovr : FuncId -> Option (List SV -> Mem -> SRes)) (d : Nat) : SCall :=
  Nat.rec (motive := fun _ => SCall) (fun _ _ _ => none) (fun _ call f args h => fcall1 Γ P F call f args h (ovr f)) d
theorem fscall_eq (Γ : List Fact) (P : Program) (F : Nat) (ovr : FuncId -> Option (List SV -> Mem -> SRes)) : ∀ d, fscall Γ P F ovr d = scall Γ P F ovr d := by
  intro d
  induction d with
  | zero => rfl
  | succ d ih =>
    funext f args h
    show fcall1 Γ P F (fscall Γ P F ovr d) f args h (ovr f) = _
    rw [ih]
    simp only [scall]
    cases ovr f with
    | some g => rfl
    | none =>
      simp only [fcall1, fbody_eq]
      cases sbody Γ P F (scall Γ P F ovr d) f args h with
      | none => rfl
      | some x =>
        obtain ⟨fn, T, h', D⟩ := x
        simp only [fcallE]
        cases slast (sdef Γ P F (scall Γ P F ovr d)) D h' with
        | none => rfl
        | some h₂ =>
          simp only [fend, Option.bind_some]
          cases sres P T h₂ fn.results.toList <;> rfl
end Go.Proofs.YtjinjfblilacaaaGreat.Den
end
section
set_option linter.unusedVariables false
set_option linter.unusedSimpArgs false
namespace Go.Proofs.YtjinjfblilacaaaGreat.Den
/-! ### small things -/
abbrev FT := List Fact -> Program -> SCall -> Tr SV -> Mem -> SRes
noncomputable def gd : Option SV -> SV := @Option.rec SV (fun _ => SV) (.val undef) (fun v => v)
noncomputable def genv : Operand -> Tr SV -> SV := @Operand.rec (fun _ => Tr SV -> SV) (fun t T => gd (Tr.get T t)) (fun v _ => ofConst v) (fun g _ => .val (.pointer (some ⟨g, 0, none⟩))) (fun f _ => .fn (.func f) [] [])
theorem genv_eq (x : Operand) (T : Tr SV) : genv x T = senv T x := by
  cases x with
  | tmp t => simp only [genv, senv]; cases T.get t <;> rfl
  | _ => rfl
noncomputable def gput : Option Tmp -> SV -> Tr SV -> Tr SV := @Option.rec Tmp (fun _ => SV -> Tr SV -> Tr SV) (fun _ T => T) (fun i v T => T.put i v)
theorem gput_eq (d : Option Tmp) (v : SV) (T : Tr SV) : gput d v T = sput T d v := by cases d <;> rfl
noncomputable def nth : Nat -> List SV -> Option SV := @Nat.rec (fun _ => List SV -> Option SV) (@List.rec SV (fun _ => Option SV) none (fun x _ _ => some x)) (fun _ ih l => @List.rec SV (fun _ => (List SV -> Option SV) -> Option SV) (fun _ => none) (fun _ r _ ih => ih r) l ih)
theorem nth_eq : ∀ (n : Nat) (l : List SV), nth n l = l[n]?
  | 0, [] => rfl
  | 0, _ :: _ => rfl
  | n + 1, [] => rfl
  | n + 1, x :: l => by
    show nth n l = _
    rw [nth_eq n l]; simp
noncomputable def lset : Nat -> SV -> List SV -> List SV := @Nat.rec (fun _ => SV -> List SV -> List SV) (fun v l => @List.rec SV (fun _ => SV -> List SV) (fun _ => []) (fun _ r _ v => v :: r) l v) (fun _ ih v l => @List.rec SV (fun _ => (SV -> List SV -> List SV) -> SV -> List SV) (fun _ _ => []) (fun x r _ ih v => x :: ih v r) l ih v)
theorem lset_ok : ∀ (n : Nat) (v : SV) (l : List SV), (nth n l).isSome = true -> sset n [v] l = some (lset n v l)
  | 0, v, [], h => by cases h
  | 0, v, _ :: _, _ => rfl
  | n + 1, v, [], h => by cases h
  | n + 1, v, x :: l, h => by
    have := lset_ok n v l h
    show (sset n [v] l).map (x :: ·) = _
    rw [this]; rfl
noncomputable def gnat : SV -> Option Nat :=
  @SV.rec (fun _ => Option Nat) (fun _ => Unit)
    (fun kk ee => @IE.rec (fun _ => Option Nat) (fun _ => Unit) (fun n => @Int.rec (fun _ => Option Nat) (fun n => some n) (fun _ => none) n) (fun _ => none) (fun _ => none) (fun _ _ _ _ _ _ => none) (fun _ _ _ => none) (fun _ _ _ _ => none) () (fun _ _ _ _ => ()) ee)
    (fun bb => none)
    (fun ll => none)
    (fun vv => none)
    (fun n o => none)
    (fun mm cc o _ => none)
    (fun n o len sz => none)
    (fun mm len cc _ => none)
    (fun cc _ => none)
    (fun cc _ => none)
    (fun ff aa bb _ _ => none)
    () (fun _ _ _ _ => ())
theorem gnat_eq (a : SV) : gnat a = sNat a := by
  cases a with
  | int k e =>
    cases e with
    | lit n => cases n <;> rfl
    | _ => rfl
  | _ => rfl
/-- The kind, as a number; of what is none: 8. -/
noncomputable def gkind : SV -> Nat :=
  @SV.rec (fun _ => Nat) (fun _ => Unit)
    (fun kk ee => @IntKind.rec (fun _ => Nat) 0 1 2 3 4 5 6 7 kk)
    (fun bb => 8)
    (fun ll => 8)
    (fun vv => 8)
    (fun n o => 8)
    (fun mm cc o _ => 8)
    (fun n o len sz => 8)
    (fun mm len cc _ => 8)
    (fun cc _ => 8)
    (fun cc _ => 8)
    (fun ff aa bb _ _ => 8)
    () (fun _ _ _ _ => ())
theorem gkind_eq {a b : SV} {m n : Nat} (ha : sNat a = some m) (hb : sNat b = some n) (h : Nat.beq (gkind a) (gkind b) = true) : ∃ k, a = .int k (.lit (.ofNat m)) /\ b = .int k (.lit (.ofNat n)) := by
  unfold sNat at ha hb
  split at ha
  · split at ha
    · split at hb
      · split at hb
        · cases ha; cases hb
          rename_i k _ _ k' _
          have : k = k' := by cases k <;> cases k' <;> first | rfl | (simp [gkind] at h)
          subst this
          exact ⟨k, rfl, rfl⟩
        · cases hb
      · cases hb
    · cases ha
  · cases ha
/-! ### loads -/
abbrev LT := TypeId -> Program -> Mem -> SRes
noncomputable def gl4 (h : Mem) : Option SV -> SRes := @Option.rec SV (fun _ => SRes) none (fun v => some (v, h))
noncomputable def gl3 : Option (List SV) -> Nat -> Mem -> SRes := @Option.rec (List SV) (fun _ => Nat -> Mem -> SRes) (fun _ _ => none) (fun row o h => gl4 h (nth o row))
noncomputable def gl2 : Option Nat -> Nat -> Nat -> Mem -> SRes := @Option.rec Nat (fun _ => Nat -> Nat -> Mem -> SRes) (fun _ _ _ => none) (fun _ n o h => gl3 (Tr.get h.m n) o h)
noncomputable def gl1 : Option Bool -> SV -> Nat -> Nat -> LT := @Option.rec Bool (fun _ => SV -> Nat -> Nat -> LT) (fun _ _ _ _ _ _ => none)
  (@Bool.rec (fun _ => SV -> Nat -> Nat -> LT) (fun _ n o t P h => gl2 (szOf P t) n o h) (fun a _ _ t P h => fload P t a h))
noncomputable def gload : SV -> LT :=
  @SV.rec (fun _ => LT) (fun _ => Unit)
    (fun kk ee => fun t P h => fload P t (.int kk ee) h)
    (fun bb => fun t P h => fload P t (.bool bb) h)
    (fun ll => fun t P h => fload P t (.str ll) h)
    (fun vv => fun t P h => fload P t (.val vv) h)
    (fun n o => fun t P h => gl1 (aggB P t) (.ptr n o) n o t P h)
    (fun mm cc o _ => fun t P h => fload P t (.imp mm cc o) h)
    (fun n o len sz => fun t P h => fload P t (.sl n o len sz) h)
    (fun mm len cc _ => fun t P h => fload P t (.im mm len cc) h)
    (fun cc _ => fun t P h => fload P t (.agg cc) h)
    (fun cc _ => fun t P h => fload P t (.tup cc) h)
    (fun ff aa bb _ _ => fun t P h => fload P t (.fn ff aa bb) h)
    () (fun _ _ _ _ => ())
theorem gload_eq (a : SV) (t : TypeId) (P : Program) (h : Mem) : gload a t P h = fload P t a h := by
  cases a with
  | ptr n o =>
    show gl1 (aggB P t) (.ptr n o) n o t P h = _
    cases hb : aggB P t with
    | none => simp only [gl1, fload, sload, hb]; rfl
    | some b =>
      cases b with
      | true => rfl
      | false =>
        simp only [gl1, fload, sload, hb]
        cases hz : szOf P t with
        | none => rfl
        | some z =>
          simp only [gl2, Mem.get]
          cases h.m.get n with
          | none => rfl
          | some row => simp only [gl3, nth_eq, Option.bind_some]; cases row[o]? <;> rfl
  | _ => rfl
/-! ### stores -/
noncomputable def gs5 (n : Nat) (row : List SV) (h : Mem) : SRes := some (.val undef, @Mem.rec (fun _ => Mem) (fun nx m => ⟨nx, m.put n row⟩) h)
noncomputable def gs4 : Option SV -> Nat -> Nat -> SV -> List SV -> Mem -> SRes := @Option.rec SV (fun _ => Nat -> Nat -> SV -> List SV -> Mem -> SRes) (fun _ _ _ _ _ => none) (fun _ n o x row h => gs5 n (lset o x row) h)
noncomputable def gs3 : Option (List SV) -> Nat -> Nat -> SV -> Mem -> SRes := @Option.rec (List SV) (fun _ => Nat -> Nat -> SV -> Mem -> SRes) (fun _ _ _ _ => none) (fun row n o x h => gs4 (nth o row) n o x row h)
noncomputable def gs2 : Bool -> Nat -> Nat -> SV -> LT := @Bool.rec (fun _ => Nat -> Nat -> SV -> LT) (fun n o x t P h => fstore P t (.ptr n o) x h) (fun n o x t P h => gs3 (Tr.get h.m n) n o x h)
/-- Is it of one cell? -/
noncomputable def oneSz (P : Program) (t : TypeId) : Bool := @Option.rec Nat (fun _ => Bool) false (fun n => Nat.beq n 1) (szOf P t)
noncomputable def gs1 : SV -> SV -> LT :=
  @SV.rec (fun _ => SV -> LT) (fun _ => Unit)
    (fun kk ee => fun v t P h => fstore P t (.int kk ee) v h)
    (fun bb => fun v t P h => fstore P t (.bool bb) v h)
    (fun ll => fun v t P h => fstore P t (.str ll) v h)
    (fun vv => fun v t P h => fstore P t (.val vv) v h)
    (fun n o => fun v t P h => gs2 (oneSz P t) n o v t P h)
    (fun mm cc o _ => fun v t P h => fstore P t (.imp mm cc o) v h)
    (fun n o len sz => fun v t P h => fstore P t (.sl n o len sz) v h)
    (fun mm len cc _ => fun v t P h => fstore P t (.im mm len cc) v h)
    (fun cc _ => fun v t P h => fstore P t (.agg cc) v h)
    (fun cc _ => fun v t P h => fstore P t (.tup cc) v h)
    (fun ff aa bb _ _ => fun v t P h => fstore P t (.fn ff aa bb) v h)
    () (fun _ _ _ _ => ())
noncomputable def gstore : SV -> TypeId -> Program -> SV -> Mem -> SRes :=
  @SV.rec (fun _ => TypeId -> Program -> SV -> Mem -> SRes) (fun _ => Unit)
    (fun kk ee => fun t P a h => gs1 a (.int kk ee) t P h)
    (fun bb => fun t P a h => gs1 a (.bool bb) t P h)
    (fun ll => fun t P a h => gs1 a (.str ll) t P h)
    (fun vv => fun t P a h => fstore P t a (.val vv) h)
    (fun n o => fun t P a h => gs1 a (.ptr n o) t P h)
    (fun mm cc o _ => fun t P a h => gs1 a (.imp mm cc o) t P h)
    (fun n o len sz => fun t P a h => gs1 a (.sl n o len sz) t P h)
    (fun mm len cc _ => fun t P a h => gs1 a (.im mm len cc) t P h)
    (fun cc _ => fun t P a h => fstore P t a (.agg cc) h)
    (fun cc _ => fun t P a h => fstore P t a (.tup cc) h)
    (fun ff aa bb _ _ => fun t P a h => gs1 a (.fn ff aa bb) t P h)
    () (fun _ _ _ _ => ())
theorem gs1_eq (a v : SV) (hc : v.cells = [v]) (h1 : v.one = true) (t : TypeId) (P : Program) (h : Mem) : gs1 a v t P h = fstore P t a v h := by
  cases a with
  | ptr n o =>
    show gs2 (oneSz P t) n o v t P h = _
    cases hz : szOf P t with
    | none => simp only [oneSz, hz]; rfl
    | some z =>
      cases hb : Nat.beq z 1 with
      | false => simp only [oneSz, hz, hb]; rfl
      | true =>
        have := Nat.eq_of_beq_eq_true hb
        subst this
        simp only [oneSz, hz, gs2, fstore, sstore, hc, List.length_singleton, decide_true, List.all_cons, h1, List.all_nil, Bool.and_true, cond_true, Mem.get]
        show gs3 (h.m.get n) n o v h = _
        cases hr : h.m.get n with
        | none => rfl
        | some row =>
          simp only [gs3, Option.bind_some]
          cases hn : nth o row with
          | none =>
            have h2 : sset o [v] row = none := by
              cases hs : sset o [v] row with
              | none => rfl
              | some row' =>
                exfalso
                have gen : ∀ (o : Nat) (row row' : List SV), nth o row = none -> sset o [v] row = some row' -> False := by
                  intro o
                  induction o with
                  | zero => intro row row' hn hs; cases row with
                    | nil => simp [sset, sset.ins] at hs
                    | cons x r => cases hn
                  | succ o ih => intro row row' hn hs; cases row with
                    | nil => simp [sset] at hs
                    | cons x r =>
                      simp only [sset, Option.map_eq_some_iff] at hs
                      obtain ⟨r', h3, _⟩ := hs
                      exact ih r r' hn h3
                exact gen o row row' hn hs
            rw [h2]; rfl
          | some x =>
            rw [lset_ok o v row (by rw [hn]; rfl)]
            rfl
  | _ => rfl
theorem gstore_eq (a v : SV) (t : TypeId) (P : Program) (h : Mem) : gstore v t P a h = fstore P t a v h := by
  cases v with
  | int k e => exact gs1_eq a (.int k e) rfl rfl t P h
  | bool b => exact gs1_eq a (.bool b) rfl rfl t P h
  | str l => exact gs1_eq a (.str l) rfl rfl t P h
  | ptr n o => exact gs1_eq a (.ptr n o) rfl rfl t P h
  | sl n o l z => exact gs1_eq a (.sl n o l z) rfl rfl t P h
  | fn f x y => exact gs1_eq a (.fn f x y) rfl rfl t P h
  | im m l c => exact gs1_eq a (.im m l c) rfl rfl t P h
  | imp m c o => exact gs1_eq a (.imp m c o) rfl rfl t P h
  | _ => rfl
/-! ### addresses -/
noncomputable def slSz (P : Program) (t : TypeId) : Option Nat := match P.underlying t with | some (.slice e) => szOf P e | _ => none
noncomputable def gfin (n o : Nat) (h : Mem) : SRes := forceN o fun o => some (.ptr n o, h)
noncomputable def gi4 : Bool -> Nat -> Nat -> Nat -> Nat -> Nat -> SV -> LT := @Bool.rec (fun _ => Nat -> Nat -> Nat -> Nat -> Nat -> SV -> LT) (fun i n o len sz iv t P h => (sindexAddr P t (.sl n o len sz) iv).map (·, h)) (fun i n o len sz iv t P h => gfin n (Nat.add o (Nat.mul i sz)) h)
noncomputable def gi3 : Bool -> Nat -> Nat -> Nat -> Nat -> Nat -> SV -> LT := @Bool.rec (fun _ => Nat -> Nat -> Nat -> Nat -> Nat -> SV -> LT) (fun i n o len sz iv t P h => (sindexAddr P t (.sl n o len sz) iv).map (·, h)) (fun i n o len sz iv t P h => gi4 (Nat.ble (Nat.succ i) len) i n o len sz iv t P h)
noncomputable def gi2 : Option Nat -> Nat -> Nat -> Nat -> Nat -> Nat -> SV -> LT := @Option.rec Nat (fun _ => Nat -> Nat -> Nat -> Nat -> Nat -> SV -> LT) (fun i n o len sz iv t P h => (sindexAddr P t (.sl n o len sz) iv).map (·, h)) (fun s i n o len sz iv t P h => gi3 (Nat.beq s sz) i n o len sz iv t P h)
noncomputable def gi1 : Option Nat -> Nat -> Nat -> Nat -> Nat -> SV -> LT := @Option.rec Nat (fun _ => Nat -> Nat -> Nat -> Nat -> SV -> LT) (fun n o len sz iv t P h => (sindexAddr P t (.sl n o len sz) iv).map (·, h)) (fun i n o len sz iv t P h => gi2 (slSz P t) i n o len sz iv t P h)
noncomputable def arLen (P : Program) (t : TypeId) : Option Nat := match P.underlying t with | some (.array n e) => (match szOf P e with | some _ => some n | none => none) | _ => none
noncomputable def arSz (P : Program) (t : TypeId) : Nat := match P.underlying t with | some (.array n e) => (match szOf P e with | some s => s | none => 0) | _ => 0
noncomputable def gj3 : Bool -> Nat -> Nat -> Nat -> SV -> LT := @Bool.rec (fun _ => Nat -> Nat -> Nat -> SV -> LT) (fun i n o iv t P h => (sindexAddr P t (.ptr n o) iv).map (·, h)) (fun i n o iv t P h => gfin n (Nat.add o (Nat.mul i (arSz P t))) h)
noncomputable def gj2 : Option Nat -> Nat -> Nat -> Nat -> SV -> LT := @Option.rec Nat (fun _ => Nat -> Nat -> Nat -> SV -> LT) (fun i n o iv t P h => (sindexAddr P t (.ptr n o) iv).map (·, h)) (fun l i n o iv t P h => gj3 (Nat.ble (Nat.succ i) l) i n o iv t P h)
noncomputable def gj1 : Option Nat -> Nat -> Nat -> SV -> LT := @Option.rec Nat (fun _ => Nat -> Nat -> SV -> LT) (fun n o iv t P h => (sindexAddr P t (.ptr n o) iv).map (·, h)) (fun i n o iv t P h => gj2 (arLen P t) i n o iv t P h)
noncomputable def gindex : SV -> SV -> LT :=
  @SV.rec (fun _ => SV -> LT) (fun _ => Unit)
    (fun kk ee => fun i t P h => (sindexAddr P t (.int kk ee) i).map (·, h))
    (fun bb => fun i t P h => (sindexAddr P t (.bool bb) i).map (·, h))
    (fun ll => fun i t P h => (sindexAddr P t (.str ll) i).map (·, h))
    (fun vv => fun i t P h => (sindexAddr P t (.val vv) i).map (·, h))
    (fun n o => fun i t P h => gj1 (gnat i) n o i t P h)
    (fun mm cc o _ => fun i t P h => (sindexAddr P t (.imp mm cc o) i).map (·, h))
    (fun n o len sz => fun i t P h => gi1 (gnat i) n o len sz i t P h)
    (fun mm len cc _ => fun i t P h => (sindexAddr P t (.im mm len cc) i).map (·, h))
    (fun cc _ => fun i t P h => (sindexAddr P t (.agg cc) i).map (·, h))
    (fun cc _ => fun i t P h => (sindexAddr P t (.tup cc) i).map (·, h))
    (fun ff aa bb _ _ => fun i t P h => (sindexAddr P t (.fn ff aa bb) i).map (·, h))
    () (fun _ _ _ _ => ())
theorem gfin_eq (n o : Nat) (h : Mem) : gfin n o h = some (.ptr n o, h) := rfl
theorem gindex_eq (x i : SV) (t : TypeId) (P : Program) (h : Mem) : gindex x i t P h = (sindexAddr P t x i).map (·, h) := by
  cases x with
  | sl n o len sz =>
    show gi1 (gnat i) n o len sz i t P h = _
    rw [gnat_eq]
    cases hi : sNat i with
    | none => rfl
    | some k =>
      show gi2 (slSz P t) k n o len sz i t P h = _
      cases hs : slSz P t with
      | none => rfl
      | some s =>
        show gi3 (Nat.beq s sz) k n o len sz i t P h = _
        cases h1 : Nat.beq s sz with
        | false => rfl
        | true =>
          show gi4 (Nat.ble (Nat.succ k) len) k n o len sz i t P h = _
          cases h2 : Nat.ble (Nat.succ k) len with
          | false => rfl
          | true =>
            show gfin n (o + k * sz) h = _
            have h3 : ∃ e, P.underlying t = some (.slice e) /\ szOf P e = some s := by
              unfold slSz at hs
              split at hs
              · rename_i e he; exact ⟨e, he, hs⟩
              · cases hs
            obtain ⟨e, h4, h5⟩ := h3
            have h6 := Nat.eq_of_beq_eq_true h1
            subst h6
            have h7 : Nat.blt k len = true := h2
            simp only [sindexAddr, hi, h4, h5, decide_true, h7, Bool.and_self, cond_true, forceN_eq, gfin_eq, Option.map_some]
  | ptr n o =>
    show gj1 (gnat i) n o i t P h = _
    rw [gnat_eq]
    cases hi : sNat i with
    | none => rfl
    | some k =>
      show gj2 (arLen P t) k n o i t P h = _
      cases hs : arLen P t with
      | none => rfl
      | some l =>
        show gj3 (Nat.ble (Nat.succ k) l) k n o i t P h = _
        cases h2 : Nat.ble (Nat.succ k) l with
        | false => rfl
        | true =>
          show gfin n (o + k * arSz P t) h = _
          unfold arLen at hs
          split at hs
          · rename_i l' e he
            split at hs
            · rename_i s hse
              cases hs
              have h7 : Nat.blt k l = true := h2
              have h8 : arSz P t = s := by simp only [arSz, he, hse]
              simp only [sindexAddr, hi, he, hse, Option.bind_some, h7, cond_true, forceN_eq, gfin_eq, Option.map_some, h8]
            · cases hs
          · cases hs
  | _ => rfl
noncomputable def fldOff (P : Program) (s : TypeId) (f : Nat) : Option Nat :=
  match P.underlying s with
  | some (.struct fs) => (fs[f]?).bind fun fl => (szOf P fl.type).bind fun sz => bif Nat.beq sz 0 then none else some fl.offset
  | _ => none
noncomputable def gf1 : Option Nat -> Nat -> Nat -> Mem -> SRes := @Option.rec Nat (fun _ => Nat -> Nat -> Mem -> SRes) (fun _ _ _ => none) (fun d n o h => gfin n (Nat.add o d) h)
noncomputable def gfield : SV -> Nat -> LT :=
  @SV.rec (fun _ => Nat -> LT) (fun _ => Unit)
    (fun kk ee => fun f s P h => (sfieldAddr P s (.int kk ee) f).map (·, h))
    (fun bb => fun f s P h => (sfieldAddr P s (.bool bb) f).map (·, h))
    (fun ll => fun f s P h => (sfieldAddr P s (.str ll) f).map (·, h))
    (fun vv => fun f s P h => (sfieldAddr P s (.val vv) f).map (·, h))
    (fun n o => fun f s P h => gf1 (fldOff P s f) n o h)
    (fun mm cc o _ => fun f s P h => (sfieldAddr P s (.imp mm cc o) f).map (·, h))
    (fun n o len sz => fun f s P h => (sfieldAddr P s (.sl n o len sz) f).map (·, h))
    (fun mm len cc _ => fun f s P h => (sfieldAddr P s (.im mm len cc) f).map (·, h))
    (fun cc _ => fun f s P h => (sfieldAddr P s (.agg cc) f).map (·, h))
    (fun cc _ => fun f s P h => (sfieldAddr P s (.tup cc) f).map (·, h))
    (fun ff aa bb _ _ => fun f s P h => (sfieldAddr P s (.fn ff aa bb) f).map (·, h))
    () (fun _ _ _ _ => ())
theorem gfield_eq (x : SV) (f : Nat) (s : TypeId) (P : Program) (h : Mem) : gfield x f s P h = (sfieldAddr P s x f).map (·, h) := by
  cases x with
  | ptr n o =>
    show gf1 (fldOff P s f) n o h = _
    unfold fldOff sfieldAddr
    split
    · rename_i fs hu
      simp only [hu]
      cases fs[f]? with
      | none => rfl
      | some fl =>
        simp only [Option.bind_some]
        cases szOf P fl.type with
        | none => rfl
        | some sz =>
          simp only [Option.bind_some]
          cases Nat.beq sz 0 <;> rfl
    · rename_i hu
      split
      · rename_i fs hfs; exact absurd hfs (hu fs)
      · rfl
  | _ => rfl
/-! ### sums, comparisons -/
abbrev BT := List Fact -> Program -> TypeId -> Operand -> Operand -> Tr SV -> Mem -> SRes
/-- Numbers under these a kind has. -/
noncomputable def gkm : SV -> Nat :=
  @SV.rec (fun _ => Nat) (fun _ => Unit)
    (fun kk ee => @IntKind.rec (fun _ => Nat) 128 32768 2147483648 9223372036854775808 256 65536 4294967296 18446744073709551616 kk)
    (fun bb => 0)
    (fun ll => 0)
    (fun vv => 0)
    (fun n o => 0)
    (fun mm cc o _ => 0)
    (fun n o len sz => 0)
    (fun mm len cc _ => 0)
    (fun cc _ => 0)
    (fun cc _ => 0)
    (fun ff aa bb _ _ => 0)
    () (fun _ _ _ _ => ())
noncomputable def gkof : SV -> Nat -> SV :=
  @SV.rec (fun _ => Nat -> SV) (fun _ => Unit)
    (fun kk ee => fun r => .int kk (.lit (.ofNat r)))
    (fun bb => fun _ => (.bool bb))
    (fun ll => fun _ => (.str ll))
    (fun vv => fun _ => (.val vv))
    (fun n o => fun _ => (.ptr n o))
    (fun mm cc o _ => fun _ => (.imp mm cc o))
    (fun n o len sz => fun _ => (.sl n o len sz))
    (fun mm len cc _ => fun _ => (.im mm len cc))
    (fun cc _ => fun _ => (.agg cc))
    (fun cc _ => fun _ => (.tup cc))
    (fun ff aa bb _ _ => fun _ => (.fn ff aa bb))
    () (fun _ _ _ _ => ())
noncomputable def gb6 (va : SV) (r : Nat) (h : Mem) : SRes := forceN r fun r => some (gkof va r, h)
noncomputable def gb5 : Bool -> BinOp -> SV -> Nat -> BT := @Bool.rec (fun _ => BinOp -> SV -> Nat -> BT) (fun op va r Γ P t x y T h => fbin Γ P op t x y (senv T) h) (fun op va r Γ P t x y T h => gb6 va r h)
noncomputable def gb4 (op : BinOp) (va : SV) (r : Nat) : BT := fun Γ P t x y T h => gb5 (Nat.ble (Nat.succ r) (gkm va)) op va r Γ P t x y T h
noncomputable def gb3 : BinOp -> Nat -> Nat -> SV -> SV -> BT := @BinOp.rec (fun _ => Nat -> Nat -> SV -> SV -> BT)
    (fun a b va vb Γ P t x y T h => gb4 .add va (Nat.add a b) Γ P t x y T h)
    (fun a b va vb Γ P t x y T h => @Bool.rec (fun _ => Nat -> Nat -> SV -> SV -> BT) (fun a b va vb Γ P t x y T h => fbin Γ P .sub t x y (senv T) h) (fun a b va vb Γ P t x y T h => gb4 .sub va (Nat.sub a b) Γ P t x y T h) (Nat.ble b a) a b va vb Γ P t x y T h)
    (fun a b va vb Γ P t x y T h => gb4 .mul va (Nat.mul a b) Γ P t x y T h)
    (fun a b va vb Γ P t x y T h => fbin Γ P .quo t x y (senv T) h)
    (fun a b va vb Γ P t x y T h => fbin Γ P .rem t x y (senv T) h)
    (fun a b va vb Γ P t x y T h => fbin Γ P .and t x y (senv T) h)
    (fun a b va vb Γ P t x y T h => fbin Γ P .or t x y (senv T) h)
    (fun a b va vb Γ P t x y T h => fbin Γ P .xor t x y (senv T) h)
    (fun a b va vb Γ P t x y T h => fbin Γ P .shl t x y (senv T) h)
    (fun a b va vb Γ P t x y T h => fbin Γ P .shr t x y (senv T) h)
    (fun a b va vb Γ P t x y T h => fbin Γ P .andNot t x y (senv T) h)
    (fun a b va vb Γ P t x y T h => some (.bool (Nat.beq a b), h))
    (fun a b va vb Γ P t x y T h => some (.bool (@Bool.rec (fun _ => Bool) true false (Nat.beq a b)), h))
    (fun a b va vb Γ P t x y T h => some (.bool (Nat.ble (Nat.succ a) b), h))
    (fun a b va vb Γ P t x y T h => some (.bool (Nat.ble a b), h))
    (fun a b va vb Γ P t x y T h => some (.bool (Nat.ble (Nat.succ b) a), h))
    (fun a b va vb Γ P t x y T h => some (.bool (Nat.ble b a), h))
noncomputable def gb2 : Bool -> BinOp -> Nat -> Nat -> SV -> SV -> BT := @Bool.rec (fun _ => BinOp -> Nat -> Nat -> SV -> SV -> BT) (fun op a b va vb Γ P t x y T h => fbin Γ P op t x y (senv T) h) gb3
noncomputable def gb1 : Option Nat -> BinOp -> Nat -> SV -> SV -> BT := @Option.rec Nat (fun _ => BinOp -> Nat -> SV -> SV -> BT) (fun op a va vb Γ P t x y T h => fbin Γ P op t x y (senv T) h) (fun b op a va vb Γ P t x y T h => gb2 (Nat.beq (gkind va) (gkind vb)) op a b va vb Γ P t x y T h)
noncomputable def gb0 : Option Nat -> BinOp -> SV -> SV -> BT := @Option.rec Nat (fun _ => BinOp -> SV -> SV -> BT) (fun op va vb Γ P t x y T h => fbin Γ P op t x y (senv T) h) (fun a op va vb Γ P t x y T h => gb1 (gnat vb) op a va vb Γ P t x y T h)
noncomputable def gbv (va vb : SV) (op : BinOp) : BT := gb0 (gnat va) op va vb
noncomputable def gbin (op : BinOp) : BT := fun Γ P t x y T h => gbv (genv x T) (genv y T) op Γ P t x y T h
theorem gwrap_nat (k : IntKind) (r : Nat) (e : IE) (h : r < gkm (.int k e)) : k.wrap (r : Int) = r := by
  cases k <;> simp [gkm, IntKind.bits, IntKind.signed, IntKind.wrap] at h ⊢ <;> omega
theorem gb4_eq {op : BinOp} {k : IntKind} {a b r : Nat} (hr : arI op k (a : Int) (b : Int) = some (k.wrap (r : Int))) (h1 : op ≠ .eql) (h2 : op ≠ .neq) (h3 : op ≠ .lss) (h4 : op ≠ .leq) (h5 : op ≠ .gtr) (h6 : op ≠ .geq)
    (Γ : List Fact) (P : Program) (t : TypeId) (x y : Operand) (T : Tr SV) (h : Mem) (hx : senv T x = .int k (.lit (.ofNat a))) (hy : senv T y = .int k (.lit (.ofNat b))) :
    gb4 op (.int k (.lit (.ofNat a))) r Γ P t x y T h = fbin Γ P op t x y (senv T) h := by
  unfold gb4
  cases hb : Nat.ble (Nat.succ r) (gkm (.int k (.lit (.ofNat a)))) with
  | false => rfl
  | true =>
    have hlt := Nat.le_of_ble_eq_true hb
    have hw := gwrap_nat k r _ hlt
    have hr' : arI op k (Int.ofNat a) (Int.ofNat b) = some (r : Int) := by rw [hw] at hr; exact hr
    show some (gkof (.int k (.lit (.ofNat a))) r, h) = _
    have hb2 : sbin Γ op (.int k (.lit (.ofNat a))) (.int k (.lit (.ofNat b))) = some (.int k (.lit (r : Int))) := by
      unfold sbin
      simp only [decide_true, Bool.or_true, cond_true]
      cases op <;> first | (exact absurd rfl ‹_›) | (simp only [binE, hr', forceI_eq, Option.map_some])
    cases op <;> first | (exact absurd rfl ‹_›) | (simp only [fbin, hx, hy, hb2, Option.map_some]; rfl)
theorem gcmp (a b : Nat) : (decide ((a : Int) < b) = Nat.ble (Nat.succ a) b) /\ (decide ((a : Int) <= b) = Nat.ble a b) /\ (((a : Int) == b) = Nat.beq a b) := by
  refine ⟨?_, ?_, ?_⟩
  · rw [Bool.eq_iff_iff]; simp [Nat.ble_eq]; omega
  · rw [Bool.eq_iff_iff]; simp [Nat.ble_eq]
  · rw [Bool.eq_iff_iff]; simp [Nat.beq_eq]; omega
theorem gbin_eq (op : BinOp) (Γ : List Fact) (P : Program) (t : TypeId) (x y : Operand) (T : Tr SV) (h : Mem) : gbin op Γ P t x y T h = fbin Γ P op t x y (senv T) h := by
  show gb0 (gnat (genv x T)) op (genv x T) (genv y T) Γ P t x y T h = _
  rw [genv_eq, genv_eq, gnat_eq]
  cases ha : sNat (senv T x) with
  | none => rfl
  | some a =>
    show gb1 (gnat (senv T y)) op a (senv T x) (senv T y) Γ P t x y T h = _
    rw [gnat_eq]
    cases hb : sNat (senv T y) with
    | none => rfl
    | some b =>
      show gb2 (Nat.beq (gkind (senv T x)) (gkind (senv T y))) op a b (senv T x) (senv T y) Γ P t x y T h = _
      cases hk : Nat.beq (gkind (senv T x)) (gkind (senv T y)) with
      | false => rfl
      | true =>
        obtain ⟨k, hx, hy⟩ := gkind_eq ha hb hk
        obtain ⟨c1, c2, c3⟩ := gcmp a b
        obtain ⟨d1, d2, d3⟩ := gcmp b a
        show gb3 op a b (senv T x) (senv T y) Γ P t x y T h = _
        cases op with
        | add => simp only [gb3]; rw [hx]; exact gb4_eq (r := Nat.add a b) (by simp [arI]) (by simp) (by simp) (by simp) (by simp) (by simp) (by simp) Γ P t x y T h hx hy
        | mul => simp only [gb3]; rw [hx]; exact gb4_eq (r := Nat.mul a b) (by simp [arI]) (by simp) (by simp) (by simp) (by simp) (by simp) (by simp) Γ P t x y T h hx hy
        | sub =>
          simp only [gb3]
          cases hle : Nat.ble b a with
          | false => rfl
          | true =>
            have := Nat.le_of_ble_eq_true hle
            simp only []
            rw [hx]
            exact gb4_eq (r := Nat.sub a b) (by simp only [arI]; rw [show (Nat.sub a b : Nat) = a - b from rfl, Int.ofNat_sub this]) (by simp) (by simp) (by simp) (by simp) (by simp) (by simp) Γ P t x y T h hx hy
        | eql => simp only [gb3, fbin, seq, hx, hy, decide_true, cond_true, cond_false, cmpE, cmpI, Option.map_some]; rw [show (Int.ofNat a == Int.ofNat b) = Nat.beq a b from c3]
        | neq =>
          simp only [gb3, fbin, seq, hx, hy, decide_true, cond_true, cmpE, cmpI, Option.map_some]
          rw [show (Int.ofNat a != Int.ofNat b) = !(Nat.beq a b) from by rw [<- c3]; rfl]
          cases Nat.beq a b <;> rfl
        | lss => simp only [gb3, fbin, sbin, hx, hy, decide_true, Bool.or_true, cond_true, cmpE, cmpI, Option.map_some]; rw [show decide (Int.ofNat a < Int.ofNat b) = Nat.ble (Nat.succ a) b from c1]
        | leq => simp only [gb3, fbin, sbin, hx, hy, decide_true, Bool.or_true, cond_true, cmpE, cmpI, Option.map_some]; rw [show decide (Int.ofNat a <= Int.ofNat b) = Nat.ble a b from c2]
        | gtr => simp only [gb3, fbin, sbin, hx, hy, decide_true, Bool.or_true, cond_true, cmpE, cmpI, Option.map_some]; rw [show decide (Int.ofNat a > Int.ofNat b) = Nat.ble (Nat.succ b) a from d1]
        | geq => simp only [gb3, fbin, sbin, hx, hy, decide_true, Bool.or_true, cond_true, cmpE, cmpI, Option.map_some]; rw [show decide (Int.ofNat a ≥ Int.ofNat b) = Nat.ble b a from d2]
        | _ => rfl
/-! ### conversions -/
noncomputable def dstInt (P : Program) (src dst : TypeId) : Option IntKind := match P.underlying src, P.underlying dst with | some _, some (.int k') => some k' | _, _ => none
noncomputable def gc3 : Bool -> Nat -> IntKind -> SV -> TypeId -> LT := @Bool.rec (fun _ => Nat -> IntKind -> SV -> TypeId -> LT) (fun n k v src dst P h => sconv P src dst v h) (fun n k v src dst P h => some (.int k (.lit (.ofNat n)), h))
noncomputable def gc2 : Option IntKind -> Nat -> SV -> TypeId -> LT := @Option.rec IntKind (fun _ => Nat -> SV -> TypeId -> LT) (fun n v src dst P h => sconv P src dst v h) (fun k n v src dst P h => gc3 (Nat.ble (Nat.succ n) (gkm (.int k (.lit 0)))) n k v src dst P h)
noncomputable def gc1 : Option Nat -> SV -> TypeId -> LT := @Option.rec Nat (fun _ => SV -> TypeId -> LT) (fun v src dst P h => sconv P src dst v h) (fun n v src dst P h => gc2 (dstInt P src dst) n v src dst P h)
noncomputable def gconv (v : SV) : TypeId -> LT := gc1 (gnat v) v
theorem gconv_eq (v : SV) (src dst : TypeId) (P : Program) (h : Mem) : gconv v src dst P h = sconv P src dst v h := by
  show gc1 (gnat v) v src dst P h = _
  rw [gnat_eq]
  cases hv : sNat v with
  | none => rfl
  | some n =>
    show gc2 (dstInt P src dst) n v src dst P h = _
    cases hd : dstInt P src dst with
    | none => rfl
    | some k' =>
      show gc3 (Nat.ble (Nat.succ n) (gkm (.int k' (.lit 0)))) n k' v src dst P h = _
      cases hb : Nat.ble (Nat.succ n) (gkm (.int k' (.lit 0))) with
      | false => rfl
      | true =>
        have hw := gwrap_nat k' n _ (Nat.le_of_ble_eq_true hb)
        show some (SV.int k' (.lit (.ofNat n)), h) = _
        unfold sNat at hv
        split at hv
        · split at hv
          · cases hv
            unfold dstInt at hd
            split at hd
            · rename_i h1 h2
              cases hd
              simp only [sconv, h1, h2, wrapE, forceI_eq]
              rw [show k'.wrap (Int.ofNat n) = Int.ofNat n from hw]
            · cases hd
          · cases hv
        · cases hv
/-! ### one operation -/
noncomputable def gpush (row : List SV) (h : Mem) : SRes := @Mem.rec (fun _ => List SV -> SRes) (fun nx m row => forceN nx fun n => some (.ptr n 0, ⟨Nat.add n 1, m.put n row⟩)) h row
theorem gpush_eq (row : List SV) (h : Mem) : gpush row h = some (.ptr h.next 0, h.push row) := by cases h; rfl
noncomputable def gal : Option (List SV) -> Mem -> SRes := @Option.rec (List SV) (fun _ => Mem -> SRes) (fun _ => none) gpush
theorem gal_eq (P : Program) (e : TypeId) (h : Mem) : gal (szeros P e) h = falloc P e h := by
  unfold falloc
  cases szeros P e with
  | none => rfl
  | some z => exact gpush_eq z h
noncomputable def gnil : SV -> Mem -> SRes :=
  @SV.rec (fun _ => Mem -> SRes) (fun _ => Unit)
    (fun kk ee => fun h => fnil h (.int kk ee))
    (fun bb => fun h => fnil h (.bool bb))
    (fun ll => fun h => fnil h (.str ll))
    (fun vv => fun h => fnil h (.val vv))
    (fun n o => fun h => some (.ptr n o, h))
    (fun mm cc o _ => fun h => fnil h (.imp mm cc o))
    (fun n o len sz => fun h => fnil h (.sl n o len sz))
    (fun mm len cc _ => fun h => fnil h (.im mm len cc))
    (fun cc _ => fun h => fnil h (.agg cc))
    (fun cc _ => fun h => fnil h (.tup cc))
    (fun ff aa bb _ _ => fun h => fnil h (.fn ff aa bb))
    () (fun _ _ _ _ => ())
theorem gnil_eq (v : SV) (h : Mem) : gnil v h = fnil h v := by cases v <;> rfl
noncomputable def gextract : SV -> Nat -> Mem -> SRes :=
  @SV.rec (fun _ => Nat -> Mem -> SRes) (fun _ => Unit)
    (fun kk ee => fun _ _ => none)
    (fun bb => fun _ _ => none)
    (fun ll => fun _ _ => none)
    (fun vv => fun _ _ => none)
    (fun n o => fun _ _ => none)
    (fun mm cc o _ => fun _ _ => none)
    (fun n o len sz => fun _ _ => none)
    (fun mm len cc _ => fun _ _ => none)
    (fun cc _ => fun _ _ => none)
    (fun cc _ => fun i h => gl4 h (nth i cc))
    (fun ff aa bb _ _ => fun _ _ => none)
    () (fun _ _ _ _ => ())
theorem gextract_eq (v : SV) (i : Nat) (h : Mem) : gextract v i h = fextract i h v := by
  cases v with
  | tup c => show gl4 h (nth i c) = _; rw [nth_eq]; simp only [fextract]; cases c[i]? <;> rfl
  | _ => rfl
noncomputable def gargs (T : Tr SV) : List Operand -> List SV := @List.rec Operand (fun _ => List SV) [] (fun x _ ih => genv x T :: ih)
theorem gargs_eq (T : Tr SV) : ∀ l, gargs T l = l.map (senv T)
  | [] => rfl
  | x :: l => by show genv x T :: gargs T l = _; rw [gargs_eq T l, genv_eq]; rfl
abbrev KT := List Operand -> Array TypeId -> Program -> SCall -> Tr SV -> Mem -> SRes
noncomputable def gapp : List SV -> List SV -> List SV := fun l r => @List.rec SV (fun _ => List SV -> List SV) (fun r => r) (fun x _ ih r => x :: ih r) l r
theorem gapp_eq : ∀ l r, gapp l r = l ++ r
  | [], r => rfl
  | x :: l, r => by show x :: gapp l r = _; rw [gapp_eq l r]; rfl
noncomputable def gcallF : SV -> List Operand -> SCall -> Tr SV -> Mem -> SRes :=
  @SV.rec (fun _ => List Operand -> SCall -> Tr SV -> Mem -> SRes) (fun _ => Unit)
    (fun kk ee => fun _ _ _ _ => none)
    (fun bb => fun _ _ _ _ => none)
    (fun ll => fun _ _ _ _ => none)
    (fun vv => fun _ _ _ _ => none)
    (fun n o => fun _ _ _ _ => none)
    (fun mm cc o _ => fun _ _ _ _ => none)
    (fun n o len sz => fun _ _ _ _ => none)
    (fun mm len cc _ => fun _ _ _ _ => none)
    (fun cc _ => fun _ _ _ _ => none)
    (fun cc _ => fun _ _ _ _ => none)
    (fun ff aa bb _ _ => @Fn.rec (fun _ => List SV -> List SV -> List Operand -> SCall -> Tr SV -> Mem -> SRes) (fun g a b l call T h => call g (gapp (gapp a (gargs T l)) b) h) (fun _ _ _ _ _ _ _ => none) (fun _ _ _ _ _ _ _ _ => none) (fun _ _ _ _ _ _ _ _ _ _ => none) (fun _ _ _ _ _ _ _ => none) ff aa bb)
    () (fun _ _ _ _ => ())
theorem gcallF_eq (v : SV) (l : List Operand) (call : SCall) (T : Tr SV) (h : Mem) : gcallF v l call T h = fcallV call (l.map (senv T)) h v := by
  cases v with
  | fn f a b =>
    cases f with
    | func f => show call f (gapp (gapp a (gargs T l)) b) h = _; rw [gapp_eq, gapp_eq, gargs_eq]; rfl
    | _ => rfl
  | _ => rfl
noncomputable def gcall : Callee -> KT := @Callee.rec (fun _ => KT) (fun f l ts P call T h => gcallF (genv f T) l call T h) (fun _ _ l ts P call T h => none) (fun b l ts P call T h => sbuiltin P b ts (gargs T l) h)
theorem gcall_eq (c : Call) (P : Program) (call : SCall) (T : Tr SV) (h : Mem) : gcall c.callee c.args.toList c.argTypes P call T h = fcall P call c (senv T) h := by
  unfold fcall
  cases c.callee with
  | value f => show gcallF (genv f T) c.args.toList call T h = _; rw [gcallF_eq, genv_eq]
  | invoke r n => rfl
  | builtin b => show sbuiltin P b c.argTypes (gargs T c.args.toList) h = _; rw [gargs_eq]
noncomputable def gop : Op -> FT :=
  @Op.rec (fun _ => FT)
    (fun x Γ P call T h => some (genv x T, h))
    (fun x Γ P call T h => some (genv x T, h))
    (fun x0 x1 x2 => fun Γ P call T h => fop Γ P call (.pick x0 x1 x2) (senv T) h)
    (fun e Γ P call T h => gal (szeros P e) h)
    (fun e x Γ P call T h => gpush (SV.cells (genv x T)) h)
    (fun x0 x1 => fun Γ P call T h => fop Γ P call (.build x0 x1) (senv T) h)
    (fun x0 x1 x2 => fun Γ P call T h => fop Γ P call (.buildSlice x0 x1 x2) (senv T) h)
    (fun x0 x1 x2 x3 => fun Γ P call T h => fop Γ P call (.insert x0 x1 x2 x3) (senv T) h)
    (fun t a Γ P call T h => gload (genv a T) t P h)
    (fun t a x Γ P call T h => gstore (genv x T) t P (genv a T) h)
    (fun x0 => fun Γ P call T h => fop Γ P call (.ready x0) (senv T) h)
    (fun x0 => fun Γ P call T h => fop Γ P call (.waits x0) (senv T) h)
    (fun x Γ P call T h => gnil (genv x T) h)
    (fun op t x y t2 Γ P call T h => gbin op Γ P t x y T h)
    (fun x0 x1 x2 => fun Γ P call T h => fop Γ P call (.unOp x0 x1 x2) (senv T) h)
    (fun src dst x Γ P call T h => gconv (genv x T) src dst P h)
    (fun x0 x1 => fun Γ P call T h => fop Γ P call (.sliceToArrayPointer x0 x1) (senv T) h)
    (fun x0 x1 => fun Γ P call T h => fop Γ P call (.makeInterface x0 x1) (senv T) h)
    (fun x0 x1 x2 => fun Γ P call T h => fop Γ P call (.makeFunc x0 x1 x2) (senv T) h)
    (fun x0 x1 => fun Γ P call T h => fop Γ P call (.makeMap x0 x1) (senv T) h)
    (fun x0 x1 => fun Γ P call T h => fop Γ P call (.makeChan x0 x1) (senv T) h)
    (fun x0 x1 x2 => fun Γ P call T h => fop Γ P call (.makeSlice x0 x1 x2) (senv T) h)
    (fun x0 x1 x2 x3 x4 => fun Γ P call T h => fop Γ P call (.slice x0 x1 x2 x3 x4) (senv T) h)
    (fun s x f Γ P call T h => gfield (genv x T) f s P h)
    (fun x0 x1 x2 => fun Γ P call T h => fop Γ P call (.field x0 x1 x2) (senv T) h)
    (fun t x i Γ P call T h => gindex (genv x T) (genv i T) t P h)
    (fun x0 x1 x2 => fun Γ P call T h => fop Γ P call (.index x0 x1 x2) (senv T) h)
    (fun x0 x1 x2 x3 => fun Γ P call T h => fop Γ P call (.lookup x0 x1 x2 x3) (senv T) h)
    (fun x0 x1 x2 x3 => fun Γ P call T h => fop Γ P call (.mapUpdate x0 x1 x2 x3) (senv T) h)
    (fun x0 x1 x2 => fun Γ P call T h => fop Γ P call (.mapEntry x0 x1 x2) (senv T) h)
    (fun x0 x1 x2 x3 => fun Γ P call T h => fop Γ P call (.entryStore x0 x1 x2 x3) (senv T) h)
    (fun x0 x1 => fun Γ P call T h => fop Γ P call (.range x0 x1) (senv T) h)
    (fun x0 x1 => fun Γ P call T h => fop Γ P call (.next x0 x1) (senv T) h)
    (fun x0 => fun Γ P call T h => fop Γ P call (.entry x0) (senv T) h)
    (fun x0 x1 x2 x3 => fun Γ P call T h => fop Γ P call (.typeAssert x0 x1 x2 x3) (senv T) h)
    (fun x i Γ P call T h => gextract (genv x T) i h)
    (fun c Γ P call T h => gcall c.callee c.args.toList c.argTypes P call T h)
    (fun x0 => fun Γ P call T h => fop Γ P call (.go x0) (senv T) h)
    (fun x0 => fun Γ P call T h => fop Γ P call (.defer x0) (senv T) h)
    (fun x0 => fun Γ P call T h => fop Γ P call (.panic x0) (senv T) h)
    (fun x0 x1 => fun Γ P call T h => fop Γ P call (.send x0 x1) (senv T) h)
    (fun x0 x1 x2 => fun Γ P call T h => fop Γ P call (.recv x0 x1 x2) (senv T) h)
    (fun x0 x1 => fun Γ P call T h => fop Γ P call (.select x0 x1) (senv T) h)
theorem gop_eq (o : Op) (Γ : List Fact) (P : Program) (call : SCall) (T : Tr SV) (h : Mem) : gop o Γ P call T h = fop Γ P call o (senv T) h := by
  cases o with
  | move x => show some (genv x T, h) = _; rw [genv_eq]; rfl
  | assign x => show some (genv x T, h) = _; rw [genv_eq]; rfl
  | alloc e => exact gal_eq P e h
  | box e x => show gpush (SV.cells (genv x T)) h = _; rw [gpush_eq, genv_eq]; rfl
  | load t a => show gload (genv a T) t P h = _; rw [gload_eq, genv_eq]; rfl
  | store t a x => show gstore (genv x T) t P (genv a T) h = _; rw [gstore_eq, genv_eq, genv_eq]; rfl
  | nilCheck x => show gnil (genv x T) h = _; rw [gnil_eq, genv_eq]; rfl
  | binOp op t x y t2 => exact gbin_eq op Γ P t x y T h
  | convert src dst x => show gconv (genv x T) src dst P h = _; rw [gconv_eq, genv_eq]; rfl
  | fieldAddr s x f => show gfield (genv x T) f s P h = _; rw [gfield_eq, genv_eq]; rfl
  | indexAddr t x i => show gindex (genv x T) (genv i T) t P h = _; rw [gindex_eq, genv_eq, genv_eq]; rfl
  | extract x i => show gextract (genv x T) i h = _; rw [gextract_eq, genv_eq]; rfl
  | call c => exact gcall_eq c P call T h
  | _ => rfl
/-! ### regions -/
abbrev GT := List Fact -> Program -> SCall -> Array Oper -> Tr SV -> Mem -> SLate -> RRes
noncomputable def gr1 : SRes -> Option Tmp -> GT -> List Fact -> Program -> SCall -> Array Oper -> Tr SV -> SLate -> RRes := @Option.rec (SV × Mem) (fun _ => Option Tmp -> GT -> List Fact -> Program -> SCall -> Array Oper -> Tr SV -> SLate -> RRes) (fun _ _ _ _ _ _ _ _ => none)
  (@Prod.rec SV Mem (fun _ => Option Tmp -> GT -> List Fact -> Program -> SCall -> Array Oper -> Tr SV -> SLate -> RRes) (fun v h d k Γ P call ops T D => k Γ P call ops (gput d v T) h D))
noncomputable def gstep1 : Bool -> Oper -> GT -> GT := @Bool.rec (fun _ => Oper -> GT -> GT) (fun o k Γ P call ops T h D => gr1 (gop o.op Γ P call T h) o.dst k Γ P call ops T D) (fun o k Γ P call ops T h D => fstep Γ P call ops o (k Γ P call ops) T h D)
noncomputable def gstep0 : Option (Nat × Bool) -> Oper -> GT -> GT := @Option.rec (Nat × Bool) (fun _ => Oper -> GT -> GT) (fun o k => gstep1 (isDef o.op) o k) (fun _ o k Γ P call ops T h D => fstep Γ P call ops o (k Γ P call ops) T h D)
noncomputable def gregion : List Oper -> GT := @List.rec Oper (fun _ => GT) (fun Γ P call ops T h D => some (T, h, D)) (fun o _ k => gstep0 o.guard o k)
theorem gregion_eq (Γ : List Fact) (P : Program) (call : SCall) (ops : Array Oper) : ∀ (l : List Oper) (T : Tr SV) (h : Mem) (D : SLate), gregion l Γ P call ops T h D = fregion Γ P call ops l T h D := by
  intro l
  induction l with
  | nil => intro T h D; rfl
  | cons o r ih =>
    intro T h D
    have hk : gregion r Γ P call ops = fregion Γ P call ops r := by funext T h D; exact ih T h D
    show gstep0 o.guard o (gregion r) Γ P call ops T h D = fstep Γ P call ops o (fregion Γ P call ops r) T h D
    cases hg : o.guard with
    | some g => show fstep Γ P call ops o (gregion r Γ P call ops) T h D = _; rw [hk]
    | none =>
      show gstep1 (isDef o.op) o (gregion r) Γ P call ops T h D = _
      cases hd : isDef o.op with
      | true => show fstep Γ P call ops o (gregion r Γ P call ops) T h D = _; rw [hk]
      | false =>
        show gr1 (gop o.op Γ P call T h) o.dst (gregion r) Γ P call ops T D = _
        rw [gop_eq]
        simp only [fstep, hd, cond_false, hg, fwanted, frun2]
        cases fop Γ P call o.op (senv T) h with
        | none => rfl
        | some p =>
          obtain ⟨v, h'⟩ := p
          show gregion r Γ P call ops (gput o.dst v T) h' D = fregion Γ P call ops r (sput T o.dst v) h' D
          rw [gput_eq, hk]
/-! ### regions whose order is open -/
abbrev DT := Nat -> List Fact -> Program -> SCall -> Array Oper -> Tr SV -> List (Nat × Mem) -> Mem -> WRes
noncomputable def gpushH : Bool -> Nat -> Mem -> List (Nat × Mem) -> List (Nat × Mem) := @Bool.rec (fun _ => Nat -> Mem -> List (Nat × Mem) -> List (Nat × Mem)) (fun _ _ Hs => Hs) (fun k h Hs => (k, h) :: Hs)
theorem gpushH_eq (b : Bool) (k : Nat) (h : Mem) (Hs : List (Nat × Mem)) : gpushH b k h Hs = (bif b then (k, h) :: Hs else Hs) := by cases b <;> rfl
noncomputable def gd3 : Bool -> SV -> Mem -> Oper -> Item -> DT -> DT := @Bool.rec (fun _ => SV -> Mem -> Oper -> Item -> DT -> DT) (fun _ _ _ _ _ _ _ _ _ _ _ _ _ => none) (fun v h' o x k k1 Γ P call ops T Hs h => k k1 Γ P call ops (gput o.dst v T) (gpushH x.e k1 h' Hs) h')
noncomputable def gchk : List Nat -> Program -> Oper -> Tr SV -> SV -> List (Nat × Mem) -> Bool := @List.rec Nat (fun _ => Program -> Oper -> Tr SV -> SV -> List (Nat × Mem) -> Bool) (fun _ _ _ _ _ => true) (fun b r _ P o T v Hs => schk P o (senv T) v Hs (b :: r))
theorem gchk_eq (l : List Nat) (P : Program) (o : Oper) (T : Tr SV) (v : SV) (Hs : List (Nat × Mem)) : gchk l P o T v Hs = schk P o (senv T) v Hs l := by cases l <;> rfl
noncomputable def gd2 : SRes -> Oper -> Item -> DT -> DT := @Option.rec (SV × Mem) (fun _ => Oper -> Item -> DT -> DT) (fun _ _ _ _ _ _ _ _ _ _ _ => none)
  (@Prod.rec SV Mem (fun _ => Oper -> Item -> DT -> DT) (fun v h' o x k k1 Γ P call ops T Hs h => gd3 (gchk x.chk P o T v Hs) v h' o x k k1 Γ P call ops T Hs h))
noncomputable def gd1 : Option (Nat × Bool) -> Oper -> Item -> DT -> DT := @Option.rec (Nat × Bool) (fun _ => Oper -> Item -> DT -> DT) (fun o x k k1 Γ P call ops T Hs h => gd2 (gop o.op Γ P call T h) o x k k1 Γ P call ops T Hs h) (fun _ o x k k1 Γ P call ops T Hs h => fdraw1 Γ P call o x k1 (k k1 Γ P call ops) T Hs h (fwanted ops T o.guard))
noncomputable def gd0 : Option Oper -> Item -> DT -> DT := @Option.rec Oper (fun _ => Item -> DT -> DT) (fun _ _ _ _ _ _ _ _ _ _ => none) (fun o x k => gd1 o.guard o x k)
/-- The operation of a number: made once. -/
def opAt (ops : Array Oper) (i : Nat) : Option Oper := ops[i]?
noncomputable def gdraw : List Item -> DT := @List.rec Item (fun _ => DT) (fun k Γ P call ops T Hs h => some (T, h)) (fun x _ ih k Γ P call ops T Hs h => gd0 (opAt ops x.i) x ih (Nat.succ k) Γ P call ops T Hs h)
theorem gdraw_eq (Γ : List Fact) (P : Program) (call : SCall) (ops : Array Oper) : ∀ (l : List Item) (k : Nat) (T : Tr SV) (Hs : List (Nat × Mem)) (h : Mem), gdraw l k Γ P call ops T Hs h = fdraw Γ P call ops l k T Hs h := by
  intro l
  induction l with
  | nil => intro k T Hs h; rfl
  | cons x r ih =>
    intro k T Hs h
    have hk : gdraw r (k + 1) Γ P call ops = fdraw Γ P call ops r (k + 1) := by funext T Hs h; exact ih (k + 1) T Hs h
    show gd0 ops[x.i]? x (gdraw r) (k + 1) Γ P call ops T Hs h = fdraw0 Γ P call ops x (k + 1) (fdraw Γ P call ops r (k + 1)) T Hs h ops[x.i]?
    cases ops[x.i]? with
    | none => rfl
    | some o =>
      show gd1 o.guard o x (gdraw r) (k + 1) Γ P call ops T Hs h = fdraw1 Γ P call o x (k + 1) (fdraw Γ P call ops r (k + 1)) T Hs h (fwanted ops T o.guard)
      cases hg : o.guard with
      | some g => show fdraw1 Γ P call o x (k + 1) (gdraw r (k + 1) Γ P call ops) T Hs h (fwanted ops T o.guard) = _; rw [hk, hg]
      | none =>
        show gd2 (gop o.op Γ P call T h) o x (gdraw r) (k + 1) Γ P call ops T Hs h = fdraw2 P o x Hs (k + 1) (fdraw Γ P call ops r (k + 1)) T (fop Γ P call o.op (senv T) h)
        rw [gop_eq]
        cases fop Γ P call o.op (senv T) h with
        | none => rfl
        | some p =>
          obtain ⟨v, h'⟩ := p
          show gd3 (gchk x.chk P o T v Hs) v h' o x (gdraw r) (k + 1) Γ P call ops T Hs h = (bif schk P o (senv T) v Hs x.chk then fdraw Γ P call ops r (k + 1) (sput T o.dst v) (bif x.e then (k + 1, h') :: Hs else Hs) h' else none)
          rw [gchk_eq]
          cases schk P o (senv T) v Hs x.chk with
          | false => rfl
          | true =>
            show gdraw r (k + 1) Γ P call ops (gput o.dst v T) (gpushH x.e (k + 1) h' Hs) h' = _
            rw [gput_eq, gpushH_eq, hk]; rfl
/-! ### code -/
abbrev NT := List Fact -> Program -> SCall -> Nat -> Nat -> CK -> Tr SV -> Mem -> SLate -> CRes
noncomputable def gn3 : RRes -> CRes := @Option.rec (Tr SV × Mem × SLate) (fun _ => CRes) none (fun p => some (.normal, p))
theorem gn3_eq (r : RRes) : gn3 r = fregR r := by cases r <;> rfl
noncomputable def gn2 : WRes -> SLate -> CRes := @Option.rec (Tr SV × Mem) (fun _ => SLate -> CRes) (fun _ => none) (@Prod.rec (Tr SV) Mem (fun _ => SLate -> CRes) (fun T h D => some (.normal, T, h, D)))
theorem gn2_eq (r : WRes) (D : SLate) : gn2 r D = fregN D r := by
  cases r with
  | none => rfl
  | some p => cases p; rfl
/-- A plan, where it is one: made once. -/
def gplan (P : Program) (ops : Array Oper) : Option (List Item) := bif P.follows .mixedOrders && planOK ops (mkPlan ops).1 (mkPlan ops).2 then some (mkPlan ops).2 else none
noncomputable def gn1 : Option (List Item) -> Array Oper -> List Fact -> Program -> SCall -> Tr SV -> Mem -> SLate -> CRes := @Option.rec (List Item) (fun _ => Array Oper -> List Fact -> Program -> SCall -> Tr SV -> Mem -> SLate -> CRes) (fun _ _ _ _ _ _ _ => none) (fun pl ops Γ P call T h D => gn2 (gdraw pl 0 Γ P call ops T [(0, h)] h) D)
noncomputable def gn0 : Bool -> Array Oper -> List Fact -> Program -> SCall -> Tr SV -> Mem -> SLate -> CRes := @Bool.rec (fun _ => Array Oper -> List Fact -> Program -> SCall -> Tr SV -> Mem -> SLate -> CRes) (fun ops Γ P call T h D => gn3 (gregion ops.toList Γ P call ops T h D)) (fun ops Γ P call T h D => gn1 (gplan P ops) ops Γ P call T h D)
noncomputable def gnr : Bool -> Array Oper -> Bool -> List Fact -> Program -> SCall -> Tr SV -> Mem -> SLate -> CRes := @Bool.rec (fun _ => Array Oper -> Bool -> List Fact -> Program -> SCall -> Tr SV -> Mem -> SLate -> CRes) (fun _ _ _ _ _ _ _ _ => none) (fun ops d => gn0 d ops)
theorem gnr_eq (n : Nat) (ops : Array Oper) (d : Bool) (Γ : List Fact) (P : Program) (call : SCall) (T : Tr SV) (h : Mem) (D : SLate) : gnr (dstOk n ops) ops d Γ P call T h D = freg Γ P call n ops d T h D := by
  unfold freg
  cases dstOk n ops with
  | false => rfl
  | true =>
    cases d with
    | false => show gn3 (gregion ops.toList Γ P call ops T h D) = _; rw [gn3_eq, gregion_eq]; rfl
    | true =>
      show gn1 (gplan P ops) ops Γ P call T h D = fregD Γ P call ops T h D (mkPlan ops)
      unfold gplan fregD
      cases (P.follows .mixedOrders && planOK ops (mkPlan ops).1 (mkPlan ops).2) with
      | false => rfl
      | true => show gn2 (gdraw (mkPlan ops).2 0 Γ P call ops T [(0, h)] h) D = _; rw [gn2_eq, gdraw_eq]; rfl
noncomputable def gthen1 : Exit -> (Tr SV -> Mem -> SLate -> CRes) -> Tr SV -> Mem -> SLate -> CRes := @Exit.rec (fun _ => (Tr SV -> Mem -> SLate -> CRes) -> Tr SV -> Mem -> SLate -> CRes) (fun k T h D => k T h D) (fun id k T h D => some (.exit id, T, h, D)) (fun l k T h D => some (.goto l, T, h, D)) (fun k T h D => some (.ret, T, h, D)) (fun c k T h D => some (.panic c, T, h, D)) (fun k T h D => some (.outgrown, T, h, D))
noncomputable def gthen : CRes -> (Tr SV -> Mem -> SLate -> CRes) -> CRes := @Option.rec (Exit × Tr SV × Mem × SLate) (fun _ => (Tr SV -> Mem -> SLate -> CRes) -> CRes) (fun _ => none)
  (@Prod.rec Exit (Tr SV × Mem × SLate) (fun _ => (Tr SV -> Mem -> SLate -> CRes) -> CRes) (fun e => @Prod.rec (Tr SV) (Mem × SLate) (fun _ => (Tr SV -> Mem -> SLate -> CRes) -> CRes) (fun T => @Prod.rec Mem SLate (fun _ => (Tr SV -> Mem -> SLate -> CRes) -> CRes) (fun h D k => gthen1 e k T h D))))
theorem gthen_eq (k : Tr SV -> Mem -> SLate -> CRes) (r : CRes) : gthen r k = fthen k r := by
  cases r with
  | none => rfl
  | some p => obtain ⟨e, T, h, D⟩ := p; cases e <;> rfl
noncomputable def gcond : SV -> Code -> Code -> CK -> Tr SV -> Mem -> SLate -> CRes :=
  @SV.rec (fun _ => Code -> Code -> CK -> Tr SV -> Mem -> SLate -> CRes) (fun _ => Unit)
    (fun kk ee => fun _ _ _ _ _ _ => none)
    (fun bb => @Bool.rec (fun _ => Code -> Code -> CK -> Tr SV -> Mem -> SLate -> CRes) (fun y z k T h D => k z T h D) (fun y z k T h D => k y T h D) bb)
    (fun ll => fun _ _ _ _ _ _ => none)
    (fun vv => fun _ _ _ _ _ _ => none)
    (fun n o => fun _ _ _ _ _ _ => none)
    (fun mm cc o _ => fun _ _ _ _ _ _ => none)
    (fun n o len sz => fun _ _ _ _ _ _ => none)
    (fun mm len cc _ => fun _ _ _ _ _ _ => none)
    (fun cc _ => fun _ _ _ _ _ _ => none)
    (fun cc _ => fun _ _ _ _ _ _ => none)
    (fun ff aa bb _ _ => fun _ _ _ _ _ _ => none)
    () (fun _ _ _ _ => ())
theorem gcond_eq (v : SV) (y z : Code) (k : CK) (T : Tr SV) (h : Mem) (D : SLate) : gcond v y z k T h D = fcond y z k T h D v := by
  cases v with
  | bool b => cases b <;> rfl
  | _ => rfl
noncomputable def gnode : Code -> NT := @Code.rec (fun _ => NT)
  (fun Γ P call n f k T h D => some (.normal, T, h, D))
  (fun id ops d Γ P call n f k T h D => gnr (dstOk n ops) ops d Γ P call T h D)
  (fun x y _ _ Γ P call n f k T h D => gthen (k x T h D) (k y))
  (fun x y z _ _ Γ P call n f k T h D => gcond (genv x T) y z k T h D)
  (fun id x _ Γ P call n f k T h D => fblock id (k x T h D))
  (fun x _ Γ P call n f k T h D => gthen (k x T h D) (k (.loop x)))
  (fun _ _ _ _ _ _ Γ P call n f k T h D => none)
  (fun id Γ P call n f k T h D => some (.exit id, T, h, D))
  (fun x _ Γ P call n f k T h D => fscope x k f (k x T h D))
  (fun l Γ P call n f k T h D => some (.normal, T, h, D))
  (fun l Γ P call n f k T h D => some (.goto l, T, h, D))
  (fun Γ P call n f k T h D => some (.ret, T, h, D))
  (fun _ Γ P call n f k T h D => none)
theorem gnode_eq (c : Code) (Γ : List Fact) (P : Program) (call : SCall) (n f : Nat) (k : CK) (T : Tr SV) (h : Mem) (D : SLate) : gnode c Γ P call n f k T h D = fnode Γ P call n f k c T h D := by
  cases c with
  | region id ops d => exact gnr_eq n ops d Γ P call T h D
  | seq x y => exact gthen_eq (k y) (k x T h D)
  | loop x => exact gthen_eq (k (.loop x)) (k x T h D)
  | cond x y z => show gcond (genv x T) y z k T h D = _; rw [gcond_eq, genv_eq]; rfl
  | _ => rfl
noncomputable def grun (Γ : List Fact) (P : Program) (call : SCall) (n : Nat) : Nat -> CK := @Nat.rec (fun _ => CK) (fun _ _ _ _ => none) (fun f k c => gnode c Γ P call n f k)
theorem grun_eq (Γ : List Fact) (P : Program) (call : SCall) (n : Nat) : ∀ f, grun Γ P call n f = frun Γ P call n f := by
  intro f
  induction f with
  | zero => rfl
  | succ f ih =>
    funext c T h D
    show gnode c Γ P call n f (grun Γ P call n f) T h D = fnode Γ P call n f (frun Γ P call n f) c T h D
    rw [ih, gnode_eq]
/-! ### functions -/
noncomputable def gbody1 (Γ : List Fact) (P : Program) (F : Nat) (call : SCall) (f : FuncId) (args : List SV) (h : Mem) (fn : Func) : Option Code -> Option (Func × Tr SV × Mem × SLate)
  | some code => bif isGo P f && Nat.ble args.length fn.ntmps && Nat.blt fn.ntmps 1000000 then fbody2 fn (grun Γ P call fn.ntmps F code (sargs 0 args .nil) h []) else none
  | none => none
noncomputable def gbody (Γ : List Fact) (P : Program) (F : Nat) (call : SCall) (f : FuncId) (args : List SV) (h : Mem) : Option Func -> Option (Func × Tr SV × Mem × SLate)
  | some fn => gbody1 Γ P F call f args h fn fn.body
  | none => none
theorem gbody_eq (Γ : List Fact) (P : Program) (F : Nat) (call : SCall) (f : FuncId) (args : List SV) (h : Mem) (o : Option Func) : gbody Γ P F call f args h o = fbody Γ P F call f args h o := by
  cases o with
  | none => rfl
  | some fn =>
    simp only [gbody, fbody]
    cases fn.body with
    | none => rfl
    | some code => simp only [gbody1, fbody1, grun_eq]
def fnAt (P : Program) (f : FuncId) : Option Func := P.funcs[f]?
noncomputable def gcall1 (Γ : List Fact) (P : Program) (F : Nat) (call : SCall) (f : FuncId) (args : List SV) (h : Mem) : Option (List SV -> Mem -> SRes) -> SRes
  | some g => g args h
  | none => fcallE P (sdef Γ P F call) (gbody Γ P F call f args h (fnAt P f))
noncomputable def gscall (Γ : List Fact) (P : Program) (F : Nat) (ovr : FuncId -> Option (List SV -> Mem -> SRes)) : Nat -> SCall := @Nat.rec (fun _ => SCall) (fun _ _ _ => none) (fun _ call f args h => gcall1 Γ P F call f args h (ovr f))
theorem gscall_eq (Γ : List Fact) (P : Program) (F : Nat) (ovr : FuncId -> Option (List SV -> Mem -> SRes)) : ∀ d, gscall Γ P F ovr d = scall Γ P F ovr d := by
  intro d
  rw [<- fscall_eq]
  induction d with
  | zero => rfl
  | succ d ih =>
    funext f args h
    show gcall1 Γ P F (gscall Γ P F ovr d) f args h (ovr f) = fcall1 Γ P F (fscall Γ P F ovr d) f args h (ovr f)
    rw [ih]
    cases ovr f with
    | some g => rfl
    | none => simp only [gcall1, fcall1, gbody_eq, fnAt]
end Go.Proofs.YtjinjfblilacaaaGreat.Den
end
