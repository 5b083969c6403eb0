/- Regions whose order is open: which operations may float, and what they need. -/
import Derived.Test.YtpgoddffacgcmaaDenL
namespace Go.Proofs.Ytpgoddffacgcmaa.Den
variable {P : Program}

/-- It acts: a store, a call, an append, a copy. -/
def isE (o : Oper) : Bool :=
  match o.op with
  | .store _ _ _ => true
  | .call c =>
    match c.callee with
    | .builtin .append => true
    | .builtin .copy => true
    | .builtin _ => false
    | _ => true
  | _ => false

/-- It looks at no memory. -/
def pnO (o : Oper) (ρ : Env) : Bool :=
  match o.op with
  | .load _ _ => false
  | .slice _ x _ _ _ =>
    match ρ x with
    | .ptr _ _ => false
    | _ => true
  | .convert _ _ x =>
    match ρ x with
    | .val _ => true
    | _ => false
  | _ => true

def ext (H : AHeap) (nm : Name) : Option (List AV) → AHeap
  | none => H
  | some r => upd H nm (some r)

def Sub (H H₂ : AHeap) : Prop := ∀ n row, H n = some row → H₂ n = some row

theorem aslice_indep {t : TypeId} {x : AV} {lo hi : Option AV} {H H₂ : AHeap} (hx : ∀ n off, x ≠ .ptr n off) : aslice P t x lo hi H = aslice P t x lo hi H₂ := by
  cases x with
  | ptr n off => exact absurd rfl (hx n off)
  | val v => cases v <;> first | rfl | (rename_i a l c; cases a <;> cases l <;> cases c <;> rfl)
  | _ => rfl

theorem map_pair {α : Type} {o : Option α} {f : α → AV} {v : AV} {H H' : AHeap} (h : o.map (fun a => (f a, H)) = some (v, H')) : H' = H ∧ ∀ H₂ : AHeap, o.map (fun a => (f a, H₂)) = some (v, H₂) := by
  cases o with
  | none => cases h
  | some a => cases h; exact ⟨rfl, fun _ => rfl⟩

theorem map_pair' {o : Option AV} {v : AV} {H H' : AHeap} (h : o.map (·, H) = some (v, H')) : H' = H ∧ ∀ H₂ : AHeap, o.map (·, H₂) = some (v, H₂) := map_pair (f := id) h

theorem aop_pn {call : CallF} {o : Oper} {ρ : Env} {nm : Name} {H H' : AHeap} {v : AV} (he : isE o = false) (hp : pnO o ρ = true) (h : aop P call o ρ nm H = some (v, H')) :
    ∃ x, H' = ext H nm x ∧ ∀ H₂, aop P call o ρ nm H₂ = some (v, ext H₂ nm x) := by
  obtain ⟨dst, op, ty, pos, after, guard⟩ := o
  have same : (H' = H ∧ ∀ H₂ : AHeap, aop P call ⟨dst, op, ty, pos, after, guard⟩ ρ nm H₂ = some (v, H₂)) → ∃ x, H' = ext H nm x ∧ ∀ H₂, aop P call ⟨dst, op, ty, pos, after, guard⟩ ρ nm H₂ = some (v, ext H₂ nm x) :=
    fun ⟨h1, h2⟩ => ⟨none, h1, h2⟩
  cases op with
  | move x => cases h; exact ⟨none, rfl, fun _ => rfl⟩
  | assign x => cases h; exact ⟨none, rfl, fun _ => rfl⟩
  | pick c x y =>
    simp only [aop] at h ⊢
    split at h
    · cases h; exact ⟨none, rfl, fun _ => rfl⟩
    · cases h
  | alloc e =>
    simp only [aop] at h ⊢
    cases hz : zeroCellsA P e with
    | none => simp [hz] at h
    | some z => simp only [hz, Option.map_some, Option.some.injEq, Prod.mk.injEq] at h; obtain ⟨rfl, rfl⟩ := h; exact ⟨some z, rfl, fun _ => rfl⟩
  | box e x => cases h; exact ⟨some _, rfl, fun _ => rfl⟩
  | build t parts =>
    refine same ?_
    simp only [aop] at h ⊢
    split at h
    · cases hp : places P _ with
      | none => simp [hp] at h
      | some ps => simp only [hp, Option.bind_some] at h ⊢; exact map_pair (f := .agg) h
    · cases hs : szOf P _ with
      | none => simp [hs] at h
      | some s => simp only [hs, Option.bind_some] at h ⊢; exact map_pair (f := .agg) h
    · cases h
  | buildSlice t len parts =>
    simp only [aop] at h ⊢
    split at h
    · split at h
      · split at h
        · rename_i hc
          cases hf : fillA _ _ _ with
          | none => rw [hf] at h; cases h
          | some l =>
            rw [hf] at h
            cases h
            refine ⟨some l, rfl, fun H₂ => ?_⟩
            rw [if_pos hc]
            rfl
        · cases h
      · cases h
    · cases h
  | load t x => simp [pnO] at hp
  | store t x y => simp [isE] at he
  | nilCheck x =>
    refine same ?_
    simp only [aop] at h ⊢
    split at h <;> cases h <;> exact ⟨rfl, fun _ => rfl⟩
  | binOp op t x y t2 =>
    refine same ?_
    cases op <;> simp only [aop] at h ⊢ <;> first
      | exact map_pair' h
      | (split at h
         · exact map_pair (f := .val) h
         · cases h)
  | unOp op t x =>
    refine same ?_
    cases op <;> simp only [aop] at h ⊢ <;> first
      | (cases h; done)
      | (split at h <;> cases h <;> exact ⟨rfl, fun _ => rfl⟩)
  | convert src dst' x =>
    simp only [pnO] at hp
    simp only [aop] at h ⊢
    split at h
    · split at h
      · split at h
        · rename_i hu
          cases h
          refine ⟨some _, rfl, fun H₂ => ?_⟩
          rw [if_pos hu]; rfl
        · cases h
      · obtain ⟨h1, h2⟩ := map_pair (f := .val) h
        exact ⟨none, h1, h2⟩
    · split at h
      · split at h
        · rename_i hu
          cases h
          refine ⟨none, rfl, fun H₂ => ?_⟩
          rw [if_pos hu]; rfl
        · cases h
      · cases h
    · obtain ⟨h1, h2⟩ := map_pair (f := .val) h
      exact ⟨none, h1, h2⟩
    · rename_i h1 h2 h3
      split at hp
      · rename_i y hy; exact absurd hy (h3 y)
      · cases hp
  | makeFunc fn first captured => cases h; exact ⟨none, rfl, fun _ => rfl⟩
  | makeSlice t l c =>
    simp only [aop] at h ⊢
    split at h
    · split at h
      · split at h
        · rename_i hc
          cases h
          refine ⟨some _, rfl, fun H₂ => ?_⟩
          rw [if_pos hc]; rfl
        · cases h
      · cases h
    · cases h
  | slice t x lo hi mx =>
    cases mx with
    | some m => simp [aop] at h
    | none =>
      refine same ?_
      simp only [pnO] at hp
      simp only [aop] at h ⊢
      have hx : ∀ n off, ρ x ≠ .ptr n off := by
        intro n off e; rw [e] at hp; cases hp
      obtain ⟨h1, h2⟩ := map_pair' h
      exact ⟨h1, fun H₂ => by rw [aslice_indep hx (H₂ := H)]; exact h2 H₂⟩
  | fieldAddr s x f => exact same (map_pair' h)
  | field t x f =>
    refine same ?_
    simp only [aop] at h ⊢
    split at h
    · rename_i fs l _ _
      cases hf : fs[f]? with
      | none => simp [hf] at h
      | some fl => simp only [hf, Option.bind_some] at h ⊢; exact map_pair' h
    · cases h
  | indexAddr t x i => exact same (map_pair' h)
  | index t x i => exact same (map_pair' h)
  | extract x i =>
    refine same ?_
    simp only [aop] at h ⊢
    split at h
    · exact map_pair' h
    · cases h
  | call c =>
    refine same ?_
    simp only [isE] at he
    simp only [aop] at h ⊢
    split at h
    · rename_i b hb
      rw [hb] at he
      unfold abuiltin at h ⊢
      split at h
      · rename_i x _
        cases e : c.argTypes[0]? with
        | none => simp [e] at h
        | some t => simp only [e, Option.bind_some] at h ⊢; exact map_pair' h
      · cases he
      · cases he
      · cases h; exact ⟨rfl, fun _ => rfl⟩
      · cases h; exact ⟨rfl, fun _ => rfl⟩
      · split at h
        · rename_i hk; cases h; exact ⟨rfl, fun _ => by rw [if_pos hk]⟩
        · cases h
      · cases h; exact ⟨rfl, fun _ => rfl⟩
      · cases h; exact ⟨rfl, fun _ => rfl⟩
      · cases h
    · rename_i f hf; rw [hf] at he; cases he
    · cases h
  | _ => simp [aop] at h

theorem srcCells_mono {H H₂ : AHeap} (hs : Sub H H₂) {size : Nat} {x : AV} {r : Nat × List AV} (h : srcCells H size x = some r) : srcCells H₂ size x = some r := by
  unfold srcCells at h ⊢
  split at h
  · exact h
  · exact h
  · split at h
    · rename_i n off len sz hz
      rw [if_pos hz]
      cases e : H n with
      | none => simp [e] at h
      | some row => rw [hs n row e]; rw [e] at h; exact h
    · cases h
  · exact h
  · cases h

theorem aload_mono {H H₂ : AHeap} (hs : Sub H H₂) {t : TypeId} {x r : AV} (h : aload P t x H = some r) : aload P t x H₂ = some r := by
  cases hg : aggB P t with
  | none => cases x <;> simp [aload, hg] at h
  | some g =>
    cases hz : szOf P t with
    | none => cases x <;> cases g <;> simp [aload, hg, hz] at h
    | some size =>
      cases x with
      | ptr n off =>
        cases hn : H n with
        | none => cases g <;> simp [aload, hg, hz, hn] at h
        | some row => cases g <;> simp only [aload, hg, hz, hn, hs n row hn] at h ⊢ <;> exact h
      | imp m cells off => cases g <;> simp only [aload, hg, hz] at h ⊢ <;> exact h
      | _ => simp [aload] at h

/-- A load finds the same in more memory. -/
theorem aop_ld {call : CallF} {o : Oper} {ρ : Env} {nm : Name} {H H' : AHeap} {v : AV} (he : isE o = false) (hp : pnO o ρ = false) (h : aop P call o ρ nm H = some (v, H')) :
    H' = H ∧ ∀ H₂, Sub H H₂ → aop P call o ρ nm H₂ = some (v, H₂) := by
  obtain ⟨dst, op, ty, pos, after, guard⟩ := o
  cases op with
  | load t x =>
    simp only [aop] at h ⊢
    cases e : aload P t (ρ x) H with
    | none => simp [e] at h
    | some r =>
      rw [e] at h; cases h
      refine ⟨rfl, fun H₂ hs => ?_⟩
      have : aload P t (ρ x) H₂ = some v := aload_mono hs e
      rw [this]; rfl
  | slice t x lo hi mx =>
    cases mx with
    | some m => simp [aop] at h
    | none =>
      simp only [pnO] at hp
      split at hp
      · rename_i n off hx
        simp only [aop, hx] at h ⊢
        cases e : aslice P t (.ptr n off) (lo.map ρ) (hi.map ρ) H with
        | none => simp [e] at h
        | some r =>
          rw [e] at h; cases h
          refine ⟨rfl, fun H₂ hs => ?_⟩
          have : aslice P t (.ptr n off) (lo.map ρ) (hi.map ρ) H₂ = some v := by
            simp only [aslice] at e ⊢
            split at e
            · split at e
              · cases hn : H n with
                | none => simp [hn] at e
                | some row => rw [hs n row hn]; rw [hn] at e; exact e
              · cases e
            · cases e
          rw [this]; rfl
      · cases hp
  | convert src dst' x =>
    simp only [pnO] at hp
    simp only [aop] at h ⊢
    split at h
    · rename_i s hs; rw [hs] at hp; cases hp
    · rename_i l c hs; rw [hs] at hp; cases hp
    · rename_i u _ _ hs; rw [hs] at hp; cases hp
    · split at h
      · split at h
        · rename_i hu
          cases e : srcCells H 1 (ρ x) with
          | none => simp [e] at h
          | some kc =>
            obtain ⟨k, cells⟩ := kc
            simp only [e, Option.bind_some] at h
            obtain ⟨h1, h2⟩ := map_pair (f := fun l : List UInt8 => .val (.string ⟨l.toArray⟩)) h
            refine ⟨h1, fun H₂ hs => ?_⟩
            rw [if_pos hu, srcCells_mono hs e]
            exact h2 H₂
        · cases h
      · cases h
  | _ => first | (simp [pnO] at hp; done) | (simp [isE] at he)

/-- What an operation does not name it does not make. -/
theorem aop_dom {call : CallF} (hcall : ∀ f args nm H r H', call f args nm H = some (r, H') → ∀ n, H n = none → ¬ Under nm n → H' n = none)
    {o : Oper} {ρ : Env} {nm : Name} {H H' : AHeap} {v : AV} (h : aop P call o ρ nm H = some (v, H')) : ∀ n, H n = none → ¬ Under nm n → H' n = none := by
  intro n hn hu
  have hne : n ≠ nm := by rintro rfl; exact hu ⟨[], rfl⟩
  by_cases he : isE o = true
  · obtain ⟨dst, op, ty, pos, after, guard⟩ := o
    cases op with
    | store t x y =>
      simp only [aop] at h
      cases e : astore P t (ρ x) (ρ y) H with
      | none => simp [e] at h
      | some H₁ =>
        rw [e] at h; cases h
        unfold astore at e
        split at e
        · rename_i m off _
          split at e
          · cases hm : H m with
            | none => simp [hm] at e
            | some row =>
              simp only [hm, Option.bind_some] at e
              split at e <;> cases e
              rw [upd_ne]; exact hn
              rintro rfl; rw [hn] at hm; cases hm
          · cases e
        · cases e
    | call c =>
      simp only [aop] at h
      simp only [isE] at he
      split at h
      · rename_i b hb
        unfold abuiltin at h
        split at h
        · rename_i x hx
          rw [hb] at he; cases he
        · rename_i s x hx
          cases e : c.argTypes[0]? with
          | none => simp [e] at h
          | some t =>
            cases e2 : c.argTypes[1]? with
            | none => simp [e, e2] at h
            | some xt =>
              simp only [e, e2, Option.bind_some] at h
              unfold aappend at h
              split at h
              · split at h
                · split at h
                  · split at h
                    · split at h
                      · split at h
                        · cases h; exact hn
                        · split at h <;> cases h
                          rw [upd_ne _ _ hne]; exact hn
                      · rename_i m off len sz
                        cases hm : H m with
                        | none => simp [hm] at h
                        | some row =>
                          simp only [hm, Option.bind_some] at h
                          split at h <;> cases h
                          rw [upd_ne _ _ hne]
                          by_cases e3 : n = m
                          · subst e3; rw [upd_same]
                          · rw [upd_ne _ _ e3]; exact hn
                      · cases h
                    · cases h
                  · cases h
                · cases h
              · cases h
        · rename_i d x hx
          cases e : c.argTypes[0]? with
          | none => simp [e] at h
          | some t =>
            simp only [e, Option.bind_some] at h
            unfold acopy at h
            split at h
            · split at h
              · rename_i s row kn hs hm _
                split at h <;> cases h
                rw [upd_ne]; exact hn
                rintro rfl; rw [hn] at hm; cases hm
              · cases h
            · cases h
        all_goals first | (cases h; done) | (rw [hb] at he; cases he)
      · unfold acall at h
        split at h
        · exact hcall _ _ _ _ _ _ h n hn hu
        · cases h
      · cases h
    | _ => simp [isE] at he
  · have he' : isE o = false := by simpa using he
    by_cases hp : pnO o ρ = true
    · obtain ⟨x, rfl, _⟩ := aop_pn he' hp h
      cases x with
      | none => exact hn
      | some r => simp only [ext]; rw [upd_ne _ _ hne]; exact hn
    · obtain ⟨rfl, _⟩ := aop_ld he' (by simpa using hp) h
      exact hn

theorem aop_congr {call : CallF} {o : Oper} {ρ ρ' : Env} {nm : Name} {H : AHeap} (h : ∀ x ∈ o.op.operands, ρ x = ρ' x) : aop P call o ρ nm H = aop P call o ρ' nm H := by
  obtain ⟨dst, op, ty, pos, after, guard⟩ := o
  have hparts : ∀ ps : Array (Nat × Operand), (∀ x ∈ (ps.toList.map (·.2)).toArray, ρ x = ρ' x) → (ps.toList.map fun (i, x) => (i, ρ x)) = (ps.toList.map fun (i, x) => (i, ρ' x)) := by
    intro ps hp
    refine List.map_congr_left ?_
    rintro ⟨i, x⟩ hx
    have := hp x (by simp; exact ⟨i, by simpa using hx⟩)
    simp [this]
  have hlist : ∀ l : Array Operand, (∀ x ∈ l, ρ x = ρ' x) → l.toList.map ρ = l.toList.map ρ' := fun l hl => List.map_congr_left fun x hx => hl x (Array.mem_toList_iff.1 hx)
  cases op with
  | build t parts => simp only [aop, hparts parts h]
  | buildSlice t len parts => simp only [aop, hparts parts h]
  | makeFunc fn first captured =>
    simp only [Op.operands, Array.mem_append] at h
    simp only [aop, hlist first (fun x hx => h x (.inl hx)), hlist captured (fun x hx => h x (.inr hx))]
  | call c =>
    simp only [Op.operands, Call.operands, Array.mem_append] at h
    have ha := hlist c.args (fun x hx => h x (.inr hx))
    simp only [aop, ha]
    cases hc : c.callee with
    | builtin b => rfl
    | value f =>
      have : ρ f = ρ' f := h f (.inl (by rw [hc]; simp))
      simp only [this]
    | invoke r m => rfl
  | slice t x lo hi mx =>
    cases mx with
    | some m => rfl
    | none =>
      simp only [Op.operands, Array.mem_append] at h
      have hx : ρ x = ρ' x := h x (by simp)
      have hlo : lo.map ρ = lo.map ρ' := by
        cases lo with
        | none => rfl
        | some y => simp [h y (by simp)]
      have hhi : hi.map ρ = hi.map ρ' := by
        cases hi with
        | none => rfl
        | some y => simp [h y (by simp)]
      simp only [aop, hx, hlo, hhi]
  | binOp op t x y t2 =>
    have hx : ρ x = ρ' x := h x (by simp [Op.operands])
    have hy : ρ y = ρ' y := h y (by simp [Op.operands])
    cases op <;> simp only [aop, hx, hy]
  | unOp op t x =>
    have hx : ρ x = ρ' x := h x (by simp [Op.operands])
    cases op <;> simp only [aop, hx]
  | pick a b c => simp only [aop, h a (by simp [Op.operands]), h b (by simp [Op.operands]), h c (by simp [Op.operands])]
  | store t a b => simp only [aop, h a (by simp [Op.operands]), h b (by simp [Op.operands])]
  | makeSlice t a b => simp only [aop, h a (by simp [Op.operands]), h b (by simp [Op.operands])]
  | indexAddr t a b => simp only [aop, h a (by simp [Op.operands]), h b (by simp [Op.operands])]
  | index t a b => simp only [aop, h a (by simp [Op.operands]), h b (by simp [Op.operands])]
  | move x => simp only [aop, h x (by simp [Op.operands])]
  | assign x => simp only [aop, h x (by simp [Op.operands])]
  | box e x => simp only [aop, h x (by simp [Op.operands])]
  | load e x => simp only [aop, h x (by simp [Op.operands])]
  | nilCheck x => simp only [aop, h x (by simp [Op.operands])]
  | convert a b x => simp only [aop, h x (by simp [Op.operands])]
  | fieldAddr a x f => simp only [aop, h x (by simp [Op.operands])]
  | field a x f => simp only [aop, h x (by simp [Op.operands])]
  | extract x f => simp only [aop, h x (by simp [Op.operands])]
  | _ => rfl

end Go.Proofs.Ytpgoddffacgcmaa.Den
