/- Equality of arrays of bytes, as an operation of the abstract memory. -/
import Derived.Test.YtjinjfblilacaaaGreatKDenM
import Derived.Test.YtjinjfblilacaaaGreatKCdA
import Derived.Test.YtjinjfblilacaaaGreatKDenF
import Derived.LoopN
import Derived.Defers
set_option linter.unusedVariables false
set_option linter.unusedSimpArgs false
section
set_option linter.unusedSimpArgs false
set_option linter.unusedVariables false
set_option maxRecDepth 100000
namespace Go.Proofs.YtjinjfblilacaaaGreat.Den
open Go
variable {P : Program}
theorem peek_bind {α β : Type} (s : Sem α) (f : α -> Sem β) : peek P (s >>= f) = (peek P s).bind fun a => peek P (f a) := by
  show peek P (Sem.bind s f) = _
  induction s with
  | pure a => rfl
  | program k ih => exact ih P
  | mark m k ih => exact ih
  | _ => rfl
theorem peek_pure {α : Type} (a : α) : peek P (pure a : Sem α) = some a := rfl
theorem peek_map {α β : Type} (s : Sem α) (f : α -> β) : peek P (f <$> s) = (peek P s).map f := by
  rw [map_eq_pure_bind, peek_bind]
  cases peek P s <;> rfl
theorem peek_underlying {t : TypeId} {d : TypeDesc} (h : P.underlying t = some d) : peek P (underlying t) = some d := by
  simp only [underlying, peek_bind]
  show (peek P (Sem.program _)).bind _ = _
  simp [peek, h, peek_pure]
theorem peek_sizeOf {t : TypeId} {s : Nat} (h : szOf P t = some s) : peek P (sizeOf t) = some s := by
  obtain ⟨i, hi, hs⟩ := info_of_size h
  simp only [sizeOf, typeInfo, peek_bind]
  show (Option.bind ((peek P (Sem.program _)).bind _) _) = _
  simp [peek, hi, peek_pure, hs]
theorem peek_loop {g : Nat -> Sem Bool} {b : Nat -> Bool} : ∀ l : List Nat, (∀ i ∈ l, peek P (g i) = some (b i)) ->
    peek P (forIn l ((none : Option Bool), ()) fun i _ => do if !(<- g i) then pure (ForInStep.done (some false, ())) else pure (ForInStep.yield (none, ()))) = some (if l.all b then (none, ()) else (some false, ()))
  | [], _ => rfl
  | i :: l, hg => by
    rw [List.forIn_cons]
    simp only [peek_bind, hg i (by simp), Option.bind_some]
    cases h : b i with
    | true =>
      simp only [Bool.not_true, Bool.false_eq_true, if_false, peek_pure, Option.bind_some, List.all_cons, h, Bool.true_and]
      exact peek_loop l fun j hj => hg j (List.mem_cons_of_mem _ hj)
    | false => simp [peek_pure, h]
theorem peek_eq_array {d n : Nat} {t e : TypeId} {xs ys : Array Value} {b : Nat -> Bool} (hu : P.underlying t = some (.array n e)) {s : Nat} (hs : szOf P e = some s)
    (hb : ∀ i, i < n -> peek P (do Op.equalIn d e (<- part e xs (i * s)) (<- part e ys (i * s))) = some (b i)) :
    peek P (Op.equalIn (d + 1) t (.agg xs) (.agg ys)) = some ((List.range n).all b) := by
  unfold Op.equalIn
  rw [peek_bind, peek_underlying hu]
  simp only [Option.bind_some]
  rw [peek_bind, peek_sizeOf hs]
  simp only [Option.bind_some, Std.Legacy.Range.forIn_eq_forIn_range', Std.Legacy.Range.size, Nat.sub_zero, Nat.add_sub_cancel, Nat.div_one]
  rw [peek_bind]
  have := peek_loop (P := P) (g := fun i => do Op.equalIn d e (<- part e xs (i * s)) (<- part e ys (i * s))) (b := b) (List.range' 0 n 1) fun i hi => hb i (by
    have := List.mem_range'.1 hi
    omega)
  simp only [bind_assoc] at this
  rw [this, <- List.range_eq_range']
  cases (List.range n).all b <;> rfl
theorem allVals_map (l : List UInt8) : allVals (l.map fun b : UInt8 => AV.val (.int .u8 b.toNat)) = some (l.map fun b => .int .u8 b.toNat) := by
  induction l with
  | nil => rfl
  | cons b l ih => simp only [List.map_cons, allVals] at ih ⊢; rw [ih]; rfl
theorem peek_part {e : TypeId} {d : TypeDesc} (he : P.underlying e = some (.int .u8)) {xs : Array Value} {i : Nat} {v : Value} (hx : xs[i]? = some v) : peek P (part e xs i) = some v := by
  simp only [part, peek_bind, isAgg, peek_underlying he, Option.bind_some, peek_pure]
  simp [hx, peek_pure]
theorem peek_int {e : TypeId} (he : P.underlying e = some (.int .u8)) (d : Nat) (a b : Int) : peek P (Op.equalIn (d + 1) e (.int .u8 a) (.int .u8 b)) = some (a == b) := by
  unfold Op.equalIn
  rw [peek_bind, peek_underlying he]
  simp [peek_pure]
theorem range_all_eq : ∀ (l l' : List UInt8), l.length = l'.length -> ((List.range l.length).all fun i => (((l.getD i 0).toNat : Int) == ((l'.getD i 0).toNat : Int))) = (l == l') := by
  intro l l' h
  rw [Bool.eq_iff_iff]
  simp only [List.all_eq_true, List.mem_range, beq_iff_eq]
  constructor
  · intro hh
    refine List.ext_getElem h fun i h1 h2 => ?_
    have := hh i h1
    rw [List.getD_eq_getElem?_getD, List.getD_eq_getElem?_getD, List.getElem?_eq_getElem h1, List.getElem?_eq_getElem h2] at this
    simp only [Option.getD_some] at this
    exact UInt8.toNat_inj.1 (by omega)
  · rintro rfl i _; rfl
/-- Two arrays of bytes. -/
theorem aeq_map {t e : TypeId} {n : Nat} (hu : P.underlying t = some (.array n e)) (he : P.underlying e = some (.int .u8)) (hs : szOf P e = some 1) (hdep : P.eqGuardType P.depth t = false) {l l' : List UInt8} (hl : l.length = n) (hl' : l'.length = n) (neg : Bool) (x y : Operand) :
    aeq P neg t x y (.agg (l.map fun b : UInt8 => AV.val (.int .u8 b.toNat))) (.agg (l'.map fun b : UInt8 => AV.val (.int .u8 b.toNat))) = some (.val (.bool ((l == l') != neg))) := by
  have h1 : AV.toVal? (.agg (l.map fun b : UInt8 => AV.val (.int .u8 b.toNat))) = some (.agg (l.map fun b => Value.int .u8 b.toNat).toArray) := by simp only [AV.toVal?, allVals_map, Option.map_some]
  have h2 : AV.toVal? (.agg (l'.map fun b : UInt8 => AV.val (.int .u8 b.toNat))) = some (.agg (l'.map fun b => Value.int .u8 b.toNat).toArray) := by simp only [AV.toVal?, allVals_map, Option.map_some]
  have hcell : ∀ (k : List UInt8) (i : Nat), k.length = n -> i < n -> ((k.map fun b => Value.int .u8 (b.toNat : Int)).toArray)[i * 1]? = some (.int .u8 ((k.getD i 0).toNat : Int)) := fun k i hk hi => by
    rw [Nat.mul_one, List.getElem?_toArray, List.getElem?_map, List.getD_eq_getElem?_getD, List.getElem?_eq_getElem (by omega)]
    rfl
  have heq : peek P (Op.equal t (.agg (l.map fun b => Value.int .u8 b.toNat).toArray) (.agg (l'.map fun b => Value.int .u8 b.toNat).toArray)) = some (l == l') := by
    have := peek_eq_array (P := P) (d := 9999) (b := fun i => (((l.getD i 0).toNat : Int) == ((l'.getD i 0).toNat : Int))) hu hs (xs := (l.map fun b => Value.int .u8 b.toNat).toArray) (ys := (l'.map fun b => Value.int .u8 b.toNat).toArray) fun i hi => by
      rw [peek_bind, peek_part (d := .int .u8) he (hcell l i hl hi), Option.bind_some, peek_bind, peek_part (d := .int .u8) he (hcell l' i hl' hi), Option.bind_some]
      exact peek_int he 9998 _ _
    rw [<- hl, range_all_eq l l' (by omega)] at this
    exact this
  have hprog : peek P program = some P := rfl
  have hguard : peek P (eqGuard (if neg then .neq else .eql) t x y (.agg (l.map fun b => Value.int .u8 b.toNat).toArray) (.agg (l'.map fun b => Value.int .u8 b.toNat).toArray)) = some () := by
    unfold eqGuard
    cases neg <;> simp [peek_bind, hprog, hdep, peek_pure]
  simp only [aeq, h1, h2, peek_bind, hguard, Option.bind_some]
  cases neg <;> simp [binOp, peek_bind, heq, peek_pure, peek_map]
end Go.Proofs.YtjinjfblilacaaaGreat.Den
end
section
set_option linter.unusedSimpArgs false
namespace Go.Proofs.YtjinjfblilacaaaGreat.Den
variable {P : Program} {ρ : Vals} {ν : Nat -> Option Name}
theorem bytesA_map : ∀ {c : List AV} {l : List UInt8}, bytesA c = some l -> c = l.map fun b : UInt8 => AV.val (.int .u8 b.toNat)
  | [], l, h => by cases h; rfl
  | a :: r, l, h => by
    unfold bytesA at h
    split at h
    · rename_i hc; cases hc
    · rename_i n r' hc
      cases hc
      split at h
      · rename_i hn
        simp only [Option.map_eq_some_iff] at h
        obtain ⟨k, h1, rfl⟩ := h
        rw [List.map_cons, <- bytesA_map h1]
        congr 3
        simp; omega
      · cases h
    · cases h
theorem sbytes_all : ∀ {l : List SV} {es : List IE}, sbytes l = some es -> es.all IE.isByte = true
  | [], es, h => by simp only [sbytes, Option.some.injEq] at h; subst h; rfl
  | a :: r, es, h => by
    unfold sbytes at h
    split at h
    · rename_i hc; cases hc
    · rename_i e r' hc
      cases hc
      cases hb : e.isByte with
      | false => rw [hb] at h; cases h
      | true =>
        rw [hb] at h
        simp only [cond_true, Option.map_eq_some_iff] at h
        obtain ⟨k, h1, rfl⟩ := h
        simp only [List.all_cons, hb, sbytes_all h1, Bool.and_self]
    · cases h
theorem byteArray_toList (l : List UInt8) : (⟨l.toArray⟩ : ByteArray).toList = l := by
  rw [ByteArray.toList_eq]
theorem seq_ok {Γ : List Fact} (hF : FOk ρ Γ) {neg : Bool} {t : TypeId} {x y : Operand} {a b r : SV} {u v : AV} (ha : SRel ρ ν a u) (hb : SRel ρ ν b v) (h : seq Γ P neg t x y a b = some r) :
    ∃ z, aeq P neg t x y u v = some z /\ SRel ρ ν r z := by
  unfold seq at h
  split at h
  · rename_i k e k' e'
    cases ha; cases hb
    cases hc : decide (k = k') with
    | false => rw [hc] at h; cases h
    | true =>
      rw [hc] at h
      simp only [decide_eq_true_eq] at hc
      subst hc
      simp only [cond_true, Option.map_eq_some_iff] at h
      obtain ⟨q, h1, rfl⟩ := h
      cases neg
      · have := binV_cmp (k := k) (cmpE_ok (ρ := ρ) hF h1)
        simp only [cond_false] at this
        exact ⟨_, by simp only [aeq, Bool.false_eq_true, if_false]; rw [this], .bool q⟩
      · have := binV_cmp (k := k) (cmpE_ok (ρ := ρ) hF h1)
        simp only [cond_true] at this
        exact ⟨_, by simp only [aeq, if_true]; rw [this], .bool q⟩
  · rename_i e e'
    cases ha; cases hb
    cases hc : (e.all IE.isByte && e'.all IE.isByte) with
    | false => rw [hc] at h; cases h
    | true =>
      rw [hc] at h
      simp only [Bool.and_eq_true] at hc
      simp only [cond_true, Option.map_eq_some_iff] at h
      obtain ⟨q, h1, rfl⟩ := h
      have := eqEs_ok hF hc.1 hc.2 h1
      cases neg
      · exact ⟨.val (.bool q), by simp only [aeq, Bool.false_eq_true, if_false, binV, this], by simpa using SRel.bool q⟩
      · exact ⟨.val (.bool !q), by simp only [aeq, if_true, binV, this], by simpa using SRel.bool (!q)⟩
  · rename_i p q
    cases ha; cases hb
    simp only [Option.map_eq_some_iff] at h
    obtain ⟨w, h1, rfl⟩ := h
    refine ⟨.val w, ?_, sconst_rel w⟩
    cases neg
    · simp only [aeq, Bool.false_eq_true, if_false] at h1 ⊢
      simp only [binV]
      rw [h1]; rfl
    · simp only [aeq, if_true] at h1 ⊢
      simp only [binV]
      rw [h1]; rfl
  · rename_i p q
    cases ha; cases hb
    simp only [aeq]
    split at h
    · rename_i w h1
      cases h
      rw [h1]
      exact ⟨_, rfl, sconst_rel w⟩
    · rename_i h1
      simp only [Option.map_eq_some_iff] at h
      obtain ⟨w, h2, rfl⟩ := h
      rw [h1, h2]
      exact ⟨_, rfl, sconst_rel w⟩
  · rename_i l l'
    split at h
    · rename_i p q h1 h2
      have g1 := toVal_ok ha h1
      have g2 := toVal_ok hb h2
      cases ha; cases hb
      simp only [Option.map_eq_some_iff] at h
      obtain ⟨w, h3, rfl⟩ := h
      simp only [aeq, g1, g2, h3]
      exact ⟨_, rfl, sconst_rel w⟩
    · cases hc : (u8arr P t l.length && Nat.beq l.length l'.length) with
      | false => rw [hc] at h; cases h
      | true =>
        rw [hc] at h
        simp only [cond_true] at h
        simp only [Bool.and_eq_true] at hc
        have hl := Nat.eq_of_beq_eq_true hc.2
        split at h
        · rename_i es es' h1 h2
          simp only [Option.map_eq_some_iff] at h
          obtain ⟨q, h3, rfl⟩ := h
          cases ha with
          | agg ha =>
            cases hb with
            | agg hb =>
              obtain ⟨b1, e1, f1⟩ := sbytes_ok ha h1
              obtain ⟨b2, e2, f2⟩ := sbytes_ok hb h2
              have k1 := bytesA_map e1
              have k2 := bytesA_map e2
              have n1 : b1.length = l.length := by have := congrArg List.length k1; rw [List.length_map] at this; rw [<- this, <- ha.length]
              have n2 : b2.length = l.length := by have := congrArg List.length k2; rw [List.length_map] at this; rw [<- this, <- hb.length, hl]
              have hq := eqEs_ok hF (sbytes_all h1) (sbytes_all h2) h3
              have hq2 : (b1 == b2) = q := by
                rw [f1, f2] at hq
                have t1 : (⟨b1.toArray⟩ : ByteArray).toList = b1 := by rw [byteArray_toList]
                have t2 : (⟨b2.toArray⟩ : ByteArray).toList = b2 := by rw [byteArray_toList]
                rw [t1, t2] at hq
                exact hq
              have hu := hc.1
              unfold u8arr at hu
              split at hu
              · rename_i m e hu1
                simp only [Bool.and_eq_true, Bool.not_eq_true'] at hu
                obtain ⟨⟨⟨u1, u2⟩, u3⟩, u4⟩ := hu
                have u1 := Nat.eq_of_beq_eq_true u1
                have u2' : P.underlying e = some (.int .u8) := by
                  unfold isU8 at u2
                  split at u2
                  · assumption
                  · cases u2
                have u3' : szOf P e = some 1 := by
                  split at u3
                  · rename_i k hk; rw [hk, Nat.eq_of_beq_eq_true u3]
                  · cases u3
                rw [k1, k2]
                exact ⟨_, aeq_map hu1 u2' u3' u4 (by rw [n1, u1]) (by rw [n2, u1]) neg x y, by rw [hq2]; exact .bool _⟩
              · cases hu
        · cases h
  · rename_i w _
    cases hb
    simp only [Option.map_eq_some_iff] at h
    obtain ⟨q, h1, rfl⟩ := h
    have h2 := nilEq_ok ha h1
    refine ⟨.val (.bool (q != neg)), ?_, .bool _⟩
    unfold SV.nilEq at h1
    split at h1 <;> first | (cases ha; simp only [aeq, h2]; rfl) | cases h1
  · cases h
theorem map_rel {ρs : SEnv} {ρa : Env} (he : ∀ x, SRel ρ ν (ρs x) (ρa x)) : ∀ l : List Operand, SRels ρ ν (l.map ρs) (l.map ρa)
  | [] => .nil
  | x :: l => .cons (he x) (map_rel he l)
theorem omap_rel {ρs : SEnv} {ρa : Env} (he : ∀ x, SRel ρ ν (ρs x) (ρa x)) (l : Option Operand) : ORel ρ ν (l.map ρs) (l.map ρa) := by
  cases l with
  | none => trivial
  | some x => exact he x
theorem sconv_ok {h h' : Mem} {H : AHeap} (hm : MRel ρ ν h H) {nm : Name} (hf : Fre ν nm) {call : CallF} {o : Oper} {src dst : TypeId} {x : Operand} (ho : o.op = .convert src dst x) {ρa : Env} {a r : SV} (ha : SRel ρ ν a (ρa x)) (hr : sconv P src dst a h = some (r, h')) :
    ∃ z H', aop P call o ρa nm H = some (z, H') /\ Out ρ ν nm r h' z H' := by
  unfold aop
  simp only [ho]
  generalize ρa x = y at ha
  unfold sconv at hr
  split at hr
  · rename_i s
    cases ha
    split at hr
    · rename_i e h1 h2
      cases hc : (isU8 (P.underlying e) && s.all IE.isByte) with
      | false => rw [hc] at hr; cases hr
      | true =>
        rw [hc] at hr
        cases hr
        simp only [Bool.and_eq_true] at hc
        exact ⟨.im true s.length _, _, by simp only [h1, h2]; rw [if_pos hc.1, strOf_size], .same hm (.im (bytes_rel s hc.2))⟩
    · rename_i h1 h2
      cases hr
      exact ⟨_, _, by simp only [h1, h2, convV]; rfl, .same hm (.str s)⟩
    · cases hr
  · rename_i k e
    cases ha
    split at hr
    · rename_i d k' h1 h2
      cases hr
      exact ⟨.val (.int k' (k'.wrap (e.den ρ))), H, by simp [h1, h2, convV], .same hm (by rw [<- wrapE_ok]; exact .int k' (wrapE k' e))⟩
    · rename_i d fk h1 h2
      split at hr
      · rename_i n
        simp only [Option.map_eq_some_iff] at hr
        obtain ⟨v, h3, hr⟩ := hr
        cases hr
        exact ⟨.val v, H, by simp only [IE.den]; rw [h3]; rfl, .same hm (sconst_rel v)⟩
      · cases hr
    · cases hr
  · cases ha
    split at hr
    · rename_i e h1 h2
      cases hc : isU8 (P.underlying e) with
      | false => rw [hc] at hr; cases hr
      | true =>
        rw [hc] at hr
        cases hr
        exact ⟨.val (.string .empty), H, by simp only [h1, h2]; rw [if_pos hc], .same hm (.str [])⟩
    · cases hr
  · cases ha
    simp only [Option.map_eq_some_iff] at hr
    obtain ⟨v, h3, hr⟩ := hr
    cases hr
    exact ⟨.val v, H, by simp only []; rw [h3]; rfl, .same hm (sconst_rel v)⟩
  · rename_i n off len sz
    cases ha with
    | @sl _ _ _ _ m hn =>
      split at hr
      · rename_i e h1 h2
        cases hc : isU8 (P.underlying e) with
        | false => rw [hc] at hr; cases hr
        | true =>
          rw [hc] at hr
          simp only [cond_true, Option.bind_eq_some_iff, Option.map_eq_some_iff] at hr
          obtain ⟨⟨k, cells⟩, h3, l, h4, hr⟩ := hr
          cases hr
          obtain ⟨xs, h5, h6⟩ := ssrc_ok hm.rows (.sl hn) h3
          obtain ⟨bs, h7, h8⟩ := sbytes_ok h6 h4
          refine ⟨.val (.string (strOf ρ l)), H, ?_, .same hm (.str l)⟩
          simp only [h1, h2]
          rw [if_pos hc, h5]
          simp only [Option.bind_some, h7, Option.map_some, h8]
      · rename_i e0 e h1 h2
        cases hc : (decide (src = dst) && isU8 (P.underlying e)) with
        | false => rw [hc] at hr; cases hr
        | true =>
          rw [hc] at hr
          simp only [cond_true, Option.bind_eq_some_iff, Option.map_eq_some_iff] at hr
          obtain ⟨row, hrow, l, hl, hr⟩ := hr
          cases hr
          simp only [Bool.and_eq_true, decide_eq_true_eq] at hc
          obtain ⟨m', row', h3, h4, h5⟩ := hm.rows n row hrow
          rw [hn] at h3; cases h3
          obtain ⟨h6, h7⟩ := h5.seg hl
          refine ⟨.im true len _, upd H m none, ?_, .same (hm.drop hn) (.im h6)⟩
          simp only [h1, h2, h4, Option.bind_some]
          rw [if_pos ⟨hc.1, hc.2, h7⟩]
      · cases hr
  · rename_i m len c
    cases ha with
    | @im _ _ _ c' hcs =>
      split at hr
      · rename_i e h1 h2
        cases hc : isU8 (P.underlying e) with
        | false => rw [hc] at hr; cases hr
        | true =>
          rw [hc] at hr
          simp only [cond_true, Option.bind_eq_some_iff, Option.map_eq_some_iff] at hr
          obtain ⟨⟨k, cells⟩, h3, l, h4, hr⟩ := hr
          cases hr
          obtain ⟨xs, h5, h6⟩ := ssrc_ok hm.rows (.im hcs) h3
          obtain ⟨bs, h7, h8⟩ := sbytes_ok h6 h4
          refine ⟨.val (.string (strOf ρ l)), H, ?_, .same hm (.str l)⟩
          simp only [h1, h2]
          rw [if_pos hc, h5]
          simp only [Option.bind_some, h7, Option.map_some, h8]
      · cases hr
  · cases hr
end Go.Proofs.YtjinjfblilacaaaGreat.Den
end
section
set_option linter.unusedSimpArgs false
namespace Go.Proofs.YtjinjfblilacaaaGreat.Den
variable {P : Program} {ρ : Vals} {ν : Nat -> Option Name}
theorem sbuiltin_ok {h h' : Mem} {H : AHeap} (hm : MRel ρ ν h H) {nm : Name} (hf : Fre ν nm) {b : Builtin} {ts : Array TypeId} {args : List SV} {xs : List AV} {r : SV} (ha : SRels ρ ν args xs) (hr : sbuiltin P b ts args h = some (r, h')) :
    ∃ z H', abuiltin P b ts xs nm H = some (z, H') /\ Out ρ ν nm r h' z H' := by
  unfold sbuiltin at hr
  split at hr
  · cases ha with
    | cons h1 ht =>
      cases ht
      simp only [Option.bind_eq_some_iff, Option.map_eq_some_iff] at hr
      obtain ⟨t, h2, q, h3, hr⟩ := hr
      cases hr
      obtain ⟨z, h4, h5⟩ := slen_ok h1 h3
      exact ⟨z, H, by simp [abuiltin, h2, h4], .same hm h5⟩
  · cases ha with
    | cons h1 ht =>
      cases ht with
      | cons h2 ht =>
        cases ht
        simp only [Option.bind_eq_some_iff] at hr
        obtain ⟨t, h3, xt, h4, hr⟩ := hr
        obtain ⟨z, H', h5, h6⟩ := sappend_ok hm hf h1 h2 hr
        exact ⟨z, H', by simp [abuiltin, h3, h4, h5], h6⟩
  · cases ha with
    | cons h1 ht =>
      cases ht with
      | cons h2 ht =>
        cases ht
        simp only [Option.bind_eq_some_iff] at hr
        obtain ⟨t, h3, hr⟩ := hr
        obtain ⟨z, H', h5, h6, h7⟩ := scopy_ok hm h1 h2 hr
        exact ⟨z, H', by simp [abuiltin, h3, h5], .same h6 h7⟩
  · cases ha with
    | cons h1 ht => cases h1; cases ht with
      | cons h2 ht =>
        cases h2; cases ht; cases hr
        rename_i k x k' y
        refine ⟨_, H, rfl, .same hm ?_⟩
        have e : (bif decide (y < x) then y else x) = (if y < x then y else x) := by by_cases hlt : y < x <;> simp [hlt]
        rw [e]
        exact SRel.int (ρ := ρ) (ν := ν) k (.lit (if y < x then y else x))
  · cases ha with
    | cons h1 ht => cases h1; cases ht with
      | cons h2 ht =>
        cases h2; cases ht; cases hr
        rename_i k x k' y
        refine ⟨_, H, rfl, .same hm ?_⟩
        have e : (bif decide (x < y) then y else x) = (if x < y then y else x) := by by_cases hlt : x < y <;> simp [hlt]
        rw [e]
        exact SRel.int (ρ := ρ) (ν := ν) k (.lit (if x < y then y else x))
  · cases ha with
    | cons h1 ht => cases h1; cases ht with
      | cons h2 ht =>
        cases h2; cases ht
        rename_i k a k' b
        cases hc : decide (k = k') with
        | false => rw [hc] at hr; cases hr
        | true =>
          rw [hc] at hr
          cases hr
          simp only [decide_eq_true_eq] at hc
          exact ⟨_, H, by simp only [abuiltin]; rw [if_pos hc], .same hm (.val _)⟩
  · cases ha with
    | cons h1 ht => cases h1; cases ht; cases hr; exact ⟨_, H, rfl, .same hm (.val _)⟩
  · cases ha with
    | cons h1 ht => cases h1; cases ht; cases hr; exact ⟨_, H, rfl, .same hm (.val _)⟩
  · cases hr
/-- Calls of the executor are steps. -/
def SCallOK (P : Program) (ρ : Vals) (sc : SCall) : Prop :=
  ∀ f args h r h', sc f args h = some (r, h') -> isGo P f = true /\ ∀ (ν : Nat -> Option Name) (H : AHeap) (nm : Name) (xs : List AV), MRel ρ ν h H -> Fre ν nm -> SRels ρ ν args xs -> ∃ z H', Sim P f xs nm H z H' /\ Out ρ ν nm r h' z H'
abbrev Tab := FuncId -> List AV -> AHeap -> Res
def callAt (nm : Name) (tb : Tab) : CallF := fun f a n H => if n = nm then tb f a H else none
def TabOK (P : Program) (nm : Name) (tb : Tab) : Prop := ∀ f a H r H', tb f a H = some (r, H') -> isGo P f = true /\ Sim P f a nm H r H'
def noTab : Tab := fun _ _ _ => none
theorem noTab_ok (nm : Name) : TabOK P nm noTab := fun _ _ _ _ _ h => by cases h
open Classical in
noncomputable def oneTab (f : FuncId) (a : List AV) (H : AHeap) (r : AV) (H' : AHeap) : Tab := fun f₁ a₁ H₁ => if f₁ = f /\ a₁ = a /\ H₁ = H then some (r, H') else none
theorem sparts_rel {ρs : SEnv} {ρa : Env} (he : ∀ x, SRel ρ ν (ρs x) (ρa x)) (l : List (Nat × Operand)) :
    (l.map fun (i, x) => (i, ρs x)).map (·.1) = (l.map fun (i, x) => (i, ρa x)).map (·.1) /\ SRels ρ ν ((l.map fun (i, x) => (i, ρs x)).map (·.2)) ((l.map fun (i, x) => (i, ρa x)).map (·.2)) := by
  induction l with
  | nil => exact ⟨rfl, .nil⟩
  | cons p l ih => exact ⟨by simp, .cons (he p.2) ih.2⟩
theorem sop_ok {Γ : List Fact} (hF : FOk ρ Γ) {sc : SCall} (hsc : SCallOK P ρ sc) {o : Oper} {ρs : SEnv} {ρa : Env} (he : ∀ x, SRel ρ ν (ρs x) (ρa x)) {h h' : Mem} {H : AHeap} (hm : MRel ρ ν h H) {nm : Name} (hf : Fre ν nm) {r : SV}
    (hr : sop Γ P sc o ρs h = some (r, h')) : ∃ tb, TabOK P nm tb /\ ∃ z H', aop P (callAt nm tb) o ρa nm H = some (z, H') /\ Out ρ ν nm r h' z H' := by
  have no : (∃ z H', aop P (callAt nm noTab) o ρa nm H = some (z, H') /\ Out ρ ν nm r h' z H') -> ∃ tb, TabOK P nm tb /\ ∃ z H', aop P (callAt nm tb) o ρa nm H = some (z, H') /\ Out ρ ν nm r h' z H' := fun h => ⟨noTab, noTab_ok nm, h⟩
  obtain ⟨dst, op, ty, pos, after, guard⟩ := o
  cases op with
  | move x => cases hr; exact no ⟨_, H, rfl, .same hm (he x)⟩
  | assign x => cases hr; exact no ⟨_, H, rfl, .same hm (he x)⟩
  | pick c a b =>
    refine no ?_
    simp only [sop] at hr
    have hc := he c
    split at hr
    · rename_i t ht
      rw [ht] at hc
      generalize hv : ρa c = v at hc
      cases hc
      cases hr
      refine ⟨if t then ρa a else ρa b, H, by simp only [aop, hv], .same hm ?_⟩
      cases t
      · exact he b
      · exact he a
    · cases hr
  | alloc e =>
    refine no ?_
    simp only [sop, Option.map_eq_some_iff] at hr
    obtain ⟨z, h1, hr⟩ := hr
    cases hr
    obtain ⟨zs, h2, h3⟩ := szeros_ok (ρ := ρ) (ν := ν) h1
    exact ⟨.ptr nm 0, _, by simp only [aop, h2, Option.map_some], .push hm hf h3 fun ν' hn => .ptr hn⟩
  | box e x =>
    cases hr
    exact no ⟨.ptr nm 0, _, rfl, .push hm hf (scells_rel (he x)) fun ν' hn => .ptr hn⟩
  | build t parts =>
    refine no ?_
    simp only [sop] at hr
    obtain ⟨p1, p2⟩ := sparts_rel he parts.toList
    split at hr
    · rename_i z fs hz hu
      simp only [Option.bind_eq_some_iff, Option.map_eq_some_iff] at hr
      obtain ⟨ps, h1, l, h2, hr⟩ := hr
      cases hr
      obtain ⟨zs, h3, h4⟩ := szeros_ok (ρ := ρ) (ν := ν) hz
      obtain ⟨ys, h5, h6⟩ := sfill_ok p1 p2 h4 h2
      exact ⟨.agg ys, H, by simp only [aop, h3, hu, h1, Option.bind_some, h5, Option.map_some], .same hm (.agg h6)⟩
    · rename_i z n e hz hu
      simp only [Option.bind_eq_some_iff, Option.map_eq_some_iff] at hr
      obtain ⟨s, h1, l, h2, hr⟩ := hr
      cases hr
      obtain ⟨zs, h3, h4⟩ := szeros_ok (ρ := ρ) (ν := ν) hz
      obtain ⟨ys, h5, h6⟩ := sfill_ok p1 p2 h4 h2
      exact ⟨.agg ys, H, by simp only [aop, h3, hu, h1, Option.bind_some, h5, Option.map_some], .same hm (.agg h6)⟩
    · cases hr
  | buildSlice t len parts =>
    refine no ?_
    simp only [sop] at hr
    obtain ⟨p1, p2⟩ := sparts_rel he parts.toList
    split at hr
    · rename_i e hu
      split at hr
      · rename_i s z hs hz
        cases hc : (Nat.beq z.length s && !Nat.beq s 0 && Nat.ble (len * s) 16777216) with
        | false => rw [hc] at hr; cases hr
        | true =>
          rw [hc] at hr
          simp only [cond_true, Option.map_eq_some_iff] at hr
          obtain ⟨l, h2, hr⟩ := hr
          cases hr
          simp only [Bool.and_eq_true, Bool.not_eq_true'] at hc
          obtain ⟨zs, h3, h4⟩ := szeros_ok (ρ := ρ) (ν := ν) hz
          obtain ⟨ys, h5, h6⟩ := sfill_ok p1 p2 (srow_ok h4 len) h2
          have c1 := Nat.eq_of_beq_eq_true hc.1.1
          rw [h4.length] at c1
          have c2 : s ≠ 0 := by rintro rfl; simp at hc
          refine ⟨.sl nm 0 len s, _, ?_, .push hm hf h6 fun ν' hn => .sl hn⟩
          simp only [aop, hu, hs, h3]
          rw [if_pos ⟨c1, c2, Nat.le_of_ble_eq_true hc.2⟩, h5]
          rfl
      · cases hr
    · cases hr
  | load t x =>
    refine no ?_
    simp only [sop, Option.map_eq_some_iff] at hr
    obtain ⟨q, h1, hr⟩ := hr
    cases hr
    obtain ⟨z, h2, h3⟩ := sload_rel hm.rows (he x) h1
    exact ⟨z, H, by simp only [aop, h2, Option.map_some], .same hm h3⟩
  | store t x y =>
    refine no ?_
    simp only [sop, Option.map_eq_some_iff] at hr
    obtain ⟨q, h1, hr⟩ := hr
    cases hr
    obtain ⟨H', h2, h3⟩ := sstore_rel hm (he x) (he y) h1
    exact ⟨.val undef, H', by simp only [aop, h2, Option.map_some], .same h3 (.val _)⟩
  | nilCheck x =>
    refine no ?_
    simp only [sop] at hr
    have hx := he x
    split at hr
    · rename_i n off hq
      rw [hq] at hx
      generalize hv : ρa x = v at hx
      cases hx with
      | ptr hn => cases hr; exact ⟨_, H, by simp only [aop, hv], .same hm (.ptr hn)⟩
    · rename_i m c off hq
      rw [hq] at hx
      generalize hv : ρa x = v at hx
      cases hx with
      | imp hn => cases hr; exact ⟨_, H, by simp only [aop, hv], .same hm (.imp hn)⟩
    · rename_i f a b hq
      rw [hq] at hx
      generalize hv : ρa x = v at hx
      cases hx with
      | fn h1 h2 => cases hr; exact ⟨_, H, by simp only [aop, hv], .same hm (.fn h1 h2)⟩
    · cases hr
  | binOp op t x y t2 =>
    refine no ?_
    by_cases he1 : op = .eql
    · subst he1
      simp only [sop, Option.map_eq_some_iff] at hr
      obtain ⟨q, h1, hr⟩ := hr
      cases hr
      obtain ⟨z, h2, h3⟩ := seq_ok hF (he x) (he y) h1
      exact ⟨z, H, by simp only [aop, h2, Option.map_some], .same hm h3⟩
    · by_cases he2 : op = .neq
      · subst he2
        simp only [sop, Option.map_eq_some_iff] at hr
        obtain ⟨q, h1, hr⟩ := hr
        cases hr
        obtain ⟨z, h2, h3⟩ := seq_ok hF (he x) (he y) h1
        exact ⟨z, H, by simp only [aop, h2, Option.map_some], .same hm h3⟩
      · have e1 : sop Γ P sc ⟨dst, .binOp op t x y t2, ty, pos, after, guard⟩ ρs h = (sbin Γ op (ρs x) (ρs y)).map (·, h) := by
          cases op <;> first | rfl | exact absurd rfl he1 | exact absurd rfl he2
        rw [e1] at hr
        simp only [Option.map_eq_some_iff] at hr
        obtain ⟨q, h1, hr⟩ := hr
        cases hr
        obtain ⟨u, v, w, h2, h3, h4, h5⟩ := sbin_ok hF (he x) (he y) h1
        refine ⟨.val w, H, ?_, .same hm h5⟩
        have e2 : aop P (callAt nm noTab) ⟨dst, .binOp op t x y t2, ty, pos, after, guard⟩ ρa nm H = (match ρa x, ρa y with
            | .val u, .val v => (binV op u v).map (.val ·, H)
            | _, _ => none) := by
          cases op <;> first | rfl | exact absurd rfl he1 | exact absurd rfl he2
        rw [e2, h2, h3]
        simp only [h4, Option.map_some]
  | unOp op t x =>
    refine no ?_
    have hx := he x
    cases op <;> simp only [sop] at hr
    all_goals first | (cases hr; done) | skip
    all_goals
      (split at hr <;> first
        | (cases hr; done)
        | (rename_i hq; rw [hq] at hx; generalize hv : ρa x = v at hx; cases hx; first | (rw [forceI_eq] at hr; cases hr; exact ⟨_, H, by simp only [aop, hv, IE.den], .same hm (.int _ (.lit _))⟩) | (cases hr; exact ⟨_, H, by simp only [aop, hv], .same hm (.bool _)⟩) | (cases hr; rename_i k e _; have hs : SRel ρ ν (.int k (.bin .xor k (.lit (if k.signed then -1 else k.max)) e)) _ := .int k (.bin .xor k (.lit (if k.signed then -1 else k.max)) e); simp only [IE.den, arI, Option.getD_some] at hs; exact ⟨_, H, by simp only [aop, hv], .same hm hs⟩)))
  | convert src dst' x =>
    exact no (sconv_ok hm hf rfl (he x) hr)
  | makeFunc fn first captured =>
    cases hr
    exact no ⟨_, H, rfl, .same hm (.fn (map_rel he _) (map_rel he _))⟩
  | makeSlice t l c =>
    refine no ?_
    simp only [sop] at hr
    split at hr
    · rename_i e ln cn hu hl hc
      split at hr
      · rename_i s z by_ hs hz hb
        cases hcc : (Nat.beq z.length s && !Nat.beq s 0 && Nat.ble ln cn && Nat.ble cn 281474976710656 && Nat.ble (by_ * cn) 281474976710656) with
        | false => rw [hcc] at hr; cases hr
        | true =>
          rw [hcc] at hr
          cases hr
          simp only [Bool.and_eq_true, Bool.not_eq_true'] at hcc
          obtain ⟨⟨⟨⟨c1, c2⟩, c3⟩, c4⟩, c5⟩ := hcc
          obtain ⟨zs, h3, h4⟩ := szeros_ok (ρ := ρ) (ν := ν) hz
          have c1 := Nat.eq_of_beq_eq_true c1
          rw [h4.length] at c1
          have c2' : s ≠ 0 := by rintro rfl; simp at c2
          refine ⟨.sl nm 0 ln s, _, ?_, .push hm hf (srow_ok h4 cn) fun ν' hn => .sl hn⟩
          simp only [aop, hu, snat_rel (he l) hl, snat_rel (he c) hc, hs, h3, hb]
          rw [if_pos ⟨c1, c2', Nat.le_of_ble_eq_true c3, Nat.le_of_ble_eq_true c4, Nat.le_of_ble_eq_true c5⟩]
      · cases hr
    · cases hr
  | slice t x lo hi mx =>
    cases mx with
    | some m => simp [sop] at hr
    | none =>
      refine no ?_
      simp only [sop] at hr
      have hx := he x
      split at hr
      · rename_i n off hq
        rw [hq] at hx
        generalize hv : ρa x = v at hx
        cases hx with
        | @ptr _ _ m hn =>
          split at hr
          · rename_i N e hu
            split at hr
            · rename_i l k sz h1 h2 h3
              simp only [Option.bind_eq_some_iff] at hr
              obtain ⟨row, h4, row₂, h5, hr⟩ := hr
              obtain ⟨m', row', g1, g2, g3⟩ := hm.rows n row h4
              rw [hn] at g1; cases g1
              obtain ⟨_, h6⟩ := sdrop_eq _ _ _ h5
              rw [g3.length] at h6
              cases hc : (Nat.ble l k && Nat.ble k N && !Nat.beq sz 0) with
              | false => rw [hc] at hr; cases hr
              | true =>
                rw [hc] at hr
                simp only [cond_true] at hr
                simp only [Bool.and_eq_true, Bool.not_eq_true'] at hc
                obtain ⟨⟨c1, c2⟩, c3⟩ := hc
                have c3' : sz ≠ 0 := by rintro rfl; simp at c3
                have e2 : aslice P t (.ptr m off) (lo.map ρa) (hi.map ρa) H = (if l = k then some (.im true 0 []) else some (.sl m (off + l * sz) (k - l) sz)) := by
                  simp only [aslice, hu, sbound_ok (omap_rel he lo) h1, sbound_ok (omap_rel he hi) h2, h3, g2, Option.bind_some]
                  rw [if_pos ⟨Nat.le_of_ble_eq_true c1, Nat.le_of_ble_eq_true c2, c3', h6⟩]
                cases hk : Nat.beq l k with
                | true =>
                  rw [hk] at hr; cases hr
                  rw [if_pos (Nat.eq_of_beq_eq_true hk)] at e2
                  exact ⟨_, H, by simp only [aop, hv, e2, Option.map_some], .same hm (.im .nil)⟩
                | false =>
                  rw [hk] at hr; cases hr
                  rw [if_neg (by rintro rfl; simp at hk)] at e2
                  exact ⟨_, H, by simp only [aop, hv, e2, Option.map_some], .same hm (.sl hn)⟩
            · cases hr
          · cases hr
      · simp only [Option.map_eq_some_iff] at hr
        obtain ⟨q, h1, hr⟩ := hr
        cases hr
        obtain ⟨z, h2, h3⟩ := sslice_ok (H := H) hx (omap_rel he lo) (omap_rel he hi) h1
        exact ⟨z, H, by simp only [aop, h2, Option.map_some], .same hm h3⟩
  | fieldAddr s x f =>
    refine no ?_
    simp only [sop, Option.map_eq_some_iff] at hr
    obtain ⟨q, h1, hr⟩ := hr
    cases hr
    obtain ⟨z, h2, h3⟩ := sfieldAddr_ok (he x) h1
    exact ⟨z, H, by simp only [aop, h2, Option.map_some], .same hm h3⟩
  | field t x f =>
    refine no ?_
    simp only [sop] at hr
    have hx := he x
    split at hr
    · rename_i fs l hu hq
      rw [hq] at hx
      generalize hv : ρa x = v at hx
      cases hx with
      | agg hl =>
        simp only [Option.bind_eq_some_iff, Option.map_eq_some_iff] at hr
        obtain ⟨fl, h1, q, h2, hr⟩ := hr
        cases hr
        obtain ⟨z, h3, h4⟩ := spart_ok hl h2
        exact ⟨z, H, by simp only [aop, hu, hv, h1, Option.bind_some, h3, Option.map_some], .same hm h4⟩
    · cases hr
  | indexAddr t x i =>
    refine no ?_
    simp only [sop, Option.map_eq_some_iff] at hr
    obtain ⟨q, h1, hr⟩ := hr
    cases hr
    obtain ⟨z, h2, h3⟩ := sindexAddr_ok (he x) (he i) h1
    exact ⟨z, H, by simp only [aop, h2, Option.map_some], .same hm h3⟩
  | index t x i =>
    refine no ?_
    simp only [sop, Option.map_eq_some_iff] at hr
    obtain ⟨q, h1, hr⟩ := hr
    cases hr
    obtain ⟨z, h2, h3⟩ := sindex_ok (he x) (he i) h1
    exact ⟨z, H, by simp only [aop, h2, Option.map_some], .same hm h3⟩
  | extract x i =>
    refine no ?_
    simp only [sop] at hr
    have hx := he x
    split at hr
    · rename_i l hq
      rw [hq] at hx
      generalize hv : ρa x = v at hx
      cases hx with
      | tup hl =>
        simp only [Option.map_eq_some_iff] at hr
        obtain ⟨q, h1, hr⟩ := hr
        cases hr
        obtain ⟨z, h2, h3⟩ := hl.get h1
        exact ⟨z, H, by simp only [aop, hv, h2, Option.map_some], .same hm h3⟩
    · cases hr
  | call c =>
    simp only [sop] at hr
    split at hr
    · rename_i b hb
      refine no ?_
      obtain ⟨z, H', h1, h2⟩ := sbuiltin_ok hm hf (map_rel he c.args.toList) hr
      exact ⟨z, H', by simp only [aop, hb, h1], h2⟩
    · rename_i f hb
      have hx := he f
      split at hr
      · rename_i fi first captured hq
        rw [hq] at hx
        generalize hv : ρa f = v at hx
        cases hx with
        | fn h1 h2 =>
          rename_i a' b'
          obtain ⟨hgo, hs⟩ := hsc _ _ _ _ _ hr
          obtain ⟨z, H', h3, h4⟩ := hs ν H nm _ hm hf ((h1.append (map_rel he c.args.toList)).append h2)
          refine ⟨oneTab fi (a' ++ c.args.toList.map ρa ++ b') H z H', ?_, z, H', ?_, h4⟩
          · intro f₁ a₁ H₁ r₁ H₂ h5
            unfold oneTab at h5
            split at h5
            · rename_i h6
              obtain ⟨rfl, rfl, rfl⟩ := h6
              cases h5
              exact ⟨hgo, h3⟩
            · cases h5
          · simp only [aop, hb, acall, hv, callAt, if_true]
            unfold oneTab
            rw [if_pos ⟨rfl, rfl, rfl⟩]
      · cases hr
    · cases hr
  | _ => simp [sop] at hr
end Go.Proofs.YtjinjfblilacaaaGreat.Den
end
section
set_option linter.unusedSimpArgs false
namespace Go.Proofs.YtjinjfblilacaaaGreat.Den
variable {P : Program} {ρ : Vals} {ν : Nat -> Option Name}
theorem aop_callcongr {call call' : CallF} {o : Oper} {ρa : Env} {nm : Name} {H : AHeap} (h : ∀ f a H, call f a nm H = call' f a nm H) : aop P call o ρa nm H = aop P call' o ρa nm H := by
  obtain ⟨dst, op, ty, pos, after, guard⟩ := o
  cases op with
  | call c =>
    simp only [aop]
    split
    · rfl
    · unfold acall
      split
      · exact h _ _ _
      · rfl
    · rfl
  | binOp op t x y t2 => cases op <;> rfl
  | unOp op t x => cases op <;> rfl
  | slice t x lo hi mx => cases mx <;> rfl
  | _ => rfl
/-- The temporaries, each as it is meant. -/
def TRel (ρ : Vals) (ν : Nat -> Option Name) (T : Tr SV) (Ta : Temps) : Prop := ∀ t, SRel ρ ν ((T.get t).getD (.val undef)) (Ta t)
theorem TRel.mono {ν' : Nat -> Option Name} (hs : Nu.le ν ν') {T : Tr SV} {Ta : Temps} (h : TRel ρ ν T Ta) : TRel ρ ν' T Ta := fun t => (h t).mono hs
theorem TRel.env {T : Tr SV} {Ta : Temps} (h : TRel ρ ν T Ta) : ∀ x, SRel ρ ν (senv T x) (env Ta x) := by
  intro x
  cases x with
  | tmp t => exact h t
  | const v => exact sconst_rel v
  | global g => exact .val _
  | func f => exact .fn .nil .nil
theorem TRel.put {T : Tr SV} {Ta : Temps} (h : TRel ρ ν T Ta) {d : Option Tmp} (hd : ∀ k, d = some k -> k < 1000000) {v : SV} {x : AV} (hv : SRel ρ ν v x) : TRel ρ ν (sput T d v) (tput Ta d x) := by
  cases d with
  | none => exact h
  | some k =>
    intro t
    have hk := hd k rfl
    have hk' : k + 1 < 2 ^ 60 := Nat.lt_of_lt_of_le (Nat.succ_lt_succ hk) (by decide)
    show SRel ρ ν (((T.put k v).get t).getD (.val undef)) (tset Ta k x t)
    rw [put_get T k v t hk']
    by_cases e : t = k
    · subst e; simpa [tset] using hv
    · simpa [tset, e] using h t
/-- A guard holds where it holds for the executor. -/
theorem swanted_ok {T : Tr SV} {Ta : Temps} (h : TRel ρ ν T Ta) {ops : Array Oper} {o : Oper} {b : Bool} (hs : swanted ops o T = some b) : awanted ops o Ta = b := by
  unfold swanted at hs
  unfold awanted
  split at hs
  · rename_i hg; rw [hg]; cases hs; rfl
  · rename_i j want hg
    rw [hg]
    simp only
    unfold ayielded
    split at hs
    · rename_i d hd
      rw [hd]
      simp only
      have hd' := h d
      split at hs
      · rename_i c hc
        rw [hc] at hd'
        generalize Ta d = y at hd'
        cases hd'
        cases hs
        cases c <;> cases want <;> rfl
      · rename_i c hc
        rw [hc] at hd'
        generalize Ta d = y at hd'
        cases hd'
        cases hs
        rfl
      · cases hs
    · rename_i hd
      rw [hd]
      cases hs
      rfl
def isDefer (o : Oper) : Bool :=
  match o.op with
  | .defer _ => true
  | _ => false
theorem sregion_cons {Γ : List Fact} {sc : SCall} {ops : Array Oper} {o : Oper} {r : List Oper} {T : Tr SV} {h : Mem} {D : SLate} (hn : isDefer o = false) : sregion Γ P sc ops (o :: r) T h D =
    (match swanted ops o T with
      | some true =>
        match sop Γ P sc o (senv T) h with
        | some (v, h') => sregion Γ P sc ops r (sput T o.dst v) h' D
        | none => none
      | some false => sregion Γ P sc ops r (sput T o.dst (.val undef)) h D
      | none => none) := by
  obtain ⟨dst, op, ty, pos, after, guard⟩ := o
  cases op <;> first | rfl | simp [isDefer] at hn
/-- Names from a place on are unused. -/
def FreFrom (ν : Nat -> Option Name) (p : Name) (c : Nat) : Prop := ∀ i, c <= i -> Fre ν (i :: p)
theorem FreFrom.after {p : Name} {c : Nat} (h : FreFrom ν p c) {ν' : Nat -> Option Name} (hn : ∀ n m, ν' n = some m -> ν n = some m \/ Under (c :: p) m) : FreFrom ν' p (c + 1) := by
  intro i hi n s hs
  rcases hn _ _ hs with h1 | ⟨s', h1⟩
  · exact h i (by omega) n s h1
  · have := tail_eq h1; omega
end Go.Proofs.YtjinjfblilacaaaGreat.Den
end
section
set_option linter.unusedSimpArgs false
namespace Go.Proofs.YtjinjfblilacaaaGreat.Den
variable {P : Program} {ρ : Vals} {ν : Nat -> Option Name}
theorem vBeq_eq {u v : Value} (h : vBeq u v = true) : u = v := by
  unfold vBeq at h
  split at h
  · rfl
  · simp only [Bool.and_eq_true] at h; rw [Nat.eq_of_beq_eq_true h.1, Nat.eq_of_beq_eq_true h.2]
  · rfl
  · simp only [Bool.and_eq_true, decide_eq_true_eq] at h; rw [h.1, h.2]
  · simp only [Bool.and_eq_true, decide_eq_true_eq] at h; rw [h.1.1, h.1.2, h.2]
  · rfl
  · cases h
mutual
theorem SV.beq_eq : ∀ {a b : SV}, SV.beq a b = true -> a = b
  | .int k e, b, h => by
    cases b <;> simp only [SV.beq, Bool.and_eq_true, decide_eq_true_eq, reduceCtorEq, Bool.false_eq_true] at h
    rw [h.1, IE.beq_eq h.2]
  | .bool x, b, h => by
    cases b <;> simp only [SV.beq, beq_iff_eq, Bool.false_eq_true] at h
    rw [h]
  | .str l, b, h => by
    cases b <;> simp only [SV.beq, Bool.false_eq_true] at h
    rw [IE.beqs_eq h]
  | .val v, b, h => by
    cases b <;> simp only [SV.beq, Bool.false_eq_true] at h
    rw [vBeq_eq h]
  | .ptr n o, b, h => by
    cases b <;> simp only [SV.beq, Bool.and_eq_true, Bool.false_eq_true] at h
    rw [Nat.eq_of_beq_eq_true h.1, Nat.eq_of_beq_eq_true h.2]
  | .imp m c o, b, h => by
    cases b <;> simp only [SV.beq, Bool.and_eq_true, beq_iff_eq, Bool.false_eq_true] at h
    rw [h.1.1, Nat.eq_of_beq_eq_true h.1.2, SV.beqs_eq h.2]
  | .sl n o l z, b, h => by
    cases b <;> simp only [SV.beq, Bool.and_eq_true, Bool.false_eq_true] at h
    rw [Nat.eq_of_beq_eq_true h.1.1.1, Nat.eq_of_beq_eq_true h.1.1.2, Nat.eq_of_beq_eq_true h.1.2, Nat.eq_of_beq_eq_true h.2]
  | .im m l c, b, h => by
    cases b <;> simp only [SV.beq, Bool.and_eq_true, beq_iff_eq, Bool.false_eq_true] at h
    rw [h.1.1, Nat.eq_of_beq_eq_true h.1.2, SV.beqs_eq h.2]
  | .agg c, b, h => by
    cases b <;> simp only [SV.beq, Bool.false_eq_true] at h
    rw [SV.beqs_eq h]
  | .tup c, b, h => by
    cases b <;> simp only [SV.beq, Bool.false_eq_true] at h
    rw [SV.beqs_eq h]
  | .fn f x y, b, h => by
    cases b with
    | fn f' x' y' =>
      simp only [SV.beq, Bool.and_eq_true] at h
      obtain ⟨⟨h1, h2⟩, h3⟩ := h
      have : f = f' := by
        cases f <;> cases f' <;> simp_all
      rw [this, SV.beqs_eq h2, SV.beqs_eq h3]
    | _ => simp [SV.beq] at h
theorem SV.beqs_eq : ∀ {a b : List SV}, SV.beqs a b = true -> a = b
  | [], b, h => by cases b <;> simp [SV.beqs] at h; rfl
  | x :: l, b, h => by
    cases b with
    | nil => simp [SV.beqs] at h
    | cons y r =>
      simp only [SV.beqs, Bool.and_eq_true] at h
      rw [SV.beq_eq h.1, SV.beqs_eq h.2]
end
mutual
theorem SRel.one : ∀ {a : SV} {x y : AV}, SRel ρ ν a x -> SRel ρ ν a y -> x = y
  | _, _, _, .int k e, h => by cases h; rfl
  | _, _, _, .bool b, h => by cases h; rfl
  | _, _, _, .str l, h => by cases h; rfl
  | _, _, _, .val v, h => by cases h; rfl
  | _, _, _, .ptr h1, h => by cases h with | ptr h2 => rw [h1] at h2; cases h2; rfl
  | _, _, _, .sl h1, h => by cases h with | sl h2 => rw [h1] at h2; cases h2; rfl
  | _, _, _, .imp h1, h => by cases h with | imp h2 => rw [SRels.one h1 h2]
  | _, _, _, .im h1, h => by cases h with | im h2 => rw [SRels.one h1 h2]
  | _, _, _, .agg h1, h => by cases h with | agg h2 => rw [SRels.one h1 h2]
  | _, _, _, .tup h1, h => by cases h with | tup h2 => rw [SRels.one h1 h2]
  | _, _, _, .fn h1 h1', h => by cases h with | fn h2 h2' => rw [SRels.one h1 h2, SRels.one h1' h2']
theorem SRels.one : ∀ {a : List SV} {x y : List AV}, SRels ρ ν a x -> SRels ρ ν a y -> x = y
  | _, _, _, .nil, h => by cases h; rfl
  | _, _, _, .cons h1 t1, h => by cases h with | cons h2 t2 => rw [SRel.one h1 h2, SRels.one t1 t2]
end
/-! ### operations that look at memory alone -/
theorem slook_ok {o : Oper} {ρs : SEnv} {ρa : Env} (he : ∀ x, SRel ρ ν (ρs x) (ρa x)) {h : Mem} {H : AHeap} (hm : MRows ρ ν h H) {nm : Name} {call : CallF} {r : SV} (hr : slook P o ρs h = some r) :
    ∃ z H', aop P call o ρa nm H = some (z, H') /\ SRel ρ ν r z := by
  obtain ⟨dst, op, ty, pos, after, guard⟩ := o
  cases op with
  | load t x =>
    simp only [slook] at hr
    obtain ⟨z, h2, h3⟩ := sload_rel hm (he x) hr
    exact ⟨z, H, by simp only [aop, h2, Option.map_some], h3⟩
  | convert src dst x =>
    simp only [slook] at hr
    have ha := he x
    split at hr
    · rename_i n off len sz hx
      rw [hx] at ha
      generalize hv : ρa x = y at ha
      cases ha with
      | @sl _ _ _ _ m hn =>
      simp only [Option.map_eq_some_iff] at hr
      obtain ⟨⟨q, h'⟩, hr, rfl⟩ := hr
      simp only [sconv] at hr
      unfold aop
      simp only [hv]
      split at hr
      · rename_i e h1 h2
        cases hc : isU8 (P.underlying e) with
        | false => rw [hc] at hr; cases hr
        | true =>
          rw [hc] at hr
          simp only [cond_true, Option.bind_eq_some_iff, Option.map_eq_some_iff] at hr
          obtain ⟨⟨k, cells⟩, h3, l, h4, hr⟩ := hr
          cases hr
          obtain ⟨xs, h5, h6⟩ := ssrc_ok hm (.sl hn) h3
          obtain ⟨bs, h7, h8⟩ := sbytes_ok h6 h4
          refine ⟨.val (.string (strOf ρ l)), H, ?_, .str l⟩
          simp only [h1, h2]
          rw [if_pos hc, h5]
          simp only [Option.bind_some, h7, Option.map_some, h8]
      · rename_i e0 e h1 h2
        cases hc : (decide (src = dst) && isU8 (P.underlying e)) with
        | false => rw [hc] at hr; cases hr
        | true =>
          rw [hc] at hr
          simp only [cond_true, Option.bind_eq_some_iff, Option.map_eq_some_iff] at hr
          obtain ⟨row, hrow, l, hl, hr⟩ := hr
          cases hr
          simp only [Bool.and_eq_true, decide_eq_true_eq] at hc
          obtain ⟨m', row', h3, h4, h5⟩ := hm n row hrow
          rw [hn] at h3; cases h3
          obtain ⟨h6, h7⟩ := h5.seg hl
          refine ⟨.im true len _, upd H m none, ?_, .im h6⟩
          simp only [h1, h2, h4, Option.bind_some]
          rw [if_pos ⟨hc.1, hc.2, h7⟩]
      · cases hr
    · rename_i m len c hx
      rw [hx] at ha
      generalize hv : ρa x = y at ha
      cases ha with
      | @im _ _ _ c' hcs =>
      simp only [Option.map_eq_some_iff] at hr
      obtain ⟨⟨q, h'⟩, hr, rfl⟩ := hr
      simp only [sconv] at hr
      unfold aop
      simp only [hv]
      split at hr
      · rename_i e h1 h2
        cases hc : isU8 (P.underlying e) with
        | false => rw [hc] at hr; cases hr
        | true =>
          rw [hc] at hr
          simp only [cond_true, Option.bind_eq_some_iff, Option.map_eq_some_iff] at hr
          obtain ⟨⟨k, cells⟩, h3, l, h4, hr⟩ := hr
          cases hr
          obtain ⟨xs, h5, h6⟩ := ssrc_ok hm (.im hcs) h3
          obtain ⟨bs, h7, h8⟩ := sbytes_ok h6 h4
          refine ⟨.val (.string (strOf ρ l)), H, ?_, .str l⟩
          simp only [h1, h2]
          rw [if_pos hc, h5]
          simp only [Option.bind_some, h7, Option.map_some, h8]
      · cases hr
    · cases hr
  | slice t x lo hi mx =>
    cases mx with
    | some m => simp [slook] at hr
    | none =>
      simp only [slook] at hr
      have hx := he x
      split at hr
      · rename_i n off hq
        rw [hq] at hx
        generalize hv : ρa x = v at hx
        simp only [Option.map_eq_some_iff] at hr
        obtain ⟨⟨q, h'⟩, hr, rfl⟩ := hr
        simp only [sop, hq] at hr
        cases hx with
        | @ptr _ _ m hn =>
          split at hr
          · rename_i N e hu
            split at hr
            · rename_i l k sz h1 h2 h3
              simp only [Option.bind_eq_some_iff] at hr
              obtain ⟨row, h4, row₂, h5, hr⟩ := hr
              obtain ⟨m', row', g1, g2, g3⟩ := hm n row h4
              rw [hn] at g1; cases g1
              obtain ⟨_, h6⟩ := sdrop_eq _ _ _ h5
              rw [g3.length] at h6
              cases hc : (Nat.ble l k && Nat.ble k N && !Nat.beq sz 0) with
              | false => rw [hc] at hr; cases hr
              | true =>
                rw [hc] at hr
                simp only [cond_true] at hr
                simp only [Bool.and_eq_true, Bool.not_eq_true'] at hc
                obtain ⟨⟨c1, c2⟩, c3⟩ := hc
                have c3' : sz ≠ 0 := by rintro rfl; simp at c3
                have e2 : aslice P t (.ptr m off) (lo.map ρa) (hi.map ρa) H = (if l = k then some (.im true 0 []) else some (.sl m (off + l * sz) (k - l) sz)) := by
                  simp only [aslice, hu, sbound_ok (omap_rel he lo) h1, sbound_ok (omap_rel he hi) h2, h3, g2, Option.bind_some]
                  rw [if_pos ⟨Nat.le_of_ble_eq_true c1, Nat.le_of_ble_eq_true c2, c3', h6⟩]
                cases hk : Nat.beq l k with
                | true =>
                  rw [hk] at hr; cases hr
                  rw [if_pos (Nat.eq_of_beq_eq_true hk)] at e2
                  exact ⟨_, H, by simp only [aop, hv, e2, Option.map_some], .im .nil⟩
                | false =>
                  rw [hk] at hr; cases hr
                  rw [if_neg (by rintro rfl; simp at hk)] at e2
                  exact ⟨_, H, by simp only [aop, hv, e2, Option.map_some], .sl hn⟩
            · cases hr
          · cases hr
      · cases hr
  | _ => simp [slook] at hr
theorem noLook_pn {o : Oper} {ρs : SEnv} {ρa : Env} (he : ∀ x, SRel ρ ν (ρs x) (ρa x)) (h : noLook o ρs = true) : isE o = false /\ pnO o ρa = true := by
  obtain ⟨dst, op, ty, pos, after, guard⟩ := o
  cases op with
  | convert src dst x =>
    simp only [noLook, Bool.and_eq_true, Bool.not_eq_true', decide_eq_false_iff_not] at h
    obtain ⟨hsd, h⟩ := h
    refine ⟨by simp only [isE, hsd, decide_false], ?_⟩
    have ha := he x
    simp only [pnO]
    split at h
    · rename_i l hx; rw [hx] at ha; generalize ρa x = y at ha; cases ha; rfl
    · rename_i k e hx; rw [hx] at ha; generalize ρa x = y at ha; cases ha; rfl
    · rename_i b hx; rw [hx] at ha; generalize ρa x = y at ha; cases ha; rfl
    · rename_i v hx; rw [hx] at ha; generalize ρa x = y at ha; cases ha; rfl
    · cases h
  | slice t x lo hi mx =>
    simp only [noLook] at h
    refine ⟨rfl, ?_⟩
    have ha := he x
    simp only [pnO]
    generalize hs : ρs x = s at ha h
    generalize ρa x = y at ha
    cases ha <;> first | rfl | cases h
  | _ => simp [noLook] at h
theorem MRows.mono {ν' : Nat -> Option Name} (hs : Nu.le ν ν') {h : Mem} {H : AHeap} (hm : MRows ρ ν h H) : MRows ρ ν' h H := fun n row hn => by
  obtain ⟨m, row', h1, h2, h3⟩ := hm n row hn
  exact ⟨m, row', hs _ _ h1, h2, h3.mono hs⟩
/-- The memories at which was acted. -/
def HsRel (ρ : Vals) (ν : Nat -> Option Name) (Hs : List (Nat × Mem)) (HA : List (Nat × AHeap)) : Prop := ∀ b B, Hs.lookup b = some B -> ∃ A, HA.lookup b = some A /\ MRows ρ ν B A
theorem HsRel.mono {ν' : Nat -> Option Name} (hs : Nu.le ν ν') {Hs : List (Nat × Mem)} {HA : List (Nat × AHeap)} (h : HsRel ρ ν Hs HA) : HsRel ρ ν' Hs HA := fun b B hb => by
  obtain ⟨A, h1, h2⟩ := h b B hb
  exact ⟨A, h1, h2.mono hs⟩
theorem HsRel.push {Hs : List (Nat × Mem)} {HA : List (Nat × AHeap)} (h : HsRel ρ ν Hs HA) {k : Nat} {B : Mem} {A : AHeap} (hm : MRows ρ ν B A) (e : Bool) : HsRel ρ ν (bif e then (k, B) :: Hs else Hs) (bif e then (k, A) :: HA else HA) := by
  cases e with
  | false => exact h
  | true =>
    intro b B' hb
    simp only [cond_true, List.lookup_cons] at hb ⊢
    split at hb
    · cases hb; exact ⟨A, rfl, hm⟩
    · exact h b B' hb
theorem schk_ok {o : Oper} {ρs : SEnv} {ρa : Env} (he : ∀ x, SRel ρ ν (ρs x) (ρa x)) {Hs : List (Nat × Mem)} {HA : List (Nat × AHeap)} (hH : HsRel ρ ν Hs HA) {call : CallF} {nm : Name} {v : SV} {va : AV} (hv : SRel ρ ν v va) {H H' : AHeap}
    (hop : aop P call o ρa nm H = some (va, H')) : ∀ l, schk P o ρs v Hs l = true -> chkW P call o ρa nm va HA l
  | [], _ => trivial
  | b :: l, h => by
    simp only [schk, Bool.and_eq_true] at h
    obtain ⟨h1, h2⟩ := h
    refine ⟨?_, schk_ok he hH hv hop l h2⟩
    cases hb : Hs.lookup b with
    | none => rw [hb] at h1; cases h1
    | some B =>
      rw [hb] at h1
      obtain ⟨A, hA, hm⟩ := hH b B hb
      rw [hA]
      simp only [Bool.or_eq_true] at h1
      rcases h1 with h1 | h1
      · obtain ⟨g1, g2⟩ := noLook_pn he h1
        obtain ⟨x, _, g3⟩ := aop_pn g1 g2 hop
        show Option.map (·.1) (aop P call o ρa nm A) = some va
        rw [g3 A]; rfl
      · split at h1
        · rename_i u hu
          obtain ⟨z, H₂, g1, g2⟩ := slook_ok (nm := nm) (call := call) he hm hu
          show Option.map (·.1) (aop P call o ρa nm A) = some va
          rw [g1]
          rw [SV.beq_eq h1] at g2
          rw [SRel.one hv g2]; rfl
        · cases h1
theorem chkW_callcongr {call call' : CallF} {o : Oper} {ρa : Env} {nm : Name} {v : AV} (h : ∀ f a H, call f a nm H = call' f a nm H) {HA : List (Nat × AHeap)} : ∀ l, chkW P call o ρa nm v HA l = chkW P call' o ρa nm v HA l
  | [] => rfl
  | b :: l => by
    simp only [chkW, chkW_callcongr h l]
    cases HA.lookup b with
    | none => rfl
    | some B => simp only [aop_callcongr h]
theorem planW_callcongr {call call' : CallF} {ops : Array Oper} {p : Name} {c : Nat} {K : Nat -> Temps -> AHeap -> Prop} : ∀ (l : List Item) (k : Nat) (T : Temps) (HA : List (Nat × AHeap)) (H : AHeap),
    (∀ x ∈ l, ∀ f a H, call f a ((c + x.i) :: p) H = call' f a ((c + x.i) :: p) H) -> planW P call ops p c K k l T HA H = planW P call' ops p c K k l T HA H
  | [], _, _, _, _, _ => rfl
  | x :: l, k, T, HA, H, h => by
    have h0 := h x (by simp)
    have h1 : ∀ y ∈ l, ∀ f a H, call f a ((c + y.i) :: p) H = call' f a ((c + y.i) :: p) H := fun y hy => h y (List.mem_cons_of_mem _ hy)
    simp only [planW]
    cases ops[x.i]? with
    | none => rfl
    | some o =>
      simp only [aop_callcongr h0, chkW_callcongr h0]
      split
      · cases aop P call' o (env T) ((c + x.i) :: p) H with
        | none => rfl
        | some y => simp only [planW_callcongr l _ _ _ _ h1]
      · exact planW_callcongr l _ _ _ _ h1
theorem sdraw_ok {Γ : List Fact} (hF : FOk ρ Γ) {sc : SCall} (hsc : SCallOK P ρ sc) {ops : Array Oper} {n : Nat} (hd : dstOk n ops = true) (hn : n < 1000000) {p : Name} {c : Nat} : ∀ (l : List Item) (k : Nat) (ν : Nat -> Option Name) (T T' : Tr SV) (Ta : Temps) (h h' : Mem) (H : AHeap) (Hs : List (Nat × Mem)) (HA : List (Nat × AHeap)),
    (l.map (·.i)).Nodup -> TRel ρ ν T Ta -> MRel ρ ν h H -> (∀ x ∈ l, Fre ν ((c + x.i) :: p)) -> HsRel ρ ν Hs HA -> sdraw Γ P sc ops k l T Hs h = some (T', h') ->
    ∃ call Ta' H' ν', CallOK P call /\ (∀ K : Nat -> Temps -> AHeap -> Prop, K (c + ops.size) Ta' H' -> planW P call ops p c K k l Ta HA H) /\ Nu.le ν ν' /\ (∀ n m, ν' n = some m -> ν n = some m \/ ∃ x ∈ l, Under ((c + x.i) :: p) m) /\ MRel ρ ν' h' H' /\ TRel ρ ν' T' Ta' := by
  intro l
  induction l with
  | nil =>
    intro k ν T T' Ta h h' H Hs HA _ ht hm _ _ hr
    simp only [sdraw, Option.some.injEq, Prod.mk.injEq] at hr
    obtain ⟨rfl, rfl⟩ := hr
    exact ⟨fun _ _ _ _ => none, Ta, H, ν, (fun _ _ _ _ _ _ h => by cases h), fun K hK => hK, fun _ _ h => h, fun _ _ h => .inl h, hm, ht⟩
  | cons x l ih =>
    intro k ν T T' Ta h h' H Hs HA hnd ht hm hf hH hr
    rw [List.map_cons, List.nodup_cons] at hnd
    obtain ⟨hnx, hnd⟩ := hnd
    have hne : ∀ y ∈ l, y.i ≠ x.i := fun y hy e => hnx (e ▸ List.mem_map_of_mem hy)
    simp only [sdraw] at hr
    cases ho : ops[x.i]? with
    | none => rw [ho] at hr; cases hr
    | some o =>
      rw [ho] at hr
      simp only [] at hr
      have hdo : ∀ d, o.dst = some d -> d < 1000000 := fun d hd' => Nat.lt_trans (dstOk_at hd ho d hd') hn
      split at hr
      · rename_i hw
        have hw' := swanted_ok ht hw
        split at hr
        · rename_i v h₁ hop
          obtain ⟨tb, htb, z, H₁, ha, ν₁, n1, n2, n3, n4⟩ := sop_ok hF hsc ht.env hm (hf x (by simp)) hop
          cases hc : schk P o (senv T) v Hs x.chk with
          | false => rw [hc] at hr; cases hr
          | true =>
            rw [hc] at hr
            simp only [cond_true] at hr
            have hf₁ : ∀ y ∈ l, Fre ν₁ ((c + y.i) :: p) := by
              intro y hy m s hs
              rcases n2 _ _ hs with h1 | ⟨s', h1⟩
              · exact hf y (List.mem_cons_of_mem _ hy) m s h1
              · have := tail_eq h1
                exact hne y hy (by omega)
            obtain ⟨call, Ta', H', ν', g1, g2, g3, g4, g5, g6⟩ := ih (k + 1) ν₁ _ T' _ h₁ h' H₁ _ (bif x.e then (k + 1, H₁) :: HA else HA) hnd ((ht.mono n1).put hdo n4) n3 hf₁ ((hH.mono n1).push n3.rows x.e) hr
            refine ⟨fun f a n H => if n = (c + x.i) :: p then tb f a H else call f a n H, Ta', H', ν', ?_, ?_, fun n m h => g3 n m (n1 n m h), ?_, g5, g6⟩
            · intro f a n H r H' hc
              dsimp only at hc
              split at hc
              · rename_i e; subst e; exact htb _ _ _ _ _ hc
              · exact g1 _ _ _ _ _ _ hc
            · intro K hK
              have e1 : aop P (fun f a n H => if n = (c + x.i) :: p then tb f a H else call f a n H) o (env Ta) ((c + x.i) :: p) H = some (z, H₁) := by
                rw [aop_callcongr (call' := callAt ((c + x.i) :: p) tb) (fun f a H => by simp [callAt])]; exact ha
              rw [planW_cons ho, if_pos hw', e1]
              refine ⟨schk_ok (ht.mono n1).env (hH.mono n1) n4 e1 _ hc, ?_⟩
              rw [planW_callcongr (call' := call) l _ _ _ _ (fun y hy f a H => by
                rw [if_neg]
                intro e; injection e with e _; exact hne y hy (by omega))]
              exact g2 K hK
            · intro n m h
              rcases g4 n m h with h | ⟨y, hy, h⟩
              · exact (n2 n m h).imp id fun h => ⟨x, by simp, h⟩
              · exact .inr ⟨y, List.mem_cons_of_mem _ hy, h⟩
        · cases hr
      · rename_i hw
        have hw' := swanted_ok ht hw
        obtain ⟨call, Ta', H', ν', g1, g2, g3, g4, g5, g6⟩ := ih (k + 1) ν _ T' _ h h' H _ (bif x.e then (k + 1, H) :: HA else HA) hnd (ht.put hdo (.val undef)) hm (fun y hy => hf y (List.mem_cons_of_mem _ hy)) (hH.push hm.rows x.e) hr
        refine ⟨call, Ta', H', ν', g1, fun K hK => ?_, g3, ?_, g5, g6⟩
        · rw [planW_cons ho, if_neg (by rw [hw']; simp)]
          exact g2 K hK
        · intro n m h
          rcases g4 n m h with h | ⟨y, hy, h⟩
          · exact .inl h
          · exact .inr ⟨y, List.mem_cons_of_mem _ hy, h⟩
      · cases hr
/-- A region whose order is open, all of it. -/
theorem sdraw_region {Γ : List Fact} (hF : FOk ρ Γ) {sc : SCall} (hsc : SCallOK P ρ sc) {ops : Array Oper} {n : Nat} (hd : dstOk n ops = true) (hn : n < 1000000) {p : Name} {c : Nat} {ms : List Nat} {pl : List Item} (hpl : planOK ops ms pl = true) {T T' : Tr SV} {Ta : Temps} {h h' : Mem} {H : AHeap}
    (ht : TRel ρ ν T Ta) (hm : MRel ρ ν h H) (hf : FreFrom ν p c) (hr : sdraw Γ P sc ops 0 pl T [(0, h)] h = some (T', h')) :
    ∃ call Ta' H' ν', CallOK P call /\ (∀ K : Nat -> Temps -> AHeap -> Prop, K (c + ops.size) Ta' H' -> planW P call ops p c K 0 pl Ta [(0, H)] H) /\ Nu.le ν ν' /\ FreFrom ν' p (c + ops.size) /\ (∀ n m, ν' n = some m -> ν n = some m \/ Under p m) /\ MRel ρ ν' h' H' /\ TRel ρ ν' T' Ta' := by
  obtain ⟨hlen, hplan⟩ := plan_of hpl
  have hord : ∀ (k : Nat) (hk : k < pl.length), ordOf pl k = (pl[k]).i := fun k hk => by simp only [ordOf, List.getElem?_eq_getElem hk]
  have hnd : (pl.map (·.i)).Nodup := by
    refine List.pairwise_iff_getElem.2 fun i j hi hj hij e => ?_
    simp only [List.length_map] at hi hj
    simp only [List.getElem_map] at e
    have := hplan.inj i j (by omega) (by omega) (by rw [hord i (by omega), hord j hj, e])
    omega
  obtain ⟨call, Ta', H', ν', g1, g2, g3, g4, g5, g6⟩ := sdraw_ok hF hsc hd hn (p := p) (c := c) pl 0 ν T T' Ta h h' H [(0, h)] [(0, H)] hnd ht hm (fun x _ => hf _ (by omega)) (fun b B hb => by
    simp only [List.lookup_cons] at hb ⊢
    split at hb
    · cases hb; exact ⟨H, rfl, hm.rows⟩
    · simp at hb) hr
  refine ⟨call, Ta', H', ν', g1, g2, g3, ?_, ?_, g5, g6⟩
  · intro i hi m s hs
    rcases g4 _ _ hs with h1 | ⟨x, hx, s', h1⟩
    · exact hf i (by omega) m s h1
    · have := tail_eq h1
      obtain ⟨k, hk, rfl⟩ := List.mem_iff_getElem.1 hx
      have h2 := hplan.lt k (by omega)
      rw [hord k hk] at h2
      omega
  · intro m s hs
    rcases g4 _ _ hs with h1 | ⟨x, hx, h1⟩
    · exact .inl h1
    · exact .inr (under_cons h1)
end Go.Proofs.YtjinjfblilacaaaGreat.Den
end
section
set_option linter.unusedSimpArgs false
namespace Go.Proofs.YtjinjfblilacaaaGreat.Den
variable {P : Program} {ρ : Vals}
/-! ### what is put off -/
structure ALate where
  fn : Fn
  a : List AV
  b : List AV
  args : List AV
inductive LRel (ρ : Vals) (ν : Nat -> Option Name) : SLate -> List ALate -> Prop
  | nil : LRel ρ ν [] []
  | cons {fn : Fn} {a b args : List SV} {a' b' args' : List AV} {D : SLate} {L : List ALate} (h1 : SRels ρ ν a a') (h2 : SRels ρ ν b b') (h3 : SRels ρ ν args args') (t : LRel ρ ν D L) : LRel ρ ν ((.fn fn a b, args) :: D) (⟨fn, a', b', args'⟩ :: L)
inductive DRel (σ : Sig) (I : Imm) : List ALate -> List Deferred -> Prop
  | nil : DRel σ I [] []
  | cons {fn : Fn} {a b args : List AV} {va vb vs : Array Value} {L : List ALate} {ds : List Deferred} (g1 : VRels σ I a va.toList) (g2 : VRels σ I b vb.toList) (g3 : VRels σ I args vs.toList) (t : DRel σ I L ds) : DRel σ I (⟨fn, a, b, args⟩ :: L) (⟨.fn fn vb, va ++ vs⟩ :: ds)
theorem LRel.mono {ν ν' : Nat -> Option Name} (hn : Nu.le ν ν') {D : SLate} {L : List ALate} (h : LRel ρ ν D L) : LRel ρ ν' D L := by
  induction h with
  | nil => exact .nil
  | cons h1 h2 h3 _ ih => exact .cons (h1.mono hn) (h2.mono hn) (h3.mono hn) ih
theorem DRel.mono {σ σ' : Sig} {I I' : Imm} (hs : σ.le σ') (hi : I.le I') {L : List ALate} {ds : List Deferred} (h : DRel σ I L ds) : DRel σ' I' L ds := by
  induction h with
  | nil => exact .nil
  | cons g1 g2 g3 _ ih => exact .cons (g1.mono hs hi) (g2.mono hs hi) (g3.mono hs hi) ih
/-! ### where a run stands -/
structure AT where
  c : Nat
  T : Temps
  H : AHeap
  L : List ALate
/-- The model stands here. -/
structure StD (p : Name) (n : Nat) (s : AT) (σ : Sig) (I : Imm) (a : Act) (w : World) : Prop where
  st : St a.defers p s.c n σ I s.T s.H a w
  late : DRel σ I s.L a.defers
/-- The executor stands here. -/
structure SAt (ρ : Vals) (p : Name) (T : Tr SV) (h : Mem) (D : SLate) (ν : Nat -> Option Name) (s : AT) : Prop where
  tr : TRel ρ ν T s.T
  mem : MRel ρ ν h s.H
  fre : FreFrom ν p s.c
  late : LRel ρ ν D s.L
structure NStep (p : Name) (ν ν' : Nat -> Option Name) : Prop where
  nu : Nu.le ν ν'
  new : ∀ n m, ν' n = some m -> ν n = some m \/ Under p m
theorem NStep.refl (p : Name) (ν : Nat -> Option Name) : NStep p ν ν := ⟨fun _ _ h => h, fun _ _ h => .inl h⟩
theorem NStep.trans {p : Name} {ν ν₁ ν₂ : Nat -> Option Name} (h : NStep p ν ν₁) (k : NStep p ν₁ ν₂) : NStep p ν ν₂ := ⟨fun n m e => k.nu n m (h.nu n m e), fun n m e => (k.new n m e).elim (h.new n m) .inr⟩
/-- What ends at e, from one state in another one: said of whatever is shown by a postcondition. -/
def AGo (W : (Exit -> Act -> World -> Prop) -> Act -> World -> Prop) (p : Name) (n : Nat) (e : Exit) (s s' : AT) : Prop :=
  ∀ (σ : Sig) (I : Imm) (a : Act) (w : World) (Q : Exit -> Act -> World -> Prop), StD p n s σ I a w ->
    (∀ σ' I' a' w', Step (Under p) σ I s.H w σ' I' s'.H w' -> StD p n s' σ' I' a' w' -> Q e a' w') -> W Q a w
/-- A run of the executor is a run of the model. -/
def XGoes (W : (Exit -> Act -> World -> Prop) -> Act -> World -> Prop) (ρ : Vals) (n : Nat) (T : Tr SV) (h : Mem) (D : SLate) (e : Exit) (T' : Tr SV) (h' : Mem) (D' : SLate) : Prop :=
  ∀ (p : Name) (ν : Nat -> Option Name) (s : AT), SAt ρ p T h D ν s -> ∃ ν' s', NStep p ν ν' /\ SAt ρ p T' h' D' ν' s' /\ AGo W p n e s s'
/-! ### regions in order -/
theorem sregion_defer {Γ : List Fact} {sc : SCall} {ops : Array Oper} {o : Oper} {r : List Oper} {T : Tr SV} {h : Mem} {D : SLate} {c : Call} (ho : o.op = .defer c) : sregion Γ P sc ops (o :: r) T h D =
    (match c.callee, o.guard, o.dst with
      | .value f, none, none =>
        match senv T f with
        | .fn fn a b => sregion Γ P sc ops r T h ((.fn fn a b, c.args.toList.map (senv T)) :: D)
        | _ => none
      | _, _, _ => none) := by
  obtain ⟨dst, op, ty, pos, after, guard⟩ := o
  simp only at ho
  subst ho
  rfl
theorem sargs_rel {ν : Nat -> Option Name} {T : Tr SV} {Ta : Temps} (ht : TRel ρ ν T Ta) : ∀ l : List Operand, SRels ρ ν (l.map (senv T)) (l.map (env Ta))
  | [] => .nil
  | x :: l => .cons (ht.env x) (sargs_rel ht l)
theorem aargs_rel {σ : Sig} {I : Imm} {Ta : Temps} {a : Act} (hv : ∀ i, VRel σ I (Ta i) (a.tmps.getD i undef)) : ∀ l : List Operand, VRels σ I (l.map (env Ta)) (l.map a.eval)
  | [] => .nil
  | x :: l => .cons (env_rel hv x) (aargs_rel hv l)
theorem sregion_go {Γ : List Fact} (hF : FOk ρ Γ) {sc : SCall} (hsc : SCallOK P ρ sc) {ops : Array Oper} {n : Nat} (hd : dstOk n ops = true) (hn : n < 1000000) {p : Name} {c : Nat} {T' : Tr SV} {h' : Mem} {D' : SLate} : ∀ (l : List Oper) (k : Nat) (ν : Nat -> Option Name) (T : Tr SV) (h : Mem) (D : SLate) (s : AT),
    ops.toList.drop k = l -> s.c = c + k -> SAt ρ p T h D ν s -> sregion Γ P sc ops l T h D = some (T', h', D') ->
    ∃ ν' s', NStep p ν ν' /\ SAt ρ p T' h' D' ν' s' /\ AGo (fun Q => wpOps P ops Q (List.range' k l.length)) p n .normal s s' := by
  intro l
  induction l with
  | nil =>
    intro k ν T h D s _ hc st hr
    simp only [sregion, Option.some.injEq, Prod.mk.injEq] at hr
    obtain ⟨rfl, rfl, rfl⟩ := hr
    exact ⟨ν, s, .refl p ν, st, fun σ I a w Q hst hk => hk σ I a w (Step.refl _ hst.st.rel) hst⟩
  | cons o l ih =>
    intro k ν T h D s hl hc st hr
    have ho : ops[k]? = some o := by
      have : (ops.toList.drop k)[0]? = some o := by rw [hl]; rfl
      simpa using this
    have hl' : ops.toList.drop (k + 1) = l := by rw [<- List.drop_drop, hl]; rfl
    have hdn := dstOk_at hd ho
    have hdo : ∀ d, o.dst = some d -> d < 1000000 := fun d hd' => Nat.lt_trans (hdn d hd') hn
    obtain ⟨ht, hm, hf, hlate⟩ := st
    obtain ⟨sc', Ta, H, L⟩ := s
    simp only at ht hm hf hlate hc
    subst hc
    rw [List.length_cons, List.range'_succ]
    by_cases hdf : ∃ cl, o.op = .defer cl
    · obtain ⟨cl, hop⟩ := hdf
      rw [sregion_defer hop] at hr
      split at hr
      · rename_i f hcal hg hdst
        split at hr
        · rename_i fn a' b' hq
          have e1 := ht.env f
          have e3 := sargs_rel ht cl.args.toList
          rw [hq] at e1
          generalize hx : env Ta f = x at e1
          cases e1 with
          | @fn _ _ _ a'' b'' i1 i2 =>
            obtain ⟨ν', s', g1, g2, g3⟩ := ih (k + 1) ν T h _ ⟨c + k + 1, Ta, H, ⟨fn, a'', b'', cl.args.toList.map (env Ta)⟩ :: L⟩ hl' rfl ⟨ht, hm, fun i hi => hf i (by simp only at hi; omega), .cons i1 i2 e3 hlate⟩ hr
            refine ⟨ν', s', g1, g2, fun σ I a w Q hst hk => ?_⟩
            obtain ⟨hs, hlt⟩ := hst
            simp only at hs hlt
            simp only [wpOps, ho]
            rw [wanted_rel hs.tr hs.size hd o]
            have hw : awanted ops o Ta = true := by unfold awanted; rw [hg]
            rw [if_pos hw]
            refine .inl ?_
            have e2 := env_rel hs.tr f
            have e4 := aargs_rel hs.tr cl.args.toList
            rw [hx] at e2
            generalize hev : a.eval f = v at e2
            cases e2 with
            | @fn _ _ _ va vb j1 j2 =>
              have hex : (execOp a.eval o).run P w = .ok (.defer ⟨.fn fn vb, va ++ cl.args.map a.eval⟩) w := by
                simp [execOp, hop, resolve, hcal, hev, Deferred.ofValue]
              unfold Oper.wp
              rw [hex]
              simp only [Oper.upon, hdst, Act.put]
              exact g3 σ I _ w Q ⟨⟨hs.tr, hs.size, rfl, hs.rel, hs.fresh.mono (by simp only; omega)⟩, .cons j1 j2 (by simpa using e4) hlt⟩ hk
        · cases hr
      · cases hr
    · have hnd : isDefer o = false := by
        unfold isDefer
        split
        · rename_i cl hop; exact absurd ⟨cl, hop⟩ hdf
        · rfl
      rw [sregion_cons hnd] at hr
      split at hr
      · rename_i hw
        have hw' := swanted_ok ht hw
        split at hr
        · rename_i v h₁ hop
          obtain ⟨tb, htb, z, H₁, ha, ν₁, n1, n2, n3, n4⟩ := sop_ok hF hsc ht.env hm (hf (c + k) (Nat.le_refl _)) hop
          have hcall : CallOK P (callAt ((c + k) :: p) tb) := by
            intro f a n H r H' hc
            unfold callAt at hc
            split at hc
            · rename_i e; subst e; exact htb _ _ _ _ _ hc
            · cases hc
          obtain ⟨ν', s', g1, g2, g3⟩ := ih (k + 1) ν₁ _ h₁ D ⟨c + k + 1, _, H₁, L⟩ hl' rfl ⟨(ht.mono n1).put hdo n4, n3, hf.after n2, hlate.mono n1⟩ hr
          refine ⟨ν', s', NStep.trans ⟨n1, fun n m h => (n2 n m h).imp id under_cons⟩ g1, g2, fun σ I a w Q hst hk => ?_⟩
          obtain ⟨hs, hlt⟩ := hst
          simp only at hs hlt
          simp only [wpOps, ho]
          rw [wanted_rel hs.tr hs.size hd o, if_pos hw']
          refine .inl (aop_wp hcall hs.tr hs.rel (hs.fresh.here _ (Nat.le_refl _)) ha ?_)
          intro vv w₁ σ₁ I₁ hs₁ hv
          obtain ⟨h1, h2, h3⟩ := put_rel (fun i => (hs.tr i).mono hs₁.sig hs₁.imm) hs.size hdn hv
          refine g3 σ₁ I₁ _ w₁ Q ⟨⟨h1, h2, rfl, hs₁.rel, hs.fresh.step hs₁⟩, by rw [h3]; exact hlt.mono hs₁.sig hs₁.imm⟩ ?_
          intro σ' I' a' w' hst' st'
          exact hk σ' I' a' w' ((hs₁.weaken fun _ => under_cons).trans hst') st'
        · cases hr
      · rename_i hw
        have hw' := swanted_ok ht hw
        obtain ⟨ν', s', g1, g2, g3⟩ := ih (k + 1) ν _ h D ⟨c + k + 1, _, H, L⟩ hl' rfl ⟨ht.put hdo (.val undef), hm, fun i hi => hf i (by simp only at hi; omega), hlate⟩ hr
        refine ⟨ν', s', g1, g2, fun σ I a w Q hst hk => ?_⟩
        obtain ⟨hs, hlt⟩ := hst
        simp only at hs hlt
        simp only [wpOps, ho]
        rw [wanted_rel hs.tr hs.size hd o, if_neg (by rw [hw']; simp)]
        obtain ⟨h1, h2, h3⟩ := put_rel (d := o.dst) hs.tr hs.size hdn (VRel.val undef)
        exact g3 σ I _ w Q ⟨⟨h1, h2, rfl, hs.rel, hs.fresh.mono (by simp only; omega)⟩, by rw [h3]; exact hlt⟩ hk
      · cases hr
/-! ### code -/
section
variable {Γ : List Fact} {sc : SCall} {n : Nat}
/-- As often as it is jumped to. -/
def Code.passes (P : Program) (rest : Code) (l : Nat) (Q : Exit -> Act -> World -> Prop) : Nat -> Act -> World -> Prop
  | 0, _, _ => False
  | m + 1, a, w => rest.wp P (Exit.jump l (Code.passes P rest l Q m) Q) a w
theorem wp_scope_passes {x rest : Code} {l : Nat} {Q : Exit -> Act -> World -> Prop} {a : Act} {w : World} (m : Nat) (hf : findLabel x l = some rest) (h : x.wp P (Exit.jump l (Code.passes P rest l Q m) Q) a w) : (Code.scope x).wp P Q a w := by
  refine wp_scope_jumps l (fun a w => ∃ m, Code.passes P rest l Q m a w) (fun a w => leastOf fun m => Code.passes P rest l Q m a w) hf ?_ ?_
  · refine wp_mono h ?_
    intro e a' w' hq
    cases e with
    | goto l' => exact ⟨hq.1, m, hq.2⟩
    | _ => exact hq
  · intro a₁ w₁ hJ
    obtain ⟨hR, _⟩ := leastOf_spec hJ
    generalize (leastOf fun m => Code.passes P rest l Q m a₁ w₁) = m at *
    cases m with
    | zero => exact hR.elim
    | succ m =>
      refine wp_mono hR ?_
      intro e a' w' hq
      cases e with
      | goto l' => exact ⟨hq.1, ⟨m, hq.2⟩, Nat.lt_succ_of_le ((leastOf_spec ⟨m, hq.2⟩).2 m hq.2)⟩
      | _ => exact hq
theorem XGoes.here {W : (Exit -> Act -> World -> Prop) -> Act -> World -> Prop} {e : Exit} {T : Tr SV} {h : Mem} {D : SLate} (hw : ∀ (Q : Exit -> Act -> World -> Prop) (a : Act) (w : World), Q e a w -> W Q a w) : XGoes W ρ n T h D e T h D :=
  fun p ν s st => ⟨ν, s, .refl p ν, st, fun σ I a w Q hst k => hw Q a w (k σ I a w (Step.refl _ hst.st.rel) hst)⟩
theorem XGoes.region (hF : FOk ρ Γ) (hsc : SCallOK P ρ sc) (hn : n < 1000000) {id : Nat} {ops : Array Oper} (hd : dstOk n ops = true) {T T' : Tr SV} {h h' : Mem} {D D' : SLate} (hr : sregion Γ P sc ops ops.toList T h D = some (T', h', D')) :
    XGoes (Code.wp P (.region id ops false)) ρ n T h D .normal T' h' D' := by
  intro p ν s st
  obtain ⟨ν', s', g1, g2, g3⟩ := sregion_go hF hsc hd hn (p := p) (c := s.c) ops.toList 0 ν T h D s (by simp) (by simp) st hr
  refine ⟨ν', s', g1, g2, fun σ I a w Q hst hk => wp_region ?_⟩
  have := g3 σ I a w Q hst hk
  rw [Array.length_toList] at this
  rw [List.range_eq_range']
  exact this
theorem XGoes.draw (hF : FOk ρ Γ) (hsc : SCallOK P ρ sc) (hn : n < 1000000) (hm : P.follows .mixedOrders = true) {id : Nat} {ops : Array Oper} (hd : dstOk n ops = true) {ms : List Nat} {pl : List Item} (hp : planOK ops ms pl = true) {T T' : Tr SV} {h h' : Mem} {D : SLate}
    (hr : sdraw Γ P sc ops 0 pl T [(0, h)] h = some (T', h')) : XGoes (Code.wp P (.region id ops true)) ρ n T h D .normal T' h' D := by
  intro p ν s st
  obtain ⟨ht, hmm, hf, hlate⟩ := st
  obtain ⟨call, Ta', H', ν', g1, g2, g3, g4, g5, g6, g7⟩ := sdraw_region hF hsc hd hn hp ht hmm hf hr
  have hA : AWP P p n (.region id ops true) (fun e c' T'' H'' => e = .normal /\ c' = s.c + ops.size /\ T'' = Ta' /\ H'' = H') s.c s.T s.H :=
    AWP.draw_last hm g1 ms pl hd hp fun K hK => g2 K (hK _ _ _ ⟨rfl, rfl, rfl, rfl⟩)
  refine ⟨ν', ⟨s.c + ops.size, Ta', H', s.L⟩, ⟨g3, g5⟩, ⟨g7, g6, g4, hlate.mono g3⟩, fun σ I a w Q hst hk => ?_⟩
  refine hA a.defers σ I a w Q hst.st ?_
  rintro e c' T'' H'' σ' I' a' w' ⟨rfl, rfl, rfl, rfl⟩ hst' st'
  have hdef : a'.defers = a.defers := st'.defers
  exact hk σ' I' a' w' hst' ⟨by rw [hdef]; exact st', by rw [hdef]; exact hst.late.mono hst'.sig hst'.imm⟩
/-- One behind the other. -/
theorem XGoes.then {V W U : (Exit -> Act -> World -> Prop) -> Act -> World -> Prop} {T T₁ T' : Tr SV} {h h₁ h' : Mem} {D D₁ D' : SLate} {e₁ e : Exit} (hx : XGoes V ρ n T h D e₁ T₁ h₁ D₁) (hy : XGoes W ρ n T₁ h₁ D₁ e T' h' D')
    (hu : ∀ Q a w, V (fun e' a' w' => e' = e₁ /\ W Q a' w') a w -> U Q a w) : XGoes U ρ n T h D e T' h' D' := by
  intro p ν s st
  obtain ⟨ν₁, s₁, a1, a2, a3⟩ := hx p ν s st
  obtain ⟨ν₂, s₂, b1, b2, b3⟩ := hy p ν₁ s₁ a2
  refine ⟨ν₂, s₂, a1.trans b1, b2, fun σ I a w Q hst hk => hu Q a w (a3 σ I a w _ hst ?_)⟩
  intro σ' I' a' w' hst' st'
  exact ⟨rfl, b3 σ' I' a' w' Q st' fun σ₂ I₂ a₂ w₂ hst₂ st₂ => hk σ₂ I₂ a₂ w₂ (hst'.trans hst₂) st₂⟩
/-- As it is. -/
theorem XGoes.as {V U : (Exit -> Act -> World -> Prop) -> Act -> World -> Prop} {T T' : Tr SV} {h h' : Mem} {D D' : SLate} {e e' : Exit} (hx : XGoes V ρ n T h D e T' h' D') (hu : ∀ (Q : Exit -> Act -> World -> Prop) a w, V (fun e₁ a' w' => e₁ = e /\ Q e' a' w') a w -> U Q a w) : XGoes U ρ n T h D e' T' h' D' := by
  intro p ν s st
  obtain ⟨ν₁, s₁, a1, a2, a3⟩ := hx p ν s st
  exact ⟨ν₁, s₁, a1, a2, fun σ I a w Q hst hk => hu Q a w (a3 σ I a w _ hst fun σ' I' a' w' hst' st' => ⟨rfl, hk σ' I' a' w' hst' st'⟩)⟩
theorem XGoes.up {V U : (Exit -> Act -> World -> Prop) -> Act -> World -> Prop} {T T' : Tr SV} {h h' : Mem} {D D' : SLate} {e : Exit} (hx : XGoes V ρ n T h D e T' h' D') (hu : ∀ (Q : Exit -> Act -> World -> Prop) a w, V Q a w -> U Q a w) : XGoes U ρ n T h D e T' h' D' := by
  intro p ν s st
  obtain ⟨ν₁, s₁, a1, a2, a3⟩ := hx p ν s st
  exact ⟨ν₁, s₁, a1, a2, fun σ I a w Q hst hk => hu Q a w (a3 σ I a w Q hst hk)⟩
theorem XGoes.seq {x y : Code} {T T₁ T' : Tr SV} {h h₁ h' : Mem} {D D₁ D' : SLate} {e : Exit} (hx : XGoes (Code.wp P x) ρ n T h D .normal T₁ h₁ D₁) (hy : XGoes (Code.wp P y) ρ n T₁ h₁ D₁ e T' h' D') : XGoes (Code.wp P (.seq x y)) ρ n T h D e T' h' D' :=
  hx.then hy fun Q a w h => wp_seq (wp_mono h (by rintro _ a w ⟨rfl, h⟩; exact h))
theorem XGoes.seq_out {x y : Code} {T T' : Tr SV} {h h' : Mem} {D D' : SLate} {e : Exit} (he : e ≠ .normal) (hx : XGoes (Code.wp P x) ρ n T h D e T' h' D') : XGoes (Code.wp P (.seq x y)) ρ n T h D e T' h' D' :=
  hx.as fun Q a w h => wp_seq (wp_mono h (by
    rintro e₁ a w ⟨rfl, h⟩
    cases e₁ <;> first | exact absurd rfl he | exact h))
theorem XGoes.cond {x : Operand} {y z : Code} {b : Bool} {T T' : Tr SV} {h h' : Mem} {D D' : SLate} {e : Exit} (hx : senv T x = .bool b) (hy : XGoes (Code.wp P (if b then y else z)) ρ n T h D e T' h' D') : XGoes (Code.wp P (.cond x y z)) ρ n T h D e T' h' D' := by
  intro p ν s st
  have e1 := st.tr.env x
  rw [hx] at e1
  generalize hv : env s.T x = v at e1
  cases e1
  obtain ⟨ν₁, s₁, a1, a2, a3⟩ := hy p ν s st
  refine ⟨ν₁, s₁, a1, a2, fun σ I a w Q hst hk => ?_⟩
  have e2 := env_rel hst.st.tr x
  rw [hv] at e2
  have hev : a.eval x = .bool b := by
    generalize a.eval x = v at e2
    cases e2; rfl
  exact wp_cond hev (a3 σ I a w Q hst hk)
def inB (id : Nat) : Exit -> Exit
  | .exit id' => if id' = id then .normal else .exit id'
  | e => e
theorem XGoes.block {id : Nat} {x : Code} {T T' : Tr SV} {h h' : Mem} {D D' : SLate} {e e' : Exit} (hx : XGoes (Code.wp P x) ρ n T h D e T' h' D') (he : e' = inB id e) : XGoes (Code.wp P (.block id x)) ρ n T h D e' T' h' D' :=
  hx.as fun Q a w hw => wp_block (wp_mono hw (by
    rintro e₁ a w ⟨rfl, h0⟩
    subst he
    cases e₁ with
    | exit id' =>
      simp only [Exit.inBlock]
      simp only [inB] at h0
      by_cases e1 : id' = id
      · rw [if_pos e1] at h0 ⊢; exact h0
      · rw [if_neg e1] at h0 ⊢; exact h0
    | _ => exact h0))
theorem srun_rounds {x : Code} : ∀ (f : Nat), (∀ m, m < f -> ∀ T h D e T' h' D', srun Γ P sc n m x T h D = some (e, T', h', D') -> XGoes (Code.wp P x) ρ n T h D e T' h' D') ->
    ∀ T h D e T' h' D', srun Γ P sc n f (.loop x) T h D = some (e, T', h', D') -> XGoes (fun Q => Code.rounds P x Q f) ρ n T h D e T' h' D' := by
  intro f
  induction f with
  | zero => intro _ T h D e T' h' D' hr; simp [srun] at hr
  | succ f ih =>
    intro hx T h D e T' h' D' hr
    simp only [srun] at hr
    cases hr1 : srun Γ P sc n f x T h D with
    | none => rw [hr1] at hr; cases hr
    | some r =>
      obtain ⟨e1, T1, h1, D1⟩ := r
      rw [hr1] at hr
      have hg := hx f (Nat.lt_succ_self f) T h D e1 T1 h1 D1 hr1
      cases e1 with
      | normal =>
        simp only at hr
        refine hg.then (ih (fun m hm => hx m (by omega)) T1 h1 D1 e T' h' D' hr) fun Q a w h => ?_
        rw [rounds_succ]
        exact wp_mono h (by rintro _ a w ⟨rfl, h⟩; exact h)
      | _ =>
        simp only [Option.some.injEq, Prod.mk.injEq] at hr
        obtain ⟨rfl, rfl, rfl, rfl⟩ := hr
        refine hg.as fun Q a w h => ?_
        rw [rounds_succ]
        exact wp_mono h (by rintro _ a w ⟨rfl, h⟩; exact h)
theorem sjumps_none {run : Tr SV -> Mem -> SLate -> CRes} {l : Nat} : ∀ m, sjumps run l m none = none
  | 0 => rfl
  | _ + 1 => rfl
theorem XGoes.scope_straight {x : Code} {T T' : Tr SV} {h h' : Mem} {D D' : SLate} {e : Exit} (he : ∀ l, e ≠ .goto l) (hx : XGoes (Code.wp P x) ρ n T h D e T' h' D') : XGoes (Code.wp P (.scope x)) ρ n T h D e T' h' D' :=
  hx.as fun Q a w h => wp_scope_straight (wp_mono h (by
    rintro e₁ a w ⟨rfl, h⟩
    cases e₁ with
    | goto l => exact absurd rfl (he l)
    | _ => exact h))
theorem sjumps_go {rest : Code} {l f : Nat} {T' : Tr SV} {h' : Mem} {D' : SLate} {e : Exit} (hrest : ∀ T h D e T' h' D', srun Γ P sc n f rest T h D = some (e, T', h', D') -> XGoes (Code.wp P rest) ρ n T h D e T' h' D') (he : ∀ l, e ≠ .goto l) : ∀ (m : Nat) (T : Tr SV) (h : Mem) (D : SLate),
    sjumps (srun Γ P sc n f rest) l m (some (.goto l, T, h, D)) = some (e, T', h', D') -> XGoes (fun Q => Code.passes P rest l Q m) ρ n T h D e T' h' D' := by
  intro m
  induction m with
  | zero => intro T h D hj; simp [sjumps] at hj
  | succ m ih =>
    intro T h D hj
    simp only [sjumps, Nat.beq_refl, cond_true] at hj
    cases hr1 : srun Γ P sc n f rest T h D with
    | none => rw [hr1, sjumps_none] at hj; cases hj
    | some r =>
      obtain ⟨e3, T3, h3, D3⟩ := r
      rw [hr1] at hj
      have hg := hrest T h D e3 T3 h3 D3 hr1
      cases m with
      | zero => simp [sjumps] at hj
      | succ m =>
        cases e3 with
        | goto l' =>
          have hl : l' = l := by
            simp only [sjumps] at hj
            cases hb : Nat.beq l' l with
            | true => exact Nat.eq_of_beq_eq_true hb
            | false => rw [hb] at hj; cases hj
          subst hl
          exact hg.then (ih T3 h3 D3 hj) fun Q a w h => wp_mono h (by rintro _ a w ⟨rfl, h⟩; exact ⟨rfl, h⟩)
        | _ =>
          simp only [sjumps, Option.some.injEq, Prod.mk.injEq] at hj
          obtain ⟨rfl, rfl, rfl, rfl⟩ := hj
          exact hg.as fun Q a w h => wp_mono h (by rintro _ a w ⟨rfl, h⟩; exact h)
theorem sjumps_out {run : Tr SV -> Mem -> SLate -> CRes} {l : Nat} {e : Exit} {T' : Tr SV} {h' : Mem} {D' : SLate} : ∀ (m : Nat) (r : CRes), sjumps run l m r = some (e, T', h', D') -> ∀ l', e ≠ .goto l'
  | 0, _, h => by simp [sjumps] at h
  | m + 1, none, h => by simp [sjumps] at h
  | m + 1, some (e1, T1, h1, D1), h => by
    cases e1 with
    | goto l1 =>
      simp only [sjumps] at h
      cases hb : Nat.beq l1 l with
      | true => rw [hb] at h; exact sjumps_out m _ h
      | false => rw [hb] at h; cases h
    | _ =>
      simp only [sjumps, Option.some.injEq, Prod.mk.injEq] at h
      obtain ⟨rfl, _⟩ := h
      intro l' e; cases e
theorem XGoes.scope_jumps {x rest : Code} {l f m : Nat} {T T₁ T' : Tr SV} {h h₁ h' : Mem} {D D₁ D' : SLate} {e : Exit} (hf : findLabel x l = some rest) (hx : XGoes (Code.wp P x) ρ n T h D (.goto l) T₁ h₁ D₁)
    (hrest : ∀ T h D e T' h' D', srun Γ P sc n f rest T h D = some (e, T', h', D') -> XGoes (Code.wp P rest) ρ n T h D e T' h' D') (hr : sjumps (srun Γ P sc n f rest) l m (some (.goto l, T₁, h₁, D₁)) = some (e, T', h', D')) :
    XGoes (Code.wp P (.scope x)) ρ n T h D e T' h' D' :=
  hx.then (sjumps_go hrest (sjumps_out _ _ hr) m T₁ h₁ D₁ hr) fun Q a w h => wp_scope_passes m hf (wp_mono h (by rintro _ a w ⟨rfl, h⟩; exact ⟨rfl, h⟩))
theorem srun_ok (hF : FOk ρ Γ) (hsc : SCallOK P ρ sc) (hn : n < 1000000) : ∀ (f : Nat) (code : Code) (T : Tr SV) (h : Mem) (D : SLate) (e : Exit) (T' : Tr SV) (h' : Mem) (D' : SLate),
    srun Γ P sc n f code T h D = some (e, T', h', D') -> XGoes (Code.wp P code) ρ n T h D e T' h' D' := by
  intro f
  induction f using Nat.strongRecOn with
  | _ f ih =>
    intro code T h D e T' h' D' hr
    cases f with
    | zero => simp [srun] at hr
    | succ f =>
      have ihf := ih f (Nat.lt_succ_self f)
      cases code with
      | skip => simp only [srun, Option.some.injEq, Prod.mk.injEq] at hr; obtain ⟨rfl, rfl, rfl, rfl⟩ := hr; exact .here fun _ _ _ q => wp_skip q
      | label l => simp only [srun, Option.some.injEq, Prod.mk.injEq] at hr; obtain ⟨rfl, rfl, rfl, rfl⟩ := hr; exact .here fun _ _ _ q => wp_label q
      | exit l => simp only [srun, Option.some.injEq, Prod.mk.injEq] at hr; obtain ⟨rfl, rfl, rfl, rfl⟩ := hr; exact .here fun _ _ _ q => wp_exit q
      | goto l => simp only [srun, Option.some.injEq, Prod.mk.injEq] at hr; obtain ⟨rfl, rfl, rfl, rfl⟩ := hr; exact .here fun _ _ _ q => wp_goto q
      | ret => simp only [srun, Option.some.injEq, Prod.mk.injEq] at hr; obtain ⟨rfl, rfl, rfl, rfl⟩ := hr; exact .here fun _ _ _ q => wp_ret q
      | region id ops d =>
        simp only [srun] at hr
        cases hd : dstOk n ops with
        | false => rw [hd] at hr; cases hr
        | true =>
          rw [hd] at hr
          simp only [cond_true] at hr
          cases d with
          | true =>
            simp only [cond_true] at hr
            cases hq : (P.follows .mixedOrders && planOK ops (mkPlan ops).1 (mkPlan ops).2) with
            | false => rw [hq] at hr; cases hr
            | true =>
              rw [hq] at hr
              simp only [Bool.and_eq_true] at hq
              simp only [cond_true, Option.map_eq_some_iff] at hr
              obtain ⟨⟨T1, h1⟩, hr, e1⟩ := hr
              simp only [Prod.mk.injEq] at e1
              obtain ⟨rfl, rfl, rfl, rfl⟩ := e1
              exact .draw hF hsc hn hq.1 hd hq.2 hr
          | false =>
            simp only [cond_false, Option.map_eq_some_iff] at hr
            obtain ⟨⟨T1, h1, D1⟩, hr, e1⟩ := hr
            simp only [Prod.mk.injEq] at e1
            obtain ⟨rfl, rfl, rfl, rfl⟩ := e1
            exact .region hF hsc hn hd hr
      | seq x y =>
        simp only [srun] at hr
        cases hr1 : srun Γ P sc n f x T h D with
        | none => rw [hr1] at hr; cases hr
        | some r =>
          obtain ⟨e1, T1, h1, D1⟩ := r
          rw [hr1] at hr
          have hx := ihf x T h D e1 T1 h1 D1 hr1
          cases e1 with
          | normal => exact .seq hx (ihf y T1 h1 D1 e T' h' D' hr)
          | _ =>
            simp only [Option.some.injEq, Prod.mk.injEq] at hr
            obtain ⟨rfl, rfl, rfl, rfl⟩ := hr
            exact .seq_out (by intro e; cases e) hx
      | cond x y z =>
        simp only [srun] at hr
        split at hr
        · rename_i b hx
          cases b with
          | true => exact .cond hx (ihf y T h D e T' h' D' hr)
          | false => exact .cond hx (ihf z T h D e T' h' D' hr)
        · cases hr
      | block id x =>
        simp only [srun] at hr
        cases hr1 : srun Γ P sc n f x T h D with
        | none => rw [hr1] at hr; cases hr
        | some r =>
          obtain ⟨e1, T1, h1, D1⟩ := r
          rw [hr1] at hr
          have hx := ihf x T h D e1 T1 h1 D1 hr1
          cases e1 with
          | exit id' =>
            simp only at hr
            cases hb : Nat.beq id' id with
            | true =>
              rw [hb] at hr
              simp only [cond_true, Option.some.injEq, Prod.mk.injEq] at hr
              obtain ⟨rfl, rfl, rfl, rfl⟩ := hr
              exact .block hx (by simp [inB, Nat.eq_of_beq_eq_true hb])
            | false =>
              rw [hb] at hr
              simp only [cond_false, Option.some.injEq, Prod.mk.injEq] at hr
              obtain ⟨rfl, rfl, rfl, rfl⟩ := hr
              exact .block hx (by
                have : id' ≠ id := by rintro rfl; simp at hb
                simp [inB, this])
          | _ =>
            simp only [Option.some.injEq, Prod.mk.injEq] at hr
            obtain ⟨rfl, rfl, rfl, rfl⟩ := hr
            exact .block hx rfl
      | loop x => exact (srun_rounds (f + 1) (fun m hm => ih m hm x) T h D e T' h' D' hr).up fun Q a w h => wp_loop_rounds (f + 1) h
      | scope x =>
        simp only [srun] at hr
        cases hr1 : srun Γ P sc n f x T h D with
        | none => rw [hr1] at hr; cases hr
        | some r =>
          obtain ⟨e1, T1, h1, D1⟩ := r
          rw [hr1] at hr
          have hx := ihf x T h D e1 T1 h1 D1 hr1
          cases e1 with
          | goto l =>
            simp only at hr
            split at hr
            · rename_i rest hfl
              exact .scope_jumps hfl hx (ihf rest) hr
            · cases hr
          | _ =>
            simp only [Option.some.injEq, Prod.mk.injEq] at hr
            obtain ⟨rfl, rfl, rfl, rfl⟩ := hr
            exact .scope_straight (by intro l e; cases e) hx
      | _ => simp [srun] at hr
end
end Go.Proofs.YtjinjfblilacaaaGreat.Den
end
