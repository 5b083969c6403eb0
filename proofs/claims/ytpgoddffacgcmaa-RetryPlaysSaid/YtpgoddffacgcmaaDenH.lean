/- The operations of the model are those of the abstract memory: numbers; then all kinds together, but for calls. -/
import Derived.Test.YtpgoddffacgcmaaDenG
namespace Go.Proofs.Ytpgoddffacgcmaa.Den
variable {P : Program}

theorem run_binV {op : BinOp} {t : TypeId} {x y r : Value} (w : World) (h : binV op x y = some r) : (binOp op t x y).run P w = .ok r w := by
  unfold binV at h
  split at h
  all_goals first | (cases h; done) | skip
  all_goals (try (split at h <;> try (cases h; done)))
  all_goals (try (rename_i hk; first | (obtain ⟨rfl, hk⟩ := hk) | subst hk | skip))
  all_goals first
    | (simp at h; subst h; simp [binOp, Op.intArith, Op.intCmp, Op.intBits, Op.intDiv, Op.shift, Op.stringOp, Op.floatCmp, Op.complexOp, *]; done)
    | skip
  case h_15.isTrue => rename_i hk; cases h; simp [binOp, Op.shift, Int.not_lt.2 hk]
  case h_16.isTrue => rename_i hk; cases h; simp [binOp, Op.shift, Int.not_lt.2 hk]
  case h_17.isFalse => rename_i hk; cases h; simp only [binOp, Op.stringOp, if_neg hk, Sem.run_pure]
  case h_26.isTrue =>
    simp only [Option.map_eq_some_iff] at h
    obtain ⟨b, hb, rfl⟩ := h
    exact run_float_arith w _ _ _ _ _ _ hb
  case h_27.isTrue =>
    simp only [Option.map_eq_some_iff] at h
    obtain ⟨b, hb, rfl⟩ := h
    exact run_float_arith w _ _ _ _ _ _ hb
  case h_28.isTrue =>
    simp only [Option.map_eq_some_iff] at h
    obtain ⟨b, hb, rfl⟩ := h
    exact run_float_arith w _ _ _ _ _ _ hb
  case h_29.isTrue =>
    simp only [Option.map_eq_some_iff] at h
    obtain ⟨⟨x, y⟩, hb, rfl⟩ := h
    exact run_complex_sum w .add (.inl rfl) _ _ _ _ _ _ _ _ hb
  case h_30.isTrue => cases h; exact run_eql_complex w _ _ _ _ _ _
  case h_31.isTrue => cases h; exact run_neq_complex w _ _ _ _ _ _

theorem run_convV {src dst : TypeId} {x r : Value} (w : World) (h : convV P src dst x = some r) : (convert src dst x).run P w = .ok r w := by
  unfold convV at h
  split at h
  · rename_i d k q n hs hd
    cases h
    simp [convert, run_underlying' w hs, run_underlying' w hd, Conv.intToInt]
  · rename_i d k q n hs hd
    cases h
    simp [convert, run_underlying' w hs, run_underlying' w hd, Conv.intToFloat]
  · rename_i d k s b hs hd
    simp only [Option.map_eq_some_iff] at h
    obtain ⟨n, hn, rfl⟩ := h
    exact run_convert_float_int w src dst s k b n (by rw [hs]; rfl) hd hn
  · rename_i d s hs hd
    cases h
    simp [convert, run_underlying' w hs, run_underlying' w hd]
  · cases h

theorem guard_eql {t : TypeId} {x y : Operand} {u v r : Value} (w : World) (h : binV .eql u v = some r) : (eqGuard .eql t x y u v).run P w = .ok () w := by
  cases u <;> cases v <;> first | rfl | (simp [binV] at h)
theorem guard_neq {t : TypeId} {x y : Operand} {u v r : Value} (w : World) (h : binV .neq u v = some r) : (eqGuard .neq t x y u v).run P w = .ok () w := by
  cases u <;> cases v <;> first | rfl | (simp [binV] at h)

theorem toVal_rel {σ : Sig} {I : Imm} {a : AV} {v u : Value} (h : VRel σ I a v) (ha : a.toVal? = some u) : v = u := by
  cases h with
  | val v => simp [AV.toVal?] at ha; exact ha
  | @agg l arr hl =>
    simp only [AV.toVal?, Option.map_eq_some_iff] at ha
    obtain ⟨vs, hvs, rfl⟩ := ha
    congr 1
    have : arr.toList = vs := by
      generalize arr.toList = us at hl
      clear arr
      induction l generalizing us vs with
      | nil => cases hl; simp [allVals] at hvs; exact hvs.symm
      | cons a l ih =>
        cases hl with
        | cons h t =>
          cases h with
          | val v =>
            simp only [allVals, Option.map_eq_some_iff] at hvs
            obtain ⟨ws, hws, rfl⟩ := hvs
            rw [ih ws hws _ t]
          | _ => simp [allVals] at hvs
    rw [← this]
  | _ => simp [AV.toVal?] at ha

theorem eqIn_ptr {t e : TypeId} (w : World) (d : Nat) (a : Addr) (hu : P.underlying t = some (.pointer e)) : (Op.equalIn (d + 1) t (.pointer (some a)) (.pointer none)).run P w = .ok false w := by simp [Op.equalIn, run_underlying' w hu]
theorem eqIn_slice {t e : TypeId} (w : World) (d : Nat) (a : Addr) (l c : Nat) (hu : P.underlying t = some (.slice e)) : (Op.equalIn (d + 1) t (.slice (some a) l c) (.slice none 0 0)).run P w = .ok false w := by simp [Op.equalIn, run_underlying' w hu]
theorem eqIn_func {t : TypeId} {ps rs : Array TypeId} {vr : Bool} (w : World) (d : Nat) (f : Fn) (l k : Array Value) (hu : P.underlying t = some (.func ps rs vr)) : (Op.equalIn (d + 1) t (.func f l k) .nilFunc).run P w = .ok false w := by simp [Op.equalIn, run_underlying' w hu]
theorem eq_ptr {t e : TypeId} (w : World) (a : Addr) (hu : P.underlying t = some (.pointer e)) : (Op.equal t (.pointer (some a)) (.pointer none)).run P w = .ok false w := eqIn_ptr w 9999 a hu
theorem eq_slice {t e : TypeId} (w : World) (a : Addr) (l c : Nat) (hu : P.underlying t = some (.slice e)) : (Op.equal t (.slice (some a) l c) (.slice none 0 0)).run P w = .ok false w := eqIn_slice w 9999 a l c hu
theorem eq_func {t : TypeId} {ps rs : Array TypeId} {vr : Bool} (w : World) (f : Fn) (l k : Array Value) (hu : P.underlying t = some (.func ps rs vr)) : (Op.equal t (.func f l k) .nilFunc).run P w = .ok false w := eqIn_func w 9999 f l k hu

theorem nil_rel {σ : Sig} {I : Imm} {a : AV} {v n : Value} {b : Bool} {t : TypeId} {x y : Operand} (w : World) (h : VRel σ I a v) (hb : a.nilEq n (P.underlying t) = some b) :
    (eqGuard .eql t x y v n).run P w = .ok () w ∧ (eqGuard .neq t x y v n).run P w = .ok () w ∧ (binOp .eql t v n).run P w = .ok (.bool b) w ∧ (binOp .neq t v n).run P w = .ok (.bool !b) w := by
  unfold AV.nilEq at hb
  split at hb
  · rename_i m off e hu
    cases hb
    cases h
    refine ⟨rfl, rfl, ?_, ?_⟩ <;> simp [binOp, eq_ptr w _ hu]
  · rename_i m cs off e hu
    cases hb
    cases h
    refine ⟨rfl, rfl, ?_, ?_⟩ <;> simp [binOp, eq_ptr w _ hu]
  · rename_i m off len sz e hu
    cases hb
    cases h
    refine ⟨rfl, rfl, ?_, ?_⟩ <;> simp [binOp, eq_slice w _ _ _ hu]
  · rename_i m len cs e hu
    cases hb
    cases h
    refine ⟨rfl, rfl, ?_, ?_⟩ <;> simp [binOp, eq_slice w _ _ _ hu]
  · rename_i f l k ps rs vr hu
    cases hb
    cases h
    refine ⟨rfl, rfl, ?_, ?_⟩ <;> simp [binOp, eq_func w _ _ _ hu]
  · cases hb

theorem run_aeq {σ : Sig} {I : Imm} {neg : Bool} {t : TypeId} {x y : Operand} {a b r : AV} {u v : Value} (w : World) (ha : VRel σ I a u) (hb : VRel σ I b v) (h : aeq P neg t x y a b = some r) :
    ∃ q, (do eqGuard (if neg then .neq else .eql) t x y u v; binOp (if neg then .neq else .eql) t u v : Sem Value).run P w = .ok q w ∧ VRel σ I r q := by
  unfold aeq at h
  split at h
  · cases ha
    cases hb
    split at h
    · rename_i q hq
      cases h
      refine ⟨q, ?_, .val _⟩
      cases neg with
      | true => simp only [if_true] at hq ⊢; simp [guard_neq w hq, run_binV w hq]
      | false => simp only [Bool.false_eq_true, if_false] at hq ⊢; simp [guard_eql w hq, run_binV w hq]
    · simp only [Option.map_eq_some_iff] at h
      obtain ⟨q, hq, rfl⟩ := h
      exact ⟨q, peek_run hq w, .val _⟩
  · split at h
    · rename_i u' v' hu hv
      obtain rfl := toVal_rel ha hu
      obtain rfl := toVal_rel hb hv
      simp only [Option.map_eq_some_iff] at h
      obtain ⟨q, hq, rfl⟩ := h
      exact ⟨q, peek_run hq w, .val _⟩
    · cases h
  · simp only [Option.map_eq_some_iff] at h
    obtain ⟨q, hq, rfl⟩ := h
    cases hb
    obtain ⟨g1, g2, h1, h2⟩ := nil_rel (P := P) (x := x) (y := y) w ha hq
    cases neg with
    | true => exact ⟨.bool (q != true), by simp [g2, h2], .val _⟩
    | false => exact ⟨.bool (q != false), by simp [g1, h1], .val _⟩
  · cases h

end Go.Proofs.Ytpgoddffacgcmaa.Den
