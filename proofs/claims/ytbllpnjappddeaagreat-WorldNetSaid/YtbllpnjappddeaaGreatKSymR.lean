/- The executor by plain recursors, quick for the kernel: the same by evaluation. Printed by tools/gen_symr.py. -/
import Derived.Test.YtbllpnjappddeaaGreatKSymN
set_option linter.unusedVariables false
set_option linter.unusedSimpArgs false
section
set_option linter.unusedVariables false
set_option linter.unusedSimpArgs false
namespace Go.Proofs.YtbllpnjappddeaaGreat.Den
/-! ### small things -/
abbrev FT := List Fact -> Program -> SCall -> Tr SV -> Mem -> SRes
noncomputable def gd : Option SV -> SV := @Option.rec SV (fun _ => SV) (.val undef) (fun v => v)
noncomputable def genv : Operand -> Tr SV -> SV := @Operand.rec (fun _ => Tr SV -> SV) (fun t T => gd (Tr.get T t)) (fun v _ => ofConst v) (fun g _ => .val (.pointer (some ⟨g, 0, none⟩))) (fun f _ => .fn (.func f) [] [])
theorem genv_eq (x : Operand) (T : Tr SV) : genv x T = senv T x := by
 cases x with
 | tmp t => simp only [genv, senv]; cases T.get t <;> rfl
 | _ => rfl
noncomputable def gput : Option Tmp -> SV -> Tr SV -> Tr SV := @Option.rec Tmp (fun _ => SV -> Tr SV -> Tr SV) (fun _ T => T) (fun i v T => T.put i v)
theorem gput_eq (d : Option Tmp) (v : SV) (T : Tr SV) : gput d v T = sput T d v := by cases d <;> rfl
noncomputable def nth : Nat -> List SV -> Option SV := @Nat.rec (fun _ => List SV -> Option SV) (@List.rec SV (fun _ => Option SV) none (fun x _ _ => some x)) (fun _ ih l => @List.rec SV (fun _ => (List SV -> Option SV) -> Option SV) (fun _ => none) (fun _ r _ ih => ih r) l ih)
theorem nth_eq : ∀ (n : Nat) (l : List SV), nth n l = l[n]?
 | 0, [] => rfl
 | 0, _ :: _ => rfl
 | n + 1, [] => rfl
 | n + 1, x :: l => by
  show nth n l = _
  rw [nth_eq n l]; simp
noncomputable def lset : Nat -> SV -> List SV -> List SV := @Nat.rec (fun _ => SV -> List SV -> List SV) (fun v l => @List.rec SV (fun _ => SV -> List SV) (fun _ => []) (fun _ r _ v => v :: r) l v) (fun _ ih v l => @List.rec SV (fun _ => (SV -> List SV -> List SV) -> SV -> List SV) (fun _ _ => []) (fun x r _ ih v => x :: ih v r) l ih v)
theorem lset_ok : ∀ (n : Nat) (v : SV) (l : List SV), (nth n l).isSome = true -> sset n [v] l = some (lset n v l)
 | 0, v, [], h => by cases h
 | 0, v, _ :: _, _ => rfl
 | n + 1, v, [], h => by cases h
 | n + 1, v, x :: l, h => by
  have := lset_ok n v l h
  show (sset n [v] l).map (x :: ·) = _
  rw [this]; rfl
noncomputable def gnat : SV -> Option Nat :=
 @SV.rec (fun _ => Option Nat) (fun _ => Unit)
  (fun kk ee => @IE.rec (fun _ => Option Nat) (fun _ => Unit) (fun n => @Int.rec (fun _ => Option Nat) (fun n => some n) (fun _ => none) n) (fun _ => none) (fun _ => none) (fun _ _ _ _ _ _ => none) (fun _ _ _ => none) (fun _ _ _ _ => none) () (fun _ _ _ _ => ()) ee)
  (fun bb => none)
  (fun ll => none)
  (fun vv => none)
  (fun n o => none)
  (fun mm cc o _ => none)
  (fun n o len sz => none)
  (fun mm len cc _ => none)
  (fun cc _ => none)
  (fun cc _ => none)
  (fun ff aa bb _ _ => none)
  () (fun _ _ _ _ => ())
theorem gnat_eq (a : SV) : gnat a = sNat a := by
 cases a with
 | int k e =>
  cases e with
  | lit n => cases n <;> rfl
  | _ => rfl
 | _ => rfl
/-- The kind, as a number; of what is none: 8. -/
noncomputable def gkind : SV -> Nat :=
 @SV.rec (fun _ => Nat) (fun _ => Unit)
  (fun kk ee => @IntKind.rec (fun _ => Nat) 0 1 2 3 4 5 6 7 kk)
  (fun bb => 8)
  (fun ll => 8)
  (fun vv => 8)
  (fun n o => 8)
  (fun mm cc o _ => 8)
  (fun n o len sz => 8)
  (fun mm len cc _ => 8)
  (fun cc _ => 8)
  (fun cc _ => 8)
  (fun ff aa bb _ _ => 8)
  () (fun _ _ _ _ => ())
theorem gkind_eq {a b : SV} {m n : Nat} (ha : sNat a = some m) (hb : sNat b = some n) (h : Nat.beq (gkind a) (gkind b) = true) : ∃ k, a = .int k (.lit (.ofNat m)) /\ b = .int k (.lit (.ofNat n)) := by
 unfold sNat at ha hb
 split at ha
 ·split at ha
  ·split at hb
   ·split at hb
    ·cases ha; cases hb
     rename_i k _ _ k' _
     have : k = k' := by cases k <;> cases k' <;> first | rfl | (simp [gkind] at h)
     subst this
     exact ⟨k, rfl, rfl⟩
    ·cases hb
   ·cases hb
  ·cases ha
 ·cases ha
/-! ### loads -/
abbrev LT := TypeId -> Program -> Mem -> SRes
noncomputable def gl4 (h : Mem) : Option SV -> SRes := @Option.rec SV (fun _ => SRes) none (fun v => some (v, h))
noncomputable def gl3 : Option (List SV) -> Nat -> Mem -> SRes := @Option.rec (List SV) (fun _ => Nat -> Mem -> SRes) (fun _ _ => none) (fun row o h => gl4 h (nth o row))
noncomputable def gl2 : Option Nat -> Nat -> Nat -> Mem -> SRes := @Option.rec Nat (fun _ => Nat -> Nat -> Mem -> SRes) (fun _ _ _ => none) (fun _ n o h => gl3 (Tr.get h.m n) o h)
noncomputable def gl1 : Option Bool -> SV -> Nat -> Nat -> LT := @Option.rec Bool (fun _ => SV -> Nat -> Nat -> LT) (fun _ _ _ _ _ _ => none)
 (@Bool.rec (fun _ => SV -> Nat -> Nat -> LT) (fun _ n o t P h => gl2 (szOf P t) n o h) (fun a _ _ t P h => fload P t a h))
noncomputable def gload : SV -> LT :=
 @SV.rec (fun _ => LT) (fun _ => Unit)
  (fun kk ee => fun t P h => fload P t (.int kk ee) h)
  (fun bb => fun t P h => fload P t (.bool bb) h)
  (fun ll => fun t P h => fload P t (.str ll) h)
  (fun vv => fun t P h => fload P t (.val vv) h)
  (fun n o => fun t P h => gl1 (aggB P t) (.ptr n o) n o t P h)
  (fun mm cc o _ => fun t P h => fload P t (.imp mm cc o) h)
  (fun n o len sz => fun t P h => fload P t (.sl n o len sz) h)
  (fun mm len cc _ => fun t P h => fload P t (.im mm len cc) h)
  (fun cc _ => fun t P h => fload P t (.agg cc) h)
  (fun cc _ => fun t P h => fload P t (.tup cc) h)
  (fun ff aa bb _ _ => fun t P h => fload P t (.fn ff aa bb) h)
  () (fun _ _ _ _ => ())
theorem gload_eq (a : SV) (t : TypeId) (P : Program) (h : Mem) : gload a t P h = fload P t a h := by
 cases a with
 | ptr n o =>
  show gl1 (aggB P t) (.ptr n o) n o t P h = _
  cases hb : aggB P t with
  | none => simp only [gl1, fload, sload, hb]; rfl
  | some b =>
   cases b with
   | true => rfl
   | false =>
    simp only [gl1, fload, sload, hb]
    cases hz : szOf P t with
    | none => rfl
    | some z =>
     simp only [gl2, Mem.get]
     cases h.m.get n with
     | none => rfl
     | some row => simp only [gl3, nth_eq, Option.bind_some]; cases row[o]? <;> rfl
 | _ => rfl
/-! ### stores -/
noncomputable def gs5 (n : Nat) (row : List SV) (h : Mem) : SRes := some (.val undef, @Mem.rec (fun _ => Mem) (fun nx m => ⟨nx, m.put n row⟩) h)
noncomputable def gs4 : Option SV -> Nat -> Nat -> SV -> List SV -> Mem -> SRes := @Option.rec SV (fun _ => Nat -> Nat -> SV -> List SV -> Mem -> SRes) (fun _ _ _ _ _ => none) (fun _ n o x row h => gs5 n (lset o x row) h)
noncomputable def gs3 : Option (List SV) -> Nat -> Nat -> SV -> Mem -> SRes := @Option.rec (List SV) (fun _ => Nat -> Nat -> SV -> Mem -> SRes) (fun _ _ _ _ => none) (fun row n o x h => gs4 (nth o row) n o x row h)
noncomputable def gs2 : Bool -> Nat -> Nat -> SV -> LT := @Bool.rec (fun _ => Nat -> Nat -> SV -> LT) (fun n o x t P h => fstore P t (.ptr n o) x h) (fun n o x t P h => gs3 (Tr.get h.m n) n o x h)
/-- Is it of one cell? -/
noncomputable def oneSz (P : Program) (t : TypeId) : Bool := @Option.rec Nat (fun _ => Bool) false (fun n => Nat.beq n 1) (szOf P t)
noncomputable def gs1 : SV -> SV -> LT :=
 @SV.rec (fun _ => SV -> LT) (fun _ => Unit)
  (fun kk ee => fun v t P h => fstore P t (.int kk ee) v h)
  (fun bb => fun v t P h => fstore P t (.bool bb) v h)
  (fun ll => fun v t P h => fstore P t (.str ll) v h)
  (fun vv => fun v t P h => fstore P t (.val vv) v h)
  (fun n o => fun v t P h => gs2 (oneSz P t) n o v t P h)
  (fun mm cc o _ => fun v t P h => fstore P t (.imp mm cc o) v h)
  (fun n o len sz => fun v t P h => fstore P t (.sl n o len sz) v h)
  (fun mm len cc _ => fun v t P h => fstore P t (.im mm len cc) v h)
  (fun cc _ => fun v t P h => fstore P t (.agg cc) v h)
  (fun cc _ => fun v t P h => fstore P t (.tup cc) v h)
  (fun ff aa bb _ _ => fun v t P h => fstore P t (.fn ff aa bb) v h)
  () (fun _ _ _ _ => ())
noncomputable def gstore : SV -> TypeId -> Program -> SV -> Mem -> SRes :=
 @SV.rec (fun _ => TypeId -> Program -> SV -> Mem -> SRes) (fun _ => Unit)
  (fun kk ee => fun t P a h => gs1 a (.int kk ee) t P h)
  (fun bb => fun t P a h => gs1 a (.bool bb) t P h)
  (fun ll => fun t P a h => gs1 a (.str ll) t P h)
  (fun vv => fun t P a h => fstore P t a (.val vv) h)
  (fun n o => fun t P a h => gs1 a (.ptr n o) t P h)
  (fun mm cc o _ => fun t P a h => gs1 a (.imp mm cc o) t P h)
  (fun n o len sz => fun t P a h => gs1 a (.sl n o len sz) t P h)
  (fun mm len cc _ => fun t P a h => gs1 a (.im mm len cc) t P h)
  (fun cc _ => fun t P a h => fstore P t a (.agg cc) h)
  (fun cc _ => fun t P a h => fstore P t a (.tup cc) h)
  (fun ff aa bb _ _ => fun t P a h => gs1 a (.fn ff aa bb) t P h)
  () (fun _ _ _ _ => ())
theorem gs1_eq (a v : SV) (hc : v.cells = [v]) (h1 : v.one = true) (t : TypeId) (P : Program) (h : Mem) : gs1 a v t P h = fstore P t a v h := by
 cases a with
 | ptr n o =>
  show gs2 (oneSz P t) n o v t P h = _
  cases hz : szOf P t with
  | none => simp only [oneSz, hz]; rfl
  | some z =>
   cases hb : Nat.beq z 1 with
   | false => simp only [oneSz, hz, hb]; rfl
   | true =>
    have := Nat.eq_of_beq_eq_true hb
    subst this
    simp only [oneSz, hz, gs2, fstore, sstore, hc, List.length_singleton, decide_true, List.all_cons, h1, List.all_nil, Bool.and_true, cond_true, Mem.get]
    show gs3 (h.m.get n) n o v h = _
    cases hr : h.m.get n with
    | none => rfl
    | some row =>
     simp only [gs3, Option.bind_some]
     cases hn : nth o row with
     | none =>
      have h2 : sset o [v] row = none := by
       cases hs : sset o [v] row with
       | none => rfl
       | some row' =>
        exfalso
        have gen : ∀ (o : Nat) (row row' : List SV), nth o row = none -> sset o [v] row = some row' -> False := by
         intro o
         induction o with
         | zero => intro row row' hn hs; cases row with
          | nil => simp [sset, sset.ins] at hs
          | cons x r => cases hn
         | succ o ih => intro row row' hn hs; cases row with
          | nil => simp [sset] at hs
          | cons x r =>
           simp only [sset, Option.map_eq_some_iff] at hs
           obtain ⟨r', h3, _⟩ := hs
           exact ih r r' hn h3
        exact gen o row row' hn hs
      rw [h2]; rfl
     | some x =>
      rw [lset_ok o v row (by rw [hn]; rfl)]
      rfl
 | _ => rfl
theorem gstore_eq (a v : SV) (t : TypeId) (P : Program) (h : Mem) : gstore v t P a h = fstore P t a v h := by
 cases v with
 | int k e => exact gs1_eq a (.int k e) rfl rfl t P h
 | bool b => exact gs1_eq a (.bool b) rfl rfl t P h
 | str l => exact gs1_eq a (.str l) rfl rfl t P h
 | ptr n o => exact gs1_eq a (.ptr n o) rfl rfl t P h
 | sl n o l z => exact gs1_eq a (.sl n o l z) rfl rfl t P h
 | fn f x y => exact gs1_eq a (.fn f x y) rfl rfl t P h
 | im m l c => exact gs1_eq a (.im m l c) rfl rfl t P h
 | imp m c o => exact gs1_eq a (.imp m c o) rfl rfl t P h
 | _ => rfl
/-! ### addresses -/
noncomputable def slSz (P : Program) (t : TypeId) : Option Nat := match P.underlying t with | some (.slice e) => szOf P e | _ => none
noncomputable def gfin (n o : Nat) (h : Mem) : SRes := forceN o fun o => some (.ptr n o, h)
noncomputable def gi4 : Bool -> Nat -> Nat -> Nat -> Nat -> Nat -> SV -> LT := @Bool.rec (fun _ => Nat -> Nat -> Nat -> Nat -> Nat -> SV -> LT) (fun i n o len sz iv t P h => (sindexAddr P t (.sl n o len sz) iv).map (·, h)) (fun i n o len sz iv t P h => gfin n (Nat.add o (Nat.mul i sz)) h)
noncomputable def gi3 : Bool -> Nat -> Nat -> Nat -> Nat -> Nat -> SV -> LT := @Bool.rec (fun _ => Nat -> Nat -> Nat -> Nat -> Nat -> SV -> LT) (fun i n o len sz iv t P h => (sindexAddr P t (.sl n o len sz) iv).map (·, h)) (fun i n o len sz iv t P h => gi4 (Nat.ble (Nat.succ i) len) i n o len sz iv t P h)
noncomputable def gi2 : Option Nat -> Nat -> Nat -> Nat -> Nat -> Nat -> SV -> LT := @Option.rec Nat (fun _ => Nat -> Nat -> Nat -> Nat -> Nat -> SV -> LT) (fun i n o len sz iv t P h => (sindexAddr P t (.sl n o len sz) iv).map (·, h)) (fun s i n o len sz iv t P h => gi3 (Nat.beq s sz) i n o len sz iv t P h)
noncomputable def gi1 : Option Nat -> Nat -> Nat -> Nat -> Nat -> SV -> LT := @Option.rec Nat (fun _ => Nat -> Nat -> Nat -> Nat -> SV -> LT) (fun n o len sz iv t P h => (sindexAddr P t (.sl n o len sz) iv).map (·, h)) (fun i n o len sz iv t P h => gi2 (slSz P t) i n o len sz iv t P h)
noncomputable def arLen (P : Program) (t : TypeId) : Option Nat := match P.underlying t with | some (.array n e) => (match szOf P e with | some _ => some n | none => none) | _ => none
noncomputable def arSz (P : Program) (t : TypeId) : Nat := match P.underlying t with | some (.array n e) => (match szOf P e with | some s => s | none => 0) | _ => 0
noncomputable def gj3 : Bool -> Nat -> Nat -> Nat -> SV -> LT := @Bool.rec (fun _ => Nat -> Nat -> Nat -> SV -> LT) (fun i n o iv t P h => (sindexAddr P t (.ptr n o) iv).map (·, h)) (fun i n o iv t P h => gfin n (Nat.add o (Nat.mul i (arSz P t))) h)
noncomputable def gj2 : Option Nat -> Nat -> Nat -> Nat -> SV -> LT := @Option.rec Nat (fun _ => Nat -> Nat -> Nat -> SV -> LT) (fun i n o iv t P h => (sindexAddr P t (.ptr n o) iv).map (·, h)) (fun l i n o iv t P h => gj3 (Nat.ble (Nat.succ i) l) i n o iv t P h)
noncomputable def gj1 : Option Nat -> Nat -> Nat -> SV -> LT := @Option.rec Nat (fun _ => Nat -> Nat -> SV -> LT) (fun n o iv t P h => (sindexAddr P t (.ptr n o) iv).map (·, h)) (fun i n o iv t P h => gj2 (arLen P t) i n o iv t P h)
noncomputable def gindex : SV -> SV -> LT :=
 @SV.rec (fun _ => SV -> LT) (fun _ => Unit)
  (fun kk ee => fun i t P h => (sindexAddr P t (.int kk ee) i).map (·, h))
  (fun bb => fun i t P h => (sindexAddr P t (.bool bb) i).map (·, h))
  (fun ll => fun i t P h => (sindexAddr P t (.str ll) i).map (·, h))
  (fun vv => fun i t P h => (sindexAddr P t (.val vv) i).map (·, h))
  (fun n o => fun i t P h => gj1 (gnat i) n o i t P h)
  (fun mm cc o _ => fun i t P h => (sindexAddr P t (.imp mm cc o) i).map (·, h))
  (fun n o len sz => fun i t P h => gi1 (gnat i) n o len sz i t P h)
  (fun mm len cc _ => fun i t P h => (sindexAddr P t (.im mm len cc) i).map (·, h))
  (fun cc _ => fun i t P h => (sindexAddr P t (.agg cc) i).map (·, h))
  (fun cc _ => fun i t P h => (sindexAddr P t (.tup cc) i).map (·, h))
  (fun ff aa bb _ _ => fun i t P h => (sindexAddr P t (.fn ff aa bb) i).map (·, h))
  () (fun _ _ _ _ => ())
theorem gfin_eq (n o : Nat) (h : Mem) : gfin n o h = some (.ptr n o, h) := rfl
theorem gindex_eq (x i : SV) (t : TypeId) (P : Program) (h : Mem) : gindex x i t P h = (sindexAddr P t x i).map (·, h) := by
 cases x with
 | sl n o len sz =>
  show gi1 (gnat i) n o len sz i t P h = _
  rw [gnat_eq]
  cases hi : sNat i with
  | none => rfl
  | some k =>
   show gi2 (slSz P t) k n o len sz i t P h = _
   cases hs : slSz P t with
   | none => rfl
   | some s =>
    show gi3 (Nat.beq s sz) k n o len sz i t P h = _
    cases h1 : Nat.beq s sz with
    | false => rfl
    | true =>
     show gi4 (Nat.ble (Nat.succ k) len) k n o len sz i t P h = _
     cases h2 : Nat.ble (Nat.succ k) len with
     | false => rfl
     | true =>
      show gfin n (o + k * sz) h = _
      have h3 : ∃ e, P.underlying t = some (.slice e) /\ szOf P e = some s := by
       unfold slSz at hs
       split at hs
       ·rename_i e he; exact ⟨e, he, hs⟩
       ·cases hs
      obtain ⟨e, h4, h5⟩ := h3
      have h6 := Nat.eq_of_beq_eq_true h1
      subst h6
      have h7 : Nat.blt k len = true := h2
      simp only [sindexAddr, hi, h4, h5, decide_true, h7, Bool.and_self, cond_true, forceN_eq, gfin_eq, Option.map_some]
 | ptr n o =>
  show gj1 (gnat i) n o i t P h = _
  rw [gnat_eq]
  cases hi : sNat i with
  | none => rfl
  | some k =>
   show gj2 (arLen P t) k n o i t P h = _
   cases hs : arLen P t with
   | none => rfl
   | some l =>
    show gj3 (Nat.ble (Nat.succ k) l) k n o i t P h = _
    cases h2 : Nat.ble (Nat.succ k) l with
    | false => rfl
    | true =>
     show gfin n (o + k * arSz P t) h = _
     unfold arLen at hs
     split at hs
     ·rename_i l' e he
      split at hs
      ·rename_i s hse
       cases hs
       have h7 : Nat.blt k l = true := h2
       have h8 : arSz P t = s := by simp only [arSz, he, hse]
       simp only [sindexAddr, hi, he, hse, Option.bind_some, h7, cond_true, forceN_eq, gfin_eq, Option.map_some, h8]
      ·cases hs
     ·cases hs
 | _ => rfl
noncomputable def fldOff (P : Program) (s : TypeId) (f : Nat) : Option Nat :=
 match P.underlying s with
 | some (.struct fs) => (fs[f]?).bind fun fl => (szOf P fl.type).bind fun sz => bif Nat.beq sz 0 then none else some fl.offset
 | _ => none
noncomputable def gf1 : Option Nat -> Nat -> Nat -> Mem -> SRes := @Option.rec Nat (fun _ => Nat -> Nat -> Mem -> SRes) (fun _ _ _ => none) (fun d n o h => gfin n (Nat.add o d) h)
noncomputable def gfield : SV -> Nat -> LT :=
 @SV.rec (fun _ => Nat -> LT) (fun _ => Unit)
  (fun kk ee => fun f s P h => (sfieldAddr P s (.int kk ee) f).map (·, h))
  (fun bb => fun f s P h => (sfieldAddr P s (.bool bb) f).map (·, h))
  (fun ll => fun f s P h => (sfieldAddr P s (.str ll) f).map (·, h))
  (fun vv => fun f s P h => (sfieldAddr P s (.val vv) f).map (·, h))
  (fun n o => fun f s P h => gf1 (fldOff P s f) n o h)
  (fun mm cc o _ => fun f s P h => (sfieldAddr P s (.imp mm cc o) f).map (·, h))
  (fun n o len sz => fun f s P h => (sfieldAddr P s (.sl n o len sz) f).map (·, h))
  (fun mm len cc _ => fun f s P h => (sfieldAddr P s (.im mm len cc) f).map (·, h))
  (fun cc _ => fun f s P h => (sfieldAddr P s (.agg cc) f).map (·, h))
  (fun cc _ => fun f s P h => (sfieldAddr P s (.tup cc) f).map (·, h))
  (fun ff aa bb _ _ => fun f s P h => (sfieldAddr P s (.fn ff aa bb) f).map (·, h))
  () (fun _ _ _ _ => ())
theorem gfield_eq (x : SV) (f : Nat) (s : TypeId) (P : Program) (h : Mem) : gfield x f s P h = (sfieldAddr P s x f).map (·, h) := by
 cases x with
 | ptr n o =>
  show gf1 (fldOff P s f) n o h = _
  unfold fldOff sfieldAddr
  split
  ·rename_i fs hu
   simp only [hu]
   cases fs[f]? with
   | none => rfl
   | some fl =>
    simp only [Option.bind_some]
    cases szOf P fl.type with
    | none => rfl
    | some sz =>
     simp only [Option.bind_some]
     cases Nat.beq sz 0 <;> rfl
  ·rename_i hu
   split
   ·rename_i fs hfs; exact absurd hfs (hu fs)
   ·rfl
 | _ => rfl
/-! ### sums, comparisons -/
abbrev BT := List Fact -> Program -> TypeId -> Operand -> Operand -> Tr SV -> Mem -> SRes
/-- Numbers under these a kind has. -/
noncomputable def gkm : SV -> Nat :=
 @SV.rec (fun _ => Nat) (fun _ => Unit)
  (fun kk ee => @IntKind.rec (fun _ => Nat) 128 32768 2147483648 9223372036854775808 256 65536 4294967296 18446744073709551616 kk)
  (fun bb => 0)
  (fun ll => 0)
  (fun vv => 0)
  (fun n o => 0)
  (fun mm cc o _ => 0)
  (fun n o len sz => 0)
  (fun mm len cc _ => 0)
  (fun cc _ => 0)
  (fun cc _ => 0)
  (fun ff aa bb _ _ => 0)
  () (fun _ _ _ _ => ())
noncomputable def gkof : SV -> Nat -> SV :=
 @SV.rec (fun _ => Nat -> SV) (fun _ => Unit)
  (fun kk ee => fun r => .int kk (.lit (.ofNat r)))
  (fun bb => fun _ => (.bool bb))
  (fun ll => fun _ => (.str ll))
  (fun vv => fun _ => (.val vv))
  (fun n o => fun _ => (.ptr n o))
  (fun mm cc o _ => fun _ => (.imp mm cc o))
  (fun n o len sz => fun _ => (.sl n o len sz))
  (fun mm len cc _ => fun _ => (.im mm len cc))
  (fun cc _ => fun _ => (.agg cc))
  (fun cc _ => fun _ => (.tup cc))
  (fun ff aa bb _ _ => fun _ => (.fn ff aa bb))
  () (fun _ _ _ _ => ())
noncomputable def gb6 (va : SV) (r : Nat) (h : Mem) : SRes := forceN r fun r => some (gkof va r, h)
noncomputable def gb5 : Bool -> BinOp -> SV -> Nat -> BT := @Bool.rec (fun _ => BinOp -> SV -> Nat -> BT) (fun op va r Γ P t x y T h => fbin Γ P op t x y (senv T) h) (fun op va r Γ P t x y T h => gb6 va r h)
noncomputable def gb4 (op : BinOp) (va : SV) (r : Nat) : BT := fun Γ P t x y T h => gb5 (Nat.ble (Nat.succ r) (gkm va)) op va r Γ P t x y T h
noncomputable def gb3 : BinOp -> Nat -> Nat -> SV -> SV -> BT := @BinOp.rec (fun _ => Nat -> Nat -> SV -> SV -> BT)
  (fun a b va vb Γ P t x y T h => gb4 .add va (Nat.add a b) Γ P t x y T h)
  (fun a b va vb Γ P t x y T h => @Bool.rec (fun _ => Nat -> Nat -> SV -> SV -> BT) (fun a b va vb Γ P t x y T h => fbin Γ P .sub t x y (senv T) h) (fun a b va vb Γ P t x y T h => gb4 .sub va (Nat.sub a b) Γ P t x y T h) (Nat.ble b a) a b va vb Γ P t x y T h)
  (fun a b va vb Γ P t x y T h => gb4 .mul va (Nat.mul a b) Γ P t x y T h)
  (fun a b va vb Γ P t x y T h => fbin Γ P .quo t x y (senv T) h)
  (fun a b va vb Γ P t x y T h => fbin Γ P .rem t x y (senv T) h)
  (fun a b va vb Γ P t x y T h => fbin Γ P .and t x y (senv T) h)
  (fun a b va vb Γ P t x y T h => fbin Γ P .or t x y (senv T) h)
  (fun a b va vb Γ P t x y T h => fbin Γ P .xor t x y (senv T) h)
  (fun a b va vb Γ P t x y T h => fbin Γ P .shl t x y (senv T) h)
  (fun a b va vb Γ P t x y T h => fbin Γ P .shr t x y (senv T) h)
  (fun a b va vb Γ P t x y T h => fbin Γ P .andNot t x y (senv T) h)
  (fun a b va vb Γ P t x y T h => some (.bool (Nat.beq a b), h))
  (fun a b va vb Γ P t x y T h => some (.bool (@Bool.rec (fun _ => Bool) true false (Nat.beq a b)), h))
  (fun a b va vb Γ P t x y T h => some (.bool (Nat.ble (Nat.succ a) b), h))
  (fun a b va vb Γ P t x y T h => some (.bool (Nat.ble a b), h))
  (fun a b va vb Γ P t x y T h => some (.bool (Nat.ble (Nat.succ b) a), h))
  (fun a b va vb Γ P t x y T h => some (.bool (Nat.ble b a), h))
noncomputable def gb2 : Bool -> BinOp -> Nat -> Nat -> SV -> SV -> BT := @Bool.rec (fun _ => BinOp -> Nat -> Nat -> SV -> SV -> BT) (fun op a b va vb Γ P t x y T h => fbin Γ P op t x y (senv T) h) gb3
noncomputable def gb1 : Option Nat -> BinOp -> Nat -> SV -> SV -> BT := @Option.rec Nat (fun _ => BinOp -> Nat -> SV -> SV -> BT) (fun op a va vb Γ P t x y T h => fbin Γ P op t x y (senv T) h) (fun b op a va vb Γ P t x y T h => gb2 (Nat.beq (gkind va) (gkind vb)) op a b va vb Γ P t x y T h)
noncomputable def gb0 : Option Nat -> BinOp -> SV -> SV -> BT := @Option.rec Nat (fun _ => BinOp -> SV -> SV -> BT) (fun op va vb Γ P t x y T h => fbin Γ P op t x y (senv T) h) (fun a op va vb Γ P t x y T h => gb1 (gnat vb) op a va vb Γ P t x y T h)
noncomputable def gbv (va vb : SV) (op : BinOp) : BT := gb0 (gnat va) op va vb
noncomputable def gbin (op : BinOp) : BT := fun Γ P t x y T h => gbv (genv x T) (genv y T) op Γ P t x y T h
theorem gwrap_nat (k : IntKind) (r : Nat) (e : IE) (h : r < gkm (.int k e)) : k.wrap (r : Int) = r := by
 cases k <;> simp [gkm, IntKind.bits, IntKind.signed, IntKind.wrap] at h ⊢ <;> omega
theorem gb4_eq {op : BinOp} {k : IntKind} {a b r : Nat} (hr : arI op k (a : Int) (b : Int) = some (k.wrap (r : Int))) (h1 : op ≠ .eql) (h2 : op ≠ .neq) (h3 : op ≠ .lss) (h4 : op ≠ .leq) (h5 : op ≠ .gtr) (h6 : op ≠ .geq)
  (Γ : List Fact) (P : Program) (t : TypeId) (x y : Operand) (T : Tr SV) (h : Mem) (hx : senv T x = .int k (.lit (.ofNat a))) (hy : senv T y = .int k (.lit (.ofNat b))) :
  gb4 op (.int k (.lit (.ofNat a))) r Γ P t x y T h = fbin Γ P op t x y (senv T) h := by
 unfold gb4
 cases hb : Nat.ble (Nat.succ r) (gkm (.int k (.lit (.ofNat a)))) with
 | false => rfl
 | true =>
  have hlt := Nat.le_of_ble_eq_true hb
  have hw := gwrap_nat k r _ hlt
  have hr' : arI op k (Int.ofNat a) (Int.ofNat b) = some (r : Int) := by rw [hw] at hr; exact hr
  show some (gkof (.int k (.lit (.ofNat a))) r, h) = _
  have hb2 : sbin Γ op (.int k (.lit (.ofNat a))) (.int k (.lit (.ofNat b))) = some (.int k (.lit (r : Int))) := by
   unfold sbin
   simp only [decide_true, Bool.or_true, cond_true]
   cases op <;> first | (exact absurd rfl ‹_›) | (simp only [binE, hr', forceI_eq, Option.map_some])
  cases op <;> first | (exact absurd rfl ‹_›) | (simp only [fbin, hx, hy, hb2, Option.map_some]; rfl)
theorem gcmp (a b : Nat) : (decide ((a : Int) < b) = Nat.ble (Nat.succ a) b) /\ (decide ((a : Int) <= b) = Nat.ble a b) /\ (((a : Int) == b) = Nat.beq a b) := by
 refine ⟨?_, ?_, ?_⟩
 ·rw [Bool.eq_iff_iff]; simp [Nat.ble_eq]; omega
 ·rw [Bool.eq_iff_iff]; simp [Nat.ble_eq]
 ·rw [Bool.eq_iff_iff]; simp [Nat.beq_eq]; omega
theorem gbin_eq (op : BinOp) (Γ : List Fact) (P : Program) (t : TypeId) (x y : Operand) (T : Tr SV) (h : Mem) : gbin op Γ P t x y T h = fbin Γ P op t x y (senv T) h := by
 show gb0 (gnat (genv x T)) op (genv x T) (genv y T) Γ P t x y T h = _
 rw [genv_eq, genv_eq, gnat_eq]
 cases ha : sNat (senv T x) with
 | none => rfl
 | some a =>
  show gb1 (gnat (senv T y)) op a (senv T x) (senv T y) Γ P t x y T h = _
  rw [gnat_eq]
  cases hb : sNat (senv T y) with
  | none => rfl
  | some b =>
   show gb2 (Nat.beq (gkind (senv T x)) (gkind (senv T y))) op a b (senv T x) (senv T y) Γ P t x y T h = _
   cases hk : Nat.beq (gkind (senv T x)) (gkind (senv T y)) with
   | false => rfl
   | true =>
    obtain ⟨k, hx, hy⟩ := gkind_eq ha hb hk
    obtain ⟨c1, c2, c3⟩ := gcmp a b
    obtain ⟨d1, d2, d3⟩ := gcmp b a
    show gb3 op a b (senv T x) (senv T y) Γ P t x y T h = _
    cases op with
    | add => simp only [gb3]; rw [hx]; exact gb4_eq (r := Nat.add a b) (by simp [arI]) (by simp) (by simp) (by simp) (by simp) (by simp) (by simp) Γ P t x y T h hx hy
    | mul => simp only [gb3]; rw [hx]; exact gb4_eq (r := Nat.mul a b) (by simp [arI]) (by simp) (by simp) (by simp) (by simp) (by simp) (by simp) Γ P t x y T h hx hy
    | sub =>
     simp only [gb3]
     cases hle : Nat.ble b a with
     | false => rfl
     | true =>
      have := Nat.le_of_ble_eq_true hle
      simp only []
      rw [hx]
      exact gb4_eq (r := Nat.sub a b) (by simp only [arI]; rw [show (Nat.sub a b : Nat) = a - b from rfl, Int.ofNat_sub this]) (by simp) (by simp) (by simp) (by simp) (by simp) (by simp) Γ P t x y T h hx hy
    | eql => simp only [gb3, fbin, seq, hx, hy, decide_true, cond_true, cond_false, cmpE, cmpI, Option.map_some]; rw [show (Int.ofNat a == Int.ofNat b) = Nat.beq a b from c3]
    | neq =>
     simp only [gb3, fbin, seq, hx, hy, decide_true, cond_true, cmpE, cmpI, Option.map_some]
     rw [show (Int.ofNat a != Int.ofNat b) = !(Nat.beq a b) from by rw [<- c3]; rfl]
     cases Nat.beq a b <;> rfl
    | lss => simp only [gb3, fbin, sbin, hx, hy, decide_true, Bool.or_true, cond_true, cmpE, cmpI, Option.map_some]; rw [show decide (Int.ofNat a < Int.ofNat b) = Nat.ble (Nat.succ a) b from c1]
    | leq => simp only [gb3, fbin, sbin, hx, hy, decide_true, Bool.or_true, cond_true, cmpE, cmpI, Option.map_some]; rw [show decide (Int.ofNat a <= Int.ofNat b) = Nat.ble a b from c2]
    | gtr => simp only [gb3, fbin, sbin, hx, hy, decide_true, Bool.or_true, cond_true, cmpE, cmpI, Option.map_some]; rw [show decide (Int.ofNat a > Int.ofNat b) = Nat.ble (Nat.succ b) a from d1]
    | geq => simp only [gb3, fbin, sbin, hx, hy, decide_true, Bool.or_true, cond_true, cmpE, cmpI, Option.map_some]; rw [show decide (Int.ofNat a ≥ Int.ofNat b) = Nat.ble b a from d2]
    | _ => rfl
/-! ### conversions -/
noncomputable def dstInt (P : Program) (src dst : TypeId) : Option IntKind := match P.underlying src, P.underlying dst with | some _, some (.int k') => some k' | _, _ => none
noncomputable def gc3 : Bool -> Nat -> IntKind -> SV -> TypeId -> LT := @Bool.rec (fun _ => Nat -> IntKind -> SV -> TypeId -> LT) (fun n k v src dst P h => sconv P src dst v h) (fun n k v src dst P h => some (.int k (.lit (.ofNat n)), h))
noncomputable def gc2 : Option IntKind -> Nat -> SV -> TypeId -> LT := @Option.rec IntKind (fun _ => Nat -> SV -> TypeId -> LT) (fun n v src dst P h => sconv P src dst v h) (fun k n v src dst P h => gc3 (Nat.ble (Nat.succ n) (gkm (.int k (.lit 0)))) n k v src dst P h)
noncomputable def gc1 : Option Nat -> SV -> TypeId -> LT := @Option.rec Nat (fun _ => SV -> TypeId -> LT) (fun v src dst P h => sconv P src dst v h) (fun n v src dst P h => gc2 (dstInt P src dst) n v src dst P h)
noncomputable def gconv (v : SV) : TypeId -> LT := gc1 (gnat v) v
theorem gconv_eq (v : SV) (src dst : TypeId) (P : Program) (h : Mem) : gconv v src dst P h = sconv P src dst v h := by
 show gc1 (gnat v) v src dst P h = _
 rw [gnat_eq]
 cases hv : sNat v with
 | none => rfl
 | some n =>
  show gc2 (dstInt P src dst) n v src dst P h = _
  cases hd : dstInt P src dst with
  | none => rfl
  | some k' =>
   show gc3 (Nat.ble (Nat.succ n) (gkm (.int k' (.lit 0)))) n k' v src dst P h = _
   cases hb : Nat.ble (Nat.succ n) (gkm (.int k' (.lit 0))) with
   | false => rfl
   | true =>
    have hw := gwrap_nat k' n _ (Nat.le_of_ble_eq_true hb)
    show some (SV.int k' (.lit (.ofNat n)), h) = _
    unfold sNat at hv
    split at hv
    ·split at hv
     ·cases hv
      unfold dstInt at hd
      split at hd
      ·rename_i h1 h2
       cases hd
       simp only [sconv, h1, h2, wrapE, forceI_eq]
       rw [show k'.wrap (Int.ofNat n) = Int.ofNat n from hw]
      ·cases hd
     ·cases hv
    ·cases hv
/-! ### one operation -/
noncomputable def gpush (row : List SV) (h : Mem) : SRes := @Mem.rec (fun _ => List SV -> SRes) (fun nx m row => forceN nx fun n => some (.ptr n 0, ⟨Nat.add n 1, m.put n row⟩)) h row
theorem gpush_eq (row : List SV) (h : Mem) : gpush row h = some (.ptr h.next 0, h.push row) := by cases h; rfl
noncomputable def gal : Option (List SV) -> Mem -> SRes := @Option.rec (List SV) (fun _ => Mem -> SRes) (fun _ => none) gpush
theorem gal_eq (P : Program) (e : TypeId) (h : Mem) : gal (szeros P e) h = falloc P e h := by
 unfold falloc
 cases szeros P e with
 | none => rfl
 | some z => exact gpush_eq z h
noncomputable def gnil : SV -> Mem -> SRes :=
 @SV.rec (fun _ => Mem -> SRes) (fun _ => Unit)
  (fun kk ee => fun h => fnil h (.int kk ee))
  (fun bb => fun h => fnil h (.bool bb))
  (fun ll => fun h => fnil h (.str ll))
  (fun vv => fun h => fnil h (.val vv))
  (fun n o => fun h => some (.ptr n o, h))
  (fun mm cc o _ => fun h => fnil h (.imp mm cc o))
  (fun n o len sz => fun h => fnil h (.sl n o len sz))
  (fun mm len cc _ => fun h => fnil h (.im mm len cc))
  (fun cc _ => fun h => fnil h (.agg cc))
  (fun cc _ => fun h => fnil h (.tup cc))
  (fun ff aa bb _ _ => fun h => fnil h (.fn ff aa bb))
  () (fun _ _ _ _ => ())
theorem gnil_eq (v : SV) (h : Mem) : gnil v h = fnil h v := by cases v <;> rfl
noncomputable def gextract : SV -> Nat -> Mem -> SRes :=
 @SV.rec (fun _ => Nat -> Mem -> SRes) (fun _ => Unit)
  (fun kk ee => fun _ _ => none)
  (fun bb => fun _ _ => none)
  (fun ll => fun _ _ => none)
  (fun vv => fun _ _ => none)
  (fun n o => fun _ _ => none)
  (fun mm cc o _ => fun _ _ => none)
  (fun n o len sz => fun _ _ => none)
  (fun mm len cc _ => fun _ _ => none)
  (fun cc _ => fun _ _ => none)
  (fun cc _ => fun i h => gl4 h (nth i cc))
  (fun ff aa bb _ _ => fun _ _ => none)
  () (fun _ _ _ _ => ())
theorem gextract_eq (v : SV) (i : Nat) (h : Mem) : gextract v i h = fextract i h v := by
 cases v with
 | tup c => show gl4 h (nth i c) = _; rw [nth_eq]; simp only [fextract]; cases c[i]? <;> rfl
 | _ => rfl
noncomputable def gargs (T : Tr SV) : List Operand -> List SV := @List.rec Operand (fun _ => List SV) [] (fun x _ ih => genv x T :: ih)
theorem gargs_eq (T : Tr SV) : ∀ l, gargs T l = l.map (senv T)
 | [] => rfl
 | x :: l => by show genv x T :: gargs T l = _; rw [gargs_eq T l, genv_eq]; rfl
abbrev KT := List Operand -> Array TypeId -> Program -> SCall -> Tr SV -> Mem -> SRes
noncomputable def gapp : List SV -> List SV -> List SV := fun l r => @List.rec SV (fun _ => List SV -> List SV) (fun r => r) (fun x _ ih r => x :: ih r) l r
theorem gapp_eq : ∀ l r, gapp l r = l ++ r
 | [], r => rfl
 | x :: l, r => by show x :: gapp l r = _; rw [gapp_eq l r]; rfl
noncomputable def gcallF : SV -> List Operand -> SCall -> Tr SV -> Mem -> SRes :=
 @SV.rec (fun _ => List Operand -> SCall -> Tr SV -> Mem -> SRes) (fun _ => Unit)
  (fun kk ee => fun _ _ _ _ => none)
  (fun bb => fun _ _ _ _ => none)
  (fun ll => fun _ _ _ _ => none)
  (fun vv => fun _ _ _ _ => none)
  (fun n o => fun _ _ _ _ => none)
  (fun mm cc o _ => fun _ _ _ _ => none)
  (fun n o len sz => fun _ _ _ _ => none)
  (fun mm len cc _ => fun _ _ _ _ => none)
  (fun cc _ => fun _ _ _ _ => none)
  (fun cc _ => fun _ _ _ _ => none)
  (fun ff aa bb _ _ => @Fn.rec (fun _ => List SV -> List SV -> List Operand -> SCall -> Tr SV -> Mem -> SRes) (fun g a b l call T h => call g (gapp (gapp a (gargs T l)) b) h) (fun _ _ _ _ _ _ _ => none) (fun _ _ _ _ _ _ _ _ => none) (fun _ _ _ _ _ _ _ _ _ _ => none) (fun _ _ _ _ _ _ _ => none) ff aa bb)
  () (fun _ _ _ _ => ())
theorem gcallF_eq (v : SV) (l : List Operand) (call : SCall) (T : Tr SV) (h : Mem) : gcallF v l call T h = fcallV call (l.map (senv T)) h v := by
 cases v with
 | fn f a b =>
  cases f with
  | func f => show call f (gapp (gapp a (gargs T l)) b) h = _; rw [gapp_eq, gapp_eq, gargs_eq]; rfl
  | _ => rfl
 | _ => rfl
noncomputable def gcall : Callee -> KT := @Callee.rec (fun _ => KT) (fun f l ts P call T h => gcallF (genv f T) l call T h) (fun _ _ l ts P call T h => none) (fun b l ts P call T h => sbuiltin P b ts (gargs T l) h)
theorem gcall_eq (c : Call) (P : Program) (call : SCall) (T : Tr SV) (h : Mem) : gcall c.callee c.args.toList c.argTypes P call T h = fcall P call c (senv T) h := by
 unfold fcall
 cases c.callee with
 | value f => show gcallF (genv f T) c.args.toList call T h = _; rw [gcallF_eq, genv_eq]
 | invoke r n => rfl
 | builtin b => show sbuiltin P b c.argTypes (gargs T c.args.toList) h = _; rw [gargs_eq]
noncomputable def gop : Op -> FT :=
 @Op.rec (fun _ => FT)
  (fun x Γ P call T h => some (genv x T, h))
  (fun x Γ P call T h => some (genv x T, h))
  (fun x0 x1 x2 => fun Γ P call T h => fop Γ P call (.pick x0 x1 x2) (senv T) h)
  (fun e Γ P call T h => gal (szeros P e) h)
  (fun e x Γ P call T h => gpush (SV.cells (genv x T)) h)
  (fun x0 x1 => fun Γ P call T h => fop Γ P call (.build x0 x1) (senv T) h)
  (fun x0 x1 x2 => fun Γ P call T h => fop Γ P call (.buildSlice x0 x1 x2) (senv T) h)
  (fun x0 x1 x2 x3 => fun Γ P call T h => fop Γ P call (.insert x0 x1 x2 x3) (senv T) h)
  (fun t a Γ P call T h => gload (genv a T) t P h)
  (fun t a x Γ P call T h => gstore (genv x T) t P (genv a T) h)
  (fun x0 => fun Γ P call T h => fop Γ P call (.ready x0) (senv T) h)
  (fun x0 => fun Γ P call T h => fop Γ P call (.waits x0) (senv T) h)
  (fun x Γ P call T h => gnil (genv x T) h)
  (fun op t x y t2 Γ P call T h => gbin op Γ P t x y T h)
  (fun x0 x1 x2 => fun Γ P call T h => fop Γ P call (.unOp x0 x1 x2) (senv T) h)
  (fun src dst x Γ P call T h => gconv (genv x T) src dst P h)
  (fun x0 x1 => fun Γ P call T h => fop Γ P call (.sliceToArrayPointer x0 x1) (senv T) h)
  (fun x0 x1 => fun Γ P call T h => fop Γ P call (.makeInterface x0 x1) (senv T) h)
  (fun x0 x1 x2 => fun Γ P call T h => fop Γ P call (.makeFunc x0 x1 x2) (senv T) h)
  (fun x0 x1 => fun Γ P call T h => fop Γ P call (.makeMap x0 x1) (senv T) h)
  (fun x0 x1 => fun Γ P call T h => fop Γ P call (.makeChan x0 x1) (senv T) h)
  (fun x0 x1 x2 => fun Γ P call T h => fop Γ P call (.makeSlice x0 x1 x2) (senv T) h)
  (fun x0 x1 x2 x3 x4 => fun Γ P call T h => fop Γ P call (.slice x0 x1 x2 x3 x4) (senv T) h)
  (fun s x f Γ P call T h => gfield (genv x T) f s P h)
  (fun x0 x1 x2 => fun Γ P call T h => fop Γ P call (.field x0 x1 x2) (senv T) h)
  (fun t x i Γ P call T h => gindex (genv x T) (genv i T) t P h)
  (fun x0 x1 x2 => fun Γ P call T h => fop Γ P call (.index x0 x1 x2) (senv T) h)
  (fun x0 x1 x2 x3 => fun Γ P call T h => fop Γ P call (.lookup x0 x1 x2 x3) (senv T) h)
  (fun x0 x1 x2 x3 => fun Γ P call T h => fop Γ P call (.mapUpdate x0 x1 x2 x3) (senv T) h)
  (fun x0 x1 x2 => fun Γ P call T h => fop Γ P call (.mapEntry x0 x1 x2) (senv T) h)
  (fun x0 x1 x2 x3 => fun Γ P call T h => fop Γ P call (.entryStore x0 x1 x2 x3) (senv T) h)
  (fun x0 x1 => fun Γ P call T h => fop Γ P call (.range x0 x1) (senv T) h)
  (fun x0 x1 => fun Γ P call T h => fop Γ P call (.next x0 x1) (senv T) h)
  (fun x0 => fun Γ P call T h => fop Γ P call (.entry x0) (senv T) h)
  (fun x0 x1 x2 x3 => fun Γ P call T h => fop Γ P call (.typeAssert x0 x1 x2 x3) (senv T) h)
  (fun x i Γ P call T h => gextract (genv x T) i h)
  (fun c Γ P call T h => gcall c.callee c.args.toList c.argTypes P call T h)
  (fun x0 => fun Γ P call T h => fop Γ P call (.go x0) (senv T) h)
  (fun x0 => fun Γ P call T h => fop Γ P call (.defer x0) (senv T) h)
  (fun x0 => fun Γ P call T h => fop Γ P call (.panic x0) (senv T) h)
  (fun x0 x1 => fun Γ P call T h => fop Γ P call (.send x0 x1) (senv T) h)
  (fun x0 x1 x2 => fun Γ P call T h => fop Γ P call (.recv x0 x1 x2) (senv T) h)
  (fun x0 x1 => fun Γ P call T h => fop Γ P call (.select x0 x1) (senv T) h)
theorem gop_eq (o : Op) (Γ : List Fact) (P : Program) (call : SCall) (T : Tr SV) (h : Mem) : gop o Γ P call T h = fop Γ P call o (senv T) h := by
 cases o with
 | move x => show some (genv x T, h) = _; rw [genv_eq]; rfl
 | assign x => show some (genv x T, h) = _; rw [genv_eq]; rfl
 | alloc e => exact gal_eq P e h
 | box e x => show gpush (SV.cells (genv x T)) h = _; rw [gpush_eq, genv_eq]; rfl
 | load t a => show gload (genv a T) t P h = _; rw [gload_eq, genv_eq]; rfl
 | store t a x => show gstore (genv x T) t P (genv a T) h = _; rw [gstore_eq, genv_eq, genv_eq]; rfl
 | nilCheck x => show gnil (genv x T) h = _; rw [gnil_eq, genv_eq]; rfl
 | binOp op t x y t2 => exact gbin_eq op Γ P t x y T h
 | convert src dst x => show gconv (genv x T) src dst P h = _; rw [gconv_eq, genv_eq]; rfl
 | fieldAddr s x f => show gfield (genv x T) f s P h = _; rw [gfield_eq, genv_eq]; rfl
 | indexAddr t x i => show gindex (genv x T) (genv i T) t P h = _; rw [gindex_eq, genv_eq, genv_eq]; rfl
 | extract x i => show gextract (genv x T) i h = _; rw [gextract_eq, genv_eq]; rfl
 | call c => exact gcall_eq c P call T h
 | _ => rfl
/-! ### regions -/
abbrev GT := List Fact -> Program -> SCall -> Array Oper -> Tr SV -> Mem -> SLate -> RRes
noncomputable def gr1 : SRes -> Option Tmp -> GT -> List Fact -> Program -> SCall -> Array Oper -> Tr SV -> SLate -> RRes := @Option.rec (SV × Mem) (fun _ => Option Tmp -> GT -> List Fact -> Program -> SCall -> Array Oper -> Tr SV -> SLate -> RRes) (fun _ _ _ _ _ _ _ _ => none)
 (@Prod.rec SV Mem (fun _ => Option Tmp -> GT -> List Fact -> Program -> SCall -> Array Oper -> Tr SV -> SLate -> RRes) (fun v h d k Γ P call ops T D => k Γ P call ops (gput d v T) h D))
noncomputable def gstep1 : Bool -> Oper -> GT -> GT := @Bool.rec (fun _ => Oper -> GT -> GT) (fun o k Γ P call ops T h D => gr1 (gop o.op Γ P call T h) o.dst k Γ P call ops T D) (fun o k Γ P call ops T h D => fstep Γ P call ops o (k Γ P call ops) T h D)
noncomputable def gstep0 : Option (Nat × Bool) -> Oper -> GT -> GT := @Option.rec (Nat × Bool) (fun _ => Oper -> GT -> GT) (fun o k => gstep1 (isDef o.op) o k) (fun _ o k Γ P call ops T h D => fstep Γ P call ops o (k Γ P call ops) T h D)
noncomputable def gregion : List Oper -> GT := @List.rec Oper (fun _ => GT) (fun Γ P call ops T h D => some (T, h, D)) (fun o _ k => gstep0 o.guard o k)
theorem gregion_eq (Γ : List Fact) (P : Program) (call : SCall) (ops : Array Oper) : ∀ (l : List Oper) (T : Tr SV) (h : Mem) (D : SLate), gregion l Γ P call ops T h D = fregion Γ P call ops l T h D := by
 intro l
 induction l with
 | nil => intro T h D; rfl
 | cons o r ih =>
  intro T h D
  have hk : gregion r Γ P call ops = fregion Γ P call ops r := by funext T h D; exact ih T h D
  show gstep0 o.guard o (gregion r) Γ P call ops T h D = fstep Γ P call ops o (fregion Γ P call ops r) T h D
  cases hg : o.guard with
  | some g => show fstep Γ P call ops o (gregion r Γ P call ops) T h D = _; rw [hk]
  | none =>
   show gstep1 (isDef o.op) o (gregion r) Γ P call ops T h D = _
   cases hd : isDef o.op with
   | true => show fstep Γ P call ops o (gregion r Γ P call ops) T h D = _; rw [hk]
   | false =>
    show gr1 (gop o.op Γ P call T h) o.dst (gregion r) Γ P call ops T D = _
    rw [gop_eq]
    simp only [fstep, hd, cond_false, hg, fwanted, frun2]
    cases fop Γ P call o.op (senv T) h with
    | none => rfl
    | some p =>
     obtain ⟨v, h'⟩ := p
     show gregion r Γ P call ops (gput o.dst v T) h' D = fregion Γ P call ops r (sput T o.dst v) h' D
     rw [gput_eq, hk]
/-! ### regions whose order is open -/
abbrev DT := Nat -> List Fact -> Program -> SCall -> Array Oper -> Tr SV -> List (Nat × Mem) -> Mem -> WRes
noncomputable def gpushH : Bool -> Nat -> Mem -> List (Nat × Mem) -> List (Nat × Mem) := @Bool.rec (fun _ => Nat -> Mem -> List (Nat × Mem) -> List (Nat × Mem)) (fun _ _ Hs => Hs) (fun k h Hs => (k, h) :: Hs)
theorem gpushH_eq (b : Bool) (k : Nat) (h : Mem) (Hs : List (Nat × Mem)) : gpushH b k h Hs = (bif b then (k, h) :: Hs else Hs) := by cases b <;> rfl
noncomputable def gd3 : Bool -> SV -> Mem -> Oper -> Item -> DT -> DT := @Bool.rec (fun _ => SV -> Mem -> Oper -> Item -> DT -> DT) (fun _ _ _ _ _ _ _ _ _ _ _ _ _ => none) (fun v h' o x k k1 Γ P call ops T Hs h => k k1 Γ P call ops (gput o.dst v T) (gpushH x.e k1 h' Hs) h')
noncomputable def gchk : List Nat -> Program -> Oper -> Tr SV -> SV -> List (Nat × Mem) -> Bool := @List.rec Nat (fun _ => Program -> Oper -> Tr SV -> SV -> List (Nat × Mem) -> Bool) (fun _ _ _ _ _ => true) (fun b r _ P o T v Hs => schk P o (senv T) v Hs (b :: r))
theorem gchk_eq (l : List Nat) (P : Program) (o : Oper) (T : Tr SV) (v : SV) (Hs : List (Nat × Mem)) : gchk l P o T v Hs = schk P o (senv T) v Hs l := by cases l <;> rfl
noncomputable def gd2 : SRes -> Oper -> Item -> DT -> DT := @Option.rec (SV × Mem) (fun _ => Oper -> Item -> DT -> DT) (fun _ _ _ _ _ _ _ _ _ _ _ => none)
 (@Prod.rec SV Mem (fun _ => Oper -> Item -> DT -> DT) (fun v h' o x k k1 Γ P call ops T Hs h => gd3 (gchk x.chk P o T v Hs) v h' o x k k1 Γ P call ops T Hs h))
noncomputable def gd1 : Option (Nat × Bool) -> Oper -> Item -> DT -> DT := @Option.rec (Nat × Bool) (fun _ => Oper -> Item -> DT -> DT) (fun o x k k1 Γ P call ops T Hs h => gd2 (gop o.op Γ P call T h) o x k k1 Γ P call ops T Hs h) (fun _ o x k k1 Γ P call ops T Hs h => fdraw1 Γ P call o x k1 (k k1 Γ P call ops) T Hs h (fwanted ops T o.guard))
noncomputable def gd0 : Option Oper -> Item -> DT -> DT := @Option.rec Oper (fun _ => Item -> DT -> DT) (fun _ _ _ _ _ _ _ _ _ _ => none) (fun o x k => gd1 o.guard o x k)
/-- The operation of a number: made once. -/
def opAt (ops : Array Oper) (i : Nat) : Option Oper := ops[i]?
noncomputable def gdraw : List Item -> DT := @List.rec Item (fun _ => DT) (fun k Γ P call ops T Hs h => some (T, h)) (fun x _ ih k Γ P call ops T Hs h => gd0 (opAt ops x.i) x ih (Nat.succ k) Γ P call ops T Hs h)
theorem gdraw_eq (Γ : List Fact) (P : Program) (call : SCall) (ops : Array Oper) : ∀ (l : List Item) (k : Nat) (T : Tr SV) (Hs : List (Nat × Mem)) (h : Mem), gdraw l k Γ P call ops T Hs h = fdraw Γ P call ops l k T Hs h := by
 intro l
 induction l with
 | nil => intro k T Hs h; rfl
 | cons x r ih =>
  intro k T Hs h
  have hk : gdraw r (k + 1) Γ P call ops = fdraw Γ P call ops r (k + 1) := by funext T Hs h; exact ih (k + 1) T Hs h
  show gd0 ops[x.i]? x (gdraw r) (k + 1) Γ P call ops T Hs h = fdraw0 Γ P call ops x (k + 1) (fdraw Γ P call ops r (k + 1)) T Hs h ops[x.i]?
  cases ops[x.i]? with
  | none => rfl
  | some o =>
   show gd1 o.guard o x (gdraw r) (k + 1) Γ P call ops T Hs h = fdraw1 Γ P call o x (k + 1) (fdraw Γ P call ops r (k + 1)) T Hs h (fwanted ops T o.guard)
   cases hg : o.guard with
   | some g => show fdraw1 Γ P call o x (k + 1) (gdraw r (k + 1) Γ P call ops) T Hs h (fwanted ops T o.guard) = _; rw [hk, hg]
   | none =>
    show gd2 (gop o.op Γ P call T h) o x (gdraw r) (k + 1) Γ P call ops T Hs h = fdraw2 P o x Hs (k + 1) (fdraw Γ P call ops r (k + 1)) T (fop Γ P call o.op (senv T) h)
    rw [gop_eq]
    cases fop Γ P call o.op (senv T) h with
    | none => rfl
    | some p =>
     obtain ⟨v, h'⟩ := p
     show gd3 (gchk x.chk P o T v Hs) v h' o x (gdraw r) (k + 1) Γ P call ops T Hs h = (bif schk P o (senv T) v Hs x.chk then fdraw Γ P call ops r (k + 1) (sput T o.dst v) (bif x.e then (k + 1, h') :: Hs else Hs) h' else none)
     rw [gchk_eq]
     cases schk P o (senv T) v Hs x.chk with
     | false => rfl
     | true =>
      show gdraw r (k + 1) Γ P call ops (gput o.dst v T) (gpushH x.e (k + 1) h' Hs) h' = _
      rw [gput_eq, gpushH_eq, hk]; rfl
/-! ### code -/
abbrev NT := List Fact -> Program -> SCall -> Nat -> Nat -> CK -> Tr SV -> Mem -> SLate -> CRes
noncomputable def gn3 : RRes -> CRes := @Option.rec (Tr SV × Mem × SLate) (fun _ => CRes) none (fun p => some (.normal, p))
theorem gn3_eq (r : RRes) : gn3 r = fregR r := by cases r <;> rfl
noncomputable def gn2 : WRes -> SLate -> CRes := @Option.rec (Tr SV × Mem) (fun _ => SLate -> CRes) (fun _ => none) (@Prod.rec (Tr SV) Mem (fun _ => SLate -> CRes) (fun T h D => some (.normal, T, h, D)))
theorem gn2_eq (r : WRes) (D : SLate) : gn2 r D = fregN D r := by
 cases r with
 | none => rfl
 | some p => cases p; rfl
/-- A plan, where it is one: made once. -/
def gplan (P : Program) (ops : Array Oper) : Option (List Item) := bif P.follows .mixedOrders && planOK ops (mkPlan ops).1 (mkPlan ops).2 then some (mkPlan ops).2 else none
noncomputable def gn1 : Option (List Item) -> Array Oper -> List Fact -> Program -> SCall -> Tr SV -> Mem -> SLate -> CRes := @Option.rec (List Item) (fun _ => Array Oper -> List Fact -> Program -> SCall -> Tr SV -> Mem -> SLate -> CRes) (fun _ _ _ _ _ _ _ => none) (fun pl ops Γ P call T h D => gn2 (gdraw pl 0 Γ P call ops T [(0, h)] h) D)
noncomputable def gn0 : Bool -> Array Oper -> List Fact -> Program -> SCall -> Tr SV -> Mem -> SLate -> CRes := @Bool.rec (fun _ => Array Oper -> List Fact -> Program -> SCall -> Tr SV -> Mem -> SLate -> CRes) (fun ops Γ P call T h D => gn3 (gregion ops.toList Γ P call ops T h D)) (fun ops Γ P call T h D => gn1 (gplan P ops) ops Γ P call T h D)
noncomputable def gnr : Bool -> Array Oper -> Bool -> List Fact -> Program -> SCall -> Tr SV -> Mem -> SLate -> CRes := @Bool.rec (fun _ => Array Oper -> Bool -> List Fact -> Program -> SCall -> Tr SV -> Mem -> SLate -> CRes) (fun _ _ _ _ _ _ _ _ => none) (fun ops d => gn0 d ops)
theorem gnr_eq (n : Nat) (ops : Array Oper) (d : Bool) (Γ : List Fact) (P : Program) (call : SCall) (T : Tr SV) (h : Mem) (D : SLate) : gnr (dstOk n ops) ops d Γ P call T h D = freg Γ P call n ops d T h D := by
 unfold freg
 cases dstOk n ops with
 | false => rfl
 | true =>
  cases d with
  | false => show gn3 (gregion ops.toList Γ P call ops T h D) = _; rw [gn3_eq, gregion_eq]; rfl
  | true =>
   show gn1 (gplan P ops) ops Γ P call T h D = fregD Γ P call ops T h D (mkPlan ops)
   unfold gplan fregD
   cases (P.follows .mixedOrders && planOK ops (mkPlan ops).1 (mkPlan ops).2) with
   | false => rfl
   | true => show gn2 (gdraw (mkPlan ops).2 0 Γ P call ops T [(0, h)] h) D = _; rw [gn2_eq, gdraw_eq]; rfl
noncomputable def gthen1 : Exit -> (Tr SV -> Mem -> SLate -> CRes) -> Tr SV -> Mem -> SLate -> CRes := @Exit.rec (fun _ => (Tr SV -> Mem -> SLate -> CRes) -> Tr SV -> Mem -> SLate -> CRes) (fun k T h D => k T h D) (fun id k T h D => some (.exit id, T, h, D)) (fun l k T h D => some (.goto l, T, h, D)) (fun k T h D => some (.ret, T, h, D)) (fun c k T h D => some (.panic c, T, h, D)) (fun k T h D => some (.outgrown, T, h, D))
noncomputable def gthen : CRes -> (Tr SV -> Mem -> SLate -> CRes) -> CRes := @Option.rec (Exit × Tr SV × Mem × SLate) (fun _ => (Tr SV -> Mem -> SLate -> CRes) -> CRes) (fun _ => none)
 (@Prod.rec Exit (Tr SV × Mem × SLate) (fun _ => (Tr SV -> Mem -> SLate -> CRes) -> CRes) (fun e => @Prod.rec (Tr SV) (Mem × SLate) (fun _ => (Tr SV -> Mem -> SLate -> CRes) -> CRes) (fun T => @Prod.rec Mem SLate (fun _ => (Tr SV -> Mem -> SLate -> CRes) -> CRes) (fun h D k => gthen1 e k T h D))))
theorem gthen_eq (k : Tr SV -> Mem -> SLate -> CRes) (r : CRes) : gthen r k = fthen k r := by
 cases r with
 | none => rfl
 | some p => obtain ⟨e, T, h, D⟩ := p; cases e <;> rfl
noncomputable def gcond : SV -> Code -> Code -> CK -> Tr SV -> Mem -> SLate -> CRes :=
 @SV.rec (fun _ => Code -> Code -> CK -> Tr SV -> Mem -> SLate -> CRes) (fun _ => Unit)
  (fun kk ee => fun _ _ _ _ _ _ => none)
  (fun bb => @Bool.rec (fun _ => Code -> Code -> CK -> Tr SV -> Mem -> SLate -> CRes) (fun y z k T h D => k z T h D) (fun y z k T h D => k y T h D) bb)
  (fun ll => fun _ _ _ _ _ _ => none)
  (fun vv => fun _ _ _ _ _ _ => none)
  (fun n o => fun _ _ _ _ _ _ => none)
  (fun mm cc o _ => fun _ _ _ _ _ _ => none)
  (fun n o len sz => fun _ _ _ _ _ _ => none)
  (fun mm len cc _ => fun _ _ _ _ _ _ => none)
  (fun cc _ => fun _ _ _ _ _ _ => none)
  (fun cc _ => fun _ _ _ _ _ _ => none)
  (fun ff aa bb _ _ => fun _ _ _ _ _ _ => none)
  () (fun _ _ _ _ => ())
theorem gcond_eq (v : SV) (y z : Code) (k : CK) (T : Tr SV) (h : Mem) (D : SLate) : gcond v y z k T h D = fcond y z k T h D v := by
 cases v with
 | bool b => cases b <;> rfl
 | _ => rfl
noncomputable def gnode : Code -> NT := @Code.rec (fun _ => NT)
 (fun Γ P call n f k T h D => some (.normal, T, h, D))
 (fun id ops d Γ P call n f k T h D => gnr (dstOk n ops) ops d Γ P call T h D)
 (fun x y _ _ Γ P call n f k T h D => gthen (k x T h D) (k y))
 (fun x y z _ _ Γ P call n f k T h D => gcond (genv x T) y z k T h D)
 (fun id x _ Γ P call n f k T h D => fblock id (k x T h D))
 (fun x _ Γ P call n f k T h D => gthen (k x T h D) (k (.loop x)))
 (fun _ _ _ _ _ _ Γ P call n f k T h D => none)
 (fun id Γ P call n f k T h D => some (.exit id, T, h, D))
 (fun x _ Γ P call n f k T h D => fscope x k f (k x T h D))
 (fun l Γ P call n f k T h D => some (.normal, T, h, D))
 (fun l Γ P call n f k T h D => some (.goto l, T, h, D))
 (fun Γ P call n f k T h D => some (.ret, T, h, D))
 (fun _ Γ P call n f k T h D => none)
theorem gnode_eq (c : Code) (Γ : List Fact) (P : Program) (call : SCall) (n f : Nat) (k : CK) (T : Tr SV) (h : Mem) (D : SLate) : gnode c Γ P call n f k T h D = fnode Γ P call n f k c T h D := by
 cases c with
 | region id ops d => exact gnr_eq n ops d Γ P call T h D
 | seq x y => exact gthen_eq (k y) (k x T h D)
 | loop x => exact gthen_eq (k (.loop x)) (k x T h D)
 | cond x y z => show gcond (genv x T) y z k T h D = _; rw [gcond_eq, genv_eq]; rfl
 | _ => rfl
noncomputable def grun (Γ : List Fact) (P : Program) (call : SCall) (n : Nat) : Nat -> CK := @Nat.rec (fun _ => CK) (fun _ _ _ _ => none) (fun f k c => gnode c Γ P call n f k)
theorem grun_eq (Γ : List Fact) (P : Program) (call : SCall) (n : Nat) : ∀ f, grun Γ P call n f = frun Γ P call n f := by
 intro f
 induction f with
 | zero => rfl
 | succ f ih =>
  funext c T h D
  show gnode c Γ P call n f (grun Γ P call n f) T h D = fnode Γ P call n f (frun Γ P call n f) c T h D
  rw [ih, gnode_eq]
/-! ### functions -/
noncomputable def gbody1 (Γ : List Fact) (P : Program) (F : Nat) (call : SCall) (f : FuncId) (args : List SV) (h : Mem) (fn : Func) : Option Code -> Option (Func × Tr SV × Mem × SLate)
 | some code => bif isGo P f && Nat.ble args.length fn.ntmps && Nat.blt fn.ntmps 1000000 then fbody2 fn (grun Γ P call fn.ntmps F code (sargs 0 args .nil) h []) else none
 | none => none
noncomputable def gbody (Γ : List Fact) (P : Program) (F : Nat) (call : SCall) (f : FuncId) (args : List SV) (h : Mem) : Option Func -> Option (Func × Tr SV × Mem × SLate)
 | some fn => gbody1 Γ P F call f args h fn fn.body
 | none => none
theorem gbody_eq (Γ : List Fact) (P : Program) (F : Nat) (call : SCall) (f : FuncId) (args : List SV) (h : Mem) (o : Option Func) : gbody Γ P F call f args h o = fbody Γ P F call f args h o := by
 cases o with
 | none => rfl
 | some fn =>
  simp only [gbody, fbody]
  cases fn.body with
  | none => rfl
  | some code => simp only [gbody1, fbody1, grun_eq]
def fnAt (P : Program) (f : FuncId) : Option Func := P.funcs[f]?
noncomputable def gcall1 (Γ : List Fact) (P : Program) (F : Nat) (call : SCall) (f : FuncId) (args : List SV) (h : Mem) : Option (List SV -> Mem -> SRes) -> SRes
 | some g => g args h
 | none => fcallE P (sdef Γ P F call) (gbody Γ P F call f args h (fnAt P f))
noncomputable def gscall (Γ : List Fact) (P : Program) (F : Nat) (ovr : FuncId -> Option (List SV -> Mem -> SRes)) : Nat -> SCall := @Nat.rec (fun _ => SCall) (fun _ _ _ => none) (fun _ call f args h => gcall1 Γ P F call f args h (ovr f))
theorem gscall_eq (Γ : List Fact) (P : Program) (F : Nat) (ovr : FuncId -> Option (List SV -> Mem -> SRes)) : ∀ d, gscall Γ P F ovr d = scall Γ P F ovr d := by
 intro d
 rw [<- fscall_eq]
 induction d with
 | zero => rfl
 | succ d ih =>
  funext f args h
  show gcall1 Γ P F (gscall Γ P F ovr d) f args h (ovr f) = fcall1 Γ P F (fscall Γ P F ovr d) f args h (ovr f)
  rw [ih]
  cases ovr f with
  | some g => rfl
  | none => simp only [gcall1, fcall1, gbody_eq, fnAt]
end Go.Proofs.YtbllpnjappddeaaGreat.Den
end
section
set_option linter.unusedSimpArgs false
namespace Go.Proofs.YtbllpnjappddeaaGreat.Den
variable {P : Program} {ρ : Vals} {ν : Nat -> Option Name}
/-! ### which temporaries are written -/
def Dom (n : Nat) (T : Tr SV) : Prop := ∀ t, n <= t -> T.get t = none
theorem Dom.put {n : Nat} (hn : n < 1000000) {T : Tr SV} (h : Dom n T) {d : Option Tmp} (hd : ∀ k, d = some k -> k < n) (v : SV) : Dom n (sput T d v) := by
 cases d with
 | none => exact h
 | some k =>
  intro t ht
  have hk := hd k rfl
  show (T.put k v).get t = none
  rw [put_get T k v t (Nat.lt_of_lt_of_le (Nat.succ_lt_succ (Nat.lt_trans hk hn)) (by decide)), if_neg (Nat.ne_of_gt (Nat.lt_of_lt_of_le hk ht))]
  exact h t ht
theorem dst_list {n : Nat} {ops : Array Oper} (h : dstOk n ops = true) : ∀ o ∈ ops.toList, ∀ d, o.dst = some d -> d < n := by
 intro o ho d hd
 have := (List.all_eq_true.1 h) o ho
 rw [hd] at this
 exact blt_lt this
section
variable {Γ : List Fact} {sc : SCall} {n : Nat}
theorem sregion_dom (hn : n < 1000000) {ops : Array Oper} : ∀ (l : List Oper) (T T' : Tr SV) (h h' : Mem) (D D' : SLate), (∀ o ∈ l, ∀ d, o.dst = some d -> d < n) -> Dom n T -> sregion Γ P sc ops l T h D = some (T', h', D') -> Dom n T' := by
 intro l
 induction l with
 | nil => intro T T' h h' D D' _ hT hr; simp only [sregion, Option.some.injEq, Prod.mk.injEq] at hr; rw [<- hr.1]; exact hT
 | cons o l ih =>
  intro T T' h h' D D' hd hT hr
  have hl : ∀ o ∈ l, ∀ d, o.dst = some d -> d < n := fun o ho => hd o (List.mem_cons_of_mem _ ho)
  have ho := hd o (by simp)
  by_cases hdf : ∃ cl, o.op = .defer cl
  ·obtain ⟨cl, hop⟩ := hdf
   rw [sregion_defer hop] at hr
   split at hr
   ·split at hr
    ·exact ih _ _ _ _ _ _ hl hT hr
    ·cases hr
   ·cases hr
  ·have hnd : isDefer o = false := by
    unfold isDefer
    split
    ·rename_i cl hop; exact absurd ⟨cl, hop⟩ hdf
    ·rfl
   rw [sregion_cons hnd] at hr
   split at hr
   ·split at hr
    ·exact ih _ _ _ _ _ _ hl (hT.put hn ho _) hr
    ·cases hr
   ·exact ih _ _ _ _ _ _ hl (hT.put hn ho _) hr
   ·cases hr
theorem sdraw_dom (hn : n < 1000000) {ops : Array Oper} (hd : dstOk n ops = true) : ∀ (l : List Item) (k : Nat) (T T' : Tr SV) (Hs : List (Nat × Mem)) (h h' : Mem), Dom n T -> sdraw Γ P sc ops k l T Hs h = some (T', h') -> Dom n T' := by
 intro l
 induction l with
 | nil => intro k T T' Hs h h' hT hr; simp only [sdraw, Option.some.injEq, Prod.mk.injEq] at hr; rw [<- hr.1]; exact hT
 | cons x l ih =>
  intro k T T' Hs h h' hT hr
  simp only [sdraw] at hr
  cases ho : ops[x.i]? with
  | none => rw [ho] at hr; cases hr
  | some o =>
   rw [ho] at hr
   simp only [] at hr
   have hdo := dstOk_at hd ho
   split at hr
   ·split at hr
    ·rename_i v h₁ _
     cases hc : schk P o (senv T) v Hs x.chk with
     | false => rw [hc] at hr; cases hr
     | true => rw [hc] at hr; exact ih _ _ _ _ _ _ (hT.put hn hdo _) hr
    ·cases hr
   ·exact ih _ _ _ _ _ _ (hT.put hn hdo _) hr
   ·cases hr
theorem sjumps_dom {run : Tr SV -> Mem -> SLate -> CRes} {l : Nat} (hrun : ∀ T h D e T' h' D', Dom n T -> run T h D = some (e, T', h', D') -> Dom n T') : ∀ (m : Nat) (r : CRes) (e : Exit) (T' : Tr SV) (h' : Mem) (D' : SLate),
  (∀ e T h D, r = some (e, T, h, D) -> Dom n T) -> sjumps run l m r = some (e, T', h', D') -> Dom n T'
 | 0, _, _, _, _, _, _, h => by simp [sjumps] at h
 | m + 1, none, _, _, _, _, _, h => by simp [sjumps] at h
 | m + 1, some (e1, T1, h1, D1), e, T', h', D', hr, h => by
  have hT := hr e1 T1 h1 D1 rfl
  cases e1 with
  | goto l1 =>
   simp only [sjumps] at h
   cases hb : Nat.beq l1 l with
   | true => rw [hb] at h; exact sjumps_dom hrun m _ e T' h' D' (fun e T h D he => hrun _ _ _ e T h D hT he) h
   | false => rw [hb] at h; cases h
  | _ => simp only [sjumps, Option.some.injEq, Prod.mk.injEq] at h; rw [<- h.2.1]; exact hT
theorem srun_dom (hn : n < 1000000) : ∀ (f : Nat) (code : Code) (T : Tr SV) (h : Mem) (D : SLate) (e : Exit) (T' : Tr SV) (h' : Mem) (D' : SLate), Dom n T -> srun Γ P sc n f code T h D = some (e, T', h', D') -> Dom n T' := by
 intro f
 induction f with
 | zero => intro code T h D e T' h' D' _ hr; simp [srun] at hr
 | succ f ih =>
  intro code T h D e T' h' D' hT hr
  cases code with
  | region id ops d =>
   simp only [srun] at hr
   cases hd : dstOk n ops with
   | false => rw [hd] at hr; cases hr
   | true =>
    rw [hd] at hr
    simp only [cond_true] at hr
    cases d with
    | true =>
     simp only [cond_true] at hr
     cases hq : (P.follows .mixedOrders && planOK ops (mkPlan ops).1 (mkPlan ops).2) with
     | false => rw [hq] at hr; cases hr
     | true =>
      rw [hq] at hr
      simp only [cond_true, Option.map_eq_some_iff] at hr
      obtain ⟨⟨T1, h1⟩, hr, e1⟩ := hr
      simp only [Prod.mk.injEq] at e1
      rw [<- e1.2.1]
      exact sdraw_dom hn hd _ _ _ _ _ _ _ hT hr
    | false =>
     simp only [cond_false, Option.map_eq_some_iff] at hr
     obtain ⟨⟨T1, h1, D1⟩, hr, e1⟩ := hr
     simp only [Prod.mk.injEq] at e1
     rw [<- e1.2.1]
     exact sregion_dom hn _ _ _ _ _ _ _ (dst_list hd) hT hr
  | seq x y =>
   simp only [srun] at hr
   cases hr1 : srun Γ P sc n f x T h D with
   | none => rw [hr1] at hr; cases hr
   | some r =>
    obtain ⟨e1, T1, h1, D1⟩ := r
    rw [hr1] at hr
    have hx := ih x T h D e1 T1 h1 D1 hT hr1
    cases e1 with
    | normal => exact ih y T1 h1 D1 e T' h' D' hx hr
    | _ => simp only [Option.some.injEq, Prod.mk.injEq] at hr; rw [<- hr.2.1]; exact hx
  | cond x y z =>
   simp only [srun] at hr
   split at hr
   ·rename_i b _
    cases b with
    | true => exact ih y T h D e T' h' D' hT hr
    | false => exact ih z T h D e T' h' D' hT hr
   ·cases hr
  | block id x =>
   simp only [srun] at hr
   cases hr1 : srun Γ P sc n f x T h D with
   | none => rw [hr1] at hr; cases hr
   | some r =>
    obtain ⟨e1, T1, h1, D1⟩ := r
    rw [hr1] at hr
    have hx := ih x T h D e1 T1 h1 D1 hT hr1
    cases e1 with
    | exit id' =>
     simp only at hr
     cases hb : Nat.beq id' id with
     | true => rw [hb] at hr; simp only [cond_true, Option.some.injEq, Prod.mk.injEq] at hr; rw [<- hr.2.1]; exact hx
     | false => rw [hb] at hr; simp only [cond_false, Option.some.injEq, Prod.mk.injEq] at hr; rw [<- hr.2.1]; exact hx
    | _ => simp only [Option.some.injEq, Prod.mk.injEq] at hr; rw [<- hr.2.1]; exact hx
  | loop x =>
   simp only [srun] at hr
   cases hr1 : srun Γ P sc n f x T h D with
   | none => rw [hr1] at hr; cases hr
   | some r =>
    obtain ⟨e1, T1, h1, D1⟩ := r
    rw [hr1] at hr
    have hx := ih x T h D e1 T1 h1 D1 hT hr1
    cases e1 with
    | normal => exact ih (.loop x) T1 h1 D1 e T' h' D' hx hr
    | _ => simp only [Option.some.injEq, Prod.mk.injEq] at hr; rw [<- hr.2.1]; exact hx
  | scope x =>
   simp only [srun] at hr
   cases hr1 : srun Γ P sc n f x T h D with
   | none => rw [hr1] at hr; cases hr
   | some r =>
    obtain ⟨e1, T1, h1, D1⟩ := r
    rw [hr1] at hr
    have hx := ih x T h D e1 T1 h1 D1 hT hr1
    cases e1 with
    | goto l =>
     simp only at hr
     split at hr
     ·rename_i rest _
      exact sjumps_dom (fun T h D e T' h' D' hT hr => ih rest T h D e T' h' D' hT hr) f _ e T' h' D' (fun e T h D he => by cases he; exact hx) hr
     ·cases hr
    | _ => simp only [Option.some.injEq, Prod.mk.injEq] at hr; rw [<- hr.2.1]; exact hx
  | rangeFunc _ _ _ _ => simp [srun] at hr
  | refuse _ => simp [srun] at hr
  | _ => simp only [srun, Option.some.injEq, Prod.mk.injEq] at hr; rw [<- hr.2.1]; exact hT
end
/-! ### other names -/
mutual
def IE.sub (θ : Nat -> IE) : IE -> IE
 | .lit n => .lit n
 | .var i => θ i
 | .byte i => .byte i
 | .bin op k a b => .bin op k (IE.sub θ a) (IE.sub θ b)
 | .wrap k a => .wrap k (IE.sub θ a)
 | .fn f l i => .fn f (IE.subs θ l) i
def IE.subs (θ : Nat -> IE) : List IE -> List IE
 | [] => []
 | a :: l => IE.sub θ a :: IE.subs θ l
end
mutual
def SV.sub (θ : Nat -> IE) (r : Nat -> Nat) : SV -> SV
 | .int k e => .int k (e.sub θ)
 | .bool b => .bool b
 | .str l => .str (IE.subs θ l)
 | .val v => .val v
 | .ptr n o => .ptr (r n) o
 | .imp m c o => .imp m (SV.subs θ r c) o
 | .sl n o l z => .sl (r n) o l z
 | .im m l c => .im m l (SV.subs θ r c)
 | .agg c => .agg (SV.subs θ r c)
 | .tup c => .tup (SV.subs θ r c)
 | .fn f a b => .fn f (SV.subs θ r a) (SV.subs θ r b)
def SV.subs (θ : Nat -> IE) (r : Nat -> Nat) : List SV -> List SV
 | [] => []
 | a :: l => SV.sub θ r a :: SV.subs θ r l
end
def Vals.sub (ρ : Vals) (θ : Nat -> IE) : Vals := ⟨fun j => (θ j).den ρ, ρ.b, ρ.f⟩
mutual
theorem den_sub (θ : Nat -> IE) : ∀ e : IE, (e.sub θ).den ρ = e.den (ρ.sub θ)
 | .lit n => rfl
 | .var i => rfl
 | .byte i => rfl
 | .bin op k a b => by simp only [IE.sub, IE.den, den_sub θ a, den_sub θ b]
 | .wrap k a => by simp only [IE.sub, IE.den, den_sub θ a]
 | .fn f l i => by simp only [IE.sub, IE.den, dens_sub θ l]; rfl
theorem dens_sub (θ : Nat -> IE) : ∀ l : List IE, IE.dens ρ (IE.subs θ l) = IE.dens (ρ.sub θ) l
 | [] => rfl
 | a :: l => by simp only [IE.subs, IE.dens, den_sub θ a, dens_sub θ l]
end
theorem strOf_sub (θ : Nat -> IE) (l : List IE) : strOf ρ (IE.subs θ l) = strOf (ρ.sub θ) l := by
 have : ∀ l : List IE, (IE.subs θ l).map (fun e => UInt8.ofNat (e.den ρ).toNat) = l.map fun e => UInt8.ofNat (e.den (ρ.sub θ)).toNat := by
  intro l
  induction l with
  | nil => rfl
  | cons a l ih => simp only [IE.subs, List.map_cons, den_sub, ih]
 simp only [strOf, this]
mutual
theorem SRel.sub {θ : Nat -> IE} {r : Nat -> Nat} : ∀ {a : SV} {x : AV}, SRel ρ ν (a.sub θ r) x -> SRel (ρ.sub θ) (fun n => ν (r n)) a x
 | .int k e, x, h => by
  simp only [SV.sub] at h
  cases h
  rw [den_sub]
  exact .int k e
 | .bool b, x, h => by simp only [SV.sub] at h; cases h; exact .bool b
 | .str l, x, h => by
  simp only [SV.sub] at h
  cases h
  rw [strOf_sub]
  exact .str l
 | .val v, x, h => by simp only [SV.sub] at h; cases h; exact .val v
 | .ptr n o, x, h => by simp only [SV.sub] at h; cases h with | ptr h => exact .ptr h
 | .imp m c o, x, h => by simp only [SV.sub] at h; cases h with | imp h => exact .imp (SRels.sub h)
 | .sl n o l z, x, h => by simp only [SV.sub] at h; cases h with | sl h => exact .sl h
 | .im m l c, x, h => by simp only [SV.sub] at h; cases h with | im h => exact .im (SRels.sub h)
 | .agg c, x, h => by simp only [SV.sub] at h; cases h with | agg h => exact .agg (SRels.sub h)
 | .tup c, x, h => by simp only [SV.sub] at h; cases h with | tup h => exact .tup (SRels.sub h)
 | .fn f a b, x, h => by simp only [SV.sub] at h; cases h with | fn h h' => exact .fn (SRels.sub h) (SRels.sub h')
theorem SRels.sub {θ : Nat -> IE} {r : Nat -> Nat} : ∀ {a : List SV} {x : List AV}, SRels ρ ν (SV.subs θ r a) x -> SRels (ρ.sub θ) (fun n => ν (r n)) a x
 | [], x, h => by simp only [SV.subs] at h; cases h; exact .nil
 | a :: l, x, h => by simp only [SV.subs] at h; cases h with | cons h t => exact .cons (SRel.sub h) (SRels.sub t)
end
/-! ### one state by another one -/
def rnOf (R : List Nat) (nx : Nat) : Nat -> Nat := fun n => (R[n]?).getD (nx + n)
def okTemps (θ : Nat -> IE) (r : Nat -> Nat) (T T' : Tr SV) : Nat -> Bool
 | 0 => true
 | n + 1 => SV.beq ((T'.get n).getD (.val undef)) (((T.get n).getD (.val undef)).sub θ r) && okTemps θ r T T' n
def okRow (θ : Nat -> IE) (r : Nat -> Nat) (m : Nat) (h' : Mem) : Option (List SV) -> Bool
 | none => true
 | some row => match h'.get m with
  | some row' => SV.beqs row' (SV.subs θ r row)
  | none => false
def okRows (θ : Nat -> IE) (r : Nat -> Nat) (h h' : Mem) : Nat -> Bool
 | 0 => true
 | n + 1 => okRow θ r (r n) h' (h.get n) && okRows θ r h h' n
/-- The second state is the first one, but for names. -/
def okSub (n : Nat) (θ : Nat -> IE) (R : List Nat) (T T' : Tr SV) (h h' : Mem) : Bool :=
 Nat.beq R.length h.next && R.all (fun m => Nat.blt m h'.next) && decide R.Nodup && okTemps θ (rnOf R h'.next) T T' n && okRows θ (rnOf R h'.next) h h' h.next
theorem okTemps_at {θ : Nat -> IE} {r : Nat -> Nat} {T T' : Tr SV} : ∀ {n : Nat}, okTemps θ r T T' n = true -> ∀ t, t < n -> (T'.get t).getD (.val undef) = ((T.get t).getD (.val undef)).sub θ r
 | 0, _, t, ht => by omega
 | n + 1, h, t, ht => by
  simp only [okTemps, Bool.and_eq_true] at h
  by_cases e : t = n
  ·subst e; exact SV.beq_eq h.1
  ·exact okTemps_at h.2 t (by omega)
theorem okRows_at {θ : Nat -> IE} {r : Nat -> Nat} {h h' : Mem} : ∀ {n : Nat}, okRows θ r h h' n = true -> ∀ k, k < n -> ∀ row, h.get k = some row -> h'.get (r k) = some (SV.subs θ r row)
 | 0, _, k, hk => by omega
 | n + 1, hh, k, hk => by
  simp only [okRows, Bool.and_eq_true] at hh
  intro row hrow
  by_cases e : k = n
  ·subst e
   have h1 := hh.1
   rw [hrow] at h1
   simp only [okRow] at h1
   split at h1
   ·rename_i row' hr'; rw [hr', SV.beqs_eq h1]
   ·cases h1
  ·exact okRows_at hh.2 k (by omega) row hrow
theorem SAt.sub {p : Name} {n : Nat} {θ : Nat -> IE} {R : List Nat} {T T' : Tr SV} {h h' : Mem} {s : AT} (hs : SAt ρ p T' h' [] ν s) (hd : Dom n T) (hd' : Dom n T') (hb : ∀ k, h.next <= k -> h.get k = none) (hok : okSub n θ R T T' h h' = true) :
  ∃ ν', SAt (ρ.sub θ) p T h [] ν' s := by
 unfold okSub at hok
 simp only [Bool.and_eq_true] at hok
 obtain ⟨⟨⟨⟨h1, h2⟩, h3⟩, h4⟩, h5⟩ := hok
 have h1 := Nat.eq_of_beq_eq_true h1
 have h3 := of_decide_eq_true h3
 have hlt : ∀ k, k < R.length -> rnOf R h'.next k < h'.next := by
  intro k hk
  have := (List.all_eq_true.1 h2) R[k] (List.getElem_mem hk)
  simp only [rnOf, List.getElem?_eq_getElem hk, Option.getD_some]
  exact blt_lt this
 have hge : ∀ k, R.length <= k -> h'.next <= rnOf R h'.next k := by
  intro k hk
  simp only [rnOf, List.getElem?_eq_none hk, Option.getD_none]
  omega
 have hnone : ∀ k, R.length <= k -> ν (rnOf R h'.next k) = none := by
  intro k hk
  cases e : ν (rnOf R h'.next k) with
  | none => rfl
  | some m => exact absurd (hs.mem.lt _ (by rw [e]; simp)) (Nat.not_lt.2 (hge k hk))
 refine ⟨fun k => ν (rnOf R h'.next k), ⟨?_, ⟨?_, ?_, ?_⟩, ?_, ?_⟩⟩
 ·intro t
  by_cases ht : t < n
  ·have := hs.tr t
   rw [okTemps_at h4 t ht] at this
   exact this.sub
  ·have h0 := hs.tr t
   rw [hd' t (by omega)] at h0
   rw [hd t (by omega)]
   simp only [Option.getD_none] at h0 ⊢
   generalize s.T t = x at h0
   cases h0
   exact .val _
 ·intro k row hrow
  have hk : k < h.next := Nat.lt_of_not_le fun hle => by rw [hb k hle] at hrow; cases hrow
  have h6 := okRows_at h5 k hk row hrow
  obtain ⟨m, row', g1, g2, g3⟩ := hs.mem.rows _ _ h6
  exact ⟨m, row', g1, g2, g3.sub⟩
 ·intro k l m hk hl
  have hk' : k < R.length := Nat.lt_of_not_le fun hle => by rw [hnone k hle] at hk; cases hk
  have hl' : l < R.length := Nat.lt_of_not_le fun hle => by rw [hnone l hle] at hl; cases hl
  have := hs.mem.inj _ _ m hk hl
  simp only [rnOf, List.getElem?_eq_getElem hk', List.getElem?_eq_getElem hl', Option.getD_some] at this
  exact (List.getElem_inj h3).1 this
 ·intro k hk
  rw [<- h1]
  exact Nat.lt_of_not_le fun hle => hk (hnone k hle)
 ·intro i hi k s' hk
  exact hs.fre i hi _ s' hk
 ·have hl := hs.late
  cases hl' : s.L with
  | nil => exact .nil
  | cons a l => rw [hl'] at hl; cases hl
/-! ### chains -/
/-- From here to there, whatever is named how. -/
def XG (W : (Exit -> Act -> World -> Prop) -> Act -> World -> Prop) (n : Nat) (ρ : Vals) (T : Tr SV) (h : Mem) (e : Exit) (ρ' : Vals) (T' : Tr SV) (h' : Mem) : Prop :=
 ∀ (p : Name) (ν : Nat -> Option Name) (s : AT), SAt ρ p T h [] ν s -> ∃ ν' s', SAt ρ' p T' h' [] ν' s' /\ AGo W p n e s s'
section
variable {n : Nat} {V W U : (Exit -> Act -> World -> Prop) -> Act -> World -> Prop}
theorem XGoes.xg {T T' : Tr SV} {h h' : Mem} {e : Exit} (hx : XGoes W ρ n T h [] e T' h' []) : XG W n ρ T h e ρ T' h' := fun p ν s st =>
 let ⟨ν', s', _, a, b⟩ := hx p ν s st; ⟨ν', s', a, b⟩
theorem XG.then {ρ ρ₁ ρ' : Vals} {T T₁ T' : Tr SV} {h h₁ h' : Mem} {e₁ e : Exit} (hx : XG V n ρ T h e₁ ρ₁ T₁ h₁) (hy : XG W n ρ₁ T₁ h₁ e ρ' T' h') (hu : ∀ Q a w, V (fun e' a' w' => e' = e₁ /\ W Q a' w') a w -> U Q a w) : XG U n ρ T h e ρ' T' h' := by
 intro p ν s st
 obtain ⟨ν₁, s₁, a2, a3⟩ := hx p ν s st
 obtain ⟨ν₂, s₂, b2, b3⟩ := hy p ν₁ s₁ a2
 refine ⟨ν₂, s₂, b2, fun σ I a w Q hst hk => hu Q a w (a3 σ I a w _ hst ?_)⟩
 intro σ' I' a' w' hst' st'
 exact ⟨rfl, b3 σ' I' a' w' Q st' fun σ₂ I₂ a₂ w₂ hst₂ st₂ => hk σ₂ I₂ a₂ w₂ (hst'.trans hst₂) st₂⟩
theorem XG.as {ρ ρ' : Vals} {T T' : Tr SV} {h h' : Mem} {e e' : Exit} (hx : XG V n ρ T h e ρ' T' h') (hu : ∀ (Q : Exit -> Act -> World -> Prop) a w, V (fun e₁ a' w' => e₁ = e /\ Q e' a' w') a w -> U Q a w) : XG U n ρ T h e' ρ' T' h' := by
 intro p ν s st
 obtain ⟨ν₁, s₁, a2, a3⟩ := hx p ν s st
 exact ⟨ν₁, s₁, a2, fun σ I a w Q hst hk => hu Q a w (a3 σ I a w _ hst fun σ' I' a' w' hst' st' => ⟨rfl, hk σ' I' a' w' hst' st'⟩)⟩
/-- The end by other names. -/
theorem XG.sub {ρ ρ' : Vals} {T T₁ T' : Tr SV} {h h₁ h' : Mem} {e : Exit} {θ : Nat -> IE} {R : List Nat} (hx : XG W n ρ T h e ρ' T' h') (hd : Dom n T₁) (hd' : Dom n T') (hb : ∀ k, h₁.next <= k -> h₁.get k = none) (hok : okSub n θ R T₁ T' h₁ h' = true) : XG W n ρ T h e (ρ'.sub θ) T₁ h₁ := by
 intro p ν s st
 obtain ⟨ν₁, s₁, a2, a3⟩ := hx p ν s st
 obtain ⟨ν₂, b⟩ := a2.sub hd hd' hb hok
 exact ⟨ν₂, s₁, b, a3⟩
theorem XG.seq {x y : Code} {ρ ρ₁ ρ' : Vals} {T T₁ T' : Tr SV} {h h₁ h' : Mem} {e : Exit} (hx : XG (Code.wp P x) n ρ T h .normal ρ₁ T₁ h₁) (hy : XG (Code.wp P y) n ρ₁ T₁ h₁ e ρ' T' h') : XG (Code.wp P (.seq x y)) n ρ T h e ρ' T' h' :=
 hx.then hy fun Q a w h => wp_seq (wp_mono h (by rintro _ a w ⟨rfl, h⟩; exact h))
theorem XG.block {id : Nat} {x : Code} {ρ ρ' : Vals} {T T' : Tr SV} {h h' : Mem} {e e' : Exit} (hx : XG (Code.wp P x) n ρ T h e ρ' T' h') (he : e' = inB id e) : XG (Code.wp P (.block id x)) n ρ T h e' ρ' T' h' :=
 hx.as fun Q a w hw => wp_block (wp_mono hw (by
  rintro e₁ a w ⟨rfl, h0⟩
  subst he
  cases e₁ with
  | exit id' =>
   simp only [Exit.inBlock]
   simp only [inB] at h0
   by_cases e1 : id' = id
   ·rw [if_pos e1] at h0 ⊢; exact h0
   ·rw [if_neg e1] at h0 ⊢; exact h0
  | _ => exact h0))
theorem XG.round {x : Code} {m : Nat} {ρ ρ₁ ρ' : Vals} {T T₁ T' : Tr SV} {h h₁ h' : Mem} {e : Exit} (hx : XG (Code.wp P x) n ρ T h .normal ρ₁ T₁ h₁) (hy : XG (fun Q => Code.rounds P x Q m) n ρ₁ T₁ h₁ e ρ' T' h') : XG (fun Q => Code.rounds P x Q (m + 1)) n ρ T h e ρ' T' h' :=
 hx.then hy fun Q a w h => by
  rw [rounds_succ]
  exact wp_mono h (by rintro _ a w ⟨rfl, h⟩; exact h)
theorem XG.round_out {x : Code} {m : Nat} {ρ ρ' : Vals} {T T' : Tr SV} {h h' : Mem} {e : Exit} (he : e ≠ .normal) (hx : XG (Code.wp P x) n ρ T h e ρ' T' h') : XG (fun Q => Code.rounds P x Q (m + 1)) n ρ T h e ρ' T' h' :=
 hx.as fun Q a w h => by
  rw [rounds_succ]
  exact wp_mono h (by
   rintro e₁ a w ⟨rfl, h0⟩
   cases e₁ <;> first | exact absurd rfl he | exact h0)
theorem XG.loop {x : Code} {m : Nat} {ρ ρ' : Vals} {T T' : Tr SV} {h h' : Mem} {e : Exit} (hx : XG (fun Q => Code.rounds P x Q m) n ρ T h e ρ' T' h') : XG (Code.wp P (.loop x)) n ρ T h e ρ' T' h' := by
 intro p ν s st
 obtain ⟨ν₁, s₁, a2, a3⟩ := hx p ν s st
 exact ⟨ν₁, s₁, a2, fun σ I a w Q hst hk => wp_loop_rounds m (a3 σ I a w Q hst hk)⟩
end
end Go.Proofs.YtbllpnjappddeaaGreat.Den
end
section
set_option linter.unusedSimpArgs false
namespace Go.Proofs.YtbllpnjappddeaaGreat.Den
variable {P : Program} {ρ : Vals}
/-! ### new names -/
structure CS where
 th : List IE
 nv : Nat
 mp : Tr Nat
 rn : Tr Nat
 nr : Nat
def cnIE (e : IE) (s : CS) : IE × CS :=
 match e with
 | .lit n => (.lit n, s)
 | .byte i => (.byte i, s)
 | e => (.var s.nv, { s with th := e :: s.th, nv := Nat.add s.nv 1 })
def cnIEs : List IE -> CS -> List IE × CS
 | [], s => ([], s)
 | a :: l, s =>
  match cnIE a s with
  | (a, s) => match cnIEs l s with
   | (l, s) => (a :: l, s)
def cnAd (n : Nat) (s : CS) : Nat × CS :=
 match s.mp.get n with
 | some m => (m, s)
 | none => forceN s.nr fun k => (k, { s with mp := s.mp.put n k, rn := s.rn.put k n, nr := Nat.add k 1 })
mutual
def cnSV : SV -> CS -> SV × CS
 | .int k e, s => match cnIE e s with | (e, s) => (.int k e, s)
 | .bool b, s => (.bool b, s)
 | .str l, s => match cnIEs l s with | (l, s) => (.str l, s)
 | .val v, s => (.val v, s)
 | .ptr n o, s => match cnAd n s with | (n, s) => (.ptr n o, s)
 | .imp m c o, s => match cnSVs c s with | (c, s) => (.imp m c o, s)
 | .sl n o l z, s => match cnAd n s with | (n, s) => (.sl n o l z, s)
 | .im m l c, s => match cnSVs c s with | (c, s) => (.im m l c, s)
 | .agg c, s => match cnSVs c s with | (c, s) => (.agg c, s)
 | .tup c, s => match cnSVs c s with | (c, s) => (.tup c, s)
 | .fn f a b, s => match cnSVs a s with | (a, s) => match cnSVs b s with | (b, s) => (.fn f a b, s)
def cnSVs : List SV -> CS -> List SV × CS
 | [], s => ([], s)
 | a :: l, s => match cnSV a s with | (a, s) => match cnSVs l s with | (l, s) => (a :: l, s)
end
def cnTemps (T : Tr SV) (n : Nat) : Nat -> CS -> List (Option SV) × CS
 | 0, s => ([], s)
 | f + 1, s =>
  match T.get (n - (f + 1)) with
  | none => match cnTemps T n f s with | (l, s) => (none :: l, s)
  | some v => match cnSV v s with | (v, s) => match cnTemps T n f s with | (l, s) => (some v :: l, s)
def cnRows (h : Mem) : Nat -> Nat -> CS -> List (Option (List SV)) × CS
 | 0, _, s => ([], s)
 | f + 1, i, s =>
  bif Nat.ble s.nr i then ([], s) else
  match (s.rn.get i).bind h.get with
  | none => match cnRows h f (Nat.add i 1) s with | (l, s) => (none :: l, s)
  | some row => match cnSVs row s with | (row, s) => match cnRows h f (Nat.add i 1) s with | (l, s) => (some row :: l, s)
def rlist (rn : Tr Nat) (n : Nat) : Nat -> List Nat
 | 0 => []
 | f + 1 => (rn.get (n - (f + 1))).getD 0 :: rlist rn n f
def thTr : List IE -> Nat -> Tr IE -> Tr IE
 | [], _, T => T
 | e :: l, k, T => thTr l (Nat.add k 1) (T.put k e)
/-- What is named, by its number. -/
def thOf (l : List IE) : Nat -> IE := fun j => ((thTr l 0 .nil).get j).getD (.lit 0)
def mkT : Nat -> List (Option SV) -> Tr SV -> Tr SV
 | _, [], T => T
 | k, none :: r, T => mkT (k + 1) r T
 | k, some v :: r, T => mkT (k + 1) r (T.put k v)
def mkM : List (Option (List SV)) -> Mem -> Mem
 | [], h => h
 | none :: r, h => mkM r ⟨h.next + 1, h.m⟩
 | some row :: r, h => mkM r (h.push row)
theorem mkT_dom : ∀ (l : List (Option SV)) (k n : Nat) (T : Tr SV), n < 1000000 -> k + l.length <= n -> Dom n T -> Dom n (mkT k l T)
 | [], _, _, _, _, _, h => h
 | none :: r, k, n, T, hn, hk, h => by
  rw [List.length_cons] at hk
  exact mkT_dom r (k + 1) n T hn (by omega) h
 | some v :: r, k, n, T, hn, hk, h => by
  rw [List.length_cons] at hk
  refine mkT_dom r (k + 1) n _ hn (by omega) ?_
  exact h.put hn (d := some k) (fun j hj => by cases hj; exact Nat.lt_of_lt_of_le (show k < k + (r.length + 1) by omega) hk) v
def Above (h : Mem) : Prop := ∀ k, h.next <= k -> h.get k = none
theorem mkM_above : ∀ (l : List (Option (List SV))) (h : Mem), Above h -> Above (mkM l h)
 | [], _, h0 => h0
 | none :: r, h, h0 => mkM_above r _ fun k hk => h0 k (by simp only at hk; omega)
 | some row :: r, h, h0 => mkM_above r _ fun k hk => by
  simp only [Mem.push] at hk
  cases e : (h.push row).get k with
  | none => rfl
  | some x =>
   rcases put_get_some h.m h.next row k x e with ⟨h1, _⟩ | ⟨_, h2⟩
   ·omega
   ·have := h0 k (by omega)
    simp only [Mem.get] at this
    rw [this] at h2; cases h2
theorem above_nil : Above ⟨0, .nil⟩ := fun k _ => nil_get k
/-- A state by new names: what was unknown, the rows, the state. -/
def canon3 (rows : List (Option (List SV))) (q : List (Option SV) × CS) : List IE × List Nat × Tr SV × Mem := (q.2.th.reverse, rlist q.2.rn q.2.nr q.2.nr, mkT 0 q.1 .nil, mkM rows ⟨0, .nil⟩)
def canon2 (n : Nat) (T : Tr SV) (p : List (Option (List SV)) × CS) : List IE × List Nat × Tr SV × Mem := canon3 p.1 (cnTemps T n n p.2)
def fresh0 (s : CS) : CS := ⟨[], 0, s.mp, s.rn, s.nr⟩
def canon1 (n : Nat) (T : Tr SV) (h : Mem) (p : List (Option SV) × CS) : List IE × List Nat × Tr SV × Mem := canon2 n T (cnRows h 100000 0 (fresh0 p.2))
/-- First the rows, then the temporaries. -/
def canon (n : Nat) (T : Tr SV) (h : Mem) : List IE × List Nat × Tr SV × Mem := canon1 n T h (cnTemps T n n ⟨[], 0, .nil, .nil, 0⟩)
theorem cnTemps_length (T : Tr SV) (n : Nat) : ∀ (f : Nat) (s : CS), (cnTemps T n f s).1.length = f
 | 0, _ => rfl
 | f + 1, s => by
  simp only [cnTemps]
  split
  ·simp [cnTemps_length T n f]
  ·simp [cnTemps_length T n f]
theorem canon_dom {n : Nat} (hn : n < 1000000) (T : Tr SV) (h : Mem) : Dom n (canon n T h).2.2.1 := by
 show Dom n (mkT 0 (cnTemps T n n (cnRows h 100000 0 (fresh0 (cnTemps T n n ⟨[], 0, .nil, .nil, 0⟩).2)).2).1 .nil)
 exact mkT_dom _ 0 n .nil hn (by rw [cnTemps_length]; omega) fun t _ => nil_get t
theorem canon_above {n : Nat} (T : Tr SV) (h : Mem) : Above (canon n T h).2.2.2 := by
 show Above (mkM (cnRows h 100000 0 (fresh0 (cnTemps T n n ⟨[], 0, .nil, .nil, 0⟩).2)).1 ⟨0, .nil⟩)
 exact mkM_above _ ⟨0, .nil⟩ above_nil
/-! ### runs with cuts -/
def Vals.subs (ρ : Vals) : List (List IE) -> Vals
 | [] => ρ
 | θ :: Θ => (ρ.sub (thOf θ)).subs Θ
theorem subs_append (ρ : Vals) : ∀ (A B : List (List IE)), ρ.subs (A ++ B) = (ρ.subs A).subs B
 | [], _ => rfl
 | _ :: A, B => subs_append _ A B
abbrev XRes := Option (Exit × Tr SV × Mem × List (List IE))
def xof : CRes -> XRes
 | some (e, T, h, []) => some (e, T, h, [])
 | _ => none
def xcut (n : Nat) (k : Tr SV -> Mem -> XRes) (T' : Tr SV) (h' : Mem) : List IE × List Nat × Tr SV × Mem -> XRes
 | (θ, R, T, h) => bif okSub n (thOf θ) R T T' h h' then (k T h).map fun (e, T, h, Θ) => (e, T, h, θ :: Θ) else none
def xloop (g : Tr SV -> Mem -> SLate -> CRes) (k : Tr SV -> Mem -> XRes) (T : Tr SV) (h : Mem) : XRes :=
 match g T h [] with
 | some (.normal, T', h', []) => k T' h'
 | some (e, T', h', []) => some (e, T', h', [])
 | _ => none
noncomputable def xrun (Γ : List Fact) (P : Program) (call : SCall) (n : Nat) : Nat -> Code -> Tr SV -> Mem -> XRes
 | 0, _, _, _ => none
 | f + 1, c, T, h =>
  match c with
  | .seq x y =>
   match xrun Γ P call n f x T h with
   | some (.normal, T, h, Θ) => (xrun Γ P call n f y T h).map fun (e, T, h, Θ') => (e, T, h, Θ ++ Θ')
   | r => r
  | .block id x => (xrun Γ P call n f x T h).map fun (e, T, h, Θ) => (inB id e, T, h, Θ)
  | .loop x => xcut n (xloop (grun Γ P call n f x) (xrun Γ P call n f (.loop x))) T h (canon n T h)
  | c => xof (grun Γ P call n f c T h [])
section
variable {Γ : List Fact} {sc : SCall} {n : Nat}
theorem xof_some {r : CRes} {e : Exit} {T : Tr SV} {h : Mem} {Θ : List (List IE)} (hr : xof r = some (e, T, h, Θ)) : r = some (e, T, h, []) /\ Θ = [] := by
 unfold xof at hr
 split at hr
 ·simp only [Option.some.injEq, Prod.mk.injEq] at hr
  obtain ⟨rfl, rfl, rfl, rfl⟩ := hr
  exact ⟨rfl, rfl⟩
 ·cases hr
theorem xplain (hF : ∀ ρ, FOk ρ Γ) (hsc : ∀ ρ, SCallOK P ρ sc) (hn : n < 1000000) {f : Nat} {c : Code} {T T' : Tr SV} {h h' : Mem} {e : Exit} {Θ : List (List IE)} (hd : Dom n T) (hr : xof (grun Γ P sc n f c T h []) = some (e, T', h', Θ)) :
  Dom n T' /\ ∀ ρ : Vals, XG (Code.wp P c) n ρ T h e (ρ.subs Θ) T' h' := by
 obtain ⟨h1, rfl⟩ := xof_some hr
 rw [grun_eq, frun_eq] at h1
 exact ⟨srun_dom hn f c T h [] e T' h' [] hd h1, fun ρ => (srun_ok (hF ρ) (hsc ρ) hn f c T h [] e T' h' [] h1).xg⟩
theorem XG.pre {W : (Exit -> Act -> World -> Prop) -> Act -> World -> Prop} {ρ ρ' : Vals} {T T₁ T' : Tr SV} {h h₁ h' : Mem} {e : Exit} {θ : Nat -> IE} {R : List Nat} (hd : Dom n T₁) (hd' : Dom n T) (hb : ∀ k, h₁.next <= k -> h₁.get k = none) (hok : okSub n θ R T₁ T h₁ h = true) (hx : XG W n (ρ.sub θ) T₁ h₁ e ρ' T' h') : XG W n ρ T h e ρ' T' h' := by
 intro p ν s st
 obtain ⟨ν₁, b⟩ := st.sub hd hd' hb hok
 exact hx p ν₁ s b
theorem xrun_rounds (hF : ∀ ρ, FOk ρ Γ) (hsc : ∀ ρ, SCallOK P ρ sc) (hn : n < 1000000) {x : Code} : ∀ (f : Nat) (T T' : Tr SV) (h h' : Mem) (e : Exit) (Θ : List (List IE)), Dom n T -> xrun Γ P sc n f (.loop x) T h = some (e, T', h', Θ) ->
  Dom n T' /\ ∀ ρ : Vals, XG (fun Q => Code.rounds P x Q f) n ρ T h e (ρ.subs Θ) T' h' := by
 intro f
 induction f with
 | zero => intro T T' h h' e Θ _ hr; simp [xrun] at hr
 | succ f ih =>
  intro T T' h h' e Θ hd hr
  simp only [xrun] at hr
  have hc := canon_dom (n := n) hn T h
  have ha := canon_above (n := n) T h
  generalize hcan : canon n T h = q at hr hc ha
  obtain ⟨θ, R, T2, h2⟩ := q
  simp only [xcut] at hr hc ha
  cases hok : okSub n (thOf θ) R T2 T h2 h with
  | false => rw [hok] at hr; cases hr
  | true =>
   rw [hok] at hr
   simp only [cond_true, Option.map_eq_some_iff] at hr
   obtain ⟨⟨e3, T3, h3, Θ3⟩, hr3, e4⟩ := hr
   simp only [Prod.mk.injEq] at e4
   obtain ⟨rfl, rfl, rfl, rfl⟩ := e4
   unfold xloop at hr3
   split at hr3
   ·rename_i T1 h1 hg
    rw [grun_eq, frun_eq] at hg
    have hd1 := srun_dom hn f x T2 h2 [] .normal T1 h1 [] hc hg
    obtain ⟨g1, g2⟩ := ih T1 T3 h1 h3 e3 Θ3 hd1 hr3
    exact ⟨g1, fun ρ => XG.pre hc hd ha hok (XG.round (srun_ok (hF _) (hsc _) hn f x T2 h2 [] .normal T1 h1 [] hg).xg (g2 _))⟩
   ·rename_i e1 T1 h1 hne hg
    simp only [Option.some.injEq, Prod.mk.injEq] at hr3
    obtain ⟨rfl, rfl, rfl, rfl⟩ := hr3
    rw [grun_eq, frun_eq] at hg
    have he : e1 ≠ .normal := by rintro rfl; exact hne rfl
    exact ⟨srun_dom hn f x T2 h2 [] e1 T1 h1 [] hc hg, fun ρ => XG.pre hc hd ha hok (XG.round_out he (srun_ok (hF _) (hsc _) hn f x T2 h2 [] e1 T1 h1 [] hg).xg)⟩
   ·cases hr3
theorem xrun_ok (hF : ∀ ρ, FOk ρ Γ) (hsc : ∀ ρ, SCallOK P ρ sc) (hn : n < 1000000) : ∀ (f : Nat) (c : Code) (T T' : Tr SV) (h h' : Mem) (e : Exit) (Θ : List (List IE)), Dom n T -> xrun Γ P sc n f c T h = some (e, T', h', Θ) ->
  Dom n T' /\ ∀ ρ : Vals, XG (Code.wp P c) n ρ T h e (ρ.subs Θ) T' h' := by
 intro f
 induction f with
 | zero => intro c T T' h h' e Θ _ hr; simp [xrun] at hr
 | succ f ih =>
  intro c T T' h h' e Θ hd hr
  cases c with
  | seq x y =>
   simp only [xrun] at hr
   cases hr1 : xrun Γ P sc n f x T h with
   | none => rw [hr1] at hr; cases hr
   | some r =>
    obtain ⟨e1, T1, h1, Θ1⟩ := r
    rw [hr1] at hr
    obtain ⟨a1, a2⟩ := ih x T T1 h h1 e1 Θ1 hd hr1
    cases e1 with
    | normal =>
     simp only [Option.map_eq_some_iff] at hr
     obtain ⟨⟨e3, T3, h3, Θ3⟩, hr3, e4⟩ := hr
     simp only [Prod.mk.injEq] at e4
     obtain ⟨rfl, rfl, rfl, rfl⟩ := e4
     obtain ⟨b1, b2⟩ := ih y T1 T3 h1 h3 e3 Θ3 a1 hr3
     refine ⟨b1, fun ρ => ?_⟩
     rw [subs_append]
     exact XG.seq (a2 ρ) (b2 _)
    | _ =>
     simp only [Option.some.injEq, Prod.mk.injEq] at hr
     obtain ⟨rfl, rfl, rfl, rfl⟩ := hr
     refine ⟨a1, fun ρ => (a2 ρ).as fun Q a w h => wp_seq (wp_mono h (by rintro e₁ a w ⟨rfl, h⟩; exact h))⟩
  | block id x =>
   simp only [xrun, Option.map_eq_some_iff] at hr
   obtain ⟨⟨e3, T3, h3, Θ3⟩, hr3, e4⟩ := hr
   simp only [Prod.mk.injEq] at e4
   obtain ⟨rfl, rfl, rfl, rfl⟩ := e4
   obtain ⟨a1, a2⟩ := ih x T T3 h h3 e3 Θ3 hd hr3
   exact ⟨a1, fun ρ => XG.block (a2 ρ) rfl⟩
  | loop x =>
   obtain ⟨a1, a2⟩ := xrun_rounds hF hsc hn (f + 1) T T' h h' e Θ hd hr
   exact ⟨a1, fun ρ => XG.loop (a2 ρ)⟩
  | _ => exact xplain hF hsc hn hd hr
end
end Go.Proofs.YtbllpnjappddeaaGreat.Den
end
section
set_option linter.unusedSimpArgs false
namespace Go.Proofs.YtbllpnjappddeaaGreat.Den
variable {ρ : Vals}
/-! ### expressions of words -/
def nden (N B : Nat -> Nat) : IE -> Nat
 | .lit n => n.toNat
 | .var i => N i
 | .byte i => B i
 | .bin op _ a b =>
  match op with
  | .add => Nat.mod (Nat.add (nden N B a) (nden N B b)) 4294967296
  | .xor => Nat.xor (nden N B a) (nden N B b)
  | .and => Nat.land (nden N B a) (nden N B b)
  | .or => Nat.lor (nden N B a) (nden N B b)
  | .shl => Nat.mod (Nat.shiftLeft (nden N B a) (nden N B b)) 4294967296
  | .shr => Nat.shiftRight (nden N B a) (nden N B b)
  | _ => 0
 | _ => 0
def smallLit : IE -> Bool
 | .lit (.ofNat n) => Nat.blt n 32
 | _ => false
def isU32 : IntKind -> Bool
 | .u32 => true
 | _ => false
def good : IE -> Bool
 | .lit (.ofNat n) => Nat.blt n 4294967296
 | .var _ => true
 | .byte _ => true
 | .bin op k a b => isU32 k && good a && good b && (match op with
  | .add | .xor | .and | .or => true
  | .shl | .shr => smallLit b
  | _ => false)
 | _ => false
/-- The names stand for words. -/
structure NS (ρ : Vals) (N B : Nat -> Nat) : Prop where
 i : ∀ j, ρ.i j = (N j : Int) /\ N j < 4294967296
 b : ∀ j, (ρ.b j).toNat = B j
theorem wrap_u32 (n : Nat) : IntKind.u32.wrap (n : Int) = ((n % 4294967296 : Nat) : Int) := by
 simp [IntKind.wrap, IntKind.bits, IntKind.signed]
theorem bv_u32 (n : Nat) (h : n < 4294967296) : (BitVec.ofInt IntKind.u32.bits (n : Int)).toNat = n := by
 show (BitVec.ofInt 32 (n : Int)).toNat = n
 simp [BitVec.toNat_ofInt]; omega
theorem den_nden {N B : Nat -> Nat} (h : NS ρ N B) : ∀ e : IE, good e = true -> e.den ρ = (nden N B e : Int) /\ nden N B e < 4294967296
 | .lit n, hg => by
  cases n with
  | ofNat n => exact ⟨rfl, blt_lt hg⟩
  | negSucc n => simp [good] at hg
 | .var i, _ => h.i i
 | .byte i, _ => by
  refine ⟨?_, ?_⟩
  ·show (((ρ.b i).toNat : Nat) : Int) = _
   rw [h.b]; rfl
  ·show B i < _
   rw [<- h.b i]
   have := (ρ.b i).toNat_lt
   omega
 | .bin op k a b, hg => by
  simp only [good, Bool.and_eq_true] at hg
  obtain ⟨⟨⟨hk, ha⟩, hb⟩, ho⟩ := hg
  have hk' : k = .u32 := by cases k <;> simp [isU32] at hk; rfl
  subst hk'
  obtain ⟨a1, a2⟩ := den_nden h a ha
  obtain ⟨b1, b2⟩ := den_nden h b hb
  have hsh : smallLit b = true -> ∃ n, b = .lit (.ofNat n) /\ n < 32 := by
   intro hs
   unfold smallLit at hs
   split at hs
   ·exact ⟨_, rfl, blt_lt hs⟩
   ·cases hs
  have hb32 : IntKind.u32.bits = 32 := rfl
  cases op with
  | add =>
   simp only [IE.den, arI, Option.getD_some, a1, b1]
   have : (nden N B a : Int) + (nden N B b : Int) = ((nden N B a + nden N B b : Nat) : Int) := by simp
   rw [this, wrap_u32]
   exact ⟨rfl, Nat.mod_lt _ (by decide)⟩
  | xor =>
   simp only [IE.den, arI, Option.getD_some, a1, b1, BitVec.toNat_xor, bv_u32 _ a2, bv_u32 _ b2]
   have hlt : nden N B a ^^^ nden N B b < 4294967296 := Nat.xor_lt_two_pow (n := 32) a2 b2
   rw [wrap_u32, Nat.mod_eq_of_lt hlt]
   exact ⟨rfl, hlt⟩
  | and =>
   simp only [IE.den, arI, Option.getD_some, a1, b1, BitVec.toNat_and, bv_u32 _ a2, bv_u32 _ b2]
   have hlt : nden N B a &&& nden N B b < 4294967296 := Nat.lt_of_le_of_lt Nat.and_le_left a2
   rw [wrap_u32, Nat.mod_eq_of_lt hlt]
   exact ⟨rfl, hlt⟩
  | or =>
   simp only [IE.den, arI, Option.getD_some, a1, b1, BitVec.toNat_or, bv_u32 _ a2, bv_u32 _ b2]
   have hlt : nden N B a ||| nden N B b < 4294967296 := Nat.or_lt_two_pow (n := 32) a2 b2
   rw [wrap_u32, Nat.mod_eq_of_lt hlt]
   exact ⟨rfl, hlt⟩
  | shl =>
   obtain ⟨n, rfl, hn⟩ := hsh ho
   have hmin : min n 32 = n := by omega
   have hy : (0 : Int) <= Int.ofNat n := Int.natCast_nonneg n
   simp only [IE.den, arI, a1, hb32]
   rw [if_pos hy, Option.getD_some]
   show IntKind.u32.wrap ((nden N B a : Int) * 2 ^ min n 32) = _ /\ _
   rw [hmin]
   have : (nden N B a : Int) * 2 ^ n = ((nden N B a * 2 ^ n : Nat) : Int) := by simp
   rw [this, wrap_u32]
   refine ⟨?_, Nat.mod_lt _ (by decide)⟩
   show _ = ((Nat.mod (nden N B a <<< n) 4294967296 : Nat) : Int)
   rw [Nat.shiftLeft_eq]; rfl
  | shr =>
   obtain ⟨n, rfl, hn⟩ := hsh ho
   have hmin : min n 32 = n := by omega
   have hy : (0 : Int) <= Int.ofNat n := Int.natCast_nonneg n
   simp only [IE.den, arI, a1, hb32]
   rw [if_pos hy, Option.getD_some]
   show Int.fdiv (nden N B a : Int) (2 ^ min n 32) = ((nden N B a >>> n : Nat) : Int) /\ nden N B a >>> n < _
   rw [hmin, Nat.shiftRight_eq_div_pow]
   refine ⟨?_, Nat.lt_of_le_of_lt (Nat.div_le_self _ _) a2⟩
   rw [Int.fdiv_eq_ediv_of_nonneg _ (by exact Int.le_of_lt (Int.pow_pos (by decide)))]
   simp
  | _ => simp at ho
 | .wrap k a, hg => by simp [good] at hg
 | .fn f l i, hg => by simp [good] at hg
/-! ### names, by their number -/
theorem thTr_get : ∀ (l : List IE) (k : Nat) (T : Tr IE) (j : Nat), k + l.length < 2 ^ 59 -> (thTr l k T).get j = if k <= j /\ j < k + l.length then l[j - k]? else T.get j := by
 intro l
 induction l with
 | nil => intro k T j _; simp only [thTr, List.length_nil]; rw [if_neg (by omega)]
 | cons x l ih =>
  intro k T j hk
  rw [List.length_cons] at hk ⊢
  have h60 : (2 : Nat) ^ 59 <= 2 ^ 60 := by decide
  rw [show thTr (x :: l) k T = thTr l (k + 1) (T.put k x) from rfl, ih (k + 1) _ j (by omega), put_get T k x j (by omega)]
  by_cases h1 : k + 1 <= j /\ j < k + 1 + l.length
  ·rw [if_pos h1, if_pos (by omega)]
   have : j - k = j - (k + 1) + 1 := by omega
   rw [this]; rfl
  ·rw [if_neg h1]
   by_cases h2 : j = k
   ·subst h2; rw [if_pos rfl, if_pos (by omega)]; simp
   ·rw [if_neg h2, if_neg (by omega)]
theorem thOf_eq (l : List IE) (h : l.length < 1000000) (j : Nat) : thOf l j = l.getD j (.lit 0) := by
 unfold thOf
 rw [thTr_get l 0 .nil j (Nat.lt_trans (by simpa using h) (by decide))]
 by_cases hj : j < l.length
 ·rw [if_pos (by omega)]
  simp [List.getD_eq_getElem?_getD]
 ·rw [if_neg (by omega), nil_get]
  simp [List.getD_eq_getElem?_getD, List.getElem?_eq_none (by omega : l.length <= j)]
def okTh (θ : List IE) : Bool := Nat.blt θ.length 1000000 && θ.all good
def nth1 (N B : Nat -> Nat) (θ : List IE) : Nat -> Nat := fun j => nden N B (θ.getD j (.lit 0))
def nsubs (B : Nat -> Nat) : (Nat -> Nat) -> List (List IE) -> Nat -> Nat
 | N, [] => N
 | N, θ :: Θ => nsubs B (nth1 N B θ) Θ
theorem NS.sub {N B : Nat -> Nat} (h : NS ρ N B) {θ : List IE} (hg : okTh θ = true) : NS (ρ.sub (thOf θ)) (nth1 N B θ) B where
 i := fun j => by
  simp only [okTh, Bool.and_eq_true] at hg
  have hlen := blt_lt hg.1
  have hgood : good (θ.getD j (.lit 0)) = true := by
   rw [List.getD_eq_getElem?_getD]
   by_cases hj : j < θ.length
   ·rw [List.getElem?_eq_getElem hj, Option.getD_some]
    exact (List.all_eq_true.1 hg.2) _ (List.getElem_mem hj)
   ·rw [List.getElem?_eq_none (by omega), Option.getD_none]; rfl
  show (thOf θ j).den ρ = _ /\ _
  rw [thOf_eq θ hlen]
  exact den_nden h _ hgood
 b := h.b
theorem NS.subs {B : Nat -> Nat} : ∀ (Θ : List (List IE)) (ρ : Vals) (N : Nat -> Nat), NS ρ N B -> Θ.all okTh = true -> NS (ρ.subs Θ) (nsubs B N Θ) B := by
 intro Θ
 induction Θ with
 | nil => intro ρ N h _; exact h
 | cons θ Θ ih =>
  intro ρ N h hg
  simp only [List.all_cons, Bool.and_eq_true] at hg
  exact ih _ _ (h.sub hg.1) hg.2
/-! ### the names that matter -/
def varsLt (m : Nat) : IE -> Bool
 | .lit _ => true
 | .var i => Nat.blt i m
 | .byte _ => true
 | .bin _ _ a b => varsLt m a && varsLt m b
 | _ => false
def okTrack : Nat -> List (List IE) -> List (List IE) -> Bool
 | _, [], [] => true
 | m, θ :: Θ, x :: X => IE.beqs (θ.take x.length) x && x.all (varsLt m) && okTrack x.length Θ X
 | _, _, _ => false
def envOf (env : List Nat) : Nat -> Nat := fun j => env.getD j 0
def track (B : Nat -> Nat) : List Nat -> List (List IE) -> List Nat
 | env, [] => env
 | env, x :: X => track B (x.map (nden (envOf env) B)) X
theorem nden_congr {N N' B : Nat -> Nat} {m : Nat} (h : ∀ j, j < m -> N j = N' j) : ∀ e : IE, varsLt m e = true -> nden N B e = nden N' B e
 | .lit _, _ => rfl
 | .var i, hv => h i (blt_lt hv)
 | .byte _, _ => rfl
 | .bin op k a b, hv => by
  simp only [varsLt, Bool.and_eq_true] at hv
  cases op <;> simp only [nden, nden_congr h a hv.1, nden_congr h b hv.2]
 | .wrap _ _, hv => by simp [varsLt] at hv
 | .fn _ _ _, hv => by simp [varsLt] at hv
theorem track_ok {B : Nat -> Nat} : ∀ (Θ X : List (List IE)) (m : Nat) (N : Nat -> Nat) (env : List Nat), okTrack m Θ X = true -> env.length = m -> (∀ j, j < m -> N j = envOf env j) ->
  ∀ j, j < (track B env X).length -> nsubs B N Θ j = envOf (track B env X) j
 | [], [], m, N, env, _, hl, h, j, hj => h j (by simp only [track] at hj; omega)
 | θ :: Θ, x :: X, m, N, env, hok, hl, h, j, hj => by
  simp only [okTrack, Bool.and_eq_true] at hok
  obtain ⟨⟨h1, h2⟩, h3⟩ := hok
  have h1 := IE.beqs_eq h1
  refine track_ok Θ X x.length _ _ h3 (by simp) ?_ j hj
  intro i hi
  have hθ : θ.getD i (.lit 0) = x[i] := by
   have e1 : (θ.take x.length)[i]? = some x[i] := by rw [h1]; exact List.getElem?_eq_getElem hi
   have e2 : θ[i]? = some x[i] := by rw [List.getElem?_take] at e1; rwa [if_pos hi] at e1
   rw [List.getD_eq_getElem?_getD, e2]; rfl
  have hv := (List.all_eq_true.1 h2) x[i] (List.getElem_mem hi)
  show nden N B (θ.getD i (.lit 0)) = _
  rw [hθ, nden_congr h _ hv]
  simp [envOf, List.getD_eq_getElem?_getD, List.getElem?_map, List.getElem?_eq_getElem hi]
end Go.Proofs.YtbllpnjappddeaaGreat.Den
end
