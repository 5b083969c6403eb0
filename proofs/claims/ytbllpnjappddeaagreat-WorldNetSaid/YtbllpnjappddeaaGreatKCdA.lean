/- Package code: readers of bytes. -/
import Derived.Test.YtbllpnjappddeaaGreatKWkT
import Derived.Test.YtbllpnjappddeaaGreatKDenM
set_option linter.unusedVariables false
set_option linter.unusedSimpArgs false
section
set_option linter.unusedSimpArgs false
set_option linter.unusedVariables false
set_option maxRecDepth 100000
namespace Go.Proofs.YtbllpnjappddeaaGreat.Den
open Go.RowKit
attribute [local simp] runList aop abuiltin acall awanted ayielded env T0 tput tset Ran aload astore setMany upd binV aslice aindexAddr apart aindex alen acopy srcCells natOf boundOf aeq AV.nilEq convV appK fillA List.range List.range.loop onF isU8 rowOf
/-- What fails is told once. -/
def failS : Spec := fun args nm H =>
 match args with
 | [.ptr q 0, .val (.int .i64 e)] =>
  match H q with
  | some [x, .val (.int .i64 e0)] => some (.tup [], upd H q (some [x, vi (if e0 = 0 then e else e0)]))
  | _ => none
 | _ => none
set_option maxHeartbeats 400000 in
theorem fail_ok : FnOK Tryz.prog 248 failS := by
 refine ⟨by kernel_rfl, fun args nm H r H' h => ?_⟩
 unfold failS at h
 split at h
 ·rename_i q e
  split at h
  ·rename_i x e0 hq
   cases h
   have hcall := @noCall_ok Tryz.prog
   refine sim_go Tryz.func248 rfl rfl (Nat.le_of_ble_eq_true rfl) fun hH => ?_
   (repeat refine AWP.seq ?_)
   refine AWP.region_last hcall rfl fun K hK => ?_
   simp [hq]
   apply hK; clear hK K; simp only [onNormal, onExit]
   by_cases he : e0 = 0
   ·(repeat refine AWP.seq ?_); refine AWP.cond (b := true) (by simp [he]) ?_; simp only [if_true, if_false, Bool.false_eq_true]
    (repeat refine AWP.seq ?_)
    refine AWP.region_last hcall rfl fun K hK => ?_
    simp [hq]
    apply hK; clear hK K; simp only [onNormal, onExit]
    (try refine AWP.ret ?_); (try simp only [onNormal, onExit]); refine ⟨by simp, ⟨_, rfl, by simp [ares1]⟩, fun k row hk => ?_⟩
    simpa [he] using hk
   ·(repeat refine AWP.seq ?_); refine AWP.cond (b := false) (by simp [he]) ?_; simp only [if_true, if_false, Bool.false_eq_true]
    refine AWP.skip ?_; simp only [onNormal, onExit]
    (try refine AWP.ret ?_); (try simp only [onNormal, onExit]); refine ⟨by simp, ⟨_, rfl, by simp [ares1]⟩, fun k row hk => ?_⟩
    by_cases e1 : k = q
    ·subst e1; simpa [he, hq] using hk
    ·simpa [e1] using hk
  ·cases h
 ·cases h
/-- What is left of a reader, and an error. -/
def rdr (len : Nat) (cells : List AV) (e : Int) : List AV := [.im true len cells, vi e]
def takeS : Spec := fun args nm H =>
 match args with
 | [.ptr q 0, .val (.int .i64 k)] =>
  match H q with
  | some [.im true len cells, .val (.int .i64 e)] =>
   if 0 <= k /\ cells.length = len then
    if e ≠ 0 \/ (len : Int) < k then some (vnil, upd H q (some (rdr len cells (if e = 0 then 8 else e))))
    else some (.im true k.toNat (cells.take k.toNat), upd H q (some (rdr (len - k.toNat) (cells.drop k.toNat) 0)))
   else none
  | _ => none
 | _ => none
theorem ite_take {m : Bool} (k : Nat) (cells : List AV) : (if 0 = k then some (AV.im m 0 []) else some (AV.im m k (cells.take k))) = some (.im m k (cells.take k)) := by
 split
 ·rename_i e; subst e; rfl
 ·rfl
theorem ite_drop {m : Bool} {cells : List AV} {len : Nat} (h : cells.length = len) (k : Nat) : (if k = len then some (AV.im m 0 []) else some (AV.im m (len - k) ((cells.drop k).take (len - k)))) = some (.im m (len - k) (cells.drop k)) := by
 split
 ·rename_i e
  subst e
  rw [List.drop_eq_nil_of_le (by omega), Nat.sub_self]
 ·rw [List.take_of_length_le (by simp; omega)]
set_option maxHeartbeats 400000 in
theorem take_ok : FnOK Tryz.prog 291 takeS := by
 refine ⟨by kernel_rfl, fun args nm H r H' h => ?_⟩
 unfold takeS at h
 split at h
 ·rename_i q k
  split at h
  ·rename_i len cells e hq
   split at h
   ·rename_i hk
    obtain ⟨k, rfl⟩ := Int.eq_ofNat_of_zero_le hk.1
    have hcall := onF_ok fail_ok (@noCall_ok Tryz.prog)
    have hl := hk.2
    split at h
    ·rename_i hbad
     cases h
     refine sim_go Tryz.func291 rfl rfl (Nat.le_of_ble_eq_true rfl) fun hH => ?_
     (repeat refine AWP.seq ?_)
     refine AWP.region_last hcall rfl fun K hK => ?_
     simp
     apply hK; clear hK K; simp only [onNormal, onExit]
     (repeat refine AWP.seq ?_)
     refine AWP.region_last hcall rfl fun K hK => ?_
     simp [hq]
     apply hK; clear hK K; simp only [onNormal, onExit]
     by_cases hlt : len < k
     ·(repeat refine AWP.seq ?_); refine AWP.cond (b := true) (by simp [hlt]) ?_; simp only [if_true, if_false, Bool.false_eq_true]
      (repeat refine AWP.seq ?_)
      refine AWP.region_last hcall rfl fun K hK => ?_
      simp [hq, failS]
      apply hK; clear hK K; simp only [onNormal, onExit]
      by_cases he : e = 0
      ·(repeat refine AWP.seq ?_)
       refine AWP.region_last hcall rfl fun K hK => ?_
       simp [he]
       apply hK; clear hK K; simp only [onNormal, onExit]
       (repeat refine AWP.seq ?_); refine AWP.cond (b := true) (by simp) ?_; simp only [if_true, if_false, Bool.false_eq_true]
       (repeat refine AWP.seq ?_)
       refine AWP.region_last hcall rfl fun K hK => ?_
       simp
       apply hK; clear hK K; simp only [onNormal, onExit]
       (try refine AWP.ret ?_); (try simp only [onNormal, onExit]); refine ⟨by simp, ⟨_, rfl, by simp [ares1]⟩, fun k row hk => ?_⟩
       simpa [rdr, he] using hk
      ·(repeat refine AWP.seq ?_)
       refine AWP.region_last hcall rfl fun K hK => ?_
       simp [he]
       apply hK; clear hK K; simp only [onNormal, onExit]
       (repeat refine AWP.seq ?_); refine AWP.cond (b := true) (by simp [he]) ?_; simp only [if_true, if_false, Bool.false_eq_true]
       (repeat refine AWP.seq ?_)
       refine AWP.region_last hcall rfl fun K hK => ?_
       simp
       apply hK; clear hK K; simp only [onNormal, onExit]
       (try refine AWP.ret ?_); (try simp only [onNormal, onExit]); refine ⟨by simp, ⟨_, rfl, by simp [ares1]⟩, fun k row hk => ?_⟩
       simpa [rdr, he] using hk
     ·have he : e ≠ 0 := by rcases hbad with h | h <;> omega
      (repeat refine AWP.seq ?_); refine AWP.cond (b := false) (by simp [hlt]) ?_; simp only [if_true, if_false, Bool.false_eq_true]
      refine AWP.skip ?_; simp only [onNormal, onExit]
      (repeat refine AWP.seq ?_)
      refine AWP.region_last hcall rfl fun K hK => ?_
      simp [hq]
      apply hK; clear hK K; simp only [onNormal, onExit]
      (repeat refine AWP.seq ?_); refine AWP.cond (b := true) (by simp [he]) ?_; simp only [if_true, if_false, Bool.false_eq_true]
      (repeat refine AWP.seq ?_)
      refine AWP.region_last hcall rfl fun K hK => ?_
      simp
      apply hK; clear hK K; simp only [onNormal, onExit]
      (try refine AWP.ret ?_); (try simp only [onNormal, onExit]); refine ⟨by simp, ⟨_, rfl, by simp [ares1]⟩, fun k row hk => ?_⟩
      by_cases e1 : k = q
      ·subst e1; simpa [rdr, he, hq] using hk
      ·simpa [e1] using hk
    ·rename_i hgood
     cases h
     have he : e = 0 := by
      by_cases h : e = 0
      ·exact h
      ·exact absurd (.inl h) hgood
     have hlt : k <= len := by
      by_cases h : k <= len
      ·exact h
      ·exact absurd (.inr (by omega)) hgood
     subst he
     refine sim_go Tryz.func291 rfl rfl (Nat.le_of_ble_eq_true rfl) fun hH => ?_
     (repeat refine AWP.seq ?_)
     refine AWP.region_last hcall rfl fun K hK => ?_
     simp
     apply hK; clear hK K; simp only [onNormal, onExit]
     (repeat refine AWP.seq ?_)
     refine AWP.region_last hcall rfl fun K hK => ?_
     simp [hq]
     apply hK; clear hK K; simp only [onNormal, onExit]
     (repeat refine AWP.seq ?_); refine AWP.cond (b := false) (by simp [hlt]) ?_; simp only [if_true, if_false, Bool.false_eq_true]
     refine AWP.skip ?_; simp only [onNormal, onExit]
     (repeat refine AWP.seq ?_)
     refine AWP.region_last hcall rfl fun K hK => ?_
     simp [hq]
     apply hK; clear hK K; simp only [onNormal, onExit]
     (repeat refine AWP.seq ?_); refine AWP.cond (b := false) (by simp) ?_; simp only [if_true, if_false, Bool.false_eq_true]
     refine AWP.skip ?_; simp only [onNormal, onExit]
     (repeat refine AWP.seq ?_)
     refine AWP.region_last hcall rfl fun K hK => ?_
     simp [hq, hlt, hl, ite_take]
     apply hK; clear hK K; simp only [onNormal, onExit]
     (repeat refine AWP.seq ?_)
     refine AWP.region_last hcall rfl fun K hK => ?_
     simp [hq, hlt, hl, ite_drop hl]
     apply hK; clear hK K; simp only [onNormal, onExit]
     (repeat refine AWP.seq ?_)
     refine AWP.region_last hcall rfl fun K hK => ?_
     simp
     apply hK; clear hK K; simp only [onNormal, onExit]
     (try refine AWP.ret ?_); (try simp only [onNormal, onExit]); refine ⟨by simp, ⟨_, rfl, by simp [ares1]⟩, fun k row hk => ?_⟩
     simpa [rdr] using hk
   ·cases h
  ·cases h
 ·cases h
/-! ### bytes -/
def bs (l : List UInt8) : List AV := l.map fun b => .val (.int .u8 b.toNat)
@[simp] theorem bs_length (l : List UInt8) : (bs l).length = l.length := by simp [bs]
theorem bs_take (l : List UInt8) (n : Nat) : (bs l).take n = bs (l.take n) := by simp [bs]
theorem bs_drop (l : List UInt8) (n : Nat) : (bs l).drop n = bs (l.drop n) := by simp [bs]
theorem bs_append (l k : List UInt8) : bs l ++ bs k = bs (l ++ k) := by simp [bs]
theorem bs_get (l : List UInt8) (n : Nat) : (bs l)[n]? = (l[n]?).map fun b => .val (.int .u8 b.toNat) := by simp [bs]
@[simp] theorem bs_getElem (l : List UInt8) (n : Nat) (h : n < (bs l).length) : (bs l)[n] = .val (.int .u8 (l[n]'(by simpa using h)).toNat) := by simp [bs]
theorem bytesA_bs (l : List UInt8) : bytesA (bs l) = some l := by
 induction l with
 | nil => rfl
 | cons b l ih =>
  have h := b.toNat_lt
  simp only [bs, List.map_cons, bytesA] at ih ⊢
  rw [if_pos (by omega), ih]
  simp
theorem bytesA_some : ∀ {c : List AV} {l : List UInt8}, bytesA c = some l -> c = bs l
 | [], l, h => by cases h; rfl
 | a :: r, l, h => by
  unfold bytesA at h
  split at h
  ·rename_i e; cases e
  ·rename_i n r' e
   injection e with e1 e2
   subst e1 e2
   split at h
   ·rename_i hn
    simp only [Option.map_eq_some_iff] at h
    obtain ⟨l', h1, rfl⟩ := h
    rw [bytesA_some h1]
    simp only [bs, List.map_cons]
    congr 3
    obtain ⟨m, rfl⟩ := Int.eq_ofNat_of_zero_le hn.1
    have : m % 256 = m := by omega
    simp [this]
   ·cases h
  ·cases h
/-- The number that bytes say, the lowest one first. -/
def le : List UInt8 -> Nat
 | [] => 0
 | b :: r => b.toNat + 256 * le r
theorem le_lt (l : List UInt8) : le l < 256 ^ l.length := by
 induction l with
 | nil => decide
 | cons b l ih => have := b.toNat_lt; simp only [le, List.length_cons, Nat.pow_succ]; omega
theorem le_snoc (l : List UInt8) (b : UInt8) : le (l ++ [b]) = le l + b.toNat * 256 ^ l.length := by
 induction l with
 | nil => simp [le]
 | cons a l ih =>
  simp only [List.cons_append, le, ih, List.length_cons, Nat.pow_succ, Nat.mul_add]
  rw [Nat.add_assoc, Nat.mul_comm 256 (b.toNat * _), Nat.mul_assoc]
theorem or_high (u x k : Nat) (hu : u < 2 ^ k) : u ||| (x * 2 ^ k) = u + x * 2 ^ k := by
 rw [Nat.or_comm, Nat.mul_comm x, <- Nat.two_pow_add_eq_or_of_lt hu, Nat.add_comm]
theorem or_u64 (u x k : Nat) (hk : k < 8) (hu : u < 256 ^ k) (hx : x < 256) :
  IntKind.u64.wrap ((BitVec.ofInt IntKind.u64.bits u ||| BitVec.ofInt IntKind.u64.bits (IntKind.u64.wrap ((x : Int) * 2 ^ min (8 * (k : Int)).toNat IntKind.u64.bits))).toNat) = ((u + x * 256 ^ k : Nat) : Int) := by
 show IntKind.u64.wrap ((BitVec.ofInt 64 u ||| BitVec.ofInt 64 (IntKind.u64.wrap ((x : Int) * 2 ^ min (8 * (k : Int)).toNat 64))).toNat) = ((u + x * 256 ^ k : Nat) : Int)
 have e1 : min (8 * (k : Int)).toNat 64 = 8 * k := by omega
 have e2 : (256 : Nat) ^ k = 2 ^ (8 * k) := by rw [Nat.pow_mul]
 have h1 : x * 2 ^ (8 * k) < 2 ^ 64 := by
  have : (2 : Nat) ^ (8 * k) <= 2 ^ 56 := Nat.pow_le_pow_right (by decide) (by omega)
  have h2 : x * 2 ^ (8 * k) <= 255 * 2 ^ 56 := Nat.mul_le_mul (by omega) this
  omega
 have h3 : u < 2 ^ 64 := by
  rw [e2] at hu
  have : (2 : Nat) ^ (8 * k) <= 2 ^ 56 := Nat.pow_le_pow_right (by decide) (by omega)
  omega
 have e3 : ((x : Int) * 2 ^ (8 * k)) = ((x * 2 ^ (8 * k) : Nat) : Int) := by push_cast; rfl
 rw [e1, e3]
 have w1 : IntKind.u64.wrap ((x * 2 ^ (8 * k) : Nat) : Int) = ((x * 2 ^ (8 * k) : Nat) : Int) := by
  rw [IntKind.wrap_u64]; omega
 rw [w1, e2]
 have b1 : (BitVec.ofInt 64 (u : Int)).toNat = u := by rw [BitVec.ofInt_natCast, BitVec.toNat_ofNat, Nat.mod_eq_of_lt h3]
 have b2 : (BitVec.ofInt 64 ((x * 2 ^ (8 * k) : Nat) : Int)).toNat = x * 2 ^ (8 * k) := by rw [BitVec.ofInt_natCast, BitVec.toNat_ofNat, Nat.mod_eq_of_lt h1]
 rw [BitVec.toNat_or, b1, b2, or_high u x (8 * k) (by rw [<- e2]; exact hu), IntKind.wrap_u64]
 have h5 : u + x * 2 ^ (8 * k) < 2 ^ 64 := by
  have h6 : u + x * 2 ^ (8 * k) < 2 ^ (8 * k) + 255 * 2 ^ (8 * k) := by
   rw [e2] at hu
   have : x * 2 ^ (8 * k) <= 255 * 2 ^ (8 * k) := Nat.mul_le_mul (by omega) (Nat.le_refl _)
   omega
  have : (2 : Nat) ^ (8 * k) <= 2 ^ 56 := Nat.pow_le_pow_right (by decide) (by omega)
  omega
 omega
theorem or_u64' (u x k : Nat) (hk : k < 8) (hu : u < 256 ^ k) (hx : x < 256) :
  IntKind.u64.wrap ((((u : Int) % 2 ^ IntKind.u64.bits).toNat ||| (IntKind.u64.wrap ((x : Int) * 2 ^ min (8 * (k : Int)).toNat IntKind.u64.bits) % 2 ^ IntKind.u64.bits).toNat : Nat) : Int) = (u : Int) + (x : Int) * 256 ^ k := by
 have h := or_u64 u x k hk hu hx
 rw [BitVec.toNat_or, BitVec.toNat_ofInt, BitVec.toNat_ofInt] at h
 push_cast at h ⊢
 exact h
def numberS : Spec := fun args nm H =>
 match args with
 | [.ptr q 0, .val (.int .i64 n)] =>
  match H q with
  | some [.im true len cells, .val (.int .i64 e)] =>
   if 0 <= n /\ n <= 8 /\ cells.length = len then
    if e ≠ 0 \/ (len : Int) < n then some (vi 0, upd H q (some (rdr len cells (if e = 0 then 8 else e))))
    else match bytesA (cells.take n.toNat) with
     | some l => some (vi (IntKind.i64.wrap (le l)), upd H q (some (rdr (len - n.toNat) (cells.drop n.toNat) 0)))
     | none => none
   else none
  | _ => none
 | _ => none
set_option maxHeartbeats 400000 in
theorem number_ok : FnOK Tryz.prog 290 numberS := by
 refine ⟨by kernel_rfl, fun args nm H r H' h => ?_⟩
 unfold numberS at h
 split at h
 ·rename_i q n
  split at h
  ·rename_i len cells e hq
   split at h
   ·rename_i hk
    obtain ⟨n, rfl⟩ := Int.eq_ofNat_of_zero_le hk.1
    have hcall := onF_ok take_ok (@noCall_ok Tryz.prog)
    have hl := hk.2.2
    have hn8 := hk.2.1
    split at h
    ·rename_i hbad
     cases h
     refine sim_go Tryz.func290 rfl rfl (Nat.le_of_ble_eq_true rfl) fun hH => ?_
     (repeat refine AWP.seq ?_)
     refine AWP.region_last hcall rfl fun K hK => ?_
     simp
     apply hK; clear hK K; simp only [onNormal, onExit]
     (repeat refine AWP.seq ?_)
     refine AWP.region_last hcall rfl fun K hK => ?_
     simp
     apply hK; clear hK K; simp only [onNormal, onExit]
     have ht : takeS [.ptr q 0, vi n] ((2 + 2) :: nm) H = some (vnil, upd H q (some (rdr len cells (if e = 0 then 8 else e)))) := by
      simp only [takeS, hq]
      rw [if_pos ⟨by omega, hl⟩, if_pos (by simpa using hbad)]
     (repeat refine AWP.seq ?_)
     refine AWP.region_last hcall rfl fun K hK => ?_
     simp [ht]
     apply hK; clear hK K; simp only [onNormal, onExit]
     (repeat refine AWP.seq ?_); refine AWP.block ?_
     refine AWP.loop (fun _ _ T H1 => T 11 = vi 0 /\ T 12 = vi 0 /\ T 5 = .val (.int .u64 0) /\ H1 = upd H q (some (rdr len cells (if e = 0 then 8 else e)))) 0 (by simp) ?_
     rintro _ c T H1 ⟨t11, t12, t5, rfl⟩
     (repeat refine AWP.seq ?_)
     refine AWP.region_last hcall rfl fun K hK => ?_
     simp [t11, t12]
     apply hK; clear hK K; simp only [onNormal, onExit]
     (repeat refine AWP.seq ?_); refine AWP.cond (b := false) (by simp) ?_; simp only [if_true, if_false, Bool.false_eq_true]
     refine AWP.exit ?_; simp only [onNormal, onExit, if_true, reduceCtorEq, if_false]
     (repeat refine AWP.seq ?_)
     refine AWP.region_last hcall rfl fun K hK => ?_
     simp [t5]
     apply hK; clear hK K; simp only [onNormal, onExit]
     (try refine AWP.ret ?_); (try simp only [onNormal, onExit]); refine ⟨by simp, ⟨_, rfl, by simp [ares1, IntKind.wrap_i64]⟩, fun k row hk => ?_⟩
     exact hk
    ·rename_i hgood
     have he : e = 0 := by
      by_cases h : e = 0
      ·exact h
      ·exact absurd (.inl h) hgood
     have hlt : n <= len := by
      by_cases h : n <= len
      ·exact h
      ·exact absurd (.inr (by omega)) hgood
     subst he
     split at h
     ·rename_i l hb
      cases h
      have hcl : cells.take n = bs l := bytesA_some hb
      have hll : l.length = n := by
       have := congrArg List.length hcl
       simp at this; omega
      refine sim_go Tryz.func290 rfl rfl (Nat.le_of_ble_eq_true rfl) fun hH => ?_
      (repeat refine AWP.seq ?_)
      refine AWP.region_last hcall rfl fun K hK => ?_
      simp
      apply hK; clear hK K; simp only [onNormal, onExit]
      (repeat refine AWP.seq ?_)
      refine AWP.region_last hcall rfl fun K hK => ?_
      simp
      apply hK; clear hK K; simp only [onNormal, onExit]
      have ht : takeS [.ptr q 0, vi n] ((2 + 2) :: nm) H = some (.im true n (bs l), upd H q (some (rdr (len - n) (cells.drop n) 0))) := by
       simp only [takeS, hq]
       rw [if_pos ⟨by omega, hl⟩, if_neg (by omega)]
       simp [hcl]
      (repeat refine AWP.seq ?_)
      refine AWP.region_last hcall rfl fun K hK => ?_
      simp [ht]
      apply hK; clear hK K; simp only [onNormal, onExit]
      (repeat refine AWP.seq ?_); refine AWP.block ?_
      refine AWP.loop (fun m _ T H1 => ∃ i, i <= n /\ m = n - i /\ T 10 = .im true n (bs l) /\ T 11 = vi n /\ T 12 = vi i /\ T 5 = .val (.int .u64 (le (l.take i))) /\ H1 = upd H q (some (rdr (len - n) (cells.drop n) 0))) n ⟨0, by omega, by omega, by simp [le]⟩ ?_
      rintro _ c T H1 ⟨i, hi, rfl, t10, t11, t12, t5, rfl⟩
      by_cases hin : i < n
      ·(repeat refine AWP.seq ?_)
       refine AWP.region_last hcall rfl fun K hK => ?_
       simp [t11, t12]
       apply hK; clear hK K; simp only [onNormal, onExit]
       (repeat refine AWP.seq ?_); refine AWP.cond (b := true) (by simp [hin]) ?_; simp only [if_true, if_false, Bool.false_eq_true]
       refine AWP.skip ?_; simp only [onNormal, onExit]
       (repeat refine AWP.seq ?_); refine AWP.block ?_
       (repeat refine AWP.seq ?_)
       refine AWP.region_last hcall rfl fun K hK => ?_
       simp [t10, t11, t12, hin, hll]
       apply hK; clear hK K; simp only [onNormal, onExit]
       have hw : IntKind.i64.wrap (8 * (i : Int)) = 8 * i := by rw [IntKind.wrap_i64]; omega
       have hw2 : IntKind.i64.wrap ((i : Int) + 1) = ((i + 1 : Nat) : Int) := by rw [IntKind.wrap_i64]; omega
       have hx := (l[i]'(by omega)).toNat_lt
       have hw3 : IntKind.u64.wrap (((l[i]'(by omega)).toNat : Nat) : Int) = ((l[i]'(by omega)).toNat : Nat) := by rw [IntKind.wrap_u64]; omega
       have hz : ¬ (8 * (i : Int) < 0) := by omega
       have ho := or_u64' (le (l.take i)) (l[i]'(by omega)).toNat i (by omega) (by have := le_lt (l.take i); rwa [List.length_take, Nat.min_eq_left (by omega)] at this) hx
       have hs : le (l.take (i + 1)) = le (l.take i) + (l[i]'(by omega)).toNat * 256 ^ i := by
        rw [List.take_succ_eq_append_getElem (by omega), le_snoc, List.length_take, Nat.min_eq_left (by omega)]
       (repeat refine AWP.seq ?_)
       refine AWP.region_last hcall rfl fun K hK => ?_
       simp [t5, hw, hw3, hz]
       apply hK; clear hK K; simp only [onNormal, onExit]
       (repeat refine AWP.seq ?_)
       refine AWP.region_last hcall rfl fun K hK => ?_
       simp [t12, hw2]
       apply hK; clear hK K; simp only [onNormal, onExit]
       refine ⟨n - (i + 1), by omega, i + 1, by omega, rfl, by simp [t10], by simp [t11], by simp, ?_, by trivial⟩
       simp [hs, ho]
      ·have hin' : i = n := by omega
       subst hin'
       (repeat refine AWP.seq ?_)
       refine AWP.region_last hcall rfl fun K hK => ?_
       simp [t11, t12]
       apply hK; clear hK K; simp only [onNormal, onExit]
       (repeat refine AWP.seq ?_); refine AWP.cond (b := false) (by simp) ?_; simp only [if_true, if_false, Bool.false_eq_true]
       refine AWP.exit ?_; simp only [onNormal, onExit, if_true, reduceCtorEq, if_false]
       have hti : l.take i = l := List.take_of_length_le (by omega)
       (repeat refine AWP.seq ?_)
       refine AWP.region_last hcall rfl fun K hK => ?_
       simp [t5, hti]
       apply hK; clear hK K; simp only [onNormal, onExit]
       (try refine AWP.ret ?_); (try simp only [onNormal, onExit]); refine ⟨by simp, ⟨_, rfl, by simp [ares1]⟩, fun k row hk => ?_⟩
       exact hk
     ·cases h
   ·cases h
  ·cases h
 ·cases h
end Go.Proofs.YtbllpnjappddeaaGreat.Den
end
section
set_option linter.unusedSimpArgs false
set_option linter.unusedVariables false
set_option maxRecDepth 100000
namespace Go.Proofs.YtbllpnjappddeaaGreat.Den
open Go.RowKit
attribute [local simp] runList aop abuiltin acall awanted ayielded env T0 tput tset Ran aload astore setMany upd binV aslice aindexAddr apart aindex alen acopy srcCells natOf boundOf aeq AV.nilEq convV appK fillA List.range List.range.loop onF isU8 rowOf
def byteRS : Spec := fun args nm H =>
 match args with
 | [q] => numberS [q, vi 1] nm H
 | _ => none
def intRS : Spec := fun args nm H =>
 match args with
 | [q] => numberS [q, vi 8] nm H
 | _ => none
theorem numberS_nm (args : List AV) (nm nm' : Name) (H : AHeap) : numberS args nm H = numberS args nm' H := rfl
set_option maxHeartbeats 400000 in
theorem byteR_ok : FnOK Tryz.prog 206 byteRS := by
 refine ⟨by kernel_rfl, fun args nm H r H' h => ?_⟩
 unfold byteRS at h
 split at h
 ·rename_i q
  have hcall := onF_ok number_ok (@noCall_ok Tryz.prog)
  refine sim_go Tryz.func206 rfl rfl (Nat.le_of_ble_eq_true rfl) fun hH => ?_
  have ht := (numberS_nm [q, vi 1] ((1 + 1) :: nm) nm H).trans h
  (repeat refine AWP.seq ?_)
  refine AWP.region_last hcall rfl fun K hK => ?_
  simp
  apply hK; clear hK K; simp only [onNormal, onExit]
  (repeat refine AWP.seq ?_)
  refine AWP.region_last hcall rfl fun K hK => ?_
  simp [ht]
  apply hK; clear hK K; simp only [onNormal, onExit]
  (try refine AWP.ret ?_); (try simp only [onNormal, onExit]); refine ⟨by simp, ⟨_, rfl, by simp [ares1]⟩, fun k row hk => ?_⟩
  exact hk
 ·cases h
set_option maxHeartbeats 400000 in
theorem intR_ok : FnOK Tryz.prog 207 intRS := by
 refine ⟨by kernel_rfl, fun args nm H r H' h => ?_⟩
 unfold intRS at h
 split at h
 ·rename_i q
  have hcall := onF_ok number_ok (@noCall_ok Tryz.prog)
  refine sim_go Tryz.func207 rfl rfl (Nat.le_of_ble_eq_true rfl) fun hH => ?_
  have ht := (numberS_nm [q, vi 8] ((1 + 1) :: nm) nm H).trans h
  (repeat refine AWP.seq ?_)
  refine AWP.region_last hcall rfl fun K hK => ?_
  simp
  apply hK; clear hK K; simp only [onNormal, onExit]
  (repeat refine AWP.seq ?_)
  refine AWP.region_last hcall rfl fun K hK => ?_
  simp [ht]
  apply hK; clear hK K; simp only [onNormal, onExit]
  (try refine AWP.ret ?_); (try simp only [onNormal, onExit]); refine ⟨by simp, ⟨_, rfl, by simp [ares1]⟩, fun k row hk => ?_⟩
  exact hk
 ·cases h
/-- Bytes as a text. -/
def textOf : AV -> Option AV
 | .val (.slice none _ _) => some (.val (.string .empty))
 | .im _ len cells => if cells.length = len then (bytesA cells).map fun l => .val (.string ⟨l.toArray⟩) else none
 | _ => none
def textRS : Spec := fun args nm H =>
 match args with
 | [.ptr q 0] =>
  match numberS [.ptr q 0, vi 2] nm H with
  | some (n, H1) =>
   match takeS [.ptr q 0, n] nm H1 with
   | some (x, H2) => (textOf x).map (·, H2)
   | none => none
  | none => none
 | _ => none
set_option maxHeartbeats 400000 in
theorem textR_ok : FnOK Tryz.prog 209 textRS := by
 refine ⟨by kernel_rfl, fun args nm H r H' h => ?_⟩
 unfold textRS at h
 split at h
 ·rename_i q
  split at h
  ·rename_i n H1 h1
   split at h
   ·rename_i x H2 h2
    simp only [Option.map_eq_some_iff] at h
    obtain ⟨z, h3, h4⟩ := h
    cases h4
    have hcall := onF_ok number_ok (onF_ok take_ok (@noCall_ok Tryz.prog))
    refine sim_go Tryz.func209 rfl rfl (Nat.le_of_ble_eq_true rfl) fun hH => ?_
    have g1 : ∀ m, numberS [.ptr q 0, vi 2] m H = some (n, H1) := fun m => h1
    have g2 : ∀ m, takeS [.ptr q 0, n] m H1 = some (x, H') := fun m => h2
    (repeat refine AWP.seq ?_)
    refine AWP.region_last hcall rfl fun K hK => ?_
    simp
    apply hK; clear hK K; simp only [onNormal, onExit]
    (repeat refine AWP.seq ?_)
    refine AWP.region_last hcall rfl fun K hK => ?_
    simp
    apply hK; clear hK K; simp only [onNormal, onExit]
    unfold textOf at h3
    split at h3
    ·cases h3
     (repeat refine AWP.seq ?_)
     refine AWP.region_last hcall rfl fun K hK => ?_
     simp [g1, g2]
     apply hK; clear hK K; simp only [onNormal, onExit]
     (try refine AWP.ret ?_); (try simp only [onNormal, onExit]); refine ⟨by simp, ⟨_, rfl, by simp [ares1]⟩, fun k row hk => ?_⟩
     exact hk
    ·rename_i m len cells
     split at h3
     ·rename_i hlen
      simp only [Option.map_eq_some_iff] at h3
      obtain ⟨l, h5, rfl⟩ := h3
      (repeat refine AWP.seq ?_)
      refine AWP.region_last hcall rfl fun K hK => ?_
      simp [g1, g2, hlen, h5]
      apply hK; clear hK K; simp only [onNormal, onExit]
      (try refine AWP.ret ?_); (try simp only [onNormal, onExit]); refine ⟨by simp, ⟨_, rfl, by simp [ares1]⟩, fun k row hk => ?_⟩
      exact hk
     ·cases h3
    ·cases h3
   ·cases h
  ·cases h
 ·cases h
def endRS : Spec := fun args nm H =>
 match args with
 | [.ptr q 0] =>
  match H q with
  | some [.im true len cells, .val (.int .i64 e)] => some (vi (if e = 0 /\ 0 < len then 9 else e), H)
  | _ => none
 | _ => none
set_option maxHeartbeats 400000 in
theorem endR_ok : FnOK Tryz.prog 157 endRS := by
 refine ⟨by kernel_rfl, fun args nm H r H' h => ?_⟩
 unfold endRS at h
 split at h
 ·rename_i q
  split at h
  ·rename_i len cells e hq
   cases h
   have hcall := @noCall_ok Tryz.prog
   refine sim_go Tryz.func157 rfl rfl (Nat.le_of_ble_eq_true rfl) fun hH => ?_
   (repeat refine AWP.seq ?_)
   refine AWP.region_last hcall rfl fun K hK => ?_
   simp
   apply hK; clear hK K; simp only [onNormal, onExit]
   by_cases he : e = 0
   ·subst he
    by_cases hl : 0 < len
    ·(repeat refine AWP.seq ?_)
     refine AWP.region_last hcall rfl fun K hK => ?_
     simp [hq, hl]
     apply hK; clear hK K; simp only [onNormal, onExit]
     (repeat refine AWP.seq ?_); refine AWP.cond (b := true) (by simp [hl]) ?_; simp only [if_true, if_false, Bool.false_eq_true]
     (repeat refine AWP.seq ?_)
     refine AWP.region_last hcall rfl fun K hK => ?_
     simp
     apply hK; clear hK K; simp only [onNormal, onExit]
     (try refine AWP.ret ?_); (try simp only [onNormal, onExit]); refine ⟨by simp, ⟨_, rfl, by simp [ares1, hl]⟩, fun k row hk => ?_⟩
     exact hk
    ·(repeat refine AWP.seq ?_)
     refine AWP.region_last hcall rfl fun K hK => ?_
     simp [hq, hl]
     apply hK; clear hK K; simp only [onNormal, onExit]
     (repeat refine AWP.seq ?_); refine AWP.cond (b := false) (by simp [hl]) ?_; simp only [if_true, if_false, Bool.false_eq_true]
     refine AWP.skip ?_; simp only [onNormal, onExit]
     (repeat refine AWP.seq ?_)
     refine AWP.region_last hcall rfl fun K hK => ?_
     simp [hq]
     apply hK; clear hK K; simp only [onNormal, onExit]
     (try refine AWP.ret ?_); (try simp only [onNormal, onExit]); refine ⟨by simp, ⟨_, rfl, by simp [ares1, hl]⟩, fun k row hk => ?_⟩
     exact hk
   ·(repeat refine AWP.seq ?_)
    refine AWP.region_last hcall rfl fun K hK => ?_
    simp [hq, he]
    apply hK; clear hK K; simp only [onNormal, onExit]
    (repeat refine AWP.seq ?_); refine AWP.cond (b := false) (by simp [he]) ?_; simp only [if_true, if_false, Bool.false_eq_true]
    refine AWP.skip ?_; simp only [onNormal, onExit]
    (repeat refine AWP.seq ?_)
    refine AWP.region_last hcall rfl fun K hK => ?_
    simp [hq]
    apply hK; clear hK K; simp only [onNormal, onExit]
    (try refine AWP.ret ?_); (try simp only [onNormal, onExit]); refine ⟨by simp, ⟨_, rfl, by simp [ares1, he]⟩, fun k row hk => ?_⟩
    exact hk
  ·cases h
 ·cases h
end Go.Proofs.YtbllpnjappddeaaGreat.Den
end
section
namespace Go.Proofs.YtbllpnjappddeaaGreat.Den
/-! ### a map from numbers -/
structure Nd (α β : Type) where
 v : Option α
 l : β
 r : β
def PT (α : Type) : Nat -> Type
 | 0 => Unit
 | d + 1 => Nd α (PT α d)
def PT.nil (α : Type) : (d : Nat) -> PT α d
 | 0 => ()
 | d + 1 => (⟨none, PT.nil α d, PT.nil α d⟩ : Nd α (PT α d))
/-- How a place is looked at, how it is written: made once for each place. -/
structure Ac (α β : Type) where
 g : β -> Option α
 p : β -> Option α -> β
def acc (α : Type) : (d : Nat) -> Nat -> Ac α (PT α d)
 | 0 => fun _ => ⟨fun _ => none, fun t _ => t⟩
 | d + 1 => fun n =>
  bif Nat.beq n 0 then ⟨fun t : Nd α (PT α d) => t.v, fun (t : Nd α (PT α d)) a => Nd.casesOn (motive := fun _ => Option α -> Nd α (PT α d)) t (fun _ l r a => ⟨a, l, r⟩) a⟩
  else bif Nat.beq (Nat.mod n 2) 1 then ⟨fun t : Nd α (PT α d) => (acc α d (Nat.div n 2)).g t.l, fun (t : Nd α (PT α d)) a => Nd.casesOn (motive := fun _ => Option α -> Nd α (PT α d)) t (fun v l r a => ⟨v, (acc α d (Nat.div n 2)).p l a, r⟩) a⟩
  else ⟨fun t : Nd α (PT α d) => (acc α d (Nat.sub (Nat.div n 2) 1)).g t.r, fun (t : Nd α (PT α d)) a => Nd.casesOn (motive := fun _ => Option α -> Nd α (PT α d)) t (fun v l r a => ⟨v, l, (acc α d (Nat.sub (Nat.div n 2) 1)).p r a⟩) a⟩
def Tr (α : Type) : Type := PT α 60
def Tr.nil {α : Type} : Tr α := PT.nil α 60
def Tr.get {α : Type} (t : Tr α) (n : Nat) : Option α := (acc α 60 n).g t
def Tr.put {α : Type} (t : Tr α) (n : Nat) (a : α) : Tr α := (acc α 60 n).p t (some a)
def Tr.del {α : Type} (t : Tr α) (n : Nat) : Tr α := (acc α 60 n).p t none
/-! ### whole numbers, with some unknown -/
inductive IE where
 | lit (n : Int)
 | var (i : Nat)
 | byte (i : Nat)
 | bin (op : BinOp) (k : IntKind) (a b : IE)
 | wrap (k : IntKind) (a : IE)
 | fn (f : Nat) (args : List IE) (i : Nat)
inductive SV where
 | int (k : IntKind) (e : IE)
 | bool (b : Bool)
 | str (l : List IE)
 | val (v : Value)
 | ptr (n off : Nat)
 | imp (m : Bool) (cells : List SV) (off : Nat)
 | sl (n off len sz : Nat)
 | im (m : Bool) (len : Nat) (cells : List SV)
 | agg (cells : List SV)
 | tup (vs : List SV)
 | fn (f : Fn) (first captured : List SV)
instance : Inhabited SV := ⟨.val (.tuple #[])⟩
structure Mem where
 next : Nat
 m : Tr (List SV)
def Mem.get (h : Mem) (n : Nat) : Option (List SV) := h.m.get n
def Mem.push (h : Mem) (row : List SV) : Mem := ⟨h.next + 1, h.m.put h.next row⟩
def Mem.set (h : Mem) (n : Nat) (row : List SV) : Mem := ⟨h.next, h.m.put n row⟩
def Mem.drop (h : Mem) (n : Nat) : Mem := ⟨h.next, h.m.del n⟩
/-! ### numbers are forced, so that no long terms come to be -/
def forceN {α : Type} (n : Nat) (k : Nat -> α) : α :=
 match Nat.add n 1 with
 | 0 => k 0
 | m + 1 => k m
def forceI {α : Type} (n : Int) (k : Int -> α) : α :=
 match n with
 | .ofNat n => forceN n fun n => k (.ofNat n)
 | .negSucc n => forceN n fun n => k (.negSucc n)
theorem forceN_eq {α : Type} (n : Nat) (k : Nat -> α) : forceN n k = k n := rfl
theorem forceI_eq {α : Type} (n : Int) (k : Int -> α) : forceI n k = k n := by cases n <;> simp [forceI, forceN_eq]
def arI (op : BinOp) (k : IntKind) (x y : Int) : Option Int :=
 match op with
 | .add => some (k.wrap (x + y))
 | .sub => some (k.wrap (x - y))
 | .mul => some (k.wrap (x * y))
 | .quo => if y ≠ 0 then some (k.wrap (x.tdiv y)) else none
 | .rem => if y ≠ 0 then some (x.tmod y) else none
 | .and => some (k.wrap ((BitVec.ofInt k.bits x &&& BitVec.ofInt k.bits y).toNat))
 | .or => some (k.wrap ((BitVec.ofInt k.bits x ||| BitVec.ofInt k.bits y).toNat))
 | .xor => some (k.wrap ((BitVec.ofInt k.bits x ^^^ BitVec.ofInt k.bits y).toNat))
 | .shl => if 0 <= y then some (k.wrap (x * 2 ^ min y.toNat k.bits)) else none
 | .shr => if 0 <= y then some (x.fdiv (2 ^ min y.toNat k.bits)) else none
 | _ => none
def cmpI (op : BinOp) (x y : Int) : Option Bool :=
 match op with
 | .eql => some (x == y)
 | .neq => some (x != y)
 | .lss => some (decide (x < y))
 | .leq => some (decide (x <= y))
 | .gtr => some (decide (x > y))
 | .geq => some (decide (x ≥ y))
 | _ => none
def isSh : BinOp -> Bool
 | .shl | .shr => true
 | _ => false
mutual
def IE.beq : IE -> IE -> Bool
 | .lit a, .lit b => decide (a = b)
 | .var i, .var j => Nat.beq i j
 | .byte i, .byte j => Nat.beq i j
 | .bin op k a b, .bin op' k' a' b' => decide (op = op') && decide (k = k') && IE.beq a a' && IE.beq b b'
 | .wrap k a, .wrap k' a' => decide (k = k') && IE.beq a a'
 | .fn f l i, .fn f' l' i' => Nat.beq f f' && Nat.beq i i' && IE.beqs l l'
 | _, _ => false
def IE.beqs : List IE -> List IE -> Bool
 | [], [] => true
 | a :: l, b :: r => IE.beq a b && IE.beqs l r
 | _, _ => false
end
/-- What is known: of two numbers, how a comparison ends. -/
structure Fact where
 op : BinOp
 a : IE
 b : IE
 r : Bool
def lookF (Γ : List Fact) (op : BinOp) (a b : IE) : Option Bool :=
 match Γ with
 | [] => none
 | x :: r => bif decide (x.op = op) && IE.beq x.a a && IE.beq x.b b then some x.r else lookF r op a b
def cmpE (Γ : List Fact) (op : BinOp) (a b : IE) : Option Bool :=
 match a, b with
 | .lit x, .lit y => cmpI op x y
 | a, b =>
  match lookF Γ op a b with
  | some r => some r
  | none => bif IE.beq a b then (match op with
   | .eql | .leq | .geq => some true
   | .neq | .lss | .gtr => some false
   | _ => none) else none
/-- Is it a byte, whatever is unknown? -/
def IE.isByte : IE -> Bool
 | .lit n => decide (0 <= n) && decide (n < 256)
 | .byte _ => true
 | .wrap .u8 _ => true
 | .fn _ _ _ => true
 | _ => false
def wrapE (k : IntKind) (a : IE) : IE :=
 match a with
 | .lit x => forceI (k.wrap x) fun z => .lit z
 | a => bif a.isByte && (match k with | .i64 | .u64 | .u8 | .u32 | .i32 => true | _ => false) then a else .wrap k a
def binE (op : BinOp) (k : IntKind) (a b : IE) : Option IE :=
 match a, b with
 | .lit x, .lit y =>
  match arI op k x y with
  | some z => some (forceI z fun z => .lit z)
  | none => none
 | a, .lit y =>
  match op with
  | .add | .sub | .mul | .and | .or | .xor => some (.bin op k a (.lit y))
  | .quo | .rem => bif decide (y = 0) then none else some (.bin op k a (.lit y))
  | .shl | .shr => bif decide (0 <= y) then some (.bin op k a (.lit y)) else none
  | _ => none
 | a, b =>
  match op with
  | .add | .sub | .mul | .and | .or | .xor => some (.bin op k a b)
  | _ => none
/-! ### values -/
def ofConst : Value -> SV
 | .int k n => .int k (.lit n)
 | .bool b => .bool b
 | .string s => .str (s.data.toList.map fun b => .lit b.toNat)
 | v => .val v
def SV.cells : SV -> List SV
 | .agg l => l
 | .val v => v.cells.toList.map ofConst
 | a => [a]
def SV.one : SV -> Bool
 | .agg _ | .tup _ => false
 | .val v => v.oneCell'
 | _ => true
def sNat : SV -> Option Nat
 | .int _ (.lit n) => match n with
  | .ofNat n => some n
  | .negSucc _ => none
 | _ => none
def vBeq : Value -> Value -> Bool
 | .pointer none, .pointer none => true
 | .slice none a b, .slice none c d => Nat.beq a c && Nat.beq b d
 | .tuple ⟨[]⟩, .tuple ⟨[]⟩ => true
 | .float k a, .float k' b => decide (k = k') && decide (a = b)
 | .complex k a b, .complex k' c d => decide (k = k') && decide (a = c) && decide (b = d)
 | .nilFunc, .nilFunc => true
 | _, _ => false
mutual
def SV.beq : SV -> SV -> Bool
 | .int k a, .int k' b => decide (k = k') && IE.beq a b
 | .bool a, .bool b => a == b
 | .str a, .str b => IE.beqs a b
 | .val a, .val b => vBeq a b
 | .ptr n o, .ptr n' o' => Nat.beq n n' && Nat.beq o o'
 | .imp m c o, .imp m' c' o' => (m == m') && Nat.beq o o' && SV.beqs c c'
 | .sl a b c d, .sl a' b' c' d' => Nat.beq a a' && Nat.beq b b' && Nat.beq c c' && Nat.beq d d'
 | .im m l c, .im m' l' c' => (m == m') && Nat.beq l l' && SV.beqs c c'
 | .agg a, .agg b => SV.beqs a b
 | .tup a, .tup b => SV.beqs a b
 | .fn f a b, .fn f' a' b' => (match f, f' with | .func i, .func j => Nat.beq i j | _, _ => false) && SV.beqs a a' && SV.beqs b b'
 | _, _ => false
def SV.beqs : List SV -> List SV -> Bool
 | [], [] => true
 | a :: l, b :: r => SV.beq a b && SV.beqs l r
 | _, _ => false
end
/-! ### pieces of rows -/
def sset (off : Nat) (vs row : List SV) : Option (List SV) :=
 match off with
 | 0 => ins vs row
 | n + 1 =>
  match row with
  | [] => none
  | x :: r => (sset n vs r).map (x :: ·)
where ins : List SV -> List SV -> Option (List SV)
 | [], r => some r
 | v :: vs, _ :: r => (ins vs r).map (v :: ·)
 | _ :: _, [] => none
/-- Just so many cells from a place on. -/
def scut (n : Nat) (l : List SV) : Option (List SV) :=
 match n with
 | 0 => some []
 | n + 1 =>
  match l with
  | [] => none
  | x :: r => (scut n r).map (x :: ·)
def sdrop (n : Nat) (l : List SV) : Option (List SV) :=
 match n with
 | 0 => some l
 | n + 1 =>
  match l with
  | [] => none
  | _ :: r => sdrop n r
def sseg (off n : Nat) (l : List SV) : Option (List SV) := (sdrop off l).bind (scut n)
abbrev SEnv := Operand -> SV
def senv (T : Tr SV) : SEnv
 | .tmp t => (T.get t).getD (.val undef)
 | .const v => ofConst v
 | .global g => .val (.pointer (some ⟨g, 0, none⟩))
 | .func f => .fn (.func f) [] []
def sload (P : Program) (t : TypeId) (a : SV) (h : Mem) : Option SV :=
 match a, aggB P t, szOf P t with
 | .ptr n off, some true, some size => (h.get n).bind fun row => (sseg off size row).map .agg
 | .ptr n off, some false, some _ => (h.get n).bind fun row => row[off]?
 | .imp _ cells off, some true, some size => (sseg off size cells).map .agg
 | .imp _ cells off, some false, some _ => cells[off]?
 | _, _, _ => none
def sstore (P : Program) (t : TypeId) (a x : SV) (h : Mem) : Option Mem :=
 match a with
 | .ptr n off =>
  bif decide (szOf P t = some x.cells.length) && x.cells.all SV.one then
   (h.get n).bind fun row => (sset off x.cells row).map fun row' => h.set n row'
  else none
 | _ => none
def sbound (d : Nat) : Option SV -> Option Nat
 | none => some d
 | some v => sNat v
def sslice (P : Program) (t : TypeId) (x : SV) (lo hi : Option SV) : Option SV :=
 match x with
 | .str s =>
  match sbound 0 lo, sbound s.length hi, P.underlying t with
  | some l, some h, some .string => bif Nat.ble l h && Nat.ble h s.length then some (.str ((s.drop l).take (h - l))) else none
  | _, _, _ => none
 | .val (.slice none 0 0) =>
  match sbound 0 lo, sbound 0 hi, P.underlying t with
  | some 0, some 0, some (.slice e) => bif (szOf P e).isSome then some (.val (.slice none 0 0)) else none
  | _, _, _ => none
 | .sl n off len sz =>
  match sbound 0 lo, sbound len hi, P.underlying t with
  | some l, some h, some (.slice e) =>
   bif decide (szOf P e = some sz) && Nat.ble l h && Nat.ble h len then (bif Nat.beq l 0 then some (.sl n off h sz) else bif Nat.beq l h then some (.im true 0 []) else forceN (off + l * sz) fun o => forceN (h - l) fun k => some (.sl n o k sz)) else none
  | _, _, _ => none
 | .im m len cells =>
  match sbound 0 lo, sbound len hi, P.underlying t with
  | some l, some h, some (.slice e) =>
   match szOf P e with
   | some sz => bif Nat.ble l h && Nat.ble h len && Nat.beq cells.length (len * sz) then (bif Nat.beq l h then some (.im m 0 []) else forceN (h - l) fun k => some (.im m k ((cells.drop (l * sz)).take ((h - l) * sz)))) else none
   | none => none
  | _, _, _ => none
 | _ => none
def sindexAddr (P : Program) (t : TypeId) (x i : SV) : Option SV :=
 match sNat i, x, P.underlying t with
 | some i, .sl n off len sz, some (.slice e) => bif decide (szOf P e = some sz) && Nat.blt i len then forceN (off + i * sz) fun o => some (.ptr n o) else none
 | some i, .im m len cells, some (.slice e) => (szOf P e).bind fun sz => bif Nat.blt i len && Nat.beq cells.length (len * sz) then forceN (i * sz) fun o => some (.imp m cells o) else none
 | some i, .ptr n off, some (.array len e) => (szOf P e).bind fun sz => bif Nat.blt i len then forceN (off + i * sz) fun o => some (.ptr n o) else none
 | some i, .imp m cells off, some (.array len e) => (szOf P e).bind fun sz => bif Nat.blt i len then forceN (off + i * sz) fun o => some (.imp m cells o) else none
 | _, _, _ => none
def sfieldAddr (P : Program) (s : TypeId) (x : SV) (f : Nat) : Option SV :=
 match P.underlying s with
 | some (.struct fs) =>
  (fs[f]?).bind fun fl => (szOf P fl.type).bind fun sz =>
   bif Nat.beq sz 0 then none else
   match x with
   | .ptr n off => forceN (off + fl.offset) fun o => some (.ptr n o)
   | .imp m cells off => forceN (off + fl.offset) fun o => some (.imp m cells o)
   | _ => none
 | _ => none
def spart (P : Program) (t : TypeId) (l : List SV) (off : Nat) : Option SV :=
 match aggB P t, szOf P t with
 | some true, some size => (sseg off size l).map .agg
 | some false, some _ => l[off]?
 | _, _ => none
def sindex (P : Program) (t : TypeId) (x i : SV) : Option SV :=
 match sNat i, x, P.underlying t with
 | some i, .agg l, some (.array len e) => (szOf P e).bind fun sz => bif Nat.blt i len then spart P e l (i * sz) else none
 | some i, .str s, some .string => (s[i]?).bind fun b => bif b.isByte then some (.int .u8 b) else none
 | _, _, _ => none
def slen (P : Program) (t : TypeId) (x : SV) : Option SV :=
 match P.underlying t, x with
 | some (.array n _), _ => some (.int .i64 (.lit n))
 | some .string, .str s => forceN s.length fun n => some (.int .i64 (.lit n))
 | some (.slice _), .val (.slice _ n _) => some (.int .i64 (.lit n))
 | some (.slice _), .sl _ _ len _ => some (.int .i64 (.lit len))
 | some (.slice _), .im _ len _ => some (.int .i64 (.lit len))
 | some (.pointer p), _ =>
  match P.underlying p with
  | some (.array n _) => some (.int .i64 (.lit n))
  | _ => none
 | _, _ => none
def ssrc (h : Mem) (size : Nat) : SV -> Option (Nat × List SV)
 | .val (.slice _ 0 _) => some (0, [])
 | .str s => bif Nat.beq size 1 && s.all IE.isByte then some (s.length, s.map fun b => .int .u8 b) else none
 | .sl n off len sz => bif Nat.beq sz size then (h.get n).bind fun row => (sseg off (len * size) row).map fun l => (len, l) else none
 | .im _ len cells => bif Nat.beq cells.length (len * size) then some (len, cells) else none
 | _ => none
def sappend (P : Program) (t xt : TypeId) (s x : SV) (h : Mem) : Option (SV × Mem) :=
 match P.underlying t, P.underlying xt with
 | some (.slice e), some d =>
  match P.info? e with
  | some i =>
   match i.zero, ssrc h i.size x with
   | some z, some (k, new) =>
    bif seqD d && Nat.beq z.cells.size i.size && new.all SV.one && Nat.beq new.length (k * i.size) then
     match s with
     | .val (.slice none 0 0) => bif Nat.beq k 0 then some (.val (.slice none 0 0), h) else bif Nat.ble (k * i.bytes) 140737488355328 && Nat.ble k 140737488355328 then forceN k fun k => some (.sl h.next 0 k i.size, h.push new) else none
     | .sl n off len sz =>
      (h.get n).bind fun row => (sseg off (len * sz) row).bind fun old =>
       bif Nat.beq sz i.size && Nat.ble ((len + k) * i.bytes) 140737488355328 && Nat.ble (len + k) 140737488355328 then
        forceN (len + k) fun nk => some (.sl h.next 0 nk sz, (h.drop n).push (old ++ new))
       else none
     | .im m len cells => bif Nat.beq k 0 then some (.im m len cells, h) else none
     | _ => none
    else none
   | _, _ => none
  | none => none
 | _, _ => none
def scopy (P : Program) (t : TypeId) (d x : SV) (h : Mem) : Option (SV × Mem) :=
 match P.underlying t, d with
 | some (.slice e), .sl n off len sz =>
  match szOf P e, h.get n, ssrc h sz x with
  | some s, some row, some (k, new) =>
   bif Nat.beq s sz && Nat.beq new.length (k * sz) && new.all SV.one then
    (sset off (new.take (min k len * sz)) row).map fun row' => (.int .i64 (.lit (min k len : Nat)), h.set n row')
   else none
  | _, _, _ => none
 | _, _ => none
/-- How two floats, or parts of complex numbers, stand. -/
def sbinV (op : BinOp) (u v : Value) : Option SV := (binV op u v).map ofConst
def sbin (Γ : List Fact) (op : BinOp) (a b : SV) : Option SV :=
 match a, b with
 | .int k x, .int k' y =>
  bif isSh op || decide (k = k') then
   match op with
   | .eql | .neq | .lss | .leq | .gtr | .geq => (cmpE Γ op x y).map .bool
   | _ => (binE op k x y).map (.int k)
  else none
 | .str x, .str y =>
  match op with
  | .add => bif Nat.ble (x.length + y.length) 140737488355328 then some (.str (x ++ y)) else none
  | _ => none
 | .val u, .val v => sbinV op u v
 | _, _ => none
/-- Two lists of numbers: the same, for certain, or not. -/
def eqEs (Γ : List Fact) : List IE -> List IE -> Option Bool
 | [], [] => some true
 | [], _ :: _ => some false
 | _ :: _, [] => some false
 | a :: l, b :: r =>
  match cmpE Γ .eql a b with
  | some true => eqEs Γ l r
  | some false => some false
  | none => none
def SV.nilEq : SV -> Value -> Option TypeDesc -> Option Bool
 | .ptr _ _, .pointer none, some (.pointer _) => some false
 | .imp _ _ _, .pointer none, some (.pointer _) => some false
 | .sl _ _ _ _, .slice none 0 0, some (.slice _) => some false
 | .im _ (_ + 1) _, .slice none 0 0, some (.slice _) => some false
 | .fn _ _ _, .nilFunc, some (.func _ _ _) => some false
 | _, _, _ => none
end Go.Proofs.YtbllpnjappddeaaGreat.Den
end
section
namespace Go.Proofs.YtbllpnjappddeaaGreat.Den
abbrev SRes := Option (SV × Mem)
abbrev SCall := FuncId -> List SV -> Mem -> SRes
def litStr : List IE -> Option (List UInt8)
 | [] => some []
 | .lit n :: r => bif decide (0 <= n) && decide (n < 256) then (litStr r).map (UInt8.ofNat n.toNat :: ·) else none
 | _ => none
def litCells : List SV -> Option (List Value)
 | [] => some []
 | .int k (.lit n) :: r => (litCells r).map (.int k n :: ·)
 | .bool b :: r => (litCells r).map (.bool b :: ·)
 | .str l :: r => (litStr l).bind fun s => (litCells r).map (.string ⟨s.toArray⟩ :: ·)
 | .val v :: r => (litCells r).map (v :: ·)
 | _ => none
def SV.toVal? : SV -> Option Value
 | .int k (.lit n) => some (.int k n)
 | .bool b => some (.bool b)
 | .str l => (litStr l).map fun s => .string ⟨s.toArray⟩
 | .val v => some v
 | .agg l => (litCells l).map fun vs => .agg vs.toArray
 | _ => none
def sbytes : List SV -> Option (List IE)
 | [] => some []
 | .int .u8 e :: r => bif e.isByte then (sbytes r).map (e :: ·) else none
 | _ => none
/-- An array of so many bytes. -/
def u8arr (P : Program) (t : TypeId) (n : Nat) : Bool :=
 match P.underlying t with
 | some (.array m e) => Nat.beq m n && isU8 (P.underlying e) && (match szOf P e with | some k => Nat.beq k 1 | none => false) && !P.eqGuardType P.depth t
 | _ => false
def seq (Γ : List Fact) (P : Program) (neg : Bool) (t : TypeId) (x y : Operand) (a b : SV) : Option SV :=
 match a, b with
 | .int k u, .int k' v => bif decide (k = k') then (cmpE Γ (bif neg then .neq else .eql) u v).map .bool else none
 | .str u, .str v => bif u.all IE.isByte && v.all IE.isByte then (eqEs Γ u v).map fun r => .bool (r != neg) else none
 | .bool u, .bool v => (peek P (do eqGuard (if neg then .neq else .eql) t x y (.bool u) (.bool v); binOp (if neg then .neq else .eql) t (.bool u) (.bool v))).map ofConst
 | .val u, .val v =>
  match binV (if neg then .neq else .eql) u v with
  | some r => some (ofConst r)
  | none => (peek P (do eqGuard (if neg then .neq else .eql) t x y u v; binOp (if neg then .neq else .eql) t u v)).map ofConst
 | .agg l, .agg l' =>
  match a.toVal?, b.toVal? with
  | some u, some v => (peek P (do eqGuard (if neg then .neq else .eql) t x y u v; binOp (if neg then .neq else .eql) t u v)).map ofConst
  | _, _ => bif u8arr P t l.length && Nat.beq l.length l'.length then (match sbytes l, sbytes l' with
   | some u, some v => (eqEs Γ u v).map fun r => .bool (r != neg)
   | _, _ => none) else none
 | a, .val v => (a.nilEq v (P.underlying t)).map fun r => .bool (r != neg)
 | _, _ => none
def sfill (place : Nat -> Option (Nat × Nat)) : List SV -> List (Nat × SV) -> Option (List SV)
 | cells, [] => some cells
 | cells, (i, v) :: rest =>
  match place i with
  | none => none
  | some (off, size) => bif Nat.beq v.cells.length size then (sset off v.cells cells).bind fun c => sfill place c rest else none
def szeros (P : Program) (t : TypeId) : Option (List SV) := (zeroOf P t).map fun z => z.cells.toList.map ofConst
def srow (zero : List SV) : Nat -> List SV
 | 0 => []
 | n + 1 => zero ++ srow zero n
def sbuiltin (P : Program) (b : Builtin) (ts : Array TypeId) (args : List SV) (h : Mem) : SRes :=
 match b, args with
 | .len, [x] => (ts[0]?).bind fun t => (slen P t x).map (·, h)
 | .append, [s, x] => (ts[0]?).bind fun t => (ts[1]?).bind fun xt => sappend P t xt s x h
 | .copy, [d, x] => (ts[0]?).bind fun t => scopy P t d x h
 | .min, [.int k (.lit x), .int _ (.lit y)] => some (.int k (.lit (bif decide (y < x) then y else x)), h)
 | .max, [.int k (.lit x), .int _ (.lit y)] => some (.int k (.lit (bif decide (x < y) then y else x)), h)
 | .complex, [.val (.float k a), .val (.float k' b)] => bif decide (k = k') then some (.val (.complex k a b), h) else none
 | .real, [.val (.complex k a _)] => some (.val (.float k a), h)
 | .imag, [.val (.complex k _ b)] => some (.val (.float k b), h)
 | _, _ => none
def sconv (P : Program) (src dst : TypeId) (x : SV) (h : Mem) : SRes :=
 match x with
 | .str s =>
  match P.underlying src, P.underlying dst with
  | some .string, some (.slice e) => bif isU8 (P.underlying e) && s.all IE.isByte then some (.im true s.length (s.map fun b => .int .u8 b), h) else none
  | some .string, some .string => some (.str s, h)
  | _, _ => none
 | .int k e =>
  match P.underlying src, P.underlying dst with
  | some _, some (.int k') => some (.int k' (wrapE k' e), h)
  | some _, some (.float _) =>
   match e with
   | .lit n => (convV P src dst (.int k n)).map fun v => (ofConst v, h)
   | _ => none
  | _, _ => none
 | .val (.slice none _ _) =>
  match P.underlying src, P.underlying dst with
  | some (.slice e), some .string => bif isU8 (P.underlying e) then some (.str [], h) else none
  | _, _ => none
 | .val (.float k b) => (convV P src dst (.float k b)).map fun v => (ofConst v, h)
 | .sl n off len sz =>
  match P.underlying src, P.underlying dst with
  | some (.slice e), some .string => bif isU8 (P.underlying e) then (ssrc h 1 (.sl n off len sz)).bind fun (_, cells) => (sbytes cells).map fun l => (.str l, h) else none
  | some (.slice _), some (.slice e) => bif decide (src = dst) && isU8 (P.underlying e) then (h.get n).bind fun row => (sseg off (len * sz) row).map fun l => (.im true len l, h.drop n) else none
  | _, _ => none
 | .im m len c =>
  match P.underlying src, P.underlying dst with
  | some (.slice e), some .string => bif isU8 (P.underlying e) then (ssrc h 1 (.im m len c)).bind fun (_, cells) => (sbytes cells).map fun l => (.str l, h) else none
  | _, _ => none
 | _ => none
def sop (Γ : List Fact) (P : Program) (call : SCall) (o : Oper) (ρ : SEnv) (h : Mem) : SRes :=
 match o.op with
 | .move x | .assign x => some (ρ x, h)
 | .pick c a b =>
  match ρ c with
  | .bool t => some (bif t then ρ a else ρ b, h)
  | _ => none
 | .alloc e => (szeros P e).map fun z => (.ptr h.next 0, h.push z)
 | .box _ x => some (.ptr h.next 0, h.push (ρ x).cells)
 | .build t parts =>
  match szeros P t, P.underlying t with
  | some z, some (.struct fs) => (places P fs.toList).bind fun ps => (sfill (ps[·]?) z (parts.toList.map fun (i, x) => (i, ρ x))).map fun l => (.agg l, h)
  | some z, some (.array _ e) => (szOf P e).bind fun s => (sfill (fun i => some (i * s, s)) z (parts.toList.map fun (i, x) => (i, ρ x))).map fun l => (.agg l, h)
  | _, _ => none
 | .buildSlice t len parts =>
  match P.underlying t with
  | some (.slice e) =>
   match szOf P e, szeros P e with
   | some s, some z =>
    bif Nat.beq z.length s && !Nat.beq s 0 && Nat.ble (len * s) 16777216 then
     (sfill (fun i => some (i * s, s)) (srow z len) (parts.toList.map fun (i, x) => (i, ρ x))).map fun l => (.sl h.next 0 len s, h.push l)
    else none
   | _, _ => none
  | _ => none
 | .load t a => (sload P t (ρ a) h).map (·, h)
 | .store t a x => (sstore P t (ρ a) (ρ x) h).map (.val undef, ·)
 | .nilCheck x =>
  match ρ x with
  | .ptr n off => some (.ptr n off, h)
  | .imp m c off => some (.imp m c off, h)
  | .fn (.func f) a b => some (.fn (.func f) a b, h)
  | _ => none
 | .binOp .eql t x y _ => (seq Γ P false t x y (ρ x) (ρ y)).map (·, h)
 | .binOp .neq t x y _ => (seq Γ P true t x y (ρ x) (ρ y)).map (·, h)
 | .binOp op _ x y _ => (sbin Γ op (ρ x) (ρ y)).map (·, h)
 | .unOp .not _ x =>
  match ρ x with
  | .bool b => some (.bool !b, h)
  | _ => none
 | .unOp .neg _ x =>
  match ρ x with
  | .int k (.lit n) => forceI (k.wrap (0 - n)) fun z => some (.int k (.lit z), h)
  | _ => none
 | .unOp .xor _ x =>
  match ρ x with
  | .int k (.lit n) => forceI (k.wrap ((BitVec.ofInt k.bits (if k.signed then -1 else k.max) ^^^ BitVec.ofInt k.bits n).toNat)) fun z => some (.int k (.lit z), h)
  | .int k e => some (.int k (.bin .xor k (.lit (if k.signed then -1 else k.max)) e), h)
  | _ => none
 | .convert src dst x => sconv P src dst (ρ x) h
 | .makeFunc fn first captured => some (.fn fn (first.toList.map ρ) (captured.toList.map ρ), h)
 | .makeSlice t l c =>
  match P.underlying t, sNat (ρ l), sNat (ρ c) with
  | some (.slice e), some l, some c =>
   match szOf P e, szeros P e, bytesOf' P e with
   | some s, some z, some by_ => bif Nat.beq z.length s && !Nat.beq s 0 && Nat.ble l c && Nat.ble c 281474976710656 && Nat.ble (by_ * c) 281474976710656 then some (.sl h.next 0 l s, h.push (srow z c)) else none
   | _, _, _ => none
  | _, _, _ => none
 | .slice t x lo hi none =>
  match ρ x with
  | .ptr n off =>
   match P.underlying t with
   | some (.array N e) =>
    match sbound 0 (lo.map ρ), sbound N (hi.map ρ), szOf P e with
    | some l, some k, some sz =>
     (h.get n).bind fun row => (sdrop (off + N * sz) row).bind fun _ => bif Nat.ble l k && Nat.ble k N && !Nat.beq sz 0 then (bif Nat.beq l k then some (.im true 0 [], h) else some (.sl n (off + l * sz) (k - l) sz, h)) else none
    | _, _, _ => none
   | _ => none
  | x => (sslice P t x (lo.map ρ) (hi.map ρ)).map (·, h)
 | .fieldAddr s x f => (sfieldAddr P s (ρ x) f).map (·, h)
 | .field t x f =>
  match P.underlying t, ρ x with
  | some (.struct fs), .agg l => (fs[f]?).bind fun fl => (spart P fl.type l fl.offset).map (·, h)
  | _, _ => none
 | .indexAddr t x i => (sindexAddr P t (ρ x) (ρ i)).map (·, h)
 | .index t x i => (sindex P t (ρ x) (ρ i)).map (·, h)
 | .extract x i =>
  match ρ x with
  | .tup l => (l[i]?).map (·, h)
  | _ => none
 | .call c =>
  match c.callee with
  | .builtin b => sbuiltin P b c.argTypes (c.args.toList.map ρ) h
  | .value f =>
   match ρ f with
   | .fn (.func f) first captured => call f (first ++ c.args.toList.map ρ ++ captured) h
   | _ => none
  | .invoke _ _ => none
 | _ => none
/-! ### regions -/
def sput (T : Tr SV) (d : Option Tmp) (v : SV) : Tr SV :=
 match d with
 | some i => T.put i v
 | none => T
/-- Is an operation done? (none: that is not known) -/
def swanted (ops : Array Oper) (o : Oper) (T : Tr SV) : Option Bool :=
 match o.guard with
 | none => some true
 | some (j, want) =>
  match (ops[j]?).bind (·.dst) with
  | some d =>
   match (T.get d).getD (.val undef) with
   | .bool b => some (b == want)
   | .val (.tuple _) => some false
   | _ => none
  | none => some false
/-- What is put off till the end: functions, each with its arguments; the last one first. -/
abbrev SLate := List (SV × List SV)
def sregion (Γ : List Fact) (P : Program) (call : SCall) (ops : Array Oper) : List Oper -> Tr SV -> Mem -> SLate -> Option (Tr SV × Mem × SLate)
 | [], T, h, D => some (T, h, D)
 | o :: r, T, h, D =>
  match o.op with
  | .defer c =>
   match c.callee, o.guard, o.dst with
   | .value f, none, none =>
    match senv T f with
    | .fn fn a b => sregion Γ P call ops r T h ((.fn fn a b, c.args.toList.map (senv T)) :: D)
    | _ => none
   | _, _, _ => none
  | _ =>
   match swanted ops o T with
   | some true =>
    match sop Γ P call o (senv T) h with
    | some (v, h') => sregion Γ P call ops r (sput T o.dst v) h' D
    | none => none
   | some false => sregion Γ P call ops r (sput T o.dst (.val undef)) h D
   | none => none
/-- An order for a region whose order is open. -/
def planOrder (ops : Array Oper) (ms : List Nat) : List Nat :=
 let n := ops.size
 let put (l : List Nat) (i : Nat) : List Nat := ((List.range n).filter fun j => (ms.getD i 0).testBit j && !l.contains j).foldl (fun l j => l ++ [j]) l
 let add (l : List Nat) (i : Nat) : List Nat := let l := put l i; if l.contains i then l else l ++ [i]
 let l := ((List.range n).filter fun i => isEAt ops i).foldl add []
 (List.range n).foldl add l
def planItems (ops : Array Oper) (ms : List Nat) : Nat -> List (Nat × Nat) -> List Nat -> List Item
 | _, _, [] => []
 | k, es, i :: r =>
  let e := isEAt ops i
  let look := match ops[i]? with | some o => !e && mayLook o | none => false
  let lo := es.foldl (fun m (p, j) => if (ms.getD i 0).testBit j then p else m) 0
  let chk := if look then ((0, 0) :: es).map (·.1) |>.filter (lo <= ·) else []
  ⟨i, e, chk⟩ :: planItems ops ms (k + 1) (if e then es ++ [(k + 1, i)] else es) r
def planMasks (ops : Array Oper) : List Nat := ops.toList.foldl (fun ms o => ms ++ [maskOf ms o]) []
def mkPlan (ops : Array Oper) : List Nat × List Item :=
 let ms := planMasks ops
 (ms, planItems ops ms 0 [] (planOrder ops ms))
/-- May it float past what acts, whatever the memory? -/
def noLook (o : Oper) (ρ : SEnv) : Bool :=
 match o.op with
 | .convert s d x =>
  !decide (s = d) && match ρ x with
  | .str _ => true
  | .int _ _ => true
  | .bool _ => true
  | .val _ => true
  | _ => false
 | .slice _ x _ _ _ =>
  match ρ x with
  | .ptr _ _ => false
  | _ => true
 | _ => false
/-- What is seen by an operation that looks at memory alone. -/
def slook (P : Program) (o : Oper) (ρ : SEnv) (h : Mem) : Option SV :=
 match o.op with
 | .load t a => sload P t (ρ a) h
 | .convert src dst x =>
  match ρ x with
  | .sl n off len sz => (sconv P src dst (.sl n off len sz) h).map (·.1)
  | .im m len c => (sconv P src dst (.im m len c) h).map (·.1)
  | _ => none
 | .slice _ x _ _ none =>
  match ρ x with
  | .ptr _ _ => (sop [] P (fun _ _ _ => none) o ρ h).map (·.1)
  | _ => none
 | _ => none
def schk (P : Program) (o : Oper) (ρ : SEnv) (v : SV) (Hs : List (Nat × Mem)) : List Nat -> Bool
 | [] => true
 | b :: r => (match Hs.lookup b with
  | some B => noLook o ρ || (match slook P o ρ B with
   | some u => SV.beq u v
   | none => false)
  | none => false) && schk P o ρ v Hs r
def sdraw (Γ : List Fact) (P : Program) (call : SCall) (ops : Array Oper) : Nat -> List Item -> Tr SV -> List (Nat × Mem) -> Mem -> Option (Tr SV × Mem)
 | _, [], T, _, h => some (T, h)
 | k, x :: r, T, Hs, h =>
  match ops[x.i]? with
  | none => none
  | some o =>
   match swanted ops o T with
   | some true =>
    match sop Γ P call o (senv T) h with
    | some (v, h') => bif schk P o (senv T) v Hs x.chk then sdraw Γ P call ops (k + 1) r (sput T o.dst v) (bif x.e then (k + 1, h') :: Hs else Hs) h' else none
    | none => none
   | some false => sdraw Γ P call ops (k + 1) r (sput T o.dst (.val undef)) (bif x.e then (k + 1, h) :: Hs else Hs) h
   | none => none
/-! ### code -/
abbrev CRes := Option (Exit × Tr SV × Mem × SLate)
/-- Behind a jump to a label: on, as often as it is jumped to. -/
def sjumps (run : Tr SV -> Mem -> SLate -> CRes) (l : Nat) : Nat -> CRes -> CRes
 | 0, _ => none
 | f + 1, r =>
  match r with
  | some (.goto l', T, h, D) => bif Nat.beq l' l then sjumps run l f (run T h D) else none
  | r => r
def srun (Γ : List Fact) (P : Program) (call : SCall) (n : Nat) : Nat -> Code -> Tr SV -> Mem -> SLate -> CRes
 | 0, _, _, _, _ => none
 | f + 1, c, T, h, D =>
  match c with
  | .skip => some (.normal, T, h, D)
  | .label _ => some (.normal, T, h, D)
  | .exit id => some (.exit id, T, h, D)
  | .goto l => some (.goto l, T, h, D)
  | .ret => some (.ret, T, h, D)
  | .region _ ops d =>
   bif dstOk n ops then
    bif d then
     match mkPlan ops with
     | (ms, pl) => bif P.follows .mixedOrders && planOK ops ms pl then (sdraw Γ P call ops 0 pl T [(0, h)] h).map fun (T, h) => (.normal, T, h, D) else none
    else (sregion Γ P call ops ops.toList T h D).map fun (T, h, D) => (.normal, T, h, D)
   else none
  | .seq x y =>
   match srun Γ P call n f x T h D with
   | some (.normal, T, h, D) => srun Γ P call n f y T h D
   | r => r
  | .cond x y z =>
   match senv T x with
   | .bool b => bif b then srun Γ P call n f y T h D else srun Γ P call n f z T h D
   | _ => none
  | .block id x =>
   match srun Γ P call n f x T h D with
   | some (.exit id', T, h, D) => bif Nat.beq id' id then some (.normal, T, h, D) else some (.exit id', T, h, D)
   | r => r
  | .loop x =>
   match srun Γ P call n f x T h D with
   | some (.normal, T, h, D) => srun Γ P call n f (.loop x) T h D
   | r => r
  | .scope x =>
   match srun Γ P call n f x T h D with
   | some (.goto l, T, h, D) =>
    match findLabel x l with
    | some rest => sjumps (srun Γ P call n f rest) l f (some (.goto l, T, h, D))
    | none => none
   | r => r
  | _ => none
def sres (P : Program) (T : Tr SV) (h : Mem) : List ResultVar -> Option (List SV)
 | [] => some []
 | .tmp t :: r => (sres P T h r).map ((T.get t).getD (.val undef) :: ·)
 | .cell a t :: r => (sload P t ((T.get a).getD (.val undef)) h).bind fun x => (sres P T h r).map (x :: ·)
def sres1 : List SV -> SV
 | [x] => x
 | l => .tup l
def sargs : Nat -> List SV -> Tr SV -> Tr SV
 | _, [], T => T
 | i, x :: r, T => sargs (i + 1) r (T.put i x)
/-- A function's body is run. -/
def sbody (Γ : List Fact) (P : Program) (F : Nat) (call : SCall) (f : FuncId) (args : List SV) (h : Mem) : Option (Func × Tr SV × Mem × SLate) :=
 match P.funcs[f]? with
 | none => none
 | some fn =>
  match fn.body with
  | none => none
  | some code =>
   bif isGo P f && Nat.ble args.length fn.ntmps && Nat.blt fn.ntmps 1000000 then
    match srun Γ P call fn.ntmps F code (sargs 0 args .nil) h [] with
    | some (.normal, T, h', D) => some (fn, T, h', D)
    | some (.ret, T, h', D) => some (fn, T, h', D)
    | _ => none
   else none
/-- A function that is called at the end of another one. -/
def sdef (Γ : List Fact) (P : Program) (F : Nat) (call : SCall) : SCall := fun f args h =>
 match sbody Γ P F call f args h with
 | some (fn, T, h', []) => (sres P T h' fn.results.toList).map fun l => (sres1 l, h')
 | _ => none
/-- What was put off is called. -/
def slast (call : SCall) : SLate -> Mem -> Option Mem
 | [], h => some h
 | (f, args) :: D, h =>
  match f with
  | .fn (.func f) a b =>
   match call f (a ++ args ++ b) h with
   | some (_, h') => slast call D h'
   | none => none
  | _ => none
def scall (Γ : List Fact) (P : Program) (F : Nat) (ovr : FuncId -> Option (List SV -> Mem -> SRes)) : Nat -> SCall
 | 0 => fun _ _ _ => none
 | d + 1 => fun f args h =>
  match ovr f with
  | some g => g args h
  | none =>
   match sbody Γ P F (scall Γ P F ovr d) f args h with
   | some (fn, T, h', D) => (slast (sdef Γ P F (scall Γ P F ovr d)) D h').bind fun h' => (sres P T h' fn.results.toList).map fun l => (sres1 l, h')
   | none => none
end Go.Proofs.YtbllpnjappddeaaGreat.Den
end
section
set_option linter.unusedSimpArgs false
namespace Go.Proofs.YtbllpnjappddeaaGreat.Den
theorem acc_odd {α : Type} {d n : Nat} (h : n % 2 = 1) : acc α (d + 1) n = ⟨fun t : Nd α (PT α d) => (acc α d (n / 2)).g t.l, fun (t : Nd α (PT α d)) a => (⟨t.v, (acc α d (n / 2)).p t.l a, t.r⟩ : Nd α (PT α d))⟩ := by
 have h0 : Nat.beq n 0 = false := by cases n with | zero => simp at h | succ n => rfl
 have h1 : Nat.beq (Nat.mod n 2) 1 = true := by show Nat.beq (n % 2) 1 = true; rw [h]; rfl
 show (bif Nat.beq n 0 then _ else bif Nat.beq (Nat.mod n 2) 1 then _ else _) = _
 rw [h0, h1]; rfl
theorem acc_even {α : Type} {d n : Nat} (h : n % 2 = 0) (hn : n ≠ 0) : acc α (d + 1) n = ⟨fun t : Nd α (PT α d) => (acc α d (n / 2 - 1)).g t.r, fun (t : Nd α (PT α d)) a => (⟨t.v, t.l, (acc α d (n / 2 - 1)).p t.r a⟩ : Nd α (PT α d))⟩ := by
 have h0 : Nat.beq n 0 = false := by cases n with | zero => exact absurd rfl hn | succ n => rfl
 have h1 : Nat.beq (Nat.mod n 2) 1 = false := by show Nat.beq (n % 2) 1 = false; rw [h]; rfl
 show (bif Nat.beq n 0 then _ else bif Nat.beq (Nat.mod n 2) 1 then _ else _) = _
 rw [h0, h1]; rfl
theorem acc_cases (n : Nat) : n = 0 \/ n % 2 = 1 \/ (n % 2 = 0 /\ n ≠ 0) := by omega
theorem acc_gp {α : Type} : ∀ (d n k : Nat) (t : PT α d) (a : Option α), n + 1 < 2 ^ d -> (acc α d k).g ((acc α d n).p t a) = if k = n then a else (acc α d k).g t := by
 intro d
 induction d with
 | zero => intro n k t a h; simp at h
 | succ d ih =>
  intro n k t a h
  rw [Nat.pow_succ] at h
  rcases acc_cases n with rfl | hn | ⟨hn, hn0⟩
  ·rcases acc_cases k with rfl | hk | ⟨hk, hk0⟩
   ·rfl
   ·rw [acc_odd hk, if_neg (by omega)]; rfl
   ·rw [acc_even hk hk0, if_neg hk0]; rfl
  ·rcases acc_cases k with rfl | hk | ⟨hk, hk0⟩
   ·rw [acc_odd hn, if_neg (by omega)]; rfl
   ·rw [acc_odd hn, acc_odd hk]
    simp only
    rw [ih _ _ _ _ (by omega)]
    by_cases e : k = n
    ·subst e; simp
    ·rw [if_neg (by omega), if_neg e]
   ·rw [acc_odd hn, acc_even hk hk0, if_neg (by omega)]
  ·rcases acc_cases k with rfl | hk | ⟨hk, hk0⟩
   ·rw [acc_even hn hn0, if_neg (Ne.symm hn0)]; rfl
   ·rw [acc_even hn hn0, acc_odd hk, if_neg (by omega)]
   ·rw [acc_even hn hn0, acc_even hk hk0]
    simp only
    rw [ih _ _ _ _ (by omega)]
    by_cases e : k = n
    ·subst e; simp
    ·rw [if_neg (by omega), if_neg e]
theorem acc_gp_some {α : Type} : ∀ (d n k : Nat) (t : PT α d) (a : Option α) (x : α), (acc α d k).g ((acc α d n).p t a) = some x -> (k = n /\ a = some x) \/ (k ≠ n /\ (acc α d k).g t = some x) := by
 intro d
 induction d with
 | zero => intro n k t a x h; cases h
 | succ d ih =>
  intro n k t a x h
  rcases acc_cases n with rfl | hn | ⟨hn, hn0⟩
  ·rcases acc_cases k with rfl | hk | ⟨hk, hk0⟩
   ·exact .inl ⟨rfl, h⟩
   ·rw [acc_odd hk] at h ⊢; exact .inr ⟨by omega, h⟩
   ·rw [acc_even hk hk0] at h ⊢; exact .inr ⟨hk0, h⟩
  ·rcases acc_cases k with rfl | hk | ⟨hk, hk0⟩
   ·rw [acc_odd hn] at h; exact .inr ⟨by omega, h⟩
   ·rw [acc_odd hn, acc_odd hk] at h
    rw [acc_odd hk]
    rcases ih _ _ _ _ _ h with ⟨h1, h2⟩ | ⟨h1, h2⟩
    ·exact .inl ⟨by omega, h2⟩
    ·exact .inr ⟨by rintro rfl; exact h1 rfl, h2⟩
   ·rw [acc_odd hn, acc_even hk hk0] at h
    rw [acc_even hk hk0]; exact .inr ⟨by omega, h⟩
  ·rcases acc_cases k with rfl | hk | ⟨hk, hk0⟩
   ·rw [acc_even hn hn0] at h; exact .inr ⟨Ne.symm hn0, h⟩
   ·rw [acc_even hn hn0, acc_odd hk] at h
    rw [acc_odd hk]; exact .inr ⟨by omega, h⟩
   ·rw [acc_even hn hn0, acc_even hk hk0] at h
    rw [acc_even hk hk0]
    rcases ih _ _ _ _ _ h with ⟨h1, h2⟩ | ⟨h1, h2⟩
    ·exact .inl ⟨by omega, h2⟩
    ·exact .inr ⟨by rintro rfl; exact h1 rfl, h2⟩
theorem acc_gp_none {α : Type} : ∀ (d n k : Nat) (t : PT α d), (acc α d k).g ((acc α d n).p t none) = if k = n then none else (acc α d k).g t := by
 intro d
 induction d with
 | zero => intro n k t; by_cases e : k = n <;> simp [e] <;> rfl
 | succ d ih =>
  intro n k t
  rcases acc_cases n with rfl | hn | ⟨hn, hn0⟩
  ·rcases acc_cases k with rfl | hk | ⟨hk, hk0⟩
   ·rfl
   ·rw [acc_odd hk, if_neg (by omega)]; rfl
   ·rw [acc_even hk hk0, if_neg hk0]; rfl
  ·rcases acc_cases k with rfl | hk | ⟨hk, hk0⟩
   ·rw [acc_odd hn, if_neg (by omega)]; rfl
   ·rw [acc_odd hn, acc_odd hk]
    simp only
    rw [ih]
    by_cases e : k = n
    ·subst e; simp
    ·rw [if_neg (by omega), if_neg e]
   ·rw [acc_odd hn, acc_even hk hk0, if_neg (by omega)]
  ·rcases acc_cases k with rfl | hk | ⟨hk, hk0⟩
   ·rw [acc_even hn hn0, if_neg (Ne.symm hn0)]; rfl
   ·rw [acc_even hn hn0, acc_odd hk, if_neg (by omega)]
   ·rw [acc_even hn hn0, acc_even hk hk0]
    simp only
    rw [ih]
    by_cases e : k = n
    ·subst e; simp
    ·rw [if_neg (by omega), if_neg e]
theorem acc_nil {α : Type} : ∀ (d k : Nat), (acc α d k).g (PT.nil α d) = none := by
 intro d
 induction d with
 | zero => intro k; rfl
 | succ d ih =>
  intro k
  rcases acc_cases k with rfl | hk | ⟨hk, hk0⟩
  ·rfl
  ·rw [acc_odd hk]; exact ih _
  ·rw [acc_even hk hk0]; exact ih _
theorem put_get {α : Type} (t : Tr α) (n : Nat) (a : α) (k : Nat) (h : n + 1 < 2 ^ 60) : (t.put n a).get k = if k = n then some a else t.get k := acc_gp 60 n k t (some a) h
theorem put_get_some {α : Type} (t : Tr α) (n : Nat) (a : α) (k : Nat) (x : α) (h : (t.put n a).get k = some x) : (k = n /\ x = a) \/ (k ≠ n /\ t.get k = some x) :=
 (acc_gp_some 60 n k t (some a) x h).imp (fun h => ⟨h.1, by injection h.2 with e; exact e.symm⟩) id
theorem del_get {α : Type} (t : Tr α) (n k : Nat) : (t.del n).get k = if k = n then none else t.get k := acc_gp_none 60 n k t
theorem nil_get {α : Type} (k : Nat) : (Tr.nil : Tr α).get k = none := acc_nil 60 k
/-! ### what is meant -/
structure Vals where
 i : Nat -> Int
 b : Nat -> UInt8
 f : Nat -> List Int -> Nat -> UInt8
mutual
def IE.den (ρ : Vals) : IE -> Int
 | .lit n => n
 | .var i => ρ.i i
 | .byte i => (ρ.b i).toNat
 | .bin op k a b => (arI op k (a.den ρ) (b.den ρ)).getD 0
 | .wrap k a => k.wrap (a.den ρ)
 | .fn f l i => (ρ.f f (IE.dens ρ l) i).toNat
def IE.dens (ρ : Vals) : List IE -> List Int
 | [] => []
 | a :: l => a.den ρ :: IE.dens ρ l
end
def strOf (ρ : Vals) (l : List IE) : ByteArray := ⟨(l.map fun e => UInt8.ofNat (e.den ρ).toNat).toArray⟩
mutual
/-- What a value means, addresses by their names. -/
inductive SRel (ρ : Vals) (ν : Nat -> Option Name) : SV -> AV -> Prop
 | int (k : IntKind) (e : IE) : SRel ρ ν (.int k e) (.val (.int k (e.den ρ)))
 | bool (b : Bool) : SRel ρ ν (.bool b) (.val (.bool b))
 | str (l : List IE) : SRel ρ ν (.str l) (.val (.string (strOf ρ l)))
 | val (v : Value) : SRel ρ ν (.val v) (.val v)
 | ptr {n off : Nat} {m : Name} (h : ν n = some m) : SRel ρ ν (.ptr n off) (.ptr m off)
 | imp {m : Bool} {c : List SV} {c' : List AV} {off : Nat} (h : SRels ρ ν c c') : SRel ρ ν (.imp m c off) (.imp m c' off)
 | sl {n off len sz : Nat} {m : Name} (h : ν n = some m) : SRel ρ ν (.sl n off len sz) (.sl m off len sz)
 | im {m : Bool} {len : Nat} {c : List SV} {c' : List AV} (h : SRels ρ ν c c') : SRel ρ ν (.im m len c) (.im m len c')
 | agg {c : List SV} {c' : List AV} (h : SRels ρ ν c c') : SRel ρ ν (.agg c) (.agg c')
 | tup {c : List SV} {c' : List AV} (h : SRels ρ ν c c') : SRel ρ ν (.tup c) (.tup c')
 | fn {f : Fn} {a b : List SV} {a' b' : List AV} (h : SRels ρ ν a a') (h' : SRels ρ ν b b') : SRel ρ ν (.fn f a b) (.fn f a' b')
inductive SRels (ρ : Vals) (ν : Nat -> Option Name) : List SV -> List AV -> Prop
 | nil : SRels ρ ν [] []
 | cons {a : SV} {x : AV} {l : List SV} {xs : List AV} (h : SRel ρ ν a x) (t : SRels ρ ν l xs) : SRels ρ ν (a :: l) (x :: xs)
end
def Nu.le (ν ν' : Nat -> Option Name) : Prop := ∀ n m, ν n = some m -> ν' n = some m
mutual
theorem SRel.mono {ρ : Vals} {ν ν' : Nat -> Option Name} (hs : Nu.le ν ν') {a : SV} {x : AV} (h : SRel ρ ν a x) : SRel ρ ν' a x :=
 match h with
 | .int k e => .int k e
 | .bool b => .bool b
 | .str l => .str l
 | .val v => .val v
 | .ptr h => .ptr (hs _ _ h)
 | .imp h => .imp (SRels.mono hs h)
 | .sl h => .sl (hs _ _ h)
 | .im h => .im (SRels.mono hs h)
 | .agg h => .agg (SRels.mono hs h)
 | .tup h => .tup (SRels.mono hs h)
 | .fn h h' => .fn (SRels.mono hs h) (SRels.mono hs h')
theorem SRels.mono {ρ : Vals} {ν ν' : Nat -> Option Name} (hs : Nu.le ν ν') {a : List SV} {x : List AV} (h : SRels ρ ν a x) : SRels ρ ν' a x :=
 match h with
 | .nil => .nil
 | .cons h t => .cons (SRel.mono hs h) (SRels.mono hs t)
end
section
variable {ρ : Vals} {ν : Nat -> Option Name}
theorem SRels.length {l : List SV} {xs : List AV} (h : SRels ρ ν l xs) : l.length = xs.length := by
 induction l generalizing xs with
 | nil => cases h; rfl
 | cons a l ih => cases h with | cons h t => simp [ih t]
theorem SRels.get {l : List SV} {xs : List AV} (h : SRels ρ ν l xs) {i : Nat} {a : SV} (ha : l[i]? = some a) : ∃ x, xs[i]? = some x /\ SRel ρ ν a x := by
 induction l generalizing xs i with
 | nil => simp at ha
 | cons b l ih =>
  cases h with
  | cons h t =>
   cases i with
   | zero => simp at ha; subst ha; exact ⟨_, rfl, h⟩
   | succ i => simpa using ih t (by simpa using ha)
theorem SRels.append {l k : List SV} {xs ys : List AV} (h : SRels ρ ν l xs) (h' : SRels ρ ν k ys) : SRels ρ ν (l ++ k) (xs ++ ys) := by
 induction l generalizing xs with
 | nil => cases h; exact h'
 | cons a l ih => cases h with | cons h t => exact .cons h (ih t)
theorem SRels.take {l : List SV} {xs : List AV} (h : SRels ρ ν l xs) (n : Nat) : SRels ρ ν (l.take n) (xs.take n) := by
 induction l generalizing xs n with
 | nil => cases h; simp; exact .nil
 | cons a l ih =>
  cases h with
  | cons h t =>
   cases n with
   | zero => simp; exact .nil
   | succ n => simpa using SRels.cons h (ih t n)
theorem SRels.drop {l : List SV} {xs : List AV} (h : SRels ρ ν l xs) (n : Nat) : SRels ρ ν (l.drop n) (xs.drop n) := by
 induction l generalizing xs n with
 | nil => cases h; simp; exact .nil
 | cons a l ih =>
  cases h with
  | cons h t =>
   cases n with
   | zero => simpa using SRels.cons h t
   | succ n => simpa using ih t n
theorem scut_eq : ∀ (n : Nat) (l r : List SV), scut n l = some r -> r = l.take n /\ n <= l.length := by
 intro n
 induction n with
 | zero => intro l r h; simp only [scut, Option.some.injEq] at h; subst h; simp
 | succ n ih =>
  intro l r h
  cases l with
  | nil => simp [scut] at h
  | cons x l =>
   simp only [scut, Option.map_eq_some_iff] at h
   obtain ⟨r', h1, rfl⟩ := h
   obtain ⟨h2, h3⟩ := ih l r' h1
   subst h2
   exact ⟨by simp, by simp; omega⟩
theorem sdrop_eq : ∀ (n : Nat) (l r : List SV), sdrop n l = some r -> r = l.drop n /\ n <= l.length := by
 intro n
 induction n with
 | zero => intro l r h; simp only [sdrop, Option.some.injEq] at h; subst h; simp
 | succ n ih =>
  intro l r h
  cases l with
  | nil => simp [sdrop] at h
  | cons x l =>
   simp only [sdrop] at h
   obtain ⟨h2, h3⟩ := ih l r h
   subst h2
   exact ⟨by simp, by simp; omega⟩
theorem sseg_eq {off n : Nat} {l r : List SV} (h : sseg off n l = some r) : r = (l.drop off).take n /\ off + n <= l.length := by
 simp only [sseg, Option.bind_eq_some_iff] at h
 obtain ⟨d, h1, h2⟩ := h
 obtain ⟨rfl, h3⟩ := sdrop_eq _ _ _ h1
 obtain ⟨rfl, h4⟩ := scut_eq _ _ _ h2
 simp at h4
 exact ⟨rfl, by omega⟩
theorem SRels.seg {off n : Nat} {l r : List SV} {xs : List AV} (hl : SRels ρ ν l xs) (h : sseg off n l = some r) : SRels ρ ν r ((xs.drop off).take n) /\ off + n <= xs.length := by
 obtain ⟨rfl, h2⟩ := sseg_eq h
 exact ⟨(hl.drop off).take n, by rw [<- hl.length]; exact h2⟩
theorem ins_rel : ∀ {vs row row' : List SV} {xs ys : List AV}, sset.ins vs row = some row' -> SRels ρ ν vs xs -> SRels ρ ν row ys -> SRels ρ ν row' (setMany ys 0 xs) /\ xs.length <= ys.length := by
 have gen : ∀ (xs ys : List AV) (y : AV) (k : Nat), setMany (y :: ys) (k + 1) xs = y :: setMany ys k xs := by
  intro xs
  induction xs with
  | nil => intro ys y k; rfl
  | cons x xs ih => intro ys y k; simp only [setMany, List.set_cons_succ, ih]
 intro vs
 induction vs with
 | nil => intro row row' xs ys h hv hr; cases hv; simp only [sset.ins, Option.some.injEq] at h; subst h; exact ⟨hr, by simp⟩
 | cons v vs ih =>
  intro row row' xs ys h hv hr
  cases hv with
  | cons hv ht =>
   cases hr with
   | nil => simp [sset.ins] at h
   | cons hy hr =>
    simp only [sset.ins, Option.map_eq_some_iff] at h
    obtain ⟨r, h1, rfl⟩ := h
    obtain ⟨i1, i2⟩ := ih h1 ht hr
    refine ⟨?_, by simp; omega⟩
    simp only [setMany, List.set_cons_zero, gen]
    exact .cons hv i1
theorem sset_rel : ∀ {off : Nat} {vs row row' : List SV} {xs ys : List AV}, sset off vs row = some row' -> SRels ρ ν vs xs -> SRels ρ ν row ys -> SRels ρ ν row' (setMany ys off xs) /\ off + xs.length <= ys.length := by
 have gen : ∀ (xs ys : List AV) (y : AV) (k : Nat), setMany (y :: ys) (k + 1) xs = y :: setMany ys k xs := by
  intro xs
  induction xs with
  | nil => intro ys y k; rfl
  | cons x xs ih => intro ys y k; simp only [setMany, List.set_cons_succ, ih]
 intro off
 induction off with
 | zero => intro vs row row' xs ys h hv hr; simp only [sset] at h; simpa using ins_rel h hv hr
 | succ off ih =>
  intro vs row row' xs ys h hv hr
  cases hr with
  | nil => simp [sset] at h
  | cons hy hr =>
   simp only [sset, Option.map_eq_some_iff] at h
   obtain ⟨r, h1, rfl⟩ := h
   obtain ⟨i1, i2⟩ := ih h1 hv hr
   refine ⟨by rw [gen]; exact .cons hy i1, by simp; omega⟩
end
/-- The rows that the executor knows of are there, each under its name. -/
def MRows (ρ : Vals) (ν : Nat -> Option Name) (h : Mem) (H : AHeap) : Prop :=
 ∀ n row, h.get n = some row -> ∃ m row', ν n = some m /\ H m = some row' /\ SRels ρ ν row row'
/-- The memory holds the rows that the executor knows of, each under its name. -/
structure MRel (ρ : Vals) (ν : Nat -> Option Name) (h : Mem) (H : AHeap) : Prop where
 rows : MRows ρ ν h H
 inj : ∀ n k m, ν n = some m -> ν k = some m -> n = k
 lt : ∀ n, ν n ≠ none -> n < h.next
end Go.Proofs.YtbllpnjappddeaaGreat.Den
end
section
set_option linter.unusedSimpArgs false
namespace Go.Proofs.YtbllpnjappddeaaGreat.Den
variable {P : Program} {ρ : Vals} {ν : Nat -> Option Name}
def nset (ν : Nat -> Option Name) (n : Nat) (m : Name) : Nat -> Option Name := fun k => if k = n then some m else ν k
theorem MRel.new {h : Mem} {H : AHeap} (hm : MRel ρ ν h H) : ν h.next = none := by
 cases e : ν h.next with
 | none => rfl
 | some m => have := hm.lt h.next (by rw [e]; simp); omega
theorem MRel.le_nset {h : Mem} {H : AHeap} (hm : MRel ρ ν h H) (m : Name) : Nu.le ν (nset ν h.next m) := by
 intro n k hk
 unfold nset
 rw [if_neg]; exact hk
 rintro rfl; rw [hm.new] at hk; cases hk
/-- A new row. -/
theorem MRel.push {h : Mem} {H : AHeap} (hm : MRel ρ ν h H) {m : Name} (hf : ∀ n, ν n ≠ some m) {row : List SV} {row' : List AV} (hr : SRels ρ ν row row') :
  MRel ρ (nset ν h.next m) (h.push row) (upd H m (some row')) := by
 have hle := hm.le_nset m
 refine ⟨?_, ?_, ?_⟩
 ·intro n r hn
  rcases put_get_some _ _ _ _ _ hn with ⟨rfl, rfl⟩ | ⟨hne, hn⟩
  ·exact ⟨m, row', by simp [nset], upd_same _ _ _, hr.mono hle⟩
  ·obtain ⟨k, r', h1, h2, h3⟩ := hm.rows n r hn
   refine ⟨k, r', hle _ _ h1, ?_, h3.mono hle⟩
   rw [upd_ne]; exact h2
   rintro rfl; exact hf n h1
 ·intro n k x hn hk
  unfold nset at hn hk
  split at hn
  ·rename_i e1
   split at hk
   ·rename_i e2; omega
   ·cases hn; exact absurd hk (hf k)
  ·split at hk
   ·cases hk; exact absurd hn (hf n)
   ·exact hm.inj n k x hn hk
 ·intro n hn
  unfold nset at hn
  split at hn
  ·rename_i e; subst e; simp [Mem.push]
  ·have := hm.lt n hn; simp [Mem.push]; omega
/-- A row is changed. -/
theorem MRel.set {h : Mem} {H : AHeap} (hm : MRel ρ ν h H) {n : Nat} {m : Name} (hn : ν n = some m) {row : List SV} {row' : List AV} (hr : SRels ρ ν row row') :
  MRel ρ ν (h.set n row) (upd H m (some row')) := by
 refine ⟨?_, hm.inj, hm.lt⟩
 intro k r hk
 rcases put_get_some _ _ _ _ _ hk with ⟨rfl, rfl⟩ | ⟨hne, hk⟩
 ·exact ⟨m, row', hn, upd_same _ _ _, hr⟩
 ·obtain ⟨x, r', h1, h2, h3⟩ := hm.rows k r hk
  refine ⟨x, r', h1, ?_, h3⟩
  rw [upd_ne]; exact h2
  rintro rfl; exact hne (hm.inj _ _ _ h1 hn)
/-- A row is forgotten. -/
theorem MRel.drop {h : Mem} {H : AHeap} (hm : MRel ρ ν h H) {n : Nat} {m : Name} (hn : ν n = some m) : MRel ρ ν (h.drop n) (upd H m none) := by
 refine ⟨?_, hm.inj, hm.lt⟩
 intro k r hk
 have hk' : (h.m.del n).get k = some r := hk
 rw [del_get] at hk'
 split at hk'
 ·cases hk'
 ·rename_i hne
  obtain ⟨x, r', h1, h2, h3⟩ := hm.rows k r hk'
  refine ⟨x, r', h1, ?_, h3⟩
  rw [upd_ne]; exact h2
  rintro rfl; exact hne (hm.inj _ _ _ h1 hn)
theorem sconst_rel (v : Value) : SRel ρ ν (ofConst v) (.val v) := by
 cases v with
 | int k n => exact .int k (.lit n)
 | bool b => exact .bool b
 | string s =>
  have : strOf ρ (s.data.toList.map fun b => IE.lit b.toNat) = s := by
   unfold strOf
   have : (List.map (fun e => UInt8.ofNat (IE.den ρ e).toNat) (s.data.toList.map fun b => IE.lit b.toNat)) = s.data.toList := by
    rw [List.map_map]
    conv => rhs; rw [<- List.map_id s.data.toList]
    refine List.map_congr_left fun b _ => ?_
    simp [IE.den]
   rw [this]
  have h := SRel.str (ρ := ρ) (ν := ν) (s.data.toList.map fun b => IE.lit b.toNat)
  rw [this] at h
  exact h
 | _ => exact .val _
theorem sconsts_rel : ∀ l : List Value, SRels ρ ν (l.map ofConst) (l.map .val)
 | [] => .nil
 | v :: l => .cons (sconst_rel v) (sconsts_rel l)
theorem scells_rel {a : SV} {x : AV} (h : SRel ρ ν a x) : SRels ρ ν a.cells x.cells := by
 cases h with
 | agg h => exact h
 | val v => exact sconsts_rel _
 | int k e => exact .cons (.int k e) .nil
 | bool b => exact .cons (.bool b) .nil
 | str l => exact .cons (.str l) .nil
 | ptr h => exact .cons (.ptr h) .nil
 | imp h => exact .cons (.imp h) .nil
 | sl h => exact .cons (.sl h) .nil
 | im h => exact .cons (.im h) .nil
 | tup h => exact .cons (.tup h) .nil
 | fn h h' => exact .cons (.fn h h') .nil
theorem sone_rel {a : SV} {x : AV} (h : SRel ρ ν a x) (ho : a.one = true) : x.one = true := by
 cases h <;> first | rfl | (simp [SV.one] at ho; done) | exact ho
theorem sall_one {l : List SV} {xs : List AV} (h : SRels ρ ν l xs) (ho : l.all SV.one = true) : xs.all AV.one = true := by
 induction l generalizing xs with
 | nil => cases h; rfl
 | cons a l ih =>
  cases h with
  | cons h t =>
   simp only [List.all_cons, Bool.and_eq_true] at ho ⊢
   exact ⟨sone_rel h ho.1, ih t ho.2⟩
theorem snat_rel {a : SV} {x : AV} (h : SRel ρ ν a x) {n : Nat} (hn : sNat a = some n) : natOf x = some n := by
 cases h with
 | int k e =>
  cases e with
  | lit i =>
   cases i with
   | ofNat i => simp only [sNat, Option.some.injEq] at hn; subst hn; simp [natOf, IE.den]
   | negSucc i => simp [sNat] at hn
  | _ => simp [sNat] at hn
 | _ => simp [sNat] at hn
theorem sload_rel {h : Mem} {H : AHeap} (hm : MRows ρ ν h H) {t : TypeId} {a r : SV} {x : AV} (ha : SRel ρ ν a x) (hr : sload P t a h = some r) : ∃ y, aload P t x H = some y /\ SRel ρ ν r y := by
 unfold sload at hr
 split at hr
 ·rename_i n off size hg hz
  cases ha with
  | @ptr _ _ m hn =>
   simp only [Option.bind_eq_some_iff, Option.map_eq_some_iff] at hr
   obtain ⟨row, h1, l, h2, rfl⟩ := hr
   obtain ⟨m', row', h3, h4, h5⟩ := hm n row h1
   rw [hn] at h3; cases h3
   obtain ⟨h6, h7⟩ := h5.seg h2
   exact ⟨_, by simp [aload, hg, hz, h4, h7], .agg h6⟩
 ·rename_i n off size hg hz
  cases ha with
  | @ptr _ _ m hn =>
   simp only [Option.bind_eq_some_iff] at hr
   obtain ⟨row, h1, h2⟩ := hr
   obtain ⟨m', row', h3, h4, h5⟩ := hm n row h1
   rw [hn] at h3; cases h3
   obtain ⟨y, h6, h7⟩ := h5.get h2
   exact ⟨y, by simp [aload, hg, hz, h4, h6], h7⟩
 ·rename_i m cells off size hg hz
  cases ha with
  | @imp _ _ c' _ hc =>
   simp only [Option.map_eq_some_iff] at hr
   obtain ⟨l, h2, rfl⟩ := hr
   obtain ⟨h6, h7⟩ := hc.seg h2
   exact ⟨_, by simp [aload, hg, hz, h7], .agg h6⟩
 ·rename_i m cells off size hg hz
  cases ha with
  | @imp _ _ c' _ hc =>
   obtain ⟨y, h6, h7⟩ := hc.get hr
   exact ⟨y, by simp [aload, hg, hz, h6], h7⟩
 ·cases hr
theorem sstore_rel {h h' : Mem} {H : AHeap} (hm : MRel ρ ν h H) {t : TypeId} {a b : SV} {x y : AV} (ha : SRel ρ ν a x) (hb : SRel ρ ν b y) (hr : sstore P t a b h = some h') : ∃ H', astore P t x y H = some H' /\ MRel ρ ν h' H' := by
 unfold sstore at hr
 split at hr
 ·rename_i n off
  cases ha with
  | @ptr _ _ m hn =>
   cases hc : (decide (szOf P t = some b.cells.length) && b.cells.all SV.one) with
   | false => rw [hc] at hr; cases hr
   | true =>
    rw [hc] at hr
    simp only [cond_true, Option.bind_eq_some_iff, Option.map_eq_some_iff] at hr
    obtain ⟨row, h1, row₂, h2, rfl⟩ := hr
    obtain ⟨m', row', h3, h4, h5⟩ := hm.rows n row h1
    rw [hn] at h3; cases h3
    have hcr := scells_rel hb
    obtain ⟨h6, h7⟩ := sset_rel h2 hcr h5
    simp only [Bool.and_eq_true, decide_eq_true_eq] at hc
    refine ⟨_, ?_, hm.set hn h6⟩
    simp only [astore]
    rw [if_pos ⟨by rw [hc.1, hcr.length], sall_one hcr hc.2⟩, h4]
    simp [h7]
 ·cases hr
end Go.Proofs.YtbllpnjappddeaaGreat.Den
end
section
set_option linter.unusedSimpArgs false
namespace Go.Proofs.YtbllpnjappddeaaGreat.Den
variable {P : Program} {ρ : Vals} {ν : Nat -> Option Name}
mutual
theorem IE.beq_eq : ∀ {a b : IE}, IE.beq a b = true -> a = b
 | .lit a, b, h => by cases b <;> simp [IE.beq] at h; subst h; rfl
 | .var i, b, h => by cases b <;> simp [IE.beq] at h; subst h; rfl
 | .byte i, b, h => by cases b <;> simp [IE.beq] at h; subst h; rfl
 | .bin op k x y, b, h => by
  cases b with
  | bin op' k' x' y' =>
   simp only [IE.beq, Bool.and_eq_true, decide_eq_true_eq] at h
   obtain ⟨⟨⟨rfl, rfl⟩, h1⟩, h2⟩ := h
   rw [IE.beq_eq h1, IE.beq_eq h2]
  | _ => simp [IE.beq] at h
 | .wrap k x, b, h => by
  cases b with
  | wrap k' x' =>
   simp only [IE.beq, Bool.and_eq_true, decide_eq_true_eq] at h
   obtain ⟨rfl, h1⟩ := h
   rw [IE.beq_eq h1]
  | _ => simp [IE.beq] at h
 | .fn f l i, b, h => by
  cases b with
  | fn f' l' i' =>
   simp only [IE.beq, Bool.and_eq_true] at h
   obtain ⟨⟨h1, h2⟩, h3⟩ := h
   rw [Nat.eq_of_beq_eq_true h1, Nat.eq_of_beq_eq_true h2, IE.beqs_eq h3]
  | _ => simp [IE.beq] at h
theorem IE.beqs_eq : ∀ {a b : List IE}, IE.beqs a b = true -> a = b
 | [], b, h => by cases b <;> simp [IE.beqs] at h; rfl
 | x :: l, b, h => by
  cases b with
  | nil => simp [IE.beqs] at h
  | cons y r =>
   simp only [IE.beqs, Bool.and_eq_true] at h
   rw [IE.beq_eq h.1, IE.beqs_eq h.2]
end
/-- What is taken for known is so. -/
def FOk (ρ : Vals) (Γ : List Fact) : Prop := ∀ x ∈ Γ, cmpI x.op (x.a.den ρ) (x.b.den ρ) = some x.r
theorem lookF_ok {Γ : List Fact} (hF : FOk ρ Γ) {op : BinOp} {a b : IE} {r : Bool} (h : lookF Γ op a b = some r) : cmpI op (a.den ρ) (b.den ρ) = some r := by
 induction Γ with
 | nil => simp [lookF] at h
 | cons x Γ ih =>
  simp only [lookF] at h
  cases hc : (decide (x.op = op) && IE.beq x.a a && IE.beq x.b b) with
  | false => rw [hc] at h; exact ih (fun y hy => hF y (List.mem_cons_of_mem _ hy)) h
  | true =>
   rw [hc] at h
   simp only [cond_true, Option.some.injEq] at h
   simp only [Bool.and_eq_true, decide_eq_true_eq] at hc
   obtain ⟨⟨h1, h2⟩, h3⟩ := hc
   have := hF x (by simp)
   rw [h1, IE.beq_eq h2, IE.beq_eq h3, h] at this
   exact this
theorem cmpE_ok {Γ : List Fact} (hF : FOk ρ Γ) {op : BinOp} {a b : IE} {r : Bool} (h : cmpE Γ op a b = some r) : cmpI op (a.den ρ) (b.den ρ) = some r := by
 unfold cmpE at h
 split at h
 ·exact h
 ·split at h
  ·rename_i h1; cases h; exact lookF_ok hF h1
  ·cases hb : IE.beq a b with
   | false => rw [hb] at h; cases h
   | true =>
    rw [hb] at h
    rw [IE.beq_eq hb]
    simp only [cond_true] at h
    cases op <;> simp_all [cmpI]
theorem isByte_ok {e : IE} (h : e.isByte = true) : 0 <= e.den ρ /\ e.den ρ < 256 := by
 unfold IE.isByte at h
 split at h
 ·simp only [Bool.and_eq_true, decide_eq_true_eq] at h; exact h
 ·have := (ρ.b ‹_›).toNat_lt
  simp only [IE.den]; omega
 ·simp only [IE.den, IntKind.wrap_u8]; omega
 ·rename_i f l i
  have := (ρ.f f (IE.dens ρ l) i).toNat_lt
  simp only [IE.den]; omega
 ·cases h
theorem wrapE_ok (k : IntKind) (a : IE) : (wrapE k a).den ρ = k.wrap (a.den ρ) := by
 unfold wrapE
 split
 ·rw [forceI_eq]; rfl
 ·cases hc : (a.isByte && (match k with | .i64 | .u64 | .u8 | .u32 | .i32 => true | _ => false)) with
  | false => simp only [cond_false, IE.den]
  | true =>
   simp only [cond_true]
   simp only [Bool.and_eq_true] at hc
   obtain ⟨h1, h2⟩ := hc
   have := isByte_ok (ρ := ρ) h1
   cases k <;> simp at h2
   ·rw [IntKind.wrap_i32]; omega
   ·rw [IntKind.wrap_i64]; omega
   ·rw [IntKind.wrap_u8]; omega
   ·rw [IntKind.wrap_u32]; omega
   ·rw [IntKind.wrap_u64]; omega
theorem binE_ok {op : BinOp} {k : IntKind} {a b e : IE} (h : binE op k a b = some e) : arI op k (a.den ρ) (b.den ρ) = some (e.den ρ) := by
 unfold binE at h
 split at h
 ·rename_i x y
  split at h
  ·rename_i z hz
   cases h
   rw [forceI_eq]; exact hz
  ·cases h
 ·rename_i a y _
  split at h
  ·cases h; rfl
  ·cases h; rfl
  ·cases h; rfl
  ·cases h; rfl
  ·cases h; rfl
  ·cases h; rfl
  ·cases hy : decide (y = 0) with
   | true => rw [hy] at h; cases h
   | false => rw [hy] at h; cases h; simp at hy; simp [IE.den, arI, hy]
  ·cases hy : decide (y = 0) with
   | true => rw [hy] at h; cases h
   | false => rw [hy] at h; cases h; simp at hy; simp [IE.den, arI, hy]
  ·cases hy : decide (0 <= y) with
   | false => rw [hy] at h; cases h
   | true => rw [hy] at h; cases h; simp at hy; simp [IE.den, arI, hy]
  ·cases hy : decide (0 <= y) with
   | false => rw [hy] at h; cases h
   | true => rw [hy] at h; cases h; simp at hy; simp [IE.den, arI, hy]
  ·cases h
 ·split at h <;> first | (cases h; rfl) | cases h
theorem binV_ar {op : BinOp} {k k' : IntKind} {x y z : Int} (h : arI op k x y = some z) (hk : isSh op = true \/ k = k') : binV op (.int k x) (.int k' y) = some (.int k z) := by
 cases op <;> simp [arI] at h <;> simp [isSh] at hk <;> simp_all [binV]
theorem binV_cmp {op : BinOp} {k : IntKind} {x y : Int} {r : Bool} (h : cmpI op x y = some r) : binV op (.int k x) (.int k y) = some (.bool r) := by
 cases op <;> simp [cmpI] at h <;> simp_all [binV]
end Go.Proofs.YtbllpnjappddeaaGreat.Den
end
