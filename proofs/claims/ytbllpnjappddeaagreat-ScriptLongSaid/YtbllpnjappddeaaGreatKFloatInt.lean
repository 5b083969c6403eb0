/- Doubles that stand for small natural numbers: sum, product, order and the way back are those of the numbers. Plain arithmetic, no program. -/
import Derived.WalkLawsBesides
namespace Go.Proofs.YtbllpnjappddeaaGreat.FI
open Ieee
def F (n : Nat) : Nat:=Ieee.double.nearest false n 0
theorem log2_scale (t k : Nat) (h : t ≠ 0) : (t * 2 ^ k).log2 = t.log2 + k:=by
 have h1 : t * 2 ^ k ≠ 0:=by
  have:=Nat.two_pow_pos k
  intro h0
  rcases Nat.mul_eq_zero.1 h0 with h0 | h0 <;> omega
 have hlo:=Nat.log2_self_le h
 have hhi:=@Nat.lt_log2_self t
 apply Nat.le_antisymm
 ·have : (t * 2 ^ k).log2 < t.log2 + k + 1:=by
   rw [Nat.log2_lt h1]
   have : t.log2 + k + 1 = (t.log2 + 1) + k:=by omega
   rw [this,Nat.pow_add]
   exact Nat.mul_lt_mul_of_pos_right hhi (Nat.two_pow_pos k)
  omega
 ·rw [Nat.le_log2 h1,Nat.pow_add]
  exact Nat.mul_le_mul_right _ hlo
theorem log2_lt53 (t : Nat) (h : t < 2 ^ 53) : t.log2 < 53:=by
 by_cases h0 : t = 0
 ·subst h0; decide
 ·rw [Nat.log2_lt h0]; exact h
theorem cut_zero (way : Toward) (n : Nat) (h : way = .even \/ way = .zero) : way.cut false n 0 = n:=by
 rcases h with rfl | rfl <;> simp [Toward.cut,Nat.mod_one]
theorem cut_exact (way : Toward) (t k : Nat) (h : way = .even \/ way = .zero) : way.cut false (t * 2 ^ k) k = t:=by
 by_cases h0 : t = 0
 ·subst h0
  rcases h with rfl | rfl
  ·have : 0 < 1 <<< min k (Nat.log2 0 + 2):=by rw [Nat.shiftLeft_eq]; have:=Nat.two_pow_pos (min k (Nat.log2 0 + 2)); omega
   simp only [Toward.cut,Nat.zero_mul,Nat.zero_div,Nat.zero_mod,Nat.mul_zero]
   have h1 : decide (1 <<< min k (Nat.log2 0 + 2) < 0) = false:=by simp
   have h2 : (1 <<< min k (Nat.log2 0 + 2) == 0) = false:=beq_eq_false_iff_ne.2 (by omega)
   rw [h1,h2]; rfl
  ·simp [Toward.cut]
 ·have hl:=log2_scale t k h0
  have hm : min k ((t * 2 ^ k).log2 + 2) = k:=by omega
  have hp:=Nat.two_pow_pos k
  have hd : t * 2 ^ k / 2 ^ k = t:=Nat.mul_div_cancel _ hp
  have hr : t * 2 ^ k % 2 ^ k = 0:=Nat.mul_mod_left _ _
  rcases h with rfl | rfl
  ·simp only [Toward.cut,hm,Nat.shiftLeft_eq,Nat.one_mul,hd,hr,Nat.mul_zero]
   have h1 : decide (2 ^ k < 0) = false:=by simp
   have h2 : (2 ^ k == 0) = false:=by simp
   rw [h1,h2]; rfl
  ·simp only [Toward.cut,hm,Nat.shiftLeft_eq,Nat.one_mul,hd]; rfl
def pl (a : Nat) : Nat:=if a = 0 then 1074 else 52 - a.log2
theorem leastPlace_double : double.leastPlace = -1074:=by decide
theorem binade_double : double.binade = 2 ^ 52:=by rfl
theorem infRung_double : double.infRung = 2047 * 2 ^ 52:=by rfl
theorem sign_double : double.signWeight = 2 ^ 63:=by rfl
theorem fraction_double : double.fractionBits = 52:=by rfl
theorem nearest_scale (t k : Nat) (h : t < 2 ^ 53) : double.nearest false (t * 2 ^ k) (-(k : Int)) = F t:=by
 unfold F
 by_cases h0 : t = 0
 ·subst h0; simp [Format.nearest]
 ·have hk:=Nat.two_pow_pos k
  have h1 : t * 2 ^ k ≠ 0:=by
   intro h2
   rcases Nat.mul_eq_zero.1 h2 with h2 | h2 <;> omega
  have hl:=log2_scale t k h0
  have h53:=log2_lt53 t h
  simp only [Format.nearest,if_neg h0,if_neg h1,hl,leastPlace_double,fraction_double]
  have e1 : max (-(k : Int) + ((t.log2 + k : Nat) : Int) - ((52 : Nat) : Int)) (-1074) = (t.log2 : Int) - 52:=by omega
  have e2 : max ((0 : Int) + (t.log2 : Int) - ((52 : Nat) : Int)) (-1074) = (t.log2 : Int) - 52:=by omega
  rw [e1,e2]
  congr 2
  have g2 : Toward.even.cut false (t <<< ((0 : Int) - ((t.log2 : Int) - 52)).toNat) ((t.log2 : Int) - 52 - 0).toNat = t * 2 ^ (52 - t.log2):=by
   have : ((t.log2 : Int) - 52 - 0).toNat = 0:=by omega
   rw [this,cut_zero _ _ (.inl rfl),Nat.shiftLeft_eq]
   congr 2; omega
  have g1 : Toward.even.cut false ((t * 2 ^ k) <<< (-(k : Int) - ((t.log2 : Int) - 52)).toNat) ((t.log2 : Int) - 52 - -(k : Int)).toNat = t * 2 ^ (52 - t.log2):=by
   rw [Nat.shiftLeft_eq]
   by_cases hc : k + t.log2 <= 52
   ·have e3 : ((t.log2 : Int) - 52 - -(k : Int)).toNat = 0:=by omega
    have e4 : (-(k : Int) - ((t.log2 : Int) - 52)).toNat = 52 - t.log2 - k:=by omega
    rw [e3,e4,cut_zero _ _ (.inl rfl),Nat.mul_assoc,<- Nat.pow_add]
    congr 2; omega
   ·have e3 : ((t.log2 : Int) - 52 - -(k : Int)).toNat = k - (52 - t.log2):=by omega
    have e4 : (-(k : Int) - ((t.log2 : Int) - 52)).toNat = 0:=by omega
    rw [e3,e4,Nat.pow_zero,Nat.mul_one]
    have e5 : t * 2 ^ k = (t * 2 ^ (52 - t.log2)) * 2 ^ (k - (52 - t.log2)):=by
     rw [Nat.mul_assoc,<- Nat.pow_add]; congr 2; omega
    rw [e5,cut_exact _ _ _ (.inl rfl)]
  rw [g1,g2]
theorem F_eq (t : Nat) (h0 : t ≠ 0) (h : t < 2 ^ 53) : F t = (t.log2 + 1022) * 2 ^ 52 + t * 2 ^ (52 - t.log2):=by
 have h53:=log2_lt53 t h
 unfold F
 simp only [Format.nearest,if_neg h0,leastPlace_double,fraction_double,infRung_double,binade_double,Format.word]
 have e2 : max ((0 : Int) + (t.log2 : Int) - ((52 : Nat) : Int)) (-1074) = (t.log2 : Int) - 52:=by omega
 rw [e2]
 have g2 : Toward.even.cut false (t <<< ((0 : Int) - ((t.log2 : Int) - 52)).toNat) ((t.log2 : Int) - 52 - 0).toNat = t * 2 ^ (52 - t.log2):=by
  have : ((t.log2 : Int) - 52 - 0).toNat = 0:=by omega
  rw [this,cut_zero _ _ (.inl rfl),Nat.shiftLeft_eq]
  congr 2; omega
 rw [g2]
 have e3 : ((t.log2 : Int) - 52 - -1074).toNat = t.log2 + 1022:=by omega
 rw [e3]
 have hb:=@Nat.lt_log2_self t
 have hub : t * 2 ^ (52 - t.log2) < 2 ^ 53:=by
  have : (2 : Nat) ^ 53 = 2 ^ (t.log2 + 1) * 2 ^ (52 - t.log2):=by rw [<- Nat.pow_add]; congr 1; omega
  rw [this]
  exact Nat.mul_lt_mul_of_pos_right hb (Nat.two_pow_pos _)
 simp only [Bool.false_eq_true,if_false]
 exact Nat.min_eq_left (by omega)
theorem read_F (t : Nat) (h : t < 2 ^ 53) : double.read (F t) = .number false (t * 2 ^ pl t) (-(pl t : Int)):=by
 by_cases h0 : t = 0
 ·subst h0
  rw [Nat.zero_mul]
  decide
 ·have h53:=log2_lt53 t h
  have hF:=F_eq t h0 h
  have hlo:=Nat.log2_self_le h0
  have hb:=@Nat.lt_log2_self t
  have hub : t * 2 ^ (52 - t.log2) < 2 ^ 53:=by
   have : (2 : Nat) ^ 53 = 2 ^ (t.log2 + 1) * 2 ^ (52 - t.log2):=by rw [<- Nat.pow_add]; congr 1; omega
   rw [this]
   exact Nat.mul_lt_mul_of_pos_right hb (Nat.two_pow_pos _)
  have hlb : 2 ^ 52 <= t * 2 ^ (52 - t.log2):=by
   have : (2 : Nat) ^ 52 = 2 ^ t.log2 * 2 ^ (52 - t.log2):=by rw [<- Nat.pow_add]; congr 1; omega
   rw [this]
   exact Nat.mul_le_mul_right _ hlo
  have hpl : pl t = 52 - t.log2:=by simp [pl,h0]
  rw [hpl,hF]
  generalize hK : t * 2 ^ (52 - t.log2) = K at *
  simp only [Format.read,sign_double,binade_double,infRung_double,leastPlace_double]
  have a1 : ((t.log2 + 1022) * 2 ^ 52 + K) % 2 ^ 63 = (t.log2 + 1022) * 2 ^ 52 + K:=by omega
  have a2 : ((t.log2 + 1022) * 2 ^ 52 + K) / 2 ^ 63 = 0:=by omega
  rw [a1,a2]
  rw [if_neg (by omega),if_pos (by omega)]
  have a3 : ((t.log2 + 1022) * 2 ^ 52 + K) % 2 ^ 52 = K - 2 ^ 52:=by
   have : (t.log2 + 1022) * 2 ^ 52 + K = (K - 2 ^ 52) + 2 ^ 52 * (t.log2 + 1023):=by omega
   rw [this,Nat.add_mul_mod_self_left,Nat.mod_eq_of_lt (by omega)]
  have a4 : ((t.log2 + 1022) * 2 ^ 52 + K) / 2 ^ 52 = t.log2 + 1023:=by
   have : (t.log2 + 1022) * 2 ^ 52 + K = (K - 2 ^ 52) + 2 ^ 52 * (t.log2 + 1023):=by omega
   rw [this,Nat.add_mul_div_left _ _ (by decide),Nat.div_eq_of_lt (by omega)]; omega
  rw [a3,a4]
  have a5 : 2 ^ 52 + (K - 2 ^ 52) = K:=by omega
  have a6 : (-1074 : Int) + ((t.log2 + 1023 - 1 : Nat) : Int) = -((52 - t.log2 : Nat) : Int):=by omega
  rw [a5,a6]
  rfl
theorem add_F (a b : Nat) (h : a + b < 2 ^ 53) : double.add (F a) (F b) = some (F (a + b)):=by
 unfold Format.add
 rw [read_F a (by omega),read_F b (by omega)]
 generalize pl a = p
 generalize pl b = q
 simp only [Datum.sum,Option.map_some,Format.write,signed,Bool.false_eq_true,if_false,Nat.shiftLeft_eq]
 have e0 : min (-(p : Int)) (-(q : Int)) = -((max p q : Nat) : Int):=by omega
 rw [e0]
 have e1 : (-(p : Int) - -((max p q : Nat) : Int)).toNat = max p q - p:=by omega
 have e2 : (-(q : Int) - -((max p q : Nat) : Int)).toNat = max p q - q:=by omega
 rw [e1,e2]
 have e3 : a * 2 ^ p * 2 ^ (max p q - p) = a * 2 ^ max p q:=by rw [Nat.mul_assoc,<- Nat.pow_add]; congr 2; omega
 have e4 : b * 2 ^ q * 2 ^ (max p q - q) = b * 2 ^ max p q:=by rw [Nat.mul_assoc,<- Nat.pow_add]; congr 2; omega
 rw [e3,e4]
 generalize max p q = M
 have e5 : ((a * 2 ^ M : Nat) : Int) + ((b * 2 ^ M : Nat) : Int) = (((a + b) * 2 ^ M : Nat) : Int):=by rw [Nat.add_mul,Int.natCast_add]
 rw [e5]
 have e6 : (if (((a + b) * 2 ^ M : Nat) : Int) = 0 then (false && false) else decide ((((a + b) * 2 ^ M : Nat) : Int) < 0)) = false:=by
  split
  ·rfl
  ·exact decide_eq_false (Int.not_lt.2 (Int.natCast_nonneg _))
 rw [e6,Int.natAbs_natCast,nearest_scale _ _ h]
theorem mul_F (a b : Nat) (h : a * b < 2 ^ 53) (ha : a < 2 ^ 53) (hb : b < 2 ^ 53) : double.mul (F a) (F b) = some (F (a * b)):=by
 unfold Format.mul
 rw [read_F a ha,read_F b hb]
 generalize pl a = p
 generalize pl b = q
 simp only [Datum.product,Option.map_some,Format.write,Bool.xor_false]
 have e : a * 2 ^ p * (b * 2 ^ q) = (a * b) * 2 ^ (p + q):=by
  rw [Nat.pow_add]; ac_rfl
 have e2 : -(p : Int) + -(q : Int) = -((p + q : Nat) : Int):=by omega
 rw [e,e2,nearest_scale _ _ h]
theorem cmp_lt {a b : Nat} (h : a < b) : compare a b = .lt:=Nat.compare_eq_lt.2 h
theorem cmp_self (a : Nat) : compare a a = .eq:=Nat.compare_eq_eq.2 rfl
theorem cmp_gt {a b : Nat} (h : b < a) : compare a b = .gt:=Nat.compare_eq_gt.2 h
theorem cmp_int (a b : Nat) : compare (a : Int) (b : Int) = compare a b:=by
 rcases Nat.lt_trichotomy a b with h | h | h
 ·rw [cmp_lt h]; simp only [compare,compareOfLessAndEq]; rw [if_pos (by omega)]
 ·subst h; rw [cmp_self]; simp [compare,compareOfLessAndEq]
 ·rw [cmp_gt h]; simp only [compare,compareOfLessAndEq]; rw [if_neg (by omega),if_neg (by omega)]
theorem order_F (a b : Nat) (ha : a < 2 ^ 53) (hb : b < 2 ^ 53) : double.order (F a) (F b) = some (compare a b):=by
 unfold Format.order
 rw [read_F a ha,read_F b hb]
 generalize pl a = p
 generalize pl b = q
 simp only [Datum.order,signed,Bool.false_eq_true,if_false,Nat.shiftLeft_eq]
 have e0 : min (-(p : Int)) (-(q : Int)) = -((max p q : Nat) : Int):=by omega
 rw [e0]
 have e1 : (-(p : Int) - -((max p q : Nat) : Int)).toNat = max p q - p:=by omega
 have e2 : (-(q : Int) - -((max p q : Nat) : Int)).toNat = max p q - q:=by omega
 rw [e1,e2]
 have e3 : a * 2 ^ p * 2 ^ (max p q - p) = a * 2 ^ max p q:=by rw [Nat.mul_assoc,<- Nat.pow_add]; congr 2; omega
 have e4 : b * 2 ^ q * 2 ^ (max p q - q) = b * 2 ^ max p q:=by rw [Nat.mul_assoc,<- Nat.pow_add]; congr 2; omega
 rw [e3,e4]
 generalize max p q = M
 have hM:=Nat.two_pow_pos M
 congr 1
 rw [cmp_int]
 rcases Nat.lt_trichotomy a b with h | h | h
 ·have h1 : a * 2 ^ M < b * 2 ^ M:=Nat.mul_lt_mul_of_pos_right h hM
  rw [cmp_lt h1,cmp_lt h]
 ·subst h
  rw [cmp_self _,cmp_self _]
 ·have h1 : b * 2 ^ M < a * 2 ^ M:=Nat.mul_lt_mul_of_pos_right h hM
  rw [cmp_gt h1,cmp_gt h]
theorem toInt_F (a : Nat) (ha : a < 2 ^ 53) : (double.read (F a)).toInt .zero = some (a : Int):=by
 rw [read_F a ha]
 generalize pl a = p
 simp only [Datum.toInt,Datum.integral,signed,Bool.false_eq_true,if_false]
 have e1 : (-(p : Int)).toNat = 0:=by omega
 have e2 : (- -(p : Int)).toNat = p:=by omega
 rw [e1,e2]
 simp only [Nat.shiftLeft_zero]
 rw [cut_exact _ _ _ (.inr rfl)]
theorem ofInt_F (n : Nat) : floatOfInt .f64 (n : Int) = F n:=by
 unfold floatOfInt FloatKind.nearest FloatKind.encode F
 have : decide ((n : Int) < 0) = false:=by simp
 rw [this]
 rfl
theorem bits_add (a b : Nat) (h : a + b < 2 ^ 53) : floatBits .add .f64 (F a) (F b) = some (F (a + b)):=add_F a b h
theorem bits_mul (a b : Nat) (h : a * b < 2 ^ 53) (ha : a < 2 ^ 53) (hb : b < 2 ^ 53) : floatBits .mul .f64 (F a) (F b) = some (F (a * b)):=mul_F a b h ha hb
theorem order_f64 (a b : Nat) (ha : a < 2 ^ 53) (hb : b < 2 ^ 53) : FloatKind.f64.format.order (F a) (F b) = some (compare a b):=order_F a b ha hb
theorem int_F (a : Nat) (ha : a < 2 ^ 53) : floatToIntVal .f64 (F a) .i64 = some (a : Int):=by
 unfold floatToIntVal FloatKind.decode
 have : (FloatKind.f64.format.read (F a)).toInt .zero = some (a : Int):=toInt_F a ha
 rw [this]
 have h : IntKind.i64.min <= (a : Int) /\ (a : Int) <= IntKind.i64.max:=by
  have h1 : IntKind.i64.min = -9223372036854775808:=by decide
  have h2 : IntKind.i64.max = 9223372036854775807:=by decide
  omega
 simp only [if_pos h]
end Go.Proofs.YtbllpnjappddeaaGreat.FI
