/- Package comitiaref2, Sum: the sums of a piece. -/
import Derived.Test.YtbllpnjappddeaaGreatKRfI
import Derived.Test.YtbllpnjappddeaaGreatKRsL
import Derived.Test.YtbllpnjappddeaaGreatKRsN
import Derived.Test.YtbllpnjappddeaaGreatKWkE
import Derived.RangeFuncNested
import Derived.RangeFuncFrom
import Derived.RangeFuncBound
import Derived.RangeFuncCalls
import Derived.RangeFuncLeaves
import Derived.Shelf.Abstract
import Derived.Shelf.RegionOpen
import Derived.WalkKit
import Derived.OwnWalkIn
import Derived.TacticsInMore
import Derived.LoopNIn
import Derived.LoopIn
import Derived.Test.YtbllpnjappddeaaGreatKLibInsert
import Derived.Test.YtbllpnjappddeaaGreatKWkA
set_option linter.unusedVariables false
set_option linter.unusedSimpArgs false
section
set_option linter.unusedSimpArgs false
set_option linter.unusedVariables false
set_option maxRecDepth 100000
namespace Go.Proofs.YtbllpnjappddeaaGreat.Den
open Go.RowKit
attribute [local simp] runList aop abuiltin acall awanted ayielded env T0 tput tset Ran aload astore setMany upd binV aslice aindexAddr apart aindex alen acopy srcCells natOf boundOf aeq AV.nilEq convV appK fillA List.range List.range.loop onF isU8 rowOf
set_option maxHeartbeats 1000000 in
theorem loopD {nm : Name} {x : AV} {H : AHeap} {l : List UInt8} {s t : W8} {q n8 n15 : Name} {Kp p : Nat} {w : List Nat} {Q : Exit -> Nat -> Temps -> AHeap -> Prop} {c : Nat} {T : Temps} {H2 : AHeap}
  (f5 : H (5 :: nm) = none) (hq5 : q ≠ 5 :: nm) (h85 : n8 ≠ 5 :: nm) (h155 : n15 ≠ 5 :: nm)
  (hb : SB nm x H (listN s) T H2) (t5 : T 5 = .sl q 0 (64 * Kp) 1) (t8 : T 8 = .ptr n8 0) (t9 : T 9 = vi (p : Nat)) (t15 : T 15 = .ptr n15 0) (t20 : T 20 = vi ((0 : Nat) : Int)) (hr : H2 q = some (bs (padOf l))) (hW : H2 n8 = some (ws w)) (hA : H2 n15 = some (ws (listN t)))
  (hQ : ∀ c T H2,SB nm x H (addW s t) T H2 -> T 5 = .sl q 0 (64 * Kp) 1 -> T 8 = .ptr n8 0 -> T 9 = vi (p : Nat) -> H2 q = some (bs (padOf l)) -> H2 n8 = some (ws w) -> Q (.exit 12) c T H2) :
  AWP Tryz.prog nm Tryz.f390.ntmps (sum2Code [1,1,1,1,1,1,1,1,1,0,1,2,3,1,0,2,1,1,1,1,1,2]) Q c T H2:=by
 have hcall:=onF_ok words_ok (onF_ok rot_ok (@noCall_ok Tryz.prog))
 dsimp only [sum2Code,codeAt,Tryz.f390,Option.getD]
 refine AWP.loop (fun m c T H2 => ∃ i,i <= 8 /\ m = 8 - i /\ SB nm x H (sP s t i) T H2 /\ T 5 = .sl q 0 (64 * Kp) 1 /\ T 8 = .ptr n8 0 /\ T 9 = vi (p : Nat) /\ T 15 = .ptr n15 0 /\ T 20 = vi (i : Nat) /\ H2 q = some (bs (padOf l)) /\ H2 n8 = some (ws w) /\ H2 n15 = some (ws (listN t))) 8 ⟨0,by omega,rfl,hb,t5,t8,t9,t15,t20,hr,hW,hA⟩ ?_
 clear t5 hr hb t8 t9 hW t15 t20 hA T H2 c
 rintro _ c T H2 ⟨i,hi,rfl,hb,t5,t8,t9,t15,t20,hr,hW,hA⟩
 by_cases hi8 : i < 8
 ·have hii : (i : Int) < 8:=by omega
  have hw5 : IntKind.i64.wrap ((i : Int) + 1) = ((i + 1 : Nat) : Int):=by rw [IntKind.wrap_i64]; omega
  have hset:=ws_set (sP s t i) i (addN ((listN s).getD i 0) ((listN t).getD i 0))
  rw [sP_set s t hi8] at hset
  have hg4:=ws_getD (l:=sP s t i) (i:=i) (by rw [sP_length s t hi]; exact hi8)
  rw [sP_get s t hi8] at hg4
  have hg15:=ws_getD (l:=listN t) (i:=i) (by exact hi8)
  have d1:=b32_add ((listN s).getD i 0) ((listN t).getD i 0)
  obtain ⟨sv,hsv⟩ : ∃ r,r = (listN s).getD i 0:=⟨_,rfl⟩
  obtain ⟨tv,htv⟩ : ∃ r,r = (listN t).getD i 0:=⟨_,rfl⟩
  rw [<- hsv,<- htv] at hset d1
  rw [<- hsv] at hg4
  rw [<- htv] at hg15
  obtain ⟨av,hav⟩ : ∃ r,r = addN sv tv:=⟨_,rfl⟩
  rw [<- hav] at hset d1
  have h4:=hb.r4
  have t4:=hb.t4
  have hl4 : (ws (sP s t i)).length = 8:=by rw [ws_length,sP_length s t hi]
  obtain ⟨row4,hr4⟩ : ∃ r,r = ws (sP s t i):=⟨_,rfl⟩
  obtain ⟨row5,hr5⟩ : ∃ r,r = ws (listN t):=⟨_,rfl⟩
  obtain ⟨rowN,hrN⟩ : ∃ r,r = ws (sP s t (i + 1)):=⟨_,rfl⟩
  rw [<- hr4] at hset hg4 h4 hl4
  rw [<- hr5] at hg15 hA
  rw [<- hrN] at hset
  have hst1 : i + 1 <= row4.length:=by omega
  have hg4' : ∀ h',row4[i]'h' = .val (.int .u32 (sv : Int)):=fun h' => by have:=hg4; rw [List.getElem?_eq_getElem h'] at this; exact Option.some.inj this
  have hst2 : i < row4.length:=by omega
  have hi7 : i <= 7:=by omega
  clear hl4 hav hsv htv
  (repeat refine AWP.seq ?_)
  refine AWP.region_last hcall rfl fun K hK => ?_
  simp [t20,hii]
  apply hK; clear hK K; simp only [onNormal,onExit]
  (repeat refine AWP.seq ?_); refine AWP.cond (b:=true) (by simp [hii]) ?_; simp only [if_true,if_false,Bool.false_eq_true]
  refine AWP.skip ?_; simp only [onNormal,onExit]
  (repeat refine AWP.seq ?_); refine AWP.block ?_
  (repeat refine AWP.seq ?_)
  refine AWP.draw_ops rfl hcall [0,1,3,0,8,24,63,127,255] [⟨0,false,[]⟩,⟨1,false,[]⟩,⟨2,false,[0]⟩,⟨3,false,[]⟩,⟨4,false,[]⟩,⟨5,false,[0]⟩,⟨6,false,[]⟩,⟨7,false,[]⟩,⟨8,true,[]⟩] rfl (by kernel_rfl) fun ops' hops K hK => ?_
  have o_0:=op_at hops 0 rfl
  have o_1:=op_at hops 1 rfl
  have o_2:=op_at hops 2 rfl
  have o_3:=op_at hops 3 rfl
  have o_4:=op_at hops 4 rfl
  have o_5:=op_at hops 5 rfl
  have o_6:=op_at hops 6 rfl
  have o_7:=op_at hops 7 rfl
  have o_8:=op_at hops 8 rfl
  have o_sz : ops'.size = 9:=op_sz hops rfl
  clear hops
  refine planW_ex o_0 rfl rfl ⟨_,by simp [-binV,t4,t15,t20,h4,hA,hg4,hg4',hg15,hi7,hi8,hst1,hst2,d1,hset]; try rfl,trivial,?_⟩
  clear o_0
  refine planW_ex o_1 rfl rfl ⟨_,by simp [-binV,t4,t15,t20,h4,hA,hg4,hg4',hg15,hi7,hi8,hst1,hst2,d1,hset]; try rfl,trivial,?_⟩
  clear o_1
  refine planW_ex o_2 rfl rfl ⟨_,by simp [-binV,t4,t15,t20,h4,hA,hg4,hg4',hg15,hi7,hi8,hst1,hst2,d1,hset]; try rfl,by simp [chkW,List.lookup,-binV,t4,t15,t20,h4,hA,hg4,hg4',hg15,hi7,hi8,hst1,hst2,d1,hset],?_⟩
  clear o_2
  refine planW_ex o_3 rfl rfl ⟨_,by simp [-binV,t4,t15,t20,h4,hA,hg4,hg4',hg15,hi7,hi8,hst1,hst2,d1,hset]; try rfl,trivial,?_⟩
  clear o_3
  refine planW_ex o_4 rfl rfl ⟨_,by simp [-binV,t4,t15,t20,h4,hA,hg4,hg4',hg15,hi7,hi8,hst1,hst2,d1,hset]; try rfl,trivial,?_⟩
  clear o_4
  refine planW_ex o_5 rfl rfl ⟨_,by simp [-binV,t4,t15,t20,h4,hA,hg4,hg4',hg15,hi7,hi8,hst1,hst2,d1,hset]; try rfl,by simp [chkW,List.lookup,-binV,t4,t15,t20,h4,hA,hg4,hg4',hg15,hi7,hi8,hst1,hst2,d1,hset],?_⟩
  clear o_5
  refine planW_ex o_6 rfl rfl ⟨_,by simp [-binV,t4,t15,t20,h4,hA,hg4,hg4',hg15,hi7,hi8,hst1,hst2,d1,hset]; try rfl,trivial,?_⟩
  clear o_6
  refine planW_ex o_7 rfl rfl ⟨_,by simp [-binV,t4,t15,t20,h4,hA,hg4,hg4',hg15,hi7,hi8,hst1,hst2,d1,hset]; try rfl,trivial,?_⟩
  clear o_7
  refine planW_ex o_8 rfl rfl ⟨_,by simp [-binV,t4,t15,t20,h4,hA,hg4,hg4',hg15,hi7,hi8,hst1,hst2,d1,hset]; try rfl,trivial,?_⟩
  clear o_8
  refine planW_end o_sz ?_
  apply hK; clear hK K o_sz; simp only [onNormal,onExit,tput]
  (repeat refine AWP.seq ?_)
  refine AWP.region_last hcall rfl fun K hK => ?_
  simp [t20,hw5]
  apply hK; clear hK K; simp only [onNormal,onExit]
  rw [hrN]
  refine ⟨8 - (i + 1),by omega,i + 1,by omega,rfl,SB.temps (SB.set4 hb f5) (fun j hj => by repeat rw [tset_ge hj rfl]),by simp [t5],by simp [t8],by simp [t9],by simp [t15],by simp,?_,?_,?_⟩
  ·rw [upd_ne _ _ hq5]; exact hr
  ·rw [upd_ne _ _ h85]; exact hW
  ·rw [upd_ne _ _ h155,<- hr5]; exact hA
 obtain rfl : i = 8:=by omega
 (repeat refine AWP.seq ?_)
 refine AWP.region_last hcall rfl fun K hK => ?_
 simp [t20]
 apply hK; clear hK K; simp only [onNormal,onExit]
 (repeat refine AWP.seq ?_); refine AWP.cond (b:=false) (by simp) ?_; simp only [if_true,if_false,Bool.false_eq_true]
 refine AWP.exit ?_; simp only [onNormal]
 rw [sP_all] at hb
 exact hQ _ _ _ (SB.temps hb (fun j hj => by repeat rw [tset_ge hj rfl])) (by simp [t5]) (by simp [t8]) (by simp [t9]) hr hW
end Go.Proofs.YtbllpnjappddeaaGreat.Den
end
section
set_option linter.unusedSimpArgs false
set_option linter.unusedVariables false
set_option maxRecDepth 100000
namespace Go.Proofs.YtbllpnjappddeaaGreat.Den
open Go.RowKit
attribute [local simp] runList aop abuiltin acall awanted ayielded env T0 tput tset Ran aload astore setMany upd binV aslice aindexAddr apart aindex alen acopy srcCells natOf boundOf aeq AV.nilEq convV appK fillA List.range List.range.loop onF isU8 rowOf
theorem outB_at (t : List Nat) (i r : Nat) (hr : r < 4) : outB t (4 * i + r) = UInt8.ofNat (t.getD i 0 / 2 ^ (24 - 8 * r)):=by
 unfold outB
 rw [show (4 * i + r) / 4 = i by omega,show (4 * i + r) % 4 = r by omega]
theorem dOut (t : List Nat) (i : Nat) {tv : Nat} (h : tv = t.getD i 0) : ∃ v24 v16 v8 b0 b1 b2 b3 : Nat,b0 = (outB t (4 * i)).toNat /\ b1 = (outB t (4 * i + 1)).toNat /\ b2 = (outB t (4 * i + 2)).toNat /\ b3 = (outB t (4 * i + 3)).toNat /\
  binV .shr (.int .u32 (tv : Int)) (.int .u64 24) = some (.int .u32 (v24 : Int)) /\ binV .shr (.int .u32 (tv : Int)) (.int .u64 16) = some (.int .u32 (v16 : Int)) /\ binV .shr (.int .u32 (tv : Int)) (.int .u64 8) = some (.int .u32 (v8 : Int)) /\
  IntKind.u8.wrap (v24 : Int) = (b0 : Int) /\ IntKind.u8.wrap (v16 : Int) = (b1 : Int) /\ IntKind.u8.wrap (v8 : Int) = (b2 : Int) /\ IntKind.u8.wrap (tv : Int) = (b3 : Int):=by
 have h0:=outB_at t i 0 (by omega)
 have h1:=outB_at t i 1 (by omega)
 have h2:=outB_at t i 2 (by omega)
 have h3:=outB_at t i 3 (by omega)
 rw [<- h] at h0 h1 h2 h3
 refine ⟨_,_,_,_,_,_,_,rfl,rfl,rfl,rfl,r24 tv,r16 tv,r8 tv,?_,?_,?_,?_⟩
 ·rw [wu8,show 4 * i = 4 * i + 0 by omega,h0,rsh,Nat.shiftRight_eq_div_pow]
 ·rw [wu8,h1,rsh,Nat.shiftRight_eq_div_pow]
 ·rw [wu8,h2,rsh,Nat.shiftRight_eq_div_pow]
 ·rw [wu8,h3]; simp
set_option maxHeartbeats 1000000 in
theorem loopE {nm : Name} {x : AV} {H : AHeap} {t : List Nat} {n21 : Name} {Q : Exit -> Nat -> Temps -> AHeap -> Prop} {c : Nat} {T : Temps} {H2 : AHeap}
  (ht : t.length = 8) (h21 : H n21 = none) (w0' : 0 :: nm ≠ n21) (w2' : 2 :: nm ≠ n21) (w5' : 5 :: nm ≠ n21)
  (hb : SB nm x H t T H2) (t21 : T 21 = .ptr n21 0) (t22 : T 22 = vi ((0 : Nat) : Int)) (hO : H2 n21 = some (bz 32))
  (hQ : ∀ c T H2,SB nm x H t T H2 -> T 21 = .ptr n21 0 -> H2 n21 = some (bs (outP t 32)) -> Q (.exit 14) c T H2) :
  AWP Tryz.prog nm Tryz.f390.ntmps (sum2Code [1,1,1,1,1,1,1,1,1,1,1,0,1,2]) Q c T H2:=by
 have hcall:=onF_ok words_ok (onF_ok rot_ok (@noCall_ok Tryz.prog))
 dsimp only [sum2Code,codeAt,Tryz.f390,Option.getD]
 refine AWP.loop (fun m c T H2 => ∃ i,i <= 8 /\ m = 8 - i /\ SB nm x H t T H2 /\ T 21 = .ptr n21 0 /\ T 22 = vi (i : Nat) /\ H2 n21 = some (bs (outP t (4 * i)) ++ bz (32 - 4 * i))) 8 ⟨0,by omega,rfl,hb,t21,t22,by rw [hO]; simp [outP,bs]⟩ ?_
 clear hb t21 t22 hO T H2 c
 rintro _ c T H2 ⟨i,hi,rfl,hb,t21,t22,hO⟩
 by_cases hi8 : i < 8
 ·have hii : (i : Int) < 8:=by omega
  have hw5 : IntKind.i64.wrap ((i : Int) + 1) = ((i + 1 : Nat) : Int):=by rw [IntKind.wrap_i64]; omega
  have hgT:=ws_getD (l:=t) (i:=i) (by omega)
  obtain ⟨tv,htv⟩ : ∃ r,r = t.getD i 0:=⟨_,rfl⟩
  rw [<- htv] at hgT
  obtain ⟨v24,v16,v8,b0,b1,b2,b3,hb0,hb1,hb2,hb3,k1,k2,k3,c0,c1,c2,c3⟩:=dOut t i htv
  have s0:=out_set t (4 * i) (by omega)
  have s1:=out_set t (4 * i + 1) (by omega)
  have s2:=out_set t (4 * i + 2) (by omega)
  have s3:=out_set t (4 * i + 3) (by omega)
  rw [<- hb0] at s0
  rw [<- hb1] at s1
  rw [<- hb2] at s2
  rw [<- hb3] at s3
  have hlr : ∀ j,j <= 32 -> (bs (outP t j) ++ bz (32 - j)).length = 32:=fun j hj => by
   rw [List.length_append,bs_length,outP_length,bz,List.length_replicate]; omega
  have l0:=hlr (4 * i) (by omega)
  have l1:=hlr (4 * i + 1) (by omega)
  have l2:=hlr (4 * i + 2) (by omega)
  have l3:=hlr (4 * i + 3) (by omega)
  obtain ⟨P0,hP0⟩ : ∃ r,r = 4 * i:=⟨_,rfl⟩
  obtain ⟨P1,hP1⟩ : ∃ r,r = 4 * i + 1:=⟨_,rfl⟩
  obtain ⟨P2,hP2⟩ : ∃ r,r = 4 * i + 2:=⟨_,rfl⟩
  obtain ⟨P3,hP3⟩ : ∃ r,r = 4 * i + 3:=⟨_,rfl⟩
  have hw0 : IntKind.i64.wrap (4 * (i : Int)) = (P0 : Int):=by rw [IntKind.wrap_i64]; omega
  have hw1 : IntKind.i64.wrap ((P0 : Int) + 1) = (P1 : Int):=by rw [IntKind.wrap_i64]; omega
  have hw2 : IntKind.i64.wrap ((P0 : Int) + 2) = (P2 : Int):=by rw [IntKind.wrap_i64]; omega
  have hw3 : IntKind.i64.wrap ((P0 : Int) + 3) = (P3 : Int):=by rw [IntKind.wrap_i64]; omega
  obtain ⟨row0,hr0⟩ : ∃ r,r = bs (outP t (4 * i)) ++ bz (32 - 4 * i):=⟨_,rfl⟩
  obtain ⟨row1,hr1⟩ : ∃ r,r = bs (outP t (4 * i + 1)) ++ bz (32 - (4 * i + 1)):=⟨_,rfl⟩
  obtain ⟨row2,hr2⟩ : ∃ r,r = bs (outP t (4 * i + 1 + 1)) ++ bz (32 - (4 * i + 1 + 1)):=⟨_,rfl⟩
  obtain ⟨row3,hr3⟩ : ∃ r,r = bs (outP t (4 * i + 2 + 1)) ++ bz (32 - (4 * i + 2 + 1)):=⟨_,rfl⟩
  obtain ⟨row4,hr4⟩ : ∃ r,r = bs (outP t (4 * i + 3 + 1)) ++ bz (32 - (4 * i + 3 + 1)):=⟨_,rfl⟩
  have e2 : bs (outP t (4 * i + 2)) ++ bz (32 - (4 * i + 2)) = row2:=by rw [hr2]
  have e3 : bs (outP t (4 * i + 3)) ++ bz (32 - (4 * i + 3)) = row3:=by rw [hr3]
  rw [<- hr0] at hO s0 l0
  rw [<- hr1] at s0 s1 l1
  rw [e2] at s2 l2
  rw [<- hr2] at s1
  rw [e3] at s3 l3
  rw [<- hr3] at s2
  rw [<- hr4] at s3
  rw [<- hP0] at s0
  rw [<- hP1] at s1
  rw [<- hP2] at s2
  rw [<- hP3] at s3
  have h4:=hb.r4
  have t4:=hb.t4
  obtain ⟨rowT,hrT⟩ : ∃ r,r = ws t:=⟨_,rfl⟩
  rw [<- hrT] at hgT h4
  have b0' : P0 <= 31:=by omega
  have b1' : P1 <= 31:=by omega
  have b2' : P2 <= 31:=by omega
  have b3' : P3 <= 31:=by omega
  have b0'' : P0 < 32:=by omega
  have b1'' : P1 < 32:=by omega
  have b2'' : P2 < 32:=by omega
  have b3'' : P3 < 32:=by omega
  have hi7 : i <= 7:=by omega
  clear hb0 hb1 hb2 hb3 htv
  (repeat refine AWP.seq ?_)
  refine AWP.region_last hcall rfl fun K hK => ?_
  simp [t22,hii]
  apply hK; clear hK K; simp only [onNormal,onExit]
  (repeat refine AWP.seq ?_); refine AWP.cond (b:=true) (by simp [hii]) ?_; simp only [if_true,if_false,Bool.false_eq_true]
  refine AWP.skip ?_; simp only [onNormal,onExit]
  (repeat refine AWP.seq ?_); refine AWP.block ?_
  (repeat refine AWP.seq ?_)
  refine AWP.draw_ops rfl hcall [0,1,0,4,12,0,32,96,0,256,768,0,2048,6144,14336,30720,0,65536,196608,458752,983040,0,2097152,6291456,14680064,31457280,0,67108864,201326592,469762048,63491,1073805315,3223320607,7518287903,16173234431,33353103615,68719476735,137438953471] [⟨0,false,[]⟩,⟨1,false,[]⟩,⟨11,false,[]⟩,⟨12,false,[]⟩,⟨13,false,[0]⟩,⟨14,false,[]⟩,⟨15,false,[0]⟩,⟨30,false,[]⟩,⟨31,true,[]⟩,⟨2,false,[]⟩,⟨3,false,[]⟩,⟨4,false,[]⟩,⟨16,false,[]⟩,⟨17,false,[]⟩,⟨18,false,[0,9]⟩,⟨19,false,[]⟩,⟨20,false,[0,9]⟩,⟨32,false,[]⟩,⟨33,true,[]⟩,⟨5,false,[]⟩,⟨6,false,[]⟩,⟨7,false,[]⟩,⟨21,false,[]⟩,⟨22,false,[]⟩,⟨23,false,[0,9,19]⟩,⟨24,false,[]⟩,⟨25,false,[0,9,19]⟩,⟨34,false,[]⟩,⟨35,true,[]⟩,⟨8,false,[]⟩,⟨9,false,[]⟩,⟨10,false,[]⟩,⟨26,false,[]⟩,⟨27,false,[]⟩,⟨28,false,[0,9,19,29]⟩,⟨29,false,[0,9,19,29]⟩,⟨36,false,[]⟩,⟨37,true,[]⟩] rfl (by kernel_rfl) fun ops' hops K hK => ?_
  have o_0:=op_at hops 0 rfl
  have o_1:=op_at hops 1 rfl
  have o_2:=op_at hops 2 rfl
  have o_3:=op_at hops 3 rfl
  have o_4:=op_at hops 4 rfl
  have o_5:=op_at hops 5 rfl
  have o_6:=op_at hops 6 rfl
  have o_7:=op_at hops 7 rfl
  have o_8:=op_at hops 8 rfl
  have o_9:=op_at hops 9 rfl
  have o_10:=op_at hops 10 rfl
  have o_11:=op_at hops 11 rfl
  have o_12:=op_at hops 12 rfl
  have o_13:=op_at hops 13 rfl
  have o_14:=op_at hops 14 rfl
  have o_15:=op_at hops 15 rfl
  have o_16:=op_at hops 16 rfl
  have o_17:=op_at hops 17 rfl
  have o_18:=op_at hops 18 rfl
  have o_19:=op_at hops 19 rfl
  have o_20:=op_at hops 20 rfl
  have o_21:=op_at hops 21 rfl
  have o_22:=op_at hops 22 rfl
  have o_23:=op_at hops 23 rfl
  have o_24:=op_at hops 24 rfl
  have o_25:=op_at hops 25 rfl
  have o_26:=op_at hops 26 rfl
  have o_27:=op_at hops 27 rfl
  have o_28:=op_at hops 28 rfl
  have o_29:=op_at hops 29 rfl
  have o_30:=op_at hops 30 rfl
  have o_31:=op_at hops 31 rfl
  have o_32:=op_at hops 32 rfl
  have o_33:=op_at hops 33 rfl
  have o_34:=op_at hops 34 rfl
  have o_35:=op_at hops 35 rfl
  have o_36:=op_at hops 36 rfl
  have o_37:=op_at hops 37 rfl
  have o_sz : ops'.size = 38:=op_sz hops rfl
  clear hops
  refine planW_ex o_0 rfl rfl ⟨_,by simp [-binV,w5',t4,t21,t22,h4,hO,hgT,hi7,hi8,bi_mul,bi_add,hw0,hw1,hw2,hw3,k1,k2,k3,c0,c1,c2,c3,s0,s1,s2,s3,l0,l1,l2,l3,b0',b1',b2',b3',b0'',b1'',b2'',b3'']; try rfl,trivial,?_⟩
  clear o_0
  refine planW_ex o_1 rfl rfl ⟨_,by simp [-binV,w5',t4,t21,t22,h4,hO,hgT,hi7,hi8,bi_mul,bi_add,hw0,hw1,hw2,hw3,k1,k2,k3,c0,c1,c2,c3,s0,s1,s2,s3,l0,l1,l2,l3,b0',b1',b2',b3',b0'',b1'',b2'',b3'']; try rfl,trivial,?_⟩
  clear o_1
  refine planW_ex o_11 rfl rfl ⟨_,by simp [-binV,w5',t4,t21,t22,h4,hO,hgT,hi7,hi8,bi_mul,bi_add,hw0,hw1,hw2,hw3,k1,k2,k3,c0,c1,c2,c3,s0,s1,s2,s3,l0,l1,l2,l3,b0',b1',b2',b3',b0'',b1'',b2'',b3'']; try rfl,trivial,?_⟩
  clear o_11
  refine planW_ex o_12 rfl rfl ⟨_,by simp [-binV,w5',t4,t21,t22,h4,hO,hgT,hi7,hi8,bi_mul,bi_add,hw0,hw1,hw2,hw3,k1,k2,k3,c0,c1,c2,c3,s0,s1,s2,s3,l0,l1,l2,l3,b0',b1',b2',b3',b0'',b1'',b2'',b3'']; try rfl,trivial,?_⟩
  clear o_12
  refine planW_ex o_13 rfl rfl ⟨_,by simp [-binV,w5',t4,t21,t22,h4,hO,hgT,hi7,hi8,bi_mul,bi_add,hw0,hw1,hw2,hw3,k1,k2,k3,c0,c1,c2,c3,s0,s1,s2,s3,l0,l1,l2,l3,b0',b1',b2',b3',b0'',b1'',b2'',b3'']; try rfl,by simp [chkW,List.lookup,-binV,w5',t4,t21,t22,h4,hO,hgT,hi7,hi8,bi_mul,bi_add,hw0,hw1,hw2,hw3,k1,k2,k3,c0,c1,c2,c3,s0,s1,s2,s3,l0,l1,l2,l3,b0',b1',b2',b3',b0'',b1'',b2'',b3''],?_⟩
  clear o_13
  refine planW_ex o_14 rfl rfl ⟨_,by simp [-binV,w5',t4,t21,t22,h4,hO,hgT,hi7,hi8,bi_mul,bi_add,hw0,hw1,hw2,hw3,k1,k2,k3,c0,c1,c2,c3,s0,s1,s2,s3,l0,l1,l2,l3,b0',b1',b2',b3',b0'',b1'',b2'',b3'']; try rfl,trivial,?_⟩
  clear o_14
  refine planW_ex o_15 rfl rfl ⟨_,by simp [-binV,w5',t4,t21,t22,h4,hO,hgT,hi7,hi8,bi_mul,bi_add,hw0,hw1,hw2,hw3,k1,k2,k3,c0,c1,c2,c3,s0,s1,s2,s3,l0,l1,l2,l3,b0',b1',b2',b3',b0'',b1'',b2'',b3'']; try rfl,by simp [chkW,List.lookup,-binV,w5',t4,t21,t22,h4,hO,hgT,hi7,hi8,bi_mul,bi_add,hw0,hw1,hw2,hw3,k1,k2,k3,c0,c1,c2,c3,s0,s1,s2,s3,l0,l1,l2,l3,b0',b1',b2',b3',b0'',b1'',b2'',b3''],?_⟩
  clear o_15
  refine planW_ex o_30 rfl rfl ⟨_,by simp [-binV,w5',t4,t21,t22,h4,hO,hgT,hi7,hi8,bi_mul,bi_add,hw0,hw1,hw2,hw3,k1,k2,k3,c0,c1,c2,c3,s0,s1,s2,s3,l0,l1,l2,l3,b0',b1',b2',b3',b0'',b1'',b2'',b3'']; try rfl,trivial,?_⟩
  clear o_30
  refine planW_ex o_31 rfl rfl ⟨_,by simp [-binV,w5',t4,t21,t22,h4,hO,hgT,hi7,hi8,bi_mul,bi_add,hw0,hw1,hw2,hw3,k1,k2,k3,c0,c1,c2,c3,s0,s1,s2,s3,l0,l1,l2,l3,b0',b1',b2',b3',b0'',b1'',b2'',b3'']; try rfl,trivial,?_⟩
  clear o_31
  refine planW_ex o_2 rfl rfl ⟨_,by simp [-binV,w5',t4,t21,t22,h4,hO,hgT,hi7,hi8,bi_mul,bi_add,hw0,hw1,hw2,hw3,k1,k2,k3,c0,c1,c2,c3,s0,s1,s2,s3,l0,l1,l2,l3,b0',b1',b2',b3',b0'',b1'',b2'',b3'']; try rfl,trivial,?_⟩
  clear o_2
  refine planW_ex o_3 rfl rfl ⟨_,by simp [-binV,w5',t4,t21,t22,h4,hO,hgT,hi7,hi8,bi_mul,bi_add,hw0,hw1,hw2,hw3,k1,k2,k3,c0,c1,c2,c3,s0,s1,s2,s3,l0,l1,l2,l3,b0',b1',b2',b3',b0'',b1'',b2'',b3'']; try rfl,trivial,?_⟩
  clear o_3
  refine planW_ex o_4 rfl rfl ⟨_,by simp [-binV,w5',t4,t21,t22,h4,hO,hgT,hi7,hi8,bi_mul,bi_add,hw0,hw1,hw2,hw3,k1,k2,k3,c0,c1,c2,c3,s0,s1,s2,s3,l0,l1,l2,l3,b0',b1',b2',b3',b0'',b1'',b2'',b3'']; try rfl,trivial,?_⟩
  clear o_4
  refine planW_ex o_16 rfl rfl ⟨_,by simp [-binV,w5',t4,t21,t22,h4,hO,hgT,hi7,hi8,bi_mul,bi_add,hw0,hw1,hw2,hw3,k1,k2,k3,c0,c1,c2,c3,s0,s1,s2,s3,l0,l1,l2,l3,b0',b1',b2',b3',b0'',b1'',b2'',b3'']; try rfl,trivial,?_⟩
  clear o_16
  refine planW_ex o_17 rfl rfl ⟨_,by simp [-binV,w5',t4,t21,t22,h4,hO,hgT,hi7,hi8,bi_mul,bi_add,hw0,hw1,hw2,hw3,k1,k2,k3,c0,c1,c2,c3,s0,s1,s2,s3,l0,l1,l2,l3,b0',b1',b2',b3',b0'',b1'',b2'',b3'']; try rfl,trivial,?_⟩
  clear o_17
  refine planW_ex o_18 rfl rfl ⟨_,by simp [-binV,w5',t4,t21,t22,h4,hO,hgT,hi7,hi8,bi_mul,bi_add,hw0,hw1,hw2,hw3,k1,k2,k3,c0,c1,c2,c3,s0,s1,s2,s3,l0,l1,l2,l3,b0',b1',b2',b3',b0'',b1'',b2'',b3'']; try rfl,by simp [chkW,List.lookup,-binV,w5',t4,t21,t22,h4,hO,hgT,hi7,hi8,bi_mul,bi_add,hw0,hw1,hw2,hw3,k1,k2,k3,c0,c1,c2,c3,s0,s1,s2,s3,l0,l1,l2,l3,b0',b1',b2',b3',b0'',b1'',b2'',b3''],?_⟩
  clear o_18
  refine planW_ex o_19 rfl rfl ⟨_,by simp [-binV,w5',t4,t21,t22,h4,hO,hgT,hi7,hi8,bi_mul,bi_add,hw0,hw1,hw2,hw3,k1,k2,k3,c0,c1,c2,c3,s0,s1,s2,s3,l0,l1,l2,l3,b0',b1',b2',b3',b0'',b1'',b2'',b3'']; try rfl,trivial,?_⟩
  clear o_19
  refine planW_ex o_20 rfl rfl ⟨_,by simp [-binV,w5',t4,t21,t22,h4,hO,hgT,hi7,hi8,bi_mul,bi_add,hw0,hw1,hw2,hw3,k1,k2,k3,c0,c1,c2,c3,s0,s1,s2,s3,l0,l1,l2,l3,b0',b1',b2',b3',b0'',b1'',b2'',b3'']; try rfl,by simp [chkW,List.lookup,-binV,w5',t4,t21,t22,h4,hO,hgT,hi7,hi8,bi_mul,bi_add,hw0,hw1,hw2,hw3,k1,k2,k3,c0,c1,c2,c3,s0,s1,s2,s3,l0,l1,l2,l3,b0',b1',b2',b3',b0'',b1'',b2'',b3''],?_⟩
  clear o_20
  refine planW_ex o_32 rfl rfl ⟨_,by simp [-binV,w5',t4,t21,t22,h4,hO,hgT,hi7,hi8,bi_mul,bi_add,hw0,hw1,hw2,hw3,k1,k2,k3,c0,c1,c2,c3,s0,s1,s2,s3,l0,l1,l2,l3,b0',b1',b2',b3',b0'',b1'',b2'',b3'']; try rfl,trivial,?_⟩
  clear o_32
  refine planW_ex o_33 rfl rfl ⟨_,by simp [-binV,w5',t4,t21,t22,h4,hO,hgT,hi7,hi8,bi_mul,bi_add,hw0,hw1,hw2,hw3,k1,k2,k3,c0,c1,c2,c3,s0,s1,s2,s3,l0,l1,l2,l3,b0',b1',b2',b3',b0'',b1'',b2'',b3'']; try rfl,trivial,?_⟩
  clear o_33
  refine planW_ex o_5 rfl rfl ⟨_,by simp [-binV,w5',t4,t21,t22,h4,hO,hgT,hi7,hi8,bi_mul,bi_add,hw0,hw1,hw2,hw3,k1,k2,k3,c0,c1,c2,c3,s0,s1,s2,s3,l0,l1,l2,l3,b0',b1',b2',b3',b0'',b1'',b2'',b3'']; try rfl,trivial,?_⟩
  clear o_5
  refine planW_ex o_6 rfl rfl ⟨_,by simp [-binV,w5',t4,t21,t22,h4,hO,hgT,hi7,hi8,bi_mul,bi_add,hw0,hw1,hw2,hw3,k1,k2,k3,c0,c1,c2,c3,s0,s1,s2,s3,l0,l1,l2,l3,b0',b1',b2',b3',b0'',b1'',b2'',b3'']; try rfl,trivial,?_⟩
  clear o_6
  refine planW_ex o_7 rfl rfl ⟨_,by simp [-binV,w5',t4,t21,t22,h4,hO,hgT,hi7,hi8,bi_mul,bi_add,hw0,hw1,hw2,hw3,k1,k2,k3,c0,c1,c2,c3,s0,s1,s2,s3,l0,l1,l2,l3,b0',b1',b2',b3',b0'',b1'',b2'',b3'']; try rfl,trivial,?_⟩
  clear o_7
  refine planW_ex o_21 rfl rfl ⟨_,by simp [-binV,w5',t4,t21,t22,h4,hO,hgT,hi7,hi8,bi_mul,bi_add,hw0,hw1,hw2,hw3,k1,k2,k3,c0,c1,c2,c3,s0,s1,s2,s3,l0,l1,l2,l3,b0',b1',b2',b3',b0'',b1'',b2'',b3'']; try rfl,trivial,?_⟩
  clear o_21
  refine planW_ex o_22 rfl rfl ⟨_,by simp [-binV,w5',t4,t21,t22,h4,hO,hgT,hi7,hi8,bi_mul,bi_add,hw0,hw1,hw2,hw3,k1,k2,k3,c0,c1,c2,c3,s0,s1,s2,s3,l0,l1,l2,l3,b0',b1',b2',b3',b0'',b1'',b2'',b3'']; try rfl,trivial,?_⟩
  clear o_22
  refine planW_ex o_23 rfl rfl ⟨_,by simp [-binV,w5',t4,t21,t22,h4,hO,hgT,hi7,hi8,bi_mul,bi_add,hw0,hw1,hw2,hw3,k1,k2,k3,c0,c1,c2,c3,s0,s1,s2,s3,l0,l1,l2,l3,b0',b1',b2',b3',b0'',b1'',b2'',b3'']; try rfl,by simp [chkW,List.lookup,-binV,w5',t4,t21,t22,h4,hO,hgT,hi7,hi8,bi_mul,bi_add,hw0,hw1,hw2,hw3,k1,k2,k3,c0,c1,c2,c3,s0,s1,s2,s3,l0,l1,l2,l3,b0',b1',b2',b3',b0'',b1'',b2'',b3''],?_⟩
  clear o_23
  refine planW_ex o_24 rfl rfl ⟨_,by simp [-binV,w5',t4,t21,t22,h4,hO,hgT,hi7,hi8,bi_mul,bi_add,hw0,hw1,hw2,hw3,k1,k2,k3,c0,c1,c2,c3,s0,s1,s2,s3,l0,l1,l2,l3,b0',b1',b2',b3',b0'',b1'',b2'',b3'']; try rfl,trivial,?_⟩
  clear o_24
  refine planW_ex o_25 rfl rfl ⟨_,by simp [-binV,w5',t4,t21,t22,h4,hO,hgT,hi7,hi8,bi_mul,bi_add,hw0,hw1,hw2,hw3,k1,k2,k3,c0,c1,c2,c3,s0,s1,s2,s3,l0,l1,l2,l3,b0',b1',b2',b3',b0'',b1'',b2'',b3'']; try rfl,by simp [chkW,List.lookup,-binV,w5',t4,t21,t22,h4,hO,hgT,hi7,hi8,bi_mul,bi_add,hw0,hw1,hw2,hw3,k1,k2,k3,c0,c1,c2,c3,s0,s1,s2,s3,l0,l1,l2,l3,b0',b1',b2',b3',b0'',b1'',b2'',b3''],?_⟩
  clear o_25
  refine planW_ex o_34 rfl rfl ⟨_,by simp [-binV,w5',t4,t21,t22,h4,hO,hgT,hi7,hi8,bi_mul,bi_add,hw0,hw1,hw2,hw3,k1,k2,k3,c0,c1,c2,c3,s0,s1,s2,s3,l0,l1,l2,l3,b0',b1',b2',b3',b0'',b1'',b2'',b3'']; try rfl,trivial,?_⟩
  clear o_34
  refine planW_ex o_35 rfl rfl ⟨_,by simp [-binV,w5',t4,t21,t22,h4,hO,hgT,hi7,hi8,bi_mul,bi_add,hw0,hw1,hw2,hw3,k1,k2,k3,c0,c1,c2,c3,s0,s1,s2,s3,l0,l1,l2,l3,b0',b1',b2',b3',b0'',b1'',b2'',b3'']; try rfl,trivial,?_⟩
  clear o_35
  refine planW_ex o_8 rfl rfl ⟨_,by simp [-binV,w5',t4,t21,t22,h4,hO,hgT,hi7,hi8,bi_mul,bi_add,hw0,hw1,hw2,hw3,k1,k2,k3,c0,c1,c2,c3,s0,s1,s2,s3,l0,l1,l2,l3,b0',b1',b2',b3',b0'',b1'',b2'',b3'']; try rfl,trivial,?_⟩
  clear o_8
  refine planW_ex o_9 rfl rfl ⟨_,by simp [-binV,w5',t4,t21,t22,h4,hO,hgT,hi7,hi8,bi_mul,bi_add,hw0,hw1,hw2,hw3,k1,k2,k3,c0,c1,c2,c3,s0,s1,s2,s3,l0,l1,l2,l3,b0',b1',b2',b3',b0'',b1'',b2'',b3'']; try rfl,trivial,?_⟩
  clear o_9
  refine planW_ex o_10 rfl rfl ⟨_,by simp [-binV,w5',t4,t21,t22,h4,hO,hgT,hi7,hi8,bi_mul,bi_add,hw0,hw1,hw2,hw3,k1,k2,k3,c0,c1,c2,c3,s0,s1,s2,s3,l0,l1,l2,l3,b0',b1',b2',b3',b0'',b1'',b2'',b3'']; try rfl,trivial,?_⟩
  clear o_10
  refine planW_ex o_26 rfl rfl ⟨_,by simp [-binV,w5',t4,t21,t22,h4,hO,hgT,hi7,hi8,bi_mul,bi_add,hw0,hw1,hw2,hw3,k1,k2,k3,c0,c1,c2,c3,s0,s1,s2,s3,l0,l1,l2,l3,b0',b1',b2',b3',b0'',b1'',b2'',b3'']; try rfl,trivial,?_⟩
  clear o_26
  refine planW_ex o_27 rfl rfl ⟨_,by simp [-binV,w5',t4,t21,t22,h4,hO,hgT,hi7,hi8,bi_mul,bi_add,hw0,hw1,hw2,hw3,k1,k2,k3,c0,c1,c2,c3,s0,s1,s2,s3,l0,l1,l2,l3,b0',b1',b2',b3',b0'',b1'',b2'',b3'']; try rfl,trivial,?_⟩
  clear o_27
  refine planW_ex o_28 rfl rfl ⟨_,by simp [-binV,w5',t4,t21,t22,h4,hO,hgT,hi7,hi8,bi_mul,bi_add,hw0,hw1,hw2,hw3,k1,k2,k3,c0,c1,c2,c3,s0,s1,s2,s3,l0,l1,l2,l3,b0',b1',b2',b3',b0'',b1'',b2'',b3'']; try rfl,by simp [chkW,List.lookup,-binV,w5',t4,t21,t22,h4,hO,hgT,hi7,hi8,bi_mul,bi_add,hw0,hw1,hw2,hw3,k1,k2,k3,c0,c1,c2,c3,s0,s1,s2,s3,l0,l1,l2,l3,b0',b1',b2',b3',b0'',b1'',b2'',b3''],?_⟩
  clear o_28
  refine planW_ex o_29 rfl rfl ⟨_,by simp [-binV,w5',t4,t21,t22,h4,hO,hgT,hi7,hi8,bi_mul,bi_add,hw0,hw1,hw2,hw3,k1,k2,k3,c0,c1,c2,c3,s0,s1,s2,s3,l0,l1,l2,l3,b0',b1',b2',b3',b0'',b1'',b2'',b3'']; try rfl,by simp [chkW,List.lookup,-binV,w5',t4,t21,t22,h4,hO,hgT,hi7,hi8,bi_mul,bi_add,hw0,hw1,hw2,hw3,k1,k2,k3,c0,c1,c2,c3,s0,s1,s2,s3,l0,l1,l2,l3,b0',b1',b2',b3',b0'',b1'',b2'',b3''],?_⟩
  clear o_29
  refine planW_ex o_36 rfl rfl ⟨_,by simp [-binV,w5',t4,t21,t22,h4,hO,hgT,hi7,hi8,bi_mul,bi_add,hw0,hw1,hw2,hw3,k1,k2,k3,c0,c1,c2,c3,s0,s1,s2,s3,l0,l1,l2,l3,b0',b1',b2',b3',b0'',b1'',b2'',b3'']; try rfl,trivial,?_⟩
  clear o_36
  refine planW_ex o_37 rfl rfl ⟨_,by simp [-binV,w5',t4,t21,t22,h4,hO,hgT,hi7,hi8,bi_mul,bi_add,hw0,hw1,hw2,hw3,k1,k2,k3,c0,c1,c2,c3,s0,s1,s2,s3,l0,l1,l2,l3,b0',b1',b2',b3',b0'',b1'',b2'',b3'']; try rfl,trivial,?_⟩
  clear o_37
  refine planW_end o_sz ?_
  apply hK; clear hK K o_sz; simp only [onNormal,onExit,tput]
  (repeat refine AWP.seq ?_)
  refine AWP.region_last hcall rfl fun K hK => ?_
  simp [t22,hw5]
  apply hK; clear hK K; simp only [onNormal,onExit]
  refine ⟨8 - (i + 1),by omega,i + 1,by omega,rfl,SB.temps (SB.upd (SB.upd (SB.upd (SB.upd hb _ w0' w2' w5' h21) _ w0' w2' w5' h21) _ w0' w2' w5' h21) _ w0' w2' w5' h21) (fun j hj => by repeat rw [tset_ge hj rfl]),by simp [t21],by simp,?_⟩
  rw [upd_same,hr4]; rfl
 obtain rfl : i = 8:=by omega
 (repeat refine AWP.seq ?_)
 refine AWP.region_last hcall rfl fun K hK => ?_
 simp [t22]
 apply hK; clear hK K; simp only [onNormal,onExit]
 (repeat refine AWP.seq ?_); refine AWP.cond (b:=false) (by simp) ?_; simp only [if_true,if_false,Bool.false_eq_true]
 refine AWP.exit ?_; simp only [onNormal]
 refine hQ _ _ _ (SB.temps hb (fun j hj => by repeat rw [tset_ge hj rfl])) (by simp [t21]) ?_
 rw [hO,show 32 - 4 * 8 = 0 from rfl,show 4 * 8 = 32 from rfl]
 simp [bz]
end Go.Proofs.YtbllpnjappddeaaGreat.Den
end
section
set_option linter.unusedSimpArgs false
set_option linter.unusedVariables false
set_option maxRecDepth 100000
namespace Go.Proofs.YtbllpnjappddeaaGreat.Den
open Go.RowKit
attribute [local simp] runList aop abuiltin acall awanted ayielded env T0 tput tset Ran aload astore setMany upd binV aslice aindexAddr apart aindex alen acopy srcCells natOf boundOf aeq AV.nilEq convV appK fillA List.range List.range.loop onF isU8 rowOf
set_option maxHeartbeats 1000000 in
theorem sum2_ok : FnOK Tryz.prog 390 sum2S:=by
 refine ⟨by kernel_rfl,fun args nm H r H' h => ?_⟩
 have hcall:=onF_ok words_ok (onF_ok rot_ok (@noCall_ok Tryz.prog))
 unfold sum2S at h
 split at h
 ·rename_i x
  split at h
  ·rename_i n cells hp
   split at h
   ·rename_i l hl
    split at h
    ·rename_i hn
     cases h
     obtain rfl:=bytesA_some hl
     have hll : l.length = n:=by have:=part_length hp; simpa using this
     subst hll
     have hsx : ∀ H₁,(∀ k r,H k = some r -> H₁ k = some r) -> srcCells H₁ 1 x = some (l.length,bs l):=fun H₁ hs => part_src (part_sub hs hp)
     have hxl : alen Tryz.prog 72 x = some (vi l.length):=part_len hp r3und70
     obtain ⟨Kp,hK⟩ : ∃ Kp,l.length + 1 + padZ l.length + 8 = 64 * Kp:=⟨(l.length + 1 + padZ l.length + 8) / 64,by have:=padZ_spec l.length; omega⟩
     have hz64 : padZ l.length < 64:=by unfold padZ; omega
     have hsum : sumW l = addAll begunL Kp (padOf l):=by
      unfold sumW; rw [hK,Nat.mul_div_cancel_left _ (by decide)]
     have hpl : (padOf l).length = 64 * Kp:=by rw [padOf_length,hK]
     refine sim_go Tryz.func390 rfl rfl (Nat.le_of_ble_eq_true rfl) fun hH => ?_
     have f0 : ∀ j,H (j :: nm) = none:=fun j => hH [j]
     have hk64 : (ws k256).length = 64:=rfl
     have hset0 : setMany (List.replicate 64 (.val (.int .u32 0))) 0 (ws k256) = ws k256:=setMany_full (by rw [List.length_replicate]; rfl)
     have hko:=ws_one k256
     (repeat refine AWP.seq ?_)
     refine AWP.region_last hcall rfl fun K hK => ?_
     simp
     apply hK; clear hK K; simp only [onNormal,onExit]
     (repeat refine AWP.seq ?_)
     refine AWP.region_last hcall rfl fun K hK => ?_
     simp [wordsRS,wds_ws,hk64,hset0,hko]
     apply hK; clear hK K; simp only [onNormal,onExit]
     (repeat refine AWP.seq ?_)
     refine AWP.region_last hcall rfl fun K hK => ?_
     simp
     apply hK; clear hK K; simp only [onNormal,onExit]
     have hb1 : l.length + 1 <= 140737488355328:=by omega
     have hb0 : l.length <= 140737488355328:=by omega
     have htk : (bs l).take l.length = bs l:=List.take_of_length_le (by rw [bs_length]; omega)
     have hone : (∀ y,y ∈ bs l -> y.one = true) ↔ True:=iff_true_intro fun y hy => List.all_eq_true.1 (bs_one l) y hy
     have hsx1 : ∀ o1 o2 o3 o4 o5 o6,srcCells (upd (upd (upd (upd (upd (upd H (0 :: nm) o1) (2 :: nm) o2) (2 :: nm) o3) (5 :: nm) o4) (5 :: nm) o5) (7 :: nm) o6) 1 x = some (l.length,bs l):=fun o1 o2 o3 o4 o5 o6 => hsx _ (SubL.out (SubL.fresh (f0 7) (SubL.fresh (f0 5) (SubL.fresh (f0 5) (SubL.fresh (f0 2) (SubL.fresh (f0 2) (SubL.fresh (f0 0) SubL.id)))))))
     (repeat refine AWP.seq ?_)
     refine AWP.region_last hcall rfl fun K hK => ?_
     simp [-srcCells,hsx1,hb0,hone]
     apply hK; clear hK K; simp only [onNormal,onExit]
     (repeat refine AWP.seq ?_)
     refine AWP.region_last hcall rfl fun K hK => ?_
     simp [htk,hb1]
     apply hK; clear hK K; simp only [onNormal,onExit]
     refine AWP.gen (fun c T H2 => SB nm x H (listN w0) T H2 /\ ∃ q,T 5 = .sl q 0 (l.length + 1) 1 /\ H q = none /\ 0 :: nm ≠ q /\ 2 :: nm ≠ q /\ 5 :: nm ≠ q /\ H2 q = some (bs (padI l 0))) ?_ ?_
     ·refine ⟨⟨by simp,by simp,by simp,by simp,by simp,by simp; exact setMany_full rfl,by simp [ws,vcells,vU,listN,w0],?_⟩,13 :: nm,by simp,f0 13,by simp,by simp,by simp,by simp [padI_zero]⟩
      exact SubL.out (SubL.fresh (f0 13) (SubL.fresh (f0 9) (SubL.fresh (f0 12) (SubL.fresh (f0 9) (SubL.fresh (f0 7) (SubL.fresh (f0 7) (SubL.fresh (f0 5) (SubL.fresh (f0 5) (SubL.fresh (f0 2) (SubL.fresh (f0 2) (SubL.fresh (f0 0) SubL.id)))))))))))
     rintro c T H2 ⟨hb,q,t5,hq,q0,q2,q5,hr⟩
     (repeat refine AWP.seq ?_); refine AWP.block ?_
     refine AWP.loop (fun m c T H2 => ∃ i q,i <= padZ l.length /\ m = padZ l.length - i /\ SB nm x H (listN w0) T H2 /\ T 5 = .sl q 0 (l.length + 1 + i) 1 /\ H q = none /\ 0 :: nm ≠ q /\ 2 :: nm ≠ q /\ 5 :: nm ≠ q /\ H2 q = some (bs (padI l i))) (padZ l.length) ⟨0,q,by omega,rfl,hb,t5,hq,q0,q2,q5,hr⟩ ?_
     clear t5 hq hr hb q0 q2 q5
     rintro _ c T H2 ⟨i,q,hi,rfl,hb,t5,hq,q0,q2,q5,hr⟩
     refine AWP.known_fresh fun hfr => ?_
     have hlen:=padI_length l i
     have htk : (bs (padI l i)).take (l.length + 1 + i) = bs (padI l i):=List.take_of_length_le (by rw [bs_length]; omega)
     have hle : l.length + 1 + i <= (padI l i).length:=by omega
     by_cases hiz : i < padZ l.length
     ·have hmod : ¬ (((l.length : Int) + 1 + (i : Int)).tmod 64 = 56):=by
       have:=padZ_least _ _ hiz
       rw [Int.tmod_eq_emod_of_nonneg (by omega)]; omega
      have hb1 : l.length + 1 + i + 1 <= 140737488355328:=by omega
      (repeat refine AWP.seq ?_)
      refine AWP.region_last hcall rfl fun K hK => ?_
      simp [t5]
      apply hK; clear hK K; simp only [onNormal,onExit]
      (repeat refine AWP.seq ?_); refine AWP.cond (b:=true) (by simp [hmod]) ?_; simp only [if_true,if_false,Bool.false_eq_true]
      refine AWP.skip ?_; simp only [onNormal,onExit]
      (repeat refine AWP.seq ?_); refine AWP.block ?_
      have hqn:=ne_fresh hfr hr (c + 4 + 1) (by omega)
      (repeat refine AWP.seq ?_)
      refine AWP.region_last hcall rfl fun K hK => ?_
      simp [t5,hr,htk,hle,hb1,hqn]
      apply hK; clear hK K; simp only [onNormal,onExit]
      refine ⟨padZ l.length - (i + 1),by omega,i + 1,(c + 4 + 2) :: nm,by omega,rfl,SB.temps (SB.upd (SB.upd (SB.upd hb _ (ne_fresh hfr hb.r2 _ (by omega)) (ne_fresh hfr hb.r3 _ (by omega)) (ne_fresh hfr hb.r4 _ (by omega)) (f0 _)) none q0 q2 q5 hq) _ (ne_fresh hfr hb.r2 _ (by omega)) (ne_fresh hfr hb.r3 _ (by omega)) (ne_fresh hfr hb.r4 _ (by omega)) (f0 _)) (fun j hj => by repeat rw [tset_ge hj rfl]),by simp [Nat.add_assoc],f0 _,ne_fresh hfr hb.r2 _ (by omega),ne_fresh hfr hb.r3 _ (by omega),ne_fresh hfr hb.r4 _ (by omega),by simp [padI_succ]⟩
     obtain rfl : i = padZ l.length:=by omega
     have hmod : ((l.length : Int) + 1 + (padZ l.length : Int)).tmod 64 = 56:=by
      have:=padZ_spec l.length
      rw [Int.tmod_eq_emod_of_nonneg (by omega)]; omega
     (repeat refine AWP.seq ?_)
     refine AWP.region_last hcall rfl fun K hK => ?_
     simp [t5]
     apply hK; clear hK K; simp only [onNormal,onExit]
     (repeat refine AWP.seq ?_); refine AWP.cond (b:=false) (by simp [hmod]) ?_; simp only [if_true,if_false,Bool.false_eq_true]
     refine AWP.exit ?_; simp only [onNormal,onExit,if_true,reduceCtorEq,if_false]
     obtain ⟨N,hN⟩ : ∃ N,N = 8 * l.length:=⟨_,rfl⟩
     have hw7 : IntKind.u64.wrap (IntKind.u64.wrap (l.length : Int) * 8) = (N : Int):=by simp only [IntKind.wrap_u64]; omega
     have hx0 : ∀ j v,alen Tryz.prog 72 (if 0 = j then v else T 0) = _:=fun j v => rfl
     (repeat refine AWP.seq ?_)
     refine AWP.region_last hcall rfl fun K hK => ?_
     simp [-alen,hb.t0,hxl,hw7]
     apply hK; clear hK K; simp only [onNormal,onExit]
     (repeat refine AWP.seq ?_)
     refine AWP.region_last hcall rfl fun K hK => ?_
     simp
     apply hK; clear hK K; simp only [onNormal,onExit]
     (repeat refine AWP.seq ?_); refine AWP.block ?_
     have hpo : bs (padOf l) = bs (padI l (padZ l.length)) ++ bs (be8p N 8):=by
      rw [bs_append,hN]; rfl
     refine AWP.loop (fun m c T H2 => ∃ j q,j <= 8 /\ m = 8 - j /\ SB nm x H (listN w0) T H2 /\ T 6 = .val (.int .u64 (N : Int)) /\ T 7 = vi (7 - (j : Int)) /\ T 5 = .sl q 0 (l.length + 1 + padZ l.length + j) 1 /\ H q = none /\ 0 :: nm ≠ q /\ 2 :: nm ≠ q /\ 5 :: nm ≠ q /\ H2 q = some (bs (padI l (padZ l.length)) ++ bs (be8p N j))) 8 ⟨0,q,by omega,rfl,SB.temps hb (fun j hj => by repeat rw [tset_ge hj rfl]),by simp,by simp,by simp [t5],hq,q0,q2,q5,by rw [hr]; simp [be8p,bs]⟩ ?_
     clear t5 hq hr hb q0 q2 q5 hfr
     rintro _ c T H2 ⟨j,q,hj,rfl,hb,t6,t7,t5,hq,q0,q2,q5,hr⟩
     refine AWP.known_fresh fun hfr => ?_
     by_cases hj8 : j < 8
     ·have hj7 : (j : Int) <= 7:=by omega
      have hqn:=ne_fresh hfr hr (c + 2 + 7) (by omega)
      have hw1 : IntKind.u64.wrap (7 - (j : Int)) = 7 - (j : Int):=by rw [IntKind.wrap_u64]; omega
      have hw2 : IntKind.u64.wrap (8 * (7 - (j : Int))) = 56 - 8 * (j : Int):=by rw [IntKind.wrap_u64]; omega
      have hw3 : IntKind.i64.wrap (7 - (j : Int) - 1) = 7 - ((j + 1 : Nat) : Int):=by rw [IntKind.wrap_i64]; omega
      have hzz : 8 * (j : Int) <= 56:=by omega
      have hbw:=be8_wrap N j (by omega) hj8
      have hrl : (bs (padI l (padZ l.length)) ++ bs (be8p N j)).length = l.length + 1 + padZ l.length + j:=by
       rw [List.length_append,bs_length,bs_length,padI_length,be8p_length]
      have hrs : bs (padI l (padZ l.length)) ++ bs (be8p N j) ++ [.val (.int .u8 ((UInt8.ofNat (N / 256 ^ (7 - j))).toNat : Int))] = bs (padI l (padZ l.length)) ++ bs (be8p N (j + 1)):=by
       rw [List.append_assoc,be8p_succ]
      generalize hrow : bs (padI l (padZ l.length)) ++ bs (be8p N j) = row at *
      have htk3 : row.take (l.length + 1 + padZ l.length + j) = row:=List.take_of_length_le (by omega)
      have hle3 : l.length + 1 + padZ l.length + j <= row.length:=by omega
      have hb3 : l.length + 1 + padZ l.length + j + 1 <= 140737488355328:=by omega
      (repeat refine AWP.seq ?_)
      refine AWP.region_last hcall rfl fun K hK => ?_
      simp [t7,hj7]
      apply hK; clear hK K; simp only [onNormal,onExit]
      (repeat refine AWP.seq ?_); refine AWP.cond (b:=true) (by simp [hj7]) ?_; simp only [if_true,if_false,Bool.false_eq_true]
      refine AWP.skip ?_; simp only [onNormal,onExit]
      (repeat refine AWP.seq ?_); refine AWP.block ?_
      (repeat refine AWP.seq ?_)
      refine AWP.region_last hcall rfl fun K hK => ?_
      simp [t6,t7,t5,hw1,hw2,hzz,hbw,hr,htk3,hle3,hb3,hqn]
      apply hK; clear hK K; simp only [onNormal,onExit]
      (repeat refine AWP.seq ?_)
      refine AWP.region_last hcall rfl fun K hK => ?_
      simp [t7,hw3]
      apply hK; clear hK K; simp only [onNormal,onExit]
      obtain ⟨a0,a2,a5⟩:=hb.names hfr (c + 2 + 7) (by omega)
      obtain ⟨b0,b2,b5⟩:=hb.names hfr (c + 2 + 8) (by omega)
      refine ⟨8 - (j + 1),by omega,j + 1,(c + 2 + 8) :: nm,by omega,rfl,SB.temps (SB.upd (SB.upd (SB.upd hb _ a0 a2 a5 (f0 _)) none q0 q2 q5 hq) _ b0 b2 b5 (f0 _)) (fun j hj => by repeat rw [tset_ge hj rfl]),by simp [t6],by simp,by simp [Nat.add_assoc],f0 _,b0,b2,b5,by simp [<- hrs]⟩
     obtain rfl : j = 8:=by omega
     (repeat refine AWP.seq ?_)
     refine AWP.region_last hcall rfl fun K hK => ?_
     simp [t7]
     apply hK; clear hK K; simp only [onNormal,onExit]
     (repeat refine AWP.seq ?_); refine AWP.cond (b:=false) (by simp) ?_; simp only [if_true,if_false,Bool.false_eq_true]
     refine AWP.exit ?_; simp only [onNormal,onExit,if_true,reduceCtorEq,if_false]
     (repeat refine AWP.seq ?_)
     refine AWP.region_last hcall rfl fun K hK => ?_
     simp
     apply hK; clear hK K; simp only [onNormal,onExit]
     (repeat refine AWP.seq ?_)
     refine AWP.region_last hcall rfl fun K hK => ?_
     simp
     apply hK; clear hK K; simp only [onNormal,onExit]
     (repeat refine AWP.seq ?_); refine AWP.block ?_
     obtain ⟨a0,a2,a5⟩:=hb.names hfr (c + 2) (by omega)
     have hqw:=ne_fresh hfr hr (c + 2) (by omega)
     rw [<- hpo] at hr
     refine AWP.gen (fun c T H2 => ∃ n8 W,SB nm x H (listN w0) T H2 /\ T 5 = .sl q 0 (64 * Kp) 1 /\ T 8 = .ptr n8 0 /\ T 9 = vi ((0 : Nat) : Int) /\ H n8 = none /\ 0 :: nm ≠ n8 /\ 2 :: nm ≠ n8 /\ 5 :: nm ≠ n8 /\ q ≠ n8 /\ H2 q = some (bs (padOf l)) /\ H2 n8 = some (ws W) /\ W.length = 64) ?_ ?_
     ·refine ⟨(c + 2) :: nm,List.replicate 64 0,SB.temps (SB.upd hb _ a0 a2 a5 (f0 _)) (fun j hj => by repeat rw [tset_ge hj rfl]),by simp [t5,hK],by simp,by simp,f0 _,a0,a2,a5,hqw,?_,?_,by simp⟩
      ·rw [upd_ne _ _ hqw]; exact hr
      ·rw [upd_same]; simp [ws,vcells,vU]
     clear t5 hr hb hfr t6 t7 a0 a2 a5 hqw
     rintro c T H2 ⟨n8,W,hb,t5,t8,t9,h8,w0',w2',w5',hqw,hr,hW,hWl⟩
     refine AWP.loop (fun m c T H2 => ∃ k p s W,k <= Kp /\ m = Kp - k /\ p = 64 * k /\ SB nm x H (listN s) T H2 /\ T 5 = .sl q 0 (64 * Kp) 1 /\ T 8 = .ptr n8 0 /\ T 9 = vi (p : Nat) /\ H2 q = some (bs (padOf l)) /\ H2 n8 = some (ws W) /\ W.length = 64 /\ okW s /\ addAll (listN s) (Kp - k) ((padOf l).drop (64 * k)) = sumW l) Kp ⟨0,0,w0,W,by omega,rfl,rfl,hb,t5,t8,t9,hr,hW,hWl,w0_ok,by rw [hsum,Nat.sub_zero,Nat.mul_zero,List.drop_zero,w0_begun]⟩ ?_
     clear t5 hr hb t8 t9 hW hWl W
     rintro _ c T H2 ⟨k,p,s,W,hk,rfl,hp9,hb,t5,t8,t9,hr,hW,hWl,hs,hadd⟩
     by_cases hkK : k = Kp
     ·subst hkK
      have hls : listN s = sumW l:=by rw [<- hadd,Nat.sub_self]; rfl
      have hnl : ¬ ((p : Int) < 64 * (k : Int)):=by omega
      (repeat refine AWP.seq ?_)
      refine AWP.region_last hcall rfl fun K hK => ?_
      simp [t9,t5,hnl]
      apply hK; clear hK K; simp only [onNormal,onExit]
      (repeat refine AWP.seq ?_); refine AWP.cond (b:=false) (by simp [hnl]) ?_; simp only [if_true,if_false,Bool.false_eq_true]
      refine AWP.exit ?_; simp only [onNormal,onExit,if_true,reduceCtorEq,if_false]
      refine AWP.known_fresh fun hfr => ?_
      obtain ⟨a0,a2,a5⟩:=hb.names hfr (c + 4) (by omega)
      (repeat refine AWP.seq ?_)
      refine AWP.region_last hcall rfl fun K hK => ?_
      simp
      apply hK; clear hK K; simp only [onNormal,onExit]
      (repeat refine AWP.seq ?_)
      refine AWP.region_last hcall rfl fun K hK => ?_
      simp
      apply hK; clear hK K; simp only [onNormal,onExit]
      (repeat refine AWP.seq ?_); refine AWP.block ?_
      refine loopE (t:=listN s) rfl (f0 (c + 4)) a0 a2 a5 (SB.temps (SB.upd hb _ a0 a2 a5 (f0 _)) (fun j hj => by repeat rw [tset_ge hj rfl])) (by simp) (by simp) (by rw [upd_same]) ?_
      clear hb t5 t8 t9 hr hW hfr
      intro c' T H2 hb t21 hO
      simp only [onExit,if_true]
      simp only [onNormal]
      have hb2:=hb.r2
      have tt2:=hb.t2
      rw [hls] at hO
      have d1 : (outP (sumW l) 32).length = 32:=outP_length _ _
      have d2 : (bs (outP (sumW l) 32)).take 32 = bs (outP (sumW l) 32):=List.take_of_length_le (by rw [bs_length,d1]; omega)
      have d4:=bs_one (outP (sumW l) 32)
      have d5 : setMany (bz 32) 0 (bs (outP (sumW l) 32)) = bs (outP (sumW l) 32):=setMany_full (by rw [bs_length,d1]; rfl)
      have d6 : (bz 32).length = 32:=rfl
      (repeat refine AWP.seq ?_)
      refine AWP.region_last hcall rfl fun K hK => ?_
      simp [tt2,t21,hO,hb2,d1,d2,d4,d5,d6]
      apply hK; clear hK K; simp only [onNormal,onExit]
      (try refine AWP.ret ?_); (try simp only [onNormal,onExit]); refine ⟨by simp,⟨[_],by simp [ares,Tryz.results390,tt2,d1,d2,shaSum],rfl⟩,fun k row hk => ?_⟩
      exact SubL.out (SubL.fresh (f0 0) fun a r _ ha => hb.sub a r ha) k row hk
     have hlt : (p : Int) < 64 * (Kp : Int):=by omega
     (repeat refine AWP.seq ?_)
     refine AWP.region_last hcall rfl fun K hK => ?_
     simp [t9,t5,hlt]
     apply hK; clear hK K; simp only [onNormal,onExit]
     (repeat refine AWP.seq ?_); refine AWP.cond (b:=true) (by simp [hlt]) ?_; simp only [if_true,if_false,Bool.false_eq_true]
     refine AWP.skip ?_; simp only [onNormal,onExit]
     (repeat refine AWP.seq ?_); refine AWP.block ?_
     (repeat refine AWP.seq ?_)
     refine AWP.region_last hcall rfl fun K hK => ?_
     simp
     apply hK; clear hK K; simp only [onNormal,onExit]
     (repeat refine AWP.seq ?_); refine AWP.block ?_
     obtain ⟨b,hbd⟩ : ∃ b,b = (((padOf l).drop p).take 64).map UInt8.toNat:=⟨_,rfl⟩
     have hbl : b.length = 64:=by rw [hbd,List.length_map,List.length_take,List.length_drop,hpl]; omega
     have hb256 : ∀ y ∈ b,y < 256:=fun y hy => by
      rw [hbd] at hy
      obtain ⟨u,_,rfl⟩:=List.mem_map.1 hy
      exact u.toNat_lt
     have hbg : ∀ j (h : j < 64) (h' : p + j < (padOf l).length),((padOf l)[p + j]'h').toNat = b.getD j 0:=fun j h h' => by
      rw [List.getD_eq_getElem?_getD,hbd,List.getElem?_map,List.getElem?_take,if_pos h,List.getElem?_drop,List.getElem?_eq_getElem h']; rfl
     have hKb : Kp < 1099511627776:=by omega
     refine loopA (b:=b) (p:=p) hpl (by omega) hKb hb256 hbg hWl h8 w0' w2' w5' hqw (SB.temps hb (fun j hj => by repeat rw [tset_ge hj rfl])) (by simp [t5]) (by simp [t8]) (by simp [t9]) (by simp) hr hW ?_
     clear hb t5 t8 t9 hr hW
     intro c' T H2 hb t5 t8 t9 hr hW
     simp only [onExit,if_true]
     simp only [onNormal]
     (repeat refine AWP.seq ?_)
     refine AWP.region_last hcall rfl fun K hK => ?_
     simp
     apply hK; clear hK K; simp only [onNormal,onExit]
     (repeat refine AWP.seq ?_); refine AWP.block ?_
     refine loopB (l:=l) (Kp:=Kp) (p:=p) hb256 hWl h8 w0' w2' w5' hqw (SB.temps hb (fun j hj => by repeat rw [tset_ge hj rfl])) (by simp [t5]) (by simp [t8]) (by simp [t9]) (by simp) hr hW ?_
     clear hb t5 t8 t9 hr hW
     intro c' T H2 hb t5 t8 t9 hr hW
     simp only [onExit,if_true]
     simp only [onNormal]
     have haf:=addFast_w2 hbl s
     have hwl:=w2_length b 48
     obtain ⟨w,hw⟩ : ∃ w,w = w2 b 48:=⟨_,rfl⟩
     rw [<- hw] at hW haf hwl
     clear hw
     refine AWP.known_fresh fun hfr => ?_
     obtain ⟨a0,a2,a5⟩:=hb.names hfr (c' + 1) (by omega)
     have aq:=ne_fresh hfr hr (c' + 1) (by omega)
     have a8:=ne_fresh hfr hW (c' + 1) (by omega)
     have t4:=hb.t4
     have h4:=hb.r4
     have hsl : (ws (listN s)).length = 8:=rfl
     have hst : (ws (listN s)).take 8 = ws (listN s):=rfl
     have hso:=ws_one (listN s)
     have hset8 : setMany (List.replicate 8 (.val (.int .u32 0))) 0 (ws (listN s)) = ws (listN s):=setMany_full (by rw [List.length_replicate]; rfl)
     have hset8' : setMany [.val (.int .u32 0),.val (.int .u32 0),.val (.int .u32 0),.val (.int .u32 0),.val (.int .u32 0),.val (.int .u32 0),.val (.int .u32 0),.val (.int .u32 0)] 0 (ws (listN s)) = ws (listN s):=hset8
     (repeat refine AWP.seq ?_)
     refine AWP.region_last hcall rfl fun K hK => ?_
     simp [t4,h4,hsl,hst,hso,hset8,hset8']
     apply hK; clear hK K; simp only [onNormal,onExit]
     (repeat refine AWP.seq ?_)
     refine AWP.region_last hcall rfl fun K hK => ?_
     simp
     apply hK; clear hK K; simp only [onNormal,onExit]
     (repeat refine AWP.seq ?_); refine AWP.block ?_
     refine loopC (l:=l) (Kp:=Kp) (p:=p) (n15:=(c' + 1) :: nm) hwl hs (f0 _) a0 a2 a5 aq a8 (SB.temps (SB.upd (SB.upd hb _ a0 a2 a5 (f0 _)) _ a0 a2 a5 (f0 _)) (fun j hj => by repeat rw [tset_ge hj rfl])) (by simp [t5]) (by simp [t8]) (by simp [t9]) (by simp) (by simp) ?_ ?_ (by simp [hset8']) ?_
     ·rw [upd_ne _ _ aq,upd_ne _ _ aq]; exact hr
     ·rw [upd_ne _ _ a8,upd_ne _ _ a8]; exact hW
     clear hb t5 t8 t9 hr hW t4 h4 hfr
     intro c2 T H2 hb t5 t8 t9 t15 hr hW hA
     simp only [onExit,if_true]
     simp only [onNormal]
     (repeat refine AWP.seq ?_)
     refine AWP.region_last hcall rfl fun K hK => ?_
     simp
     apply hK; clear hK K; simp only [onNormal,onExit]
     (repeat refine AWP.seq ?_); refine AWP.block ?_
     obtain ⟨t,ht⟩ : ∃ t,t = rnds w s 64:=⟨_,rfl⟩
     rw [<- ht] at hA haf
     refine loopD (l:=l) (Kp:=Kp) (p:=p) (f0 5) (Ne.symm q5) (Ne.symm w5') a5.symm (SB.temps hb (fun j hj => by repeat rw [tset_ge hj rfl])) (by simp [t5]) (by simp [t8]) (by simp [t9]) (by simp [t15]) (by simp) hr hW hA ?_
     clear hb t5 t8 t9 hr hW hA t15
     intro c3 T H2 hb t5 t8 t9 hr hW
     simp only [onExit,if_true]
     simp only [onNormal]
     have hp64 : IntKind.i64.wrap ((p : Int) + 64) = ((p + 64 : Nat) : Int):=by rw [IntKind.wrap_i64]; omega
     (repeat refine AWP.seq ?_)
     refine AWP.region_last hcall rfl fun K hK => ?_
     simp [t9,hp64]
     apply hK; clear hK K; simp only [onNormal,onExit]
     refine ⟨Kp - (k + 1),by omega,k + 1,p + 64,⟨addN t.a s.a,addN t.b s.b,addN t.c s.c,addN t.d s.d,addN t.e s.e,addN t.f s.f,addN t.g s.g,addN t.h s.h⟩,w,by omega,rfl,by omega,SB.temps hb (fun j hj => by repeat rw [tset_ge hj rfl]),by simp [t5],by simp [t8],by simp,hr,hW,hwl,⟨addN_lt _ _,addN_lt _ _,addN_lt _ _,addN_lt _ _,addN_lt _ _,addN_lt _ _,addN_lt _ _,addN_lt _ _⟩,?_⟩
     rw [<- hadd,show Kp - k = (Kp - (k + 1)) + 1 by omega]
     show addAll (addW s t) (Kp - (k + 1)) _ = addAll (addFast (listN s) ((((padOf l).drop (64 * k)).take 64).map UInt8.toNat)) (Kp - (k + 1)) (((padOf l).drop (64 * k)).drop 64)
     rw [<- hp9,<- hbd,haf,List.drop_drop,show 64 * (k + 1) = p + 64 by omega]
    ·cases h
   ·cases h
  ·cases h
 ·cases h
end Go.Proofs.YtbllpnjappddeaaGreat.Den
end
section
set_option linter.unusedSimpArgs false
set_option linter.unusedVariables false
set_option maxRecDepth 100000
namespace Go.Proofs.YtbllpnjappddeaaGreat.Den
open Go.RowKit
attribute [local simp] runList aop abuiltin acall awanted ayielded env T0 tput tset Ran aload astore setMany upd binV aslice aindexAddr apart aindex alen acopy srcCells natOf boundOf aeq AV.nilEq convV appK fillA List.range List.range.loop onF isU8 rowOf
theorem i8n (a : Nat) (ha : a < 256) : (BitVec.ofInt 8 (a : Int)).toNat = a:=by
 rw [BitVec.toNat_ofInt]; omega
theorem bxu8 (a b : UInt8) : binV .xor (.int .u8 (a.toNat : Int)) (.int .u8 (b.toNat : Int)) = some (.int .u8 ((b ^^^ a).toNat : Int)):=by
 show some (Value.int .u8 (IntKind.u8.wrap ((BitVec.ofInt 8 (a.toNat : Int) ^^^ BitVec.ofInt 8 (b.toNat : Int)).toNat : Int))) = _
 rw [BitVec.toNat_xor,i8n _ a.toNat_lt,i8n _ b.toNat_lt,<- UInt8.toNat_xor,wu8,UInt8.ofNat_toNat,UInt8.xor_comm]
def zP (b : UInt8) (k : List UInt8) (i : Nat) : List UInt8:=xorL b (k.take i) ++ List.replicate (k.length - i) 0
theorem zP_length (b : UInt8) (k : List UInt8) (i : Nat) (hi : i <= k.length) : (zP b k i).length = k.length:=by
 simp only [zP,List.length_append,xorL_length,List.length_replicate,List.length_take]; omega
theorem zP_zero (b : UInt8) (k : List UInt8) : zP b k 0 = List.replicate k.length 0:=by simp [zP,xorL]
theorem zP_all (b : UInt8) (k : List UInt8) : zP b k k.length = xorL b k:=by simp [zP]
theorem zP_set (b : UInt8) (k : List UInt8) (i : Nat) (hi : i < k.length) : (bs (zP b k i)).set i (.val (.int .u8 ((b ^^^ k[i]).toNat : Int))) = bs (zP b k (i + 1)):=by
 have hl : (xorL b (k.take i)).length = i:=by rw [xorL_length,List.length_take]; omega
 have e1 : k.take (i + 1) = k.take i ++ [k[i]]:=by rw [List.take_add_one,List.getElem?_eq_getElem hi]; rfl
 have e2 : List.replicate (k.length - i) (0 : UInt8) = 0 :: List.replicate (k.length - (i + 1)) 0:=by
  rw [show k.length - i = (k.length - (i + 1)) + 1 by omega,List.replicate_succ]
 simp only [zP,e1,e2]
 rw [<- bs_append,List.set_append_right _ _ (by rw [bs_length,hl]; exact Nat.le_refl _),bs_length,hl,Nat.sub_self]
 simp only [bs,List.map_cons,List.set_cons_zero,xorL,List.map_append,List.map_nil,List.append_assoc,List.singleton_append]
def mac3S : Spec:=fun args nm H =>
 match args with
 | [key,x] =>
  match partC H 1 key,partC H 1 x with
  | some (kn,kc),some (n,cells) =>
   match bytesA kc,bytesA cells with
   | some k,some l => if kn <= 64 /\ n <= 274877906944 then some (.agg (bs (macOf k l)),H) else none
   | _,_ => none
  | _,_ => none
 | _ => none
set_option maxHeartbeats 1000000 in
theorem mac3_ok : FnOK Tryz.prog 372 mac3S:=by
 refine ⟨by kernel_rfl,fun args nm H r H' h => ?_⟩
 have hcall:=onF_ok sum2_ok (@noCall_ok Tryz.prog)
 unfold mac3S at h
 split at h
 ·rename_i key x
  split at h
  ·rename_i kn kc n cells hkey hx
   split at h
   ·rename_i k l hk hl
    split at h
    ·rename_i hc
     cases h
     obtain ⟨h1,h2⟩:=hc
     obtain rfl:=bytesA_some hk
     obtain rfl:=bytesA_some hl
     have hkl : k.length = kn:=by have:=part_length hkey; simpa using this
     have hll : l.length = n:=by have:=part_length hx; simpa using this
     obtain ⟨pk,hpk⟩ : ∃ pk,pk = padK k:=⟨_,rfl⟩
     have hpp : pk.length = 64:=by rw [hpk]; simp [padK]; omega
     have hkx : alen Tryz.prog 72 key = some (vi kn):=part_len hkey r3und70
     have hks : ∀ H₁,(∀ k r,H k = some r -> H₁ k = some r) -> srcCells H₁ 1 key = some (kn,bs k):=fun H₁ hs => part_src (part_sub hs hkey)
     have hxs : ∀ H₁,(∀ k r,H k = some r -> H₁ k = some r) -> srcCells H₁ 1 x = some (n,bs l):=fun H₁ hs => part_src (part_sub hs hx)
     have hlt : ¬ (64 < (kn : Int)):=by omega
     have hcopy : setMany (bz 64) 0 (bs k) = bs pk:=by
      have : bz 64 = bz kn ++ bz (64 - kn):=by
       rw [bz,bz,bz,List.replicate_append_replicate]; congr 1; omega
      rw [this,setMany_all _ _ _ (by rw [bs_length,hkl]; simp [bz]),hpk,padK,<- bs_append,hkl]
      simp [bs,bz]
     have ht1 : List.take kn (bs k) = bs k:=List.take_of_length_le (by simp [hkl])
     have h64 : (bz 64).length = 64:=by simp [bz]
     have hone : (∀ y,y ∈ bs k -> y.one = true) ↔ True:=iff_true_intro fun y hy => List.all_eq_true.1 (bs_one k) y hy
     refine sim_go Tryz.func372 rfl rfl (Nat.le_of_ble_eq_true rfl) fun hH => ?_
     have f0 : ∀ j,H (j :: nm) = none:=fun j => hH [j]
     (repeat refine AWP.seq ?_)
     refine AWP.region_last hcall rfl fun K hK => ?_
     simp
     apply hK; clear hK K; simp only [onNormal,onExit]
     have hks1 : ∀ o1 o2,srcCells (upd (upd H (0 :: nm) o1) (1 :: nm) o2) 1 key = some (kn,bs k):=fun o1 o2 => hks _ (SubL.out (SubL.fresh (f0 1) (SubL.fresh (f0 0) SubL.id)))
     (repeat refine AWP.seq ?_)
     refine AWP.region_last hcall rfl fun K hK => ?_
     simp
     apply hK; clear hK K; simp only [onNormal,onExit]
     (repeat refine AWP.seq ?_)
     refine AWP.region_last hcall rfl fun K hK => ?_
     simp [-alen,hkx]
     apply hK; clear hK K; simp only [onNormal,onExit]
     (repeat refine AWP.seq ?_); refine AWP.cond (b:=false) (by simp [hlt]) ?_; simp only [if_true,if_false,Bool.false_eq_true]
     (repeat refine AWP.seq ?_)
     refine AWP.region_last hcall rfl fun K hK => ?_
     simp [-srcCells,hks1,hkl,h1,hone,hcopy,h64,ht1]
     apply hK; clear hK K; simp only [onNormal,onExit]
     (repeat refine AWP.seq ?_)
     refine AWP.draw_ops rfl hcall [0,0,1,7] [⟨0,false,[]⟩,⟨1,false,[]⟩,⟨2,false,[]⟩,⟨3,false,[]⟩] rfl (by kernel_rfl) fun ops' hops K hK => ?_
     have o_0:=op_at hops 0 rfl
     have o_1:=op_at hops 1 rfl
     have o_2:=op_at hops 2 rfl
     have o_3:=op_at hops 3 rfl
     have o_sz : ops'.size = 4:=op_sz hops rfl
     clear hops
     refine planW_ex o_0 rfl rfl ⟨_,by simp [f0]; try rfl,trivial,?_⟩
     clear o_0
     refine planW_ex o_1 rfl rfl ⟨_,by simp [f0]; try rfl,trivial,?_⟩
     clear o_1
     refine planW_ex o_2 rfl rfl ⟨_,by simp [f0]; try rfl,trivial,?_⟩
     clear o_2
     refine planW_ex o_3 rfl rfl ⟨_,by simp [f0]; try rfl,trivial,?_⟩
     clear o_3
     refine planW_end o_sz ?_
     apply hK; clear hK K o_sz; simp only [onNormal,onExit,tput]
     (repeat refine AWP.seq ?_)
     refine AWP.region_last hcall rfl fun K hK => ?_
     simp
     apply hK; clear hK K; simp only [onNormal,onExit]
     (repeat refine AWP.seq ?_); refine AWP.block ?_
     refine AWP.gen (fun c T H2 => T 1 = x /\ T 4 = .ptr (0 :: nm) 0 /\ T 5 = .sl (1 :: nm) 0 64 1 /\ T 7 = .sl (9 :: nm) 0 64 1 /\ T 8 = .sl (10 :: nm) 0 64 1 /\ T 9 = vi ((0 : Nat) : Int) /\ H2 (0 :: nm) = some (bz 32) /\ H2 (1 :: nm) = some (bs pk) /\ H2 (9 :: nm) = some (bz 64) /\ H2 (10 :: nm) = some (bz 64) /\ (∀ k r,H k = some r -> H2 k = some r)) ?_ ?_
     ·refine ⟨by simp,by simp,by simp,by simp,by simp,by simp,by simp [bz],by simp; exact hcopy,by simp [bz],by simp [bz],?_⟩
      refine SubL.out ?_
      repeat (first | exact SubL.id | refine SubL.fresh (f0 _) ?_)
     clear hks1
     rintro c T H2 ⟨t1,t4,t5,t7,t8,t9,r0,r1,r9,r10,hsub⟩
     refine AWP.loop (fun m c T H2 => ∃ i,i <= 64 /\ m = 64 - i /\ T 1 = x /\ T 4 = .ptr (0 :: nm) 0 /\ T 5 = .sl (1 :: nm) 0 64 1 /\ T 7 = .sl (9 :: nm) 0 64 1 /\ T 8 = .sl (10 :: nm) 0 64 1 /\ T 9 = vi (i : Nat) /\ H2 (0 :: nm) = some (bz 32) /\ H2 (1 :: nm) = some (bs pk) /\ H2 (9 :: nm) = some (bs (zP 54 pk i)) /\ H2 (10 :: nm) = some (bs (zP 92 pk i)) /\ (∀ k r,H k = some r -> H2 k = some r)) 64 ⟨0,by omega,rfl,t1,t4,t5,t7,t8,t9,r0,r1,by rw [r9,zP_zero,hpp]; simp [bs,bz],by rw [r10,zP_zero,hpp]; simp [bs,bz],hsub⟩ ?_
     clear t1 t4 t5 t7 t8 t9 r0 r1 r9 r10 hsub T H2 c
     rintro _ c T H2 ⟨i,hi,rfl,t1,t4,t5,t7,t8,t9,r0,r1,r9,r10,hsub⟩
     by_cases hi64 : i < 64
     ·have hii : (i : Int) < 64:=by omega
      have hw5 : IntKind.i64.wrap ((i : Int) + 1) = ((i + 1 : Nat) : Int):=by rw [IntKind.wrap_i64]; omega
      have hip : i < pk.length:=by omega
      have s1:=zP_set 54 pk i hip
      have s2:=zP_set 92 pk i hip
      have x1:=bxu8 (pk[i]'hip) 54
      have x2:=bxu8 (pk[i]'hip) 92
      have hg : (bs pk)[i]? = some (.val (.int .u8 ((pk[i]'hip).toNat : Int))):=by rw [bs_get,List.getElem?_eq_getElem hip]; rfl
      obtain ⟨kb,hkb⟩ : ∃ r,r = (pk[i]'hip).toNat:=⟨_,rfl⟩
      obtain ⟨b1,hb1⟩ : ∃ r,r = (54 ^^^ pk[i]'hip).toNat:=⟨_,rfl⟩
      obtain ⟨b2,hb2⟩ : ∃ r,r = (92 ^^^ pk[i]'hip).toNat:=⟨_,rfl⟩
      rw [<- hkb] at x1 x2 hg
      rw [<- hb1] at x1 s1
      rw [<- hb2] at x2 s2
      simp only [show ((54 : UInt8).toNat : Int) = 54 from rfl] at x1
      simp only [show ((92 : UInt8).toNat : Int) = 92 from rfl] at x2
      have l1 : (bs (zP 54 pk i)).length = 64:=by rw [bs_length,zP_length _ _ _ (by omega),hpp]
      have l2 : (bs (zP 92 pk i)).length = 64:=by rw [bs_length,zP_length _ _ _ (by omega),hpp]
      obtain ⟨rowK,hrK⟩ : ∃ r,r = bs pk:=⟨_,rfl⟩
      obtain ⟨row1,hr1⟩ : ∃ r,r = bs (zP 54 pk i):=⟨_,rfl⟩
      obtain ⟨row2,hr2⟩ : ∃ r,r = bs (zP 92 pk i):=⟨_,rfl⟩
      obtain ⟨rowN1,hn1⟩ : ∃ r,r = bs (zP 54 pk (i + 1)):=⟨_,rfl⟩
      obtain ⟨rowN2,hn2⟩ : ∃ r,r = bs (zP 92 pk (i + 1)):=⟨_,rfl⟩
      rw [<- hrK] at hg r1
      rw [<- hr1] at s1 l1 r9
      rw [<- hr2] at s2 l2 r10
      rw [<- hn1] at s1
      rw [<- hn2] at s2
      clear hkb hb1 hb2
      have hi63 : i <= 63:=by omega
      (repeat refine AWP.seq ?_)
      refine AWP.region_last hcall rfl fun K hK => ?_
      simp [t9,hii]
      apply hK; clear hK K; simp only [onNormal,onExit]
      (repeat refine AWP.seq ?_); refine AWP.cond (b:=true) (by simp [hii]) ?_; simp only [if_true,if_false,Bool.false_eq_true]
      refine AWP.skip ?_; simp only [onNormal,onExit]
      (repeat refine AWP.seq ?_); refine AWP.block ?_
      (repeat refine AWP.seq ?_)
      refine AWP.draw_ops rfl hcall [0,0,0,0,0,0,48,112,240,0,0,1536,3584,7680,8179,24563,65535,131071] [⟨0,false,[]⟩,⟨1,false,[]⟩,⟨4,false,[]⟩,⟨5,false,[]⟩,⟨6,false,[]⟩,⟨7,false,[0]⟩,⟨8,false,[]⟩,⟨9,false,[]⟩,⟨10,false,[]⟩,⟨11,false,[]⟩,⟨12,false,[0]⟩,⟨14,false,[]⟩,⟨15,true,[]⟩,⟨2,false,[]⟩,⟨3,false,[]⟩,⟨13,false,[]⟩,⟨16,false,[]⟩,⟨17,true,[]⟩] rfl (by kernel_rfl) fun ops' hops K hK => ?_
      have o_0:=op_at hops 0 rfl
      have o_1:=op_at hops 1 rfl
      have o_2:=op_at hops 2 rfl
      have o_3:=op_at hops 3 rfl
      have o_4:=op_at hops 4 rfl
      have o_5:=op_at hops 5 rfl
      have o_6:=op_at hops 6 rfl
      have o_7:=op_at hops 7 rfl
      have o_8:=op_at hops 8 rfl
      have o_9:=op_at hops 9 rfl
      have o_10:=op_at hops 10 rfl
      have o_11:=op_at hops 11 rfl
      have o_12:=op_at hops 12 rfl
      have o_13:=op_at hops 13 rfl
      have o_14:=op_at hops 14 rfl
      have o_15:=op_at hops 15 rfl
      have o_16:=op_at hops 16 rfl
      have o_17:=op_at hops 17 rfl
      have o_sz : ops'.size = 18:=op_sz hops rfl
      clear hops
      refine planW_ex o_0 rfl rfl ⟨_,by simp [-binV,t5,t7,t8,t9,r1,r9,r10,hg,hi63,hi64,x1,x2,s1,s2,l1,l2]; try rfl,trivial,?_⟩
      clear o_0
      refine planW_ex o_1 rfl rfl ⟨_,by simp [-binV,t5,t7,t8,t9,r1,r9,r10,hg,hi63,hi64,x1,x2,s1,s2,l1,l2]; try rfl,trivial,?_⟩
      clear o_1
      refine planW_ex o_4 rfl rfl ⟨_,by simp [-binV,t5,t7,t8,t9,r1,r9,r10,hg,hi63,hi64,x1,x2,s1,s2,l1,l2]; try rfl,trivial,?_⟩
      clear o_4
      refine planW_ex o_5 rfl rfl ⟨_,by simp [-binV,t5,t7,t8,t9,r1,r9,r10,hg,hi63,hi64,x1,x2,s1,s2,l1,l2]; try rfl,trivial,?_⟩
      clear o_5
      refine planW_ex o_6 rfl rfl ⟨_,by simp [-binV,t5,t7,t8,t9,r1,r9,r10,hg,hi63,hi64,x1,x2,s1,s2,l1,l2]; try rfl,trivial,?_⟩
      clear o_6
      refine planW_ex o_7 rfl rfl ⟨_,by simp [-binV,t5,t7,t8,t9,r1,r9,r10,hg,hi63,hi64,x1,x2,s1,s2,l1,l2]; try rfl,by simp [chkW,List.lookup,-binV,t5,t7,t8,t9,r1,r9,r10,hg,hi63,hi64,x1,x2,s1,s2,l1,l2],?_⟩
      clear o_7
      refine planW_ex o_8 rfl rfl ⟨_,by simp [-binV,t5,t7,t8,t9,r1,r9,r10,hg,hi63,hi64,x1,x2,s1,s2,l1,l2]; try rfl,trivial,?_⟩
      clear o_8
      refine planW_ex o_9 rfl rfl ⟨_,by simp [-binV,t5,t7,t8,t9,r1,r9,r10,hg,hi63,hi64,x1,x2,s1,s2,l1,l2]; try rfl,trivial,?_⟩
      clear o_9
      refine planW_ex o_10 rfl rfl ⟨_,by simp [-binV,t5,t7,t8,t9,r1,r9,r10,hg,hi63,hi64,x1,x2,s1,s2,l1,l2]; try rfl,trivial,?_⟩
      clear o_10
      refine planW_ex o_11 rfl rfl ⟨_,by simp [-binV,t5,t7,t8,t9,r1,r9,r10,hg,hi63,hi64,x1,x2,s1,s2,l1,l2]; try rfl,trivial,?_⟩
      clear o_11
      refine planW_ex o_12 rfl rfl ⟨_,by simp [-binV,t5,t7,t8,t9,r1,r9,r10,hg,hi63,hi64,x1,x2,s1,s2,l1,l2]; try rfl,by simp [chkW,List.lookup,-binV,t5,t7,t8,t9,r1,r9,r10,hg,hi63,hi64,x1,x2,s1,s2,l1,l2],?_⟩
      clear o_12
      refine planW_ex o_14 rfl rfl ⟨_,by simp [-binV,t5,t7,t8,t9,r1,r9,r10,hg,hi63,hi64,x1,x2,s1,s2,l1,l2]; try rfl,trivial,?_⟩
      clear o_14
      refine planW_ex o_15 rfl rfl ⟨_,by simp [-binV,t5,t7,t8,t9,r1,r9,r10,hg,hi63,hi64,x1,x2,s1,s2,l1,l2]; try rfl,trivial,?_⟩
      clear o_15
      refine planW_ex o_2 rfl rfl ⟨_,by simp [-binV,t5,t7,t8,t9,r1,r9,r10,hg,hi63,hi64,x1,x2,s1,s2,l1,l2]; try rfl,trivial,?_⟩
      clear o_2
      refine planW_ex o_3 rfl rfl ⟨_,by simp [-binV,t5,t7,t8,t9,r1,r9,r10,hg,hi63,hi64,x1,x2,s1,s2,l1,l2]; try rfl,trivial,?_⟩
      clear o_3
      refine planW_ex o_13 rfl rfl ⟨_,by simp [-binV,t5,t7,t8,t9,r1,r9,r10,hg,hi63,hi64,x1,x2,s1,s2,l1,l2]; try rfl,trivial,?_⟩
      clear o_13
      refine planW_ex o_16 rfl rfl ⟨_,by simp [-binV,t5,t7,t8,t9,r1,r9,r10,hg,hi63,hi64,x1,x2,s1,s2,l1,l2]; try rfl,trivial,?_⟩
      clear o_16
      refine planW_ex o_17 rfl rfl ⟨_,by simp [-binV,t5,t7,t8,t9,r1,r9,r10,hg,hi63,hi64,x1,x2,s1,s2,l1,l2]; try rfl,trivial,?_⟩
      clear o_17
      refine planW_end o_sz ?_
      apply hK; clear hK K o_sz; simp only [onNormal,onExit,tput]
      (repeat refine AWP.seq ?_)
      refine AWP.region_last hcall rfl fun K hK => ?_
      simp [t9,hw5]
      apply hK; clear hK K; simp only [onNormal,onExit]
      refine ⟨64 - (i + 1),by omega,i + 1,by omega,rfl,by simp [t1],by simp [t4],by simp [t5],by simp [t7],by simp [t8],by simp,by simp [r0],by simp [r1,hrK],by simp [hn1],by simp [hn2],?_⟩
      exact SubL.out (SubL.fresh (f0 _) (SubL.fresh (f0 _) fun a r _ ha => hsub a r ha))
     obtain rfl : i = 64:=by omega
     have e1 : zP 54 pk 64 = xorL 54 pk:=by rw [<- hpp,zP_all]
     have e2 : zP 92 pk 64 = xorL 92 pk:=by rw [<- hpp,zP_all]
     rw [e1] at r9
     rw [e2] at r10
     (repeat refine AWP.seq ?_)
     refine AWP.region_last hcall rfl fun K hK => ?_
     simp [t9]
     apply hK; clear hK K; simp only [onNormal,onExit]
     (repeat refine AWP.seq ?_); refine AWP.cond (b:=false) (by simp) ?_; simp only [if_true,if_false,Bool.false_eq_true]
     refine AWP.exit ?_; simp only [onNormal,onExit,if_true,reduceCtorEq,if_false]
     refine AWP.known_fresh fun hfr => ?_
     have l1 : (bs (xorL 54 pk)).length = 64:=by rw [bs_length,xorL_length,hpp]
     have l2 : (bs (xorL 92 pk)).length = 64:=by rw [bs_length,xorL_length,hpp]
     have k1 : (bs (xorL 54 pk)).take 64 = bs (xorL 54 pk):=List.take_of_length_le (by omega)
     have k2 : (bs (xorL 92 pk)).take 64 = bs (xorL 92 pk):=List.take_of_length_le (by omega)
     have n1:=ne_fresh hfr r10 (c + 2 + 2) (by omega)
     have n2:=ne_fresh hfr r10 (c + 2 + 4) (by omega)
     have n3:=ne_fresh hfr r0 (c + 2 + 2) (by omega)
     have n4:=ne_fresh hfr r0 (c + 2 + 4) (by omega)
     have n5:=ne_fresh hfr r0 (c + 2 + 6 + 2) (by omega)
     have hsx:=hxs H2 hsub
     have honel : (∀ y,y ∈ bs l -> y.one = true) ↔ True:=iff_true_intro fun y hy => List.all_eq_true.1 (bs_one l) y hy
     have hones : ∀ u : List UInt8,(∀ y,y ∈ bs u -> y.one = true) ↔ True:=fun u => iff_true_intro fun y hy => List.all_eq_true.1 (bs_one u) y hy
     have hbn : 64 + n <= 140737488355328:=by omega
     have hsum1 : ∀ (H₁ : AHeap) (n' m : Name),H₁ m = some (bs (xorL 54 pk) ++ bs l) -> sum2S [.sl m 0 (64 + n) 1] n' H₁ = some (.agg (bs (shaSum (xorL 54 pk ++ l))),H₁):=fun H₁ n' m hm => by
      have e1 : partC H₁ 1 (.sl m 0 (64 + n) 1) = some (64 + n,bs (xorL 54 pk ++ l)):=by
       rw [partC_sl,if_pos rfl,hm,Option.bind_some,bs_append,if_pos (by rw [bs_length,List.length_append,xorL_length,hpp]; omega),List.drop_zero,List.take_of_length_le (by rw [bs_length,List.length_append,xorL_length,hpp]; omega)]
      simp only [sum2S,e1,bytesA_bs]
      rw [if_pos (by omega)]
     obtain ⟨g,hg⟩ : ∃ g,g = shaSum (xorL 54 pk ++ l):=⟨_,rfl⟩
     rw [<- hg] at hsum1
     have hgl : g.length = 32:=by rw [hg]; exact outP_length _ _
     have hsum2 : ∀ (H₁ : AHeap) (n' m : Name),H₁ m = some (bs (xorL 92 pk) ++ bs g) -> sum2S [.sl m 0 96 1] n' H₁ = some (.agg (bs (shaSum (xorL 92 pk ++ g))),H₁):=fun H₁ n' m hm => by
      have e1 : partC H₁ 1 (.sl m 0 96 1) = some (96,bs (xorL 92 pk ++ g)):=by
       rw [partC_sl,if_pos rfl,hm,Option.bind_some,bs_append,if_pos (by rw [bs_length,List.length_append,xorL_length,hpp]; omega),List.drop_zero,List.take_of_length_le (by rw [bs_length,List.length_append,xorL_length,hpp]; omega)]
      simp only [sum2S,e1,bytesA_bs]
      rw [if_pos (by omega)]
     obtain ⟨h,hh⟩ : ∃ h,h = shaSum (xorL 92 pk ++ g):=⟨_,rfl⟩
     rw [<- hh] at hsum2
     have hhl : h.length = 32:=by rw [hh]; exact outP_length _ _
     have hset : ∀ u : List UInt8,u.length = 32 -> setMany (bz 32) 0 (bs u) = bs u:=fun u hu => setMany_full (by rw [bs_length,hu]; simp [bz])
     have hsg:=hset g hgl
     have hsh:=hset h hhl
     have htg : (bs g).take 32 = bs g:=List.take_of_length_le (by rw [bs_length,hgl]; omega)
     have hth : (bs h).take 32 = bs h:=List.take_of_length_le (by rw [bs_length,hhl]; omega)
     have hmac : macOf k l = h:=by rw [hh,hg,hpk]; rfl
     have hz32 : (bz 32).length = 32:=by simp [bz]
     obtain ⟨rowI,hrI⟩ : ∃ r,r = bs (xorL 54 pk):=⟨_,rfl⟩
     obtain ⟨rowO,hrO⟩ : ∃ r,r = bs (xorL 92 pk):=⟨_,rfl⟩
     rw [<- hrI] at r9 l1 k1 hsum1
     rw [<- hrO] at r10 l2 k2 hsum2
     (repeat refine AWP.seq ?_)
     refine AWP.region_last hcall rfl fun K hK => ?_
     simp [-srcCells,t1,t7,r9,hsx,hll,honel,l1,k1,hbn,hsum1,hgl,hsg,hones]
     apply hK; clear hK K; simp only [onNormal,onExit]
     (repeat refine AWP.seq ?_)
     refine AWP.region_last hcall rfl fun K hK => ?_
     simp [t8,t4,r10,n1,n2,n3,n4,n5,l2,k2,hgl,htg,hones,hsum2,hhl,hsh,r0,hz32]
     apply hK; clear hK K; simp only [onNormal,onExit]
     (try refine AWP.ret ?_); (try simp only [onNormal,onExit]); refine ⟨by simp,⟨[_],by simp [ares,Tryz.results372,t4,hhl,hth,hmac],rfl⟩,fun k row hk => ?_⟩
     refine SubL.out ?_ k row hk
     repeat refine SubL.fresh (f0 _) ?_
     exact fun a r _ ha => hsub a r ha
    ·cases h
   ·cases h
  ·cases h
 ·cases h
end Go.Proofs.YtbllpnjappddeaaGreat.Den
end
section
set_option linter.unusedSimpArgs false
set_option linter.unusedVariables false
namespace Go.Proofs.YtbllpnjappddeaaGreat
open Go.RowKit Go.Shelf
attribute [local go_sem] Oper.semAt_some
set_option maxRecDepth 100000 in
set_option maxHeartbeats 1000000 in
theorem fl_seq_in (F : Fence) (n : Nat) (h7 : F.fn 164) (hro : F.round = none) (l Bs : Nat) (J : List Empty -> World -> Prop) (W : World) (hBs : W.cell? ⟨Bs,0,none⟩ = some (.slice none 0 0)) (h0 : J [] W) :
  CallsIn F n Tryz.prog 164 #[.func (.yield l) #[] #[],.pointer (some ⟨Bs,0,none⟩)] W fun e W' => (∃ v,e = .returned v) /\ J [] W':=by
 refine callsIn_of_wp Tryz.func164 rfl h7 ?_ hro
 simp only [Tryz.ntmps164,List.size_toArray,List.length_cons,List.length_nil,Nat.reduceAdd,Nat.reduceSub,Array.replicate_succ,Array.replicate_zero,List.push_toArray,List.append_toArray,List.nil_append,List.cons_append]
 gi_wp2
 gi_loopw [3] (fun i wr => i = .int .i64 (-1) /\ J [] wr) (fun _ _ => 0)
 case atStart => exact ⟨rfl,h0⟩
 case round =>
  obtain ⟨rfl,hJs⟩:=hrel
  gi_wp2
  go_end0
  exact ⟨⟨_,rfl⟩,hJs⟩
set_option maxHeartbeats 1000000 in
theorem fl_back_in (F : Fence) (n : Nat) (h5 : F.fn 89) (hro : F.round = none) (w : World) :
  CallsIn F n Tryz.prog 89 #[.slice none 0 0] w fun e w' => e = .returned (.func (.func 164) #[] #[.pointer (some ⟨w.heap.size,0,none⟩)]) /\ w' = w.alloc (.cells #[.slice none 0 0] 123):=by
 refine callsIn_of_wp Tryz.func89 rfl h5 ?_ hro
 simp only [Tryz.ntmps89,List.size_toArray,List.length_cons,List.length_nil,Nat.reduceAdd,Nat.reduceSub,Array.replicate_succ,Array.replicate_zero,List.push_toArray,List.append_toArray,List.nil_append,List.cons_append]
 gi_wp2
 go_ret
 exact ⟨rfl,rfl⟩
theorem fl_stops (F : Fence) (n : Nat) (h7 : F.fn 164) (hro : F.round = none) (Bs n₀ : Nat) (w : World) (hBs : Bs < w.heap.size) (hc : w.cell? ⟨Bs,0,none⟩ = some (.slice none 0 0)) :
  SeqStopsK F n Tryz.prog 164 #[.pointer (some ⟨Bs,0,none⟩)] (fun x : Empty => (#[] : Array Value)) (Below n₀) (fun ys => ys = []) (fun _ => False) 0 w:=fun l J Jx W hW _ _ hY h0 =>
 (fl_seq_in F n h7 hro l Bs J W ((hW.cell (p:=⟨Bs,0,none⟩) hBs).trans hc) h0).mono fun e W' ⟨he,hj⟩ => ⟨he,.inl ⟨_,rfl,hj⟩⟩
abbrev flZ : Value:=.agg #[.int .i64 0,.int .i64 0,.int .i64 0,.int .i64 0,.int .i64 0,.int .i64 0]
set_option maxRecDepth 100000 in
set_option maxHeartbeats 4000000 in
theorem failed_in (F : Fence) (n : Nat) (h1f : F.fn 27) (h2f : F.fn 89) (h3f : F.fn 164) (hro : F.round = none) (hn : 3 <= n)
  (b o : Nat) (i1 i2 a1 a2 s : Int) (w : World) (hc : w.cell? ⟨b,o + 7,none⟩ = some (.slice none 0 0)) :
  CallsIn F n Tryz.prog 27 #[.pointer (some ⟨b,o,none⟩),.agg #[.int .i64 i1,.int .i64 i2],.agg #[.int .i64 a1,.int .i64 a2],.int .i64 s] w fun e W' => e = .returned (.tuple #[flZ,.bool false]) /\ Below w.heap.size w W':=by
 have h1 : 1 <= n:=by omega
 have hb : b < w.heap.size:=block_lt_of_cell hc
 refine callsIn_of_wp_marks Tryz.func27 rfl h1f ?_ hro
 simp only [Tryz.ntmps27,List.size_toArray,List.length_cons,List.length_nil,Nat.reduceAdd,Nat.reduceSub,Array.replicate_succ,Array.replicate_zero,List.push_toArray,List.append_toArray,List.nil_append,List.cons_append]
 have hc1 : (((((w.alloc (.cells #[.int .i64 i1,.int .i64 i2] 31)).alloc (.cells #[.int .i64 a1,.int .i64 a2] 28)).alloc (.cells #[.int .i64 s] 3)).alloc (.cells #[.int .i64 0,.int .i64 0,.int .i64 0,.int .i64 0,.int .i64 0,.int .i64 0] 76)).alloc (.cells #[.bool false] 4)).cell? ⟨b,o + 7,none⟩ = some (.slice none 0 0):=by
  rw [World.cell?_alloc_past _ b _ (by simp; omega),World.cell?_alloc_past _ b _ (by simp; omega),World.cell?_alloc_past _ b _ (by simp; omega),World.cell?_alloc_past _ b _ (by simp; omega),World.cell?_alloc_past _ b _ hb]; exact hc
 gi_wp2_with (gi_at_call 89; refine (fl_back_in F (n - 1) h2f hro _).mono ?_; rintro e w' ⟨rfl,rfl⟩)
 obtain ⟨W0,hW0⟩ : ∃ W0,(((((w.alloc (.cells #[.int .i64 i1,.int .i64 i2] 31)).alloc (.cells #[.int .i64 a1,.int .i64 a2] 28)).alloc (.cells #[.int .i64 s] 3)).alloc (.cells #[.int .i64 0,.int .i64 0,.int .i64 0,.int .i64 0,.int .i64 0,.int .i64 0] 76)).alloc (.cells #[.bool false] 4)).alloc (.cells #[.slice none 0 0] 123) = W0:=⟨_,rfl⟩
 have hs0 : W0.heap.size = w.heap.size + 6:=by rw [<- hW0]; simp
 have hcb : W0.cell? ⟨w.heap.size + 1 + 1 + 1 + 1 + 1,0,none⟩ = some (.slice none 0 0):=by
  rw [<- hW0,World.cell?_alloc_at _ _ _ 0 (by simp)]; rfl
 have h3 : W0.heap[w.heap.size + 1 + 1 + 1]? = some (.cells #[.int .i64 0,.int .i64 0,.int .i64 0,.int .i64 0,.int .i64 0,.int .i64 0] 76 (0,0)):=by
  rw [<- hW0]; refine (Below.heap_alloc _ _ _ (by simp)).trans ((Below.heap_alloc _ _ _ (by simp)).trans ?_); have:=World.alloc_heap_new (((w.alloc (.cells #[.int .i64 i1,.int .i64 i2] 31)).alloc (.cells #[.int .i64 a1,.int .i64 a2] 28)).alloc (.cells #[.int .i64 s] 3)) (.cells #[.int .i64 0,.int .i64 0,.int .i64 0,.int .i64 0,.int .i64 0,.int .i64 0] 76); simpa using this
 have h4 : W0.heap[w.heap.size + 1 + 1 + 1 + 1]? = some (.cells #[.bool false] 4 (0,0)):=by
  rw [<- hW0]; refine (Below.heap_alloc _ _ _ (by simp)).trans ?_; have:=World.alloc_heap_new ((((w.alloc (.cells #[.int .i64 i1,.int .i64 i2] 31)).alloc (.cells #[.int .i64 a1,.int .i64 a2] 28)).alloc (.cells #[.int .i64 s] 3)).alloc (.cells #[.int .i64 0,.int .i64 0,.int .i64 0,.int .i64 0,.int .i64 0,.int .i64 0] 76)) (.cells #[.bool false] 4); simpa using this
 have hwW : Below w.heap.size w W0:=by
  rw [<- hW0]; exact ((((((Below.refl _ w).alloc (Nat.le_refl _) _).alloc (by simp) _).alloc (by simp; omega) _).alloc (by simp; omega) _).alloc (by simp; omega) _).alloc (by simp; omega) _
 rw [hW0]
 clear hc1
 refine wpIn_rangeFunc_ownF hro h1 (gf:=164) (lb:=#[.pointer (some ⟨w.heap.size + 1 + 1 + 1 + 1 + 1,0,none⟩)]) rfl h3f (enters_of Tryz.func164 (by kernel_rfl) rfl)
  (fl_stops F (n - 1) h3f hro (w.heap.size + 1 + 1 + 1 + 1 + 1) W0.heap.size W0 (by omega) hcb) belowK_t (belowK_b (Nat.le_refl _)) (Below.refl _ _) (fun x => x.elim)
  (fun _ W => Below W0.heap.size W0 W) (fun _ _ _ => False)
  (ownFrom_below (Nat.le_refl _) (Nat.le_refl _)) (fun _ _ _ _ _ hs _ _ => hs) (Below.refl _ _) (fun x => x.elim) ?assign ?body ?done ?stop
 case assign => intro l x; exact x.elim
 case body => intro l pre x; exact x.elim
 case stop => rintro D c pre W hD h; exact h.elim
 case done =>
  rintro D xs W hD rfl hB hK
  have g3 : W.heap[w.heap.size + 1 + 1 + 1]? = _:=(hB.block _ (by omega)).trans h3
  have g4 : W.heap[w.heap.size + 1 + 1 + 1 + 1]? = _:=(hB.block _ (by omega)).trans h4
  have k0:=Den.cell_of_heap g3 0
  have k1:=Den.cell_of_heap g3 1
  have k2:=Den.cell_of_heap g3 2
  have k3:=Den.cell_of_heap g3 3
  have k4:=Den.cell_of_heap g3 4
  have k5:=Den.cell_of_heap g3 5
  have k6:=Den.cell_of_heap g4 0
  have f0:=Den.frozen_of_heap g3 rfl 0
  have f1:=Den.frozen_of_heap g3 rfl 1
  have f2:=Den.frozen_of_heap g3 rfl 2
  have f3:=Den.frozen_of_heap g3 rfl 3
  have f4:=Den.frozen_of_heap g3 rfl 4
  have f5:=Den.frozen_of_heap g3 rfl 5
  have f6:=Den.frozen_of_heap g4 rfl 0
  simp at k0 k1 k2 k3 k4 k5 k6
  gi_wp2
  have hisz : ∀ j,j < 6 -> (W.cell? ⟨w.heap.size + 1 + 1 + 1,0 + j,none⟩).isSome = true:=fun j hj => by
   rw [Den.cell_of_heap g3,Nat.zero_add]
   match j,hj with
   | 0,_ => rfl
   | 1,_ => rfl
   | 2,_ => rfl
   | 3,_ => rfl
   | 4,_ => rfl
   | 5,_ => rfl
  change bodyPostM _ _ _ _ _ _ _ ((W.setCells (w.heap.size + 1 + 1 + 1) 0 [.int .i64 0,.int .i64 0,.int .i64 0,.int .i64 0,.int .i64 0,.int .i64 0]).setCells (w.heap.size + 1 + 1 + 1 + 1) 0 [.bool false])
  have hKO : KeepsOthers W ((W.setCells (w.heap.size + 1 + 1 + 1) 0 [.int .i64 0,.int .i64 0,.int .i64 0,.int .i64 0,.int .i64 0,.int .i64 0]).setCells (w.heap.size + 1 + 1 + 1 + 1) 0 [.bool false]) :=
   ((((((KeepsOthers.setCell _ _ _).trans (KeepsOthers.setCell _ _ _)).trans (KeepsOthers.setCell _ _ _)).trans (KeepsOthers.setCell _ _ _)).trans (KeepsOthers.setCell _ _ _)).trans (KeepsOthers.setCell _ _ _)).trans (KeepsOthers.setCell _ _ _)
  have hBB : Below w.heap.size w ((W.setCells (w.heap.size + 1 + 1 + 1) 0 [.int .i64 0,.int .i64 0,.int .i64 0,.int .i64 0,.int .i64 0,.int .i64 0]).setCells (w.heap.size + 1 + 1 + 1 + 1) 0 [.bool false]) :=
   (((((((hwW.trans (hB.mono (by omega))).setCell (p:=⟨w.heap.size + 1 + 1 + 1,0,none⟩) (by simp; omega) _).setCell (p:=⟨w.heap.size + 1 + 1 + 1,1,none⟩) (by simp; omega) _).setCell (p:=⟨w.heap.size + 1 + 1 + 1,2,none⟩) (by simp; omega) _).setCell (p:=⟨w.heap.size + 1 + 1 + 1,3,none⟩) (by simp; omega) _).setCell (p:=⟨w.heap.size + 1 + 1 + 1,4,none⟩) (by simp; omega) _).setCell (p:=⟨w.heap.size + 1 + 1 + 1,5,none⟩) (by simp; omega) _).setCell (p:=⟨w.heap.size + 1 + 1 + 1 + 1,0,none⟩) (by simp; omega) _
  have hcs : ∀ j,j < 6 -> ((W.setCells (w.heap.size + 1 + 1 + 1) 0 [.int .i64 0,.int .i64 0,.int .i64 0,.int .i64 0,.int .i64 0,.int .i64 0]).setCells (w.heap.size + 1 + 1 + 1 + 1) 0 [.bool false]).cell? ⟨w.heap.size + 1 + 1 + 1,0 + j,none⟩ = [Value.int .i64 0,.int .i64 0,.int .i64 0,.int .i64 0,.int .i64 0,.int .i64 0][j]?:=fun j hj => by
   rw [World.cell?_setCells_out (w.heap.size + 1 + 1 + 1 + 1) [.bool false] 0 _ ⟨w.heap.size + 1 + 1 + 1,0 + j,none⟩ (fun h _ => absurd h (by omega : w.heap.size + 1 + 1 + 1 ≠ w.heap.size + 1 + 1 + 1 + 1))]
   exact (World.cell?_setCells_in (w.heap.size + 1 + 1 + 1) [Value.int .i64 0,.int .i64 0,.int .i64 0,.int .i64 0,.int .i64 0,.int .i64 0] 0 W (fun j hj => hisz j hj) j hj).trans (List.getElem?_eq_getElem (by simpa using hj)).symm
  have hcz:=World.cell?_setCells_in (w.heap.size + 1 + 1 + 1 + 1) [.bool false] 0 (W.setCells (w.heap.size + 1 + 1 + 1) 0 [.int .i64 0,.int .i64 0,.int .i64 0,.int .i64 0,.int .i64 0,.int .i64 0]) (fun j hj => by
   rw [World.cell?_setCells_out (w.heap.size + 1 + 1 + 1) [Value.int .i64 0,.int .i64 0,.int .i64 0,.int .i64 0,.int .i64 0,.int .i64 0] 0 W ⟨w.heap.size + 1 + 1 + 1 + 1,0 + j,none⟩ (fun h _ => absurd h (by omega : w.heap.size + 1 + 1 + 1 + 1 ≠ w.heap.size + 1 + 1 + 1)),Den.cell_of_heap g4]
   match j,hj with
   | 0,_ => rfl) 0 (by simp)
  have c0:=hcs 0 (by omega)
  have c1:=hcs 1 (by omega)
  have c2:=hcs 2 (by omega)
  have c3:=hcs 3 (by omega)
  have c4:=hcs 4 (by omega)
  have c5:=hcs 5 (by omega)
  clear hcs hisz k0 k1 k2 k3 k4 k5 k6 f0 f1 f2 f3 f4 f5 f6
  generalize ((W.setCells (w.heap.size + 1 + 1 + 1) 0 [.int .i64 0,.int .i64 0,.int .i64 0,.int .i64 0,.int .i64 0,.int .i64 0]).setCells (w.heap.size + 1 + 1 + 1 + 1) 0 [.bool false]) = W1 at *
  have hK1:=hKO.same D _ hK rfl
  refine ⟨by simp,.inl ⟨_,_,rfl,run_takeDeferred hK1,?_⟩⟩
  have kept : ∀ {a : Addr} {v : Value},W1.cell? a = some v -> _:=fun {a v} h => cell_kept h (grownBy_putObj' _ D (.deferred none)) (fun r e => by cases e; exact ⟨_,hK1,rfl⟩)
  have d0:=kept c0
  have d1:=kept c1
  have d2:=kept c2
  have d3:=kept c3
  have d4:=kept c4
  have d5:=kept c5
  have d6:=kept hcz
  refine ⟨.tuple #[flZ,.bool false],?_,rfl,hBB.trans (belowK_b (w:=w) (Nat.le_refl _) W1 D _ _ (by omega) hK1 rfl rfl)⟩
  simp only [Nat.zero_add,Nat.add_zero] at d0 d1 d2 d3 d4 d5 d6
  simp [results,Tryz.f27,go_sem,d0,d1,d2,d3,d4,d5,d6]
theorem failed_nil (b o : Nat) (i1 i2 a1 a2 s : Int) (w : World) (hc : w.cell? ⟨b,o + 7,none⟩ = some (.slice none 0 0)) :
  Calls Tryz.prog 27 #[.pointer (some ⟨b,o,none⟩),.agg #[.int .i64 i1,.int .i64 i2],.agg #[.int .i64 a1,.int .i64 a2],.int .i64 s] w fun e W' => e = .returned (.tuple #[flZ,.bool false]) /\ Below w.heap.size w W' :=
 (callsIn_wide (n:=3)).1 (failed_in Fence.wide 3 trivial trivial trivial rfl (Nat.le_refl _) b o i1 i2 a1 a2 s w hc)
namespace Den
def failedS : Spec:=fun args nm H =>
 match args with
 | [.ptr q 0,.agg [.val (.int .i64 i1),.val (.int .i64 i2)],.agg [.val (.int .i64 a1),.val (.int .i64 a2)],.val (.int .i64 s)] =>
  match H q with
  | some row =>
   match row[7]? with
   | some (AV.val (.slice none 0 0)) => some (.tup [.agg [vi 0,vi 0,vi 0,vi 0,vi 0,vi 0],vb false],H)
   | _ => none
  | none => none
 | _ => none
theorem failed_ok : FnOK Tryz.prog 27 failedS:=by
 refine ⟨by kernel_rfl,fun args nm H r H' hs => ?_⟩
 unfold failedS at hs
 split at hs
 ·rename_i q i1 i2 a1 a2 s
  split at hs
  ·rename_i row hrow
   split at hs
   ·rename_i h7
    cases hs
    intro σ I w vs hfr hv har
    generalize hL : vs.toList = L at hv
    cases hv with
    | cons hv1 ht =>
     cases ht with
     | cons hv2 ht =>
      cases ht with
      | cons hv3 ht =>
       cases ht with
       | cons hv4 ht =>
        cases ht
        cases hv4
        cases hv1 with
        | @ptr _ _ p hp =>
         cases hv2 with
         | @agg _ ar2 g2 =>
          cases hv3 with
          | @agg _ ar3 g3 =>
           generalize h2 : ar2.toList = l2 at g2
           generalize h3 : ar3.toList = l3 at g3
           cases g2 with
           | cons k1 t =>
            cases t with
            | cons k2 t =>
             cases t
             cases k1
             cases k2
             cases g3 with
             | cons k1 t =>
              cases t with
              | cons k2 t =>
               cases t
               cases k1
               cases k2
               have e2 : ar2 = #[.int .i64 i1,.int .i64 i2]:=Array.ext' h2
               have e3 : ar3 = #[.int .i64 a1,.int .i64 a2]:=Array.ext' h3
               subst e2 e3
               have hvs : vs = #[.pointer (some ⟨p.b,p.o + 0,none⟩),.agg #[.int .i64 i1,.int .i64 i2],.agg #[.int .i64 a1,.int .i64 a2],.int .i64 s]:=Array.ext' hL
               rw [hvs]
               obtain ⟨v,hv7,hr7,_⟩:=har.cell hrow hp h7
               cases hr7
               refine (failed_nil p.b p.o i1 i2 a1 a2 s w (by simpa using hv7)).mono ?_
               rintro e w' ⟨rfl,hb⟩
               exact ⟨_,σ,I,rfl,Step.below har hb,.tup (.cons (.agg (.cons (.val _) (.cons (.val _) (.cons (.val _) (.cons (.val _) (.cons (.val _) (.cons (.val _) .nil))))))) (.cons (.val _) .nil))⟩
   ·cases hs
  ·cases hs
 ·cases hs
end Den
end Go.Proofs.YtbllpnjappddeaaGreat
end
