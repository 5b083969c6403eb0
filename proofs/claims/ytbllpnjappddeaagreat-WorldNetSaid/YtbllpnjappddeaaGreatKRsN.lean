/- Package comitiaref2, Sum: the rounds of a piece. -/
import Derived.Test.YtbllpnjappddeaaGreatKRfI
set_option linter.unusedVariables false
set_option linter.unusedSimpArgs false
set_option linter.unusedSimpArgs false
set_option linter.unusedVariables false
set_option maxRecDepth 100000
namespace Go.Proofs.YtbllpnjappddeaaGreat.Den
open Go.RowKit
attribute [local simp] runList aop abuiltin acall awanted ayielded env T0 tput tset Ran aload astore setMany upd binV aslice aindexAddr apart aindex alen acopy srcCells natOf boundOf aeq AV.nilEq convV appK fillA List.range List.range.loop onF isU8 rowOf
set_option maxHeartbeats 1000000 in
theorem loopC {nm : Name} {x : AV} {H : AHeap} {l : List UInt8} {s : W8} {q n8 n15 : Name} {Kp p : Nat} {w : List Nat} {Q : Exit -> Nat -> Temps -> AHeap -> Prop} {c : Nat} {T : Temps} {H2 : AHeap}
  (hwl : w.length = 64) (hs : okW s) (h15 : H n15 = none) (w0' : 0 :: nm ≠ n15) (w2' : 2 :: nm ≠ n15) (w5' : 5 :: nm ≠ n15) (hqw : q ≠ n15) (h8w : n8 ≠ n15)
  (hb : SB nm x H (listN s) T H2) (t5 : T 5 = .sl q 0 (64 * Kp) 1) (t8 : T 8 = .ptr n8 0) (t9 : T 9 = vi (p : Nat)) (t15 : T 15 = .ptr n15 0) (t16 : T 16 = vi ((0 : Nat) : Int)) (hr : H2 q = some (bs (padOf l))) (hW : H2 n8 = some (ws w)) (hA : H2 n15 = some (ws (listN s)))
  (hQ : ∀ c T H2,SB nm x H (listN s) T H2 -> T 5 = .sl q 0 (64 * Kp) 1 -> T 8 = .ptr n8 0 -> T 9 = vi (p : Nat) -> T 15 = .ptr n15 0 -> H2 q = some (bs (padOf l)) -> H2 n8 = some (ws w) -> H2 n15 = some (ws (listN (rnds w s 64))) -> Q (.exit 10) c T H2) :
  AWP Tryz.prog nm Tryz.f390.ntmps (sum2Code [1,1,1,1,1,1,1,1,1,0,1,2,3,1,0,2,1,1,1,0,1,2]) Q c T H2:=by
 have hcall:=onF_ok words_ok (onF_ok rot_ok (@noCall_ok Tryz.prog))
 dsimp only [sum2Code,codeAt,Tryz.f390,Option.getD]
 refine AWP.loop (fun m c T H2 => ∃ i,i <= 64 /\ m = 64 - i /\ SB nm x H (listN s) T H2 /\ T 5 = .sl q 0 (64 * Kp) 1 /\ T 8 = .ptr n8 0 /\ T 9 = vi (p : Nat) /\ T 15 = .ptr n15 0 /\ T 16 = vi (i : Nat) /\ H2 q = some (bs (padOf l)) /\ H2 n8 = some (ws w) /\ H2 n15 = some (ws (listN (rnds w s i)))) 64 ⟨0,by omega,rfl,hb,t5,t8,t9,t15,t16,hr,hW,hA⟩ ?_
 clear t5 hr hb t8 t9 hW t15 t16 hA T H2 c
 rintro _ c T H2 ⟨i,hi,rfl,hb,t5,t8,t9,t15,t16,hr,hW,hA⟩
 by_cases hi64 : i < 64
 ·have hii : (i : Int) < 64:=by omega
  have hw5 : IntKind.i64.wrap ((i : Int) + 1) = ((i + 1 : Nat) : Int):=by rw [IntKind.wrap_i64]; omega
  have hst:=rnds_succ hwl s hi64
  have hok:=rnds_ok hwl hs (i:=i) (by omega)
  rw [stepN_eq] at hst
  obtain ⟨st,hst0⟩ : ∃ st,st = rnds w s i:=⟨_,rfl⟩
  rw [<- hst0] at hst hok hA
  obtain ⟨a,b,cc,d,e,f,g,h⟩:=st
  obtain ⟨la,lb,lc,ld,le,lf,lg,lh⟩:=hok
  simp only at hst la lb lc ld le lf lg lh
  obtain ⟨kk,hkk⟩ : ∃ r,r = shaK.getD i 0:=⟨_,rfl⟩
  obtain ⟨ww,hww⟩ : ∃ r,r = w.getD i 0:=⟨_,rfl⟩
  rw [<- hkk,<- hww] at hst
  have hgk : (ws k256)[i]? = some (.val (.int .u32 (kk : Int))):=by rw [ws_getD (by exact hi64),hkk,k256_shaK]
  have hgw : (ws w)[i]? = some (.val (.int .u32 (ww : Int))):=by rw [ws_getD (by omega),hww]
  have h3:=hb.r3
  have t3:=hb.t3
  obtain ⟨rowK,hrK⟩ : ∃ r,r = ws k256:=⟨_,rfl⟩
  obtain ⟨rowW,hrW⟩ : ∃ r,r = ws w:=⟨_,rfl⟩
  rw [<- hrK] at hgk h3
  rw [<- hrW] at hgw hW
  have hA' : H2 n15 = some [.val (.int .u32 (a : Int)),.val (.int .u32 (b : Int)),.val (.int .u32 (cc : Int)),.val (.int .u32 (d : Int)),.val (.int .u32 (e : Int)),.val (.int .u32 (f : Int)),.val (.int .u32 (g : Int)),.val (.int .u32 (h : Int))]:=hA
  obtain ⟨u1,u2,u3,u4,u5,u6,u7,u8,u9,u10,u11,u12,vx,hvx,q1,q2,q3,e1,e2,e3,e4,e5,e6,e7,e8,e9,e10⟩:=d31 (k:=kk) (w:=ww) (h:=h) le lf lg
  obtain ⟨y1,y2,y3,y4,y5,y6,y7,y8,y9,y10,vy,hvy,z1,z2,z3,g1,g2,g3,g4,g5,g6,g7,g8⟩:=d32 la lb lc
  have p1:=b32_add vx vy
  have p2:=b32_add d vx
  rw [<- hvx,<- hvy] at hst
  obtain ⟨na,hna⟩ : ∃ r,r = addN vx vy:=⟨_,rfl⟩
  obtain ⟨ne,hne⟩ : ∃ r,r = addN d vx:=⟨_,rfl⟩
  rw [<- hna] at hst p1
  rw [<- hne] at hst p2
  clear hvx hvy hkk hww
  have hi63 : i <= 63:=by omega
  (repeat refine AWP.seq ?_)
  refine AWP.region_last hcall rfl fun K hK => ?_
  simp [t16,hii]
  apply hK; clear hK K; simp only [onNormal,onExit]
  (repeat refine AWP.seq ?_); refine AWP.cond (b:=true) (by simp [hii]) ?_; simp only [if_true,if_false,Bool.false_eq_true]
  refine AWP.skip ?_; simp only [onNormal,onExit]
  (repeat refine AWP.seq ?_); refine AWP.block ?_
  (repeat refine AWP.seq ?_)
  refine AWP.region_last hcall rfl fun K hK => ?_
  simp [t15,hA']
  apply hK; clear hK K; simp only [onNormal,onExit]
  (repeat refine AWP.seq ?_)
  refine AWP.draw_ops rfl hcall [0,1,0,4,0,28,60,0,188,508,1023,0,0,4096,14336,0,32768,0,131072,491520,1046528,2097151,0,4194304,12582912,33554431,0,67108864,201326592,536870911,1073741823] [⟨2,false,[]⟩,⟨3,true,[]⟩,⟨4,false,[]⟩,⟨5,true,[]⟩,⟨7,false,[]⟩,⟨8,true,[]⟩,⟨0,false,[]⟩,⟨1,false,[0,2,4,6]⟩,⟨6,false,[]⟩,⟨9,false,[]⟩,⟨10,false,[]⟩,⟨11,false,[]⟩,⟨12,false,[]⟩,⟨13,false,[0,2,4,6]⟩,⟨14,false,[]⟩,⟨15,false,[]⟩,⟨16,false,[]⟩,⟨17,false,[]⟩,⟨18,false,[0,2,4,6]⟩,⟨19,false,[]⟩,⟨20,false,[]⟩,⟨21,false,[]⟩,⟨22,false,[]⟩,⟨23,false,[]⟩,⟨24,false,[0,2,4,6]⟩,⟨25,false,[]⟩,⟨26,false,[]⟩,⟨27,false,[]⟩,⟨28,false,[0,2,4,6]⟩,⟨29,false,[]⟩,⟨30,false,[]⟩] rfl (by kernel_rfl) fun ops' hops K hK => ?_
  have o_0:=op_at hops 0 rfl
  have o_1:=op_at hops 1 rfl
  have o_2:=op_at hops 2 rfl
  have o_3:=op_at hops 3 rfl
  have o_4:=op_at hops 4 rfl
  have o_5:=op_at hops 5 rfl
  have o_6:=op_at hops 6 rfl
  have o_7:=op_at hops 7 rfl
  have o_8:=op_at hops 8 rfl
  have o_9:=op_at hops 9 rfl
  have o_10:=op_at hops 10 rfl
  have o_11:=op_at hops 11 rfl
  have o_12:=op_at hops 12 rfl
  have o_13:=op_at hops 13 rfl
  have o_14:=op_at hops 14 rfl
  have o_15:=op_at hops 15 rfl
  have o_16:=op_at hops 16 rfl
  have o_17:=op_at hops 17 rfl
  have o_18:=op_at hops 18 rfl
  have o_19:=op_at hops 19 rfl
  have o_20:=op_at hops 20 rfl
  have o_21:=op_at hops 21 rfl
  have o_22:=op_at hops 22 rfl
  have o_23:=op_at hops 23 rfl
  have o_24:=op_at hops 24 rfl
  have o_25:=op_at hops 25 rfl
  have o_26:=op_at hops 26 rfl
  have o_27:=op_at hops 27 rfl
  have o_28:=op_at hops 28 rfl
  have o_29:=op_at hops 29 rfl
  have o_30:=op_at hops 30 rfl
  have o_sz : ops'.size = 31:=op_sz hops rfl
  clear hops
  refine planW_ex o_2 rfl rfl ⟨_,by simp [-binV,t3,t8,t15,t16,h3,hW,hA',hgk,hgw,hi63,hi64,q1,q2,q3,e1,e2,e3,e4,e5,e6,e7,e8,e9,e10]; try rfl,trivial,?_⟩
  clear o_2
  refine planW_ex o_3 rfl rfl ⟨_,by simp [-binV,t3,t8,t15,t16,h3,hW,hA',hgk,hgw,hi63,hi64,q1,q2,q3,e1,e2,e3,e4,e5,e6,e7,e8,e9,e10]; try rfl,trivial,?_⟩
  clear o_3
  refine planW_ex o_4 rfl rfl ⟨_,by simp [-binV,t3,t8,t15,t16,h3,hW,hA',hgk,hgw,hi63,hi64,q1,q2,q3,e1,e2,e3,e4,e5,e6,e7,e8,e9,e10]; try rfl,trivial,?_⟩
  clear o_4
  refine planW_ex o_5 rfl rfl ⟨_,by simp [-binV,t3,t8,t15,t16,h3,hW,hA',hgk,hgw,hi63,hi64,q1,q2,q3,e1,e2,e3,e4,e5,e6,e7,e8,e9,e10]; try rfl,trivial,?_⟩
  clear o_5
  refine planW_ex o_7 rfl rfl ⟨_,by simp [-binV,t3,t8,t15,t16,h3,hW,hA',hgk,hgw,hi63,hi64,q1,q2,q3,e1,e2,e3,e4,e5,e6,e7,e8,e9,e10]; try rfl,trivial,?_⟩
  clear o_7
  refine planW_ex o_8 rfl rfl ⟨_,by simp [-binV,t3,t8,t15,t16,h3,hW,hA',hgk,hgw,hi63,hi64,q1,q2,q3,e1,e2,e3,e4,e5,e6,e7,e8,e9,e10]; try rfl,trivial,?_⟩
  clear o_8
  refine planW_ex o_0 rfl rfl ⟨_,by simp [-binV,t3,t8,t15,t16,h3,hW,hA',hgk,hgw,hi63,hi64,q1,q2,q3,e1,e2,e3,e4,e5,e6,e7,e8,e9,e10]; try rfl,trivial,?_⟩
  clear o_0
  refine planW_ex o_1 rfl rfl ⟨_,by simp [-binV,t3,t8,t15,t16,h3,hW,hA',hgk,hgw,hi63,hi64,q1,q2,q3,e1,e2,e3,e4,e5,e6,e7,e8,e9,e10]; try rfl,by simp [chkW,List.lookup,-binV,t3,t8,t15,t16,h3,hW,hA',hgk,hgw,hi63,hi64,q1,q2,q3,e1,e2,e3,e4,e5,e6,e7,e8,e9,e10],?_⟩
  clear o_1
  refine planW_ex o_6 rfl rfl ⟨_,by simp [-binV,t3,t8,t15,t16,h3,hW,hA',hgk,hgw,hi63,hi64,q1,q2,q3,e1,e2,e3,e4,e5,e6,e7,e8,e9,e10]; try rfl,trivial,?_⟩
  clear o_6
  refine planW_ex o_9 rfl rfl ⟨_,by simp [-binV,t3,t8,t15,t16,h3,hW,hA',hgk,hgw,hi63,hi64,q1,q2,q3,e1,e2,e3,e4,e5,e6,e7,e8,e9,e10]; try rfl,trivial,?_⟩
  clear o_9
  refine planW_ex o_10 rfl rfl ⟨_,by simp [-binV,t3,t8,t15,t16,h3,hW,hA',hgk,hgw,hi63,hi64,q1,q2,q3,e1,e2,e3,e4,e5,e6,e7,e8,e9,e10]; try rfl,trivial,?_⟩
  clear o_10
  refine planW_ex o_11 rfl rfl ⟨_,by simp [-binV,t3,t8,t15,t16,h3,hW,hA',hgk,hgw,hi63,hi64,q1,q2,q3,e1,e2,e3,e4,e5,e6,e7,e8,e9,e10]; try rfl,trivial,?_⟩
  clear o_11
  refine planW_ex o_12 rfl rfl ⟨_,by simp [-binV,t3,t8,t15,t16,h3,hW,hA',hgk,hgw,hi63,hi64,q1,q2,q3,e1,e2,e3,e4,e5,e6,e7,e8,e9,e10]; try rfl,trivial,?_⟩
  clear o_12
  refine planW_ex o_13 rfl rfl ⟨_,by simp [-binV,t3,t8,t15,t16,h3,hW,hA',hgk,hgw,hi63,hi64,q1,q2,q3,e1,e2,e3,e4,e5,e6,e7,e8,e9,e10]; try rfl,by simp [chkW,List.lookup,-binV,t3,t8,t15,t16,h3,hW,hA',hgk,hgw,hi63,hi64,q1,q2,q3,e1,e2,e3,e4,e5,e6,e7,e8,e9,e10],?_⟩
  clear o_13
  refine planW_ex o_14 rfl rfl ⟨_,by simp [-binV,t3,t8,t15,t16,h3,hW,hA',hgk,hgw,hi63,hi64,q1,q2,q3,e1,e2,e3,e4,e5,e6,e7,e8,e9,e10]; try rfl,trivial,?_⟩
  clear o_14
  refine planW_ex o_15 rfl rfl ⟨_,by simp [-binV,t3,t8,t15,t16,h3,hW,hA',hgk,hgw,hi63,hi64,q1,q2,q3,e1,e2,e3,e4,e5,e6,e7,e8,e9,e10]; try rfl,trivial,?_⟩
  clear o_15
  refine planW_ex o_16 rfl rfl ⟨_,by simp [-binV,t3,t8,t15,t16,h3,hW,hA',hgk,hgw,hi63,hi64,q1,q2,q3,e1,e2,e3,e4,e5,e6,e7,e8,e9,e10]; try rfl,trivial,?_⟩
  clear o_16
  refine planW_ex o_17 rfl rfl ⟨_,by simp [-binV,t3,t8,t15,t16,h3,hW,hA',hgk,hgw,hi63,hi64,q1,q2,q3,e1,e2,e3,e4,e5,e6,e7,e8,e9,e10]; try rfl,trivial,?_⟩
  clear o_17
  refine planW_ex o_18 rfl rfl ⟨_,by simp [-binV,t3,t8,t15,t16,h3,hW,hA',hgk,hgw,hi63,hi64,q1,q2,q3,e1,e2,e3,e4,e5,e6,e7,e8,e9,e10]; try rfl,by simp [chkW,List.lookup,-binV,t3,t8,t15,t16,h3,hW,hA',hgk,hgw,hi63,hi64,q1,q2,q3,e1,e2,e3,e4,e5,e6,e7,e8,e9,e10],?_⟩
  clear o_18
  refine planW_ex o_19 rfl rfl ⟨_,by simp [-binV,t3,t8,t15,t16,h3,hW,hA',hgk,hgw,hi63,hi64,q1,q2,q3,e1,e2,e3,e4,e5,e6,e7,e8,e9,e10]; try rfl,trivial,?_⟩
  clear o_19
  refine planW_ex o_20 rfl rfl ⟨_,by simp [-binV,t3,t8,t15,t16,h3,hW,hA',hgk,hgw,hi63,hi64,q1,q2,q3,e1,e2,e3,e4,e5,e6,e7,e8,e9,e10]; try rfl,trivial,?_⟩
  clear o_20
  refine planW_ex o_21 rfl rfl ⟨_,by simp [-binV,t3,t8,t15,t16,h3,hW,hA',hgk,hgw,hi63,hi64,q1,q2,q3,e1,e2,e3,e4,e5,e6,e7,e8,e9,e10]; try rfl,trivial,?_⟩
  clear o_21
  refine planW_ex o_22 rfl rfl ⟨_,by simp [-binV,t3,t8,t15,t16,h3,hW,hA',hgk,hgw,hi63,hi64,q1,q2,q3,e1,e2,e3,e4,e5,e6,e7,e8,e9,e10]; try rfl,trivial,?_⟩
  clear o_22
  refine planW_ex o_23 rfl rfl ⟨_,by simp [-binV,t3,t8,t15,t16,h3,hW,hA',hgk,hgw,hi63,hi64,q1,q2,q3,e1,e2,e3,e4,e5,e6,e7,e8,e9,e10]; try rfl,trivial,?_⟩
  clear o_23
  refine planW_ex o_24 rfl rfl ⟨_,by simp [-binV,t3,t8,t15,t16,h3,hW,hA',hgk,hgw,hi63,hi64,q1,q2,q3,e1,e2,e3,e4,e5,e6,e7,e8,e9,e10]; try rfl,by simp [chkW,List.lookup,-binV,t3,t8,t15,t16,h3,hW,hA',hgk,hgw,hi63,hi64,q1,q2,q3,e1,e2,e3,e4,e5,e6,e7,e8,e9,e10],?_⟩
  clear o_24
  refine planW_ex o_25 rfl rfl ⟨_,by simp [-binV,t3,t8,t15,t16,h3,hW,hA',hgk,hgw,hi63,hi64,q1,q2,q3,e1,e2,e3,e4,e5,e6,e7,e8,e9,e10]; try rfl,trivial,?_⟩
  clear o_25
  refine planW_ex o_26 rfl rfl ⟨_,by simp [-binV,t3,t8,t15,t16,h3,hW,hA',hgk,hgw,hi63,hi64,q1,q2,q3,e1,e2,e3,e4,e5,e6,e7,e8,e9,e10]; try rfl,trivial,?_⟩
  clear o_26
  refine planW_ex o_27 rfl rfl ⟨_,by simp [-binV,t3,t8,t15,t16,h3,hW,hA',hgk,hgw,hi63,hi64,q1,q2,q3,e1,e2,e3,e4,e5,e6,e7,e8,e9,e10]; try rfl,trivial,?_⟩
  clear o_27
  refine planW_ex o_28 rfl rfl ⟨_,by simp [-binV,t3,t8,t15,t16,h3,hW,hA',hgk,hgw,hi63,hi64,q1,q2,q3,e1,e2,e3,e4,e5,e6,e7,e8,e9,e10]; try rfl,by simp [chkW,List.lookup,-binV,t3,t8,t15,t16,h3,hW,hA',hgk,hgw,hi63,hi64,q1,q2,q3,e1,e2,e3,e4,e5,e6,e7,e8,e9,e10],?_⟩
  clear o_28
  refine planW_ex o_29 rfl rfl ⟨_,by simp [-binV,t3,t8,t15,t16,h3,hW,hA',hgk,hgw,hi63,hi64,q1,q2,q3,e1,e2,e3,e4,e5,e6,e7,e8,e9,e10]; try rfl,trivial,?_⟩
  clear o_29
  refine planW_ex o_30 rfl rfl ⟨_,by simp [-binV,t3,t8,t15,t16,h3,hW,hA',hgk,hgw,hi63,hi64,q1,q2,q3,e1,e2,e3,e4,e5,e6,e7,e8,e9,e10]; try rfl,trivial,?_⟩
  clear o_30
  refine planW_end o_sz ?_
  apply hK; clear hK K o_sz; simp only [onNormal,onExit,tput]
  (repeat refine AWP.seq ?_)
  refine AWP.draw_ops rfl hcall [0,1,3,0,8,31,63,0,128,447,1023,0,2048,0,8192,30720,0,65536,0,262144,983040,2095104,0,4194304,0,16777216,62914560,134215680,268435455,536870911] [⟨0,false,[]⟩,⟨1,false,[0]⟩,⟨2,true,[]⟩,⟨3,false,[]⟩,⟨4,false,[0,3]⟩,⟨5,true,[]⟩,⟨7,false,[]⟩,⟨8,false,[0,3,6]⟩,⟨9,true,[]⟩,⟨6,false,[]⟩,⟨10,false,[]⟩,⟨11,false,[]⟩,⟨12,false,[0,3,6,9]⟩,⟨13,false,[]⟩,⟨14,false,[0,3,6,9]⟩,⟨15,false,[]⟩,⟨16,false,[]⟩,⟨17,false,[0,3,6,9]⟩,⟨18,false,[]⟩,⟨19,false,[0,3,6,9]⟩,⟨20,false,[]⟩,⟨21,false,[]⟩,⟨22,false,[]⟩,⟨23,false,[0,3,6,9]⟩,⟨24,false,[]⟩,⟨25,false,[0,3,6,9]⟩,⟨26,false,[]⟩,⟨27,false,[]⟩,⟨28,false,[]⟩,⟨29,false,[]⟩] rfl (by kernel_rfl) fun ops' hops K hK => ?_
  have o_0:=op_at hops 0 rfl
  have o_1:=op_at hops 1 rfl
  have o_2:=op_at hops 2 rfl
  have o_3:=op_at hops 3 rfl
  have o_4:=op_at hops 4 rfl
  have o_5:=op_at hops 5 rfl
  have o_6:=op_at hops 6 rfl
  have o_7:=op_at hops 7 rfl
  have o_8:=op_at hops 8 rfl
  have o_9:=op_at hops 9 rfl
  have o_10:=op_at hops 10 rfl
  have o_11:=op_at hops 11 rfl
  have o_12:=op_at hops 12 rfl
  have o_13:=op_at hops 13 rfl
  have o_14:=op_at hops 14 rfl
  have o_15:=op_at hops 15 rfl
  have o_16:=op_at hops 16 rfl
  have o_17:=op_at hops 17 rfl
  have o_18:=op_at hops 18 rfl
  have o_19:=op_at hops 19 rfl
  have o_20:=op_at hops 20 rfl
  have o_21:=op_at hops 21 rfl
  have o_22:=op_at hops 22 rfl
  have o_23:=op_at hops 23 rfl
  have o_24:=op_at hops 24 rfl
  have o_25:=op_at hops 25 rfl
  have o_26:=op_at hops 26 rfl
  have o_27:=op_at hops 27 rfl
  have o_28:=op_at hops 28 rfl
  have o_29:=op_at hops 29 rfl
  have o_sz : ops'.size = 30:=op_sz hops rfl
  clear hops
  refine planW_ex o_0 rfl rfl ⟨_,by simp [-binV,t15,t16,hA',z1,z2,z3,g1,g2,g3,g4,g5,g6,g7,g8]; try rfl,trivial,?_⟩
  clear o_0
  refine planW_ex o_1 rfl rfl ⟨_,by simp [-binV,t15,t16,hA',z1,z2,z3,g1,g2,g3,g4,g5,g6,g7,g8]; try rfl,by simp [chkW,List.lookup,-binV,t15,t16,hA',z1,z2,z3,g1,g2,g3,g4,g5,g6,g7,g8],?_⟩
  clear o_1
  refine planW_ex o_2 rfl rfl ⟨_,by simp [-binV,t15,t16,hA',z1,z2,z3,g1,g2,g3,g4,g5,g6,g7,g8]; try rfl,trivial,?_⟩
  clear o_2
  refine planW_ex o_3 rfl rfl ⟨_,by simp [-binV,t15,t16,hA',z1,z2,z3,g1,g2,g3,g4,g5,g6,g7,g8]; try rfl,trivial,?_⟩
  clear o_3
  refine planW_ex o_4 rfl rfl ⟨_,by simp [-binV,t15,t16,hA',z1,z2,z3,g1,g2,g3,g4,g5,g6,g7,g8]; try rfl,by simp [chkW,List.lookup,-binV,t15,t16,hA',z1,z2,z3,g1,g2,g3,g4,g5,g6,g7,g8],?_⟩
  clear o_4
  refine planW_ex o_5 rfl rfl ⟨_,by simp [-binV,t15,t16,hA',z1,z2,z3,g1,g2,g3,g4,g5,g6,g7,g8]; try rfl,trivial,?_⟩
  clear o_5
  refine planW_ex o_7 rfl rfl ⟨_,by simp [-binV,t15,t16,hA',z1,z2,z3,g1,g2,g3,g4,g5,g6,g7,g8]; try rfl,trivial,?_⟩
  clear o_7
  refine planW_ex o_8 rfl rfl ⟨_,by simp [-binV,t15,t16,hA',z1,z2,z3,g1,g2,g3,g4,g5,g6,g7,g8]; try rfl,by simp [chkW,List.lookup,-binV,t15,t16,hA',z1,z2,z3,g1,g2,g3,g4,g5,g6,g7,g8],?_⟩
  clear o_8
  refine planW_ex o_9 rfl rfl ⟨_,by simp [-binV,t15,t16,hA',z1,z2,z3,g1,g2,g3,g4,g5,g6,g7,g8]; try rfl,trivial,?_⟩
  clear o_9
  refine planW_ex o_6 rfl rfl ⟨_,by simp [-binV,t15,t16,hA',z1,z2,z3,g1,g2,g3,g4,g5,g6,g7,g8]; try rfl,trivial,?_⟩
  clear o_6
  refine planW_ex o_10 rfl rfl ⟨_,by simp [-binV,t15,t16,hA',z1,z2,z3,g1,g2,g3,g4,g5,g6,g7,g8]; try rfl,trivial,?_⟩
  clear o_10
  refine planW_ex o_11 rfl rfl ⟨_,by simp [-binV,t15,t16,hA',z1,z2,z3,g1,g2,g3,g4,g5,g6,g7,g8]; try rfl,trivial,?_⟩
  clear o_11
  refine planW_ex o_12 rfl rfl ⟨_,by simp [-binV,t15,t16,hA',z1,z2,z3,g1,g2,g3,g4,g5,g6,g7,g8]; try rfl,by simp [chkW,List.lookup,-binV,t15,t16,hA',z1,z2,z3,g1,g2,g3,g4,g5,g6,g7,g8],?_⟩
  clear o_12
  refine planW_ex o_13 rfl rfl ⟨_,by simp [-binV,t15,t16,hA',z1,z2,z3,g1,g2,g3,g4,g5,g6,g7,g8]; try rfl,trivial,?_⟩
  clear o_13
  refine planW_ex o_14 rfl rfl ⟨_,by simp [-binV,t15,t16,hA',z1,z2,z3,g1,g2,g3,g4,g5,g6,g7,g8]; try rfl,by simp [chkW,List.lookup,-binV,t15,t16,hA',z1,z2,z3,g1,g2,g3,g4,g5,g6,g7,g8],?_⟩
  clear o_14
  refine planW_ex o_15 rfl rfl ⟨_,by simp [-binV,t15,t16,hA',z1,z2,z3,g1,g2,g3,g4,g5,g6,g7,g8]; try rfl,trivial,?_⟩
  clear o_15
  refine planW_ex o_16 rfl rfl ⟨_,by simp [-binV,t15,t16,hA',z1,z2,z3,g1,g2,g3,g4,g5,g6,g7,g8]; try rfl,trivial,?_⟩
  clear o_16
  refine planW_ex o_17 rfl rfl ⟨_,by simp [-binV,t15,t16,hA',z1,z2,z3,g1,g2,g3,g4,g5,g6,g7,g8]; try rfl,by simp [chkW,List.lookup,-binV,t15,t16,hA',z1,z2,z3,g1,g2,g3,g4,g5,g6,g7,g8],?_⟩
  clear o_17
  refine planW_ex o_18 rfl rfl ⟨_,by simp [-binV,t15,t16,hA',z1,z2,z3,g1,g2,g3,g4,g5,g6,g7,g8]; try rfl,trivial,?_⟩
  clear o_18
  refine planW_ex o_19 rfl rfl ⟨_,by simp [-binV,t15,t16,hA',z1,z2,z3,g1,g2,g3,g4,g5,g6,g7,g8]; try rfl,by simp [chkW,List.lookup,-binV,t15,t16,hA',z1,z2,z3,g1,g2,g3,g4,g5,g6,g7,g8],?_⟩
  clear o_19
  refine planW_ex o_20 rfl rfl ⟨_,by simp [-binV,t15,t16,hA',z1,z2,z3,g1,g2,g3,g4,g5,g6,g7,g8]; try rfl,trivial,?_⟩
  clear o_20
  refine planW_ex o_21 rfl rfl ⟨_,by simp [-binV,t15,t16,hA',z1,z2,z3,g1,g2,g3,g4,g5,g6,g7,g8]; try rfl,trivial,?_⟩
  clear o_21
  refine planW_ex o_22 rfl rfl ⟨_,by simp [-binV,t15,t16,hA',z1,z2,z3,g1,g2,g3,g4,g5,g6,g7,g8]; try rfl,trivial,?_⟩
  clear o_22
  refine planW_ex o_23 rfl rfl ⟨_,by simp [-binV,t15,t16,hA',z1,z2,z3,g1,g2,g3,g4,g5,g6,g7,g8]; try rfl,by simp [chkW,List.lookup,-binV,t15,t16,hA',z1,z2,z3,g1,g2,g3,g4,g5,g6,g7,g8],?_⟩
  clear o_23
  refine planW_ex o_24 rfl rfl ⟨_,by simp [-binV,t15,t16,hA',z1,z2,z3,g1,g2,g3,g4,g5,g6,g7,g8]; try rfl,trivial,?_⟩
  clear o_24
  refine planW_ex o_25 rfl rfl ⟨_,by simp [-binV,t15,t16,hA',z1,z2,z3,g1,g2,g3,g4,g5,g6,g7,g8]; try rfl,by simp [chkW,List.lookup,-binV,t15,t16,hA',z1,z2,z3,g1,g2,g3,g4,g5,g6,g7,g8],?_⟩
  clear o_25
  refine planW_ex o_26 rfl rfl ⟨_,by simp [-binV,t15,t16,hA',z1,z2,z3,g1,g2,g3,g4,g5,g6,g7,g8]; try rfl,trivial,?_⟩
  clear o_26
  refine planW_ex o_27 rfl rfl ⟨_,by simp [-binV,t15,t16,hA',z1,z2,z3,g1,g2,g3,g4,g5,g6,g7,g8]; try rfl,trivial,?_⟩
  clear o_27
  refine planW_ex o_28 rfl rfl ⟨_,by simp [-binV,t15,t16,hA',z1,z2,z3,g1,g2,g3,g4,g5,g6,g7,g8]; try rfl,trivial,?_⟩
  clear o_28
  refine planW_ex o_29 rfl rfl ⟨_,by simp [-binV,t15,t16,hA',z1,z2,z3,g1,g2,g3,g4,g5,g6,g7,g8]; try rfl,trivial,?_⟩
  clear o_29
  refine planW_end o_sz ?_
  apply hK; clear hK K o_sz; simp only [onNormal,onExit,tput]
  (repeat refine AWP.seq ?_)
  refine AWP.region_last hcall rfl fun K hK => ?_
  simp [-binV,t15,hA',p1,p2]
  apply hK; clear hK K; simp only [onNormal,onExit]
  (repeat refine AWP.seq ?_)
  refine AWP.region_last hcall rfl fun K hK => ?_
  simp [t16,hw5]
  apply hK; clear hK K; simp only [onNormal,onExit]
  refine ⟨64 - (i + 1),by omega,i + 1,by omega,rfl,SB.temps (SB.upd hb _ w0' w2' w5' h15) (fun j hj => by repeat rw [tset_ge hj rfl]),by simp [t5],by simp [t8],by simp [t9],by simp [t15],by simp,?_,?_,?_⟩
  ·rw [upd_ne _ _ hqw]; exact hr
  ·rw [upd_ne _ _ h8w,<- hrW]; exact hW
  ·rw [upd_same,hst]; rfl
 obtain rfl : i = 64:=by omega
 (repeat refine AWP.seq ?_)
 refine AWP.region_last hcall rfl fun K hK => ?_
 simp [t16]
 apply hK; clear hK K; simp only [onNormal,onExit]
 (repeat refine AWP.seq ?_); refine AWP.cond (b:=false) (by simp) ?_; simp only [if_true,if_false,Bool.false_eq_true]
 refine AWP.exit ?_; simp only [onNormal]
 exact hQ _ _ _ (SB.temps hb (fun j hj => by repeat rw [tset_ge hj rfl])) (by simp [t5]) (by simp [t8]) (by simp [t9]) (by simp [t15]) hr hW hA
end Go.Proofs.YtbllpnjappddeaaGreat.Den
