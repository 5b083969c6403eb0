/- Package comitiaref2, Sum: the first sixteen words of a piece. -/
import Derived.Test.YtbllpnjappddeaaGreatKRfI
set_option linter.unusedVariables false
set_option linter.unusedSimpArgs false
section
set_option linter.unusedSimpArgs false
set_option linter.unusedVariables false
set_option maxRecDepth 100000
namespace Go.Proofs.YtbllpnjappddeaaGreat.Den
open Go.RowKit
attribute [local simp] runList aop abuiltin acall awanted ayielded env T0 tput tset Ran aload astore setMany upd binV aslice aindexAddr apart aindex alen acopy srcCells natOf boundOf aeq AV.nilEq convV appK fillA List.range List.range.loop onF isU8 rowOf
set_option maxHeartbeats 1000000 in
theorem loopA {nm : Name} {x : AV} {H : AHeap} {l : List UInt8} {s : W8} {q n8 : Name} {Kp p : Nat} {b W : List Nat} {Q : Exit -> Nat -> Temps -> AHeap -> Prop} {c : Nat} {T : Temps} {H2 : AHeap}
  (hpl : (padOf l).length = 64 * Kp) (hp9 : p + 64 <= 64 * Kp) (hKb : Kp < 1099511627776) (hb256 : ∀ y ∈ b,y < 256)
  (hbg : ∀ j (h : j < 64) (h' : p + j < (padOf l).length),((padOf l)[p + j]'h').toNat = b.getD j 0) (hWl : W.length = 64) (h8 : H n8 = none) (w0' : 0 :: nm ≠ n8) (w2' : 2 :: nm ≠ n8) (w5' : 5 :: nm ≠ n8) (hqw : q ≠ n8)
  (hb : SB nm x H (listN s) T H2) (t5 : T 5 = .sl q 0 (64 * Kp) 1) (t8 : T 8 = .ptr n8 0) (t9 : T 9 = vi (p : Nat)) (t10 : T 10 = vi ((0 : Nat) : Int)) (hr : H2 q = some (bs (padOf l))) (hW : H2 n8 = some (ws W))
  (hQ : ∀ c T H2,SB nm x H (listN s) T H2 -> T 5 = .sl q 0 (64 * Kp) 1 -> T 8 = .ptr n8 0 -> T 9 = vi (p : Nat) -> H2 q = some (bs (padOf l)) -> H2 n8 = some (ws (w1 b 16 ++ W.drop 16)) -> Q (.exit 6) c T H2) :
  AWP Tryz.prog nm Tryz.f390.ntmps (sum2Code [1,1,1,1,1,1,1,1,1,0,1,2,3,1,0,2,0,1,2]) Q c T H2:=by
 have hcall:=onF_ok words_ok (onF_ok rot_ok (@noCall_ok Tryz.prog))
 dsimp only [sum2Code,codeAt,Tryz.f390,Option.getD]
 refine AWP.loop (fun m c T H2 => ∃ j,j <= 16 /\ m = 16 - j /\ SB nm x H (listN s) T H2 /\ T 5 = .sl q 0 (64 * Kp) 1 /\ T 8 = .ptr n8 0 /\ T 9 = vi (p : Nat) /\ T 10 = vi (j : Nat) /\ H2 q = some (bs (padOf l)) /\ H2 n8 = some (ws (w1 b j ++ W.drop j))) 16 ⟨0,by omega,rfl,hb,t5,t8,t9,t10,hr,hW⟩ ?_
 clear t5 hr hb t8 t9 hW t10 T H2 c
 rintro _ c T H2 ⟨j,hj,rfl,hb,t5,t8,t9,t10,hr,hW⟩
 by_cases hj16 : j < 16
 ·have hji : (j : Int) < 16:=by omega
  obtain ⟨P,hP⟩ : ∃ P,P = p + 4 * j:=⟨_,rfl⟩
  have hw0 : IntKind.i64.wrap (4 * (j : Int)) = 4 * (j : Int):=by rw [IntKind.wrap_i64]; omega
  have hw1 : IntKind.i64.wrap ((p : Int) + IntKind.i64.wrap (4 * (j : Int))) = (P : Int):=by rw [hw0,IntKind.wrap_i64]; omega
  obtain ⟨P1,hP1e⟩ : ∃ P1,P1 = P + 1:=⟨_,rfl⟩
  obtain ⟨P2,hP2e⟩ : ∃ P2,P2 = P + 2:=⟨_,rfl⟩
  obtain ⟨P3,hP3e⟩ : ∃ P3,P3 = P + 3:=⟨_,rfl⟩
  have hw2 : IntKind.i64.wrap ((P : Int) + 1) = ((P1 : Nat) : Int):=by rw [IntKind.wrap_i64]; omega
  have hw3 : IntKind.i64.wrap ((P : Int) + 2) = ((P2 : Nat) : Int):=by rw [IntKind.wrap_i64]; omega
  have hw4 : IntKind.i64.wrap ((P : Int) + 3) = ((P3 : Nat) : Int):=by rw [IntKind.wrap_i64]; omega
  have hw5 : IntKind.i64.wrap ((j : Int) + 1) = ((j + 1 : Nat) : Int):=by rw [IntKind.wrap_i64]; omega
  (repeat refine AWP.seq ?_)
  refine AWP.region_last hcall rfl fun K hK => ?_
  simp [t10,hji]
  apply hK; clear hK K; simp only [onNormal,onExit]
  (repeat refine AWP.seq ?_); refine AWP.cond (b:=true) (by simp [hji]) ?_; simp only [if_true,if_false,Bool.false_eq_true]
  refine AWP.skip ?_; simp only [onNormal,onExit]
  (repeat refine AWP.seq ?_); refine AWP.block ?_
  (repeat refine AWP.seq ?_)
  refine AWP.region_last hcall rfl fun K hK => ?_
  simp [t9,t10,hw1]
  apply hK; clear hK K; simp only [onNormal,onExit]
  have hrow:=w1_length b j
  have hset:=ws_grow (e:=w1 b j) (o:=W) (n:=w4N (b.getD (4 * j) 0) (b.getD (4 * j + 1) 0) (b.getD (4 * j + 2) 0) (b.getD (4 * j + 3) 0)) (by omega)
  rw [hrow,<- w1_succ,w1_length] at hset
  have hP0 : P < 64 * Kp:=by omega
  have hP1 : P1 < 64 * Kp:=by omega
  have hP2 : P2 < 64 * Kp:=by omega
  have hP3 : P3 < 64 * Kp:=by omega
  obtain ⟨c0,hg0,hc0⟩ : ∃ c : Nat,(bs (padOf l))[P]? = some (.val (.int .u8 (c : Int))) /\ IntKind.u32.wrap (c : Int) = ((b.getD (4 * j) 0 : Nat) : Int):=by
   have h1:=hbg (4 * j) (by omega) (by omega)
   refine ⟨b.getD (4 * j) 0,?_,w32 (by have:=getD_lt hb256 (4 * j); omega)⟩
   have h2 : p + (4 * j) = P:=by omega
   rw [<- h2,bs_get,List.getElem?_eq_getElem (by omega),<- h1]; rfl
  obtain ⟨c1,hg1,hc1⟩ : ∃ c : Nat,(bs (padOf l))[P1]? = some (.val (.int .u8 (c : Int))) /\ IntKind.u32.wrap (c : Int) = ((b.getD (4 * j + 1) 0 : Nat) : Int):=by
   have h1:=hbg (4 * j + 1) (by omega) (by omega)
   refine ⟨b.getD (4 * j + 1) 0,?_,w32 (by have:=getD_lt hb256 (4 * j + 1); omega)⟩
   have h2 : p + (4 * j + 1) = P1:=by omega
   rw [<- h2,bs_get,List.getElem?_eq_getElem (by omega),<- h1]; rfl
  obtain ⟨c2,hg2,hc2⟩ : ∃ c : Nat,(bs (padOf l))[P2]? = some (.val (.int .u8 (c : Int))) /\ IntKind.u32.wrap (c : Int) = ((b.getD (4 * j + 2) 0 : Nat) : Int):=by
   have h1:=hbg (4 * j + 2) (by omega) (by omega)
   refine ⟨b.getD (4 * j + 2) 0,?_,w32 (by have:=getD_lt hb256 (4 * j + 2); omega)⟩
   have h2 : p + (4 * j + 2) = P2:=by omega
   rw [<- h2,bs_get,List.getElem?_eq_getElem (by omega),<- h1]; rfl
  obtain ⟨c3,hg3,hc3⟩ : ∃ c : Nat,(bs (padOf l))[P3]? = some (.val (.int .u8 (c : Int))) /\ IntKind.u32.wrap (c : Int) = ((b.getD (4 * j + 3) 0 : Nat) : Int):=by
   have h1:=hbg (4 * j + 3) (by omega) (by omega)
   refine ⟨b.getD (4 * j + 3) 0,?_,w32 (by have:=getD_lt hb256 (4 * j + 3); omega)⟩
   have h2 : p + (4 * j + 3) = P3:=by omega
   rw [<- h2,bs_get,List.getElem?_eq_getElem (by omega),<- h1]; rfl
  have g3:=getD_lt hb256 (4 * j + 3)
  obtain ⟨B0,hB0⟩ : ∃ r,r = b.getD (4 * j) 0:=⟨_,rfl⟩
  obtain ⟨B1,hB1⟩ : ∃ r,r = b.getD (4 * j + 1) 0:=⟨_,rfl⟩
  obtain ⟨B2,hB2⟩ : ∃ r,r = b.getD (4 * j + 2) 0:=⟨_,rfl⟩
  obtain ⟨B3,hB3⟩ : ∃ r,r = b.getD (4 * j + 3) 0:=⟨_,rfl⟩
  rw [<- hB0] at hc0 hset
  rw [<- hB1] at hc1 hset
  rw [<- hB2] at hc2 hset
  rw [<- hB3] at hc3 hset g3
  obtain ⟨v1,v2,v3,v4,v5,v6,hv6,k1,k2,k3,e1,e2,e3⟩:=d20 (B0:=B0) (B1:=B1) (B2:=B2) (B3:=B3) (by omega)
  rw [<- hv6] at hset
  have hrl : (ws (w1 b j ++ W.drop j)).length = 64:=by rw [ws_length,List.length_append,w1_length,List.length_drop,hWl]; omega
  obtain ⟨rowP,hrp⟩ : ∃ r,r = bs (padOf l):=⟨_,rfl⟩
  obtain ⟨rowL,hrL⟩ : ∃ r,r = ws (w1 b j ++ W.drop j):=⟨_,rfl⟩
  obtain ⟨rowN,hrN⟩ : ∃ r,r = ws (w1 b (j + 1) ++ W.drop (j + 1)):=⟨_,rfl⟩
  rw [<- hrp] at hr hg0 hg1 hg2 hg3
  rw [<- hrL] at hW hset hrl
  rw [<- hrN] at hset
  have hj63 : j <= 63:=by omega
  have hj64 : j < 64:=by omega
  (repeat refine AWP.seq ?_)
  refine AWP.draw_ops rfl hcall [0,0,0,6,14,30,62,0,0,256,896,1920,3968,8064,16382,0,0,65536,229376,491520,1015808,2064384,4194302,0,0,16777216,58720256,125829120,260046848,536870910,1073741823,2147483647] [⟨0,false,[]⟩,⟨1,false,[]⟩,⟨2,false,[]⟩,⟨3,false,[]⟩,⟨4,false,[0]⟩,⟨5,false,[0]⟩,⟨6,false,[]⟩,⟨7,false,[]⟩,⟨8,false,[]⟩,⟨9,false,[]⟩,⟨10,false,[]⟩,⟨11,false,[0]⟩,⟨12,false,[0]⟩,⟨13,false,[]⟩,⟨14,false,[]⟩,⟨15,false,[]⟩,⟨16,false,[]⟩,⟨17,false,[]⟩,⟨18,false,[]⟩,⟨19,false,[0]⟩,⟨20,false,[0]⟩,⟨21,false,[]⟩,⟨22,false,[]⟩,⟨23,false,[]⟩,⟨24,false,[]⟩,⟨25,false,[]⟩,⟨26,false,[]⟩,⟨27,false,[0]⟩,⟨28,false,[0]⟩,⟨29,false,[]⟩,⟨30,false,[]⟩,⟨31,true,[]⟩] rfl (by kernel_rfl) fun ops' hops K hK => ?_
  have o_0:=op_at hops 0 rfl
  have o_1:=op_at hops 1 rfl
  have o_2:=op_at hops 2 rfl
  have o_3:=op_at hops 3 rfl
  have o_4:=op_at hops 4 rfl
  have o_5:=op_at hops 5 rfl
  have o_6:=op_at hops 6 rfl
  have o_7:=op_at hops 7 rfl
  have o_8:=op_at hops 8 rfl
  have o_9:=op_at hops 9 rfl
  have o_10:=op_at hops 10 rfl
  have o_11:=op_at hops 11 rfl
  have o_12:=op_at hops 12 rfl
  have o_13:=op_at hops 13 rfl
  have o_14:=op_at hops 14 rfl
  have o_15:=op_at hops 15 rfl
  have o_16:=op_at hops 16 rfl
  have o_17:=op_at hops 17 rfl
  have o_18:=op_at hops 18 rfl
  have o_19:=op_at hops 19 rfl
  have o_20:=op_at hops 20 rfl
  have o_21:=op_at hops 21 rfl
  have o_22:=op_at hops 22 rfl
  have o_23:=op_at hops 23 rfl
  have o_24:=op_at hops 24 rfl
  have o_25:=op_at hops 25 rfl
  have o_26:=op_at hops 26 rfl
  have o_27:=op_at hops 27 rfl
  have o_28:=op_at hops 28 rfl
  have o_29:=op_at hops 29 rfl
  have o_30:=op_at hops 30 rfl
  have o_31:=op_at hops 31 rfl
  have o_sz : ops'.size = 32:=op_sz hops rfl
  clear hops
  refine planW_ex o_0 rfl rfl ⟨_,by simp [-binV,t5,t8,t10,hr,hW,hw2,hw3,hw4,hP0,hP1,hP2,hP3,hg0,hg1,hg2,hg3,hc0,hc1,hc2,hc3,k1,k2,k3,e1,e2,e3,bi_add,hset,hrl,hj63,hj64]; try rfl,trivial,?_⟩
  clear o_0
  refine planW_ex o_1 rfl rfl ⟨_,by simp [-binV,t5,t8,t10,hr,hW,hw2,hw3,hw4,hP0,hP1,hP2,hP3,hg0,hg1,hg2,hg3,hc0,hc1,hc2,hc3,k1,k2,k3,e1,e2,e3,bi_add,hset,hrl,hj63,hj64]; try rfl,trivial,?_⟩
  clear o_1
  refine planW_ex o_2 rfl rfl ⟨_,by simp [-binV,t5,t8,t10,hr,hW,hw2,hw3,hw4,hP0,hP1,hP2,hP3,hg0,hg1,hg2,hg3,hc0,hc1,hc2,hc3,k1,k2,k3,e1,e2,e3,bi_add,hset,hrl,hj63,hj64]; try rfl,trivial,?_⟩
  clear o_2
  refine planW_ex o_3 rfl rfl ⟨_,by simp [-binV,t5,t8,t10,hr,hW,hw2,hw3,hw4,hP0,hP1,hP2,hP3,hg0,hg1,hg2,hg3,hc0,hc1,hc2,hc3,k1,k2,k3,e1,e2,e3,bi_add,hset,hrl,hj63,hj64]; try rfl,trivial,?_⟩
  clear o_3
  refine planW_ex o_4 rfl rfl ⟨_,by simp [-binV,t5,t8,t10,hr,hW,hw2,hw3,hw4,hP0,hP1,hP2,hP3,hg0,hg1,hg2,hg3,hc0,hc1,hc2,hc3,k1,k2,k3,e1,e2,e3,bi_add,hset,hrl,hj63,hj64]; try rfl,by simp [chkW,List.lookup,-binV,t5,t8,t10,hr,hW,hw2,hw3,hw4,hP0,hP1,hP2,hP3,hg0,hg1,hg2,hg3,hc0,hc1,hc2,hc3,k1,k2,k3,e1,e2,e3,bi_add,hset,hrl,hj63,hj64],?_⟩
  clear o_4
  refine planW_ex o_5 rfl rfl ⟨_,by simp [-binV,t5,t8,t10,hr,hW,hw2,hw3,hw4,hP0,hP1,hP2,hP3,hg0,hg1,hg2,hg3,hc0,hc1,hc2,hc3,k1,k2,k3,e1,e2,e3,bi_add,hset,hrl,hj63,hj64]; try rfl,by simp [chkW,List.lookup,-binV,t5,t8,t10,hr,hW,hw2,hw3,hw4,hP0,hP1,hP2,hP3,hg0,hg1,hg2,hg3,hc0,hc1,hc2,hc3,k1,k2,k3,e1,e2,e3,bi_add,hset,hrl,hj63,hj64],?_⟩
  clear o_5
  refine planW_ex o_6 rfl rfl ⟨_,by simp [-binV,t5,t8,t10,hr,hW,hw2,hw3,hw4,hP0,hP1,hP2,hP3,hg0,hg1,hg2,hg3,hc0,hc1,hc2,hc3,k1,k2,k3,e1,e2,e3,bi_add,hset,hrl,hj63,hj64]; try rfl,trivial,?_⟩
  clear o_6
  refine planW_ex o_7 rfl rfl ⟨_,by simp [-binV,t5,t8,t10,hr,hW,hw2,hw3,hw4,hP0,hP1,hP2,hP3,hg0,hg1,hg2,hg3,hc0,hc1,hc2,hc3,k1,k2,k3,e1,e2,e3,bi_add,hset,hrl,hj63,hj64]; try rfl,trivial,?_⟩
  clear o_7
  refine planW_ex o_8 rfl rfl ⟨_,by simp [-binV,t5,t8,t10,hr,hW,hw2,hw3,hw4,hP0,hP1,hP2,hP3,hg0,hg1,hg2,hg3,hc0,hc1,hc2,hc3,k1,k2,k3,e1,e2,e3,bi_add,hset,hrl,hj63,hj64]; try rfl,trivial,?_⟩
  clear o_8
  refine planW_ex o_9 rfl rfl ⟨_,by simp [-binV,t5,t8,t10,hr,hW,hw2,hw3,hw4,hP0,hP1,hP2,hP3,hg0,hg1,hg2,hg3,hc0,hc1,hc2,hc3,k1,k2,k3,e1,e2,e3,bi_add,hset,hrl,hj63,hj64]; try rfl,trivial,?_⟩
  clear o_9
  refine planW_ex o_10 rfl rfl ⟨_,by simp [-binV,t5,t8,t10,hr,hW,hw2,hw3,hw4,hP0,hP1,hP2,hP3,hg0,hg1,hg2,hg3,hc0,hc1,hc2,hc3,k1,k2,k3,e1,e2,e3,bi_add,hset,hrl,hj63,hj64]; try rfl,trivial,?_⟩
  clear o_10
  refine planW_ex o_11 rfl rfl ⟨_,by simp [-binV,t5,t8,t10,hr,hW,hw2,hw3,hw4,hP0,hP1,hP2,hP3,hg0,hg1,hg2,hg3,hc0,hc1,hc2,hc3,k1,k2,k3,e1,e2,e3,bi_add,hset,hrl,hj63,hj64]; try rfl,by simp [chkW,List.lookup,-binV,t5,t8,t10,hr,hW,hw2,hw3,hw4,hP0,hP1,hP2,hP3,hg0,hg1,hg2,hg3,hc0,hc1,hc2,hc3,k1,k2,k3,e1,e2,e3,bi_add,hset,hrl,hj63,hj64],?_⟩
  clear o_11
  refine planW_ex o_12 rfl rfl ⟨_,by simp [-binV,t5,t8,t10,hr,hW,hw2,hw3,hw4,hP0,hP1,hP2,hP3,hg0,hg1,hg2,hg3,hc0,hc1,hc2,hc3,k1,k2,k3,e1,e2,e3,bi_add,hset,hrl,hj63,hj64]; try rfl,by simp [chkW,List.lookup,-binV,t5,t8,t10,hr,hW,hw2,hw3,hw4,hP0,hP1,hP2,hP3,hg0,hg1,hg2,hg3,hc0,hc1,hc2,hc3,k1,k2,k3,e1,e2,e3,bi_add,hset,hrl,hj63,hj64],?_⟩
  clear o_12
  refine planW_ex o_13 rfl rfl ⟨_,by simp [-binV,t5,t8,t10,hr,hW,hw2,hw3,hw4,hP0,hP1,hP2,hP3,hg0,hg1,hg2,hg3,hc0,hc1,hc2,hc3,k1,k2,k3,e1,e2,e3,bi_add,hset,hrl,hj63,hj64]; try rfl,trivial,?_⟩
  clear o_13
  refine planW_ex o_14 rfl rfl ⟨_,by simp [-binV,t5,t8,t10,hr,hW,hw2,hw3,hw4,hP0,hP1,hP2,hP3,hg0,hg1,hg2,hg3,hc0,hc1,hc2,hc3,k1,k2,k3,e1,e2,e3,bi_add,hset,hrl,hj63,hj64]; try rfl,trivial,?_⟩
  clear o_14
  refine planW_ex o_15 rfl rfl ⟨_,by simp [-binV,t5,t8,t10,hr,hW,hw2,hw3,hw4,hP0,hP1,hP2,hP3,hg0,hg1,hg2,hg3,hc0,hc1,hc2,hc3,k1,k2,k3,e1,e2,e3,bi_add,hset,hrl,hj63,hj64]; try rfl,trivial,?_⟩
  clear o_15
  refine planW_ex o_16 rfl rfl ⟨_,by simp [-binV,t5,t8,t10,hr,hW,hw2,hw3,hw4,hP0,hP1,hP2,hP3,hg0,hg1,hg2,hg3,hc0,hc1,hc2,hc3,k1,k2,k3,e1,e2,e3,bi_add,hset,hrl,hj63,hj64]; try rfl,trivial,?_⟩
  clear o_16
  refine planW_ex o_17 rfl rfl ⟨_,by simp [-binV,t5,t8,t10,hr,hW,hw2,hw3,hw4,hP0,hP1,hP2,hP3,hg0,hg1,hg2,hg3,hc0,hc1,hc2,hc3,k1,k2,k3,e1,e2,e3,bi_add,hset,hrl,hj63,hj64]; try rfl,trivial,?_⟩
  clear o_17
  refine planW_ex o_18 rfl rfl ⟨_,by simp [-binV,t5,t8,t10,hr,hW,hw2,hw3,hw4,hP0,hP1,hP2,hP3,hg0,hg1,hg2,hg3,hc0,hc1,hc2,hc3,k1,k2,k3,e1,e2,e3,bi_add,hset,hrl,hj63,hj64]; try rfl,trivial,?_⟩
  clear o_18
  refine planW_ex o_19 rfl rfl ⟨_,by simp [-binV,t5,t8,t10,hr,hW,hw2,hw3,hw4,hP0,hP1,hP2,hP3,hg0,hg1,hg2,hg3,hc0,hc1,hc2,hc3,k1,k2,k3,e1,e2,e3,bi_add,hset,hrl,hj63,hj64]; try rfl,by simp [chkW,List.lookup,-binV,t5,t8,t10,hr,hW,hw2,hw3,hw4,hP0,hP1,hP2,hP3,hg0,hg1,hg2,hg3,hc0,hc1,hc2,hc3,k1,k2,k3,e1,e2,e3,bi_add,hset,hrl,hj63,hj64],?_⟩
  clear o_19
  refine planW_ex o_20 rfl rfl ⟨_,by simp [-binV,t5,t8,t10,hr,hW,hw2,hw3,hw4,hP0,hP1,hP2,hP3,hg0,hg1,hg2,hg3,hc0,hc1,hc2,hc3,k1,k2,k3,e1,e2,e3,bi_add,hset,hrl,hj63,hj64]; try rfl,by simp [chkW,List.lookup,-binV,t5,t8,t10,hr,hW,hw2,hw3,hw4,hP0,hP1,hP2,hP3,hg0,hg1,hg2,hg3,hc0,hc1,hc2,hc3,k1,k2,k3,e1,e2,e3,bi_add,hset,hrl,hj63,hj64],?_⟩
  clear o_20
  refine planW_ex o_21 rfl rfl ⟨_,by simp [-binV,t5,t8,t10,hr,hW,hw2,hw3,hw4,hP0,hP1,hP2,hP3,hg0,hg1,hg2,hg3,hc0,hc1,hc2,hc3,k1,k2,k3,e1,e2,e3,bi_add,hset,hrl,hj63,hj64]; try rfl,trivial,?_⟩
  clear o_21
  refine planW_ex o_22 rfl rfl ⟨_,by simp [-binV,t5,t8,t10,hr,hW,hw2,hw3,hw4,hP0,hP1,hP2,hP3,hg0,hg1,hg2,hg3,hc0,hc1,hc2,hc3,k1,k2,k3,e1,e2,e3,bi_add,hset,hrl,hj63,hj64]; try rfl,trivial,?_⟩
  clear o_22
  refine planW_ex o_23 rfl rfl ⟨_,by simp [-binV,t5,t8,t10,hr,hW,hw2,hw3,hw4,hP0,hP1,hP2,hP3,hg0,hg1,hg2,hg3,hc0,hc1,hc2,hc3,k1,k2,k3,e1,e2,e3,bi_add,hset,hrl,hj63,hj64]; try rfl,trivial,?_⟩
  clear o_23
  refine planW_ex o_24 rfl rfl ⟨_,by simp [-binV,t5,t8,t10,hr,hW,hw2,hw3,hw4,hP0,hP1,hP2,hP3,hg0,hg1,hg2,hg3,hc0,hc1,hc2,hc3,k1,k2,k3,e1,e2,e3,bi_add,hset,hrl,hj63,hj64]; try rfl,trivial,?_⟩
  clear o_24
  refine planW_ex o_25 rfl rfl ⟨_,by simp [-binV,t5,t8,t10,hr,hW,hw2,hw3,hw4,hP0,hP1,hP2,hP3,hg0,hg1,hg2,hg3,hc0,hc1,hc2,hc3,k1,k2,k3,e1,e2,e3,bi_add,hset,hrl,hj63,hj64]; try rfl,trivial,?_⟩
  clear o_25
  refine planW_ex o_26 rfl rfl ⟨_,by simp [-binV,t5,t8,t10,hr,hW,hw2,hw3,hw4,hP0,hP1,hP2,hP3,hg0,hg1,hg2,hg3,hc0,hc1,hc2,hc3,k1,k2,k3,e1,e2,e3,bi_add,hset,hrl,hj63,hj64]; try rfl,trivial,?_⟩
  clear o_26
  refine planW_ex o_27 rfl rfl ⟨_,by simp [-binV,t5,t8,t10,hr,hW,hw2,hw3,hw4,hP0,hP1,hP2,hP3,hg0,hg1,hg2,hg3,hc0,hc1,hc2,hc3,k1,k2,k3,e1,e2,e3,bi_add,hset,hrl,hj63,hj64]; try rfl,by simp [chkW,List.lookup,-binV,t5,t8,t10,hr,hW,hw2,hw3,hw4,hP0,hP1,hP2,hP3,hg0,hg1,hg2,hg3,hc0,hc1,hc2,hc3,k1,k2,k3,e1,e2,e3,bi_add,hset,hrl,hj63,hj64],?_⟩
  clear o_27
  refine planW_ex o_28 rfl rfl ⟨_,by simp [-binV,t5,t8,t10,hr,hW,hw2,hw3,hw4,hP0,hP1,hP2,hP3,hg0,hg1,hg2,hg3,hc0,hc1,hc2,hc3,k1,k2,k3,e1,e2,e3,bi_add,hset,hrl,hj63,hj64]; try rfl,by simp [chkW,List.lookup,-binV,t5,t8,t10,hr,hW,hw2,hw3,hw4,hP0,hP1,hP2,hP3,hg0,hg1,hg2,hg3,hc0,hc1,hc2,hc3,k1,k2,k3,e1,e2,e3,bi_add,hset,hrl,hj63,hj64],?_⟩
  clear o_28
  refine planW_ex o_29 rfl rfl ⟨_,by simp [-binV,t5,t8,t10,hr,hW,hw2,hw3,hw4,hP0,hP1,hP2,hP3,hg0,hg1,hg2,hg3,hc0,hc1,hc2,hc3,k1,k2,k3,e1,e2,e3,bi_add,hset,hrl,hj63,hj64]; try rfl,trivial,?_⟩
  clear o_29
  refine planW_ex o_30 rfl rfl ⟨_,by simp [-binV,t5,t8,t10,hr,hW,hw2,hw3,hw4,hP0,hP1,hP2,hP3,hg0,hg1,hg2,hg3,hc0,hc1,hc2,hc3,k1,k2,k3,e1,e2,e3,bi_add,hset,hrl,hj63,hj64]; try rfl,trivial,?_⟩
  clear o_30
  refine planW_ex o_31 rfl rfl ⟨_,by simp [-binV,t5,t8,t10,hr,hW,hw2,hw3,hw4,hP0,hP1,hP2,hP3,hg0,hg1,hg2,hg3,hc0,hc1,hc2,hc3,k1,k2,k3,e1,e2,e3,bi_add,hset,hrl,hj63,hj64]; try rfl,trivial,?_⟩
  clear o_31
  refine planW_end o_sz ?_
  apply hK; clear hK K o_sz; simp only [onNormal,onExit,tput]
  (repeat refine AWP.seq ?_)
  refine AWP.region_last hcall rfl fun K hK => ?_
  simp [t10,hw5]
  apply hK; clear hK K; simp only [onNormal,onExit]
  refine ⟨16 - (j + 1),by omega,j + 1,by omega,rfl,SB.temps (SB.upd hb _ w0' w2' w5' h8) (fun j hj => by repeat rw [tset_ge hj rfl]),by simp [t5],by simp [t8],by simp [t9],by simp,?_,by rw [upd_same,hrN]⟩
  rw [upd_ne _ _ hqw,<- hrp]; exact hr
 obtain rfl : j = 16:=by omega
 (repeat refine AWP.seq ?_)
 refine AWP.region_last hcall rfl fun K hK => ?_
 simp [t10]
 apply hK; clear hK K; simp only [onNormal,onExit]
 (repeat refine AWP.seq ?_); refine AWP.cond (b:=false) (by simp) ?_; simp only [if_true,if_false,Bool.false_eq_true]
 refine AWP.exit ?_; simp only [onNormal]
 exact hQ _ _ _ (SB.temps hb (fun j hj => by repeat rw [tset_ge hj rfl])) (by simp [t5]) (by simp [t8]) (by simp [t9]) hr hW
end Go.Proofs.YtbllpnjappddeaaGreat.Den
end
section
set_option linter.unusedSimpArgs false
set_option linter.unusedVariables false
set_option maxRecDepth 100000
namespace Go.Proofs.YtbllpnjappddeaaGreat.Den
open Go.RowKit
attribute [local simp] runList aop abuiltin acall awanted ayielded env T0 tput tset Ran aload astore setMany upd binV aslice aindexAddr apart aindex alen acopy srcCells natOf boundOf aeq AV.nilEq convV appK fillA List.range List.range.loop onF isU8 rowOf
set_option maxHeartbeats 1000000 in
theorem loopB {nm : Name} {x : AV} {H : AHeap} {l : List UInt8} {s : W8} {q n8 : Name} {Kp p : Nat} {b W : List Nat} {Q : Exit -> Nat -> Temps -> AHeap -> Prop} {c : Nat} {T : Temps} {H2 : AHeap}
  (hb256 : ∀ y ∈ b,y < 256) (hWl : W.length = 64) (h8 : H n8 = none) (w0' : 0 :: nm ≠ n8) (w2' : 2 :: nm ≠ n8) (w5' : 5 :: nm ≠ n8) (hqw : q ≠ n8)
  (hb : SB nm x H (listN s) T H2) (t5 : T 5 = .sl q 0 (64 * Kp) 1) (t8 : T 8 = .ptr n8 0) (t9 : T 9 = vi (p : Nat)) (t12 : T 12 = vi ((16 : Nat) : Int)) (hr : H2 q = some (bs (padOf l))) (hW : H2 n8 = some (ws (w1 b 16 ++ W.drop 16)))
  (hQ : ∀ c T H2,SB nm x H (listN s) T H2 -> T 5 = .sl q 0 (64 * Kp) 1 -> T 8 = .ptr n8 0 -> T 9 = vi (p : Nat) -> H2 q = some (bs (padOf l)) -> H2 n8 = some (ws (w2 b 48)) -> Q (.exit 8) c T H2) :
  AWP Tryz.prog nm Tryz.f390.ntmps (sum2Code [1,1,1,1,1,1,1,1,1,0,1,2,3,1,0,2,1,0,1,2]) Q c T H2:=by
 have hcall:=onF_ok words_ok (onF_ok rot_ok (@noCall_ok Tryz.prog))
 dsimp only [sum2Code,codeAt,Tryz.f390,Option.getD]
 refine AWP.loop (fun m c T H2 => ∃ j I,j <= 48 /\ m = 48 - j /\ I = 16 + j /\ SB nm x H (listN s) T H2 /\ T 5 = .sl q 0 (64 * Kp) 1 /\ T 8 = .ptr n8 0 /\ T 9 = vi (p : Nat) /\ T 12 = vi (I : Nat) /\ H2 q = some (bs (padOf l)) /\ H2 n8 = some (ws (w2 b j ++ W.drop I))) 48 ⟨0,16,by omega,rfl,rfl,hb,t5,t8,t9,t12,hr,by rw [w2_zero]; exact hW⟩ ?_
 clear t5 hr hb t8 t9 hW t12 T H2 c
 rintro _ c T H2 ⟨j,I,hj,rfl,hI,hb,t5,t8,t9,t12,hr,hW⟩
 by_cases hj48 : j < 48
 ·have hji : (I : Int) < 64:=by omega
  obtain ⟨J1,hJ1⟩ : ∃ J1,J1 = j + 1:=⟨_,rfl⟩
  obtain ⟨J9,hJ9⟩ : ∃ J9,J9 = j + 9:=⟨_,rfl⟩
  obtain ⟨J14,hJ14⟩ : ∃ J14,J14 = j + 14:=⟨_,rfl⟩
  have hw15 : IntKind.i64.wrap ((I : Int) - 15) = (J1 : Int):=by rw [IntKind.wrap_i64]; omega
  have hw2 : IntKind.i64.wrap ((I : Int) - 2) = (J14 : Int):=by rw [IntKind.wrap_i64]; omega
  have hw7 : IntKind.i64.wrap ((I : Int) - 7) = (J9 : Int):=by rw [IntKind.wrap_i64]; omega
  have hw16 : IntKind.i64.wrap ((I : Int) - 16) = (j : Int):=by rw [IntKind.wrap_i64]; omega
  have hw5 : IntKind.i64.wrap ((I : Int) + 1) = ((I + 1 : Nat) : Int):=by rw [IntKind.wrap_i64]; omega
  (repeat refine AWP.seq ?_)
  refine AWP.region_last hcall rfl fun K hK => ?_
  simp [t12,hji]
  apply hK; clear hK K; simp only [onNormal,onExit]
  (repeat refine AWP.seq ?_); refine AWP.cond (b:=true) (by simp [hji]) ?_; simp only [if_true,if_false,Bool.false_eq_true]
  refine AWP.skip ?_; simp only [onNormal,onExit]
  (repeat refine AWP.seq ?_); refine AWP.block ?_
  have hl2:=w2_length b j
  have hset:=ws_grow (e:=w2 b j) (o:=W) (n:=wN ((w2 b j).getD j 0) ((w2 b j).getD (j + 1) 0) ((w2 b j).getD (j + 9) 0) ((w2 b j).getD (j + 14) 0)) (by omega)
  rw [hl2,<- w2_succ,w2_length] at hset
  have hlt:=w2_lt hb256 j
  have hgl : ∀ i (h : i < 16 + j) (h' : i < (w2 b j ++ W.drop I).length),(w2 b j ++ W.drop I)[i]'h' = (w2 b j).getD i 0:=fun i h h' => by
   rw [List.getElem_append_left (by omega),List.getD_eq_getElem?_getD,List.getElem?_eq_getElem (by omega)]; rfl
  have hgb : ∀ i,(w2 b j).getD i 0 < 4294967296:=fun i => by
   rw [List.getD_eq_getElem?_getD]
   by_cases h : i < (w2 b j).length
   ·rw [List.getElem?_eq_getElem h]; exact hlt _ (List.getElem_mem h)
   ·rw [List.getElem?_eq_none (by omega)]; decide
  have m0 : ∀ h',(w2 b j ++ W.drop I)[j]'h' = _:=fun h' => hgl j (by omega) h'
  have m1 : ∀ h',(w2 b j ++ W.drop I)[J1]'h' = _:=fun h' => hgl J1 (by omega) h'
  have m9 : ∀ h',(w2 b j ++ W.drop I)[J9]'h' = _:=fun h' => hgl J9 (by omega) h'
  have m14 : ∀ h',(w2 b j ++ W.drop I)[J14]'h' = _:=fun h' => hgl J14 (by omega) h'
  rw [<- hJ1,<- hJ9,<- hJ14,<- hI,show 16 + J1 = I + 1 by omega] at hset
  have l0:=hgb j
  have l1:=hgb J1
  have l9:=hgb J9
  have l14:=hgb J14
  obtain ⟨x0,hx0⟩ : ∃ r,r = (w2 b j).getD j 0:=⟨_,rfl⟩
  obtain ⟨x1,hx1⟩ : ∃ r,r = (w2 b j).getD J1 0:=⟨_,rfl⟩
  obtain ⟨x9,hx9⟩ : ∃ r,r = (w2 b j).getD J9 0:=⟨_,rfl⟩
  obtain ⟨x14,hx14⟩ : ∃ r,r = (w2 b j).getD J14 0:=⟨_,rfl⟩
  rw [<- hx0,<- hx1,<- hx9,<- hx14] at hset
  rw [<- hx1] at l1
  rw [<- hx14] at l14
  have hwl : (w2 b j ++ W.drop I).length = 64:=by rw [List.length_append,hl2,List.length_drop,hWl]; omega
  have i0 : j <= 63:=by omega
  have i1 : J1 <= 63:=by omega
  have i9 : J9 <= 63:=by omega
  have i14 : J14 <= 63:=by omega
  have iI : I <= 63:=by omega
  have iI' : I < 64:=by omega
  have i0' : j < 64:=by omega
  have i1' : J1 < 64:=by omega
  have i9' : J9 < 64:=by omega
  have i14' : J14 < 64:=by omega
  obtain ⟨rowL,hrL⟩ : ∃ r,r = ws (w2 b j ++ W.drop I):=⟨_,rfl⟩
  obtain ⟨rowN,hrN⟩ : ∃ r,r = ws (w2 b J1 ++ W.drop (I + 1)):=⟨_,rfl⟩
  have hrll : rowL.length = 64:=by rw [hrL,ws_length,hwl]
  have hst1 : I + 1 <= rowL.length:=by omega
  have hst2 : I < rowL.length:=by omega
  have hg0 : rowL[j]? = some (.val (.int .u32 (x0 : Int))):=by rw [hrL,List.getElem?_eq_getElem (by rw [ws_length]; omega),ws_getElem,m0,hx0]
  have hg1 : rowL[J1]? = some (.val (.int .u32 (x1 : Int))):=by rw [hrL,List.getElem?_eq_getElem (by rw [ws_length]; omega),ws_getElem,m1,hx1]
  have hg9 : rowL[J9]? = some (.val (.int .u32 (x9 : Int))):=by rw [hrL,List.getElem?_eq_getElem (by rw [ws_length]; omega),ws_getElem,m9,hx9]
  have hg14 : rowL[J14]? = some (.val (.int .u32 (x14 : Int))):=by rw [hrL,List.getElem?_eq_getElem (by rw [ws_length]; omega),ws_getElem,m14,hx14]
  rw [<- hrL] at hW hset
  rw [<- hrN] at hset
  obtain ⟨u1,u2,u3,u4,u5,u6,u7,u8,u9,u10,u11,u12,v9,hv9,q1,q2,q3,q4,k1,k2,e1,e2,e3,e4,d1,d2,d3⟩:=d25 (x0:=x0) (x9:=x9) l1 l14
  rw [<- hv9] at hset
  clear m0 m1 m9 m14 hwl hgl hgb hlt hl2 hv9 hx0 hx1 hx9 hx14
  (repeat refine AWP.seq ?_)
  refine AWP.draw_ops rfl hcall [0,1,3,7,0,16,48,112,15,511] [⟨0,false,[]⟩,⟨1,false,[]⟩,⟨2,false,[]⟩,⟨3,false,[0]⟩,⟨4,false,[]⟩,⟨5,false,[]⟩,⟨6,false,[]⟩,⟨7,false,[0]⟩,⟨8,false,[]⟩,⟨9,false,[]⟩] rfl (by kernel_rfl) fun ops' hops K hK => ?_
  have o_0:=op_at hops 0 rfl
  have o_1:=op_at hops 1 rfl
  have o_2:=op_at hops 2 rfl
  have o_3:=op_at hops 3 rfl
  have o_4:=op_at hops 4 rfl
  have o_5:=op_at hops 5 rfl
  have o_6:=op_at hops 6 rfl
  have o_7:=op_at hops 7 rfl
  have o_8:=op_at hops 8 rfl
  have o_9:=op_at hops 9 rfl
  have o_sz : ops'.size = 10:=op_sz hops rfl
  clear hops
  refine planW_ex o_0 rfl rfl ⟨_,by simp [t12,t8,hW,hw15,hw2,hg1,hg14,i1,i14,i1',i14',List.lookup]; try rfl,trivial,?_⟩
  clear o_0
  refine planW_ex o_1 rfl rfl ⟨_,by simp [t12,t8,hW,hw15,hw2,hg1,hg14,i1,i14,i1',i14',List.lookup]; try rfl,trivial,?_⟩
  clear o_1
  refine planW_ex o_2 rfl rfl ⟨_,by simp [t12,t8,hW,hw15,hw2,hg1,hg14,i1,i14,i1',i14',List.lookup]; try rfl,trivial,?_⟩
  clear o_2
  refine planW_ex o_3 rfl rfl ⟨_,by simp [t12,t8,hW,hw15,hw2,hg1,hg14,i1,i14,i1',i14',List.lookup]; try rfl,by simp [chkW,List.lookup,t12,t8,hW,hw15,hw2,hg1,hg14,i1,i14,i1',i14',List.lookup],?_⟩
  clear o_3
  refine planW_ex o_4 rfl rfl ⟨_,by simp [t12,t8,hW,hw15,hw2,hg1,hg14,i1,i14,i1',i14',List.lookup]; try rfl,trivial,?_⟩
  clear o_4
  refine planW_ex o_5 rfl rfl ⟨_,by simp [t12,t8,hW,hw15,hw2,hg1,hg14,i1,i14,i1',i14',List.lookup]; try rfl,trivial,?_⟩
  clear o_5
  refine planW_ex o_6 rfl rfl ⟨_,by simp [t12,t8,hW,hw15,hw2,hg1,hg14,i1,i14,i1',i14',List.lookup]; try rfl,trivial,?_⟩
  clear o_6
  refine planW_ex o_7 rfl rfl ⟨_,by simp [t12,t8,hW,hw15,hw2,hg1,hg14,i1,i14,i1',i14',List.lookup]; try rfl,by simp [chkW,List.lookup,t12,t8,hW,hw15,hw2,hg1,hg14,i1,i14,i1',i14',List.lookup],?_⟩
  clear o_7
  refine planW_ex o_8 rfl rfl ⟨_,by simp [t12,t8,hW,hw15,hw2,hg1,hg14,i1,i14,i1',i14',List.lookup]; try rfl,trivial,?_⟩
  clear o_8
  refine planW_ex o_9 rfl rfl ⟨_,by simp [t12,t8,hW,hw15,hw2,hg1,hg14,i1,i14,i1',i14',List.lookup]; try rfl,trivial,?_⟩
  clear o_9
  refine planW_end o_sz ?_
  apply hK; clear hK K o_sz; simp only [onNormal,onExit,tput]
  (repeat refine AWP.seq ?_)
  refine AWP.draw_ops rfl hcall [0,0,2,0,14,30,0,64,254,0,512,1536,3584,8190,0,16414,0,114718,245790,0,524288,2080798,4194302,0,8388608,25165824,58720256,134217726,268435455,536870911] [⟨1,false,[]⟩,⟨2,true,[]⟩,⟨3,false,[]⟩,⟨4,true,[]⟩,⟨14,false,[]⟩,⟨15,true,[]⟩,⟨16,false,[]⟩,⟨17,true,[]⟩,⟨0,false,[]⟩,⟨5,false,[]⟩,⟨6,false,[]⟩,⟨7,false,[]⟩,⟨8,false,[]⟩,⟨9,false,[]⟩,⟨10,false,[]⟩,⟨11,false,[]⟩,⟨12,false,[0,2,4,6,8]⟩,⟨13,false,[]⟩,⟨18,false,[]⟩,⟨19,false,[]⟩,⟨20,false,[]⟩,⟨21,false,[]⟩,⟨22,false,[]⟩,⟨23,false,[]⟩,⟨24,false,[]⟩,⟨25,false,[]⟩,⟨26,false,[0,2,4,6,8]⟩,⟨27,false,[]⟩,⟨28,false,[]⟩,⟨29,true,[]⟩] rfl (by kernel_rfl) fun ops' hops K hK => ?_
  have o_0:=op_at hops 0 rfl
  have o_1:=op_at hops 1 rfl
  have o_2:=op_at hops 2 rfl
  have o_3:=op_at hops 3 rfl
  have o_4:=op_at hops 4 rfl
  have o_5:=op_at hops 5 rfl
  have o_6:=op_at hops 6 rfl
  have o_7:=op_at hops 7 rfl
  have o_8:=op_at hops 8 rfl
  have o_9:=op_at hops 9 rfl
  have o_10:=op_at hops 10 rfl
  have o_11:=op_at hops 11 rfl
  have o_12:=op_at hops 12 rfl
  have o_13:=op_at hops 13 rfl
  have o_14:=op_at hops 14 rfl
  have o_15:=op_at hops 15 rfl
  have o_16:=op_at hops 16 rfl
  have o_17:=op_at hops 17 rfl
  have o_18:=op_at hops 18 rfl
  have o_19:=op_at hops 19 rfl
  have o_20:=op_at hops 20 rfl
  have o_21:=op_at hops 21 rfl
  have o_22:=op_at hops 22 rfl
  have o_23:=op_at hops 23 rfl
  have o_24:=op_at hops 24 rfl
  have o_25:=op_at hops 25 rfl
  have o_26:=op_at hops 26 rfl
  have o_27:=op_at hops 27 rfl
  have o_28:=op_at hops 28 rfl
  have o_29:=op_at hops 29 rfl
  have o_sz : ops'.size = 30:=op_sz hops rfl
  clear hops
  refine planW_ex o_1 rfl rfl ⟨_,by simp [-binV,t12,t8,hW,hw15,hw2,hw7,hw16,hg0,hg9,hst1,hst2,i0,i9,iI,iI',i0',i9',hji,q1,q2,q3,q4,k1,k2,e1,e2,e3,e4,d1,d2,d3,bi_sub,hset,List.lookup]; try rfl,trivial,?_⟩
  clear o_1
  refine planW_ex o_2 rfl rfl ⟨_,by simp [-binV,t12,t8,hW,hw15,hw2,hw7,hw16,hg0,hg9,hst1,hst2,i0,i9,iI,iI',i0',i9',hji,q1,q2,q3,q4,k1,k2,e1,e2,e3,e4,d1,d2,d3,bi_sub,hset,List.lookup]; try rfl,trivial,?_⟩
  clear o_2
  refine planW_ex o_3 rfl rfl ⟨_,by simp [-binV,t12,t8,hW,hw15,hw2,hw7,hw16,hg0,hg9,hst1,hst2,i0,i9,iI,iI',i0',i9',hji,q1,q2,q3,q4,k1,k2,e1,e2,e3,e4,d1,d2,d3,bi_sub,hset,List.lookup]; try rfl,trivial,?_⟩
  clear o_3
  refine planW_ex o_4 rfl rfl ⟨_,by simp [-binV,t12,t8,hW,hw15,hw2,hw7,hw16,hg0,hg9,hst1,hst2,i0,i9,iI,iI',i0',i9',hji,q1,q2,q3,q4,k1,k2,e1,e2,e3,e4,d1,d2,d3,bi_sub,hset,List.lookup]; try rfl,trivial,?_⟩
  clear o_4
  refine planW_ex o_14 rfl rfl ⟨_,by simp [-binV,t12,t8,hW,hw15,hw2,hw7,hw16,hg0,hg9,hst1,hst2,i0,i9,iI,iI',i0',i9',hji,q1,q2,q3,q4,k1,k2,e1,e2,e3,e4,d1,d2,d3,bi_sub,hset,List.lookup]; try rfl,trivial,?_⟩
  clear o_14
  refine planW_ex o_15 rfl rfl ⟨_,by simp [-binV,t12,t8,hW,hw15,hw2,hw7,hw16,hg0,hg9,hst1,hst2,i0,i9,iI,iI',i0',i9',hji,q1,q2,q3,q4,k1,k2,e1,e2,e3,e4,d1,d2,d3,bi_sub,hset,List.lookup]; try rfl,trivial,?_⟩
  clear o_15
  refine planW_ex o_16 rfl rfl ⟨_,by simp [-binV,t12,t8,hW,hw15,hw2,hw7,hw16,hg0,hg9,hst1,hst2,i0,i9,iI,iI',i0',i9',hji,q1,q2,q3,q4,k1,k2,e1,e2,e3,e4,d1,d2,d3,bi_sub,hset,List.lookup]; try rfl,trivial,?_⟩
  clear o_16
  refine planW_ex o_17 rfl rfl ⟨_,by simp [-binV,t12,t8,hW,hw15,hw2,hw7,hw16,hg0,hg9,hst1,hst2,i0,i9,iI,iI',i0',i9',hji,q1,q2,q3,q4,k1,k2,e1,e2,e3,e4,d1,d2,d3,bi_sub,hset,List.lookup]; try rfl,trivial,?_⟩
  clear o_17
  refine planW_ex o_0 rfl rfl ⟨_,by simp [-binV,t12,t8,hW,hw15,hw2,hw7,hw16,hg0,hg9,hst1,hst2,i0,i9,iI,iI',i0',i9',hji,q1,q2,q3,q4,k1,k2,e1,e2,e3,e4,d1,d2,d3,bi_sub,hset,List.lookup]; try rfl,trivial,?_⟩
  clear o_0
  refine planW_ex o_5 rfl rfl ⟨_,by simp [-binV,t12,t8,hW,hw15,hw2,hw7,hw16,hg0,hg9,hst1,hst2,i0,i9,iI,iI',i0',i9',hji,q1,q2,q3,q4,k1,k2,e1,e2,e3,e4,d1,d2,d3,bi_sub,hset,List.lookup]; try rfl,trivial,?_⟩
  clear o_5
  refine planW_ex o_6 rfl rfl ⟨_,by simp [-binV,t12,t8,hW,hw15,hw2,hw7,hw16,hg0,hg9,hst1,hst2,i0,i9,iI,iI',i0',i9',hji,q1,q2,q3,q4,k1,k2,e1,e2,e3,e4,d1,d2,d3,bi_sub,hset,List.lookup]; try rfl,trivial,?_⟩
  clear o_6
  refine planW_ex o_7 rfl rfl ⟨_,by simp [-binV,t12,t8,hW,hw15,hw2,hw7,hw16,hg0,hg9,hst1,hst2,i0,i9,iI,iI',i0',i9',hji,q1,q2,q3,q4,k1,k2,e1,e2,e3,e4,d1,d2,d3,bi_sub,hset,List.lookup]; try rfl,trivial,?_⟩
  clear o_7
  refine planW_ex o_8 rfl rfl ⟨_,by simp [-binV,t12,t8,hW,hw15,hw2,hw7,hw16,hg0,hg9,hst1,hst2,i0,i9,iI,iI',i0',i9',hji,q1,q2,q3,q4,k1,k2,e1,e2,e3,e4,d1,d2,d3,bi_sub,hset,List.lookup]; try rfl,trivial,?_⟩
  clear o_8
  refine planW_ex o_9 rfl rfl ⟨_,by simp [-binV,t12,t8,hW,hw15,hw2,hw7,hw16,hg0,hg9,hst1,hst2,i0,i9,iI,iI',i0',i9',hji,q1,q2,q3,q4,k1,k2,e1,e2,e3,e4,d1,d2,d3,bi_sub,hset,List.lookup]; try rfl,trivial,?_⟩
  clear o_9
  refine planW_ex o_10 rfl rfl ⟨_,by simp [-binV,t12,t8,hW,hw15,hw2,hw7,hw16,hg0,hg9,hst1,hst2,i0,i9,iI,iI',i0',i9',hji,q1,q2,q3,q4,k1,k2,e1,e2,e3,e4,d1,d2,d3,bi_sub,hset,List.lookup]; try rfl,trivial,?_⟩
  clear o_10
  refine planW_ex o_11 rfl rfl ⟨_,by simp [-binV,t12,t8,hW,hw15,hw2,hw7,hw16,hg0,hg9,hst1,hst2,i0,i9,iI,iI',i0',i9',hji,q1,q2,q3,q4,k1,k2,e1,e2,e3,e4,d1,d2,d3,bi_sub,hset,List.lookup]; try rfl,trivial,?_⟩
  clear o_11
  refine planW_ex o_12 rfl rfl ⟨_,by simp [-binV,t12,t8,hW,hw15,hw2,hw7,hw16,hg0,hg9,hst1,hst2,i0,i9,iI,iI',i0',i9',hji,q1,q2,q3,q4,k1,k2,e1,e2,e3,e4,d1,d2,d3,bi_sub,hset,List.lookup]; try rfl,by simp [chkW,List.lookup,-binV,t12,t8,hW,hw15,hw2,hw7,hw16,hg0,hg9,hst1,hst2,i0,i9,iI,iI',i0',i9',hji,q1,q2,q3,q4,k1,k2,e1,e2,e3,e4,d1,d2,d3,bi_sub,hset,List.lookup],?_⟩
  clear o_12
  refine planW_ex o_13 rfl rfl ⟨_,by simp [-binV,t12,t8,hW,hw15,hw2,hw7,hw16,hg0,hg9,hst1,hst2,i0,i9,iI,iI',i0',i9',hji,q1,q2,q3,q4,k1,k2,e1,e2,e3,e4,d1,d2,d3,bi_sub,hset,List.lookup]; try rfl,trivial,?_⟩
  clear o_13
  refine planW_ex o_18 rfl rfl ⟨_,by simp [-binV,t12,t8,hW,hw15,hw2,hw7,hw16,hg0,hg9,hst1,hst2,i0,i9,iI,iI',i0',i9',hji,q1,q2,q3,q4,k1,k2,e1,e2,e3,e4,d1,d2,d3,bi_sub,hset,List.lookup]; try rfl,trivial,?_⟩
  clear o_18
  refine planW_ex o_19 rfl rfl ⟨_,by simp [-binV,t12,t8,hW,hw15,hw2,hw7,hw16,hg0,hg9,hst1,hst2,i0,i9,iI,iI',i0',i9',hji,q1,q2,q3,q4,k1,k2,e1,e2,e3,e4,d1,d2,d3,bi_sub,hset,List.lookup]; try rfl,trivial,?_⟩
  clear o_19
  refine planW_ex o_20 rfl rfl ⟨_,by simp [-binV,t12,t8,hW,hw15,hw2,hw7,hw16,hg0,hg9,hst1,hst2,i0,i9,iI,iI',i0',i9',hji,q1,q2,q3,q4,k1,k2,e1,e2,e3,e4,d1,d2,d3,bi_sub,hset,List.lookup]; try rfl,trivial,?_⟩
  clear o_20
  refine planW_ex o_21 rfl rfl ⟨_,by simp [-binV,t12,t8,hW,hw15,hw2,hw7,hw16,hg0,hg9,hst1,hst2,i0,i9,iI,iI',i0',i9',hji,q1,q2,q3,q4,k1,k2,e1,e2,e3,e4,d1,d2,d3,bi_sub,hset,List.lookup]; try rfl,trivial,?_⟩
  clear o_21
  refine planW_ex o_22 rfl rfl ⟨_,by simp [-binV,t12,t8,hW,hw15,hw2,hw7,hw16,hg0,hg9,hst1,hst2,i0,i9,iI,iI',i0',i9',hji,q1,q2,q3,q4,k1,k2,e1,e2,e3,e4,d1,d2,d3,bi_sub,hset,List.lookup]; try rfl,trivial,?_⟩
  clear o_22
  refine planW_ex o_23 rfl rfl ⟨_,by simp [-binV,t12,t8,hW,hw15,hw2,hw7,hw16,hg0,hg9,hst1,hst2,i0,i9,iI,iI',i0',i9',hji,q1,q2,q3,q4,k1,k2,e1,e2,e3,e4,d1,d2,d3,bi_sub,hset,List.lookup]; try rfl,trivial,?_⟩
  clear o_23
  refine planW_ex o_24 rfl rfl ⟨_,by simp [-binV,t12,t8,hW,hw15,hw2,hw7,hw16,hg0,hg9,hst1,hst2,i0,i9,iI,iI',i0',i9',hji,q1,q2,q3,q4,k1,k2,e1,e2,e3,e4,d1,d2,d3,bi_sub,hset,List.lookup]; try rfl,trivial,?_⟩
  clear o_24
  refine planW_ex o_25 rfl rfl ⟨_,by simp [-binV,t12,t8,hW,hw15,hw2,hw7,hw16,hg0,hg9,hst1,hst2,i0,i9,iI,iI',i0',i9',hji,q1,q2,q3,q4,k1,k2,e1,e2,e3,e4,d1,d2,d3,bi_sub,hset,List.lookup]; try rfl,trivial,?_⟩
  clear o_25
  refine planW_ex o_26 rfl rfl ⟨_,by simp [-binV,t12,t8,hW,hw15,hw2,hw7,hw16,hg0,hg9,hst1,hst2,i0,i9,iI,iI',i0',i9',hji,q1,q2,q3,q4,k1,k2,e1,e2,e3,e4,d1,d2,d3,bi_sub,hset,List.lookup]; try rfl,by simp [chkW,List.lookup,-binV,t12,t8,hW,hw15,hw2,hw7,hw16,hg0,hg9,hst1,hst2,i0,i9,iI,iI',i0',i9',hji,q1,q2,q3,q4,k1,k2,e1,e2,e3,e4,d1,d2,d3,bi_sub,hset,List.lookup],?_⟩
  clear o_26
  refine planW_ex o_27 rfl rfl ⟨_,by simp [-binV,t12,t8,hW,hw15,hw2,hw7,hw16,hg0,hg9,hst1,hst2,i0,i9,iI,iI',i0',i9',hji,q1,q2,q3,q4,k1,k2,e1,e2,e3,e4,d1,d2,d3,bi_sub,hset,List.lookup]; try rfl,trivial,?_⟩
  clear o_27
  refine planW_ex o_28 rfl rfl ⟨_,by simp [-binV,t12,t8,hW,hw15,hw2,hw7,hw16,hg0,hg9,hst1,hst2,i0,i9,iI,iI',i0',i9',hji,q1,q2,q3,q4,k1,k2,e1,e2,e3,e4,d1,d2,d3,bi_sub,hset,List.lookup]; try rfl,trivial,?_⟩
  clear o_28
  refine planW_ex o_29 rfl rfl ⟨_,by simp [-binV,t12,t8,hW,hw15,hw2,hw7,hw16,hg0,hg9,hst1,hst2,i0,i9,iI,iI',i0',i9',hji,q1,q2,q3,q4,k1,k2,e1,e2,e3,e4,d1,d2,d3,bi_sub,hset,List.lookup]; try rfl,trivial,?_⟩
  clear o_29
  refine planW_end o_sz ?_
  apply hK; clear hK K o_sz; simp only [onNormal,onExit,tput]
  (repeat refine AWP.seq ?_)
  refine AWP.region_last hcall rfl fun K hK => ?_
  simp [t12,hw5]
  apply hK; clear hK K; simp only [onNormal,onExit]
  refine ⟨48 - J1,by omega,J1,I + 1,by omega,rfl,by omega,SB.temps (SB.upd hb _ w0' w2' w5' h8) (fun j hj => by repeat rw [tset_ge hj rfl]),by simp [t5],by simp [t8],by simp [t9],by simp,?_,by rw [upd_same,hrN]⟩
  rw [upd_ne _ _ hqw]; exact hr
 obtain rfl : j = 48:=by omega
 have hws : w2 b 48 ++ W.drop I = w2 b 48:=by rw [List.drop_of_length_le (by omega),List.append_nil]
 rw [hws] at hW
 have h64 : I = 64:=by omega
 subst h64
 (repeat refine AWP.seq ?_)
 refine AWP.region_last hcall rfl fun K hK => ?_
 simp [t12]
 apply hK; clear hK K; simp only [onNormal,onExit]
 (repeat refine AWP.seq ?_); refine AWP.cond (b:=false) (by simp) ?_; simp only [if_true,if_false,Bool.false_eq_true]
 refine AWP.exit ?_; simp only [onNormal]
 exact hQ _ _ _ (SB.temps hb (fun j hj => by repeat rw [tset_ge hj rfl])) (by simp [t5]) (by simp [t8]) (by simp [t9]) hr hW
end Go.Proofs.YtbllpnjappddeaaGreat.Den
end
