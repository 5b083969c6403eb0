/- Equality of arrays of bytes, as an operation of the abstract memory. -/
import Derived.Test.YtbllpnjappddeaaGreatKCdA
import Derived.Test.YtbllpnjappddeaaGreatKSymF
import Derived.Test.YtbllpnjappddeaaGreatKShaC
import Derived.Test.YtbllpnjappddeaaGreatKLibInsert
set_option linter.unusedVariables false
set_option linter.unusedSimpArgs false
section
set_option linter.unusedSimpArgs false
set_option linter.unusedVariables false
set_option maxRecDepth 100000
namespace Go.Proofs.YtbllpnjappddeaaGreat.Den
open Go
variable {P : Program}
theorem aeq_bytes {t e : TypeId} {n : Nat} (hu : P.underlying t = some (.array n e)) (he : P.underlying e = some (.int .u8)) (hs : szOf P e = some 1) (hdep : P.eqGuardType P.depth t = false) {l l' : List UInt8} (hl : l.length = n) (hl' : l'.length = n) (neg : Bool) (x y : Operand) :
  aeq P neg t x y (.agg (bs l)) (.agg (bs l')) = some (vb ((l == l') != neg)):=aeq_map hu he hs hdep hl hl' neg x y
end Go.Proofs.YtbllpnjappddeaaGreat.Den
end
section
set_option linter.unusedSimpArgs false
set_option linter.unusedVariables false
set_option maxRecDepth 100000
namespace Go.Proofs.YtbllpnjappddeaaGreat.Den
open Go.RowKit
attribute [local simp] runList aop abuiltin acall awanted ayielded env T0 tput tset Ran aload astore setMany upd binV aslice aindexAddr apart aindex alen acopy srcCells natOf boundOf aeq AV.nilEq convV appK fillA List.range List.range.loop onF isU8 rowOf
def rep (b : UInt8) (n : Nat) : List UInt8:=List.replicate n b
theorem rep_length (b : UInt8) (n : Nat) : (rep b n).length = n:=List.length_replicate
theorem rep_set (b : UInt8) (i : Nat) (hi : i < 64) : (bs (rep b i) ++ bz (64 - i)).set i (.val (.int .u8 (b.toNat : Int))) = bs (rep b (i + 1)) ++ bz (64 - (i + 1)):=by
 rw [show 64 - i = (64 - (i + 1)) + 1 by omega,bz,List.replicate_succ,List.set_append_right _ _ (by rw [bs_length,rep_length]; omega),bs_length,rep_length,Nat.sub_self,List.set_cons_zero,rep,rep,List.replicate_succ',<- bs_append,List.append_assoc]
 rfl
def filledS : Spec:=fun args nm H =>
 match args with
 | [.val (.int .u8 x)] => if 0 <= x /\ x < 256 then some (.agg (bs (rep (UInt8.ofNat x.toNat) 64)),H) else none
 | _ => none
set_option maxHeartbeats 400000 in
theorem filled_ok : FnOK Tryz.prog 310 filledS:=by
 refine ⟨by kernel_rfl,fun args nm H r H' h => ?_⟩
 have hcall:=@noCall_ok Tryz.prog
 unfold filledS at h
 split at h
 ·rename_i x
  split at h
  ·rename_i hx
   cases h
   obtain ⟨b,hb⟩ : ∃ b : UInt8,b = UInt8.ofNat x.toNat:=⟨_,rfl⟩
   have hxb : x = (b.toNat : Int):=by rw [hb]; simp; omega
   rw [<- hb,hxb]
   clear hb hxb hx
   refine sim_go Tryz.func310 rfl rfl (Nat.le_of_ble_eq_true rfl) fun hH => ?_
   (repeat refine AWP.seq ?_)
   refine AWP.region_last hcall rfl fun K hK => ?_
   simp
   apply hK; clear hK K; simp only [onNormal,onExit]
   (repeat refine AWP.seq ?_)
   refine AWP.region_last hcall rfl fun K hK => ?_
   simp
   apply hK; clear hK K; simp only [onNormal,onExit]
   (repeat refine AWP.seq ?_)
   refine AWP.region_last hcall rfl fun K hK => ?_
   simp
   apply hK; clear hK K; simp only [onNormal,onExit]
   (repeat refine AWP.seq ?_); refine AWP.block ?_
   refine AWP.loop (fun m c T H1 => ∃ i,i <= 64 /\ m = 64 - i /\ T 0 = .val (.int .u8 (b.toNat : Int)) /\ T 2 = .ptr (0 :: nm) 0 /\ T 3 = .ptr (1 :: nm) 0 /\ T 5 = vi i /\ H1 (0 :: nm) = some (bz 64) /\ H1 (1 :: nm) = some (bs (rep b i) ++ bz (64 - i)) /\ (∀ a r,H a = some r -> H1 a = some r)) 64 ⟨0,by omega,rfl,by simp,by simp,by simp,by simp,by simp,by simp [rep,bs],SubL.out (SubL.fresh (hH [1]) (SubL.fresh (hH [0]) SubL.id))⟩ ?_
   rintro _ c T H1 ⟨i,hi,rfl,t0,t2,t3,t5,hr0,hr1,hsub⟩
   by_cases h64 : i < 64
   ·have hii : (i : Int) < 64:=by omega
    have hw : IntKind.i64.wrap ((i : Int) + 1) = ((i + 1 : Nat) : Int):=by rw [IntKind.wrap_i64]; omega
    have d1 : ((bs (rep b i) ++ bz (64 - i)).length) = 64:=by rw [List.length_append,bs_length,rep_length,bz,List.length_replicate]; omega
    have d2 : i + 1 <= 64:=by omega
    have d3:=rep_set b i h64
    (repeat refine AWP.seq ?_)
    refine AWP.region_last hcall rfl fun K hK => ?_
    simp [t5]
    apply hK; clear hK K; simp only [onNormal,onExit]
    (repeat refine AWP.seq ?_); refine AWP.cond (b:=true) (by simp [hii]) ?_; simp only [if_true,if_false,Bool.false_eq_true]
    refine AWP.skip ?_; simp only [onNormal,onExit]
    (repeat refine AWP.seq ?_); refine AWP.block ?_
    (repeat refine AWP.seq ?_)
    refine AWP.region_last hcall rfl fun K hK => ?_
    simp [t5]
    apply hK; clear hK K; simp only [onNormal,onExit]
    (repeat refine AWP.seq ?_)
    refine AWP.region_last hcall rfl fun K hK => ?_
    simp [t0,t3,hr1,d1,d2,d3,h64]
    apply hK; clear hK K; simp only [onNormal,onExit]
    (repeat refine AWP.seq ?_)
    refine AWP.region_last hcall rfl fun K hK => ?_
    simp [t5,hw]
    apply hK; clear hK K; simp only [onNormal,onExit]
    refine ⟨64 - (i + 1),by omega,i + 1,by omega,rfl,by simp [t0],by simp [t2],by simp [t3],by simp,by simp [hr0],by simp,SubL.out (SubL.fresh (hH [_]) fun a r _ ha => hsub a r ha)⟩
   ·obtain rfl : i = 64:=by omega
    have d1 : (rep b 64).length = 64:=rep_length _ _
    have d2 : (bs (rep b 64)).take 64 = bs (rep b 64):=List.take_of_length_le (by rw [bs_length,d1]; omega)
    have d3 : bs (rep b 64) ++ bz (64 - 64) = bs (rep b 64):=by rw [Nat.sub_self]; exact List.append_nil _
    have d4:=bs_one (rep b 64)
    have d5 : setMany (bz 64) 0 (bs (rep b 64)) = bs (rep b 64):=setMany_full (by rw [bs_length,d1]; rfl)
    have d6 : (bz 64).length = 64:=rfl
    rw [d3] at hr1
    (repeat refine AWP.seq ?_)
    refine AWP.region_last hcall rfl fun K hK => ?_
    simp [t5]
    apply hK; clear hK K; simp only [onNormal,onExit]
    (repeat refine AWP.seq ?_); refine AWP.cond (b:=false) (by simp) ?_; simp only [if_true,if_false,Bool.false_eq_true]
    refine AWP.exit ?_; simp only [onNormal,onExit,if_true,reduceCtorEq,if_false]
    (repeat refine AWP.seq ?_)
    refine AWP.region_last hcall rfl fun K hK => ?_
    simp [t2,t3,hr0,hr1,d1,d2,d4,d5,d6]
    apply hK; clear hK K; simp only [onNormal,onExit]
    (try refine AWP.ret ?_); (try simp only [onNormal,onExit]); refine ⟨by simp,⟨[_],by simp [ares,Tryz.results310,t2,d1,d2],rfl⟩,fun k row hk => ?_⟩
    exact SubL.out (SubL.fresh (hH [0]) fun a r _ ha => hsub a r ha) k row hk
  ·cases h
 ·cases h
def xorL (b : UInt8) (k : List UInt8) : List UInt8:=k.map fun c => b ^^^ c
theorem xorL_length (b : UInt8) (k : List UInt8) : (xorL b k).length = k.length:=by simp [xorL]
theorem xor_u8' (a b : UInt8) : IntKind.u8.wrap ((a.toNat % 2 ^ IntKind.u8.bits ^^^ b.toNat % 2 ^ IntKind.u8.bits : Nat) : Int) = ((a ^^^ b).toNat : Int):=by
 have ha:=a.toNat_lt
 have hb:=b.toNat_lt
 have h1 : a.toNat % 2 ^ IntKind.u8.bits = a.toNat:=Nat.mod_eq_of_lt ha
 have h2 : b.toNat % 2 ^ IntKind.u8.bits = b.toNat:=Nat.mod_eq_of_lt hb
 have h3 : (a ^^^ b).toNat < 256:=(a ^^^ b).toNat_lt
 rw [h1,h2,<- UInt8.toNat_xor,IntKind.wrap_u8]
 omega
def xorP (b : UInt8) (k : List UInt8) (i : Nat) : List UInt8:=xorL b (k.take i) ++ rep b (k.length - i)
theorem xorP_length (b : UInt8) (k : List UInt8) (i : Nat) (hi : i <= k.length) : (xorP b k i).length = k.length:=by
 simp only [xorP,List.length_append,xorL_length,rep_length,List.length_take]; omega
theorem xorP_zero (b : UInt8) (k : List UInt8) : xorP b k 0 = rep b k.length:=by simp [xorP,xorL]
theorem xorP_all (b : UInt8) (k : List UInt8) : xorP b k k.length = xorL b k:=by simp [xorP,rep]
theorem xorP_get (b : UInt8) (k : List UInt8) (i : Nat) (hi : i < k.length) (h : i < (xorP b k i).length) : (xorP b k i)[i] = b:=by
 simp only [xorP]
 rw [List.getElem_append_right (by rw [xorL_length,List.length_take]; omega)]
 simp [rep]
theorem xorP_set (b : UInt8) (k : List UInt8) (i : Nat) (hi : i < k.length) : (bs (xorP b k i)).set i (.val (.int .u8 ((b ^^^ k[i]).toNat : Int))) = bs (xorP b k (i + 1)):=by
 have e1 : k.take (i + 1) = k.take i ++ [k[i]]:=List.take_succ_eq_append_getElem hi
 have hl : (xorL b (k.take i)).length = i:=by rw [xorL_length,List.length_take]; omega
 simp only [xorP,e1]
 rw [show k.length - i = (k.length - (i + 1)) + 1 by omega,rep,List.replicate_succ,<- bs_append,List.set_append_right _ _ (by rw [bs_length,hl]; omega),bs_length,hl,Nat.sub_self]
 simp only [bs,List.map_cons,List.set_cons_zero,xorL,List.map_append,List.map_nil,rep,List.append_assoc,List.singleton_append]
def turnedS : Spec:=fun args nm H =>
 match args with
 | [.agg ks,.val (.int .u8 x)] =>
  match bytesA ks with
  | some k => if k.length = 64 /\ 0 <= x /\ x < 256 then some (.sl nm 0 64 1,upd H nm (some (bs (xorL (UInt8.ofNat x.toNat) k)))) else none
  | none => none
 | _ => none
set_option maxHeartbeats 400000 in
theorem turned_ok : FnOK Tryz.prog 242 turnedS:=by
 refine ⟨by kernel_rfl,fun args nm H r H' h => ?_⟩
 have hcall:=onF_ok filled_ok (@noCall_ok Tryz.prog)
 unfold turnedS at h
 split at h
 ·rename_i ks x
  split at h
  ·rename_i k hk
   split at h
   ·rename_i hx
    cases h
    obtain ⟨hkl,hx⟩:=hx
    obtain rfl:=bytesA_some hk
    obtain ⟨b,hb⟩ : ∃ b : UInt8,b = UInt8.ofNat x.toNat:=⟨_,rfl⟩
    have hxb : x = (b.toNat : Int):=by rw [hb]; simp; omega
    rw [<- hb,hxb]
    clear hb hxb hx
    have hfill : ∀ m H1,filledS [.val (.int .u8 (b.toNat : Int))] m H1 = some (.agg (bs (rep b 64)),H1):=fun m H1 => by
     have hlt:=b.toNat_lt
     simp only [filledS]
     rw [if_pos ⟨by omega,by omega⟩]
     simp
    have heq : ∀ u v,aeq Tryz.prog false 366 u v (.agg (bs k)) (.agg (bz 64)) = some (vb (k == rep 0 64)):=fun u v => by
     have : bz 64 = bs (rep 0 64):=by simp [bs,rep,bz]
     rw [this,aeq_bytes (n:=64) (by kernel_rfl : Tryz.prog.underlying 366 = some (.array 64 5)) (by kernel_rfl) (by kernel_rfl) (by kernel_rfl) hkl (rep_length _ _)]
     simp
    have e1 : (rep b 64).length = 64:=rep_length _ _
    have e2:=bs_one (rep b 64)
    have e3:=bs_one k
    have e4 : (bs k).take 64 = bs k:=List.take_of_length_le (by rw [bs_length]; omega)
    have e5 : setMany (bz 64) 0 (bs (rep b 64)) = bs (rep b 64):=setMany_full (by rw [bs_length,e1]; rfl)
    have e6 : (bz 64).length = 64:=rfl
    refine sim_row Tryz.func242 rfl rfl (Nat.le_of_ble_eq_true rfl) fun hH => ?_
    (repeat refine AWP.seq ?_)
    refine AWP.region_last hcall rfl fun K hK => ?_
    simp [hkl,e3]
    apply hK; clear hK K; simp only [onNormal,onExit]
    (repeat refine AWP.seq ?_)
    refine AWP.region_last hcall rfl fun K hK => ?_
    simp [hfill,e1,e2,e5,e6]
    apply hK; clear hK K; simp only [onNormal,onExit]
    (repeat refine AWP.seq ?_)
    refine AWP.region_last hcall rfl fun K hK => ?_
    simp [-aeq,heq,hkl,e4]
    apply hK; clear hK K; simp only [onNormal,onExit]
    by_cases hz : k = rep 0 64
    ·have hz' : (k == rep 0 64) = true:=by simpa using hz
     (repeat refine AWP.seq ?_); refine AWP.cond (b:=true) (by simp [hz']) ?_; simp only [if_true,if_false,Bool.false_eq_true]
     (repeat refine AWP.seq ?_)
     refine AWP.region_last hcall rfl fun K hK => ?_
     simp [e1]
     apply hK; clear hK K; simp only [onNormal,onExit]
     have hxz : xorL b k = rep b 64:=by
      rw [hz]; simp [xorL,rep]
     rw [hxz]
     (try refine AWP.ret ?_); (try simp only [onNormal,onExit]); refine ⟨by simp,_,rfl,?_,?_,fun k row hk => ?_⟩
     ·exact hH [4]
     ·simp
     ·refine SubL.out ?_ k row hk; repeat (first | exact SubL.id | refine SubL.set ?_ | refine SubL.gone ?_ | (refine SubL.ex ?_ ?_; · simp; done) | refine SubL.fresh (hH [_]) ?_ | refine SubL.fresh (hH [_,_]) ?_ | (refine SubL.fresh (upd_none (hH [_]) ?_) ?_; · simp; done) | (refine SubL.fresh (upd_none (hH [_,_]) ?_) ?_; · simp; done))
    ·have hz' : (k == rep 0 64) = false:=by simpa using hz
     (repeat refine AWP.seq ?_); refine AWP.cond (b:=false) (by simp [hz']) ?_; simp only [if_true,if_false,Bool.false_eq_true]
     refine AWP.skip ?_; simp only [onNormal,onExit]
     (repeat refine AWP.seq ?_)
     refine AWP.region_last hcall rfl fun K hK => ?_
     simp
     apply hK; clear hK K; simp only [onNormal,onExit]
     (repeat refine AWP.seq ?_); refine AWP.block ?_
     refine AWP.loop (fun m c T H1 => ∃ i,i <= 64 /\ m = 64 - i /\ T 2 = .ptr (0 :: 0 :: nm) 0 /\ T 5 = .ptr (4 :: 0 :: nm) 0 /\ T 13 = vi i /\ H1 (0 :: 0 :: nm) = some (bs k) /\ H1 (4 :: 0 :: nm) = some (bs (xorP b k i)) /\ (∀ a r,H a = some r -> H1 a = some r)) 64 ⟨0,by omega,rfl,by simp,by simp,by simp,by simp,by simp [xorP_zero,hkl],SubL.out (SubL.fresh (hH [4]) (SubL.fresh (hH [4]) (SubL.fresh (hH [0]) SubL.id)))⟩ ?_
     rintro _ c T H1 ⟨i,hi,rfl,t2,t5,t13,hr0,hr4,hsub⟩
     by_cases h64 : i < 64
     ·have hii : (i : Int) < 64:=by omega
      have hw : IntKind.i64.wrap ((i : Int) + 1) = ((i + 1 : Nat) : Int):=by rw [IntKind.wrap_i64]; omega
      have d1 : (xorP b k i).length = 64:=by rw [xorP_length b k i (by omega),hkl]
      have d2 : i + 1 <= 64:=by omega
      have d3 : (bs (xorP b k i))[i]? = some (.val (.int .u8 (b.toNat : Int))):=by
       rw [bs_get,List.getElem?_eq_getElem (by omega),xorP_get b k i (by omega)]; rfl
      have d4 : (bs k)[i]? = some (.val (.int .u8 ((k[i]'(by omega)).toNat : Int))):=by
       rw [bs_get,List.getElem?_eq_getElem (by omega)]; rfl
      have d5:=xor_u8' b (k[i]'(by omega))
      have d6:=xorP_set b k i (by omega)
      rw [UInt8.toNat_xor] at d6
      have d7:=xorP_get b k i (by omega) (by omega)
      (repeat refine AWP.seq ?_)
      refine AWP.region_last hcall rfl fun K hK => ?_
      simp [t13]
      apply hK; clear hK K; simp only [onNormal,onExit]
      (repeat refine AWP.seq ?_); refine AWP.cond (b:=true) (by simp [hii]) ?_; simp only [if_true,if_false,Bool.false_eq_true]
      refine AWP.skip ?_; simp only [onNormal,onExit]
      (repeat refine AWP.seq ?_); refine AWP.block ?_
      (repeat refine AWP.seq ?_)
      refine AWP.region_last hcall rfl fun K hK => ?_
      simp [t13]
      apply hK; clear hK K; simp only [onNormal,onExit]
      (repeat refine AWP.seq ?_)
      refine AWP.draw_last rfl hcall [0,1,3,0,8,24,63,127,255] [⟨0,false,[]⟩,⟨1,false,[]⟩,⟨2,false,[0]⟩,⟨3,false,[]⟩,⟨4,false,[]⟩,⟨5,false,[0]⟩,⟨6,false,[]⟩,⟨7,false,[]⟩,⟨8,true,[]⟩] rfl (by kernel_rfl) fun K hK => ?_
      simp [planW,chkW,t2,t5,hr0,hr4,h64,hkl,d1,d2,d5,d6,d7]
      apply hK; clear hK K; simp only [onNormal,onExit]
      (repeat refine AWP.seq ?_)
      refine AWP.region_last hcall rfl fun K hK => ?_
      simp [t13,hw]
      apply hK; clear hK K; simp only [onNormal,onExit]
      refine ⟨64 - (i + 1),by omega,i + 1,by omega,rfl,by simp [t2],by simp [t5],by simp,by simp [hr0],by simp [d6],SubL.out (SubL.fresh (hH [_]) fun a r _ ha => hsub a r ha)⟩
     ·obtain rfl : i = 64:=by omega
      have d1 : (xorP b k 64).length = 64:=by rw [xorP_length b k 64 (by omega),hkl]
      have d2 : xorP b k 64 = xorL b k:=by rw [<- hkl,xorP_all]
      (repeat refine AWP.seq ?_)
      refine AWP.region_last hcall rfl fun K hK => ?_
      simp [t13]
      apply hK; clear hK K; simp only [onNormal,onExit]
      (repeat refine AWP.seq ?_); refine AWP.cond (b:=false) (by simp) ?_; simp only [if_true,if_false,Bool.false_eq_true]
      refine AWP.exit ?_; simp only [onNormal,onExit,if_true,reduceCtorEq,if_false]
      (repeat refine AWP.seq ?_)
      refine AWP.region_last hcall rfl fun K hK => ?_
      simp [t5,hr4,d1]
      apply hK; clear hK K; simp only [onNormal,onExit]
      (try refine AWP.ret ?_); (try simp only [onNormal,onExit]); refine ⟨by simp,_,rfl,?_,?_,fun k row hk => ?_⟩
      ·exact hH [4]
      ·rw [hr4,d2]
      ·exact hsub k row hk
   ·cases h
  ·cases h
 ·cases h
end Go.Proofs.YtbllpnjappddeaaGreat.Den
end
section
set_option linter.unusedSimpArgs false
set_option linter.unusedVariables false
set_option maxRecDepth 100000
namespace Go.Proofs.YtbllpnjappddeaaGreat.Den
open Go.RowKit
theorem ins_sim {a a' : Name} {off len off' m : Nat} {rw1 rw2 : List AV} {H : AHeap} {nm : Name} (e2 : H a = some rw1) (f2 : H a' = some rw2) (hne : a ≠ a') (c4 : len ≠ 0) (c5 : m ≠ 0) (c6 : (len + m) * 24 <= 140737488355328) (g2 : off + len <= rw1.length) (g4 : off' + m <= rw2.length)
  (hw1 : ((rw1.drop off).take len).all AV.one = true) (hw2 : ((rw2.drop off').take m).all AV.one = true) :
  Sim Tryz.prog 241 [.sl a off len 1,.val (.int .i64 0),.sl a' off' m 1] nm H (.sl nm 0 (len + m) 1) (upd (upd H a none) nm (some ((rw2.drop off').take m ++ (rw1.drop off).take len))):=by
 intro σ I w vs hfr hv har
 have hσn : σ nm = none:=hfr []
 generalize hL : vs.toList = L at hv
 cases hv with
 | cons hv1 ht =>
  cases ht with
  | cons hv2 ht =>
   cases ht with
   | cons hv3 ht =>
    cases ht
    cases hv2
    cases hv1 with
    | @sl _ _ _ _ cap p hp hl hcap =>
     cases hv3 with
     | @sl _ _ _ _ cap' p' hp' hl' hcap' =>
      have hvs : vs = #[.slice (some ⟨p.b,p.o + off,none⟩) len cap,.int .i64 (0 : Nat),.slice (some ⟨p'.b,p'.o + off',none⟩) m cap']:=Array.ext' hL
      rw [hvs]
      obtain ⟨q,C,el,fr,q1,q2,q3,q4,q5⟩:=har.rows a rw1 e2
      rw [hp] at q1; cases q1
      obtain ⟨q',C',el',fr',r1,r2,r3,r4,r5⟩:=har.rows a' rw2 f2
      rw [hp'] at r1; cases r1
      have hbb : p'.b ≠ p.b:=fun e => hne (har.inj a a' p p' (by rw [e2]; simp) (by rw [f2]; simp) hp hp' e.symm)
      have l1:=q5.length
      have l2:=r5.length
      rw [seg_length] at l1 l2
      have hcs : VRels σ I ((rw1.drop off).take len) (seg C (p.o + off) len):=by
       have:=(q5.drop off).take len
       rwa [show ((seg C p.o rw1.length).drop off).take len = seg C (p.o + off) len by
        simp only [seg,List.drop_take,List.drop_drop,List.take_take]
        congr 1
        omega] at this
      have hds : VRels σ I ((rw2.drop off').take m) (seg C' (p'.o + off') m):=by
       have:=(r5.drop off').take m
       rwa [show ((seg C' p'.o rw2.length).drop off').take m = seg C' (p'.o + off') m by
        simp only [seg,List.drop_take,List.drop_drop,List.take_take]
        congr 1
        omega] at this
      have hcl : ((rw1.drop off).take len).length = len:=by simp; omega
      have hdl : ((rw2.drop off').take m).length = m:=by simp; omega
      have hcl' : (seg C (p.o + off) len).length = len:=by rw [<- hcs.length,hcl]
      have hdl' : (seg C' (p'.o + off') m).length = m:=by rw [<- hds.length,hdl]
      have k1 : ∀ j v,(seg C (p.o + off) len)[j]? = some v -> w.cell? ⟨p.b,p.o + off + j,none⟩ = some v:=by
       intro j v hj
       have hjl:=(List.getElem?_eq_some_iff.1 hj).1
       rw [seg_get _ _ _ _ (by omega)] at hj
       rw [cell_of_heap q2]; exact hj
      have k2 : ∀ j v,(seg C' (p'.o + off') m)[j]? = some v -> w.cell? ⟨p'.b,p'.o + off' + j,none⟩ = some v:=by
       intro j v hj
       have hjl:=(List.getElem?_eq_some_iff.1 hj).1
       rw [seg_get _ _ _ _ (by omega)] at hj
       rw [cell_of_heap r2]; exact hj
      have o1:=all_oneV hcs hw1
      have o2:=all_oneV hds hw2
      have hann : nm ≠ a:=by rintro rfl; rw [hσn] at hp; cases hp
      have hs0 : Step (Under nm) σ I H w σ I H w.drew:=Step.drawn har rfl rfl rfl rfl
      by_cases hroom : len + m <= cap
      ·-- there is room
       refine (insert_room p.b (p.o + off) len cap 0 p'.b (p'.o + off') m cap' (seg C (p.o + off) len) (seg C' (p'.o + off') m) w (by omega) (by omega) hroom c6 hbb hcl' hdl' k1
        (fun j hj => by rw [cell_of_heap q2,Array.getElem?_eq_getElem (by omega)]; rfl) (fun j hj => frozen_of_heap q2 q4 _) k2 o1 o2 el' el C'.size C.size (shape_of_heap r2) (shape_of_heap q2) (by omega) (frozen_of_heap r2 r4 _) (frozen_of_heap r2 r4 _)).mono ?_
       rintro e w' ⟨rfl,rfl⟩
       let junk : List AV:=(seg C (p.o + off) (len + m)).map .val
       have hjl : junk.length = len + m:=by simp only [junk,List.length_map,seg_length]; omega
       have s1:=Step.rename (nm:=Under nm) (row':=junk) (o:=p.o + off) hs0.rel e2 hp hσn ⟨[],rfl⟩ (fun C2 el2 fr2 hb2 => by
        have hb2' : w.heap[p.b]? = some (.cells C2 el2 fr2):=hb2
        rw [q2] at hb2'; cases hb2'
        rw [hjl]
        exact VRels.vals _)
       have hpn : upd σ nm (some (⟨p.b,p.o + off,p.tot⟩ : Place)) nm = some ⟨p.b,p.o + off,p.tot⟩:=upd_same _ _ _
       have s2:=Step.setCells (nm:=Under nm) hpn ((rw1.drop off).take len) (seg C (p.o + off) len) _ w.drew junk (0 + m) s1.rel (upd_same _ _ _) (hcs.mono s1.sig s1.imm) (by omega)
       have s3:=Step.setCells (nm:=Under nm) hpn ((rw2.drop off').take m) (seg C' (p'.o + off') m) _ _ _ 0 s2.rel (upd_same _ _ _) (hds.mono s1.sig s1.imm) (by rw [setMany_length]; omega)
       have hrow : setMany (setMany junk (0 + m) ((rw1.drop off).take len)) 0 ((rw2.drop off').take m) = (rw2.drop off').take m ++ (rw1.drop off).take len:=by
        have hj : junk = junk.take m ++ (junk.drop m ++ []):=by simp
        have hjm : (junk.take m).length = m:=by simp; omega
        have e1 : setMany junk (0 + m) ((rw1.drop off).take len) = junk.take m ++ ((rw1.drop off).take len ++ []):=by
         rw [Nat.zero_add]
         conv => lhs; rw [hj]
         have:=setMany_at ((rw1.drop off).take len) (junk.take m) (junk.drop m ++ [])
         rw [hjm] at this
         rw [this,setMany_all _ _ _ (by simp; omega)]
        rw [e1,setMany_all _ _ _ (by rw [hjm,hdl]),List.append_nil]
       have st:=((hs0.trans s1).trans s2).trans s3
       rw [hrow] at st
       have hH : upd (upd (upd (upd H a none) nm (some junk)) nm (some (setMany junk (0 + m) ((rw1.drop off).take len)))) nm (some ((rw2.drop off').take m ++ (rw1.drop off).take len)) = upd (upd H a none) nm (some ((rw2.drop off').take m ++ (rw1.drop off).take len)):=by
        funext k
        by_cases hk : k = nm
        ·subst hk; rw [upd_same,upd_same]
        ·rw [upd_ne _ _ hk,upd_ne _ _ hk,upd_ne _ _ hk,upd_ne _ _ hk]
       rw [hH] at st
       have hz : (cs : List Value) -> cs.drop 0 = cs:=fun cs => rfl
       refine ⟨_,_,_,rfl,st,?_⟩
       exact .sl (p:=⟨p.b,p.o + off,p.tot⟩) (upd_same _ _ _) hroom (by show p.o + off + 0 + cap * 1 <= p.tot; omega)
      ·-- there is none
       refine (insert_grow p.b (p.o + off) len cap 0 p'.b (p'.o + off') m cap' (seg C (p.o + off) len) (seg C' (p'.o + off') m) w (by omega) (by omega) hl (by omega) c6 hcl' hdl' k1 k2 o1 o2).mono ?_
       rintro e w' ⟨rfl,rfl⟩
       have hG : len + m <= grownCap w (len + m) cap 72:=grownCap_ge w _ _ _
       generalize grownCap w (len + m) cap 72 = G at hG ⊢
       let R : Array Value:=((seg C (p.o + off) len).take 0).toArray ++ Builtin.zeroCells (Value.slice none 0 0).cells (len + m - 0) ++ Builtin.zeroCells (Value.slice none 0 0).cells (G - (len + m))
       have hzc : ∀ k,(Builtin.zeroCells (Value.slice none 0 0).cells k).size = k:=by intro k; simp [Builtin.zeroCells,Value.cells]
       have hR : R.size = G:=by
        simp only [R,Array.size_append,hzc]
        simp
        omega
       let junk : List AV:=(seg R 0 (len + m)).map .val
       have hjl : junk.length = len + m:=by simp only [junk,List.length_map,seg_length,hR]; omega
       have s1:=(Step.alloc (nm:=Under nm) har hσn ⟨[],rfl⟩ (row:=junk) (c:=R) (el:=72) (fr:=(0,0)) rfl (by rw [hjl]; exact VRels.vals _)).1
       have hpn : upd σ nm (some (⟨w.heap.size,0,R.size⟩ : Place)) nm = some ⟨w.heap.size,0,R.size⟩:=upd_same _ _ _
       have s1' : Step (Under nm) σ I H w (upd σ nm (some ⟨w.heap.size,0,R.size⟩)) I (upd H nm (some junk)) (w.alloc (.cells R 72)).drew:=s1.trans (Step.drawn s1.rel rfl rfl rfl rfl)
       have s2:=Step.setCells (nm:=Under nm) hpn ((rw2.drop off').take m) (seg C' (p'.o + off') m) _ (w.alloc (.cells R 72)).drew junk 0 s1'.rel (upd_same _ _ _) (hds.mono s1.sig s1.imm) (by omega)
       have s2':=s2.trans (Step.drawn (w':=((w.alloc (.cells R 72)).drew.setCells w.heap.size (0 + 0) (seg C' (p'.o + off') m)).drew) s2.rel rfl rfl rfl rfl)
       have s3:=Step.setCells (nm:=Under nm) hpn ((rw1.drop off).take len) (seg C (p.o + off) len) _ _ _ (0 + m) s2'.rel (upd_same _ _ _) (hcs.mono s1.sig s1.imm) (by rw [setMany_length]; omega)
       have hrow : setMany (setMany junk 0 ((rw2.drop off').take m)) (0 + m) ((rw1.drop off).take len) = (rw2.drop off').take m ++ (rw1.drop off).take len:=by
        have hj : junk = junk.take m ++ junk.drop m:=by simp
        have e1 : setMany junk 0 ((rw2.drop off').take m) = (rw2.drop off').take m ++ (junk.drop m ++ []):=by
         conv => lhs; rw [hj]
         rw [setMany_all _ _ _ (by simp; omega),List.append_nil]
        rw [e1,Nat.zero_add]
        have:=setMany_at ((rw1.drop off).take len) ((rw2.drop off').take m) (junk.drop m ++ [])
        rw [hdl] at this
        rw [this,setMany_all _ _ _ (by simp; omega),List.append_nil]
       have st:=(s1'.trans s2').trans s3
       rw [hrow] at st
       have st':=st.trans (Step.forget st.rel (H':=upd (upd H a none) nm (some ((rw2.drop off').take m ++ (rw1.drop off).take len))) (fun k rr hk => by
        by_cases hkn : k = nm
        ·subst hkn; rw [upd_same] at hk ⊢; exact hk
        ·rw [upd_ne _ _ hkn] at hk
         rw [upd_ne _ _ hkn,upd_ne _ _ hkn,upd_ne _ _ hkn]
         by_cases hka : k = a
         ·subst hka; rw [upd_same] at hk; cases hk
         ·rw [upd_ne _ _ hka] at hk; exact hk))
       simp only [Nat.zero_add,Nat.add_zero] at st' ⊢
       refine ⟨_,_,_,rfl,st',?_⟩
       exact .sl (p:=⟨w.heap.size,0,R.size⟩) (upd_same _ _ _) hG (by show 0 + 0 + G * 1 <= R.size; rw [hR]; omega)
attribute [local simp] runList aop abuiltin acall awanted ayielded env T0 tput tset Ran aload astore setMany upd binV aslice aindexAddr apart aindex alen acopy srcCells natOf boundOf aeq AV.nilEq convV appK fillA List.range List.range.loop onF isU8 rowOf
def insS : Spec:=fun args nm H =>
 match args with
 | [.sl a off len 1,.val (.int .i64 0),.sl a' off' m 1] =>
  match H a,H a' with
  | some r1,some r2 => if a ≠ a' /\ len ≠ 0 /\ m ≠ 0 /\ (len + m) * 24 <= 140737488355328 /\ off + len <= r1.length /\ off' + m <= r2.length /\ ((r1.drop off).take len).all AV.one = true /\ ((r2.drop off').take m).all AV.one = true then
    some (.sl nm 0 (len + m) 1,upd (upd H a none) nm (some ((r2.drop off').take m ++ (r1.drop off).take len))) else none
  | _,_ => none
 | _ => none
theorem insF_ok : FnOK Tryz.prog 241 insS:=by
 refine ⟨by kernel_rfl,fun args nm H r H' h => ?_⟩
 unfold insS at h
 split at h
 ·split at h
  ·rename_i r1 r2 h1 h2
   split at h
   ·rename_i hc
    obtain ⟨c1,c2,c3,c4,c5,c6,c7,c8⟩:=hc
    cases h
    exact ins_sim h1 h2 c1 c2 c3 c4 c5 c6 c7 c8
   ·cases h
  ·cases h
 ·cases h
set_option maxHeartbeats 400000 in
theorem cloneBB_ok : FnOK Tryz.prog 81 (cloneS 1 24):=by
 refine ⟨by kernel_rfl,fun args nm H r H' h => ?_⟩
 have hcall:=@noCall_ok Tryz.prog
 unfold cloneS at h
 split at h
 ·cases h
  refine sim_go Tryz.func81 rfl rfl (Nat.le_of_ble_eq_true rfl) fun hH => ?_
  (repeat refine AWP.seq ?_)
  refine AWP.region_last hcall rfl fun K hK => ?_
  simp
  apply hK; clear hK K; simp only [onNormal,onExit]
  (repeat refine AWP.seq ?_)
  refine AWP.region_last hcall rfl fun K hK => ?_
  simp
  apply hK; clear hK K; simp only [onNormal,onExit]
  (repeat refine AWP.seq ?_); refine AWP.cond (b:=true) (by simp) ?_; simp only [if_true,if_false,Bool.false_eq_true]
  (repeat refine AWP.seq ?_)
  refine AWP.region_last hcall rfl fun K hK => ?_
  simp
  apply hK; clear hK K; simp only [onNormal,onExit]
  (try refine AWP.ret ?_); (try simp only [onNormal,onExit]); refine ⟨by simp,⟨_,rfl,by simp [ares1]⟩,fun k row hk => ?_⟩
  exact hk
 ·rename_i x hx
  split at h
  ·rename_i k cells hs
   split at h
   ·rename_i hc
    cases h
    obtain ⟨h3,h4,h5⟩:=hc
    have hp:=elems_pos hs
    refine sim_row Tryz.func81 rfl rfl (Nat.le_of_ble_eq_true rfl) fun hH => ?_
    have h9 : elems (upd H (3 :: 0 :: nm) (some [])) 1 x = some (k,cells):=upd_elems (hH [3]) hs
    have h8:=elems_src h9
    (repeat refine AWP.seq ?_)
    refine AWP.region_last hcall rfl fun K hK => ?_
    simp
    apply hK; clear hK K; simp only [onNormal,onExit]
    (repeat refine AWP.seq ?_)
    refine AWP.region_last hcall rfl fun K hK => ?_
    simp [-aeq,elems_nil hs r3und42]
    apply hK; clear hK K; simp only [onNormal,onExit]
    (repeat refine AWP.seq ?_); refine AWP.cond (b:=false) (by simp) ?_; simp only [if_true,if_false,Bool.false_eq_true]
    refine AWP.skip ?_; simp only [onNormal,onExit]
    (repeat refine AWP.seq ?_)
    refine AWP.region_last hcall rfl fun K hK => ?_
    simp [-srcCells,h8,h3,h4,h5,hp.2]
    apply hK; clear hK K; simp only [onNormal,onExit]
    (try refine AWP.ret ?_); (try simp only [onNormal,onExit]); refine ⟨by simp,_,rfl,?_,?_,fun k row hk => ?_⟩
    ·exact hH [5]
    ·simp
    ·refine SubL.out ?_ k row hk; repeat (first | exact SubL.id | refine SubL.set ?_ | refine SubL.gone ?_ | (refine SubL.ex ?_ ?_; · simp; done) | refine SubL.fresh (hH [_]) ?_ | refine SubL.fresh (hH [_,_]) ?_ | (refine SubL.fresh (upd_none (hH [_]) ?_) ?_; · simp; done) | (refine SubL.fresh (upd_none (hH [_,_]) ?_) ?_; · simp; done))
   ·cases h
  ·cases h
 ·cases h
end Go.Proofs.YtbllpnjappddeaaGreat.Den
end
section
set_option linter.unusedSimpArgs false
set_option linter.unusedVariables false
set_option maxRecDepth 100000
namespace Go.Proofs.YtbllpnjappddeaaGreat.Den
open Go.RowKit
attribute [local simp] runList aop abuiltin acall awanted ayielded env T0 tput tset Ran aload astore setMany upd binV aslice aindexAddr apart aindex alen acopy srcCells natOf boundOf aeq AV.nilEq convV appK fillA List.range List.range.loop onF isU8 rowOf
def Agree (H H₁ : AHeap) : Prop:=∀ k r,H k = some r -> H₁ k = some r
theorem agree_refl (H : AHeap) : Agree H H:=fun _ _ h => h
theorem agree_upd {H H₁ : AHeap} {n : Name} {o : Option (List AV)} (hn : H n = none) (h : Agree H H₁) : Agree H (upd H₁ n o):=fun k r hk => by
 rw [upd_ne _ _ (by rintro rfl; rw [hn] at hk; cases hk)]; exact h k r hk
def padK (k : List UInt8) : List UInt8:=k ++ List.replicate (64 - k.length) 0
def macOf (k l : List UInt8) : List UInt8:=shaSum (xorL 92 (padK k) ++ shaSum (xorL 54 (padK k) ++ l))
theorem shaSum_length (l : List UInt8) : (shaSum l).length = 32:=outP_length _ _
def macS : Spec:=fun args nm H =>
 match args with
 | [key,.sl pa po pm 1] =>
  match partC H 1 key,elems H 1 (.sl pa po pm 1) with
  | some (kn,kc),some (m,ps) =>
   match bytesA kc,partsC H 1 ps with
   | some k,some (n,cells) =>
    match bytesA cells with
    | some l => if kn <= 64 /\ n <= 549755813888 /\ m <= 549755813 /\ 0 < m /\ ps.all AV.one = true then some (.agg (bs (macOf k l)),H) else none
    | none => none
   | _,_ => none
  | _,_ => none
 | _ => none
set_option maxHeartbeats 1000000 in
theorem mac_ok : FnOK Tryz.prog 143 macS:=by
 refine ⟨by kernel_rfl,fun args nm H r H' h => ?_⟩
 have hcall:=onF_ok cloneBB_ok (onF_ok turned_ok (onF_ok insF_ok (onF_ok sum_ok (@noCall_ok Tryz.prog))))
 unfold macS at h
 split at h
 ·rename_i key pa po pm
  split at h
  ·rename_i kn kc m ps hkey hp
   split at h
   ·rename_i k n cells hk hn
    split at h
    ·rename_i l hl
     split at h
     ·rename_i hc
      cases h
      obtain ⟨h1,h2,h3,h5,h4⟩:=hc
      generalize hpe : AV.sl pa po pm 1 = p at *
      obtain rfl:=bytesA_some hk
      obtain rfl:=bytesA_some hl
      have hkl : k.length = kn:=by have:=part_length hkey; simpa using this
      have hll : l.length = n:=by have:=partsC_length hn; simpa using this
      have hpl:=elems_pos hp
      have hpl2 : ps.length = m:=by simpa using hpl.2
      have hpp : (padK k).length = 64:=by simp [padK]; omega
      have a1 : ∀ H₁,Agree H H₁ -> elems H₁ 1 p = some (m,ps):=fun H₁ ha => elems_sub ha hp
      have a2 : ∀ H₁,Agree H H₁ -> partsC H₁ 1 ps = some (n,bs l):=fun H₁ ha => partsC_sub ha hn
      have a3 : ∀ H₁,Agree H H₁ -> srcCells H₁ 1 key = some (kn,bs k):=fun H₁ ha => part_src (part_sub ha hkey)
      have hlt : ¬ (64 < (kn : Int)):=by omega
      have hcopy : setMany (bz 64) 0 (bs k) = bs (padK k):=by
       have : bz 64 = bz kn ++ bz (64 - kn):=by
        rw [bz,bz,bz,List.replicate_append_replicate]; congr 1; omega
       rw [this,setMany_all _ _ _ (by rw [bs_length,hkl]; simp [bz]),padK,<- bs_append,hkl]
       simp [bs,bz]
      refine sim_go Tryz.func143 rfl rfl (Nat.le_of_ble_eq_true rfl) fun hH => ?_
      have f0 : ∀ j,H (j :: nm) = none:=fun j => hH [j]
      have g2 : ∀ o o',Agree H (upd (upd H (0 :: nm) o) (4 :: nm) o'):=fun o o' => agree_upd (f0 4) (agree_upd (f0 0) (agree_refl H))
      have a3' : ∀ o o',srcCells (upd (upd H (0 :: nm) o) (4 :: nm) o') 1 key = some (kn,bs k):=fun o o' => a3 _ (g2 o o')
      have h64 : (bz 64).length = 64:=by simp [bz]
      have hone : (∀ x,x ∈ bs k -> x.one = true) ↔ True:=iff_true_intro fun x hx => List.all_eq_true.1 (bs_one k) x hx
      have ht1 : List.take kn (bs k) = bs k:=by exact List.take_of_length_le (by simp [hkl])
      (repeat refine AWP.seq ?_)
      refine AWP.region_last hcall rfl fun K hK => ?_
      simp
      apply hK; clear hK K; simp only [onNormal,onExit]
      have a4 : ∀ H₁,Agree H H₁ -> alen Tryz.prog 72 key = some (vi kn):=fun _ _ => part_len hkey r3und70
      (repeat refine AWP.seq ?_)
      refine AWP.region_last hcall rfl fun K hK => ?_
      simp [-alen,part_len hkey r3und70]
      apply hK; clear hK K; simp only [onNormal,onExit]
      (repeat refine AWP.seq ?_); refine AWP.cond (b:=false) (by simp [hlt]) ?_; simp only [if_true,if_false,Bool.false_eq_true]
      refine AWP.skip ?_; simp only [onNormal,onExit]
      (repeat refine AWP.seq ?_)
      refine AWP.region_last hcall rfl fun K hK => ?_
      simp
      apply hK; clear hK K; simp only [onNormal,onExit]
      (repeat refine AWP.seq ?_)
      refine AWP.region_last hcall rfl fun K hK => ?_
      simp [-srcCells,a3',agree_upd,agree_refl,f0,hkl,h1,bs_one,hcopy,h64,ht1,hone]
      apply hK; clear hK K; simp only [onNormal,onExit]
      have hclone : ∀ (H₁ : AHeap) (n' : Name),Agree H H₁ -> cloneS 1 24 [p] n' H₁ = some (.sl n' 0 m 1,upd H₁ n' (some ps)):=fun H₁ n' ha => by
       subst hpe; simp only [cloneS,a1 H₁ ha]; rw [if_pos ⟨h4,by omega,by omega⟩]
      have hturn : ∀ (x : UInt8) (H₁ : AHeap) (n' : Name),turnedS [.agg (bs (padK k)),.val (.int .u8 (x.toNat : Int))] n' H₁ = some (.sl n' 0 64 1,upd H₁ n' (some (bs (xorL x (padK k))))):=fun x H₁ n' => by
       simp only [turnedS,bytesA_bs]
       rw [if_pos ⟨hpp,by omega,by have:=x.toNat_lt; omega⟩]; simp
      have htk64 : List.take 64 (bs (padK k)) = bs (padK k):=List.take_of_length_le (Nat.le_of_eq (by rw [bs_length,hpp]))
      have hlen64 : (bs (padK k)).length = 64:=by rw [bs_length,hpp]
      have htkm : List.take m ps = ps:=List.take_of_length_le (by omega)
      have hpone : (∀ x,x ∈ ps -> x.one = true) ↔ True:=iff_true_intro fun x hx => List.all_eq_true.1 h4 x hx
      have hones : ∀ l : List UInt8,(∀ x,x ∈ bs l -> x.one = true) ↔ True:=fun l => iff_true_intro fun x hx => List.all_eq_true.1 (bs_one l) x hx
      have hset : ∀ l : List UInt8,l.length = 32 -> setMany (bz 32) 0 (bs l) = bs l:=fun l hl => by
       have:=setMany_all (bs l) (bz 32) [] (by rw [bs_length,hl]; simp [bz])
       rwa [List.append_nil,List.append_nil] at this
      have hm0 : m ≠ 0:=by omega
      have hsz : (m + 1) * 24 <= 140737488355328:=by omega
      have hbz : (bz 32).length = 32:=by simp [bz]
      have hx54 : (xorL 54 (padK k)).length = 64:=by simp [xorL,hpp]
      have hx92 : (xorL 92 (padK k)).length = 64:=by simp [xorL,hpp]
      have htk : ∀ (j : Nat) (l : List UInt8),l.length = j -> List.take j (bs l) = bs l:=fun j l h => List.take_of_length_le (Nat.le_of_eq (by rw [bs_length,h]))
      have hsum1 : ∀ (H₁ : AHeap) (n' : Name),Agree H H₁ -> H₁ (13 :: nm) = some (.sl (11 :: nm) 0 64 1 :: ps) -> H₁ (11 :: nm) = some (bs (xorL 54 (padK k))) -> sumS [.sl (13 :: nm) 0 (m + 1) 1] n' H₁ = some (.agg (bs (shaSum (xorL 54 (padK k) ++ l))),H₁):=fun H₁ n' ha hr1 hr2 => by
       have e1 : elems H₁ 1 (.sl (13 :: nm) 0 (m + 1) 1) = some (m + 1,.sl (11 :: nm) 0 64 1 :: ps):=by
        simp [elems,hr1,hpl2,htkm]
       have e2 : partsC H₁ 1 (.sl (11 :: nm) 0 64 1 :: ps) = some (64 + n,bs (xorL 54 (padK k)) ++ bs l):=by
        simp [partsC,partC,elems,hr2,a2 H₁ ha,hx54,htk]
       simp only [sumS,e1,e2,bs_append,bytesA_bs]
       rw [if_pos ⟨by omega,by omega,by omega⟩]
      have hsum2 : ∀ (H₁ : AHeap) (n' : Name),H₁ (20 :: nm) = some [.sl (18 :: nm) 0 64 1,.sl (15 :: nm) 0 32 1] -> H₁ (18 :: nm) = some (bs (xorL 92 (padK k))) -> H₁ (15 :: nm) = some (bs (shaSum (xorL 54 (padK k) ++ l))) -> sumS [.sl (20 :: nm) 0 2 1] n' H₁ = some (.agg (bs (shaSum (xorL 92 (padK k) ++ shaSum (xorL 54 (padK k) ++ l)))),H₁):=fun H₁ n' hr1 hr2 hr3 => by
       have e1 : elems H₁ 1 (.sl (20 :: nm) 0 2 1) = some (2,[.sl (18 :: nm) 0 64 1,.sl (15 :: nm) 0 32 1]):=by
        simp [elems,hr1]
       have e2 : partsC H₁ 1 [.sl (18 :: nm) 0 64 1,.sl (15 :: nm) 0 32 1] = some (96,bs (xorL 92 (padK k)) ++ bs (shaSum (xorL 54 (padK k) ++ l))):=by
        simp [partsC,partC,elems,hr2,hr3,hx92,htk,shaSum_length]
       simp only [sumS,e1,e2,bs_append,bytesA_bs]
       rw [if_pos ⟨by omega,by omega,by omega⟩]
      have ht54:=hturn 54
      have ht92:=hturn 92
      simp only [show ((54 : UInt8).toNat : Int) = 54 from rfl,show ((92 : UInt8).toNat : Int) = 92 from rfl] at ht54 ht92
      (repeat refine AWP.seq ?_)
      refine AWP.draw_last rfl hcall [0,1,0,7,15,31,63,0,255] [⟨0,false,[]⟩,⟨1,true,[]⟩,⟨2,false,[0,2]⟩,⟨3,true,[]⟩,⟨4,false,[]⟩,⟨5,true,[]⟩,⟨6,true,[]⟩,⟨7,false,[]⟩,⟨8,true,[]⟩] rfl (by kernel_rfl) fun K hK => ?_
      simp (maxDischargeDepth:=20) [planW,chkW,hclone,ht54,insS,hsum1,agree_upd,agree_refl,f0,htk64,hlen64,htkm,hpone,hones,hset,hpl2,hm0,hsz,hbz,shaSum_length,List.lookup]
      apply hK; clear hK K; simp only [onNormal,onExit]
      (repeat refine AWP.seq ?_)
      refine AWP.draw_last rfl hcall [0,1,0,7,15,31] [⟨0,false,[0]⟩,⟨1,true,[]⟩,⟨2,false,[0,2]⟩,⟨3,false,[]⟩,⟨4,true,[]⟩,⟨5,true,[]⟩] rfl (by kernel_rfl) fun K hK => ?_
      simp (maxDischargeDepth:=20) [planW,chkW,ht92,hsum2,agree_upd,agree_refl,f0,htk64,hlen64,hones,hset,hbz,shaSum_length,List.lookup]
      apply hK; clear hK K; simp only [onNormal,onExit]
      (try refine AWP.ret ?_); (try simp only [onNormal,onExit]); refine ⟨by simp,⟨[_],by simp [ares,Tryz.results143,hbz,hlen64,shaSum_length,htk,macOf],rfl⟩,fun k row hk => ?_⟩
      refine SubL.out ?_ k row hk; repeat (first | exact SubL.id | refine SubL.set ?_ | refine SubL.gone ?_ | (refine SubL.ex ?_ ?_; · simp; done) | refine SubL.fresh (hH [_]) ?_ | refine SubL.fresh (hH [_,_]) ?_ | (refine SubL.fresh (upd_none (hH [_]) ?_) ?_; · simp; done) | (refine SubL.fresh (upd_none (hH [_,_]) ?_) ?_; · simp; done))
     ·cases h
    ·cases h
   ·cases h
  ·cases h
 ·cases h
end Go.Proofs.YtbllpnjappddeaaGreat.Den
end
section
set_option linter.unusedSimpArgs false
set_option linter.unusedVariables false
set_option maxRecDepth 100000
namespace Go.Proofs.YtbllpnjappddeaaGreat.Den
open Go.RowKit
variable {P : Program} {ρ : Vals} {ν : Nat -> Option Name}
def xorN (b : Nat) : List Nat -> List Nat
 | [] => []
 | c :: r => Nat.xor b c :: xorN b r
theorem xorN_eq (b : Nat) (hb : b < 256) : ∀ (l : List Nat),(∀ x ∈ l,x < 256) -> u8s (xorN b l) = xorL (UInt8.ofNat b) (u8s l) /\ ∀ x ∈ xorN b l,x < 256
 | [],_ => ⟨rfl,by simp [xorN]⟩
 | c :: r,h => by
  obtain ⟨h1,h2⟩:=xorN_eq b hb r fun x hx => h x (List.mem_cons_of_mem _ hx)
  have hc:=h c (by simp)
  refine ⟨?_,?_⟩
  ·show UInt8.ofNat (b ^^^ c) :: u8s (xorN b r) = (UInt8.ofNat b ^^^ UInt8.ofNat c) :: xorL (UInt8.ofNat b) (u8s r)
   rw [h1,UInt8.ofNat_xor]
  ·intro x hx
   rcases List.mem_cons.1 hx with rfl | hx
   ·exact Nat.xor_lt_two_pow (n:=8) hb hc
   ·exact h2 x hx
def padKN (k : List Nat) : List Nat:=List.append k (repN (Nat.sub 64 k.length) [])
theorem padKN_eq (k : List Nat) (h : ∀ x ∈ k,x < 256) : u8s (padKN k) = padK (u8s k) /\ ∀ x ∈ padKN k,x < 256:=by
 have e : padKN k = k ++ List.replicate (64 - k.length) 0:=by
  show k ++ repN (64 - k.length) [] = _
  rw [repN_eq,List.append_nil]
 rw [e]
 refine ⟨?_,?_⟩
 ·simp only [padK,u8s,List.map_append,List.length_map,List.map_replicate]; rfl
 ·intro x hx
  rcases List.mem_append.1 hx with hx | hx
  ·exact h x hx
  ·rw [(List.mem_replicate.1 hx).2]; decide
theorem u8s_append (a b : List Nat) : u8s (a ++ b) = u8s a ++ u8s b:=by simp [u8s]
def macN (k l : List Nat) : List Nat:=sumN (List.append (xorN 92 (padKN k)) (sumN (List.append (xorN 54 (padKN k)) l)))
theorem macN_eq (k l : List Nat) (hk : ∀ x ∈ k,x < 256) (hl : ∀ x ∈ l,x < 256) : u8s (macN k l) = macOf (u8s k) (u8s l) /\ ∀ x ∈ macN k l,x < 256:=by
 obtain ⟨p1,p2⟩:=padKN_eq k hk
 obtain ⟨a1,a2⟩:=xorN_eq 54 (by decide) _ p2
 obtain ⟨b1,b2⟩:=xorN_eq 92 (by decide) _ p2
 obtain ⟨s1,s2⟩:=sumN_eq (xorN 54 (padKN k) ++ l) fun x hx => by
  rcases List.mem_append.1 hx with hx | hx
  ·exact a2 x hx
  ·exact hl x hx
 obtain ⟨t1,t2⟩:=sumN_eq (xorN 92 (padKN k) ++ sumN (xorN 54 (padKN k) ++ l)) fun x hx => by
  rcases List.mem_append.1 hx with hx | hx
  ·exact b2 x hx
  ·exact s2 x hx
 refine ⟨?_,t2⟩
 show u8s (sumN (xorN 92 (padKN k) ++ sumN (xorN 54 (padKN k) ++ l))) = _
 rw [t1,u8s_append,s1,u8s_append,a1,b1,p1]
 rfl
def omac (args : List SV) (h : Mem) : SRes :=
 match args with
 | [key,.sl q off len 1] =>
  match litParts h [key],partS h 1 (.sl q off len 1) with
  | some k,some (m,ps) =>
   match litParts h ps with
   | some l => bif Nat.ble k.length 64 && Nat.ble l.length 549755813888 && Nat.blt 0 m && Nat.ble m 549755813 && ps.all SV.one then forceB (macN k l) fun b => some (.agg b,h) else none
   | none => none
  | _,_ => none
 | _ => none
theorem omac_ok {args : List SV} {h h' : Mem} {r : SV} (hr : omac args h = some (r,h')) : isGo Tryz.prog 143 = true /\ ∀ (ν : Nat -> Option Name) (H : AHeap) (nm : Name) (xs : List AV),MRel ρ ν h H -> Fre ν nm -> SRels ρ ν args xs ->
  ∃ z H',Sim Tryz.prog 143 xs nm H z H' /\ Out ρ ν nm r h' z H':=by
 refine ovr_fn mac_ok (g:=omac) (fun args h r h' hr ν H nm xs hm hf hx => ?_) hr
 unfold omac at hr
 split at hr
 ·rename_i key q off len
  split at hr
  ·rename_i k m ps hk hs
   split at hr
   ·rename_i l hl
    cases hc : (Nat.ble k.length 64 && Nat.ble l.length 549755813888 && Nat.blt 0 m && Nat.ble m 549755813 && ps.all SV.one) with
    | false => rw [hc] at hr; cases hr
    | true =>
     rw [hc] at hr
     simp only [cond_true,forceB_eq,Option.some.injEq,Prod.mk.injEq] at hr
     obtain ⟨rfl,rfl⟩:=hr
     simp only [Bool.and_eq_true] at hc
     obtain ⟨⟨⟨⟨c1,c2⟩,c3⟩,c4⟩,c5⟩:=hc
     cases hx with
     | @cons _ yk _ _ hxk t =>
      cases t with
      | @cons _ y _ _ hx t =>
       cases t
       obtain ⟨ys,g1,g2,g3⟩:=partS_rel hm.rows hx hs
       have hel : elems H 1 y = some (m,ys):=by
        rcases g3 with ⟨_,rfl,_⟩ | ⟨h4,h5⟩
        ·cases c3
        ·exact src_elems h4 h5 (blt_lt c3)
       obtain ⟨f1,f2⟩:=litParts_rel hm.rows g2 hl
       obtain ⟨k1,k2⟩:=litParts_rel hm.rows (.cons hxk .nil) hk
       have hpk : partC H 1 yk = some (k.length,bs (u8s k)):=by
        obtain ⟨a,c,n',c',e1,e2,e3,e4⟩:=partsC_cons k1
        simp only [partsC,Option.some.injEq,Prod.mk.injEq] at e2
        obtain ⟨rfl,rfl⟩:=e2
        rw [e1,e3,e4,List.append_nil,Nat.add_zero]
       obtain ⟨s1,s2⟩:=macN_eq k l k2 f2
       have hyo : ys.all AV.one = true:=ones_rel g2 c5
       cases hx with
       | sl =>
        refine ⟨_,H,?_,.same hm (.agg (bs_u8s s2))⟩
        simp only [macS,hpk,hel,f1,bytesA_bs]
        rw [if_pos ⟨Nat.le_of_ble_eq_true c1,Nat.le_of_ble_eq_true c2,Nat.le_of_ble_eq_true c4,blt_lt c3,hyo⟩,s1]
   ·cases hr
  ·cases hr
 ·cases hr
end Go.Proofs.YtbllpnjappddeaaGreat.Den
end
section
set_option linter.unusedSimpArgs false
set_option maxRecDepth 1000000
namespace Go.Proofs.YtbllpnjappddeaaGreat.Den
def ovrT (f : FuncId) : Option (List SV -> Mem -> SRes) :=
 bif Nat.beq f 206 then some (onum 1) else
 bif Nat.beq f 207 then some (onum 8) else
 bif Nat.beq f 209 then some (otextR) else
 bif Nat.beq f 131 then some (ointW) else
 bif Nat.beq f 226 then some (obyteW) else
 bif Nat.beq f 237 then some (otextW) else
 bif Nat.beq f 155 then some (onew) else
 bif Nat.beq f 240 then some (osumB) else
 bif Nat.beq f 143 then some (omac) else
 ovrS f
theorem ovrT_ok (ρ : Vals) : OvrOK Tryz.prog ρ ovrT:=by
 intro f g hg args h r h' hr
 unfold ovrT at hg
 cases e : Nat.beq f 206 with
 | true =>
  rw [e] at hg
  simp only [cond_true,Option.some.injEq] at hg
  subst hg
  rw [Nat.eq_of_beq_eq_true e]
  exact obyteR_ok hr
 | false =>
  rw [e] at hg
  simp only [cond_false] at hg
  clear e
  cases e : Nat.beq f 207 with
  | true =>
   rw [e] at hg
   simp only [cond_true,Option.some.injEq] at hg
   subst hg
   rw [Nat.eq_of_beq_eq_true e]
   exact ointR_ok hr
  | false =>
   rw [e] at hg
   simp only [cond_false] at hg
   clear e
   cases e : Nat.beq f 209 with
   | true =>
    rw [e] at hg
    simp only [cond_true,Option.some.injEq] at hg
    subst hg
    rw [Nat.eq_of_beq_eq_true e]
    exact otextR_ok hr
   | false =>
    rw [e] at hg
    simp only [cond_false] at hg
    clear e
    cases e : Nat.beq f 131 with
    | true =>
     rw [e] at hg
     simp only [cond_true,Option.some.injEq] at hg
     subst hg
     rw [Nat.eq_of_beq_eq_true e]
     exact ointW_ok hr
    | false =>
     rw [e] at hg
     simp only [cond_false] at hg
     clear e
     cases e : Nat.beq f 226 with
     | true =>
      rw [e] at hg
      simp only [cond_true,Option.some.injEq] at hg
      subst hg
      rw [Nat.eq_of_beq_eq_true e]
      exact obyteW_ok hr
     | false =>
      rw [e] at hg
      simp only [cond_false] at hg
      clear e
      cases e : Nat.beq f 237 with
      | true =>
       rw [e] at hg
       simp only [cond_true,Option.some.injEq] at hg
       subst hg
       rw [Nat.eq_of_beq_eq_true e]
       exact otextW_ok hr
      | false =>
       rw [e] at hg
       simp only [cond_false] at hg
       clear e
       cases e : Nat.beq f 155 with
       | true =>
        rw [e] at hg
        simp only [cond_true,Option.some.injEq] at hg
        subst hg
        rw [Nat.eq_of_beq_eq_true e]
        exact onew_ok hr
       | false =>
        rw [e] at hg
        simp only [cond_false] at hg
        clear e
        cases e : Nat.beq f 240 with
        | true =>
         rw [e] at hg
         simp only [cond_true,Option.some.injEq] at hg
         subst hg
         rw [Nat.eq_of_beq_eq_true e]
         exact osumB_ok hr
        | false =>
         rw [e] at hg
         simp only [cond_false] at hg
         clear e
         cases e : Nat.beq f 143 with
         | true =>
          rw [e] at hg
          simp only [cond_true,Option.some.injEq] at hg
          subst hg
          rw [Nat.eq_of_beq_eq_true e]
          exact omac_ok hr
         | false =>
          rw [e] at hg
          simp only [cond_false] at hg
          clear e
          exact ovrS_ok ρ f g hg args h r h' hr
end Go.Proofs.YtbllpnjappddeaaGreat.Den
end
section
set_option linter.unusedSimpArgs false
set_option linter.unusedVariables false
set_option maxRecDepth 100000
namespace Go.Proofs.YtbllpnjappddeaaGreat.Den
open Go.RowKit
attribute [local simp] runList aop abuiltin acall awanted ayielded env T0 tput tset Ran aload astore setMany upd binV aslice aindexAddr apart aindex alen acopy srcCells natOf boundOf aeq AV.nilEq convV appK fillA List.range List.range.loop onF isU8 rowOf
noncomputable def take1S : Spec:=fun args nm H =>
 match args with
 | [.ptr q 0,.val (.int .i64 k)] =>
  match H q with
  | some [d,.val (.int .i64 a),.val (.int .i64 e)] =>
   match alen Tryz.prog 72 d with
   | some (.val (.int .i64 len)) =>
    if 0 <= k /\ 0 <= a /\ a <= len /\ len <= 1152921504606846976 /\ k <= 1152921504606846976 then
     if e ≠ 0 \/ len - a < k then some (vnil,upd H q (some [d,vi a,vi (if e = 0 then 8 else e)]))
     else match aslice Tryz.prog 72 d (some (vi a)) (some (vi (a + k))) (upd H q (some [d,vi (a + k),vi 0])) with
      | some x => some (x,upd H q (some [d,vi (a + k),vi 0]))
      | none => none
    else none
   | _ => none
  | _ => none
 | _ => none
set_option maxHeartbeats 400000 in
theorem take1_ok : FnOK Tryz.prog 293 take1S:=by
 refine ⟨by kernel_rfl,fun args nm H r H' h => ?_⟩
 have hcall:=@noCall_ok Tryz.prog
 unfold take1S at h
 split at h
 ·rename_i q k
  split at h
  ·rename_i d a e hq
   split at h
   ·rename_i len hlen
    split at h
    ·rename_i hc
     obtain ⟨c1,c2,c3,c4,c5⟩:=hc
     have w1 : IntKind.i64.wrap (len - a) = len - a:=by rw [IntKind.wrap_i64]; omega
     have w2 : IntKind.i64.wrap (a + k) = a + k:=by rw [IntKind.wrap_i64]; omega
     have w3 : IntKind.i64.wrap (a + k - k) = a:=by rw [IntKind.wrap_i64]; omega
     have w4 : a + k - k = a:=by omega
     have w5 : IntKind.i64.wrap a = a:=by rw [IntKind.wrap_i64]; omega
     split at h
     ·rename_i hbad
      cases h
      refine sim_go Tryz.func293 rfl rfl (Nat.le_of_ble_eq_true rfl) fun hH => ?_
      (repeat refine AWP.seq ?_)
      refine AWP.region_last hcall rfl fun K hK => ?_
      simp
      apply hK; clear hK K; simp only [onNormal,onExit]
      by_cases he : e = 0
      ·subst he
       have hlt : len - a < k:=by rcases hbad with h | h; exact absurd rfl h; exact h
       (repeat refine AWP.seq ?_)
       refine AWP.draw_last rfl hcall [0,1,3,7,15,31,63,127,255,511,1023,63,2111,6207,14399,32767,63,131071,262143] [⟨0,false,[]⟩,⟨1,false,[]⟩,⟨2,false,[]⟩,⟨3,false,[0]⟩,⟨4,false,[]⟩,⟨5,false,[]⟩,⟨6,false,[]⟩,⟨7,false,[]⟩,⟨8,false,[]⟩,⟨9,false,[0]⟩,⟨10,false,[]⟩,⟨11,false,[]⟩,⟨12,false,[]⟩,⟨13,false,[]⟩,⟨14,false,[0]⟩,⟨15,false,[]⟩,⟨16,false,[]⟩,⟨17,false,[]⟩,⟨18,false,[]⟩] rfl (by kernel_rfl) fun K hK => ?_
       simp [planW,chkW,hq,-alen,hlen,w1]
       apply hK; clear hK K; simp only [onNormal,onExit]
       (repeat refine AWP.seq ?_); refine AWP.cond (b:=true) (by simp [hlt]) ?_; simp only [if_true,if_false,Bool.false_eq_true]
       (repeat refine AWP.seq ?_)
       refine AWP.region_last hcall rfl fun K hK => ?_
       simp [hq]
       apply hK; clear hK K; simp only [onNormal,onExit]
       (repeat refine AWP.seq ?_)
       refine AWP.region_last hcall rfl fun K hK => ?_
       simp [hq]
       apply hK; clear hK K; simp only [onNormal,onExit]
       (repeat refine AWP.seq ?_); refine AWP.cond (b:=true) (by simp) ?_; simp only [if_true,if_false,Bool.false_eq_true]
       (repeat refine AWP.seq ?_)
       refine AWP.region_last hcall rfl fun K hK => ?_
       simp
       apply hK; clear hK K; simp only [onNormal,onExit]
       (try refine AWP.ret ?_); (try simp only [onNormal,onExit]); refine ⟨by simp,⟨_,rfl,by simp [ares1]⟩,fun k row hk => ?_⟩
       simpa using hk
      ·(repeat refine AWP.seq ?_)
       refine AWP.draw_last rfl hcall [0,1,3,7,15,31,63,127,255,511,1023,63,2111,6207,14399,32767,63,131071,262143] [⟨0,false,[]⟩,⟨1,false,[]⟩,⟨2,false,[]⟩,⟨3,false,[0]⟩,⟨4,false,[]⟩,⟨5,false,[]⟩,⟨6,false,[]⟩,⟨7,false,[]⟩,⟨8,false,[]⟩,⟨9,false,[0]⟩,⟨10,false,[]⟩,⟨11,false,[]⟩,⟨12,false,[]⟩,⟨13,false,[]⟩,⟨14,false,[0]⟩,⟨15,false,[]⟩,⟨16,false,[]⟩,⟨17,false,[]⟩,⟨18,false,[]⟩] rfl (by kernel_rfl) fun K hK => ?_
       simp [planW,chkW,hq,-alen,hlen,w1,he]
       apply hK; clear hK K; simp only [onNormal,onExit]
       (repeat refine AWP.seq ?_); refine AWP.cond (b:=false) (by simp) ?_; simp only [if_true,if_false,Bool.false_eq_true]
       refine AWP.skip ?_; simp only [onNormal,onExit]
       (repeat refine AWP.seq ?_)
       refine AWP.region_last hcall rfl fun K hK => ?_
       simp [hq]
       apply hK; clear hK K; simp only [onNormal,onExit]
       (repeat refine AWP.seq ?_); refine AWP.cond (b:=true) (by simp [he]) ?_; simp only [if_true,if_false,Bool.false_eq_true]
       (repeat refine AWP.seq ?_)
       refine AWP.region_last hcall rfl fun K hK => ?_
       simp
       apply hK; clear hK K; simp only [onNormal,onExit]
       (try refine AWP.ret ?_); (try simp only [onNormal,onExit]); refine ⟨by simp,⟨_,rfl,by simp [ares1]⟩,fun k row hk => ?_⟩
       by_cases e1 : k = q
       ·subst e1; simpa [he,hq] using hk
       ·simpa [e1] using hk
     ·rename_i hgood
      split at h
      ·rename_i x hx
       cases h
       have he : e = 0:=by
        by_cases h : e = 0
        ·exact h
        ·exact absurd (.inl h) hgood
       have hlt : ¬ len - a < k:=fun h => hgood (.inr h)
       subst he
       refine sim_go Tryz.func293 rfl rfl (Nat.le_of_ble_eq_true rfl) fun hH => ?_
       (repeat refine AWP.seq ?_)
       refine AWP.region_last hcall rfl fun K hK => ?_
       simp
       apply hK; clear hK K; simp only [onNormal,onExit]
       (repeat refine AWP.seq ?_)
       refine AWP.draw_last rfl hcall [0,1,3,7,15,31,63,127,255,511,1023,63,2111,6207,14399,32767,63,131071,262143] [⟨0,false,[]⟩,⟨1,false,[]⟩,⟨2,false,[]⟩,⟨3,false,[0]⟩,⟨4,false,[]⟩,⟨5,false,[]⟩,⟨6,false,[]⟩,⟨7,false,[]⟩,⟨8,false,[]⟩,⟨9,false,[0]⟩,⟨10,false,[]⟩,⟨11,false,[]⟩,⟨12,false,[]⟩,⟨13,false,[]⟩,⟨14,false,[0]⟩,⟨15,false,[]⟩,⟨16,false,[]⟩,⟨17,false,[]⟩,⟨18,false,[]⟩] rfl (by kernel_rfl) fun K hK => ?_
       simp [planW,chkW,hq,-alen,hlen,w1,hlt]
       apply hK; clear hK K; simp only [onNormal,onExit]
       (repeat refine AWP.seq ?_); refine AWP.cond (b:=false) (by simp [hlt]) ?_; simp only [if_true,if_false,Bool.false_eq_true]
       refine AWP.skip ?_; simp only [onNormal,onExit]
       (repeat refine AWP.seq ?_)
       refine AWP.region_last hcall rfl fun K hK => ?_
       simp [hq]
       apply hK; clear hK K; simp only [onNormal,onExit]
       (repeat refine AWP.seq ?_); refine AWP.cond (b:=false) (by simp) ?_; simp only [if_true,if_false,Bool.false_eq_true]
       refine AWP.skip ?_; simp only [onNormal,onExit]
       (repeat refine AWP.seq ?_)
       refine AWP.region_last hcall rfl fun K hK => ?_
       simp [hq,w2]
       apply hK; clear hK K; simp only [onNormal,onExit]
       (repeat refine AWP.seq ?_)
       refine AWP.draw_last rfl hcall [0,1,3,7,0,16,48,112,0,496,0,1024,3072,7168,16383,32767] [⟨0,false,[]⟩,⟨1,false,[]⟩,⟨2,false,[]⟩,⟨3,false,[0]⟩,⟨4,false,[]⟩,⟨5,false,[]⟩,⟨6,false,[]⟩,⟨7,false,[0]⟩,⟨8,false,[]⟩,⟨9,false,[]⟩,⟨10,false,[]⟩,⟨11,false,[]⟩,⟨12,false,[]⟩,⟨13,false,[0]⟩,⟨14,false,[0]⟩,⟨15,false,[]⟩] rfl (by kernel_rfl) fun K hK => ?_
       simp [planW,chkW,hq,-aslice,w2,w3,w4,w5,hx]
       apply hK; clear hK K; simp only [onNormal,onExit]
       (try refine AWP.ret ?_); (try simp only [onNormal,onExit]); refine ⟨by simp,⟨_,rfl,by simp [ares1]⟩,fun k row hk => ?_⟩
       simpa using hk
      ·cases h
    ·cases h
   ·cases h
  ·cases h
 ·cases h
end Go.Proofs.YtbllpnjappddeaaGreat.Den
end
section
set_option linter.unusedSimpArgs false
set_option linter.unusedVariables false
set_option maxRecDepth 100000
namespace Go.Proofs.YtbllpnjappddeaaGreat.Den
open Go.RowKit
attribute [local simp] runList aop abuiltin acall awanted ayielded env T0 tput tset Ran aload astore setMany upd binV aslice aindexAddr apart aindex alen acopy srcCells natOf boundOf aeq AV.nilEq convV appK fillA List.range List.range.loop onF isU8 rowOf
theorem part_keep {H : AHeap} {q : Name} {d : AV} {len : Nat} {cells : List AV} {l : List UInt8} {a e : Int} {row' : List AV} (hq : H q = some [d,vi a,vi e]) (hr : row'.length = 3) (h : partC H 1 d = some (len,cells)) (hb : bytesA cells = some l) :
  partC (upd H q (some row')) 1 d = some (len,cells):=by
 unfold partC at h ⊢
 split at h
 ·exact h
 ·rename_i n off k s
  split at h
  ·rename_i hs
   subst hs
   by_cases hn : n = q
   ·subst hn
    simp only [hq,Option.bind_some] at h
    split at h
    ·rename_i ho
     simp only [Option.some.injEq,Prod.mk.injEq] at h
     obtain ⟨rfl,rfl⟩:=h
     have hc:=bytesA_some hb
     cases l with
     | nil =>
      have hk : k = 0:=by
       have:=congrArg List.length hc
       simp only [List.length_take,List.length_drop,bs,List.map_nil,List.length_nil] at this
       simp only [List.length_cons,List.length_nil] at ho this
       omega
      subst hk
      simp only [upd_same,Option.bind_some,if_true]
      rw [if_pos (by simp only [List.length_cons,List.length_nil] at ho; omega)]
      simp
     | cons b l =>
      have hx : (AV.val (.int .u8 (b.toNat : Int))) ∈ ([.sl n off k 1,vi a,vi e] : List AV):=by
       have h0 : (AV.val (.int .u8 (b.toNat : Int))) ∈ List.take (k * 1) (List.drop off [.sl n off k 1,vi a,vi e]):=by rw [hc]; simp [bs]
       exact List.mem_of_mem_drop (List.mem_of_mem_take h0)
      simp [vi] at hx
    ·cases h
   ·simp only [upd_ne _ _ hn,if_true]; exact h
  ·cases h
 ·exact h
 ·cases h
theorem slice_data {H : AHeap} {d : AV} {len a k : Nat} {cells : List AV} (h : partC H 1 d = some (len,cells)) (hk : 0 < k) (ha : a + k <= len) :
  ∃ x,aslice Tryz.prog 72 d (some (vi a)) (some (vi ((a : Int) + k))) H = some x /\ elems H 1 x = some (k,(cells.drop a).take k):=by
 have e0 : ((a : Int) + k).toNat = a + k:=by omega
 have e1 : ¬ ((a : Int) + k < 0):=by omega
 have e2 : (0 : Int) <= (a : Int) + k:=by omega
 unfold partC at h
 split at h
 ·cases h; omega
 ·rename_i n off m s
  split at h
  ·rename_i hs
   subst hs
   simp only [Option.bind_eq_some_iff] at h
   obtain ⟨row,h1,h2⟩:=h
   split at h2
   ·rename_i ho
    simp only [Option.some.injEq,Prod.mk.injEq] at h2
    obtain ⟨rfl,rfl⟩:=h2
    by_cases h0 : a = 0
    ·subst h0
     refine ⟨.sl n off k 1,?_,?_⟩
     ·simp [e0,e1,e2]; omega
     ·simp [elems,hk,h1,List.take_take]
      omega
    ·refine ⟨.sl n (off + a) k 1,?_,?_⟩
     ·simp [e0,e1,e2,h0]; omega
     ·simp [elems,hk,h1,List.drop_take,List.take_take]
      omega
   ·cases h2
  ·cases h
 ·rename_i m n c
  split at h
  ·rename_i hc
   cases h
   refine ⟨.im m k ((cells.drop a).take k),?_,?_⟩
   ·simp [e0,e1,e2]; omega
   ·simp [elems,hk]; omega
  ·cases h
 ·cases h
noncomputable def num1S (k : Nat) : Spec:=fun args nm H =>
 match args with
 | [.ptr q 0] =>
  match H q with
  | some [d,.val (.int .i64 a),.val (.int .i64 e)] =>
   match partC H 1 d with
   | some (len,cells) =>
    match bytesA cells with
    | some l =>
     if 0 <= a /\ a <= len /\ len <= 1152921504606846976 then
      if e ≠ 0 \/ (len : Int) - a < k then some (vi 0,upd H q (some [d,vi a,vi (if e = 0 then 8 else e)]))
      else some (vi (IntKind.i64.wrap (le ((l.drop a.toNat).take k))),upd H q (some [d,vi (a + k),vi 0]))
     else none
    | none => none
   | none => none
  | _ => none
 | _ => none
theorem r3und70' : Tryz.prog.underlying 72 = some (.slice 5):=by kernel_rfl
theorem take1_num {q : Name} {d : AV} {a e : Int} {len k : Nat} {cells : List AV} {l : List UInt8} {H : AHeap} (hq : H q = some [d,vi a,vi e]) (hp : partC H 1 d = some (len,cells)) (hb : bytesA cells = some l) (h1 : 0 <= a) (h2 : a <= len) (h3 : len <= 1152921504606846976) (hk : 0 < k) (hk2 : k <= 1152921504606846976) :
  if e ≠ 0 \/ (len : Int) - a < k then ∀ nm,take1S [.ptr q 0,vi k] nm H = some (vnil,upd H q (some [d,vi a,vi (if e = 0 then 8 else e)]))
  else ∃ x,elems (upd H q (some [d,vi (a + k),vi 0])) 1 x = some (k,bs ((l.drop a.toNat).take k)) /\ ∀ nm,take1S [.ptr q 0,vi k] nm H = some (x,upd H q (some [d,vi (a + k),vi 0])):=by
 have hlen:=part_len hp r3und70'
 split
 ·rename_i hbad
  intro nm
  simp only [take1S,hq,hlen]
  rw [if_pos ⟨by omega,h1,h2,by omega,by omega⟩,if_pos hbad]
 ·rename_i hgood
  have hg : a + k <= len:=by
   have : ¬ ((len : Int) - a < k):=fun h => hgood (.inr h)
   omega
  obtain ⟨a',rfl⟩:=Int.eq_ofNat_of_zero_le h1
  have hp':=part_keep (row':=[d,vi ((a' : Int) + k),vi 0]) hq rfl hp hb
  obtain ⟨x,x1,x2⟩:=slice_data (a:=a') (k:=k) hp' hk (by omega)
  refine ⟨x,?_,fun nm => ?_⟩
  ·rw [x2,bytesA_some hb,bs_drop,bs_take]; simp
  ·simp only [take1S,hq,hlen]
   rw [if_pos ⟨by omega,h1,h2,by omega,by omega⟩,if_neg hgood,x1]
end Go.Proofs.YtbllpnjappddeaaGreat.Den
end
section
set_option linter.unusedSimpArgs false
set_option linter.unusedVariables false
set_option maxRecDepth 100000
namespace Go.Proofs.YtbllpnjappddeaaGreat.Den
open Go.RowKit
attribute [local simp] runList aop abuiltin acall awanted ayielded env T0 tput tset Ran aload astore setMany upd binV aslice aindexAddr apart aindex alen acopy srcCells natOf boundOf aeq AV.nilEq convV appK fillA List.range List.range.loop onF isU8 rowOf
theorem elems_part {H : AHeap} {sz : Nat} {x : AV} {k : Nat} {c : List AV} (h : elems H sz x = some (k,c)) : partC H sz x = some (k,c):=by
 unfold elems at h
 split at h
 ·split at h
  ·rename_i hc
   rw [partC_sl,if_pos hc.1]; exact h
  ·cases h
 ·split at h
  ·rename_i hc
   rw [partC_im,if_pos hc.2]; exact h
  ·cases h
 ·cases h
theorem index_data {H : AHeap} {x : AV} {k i : Nat} {c : List AV} (h : elems H 1 x = some (k,c)) (hi : i < k) : ∃ p,aindexAddr Tryz.prog 72 x (vi i) = some p /\ aload Tryz.prog 5 p H = c[i]?:=by
 unfold elems at h
 split at h
 ·rename_i n off m s
  split at h
  ·rename_i hc
   obtain ⟨rfl,hm⟩:=hc
   simp only [Option.bind_eq_some_iff] at h
   obtain ⟨row,h1,h2⟩:=h
   split at h2
   ·simp only [Option.some.injEq,Prod.mk.injEq] at h2
    obtain ⟨rfl,rfl⟩:=h2
    refine ⟨.ptr n (off + i),?_,?_⟩
    ·simp [hi]
    ·simp [h1,hi,List.getElem?_take,List.getElem?_drop]
   ·cases h2
  ·cases h
 ·rename_i m n cells
  split at h
  ·rename_i hc
   cases h
   refine ⟨.imp m c i,?_,?_⟩
   ·simp [hi,hc.2]
   ·simp
  ·cases h
 ·cases h
set_option maxHeartbeats 400000 in
theorem byte1_ok : FnOK Tryz.prog 215 (num1S 1):=by
 refine ⟨by kernel_rfl,fun args nm H r H' h => ?_⟩
 have hcall:=onF_ok take1_ok (@noCall_ok Tryz.prog)
 unfold num1S at h
 split at h
 ·rename_i q
  split at h
  ·rename_i d a e hq
   split at h
   ·rename_i len cells hp
    split at h
    ·rename_i l hb
     split at h
     ·rename_i hc
      obtain ⟨c1,c2,c3⟩:=hc
      have ht:=take1_num (k:=1) hq hp hb c1 c2 c3 (by omega) (by omega)
      split at h
      ·rename_i hbad
       cases h
       rw [if_pos hbad] at ht
       refine sim_go Tryz.func215 rfl rfl (Nat.le_of_ble_eq_true rfl) fun hH => ?_
       have ht' : ∀ nm,take1S [.ptr q 0,.val (.int .i64 1)] nm H = _:=ht
       (repeat refine AWP.seq ?_)
       refine AWP.region_last hcall rfl fun K hK => ?_
       simp
       apply hK; clear hK K; simp only [onNormal,onExit]
       (repeat refine AWP.seq ?_)
       refine AWP.region_last hcall rfl fun K hK => ?_
       simp [ht']
       apply hK; clear hK K; simp only [onNormal,onExit]
       (repeat refine AWP.seq ?_)
       refine AWP.region_last hcall rfl fun K hK => ?_
       simp
       apply hK; clear hK K; simp only [onNormal,onExit]
       (repeat refine AWP.seq ?_); refine AWP.cond (b:=true) (by simp) ?_; simp only [if_true,if_false,Bool.false_eq_true]
       (repeat refine AWP.seq ?_)
       refine AWP.region_last hcall rfl fun K hK => ?_
       simp
       apply hK; clear hK K; simp only [onNormal,onExit]
       (try refine AWP.ret ?_); (try simp only [onNormal,onExit]); refine ⟨by simp,⟨_,rfl,by simp [ares1]⟩,fun k row hk => ?_⟩
       exact hk
      ·rename_i hgood
       cases h
       rw [if_neg hgood] at ht
       obtain ⟨x,x1,x2⟩:=ht
       have x2' : ∀ nm,take1S [.ptr q 0,.val (.int .i64 1)] nm H = _:=x2
       have hl:=part_len (elems_part x1) r3und70'
       have hll : l.length = len:=by have:=part_length hp; rw [bytesA_some hb] at this; simpa using this
       obtain ⟨a,rfl⟩:=Int.eq_ofNat_of_zero_le c1
       have hal : a < l.length:=by
        have : ¬ ((len : Int) - a < 1):=fun h => hgood (.inr h)
        omega
       obtain ⟨p,p1,p2⟩:=index_data (i:=0) x1 (by omega)
       have hdr : (l.drop a).take 1 = [l[a]]:=by
        rw [List.drop_eq_getElem_cons hal]; rfl
       simp only [Int.toNat_natCast,hdr] at p2 ⊢
       have hlt:=(l[a]).toNat_lt
       have hw : IntKind.i64.wrap ((l[a]).toNat : Int) = (l[a]).toNat:=by rw [IntKind.wrap_i64]; omega
       have hle : le [l[a]] = (l[a]).toNat:=by simp [le]
       have p1' : aindexAddr Tryz.prog 72 x (.val (.int .i64 0)) = some p:=p1
       have p2' : aload Tryz.prog 5 p (upd H q (some [d,vi ((a : Int) + 1),vi 0])) = some (.val (.int .u8 ((l[a]).toNat : Int))):=by
        simpa [bs] using p2
       refine sim_go Tryz.func215 rfl rfl (Nat.le_of_ble_eq_true rfl) fun hH => ?_
       (repeat refine AWP.seq ?_)
       refine AWP.region_last hcall rfl fun K hK => ?_
       simp
       apply hK; clear hK K; simp only [onNormal,onExit]
       (repeat refine AWP.seq ?_)
       refine AWP.region_last hcall rfl fun K hK => ?_
       simp [x2']
       apply hK; clear hK K; simp only [onNormal,onExit]
       (repeat refine AWP.seq ?_)
       refine AWP.region_last hcall rfl fun K hK => ?_
       simp [-alen,hl]
       apply hK; clear hK K; simp only [onNormal,onExit]
       (repeat refine AWP.seq ?_); refine AWP.cond (b:=false) (by simp) ?_; simp only [if_true,if_false,Bool.false_eq_true]
       refine AWP.skip ?_; simp only [onNormal,onExit]
       (repeat refine AWP.seq ?_)
       refine AWP.region_last hcall rfl fun K hK => ?_
       simp [-aindexAddr,-aload,p1',p2',hw]
       apply hK; clear hK K; simp only [onNormal,onExit]
       (try refine AWP.ret ?_); (try simp only [onNormal,onExit]); refine ⟨by simp,⟨_,rfl,by simp [ares1,hle,hw]⟩,fun k row hk => ?_⟩
       simpa using hk
     ·cases h
    ·cases h
   ·cases h
  ·cases h
 ·cases h
end Go.Proofs.YtbllpnjappddeaaGreat.Den
end
section
set_option linter.unusedSimpArgs false
set_option linter.unusedVariables false
set_option maxRecDepth 100000
namespace Go.Proofs.YtbllpnjappddeaaGreat.Den
open Go.RowKit
attribute [local simp] runList aop abuiltin acall awanted ayielded env T0 tput tset Ran aload astore setMany upd binV aslice aindexAddr apart aindex alen acopy srcCells natOf boundOf aeq AV.nilEq convV appK fillA List.range List.range.loop onF isU8 rowOf
theorem or_low' (v b : Nat) (hv : v < 2 ^ 56) (hb : b < 256) : IntKind.u64.wrap ((((v : Int) * 256 % 2 ^ IntKind.u64.bits).toNat ||| (b % 2 ^ IntKind.u64.bits) : Nat) : Int) = (b : Int) + 256 * (v : Int):=by
 have e1 : ((v : Int) * 256 % 2 ^ IntKind.u64.bits).toNat = v * 256:=by
  show ((v : Int) * 256 % 2 ^ 64).toNat = _
  omega
 have e2 : b % 2 ^ IntKind.u64.bits = b:=by
  show b % 2 ^ 64 = b
  omega
 have:=or_high b v 8 (by omega)
 simp only [show (2 : Nat) ^ 8 = 256 from rfl] at this
 rw [e1,e2,Nat.or_comm,this,IntKind.wrap_u64]
 omega
set_option maxHeartbeats 1000000 in
theorem int1_ok : FnOK Tryz.prog 213 (num1S 8):=by
 refine ⟨by kernel_rfl,fun args nm H r H' h => ?_⟩
 have hcall:=onF_ok take1_ok (@noCall_ok Tryz.prog)
 unfold num1S at h
 split at h
 ·rename_i q
  split at h
  ·rename_i d a e hq
   split at h
   ·rename_i len cells hp
    split at h
    ·rename_i l hb
     split at h
     ·rename_i hc
      obtain ⟨c1,c2,c3⟩:=hc
      have ht:=take1_num (k:=8) hq hp hb c1 c2 c3 (by omega) (by omega)
      split at h
      ·rename_i hbad
       cases h
       rw [if_pos hbad] at ht
       have ht' : ∀ nm,take1S [.ptr q 0,.val (.int .i64 8)] nm H = _:=ht
       refine sim_go Tryz.func213 rfl rfl (Nat.le_of_ble_eq_true rfl) fun hH => ?_
       (repeat refine AWP.seq ?_)
       refine AWP.region_last hcall rfl fun K hK => ?_
       simp
       apply hK; clear hK K; simp only [onNormal,onExit]
       (repeat refine AWP.seq ?_)
       refine AWP.region_last hcall rfl fun K hK => ?_
       simp
       apply hK; clear hK K; simp only [onNormal,onExit]
       (repeat refine AWP.seq ?_)
       refine AWP.region_last hcall rfl fun K hK => ?_
       simp [ht']
       apply hK; clear hK K; simp only [onNormal,onExit]
       (repeat refine AWP.seq ?_)
       refine AWP.region_last hcall rfl fun K hK => ?_
       simp
       apply hK; clear hK K; simp only [onNormal,onExit]
       (repeat refine AWP.seq ?_); refine AWP.block ?_
       refine AWP.loop (fun _ _ T H1 => T 5 = vi (-1) /\ T 3 = .val (.int .u64 0) /\ H1 = upd H q (some [d,vi a,vi (if e = 0 then 8 else e)])) 0 (by simp [IntKind.wrap_i64]) ?_
       rintro _ c T H1 ⟨t5,t3,rfl⟩
       (repeat refine AWP.seq ?_)
       refine AWP.region_last hcall rfl fun K hK => ?_
       simp [t5]
       apply hK; clear hK K; simp only [onNormal,onExit]
       (repeat refine AWP.seq ?_); refine AWP.cond (b:=false) (by simp) ?_; simp only [if_true,if_false,Bool.false_eq_true]
       refine AWP.exit ?_; simp only [onNormal,onExit,if_true,reduceCtorEq,if_false]
       (repeat refine AWP.seq ?_)
       refine AWP.region_last hcall rfl fun K hK => ?_
       simp [t3]
       apply hK; clear hK K; simp only [onNormal,onExit]
       (try refine AWP.ret ?_); (try simp only [onNormal,onExit]); refine ⟨by simp,⟨_,rfl,by simp [ares1,IntKind.wrap_i64]⟩,fun k row hk => ?_⟩
       exact hk
      ·rename_i hgood
       cases h
       rw [if_neg hgood] at ht
       obtain ⟨x,x1,x2⟩:=ht
       have x2' : ∀ nm,take1S [.ptr q 0,.val (.int .i64 8)] nm H = _:=x2
       have hl:=part_len (elems_part x1) r3und70'
       have hll : l.length = len:=by have:=part_length hp; rw [bytesA_some hb] at this; simpa using this
       obtain ⟨a,rfl⟩:=Int.eq_ofNat_of_zero_le c1
       have hal : a + 8 <= l.length:=by
        have : ¬ ((len : Int) - a < 8):=fun h => hgood (.inr h)
        omega
       simp only [Int.toNat_natCast] at x1 ⊢
       obtain ⟨bl,hbl⟩ : ∃ bl,bl = (l.drop a).take 8:=⟨_,rfl⟩
       have hbl8 : bl.length = 8:=by rw [hbl,List.length_take,List.length_drop]; omega
       rw [<- hbl] at x1 ⊢
       have hw7 : IntKind.i64.wrap (((8 : Nat) : Int) - 1) = 7:=by rw [IntKind.wrap_i64]; omega
       refine sim_go Tryz.func213 rfl rfl (Nat.le_of_ble_eq_true rfl) fun hH => ?_
       (repeat refine AWP.seq ?_)
       refine AWP.region_last hcall rfl fun K hK => ?_
       simp
       apply hK; clear hK K; simp only [onNormal,onExit]
       (repeat refine AWP.seq ?_)
       refine AWP.region_last hcall rfl fun K hK => ?_
       simp
       apply hK; clear hK K; simp only [onNormal,onExit]
       (repeat refine AWP.seq ?_)
       refine AWP.region_last hcall rfl fun K hK => ?_
       simp [x2']
       apply hK; clear hK K; simp only [onNormal,onExit]
       (repeat refine AWP.seq ?_)
       refine AWP.region_last hcall rfl fun K hK => ?_
       simp [-alen,hl,hw7]
       apply hK; clear hK K; simp only [onNormal,onExit]
       (repeat refine AWP.seq ?_); refine AWP.block ?_
       refine AWP.loop (fun m _ T H1 => m <= 8 /\ T 5 = vi ((m : Int) - 1) /\ T 4 = x /\ T 3 = .val (.int .u64 (le (bl.drop m))) /\ H1 = upd H q (some [d,vi ((a : Int) + 8),vi 0])) 8 ?_ ?_
       ·refine ⟨by omega,by simp [IntKind.wrap_i64],by simp,?_,by simp⟩
        rw [List.drop_eq_nil_of_le (by omega)]; simp [le]
       rintro m c T H1 ⟨hm,t5,t4,t3,rfl⟩
       cases m with
       | zero =>
        have t5' : T 5 = vi (-1):=by rw [t5]; rfl
        clear t5
        (repeat refine AWP.seq ?_)
        refine AWP.region_last hcall rfl fun K hK => ?_
        simp [t5']
        apply hK; clear hK K; simp only [onNormal,onExit]
        (repeat refine AWP.seq ?_); refine AWP.cond (b:=false) (by simp) ?_; simp only [if_true,if_false,Bool.false_eq_true]
        refine AWP.exit ?_; simp only [onNormal,onExit,if_true,reduceCtorEq,if_false]
        simp only [List.drop_zero] at t3
        (repeat refine AWP.seq ?_)
        refine AWP.region_last hcall rfl fun K hK => ?_
        simp [t3]
        apply hK; clear hK K; simp only [onNormal,onExit]
        (try refine AWP.ret ?_); (try simp only [onNormal,onExit]); refine ⟨by simp,⟨_,rfl,by simp [ares1]⟩,fun k row hk => ?_⟩
        simpa using hk
       | succ j =>
        have t5' : T 5 = vi (j : Int):=by rw [t5]; congr 3; omega
        clear t5
        (repeat refine AWP.seq ?_)
        refine AWP.region_last hcall rfl fun K hK => ?_
        simp [t5']
        apply hK; clear hK K; simp only [onNormal,onExit]
        (repeat refine AWP.seq ?_); refine AWP.cond (b:=true) (by simp) ?_; simp only [if_true,if_false,Bool.false_eq_true]
        refine AWP.skip ?_; simp only [onNormal,onExit]
        (repeat refine AWP.seq ?_); refine AWP.block ?_
        obtain ⟨p,p1,p2⟩:=index_data (i:=j) x1 (by omega)
        have hj : j < bl.length:=by omega
        have p2' : aload Tryz.prog 5 p (upd H q (some [d,vi ((a : Int) + 8),vi 0])) = some (.val (.int .u8 ((bl[j]).toNat : Int))):=by
         have:=p2
         simp only [bs,List.getElem?_map,List.getElem?_eq_getElem hj,Option.map_some] at this
         exact this
        have hlt:=(bl[j]).toNat_lt
        have hv : le (bl.drop (j + 1)) < 2 ^ 56:=by
         refine Nat.lt_of_lt_of_le (le_lt _) ?_
         rw [List.length_drop,hbl8]
         calc 256 ^ (8 - (j + 1)) <= 256 ^ 7:=Nat.pow_le_pow_right (by decide) (by omega)
          _ = 2 ^ 56:=by decide
        have hw1 : IntKind.u64.wrap ((le (bl.drop (j + 1)) : Int) * 256) = (le (bl.drop (j + 1)) : Int) * 256:=by rw [IntKind.wrap_u64]; omega
        have hw2 : IntKind.u64.wrap ((bl[j]).toNat : Int) = (bl[j]).toNat:=by rw [IntKind.wrap_u64]; omega
        have hor:=or_low' (le (bl.drop (j + 1))) (bl[j]).toNat hv hlt
        have hle : le (bl.drop j) = (bl[j]).toNat + 256 * le (bl.drop (j + 1)):=by
         rw [List.drop_eq_getElem_cons hj]; rfl
        have hmin : min 8 IntKind.u64.bits = 8:=by decide
        have hwj : IntKind.i64.wrap ((j : Int) - 1) = (j : Int) - 1:=by rw [IntKind.wrap_i64]; omega
        (repeat refine AWP.seq ?_)
        refine AWP.region_last hcall rfl fun K hK => ?_
        simp [-aindexAddr,-aload,t3,t4,t5',p1,p2',hw1,hw2,hmin]
        apply hK; clear hK K; simp only [onNormal,onExit]
        (repeat refine AWP.seq ?_)
        refine AWP.region_last hcall rfl fun K hK => ?_
        simp [t5',hwj]
        apply hK; clear hK K; simp only [onNormal,onExit]
        refine ⟨j,by omega,by omega,by simp,by simp [t4],?_,by trivial⟩
        simp [hle,hor]
     ·cases h
    ·cases h
   ·cases h
  ·cases h
 ·cases h
end Go.Proofs.YtbllpnjappddeaaGreat.Den
end
section
set_option linter.unusedSimpArgs false
set_option linter.unusedVariables false
set_option maxRecDepth 100000
namespace Go.Proofs.YtbllpnjappddeaaGreat.Den
open Go.RowKit
attribute [local simp] runList aop abuiltin acall awanted ayielded env T0 tput tset Ran aload astore setMany upd binV aslice aindexAddr apart aindex alen acopy srcCells natOf boundOf aeq AV.nilEq convV appK fillA List.range List.range.loop onF isU8 rowOf
end Go.Proofs.YtbllpnjappddeaaGreat.Den
end
section
set_option linter.unusedSimpArgs false
set_option linter.unusedVariables false
set_option maxRecDepth 100000
namespace Go.Proofs.YtbllpnjappddeaaGreat.Den
open Go.RowKit
attribute [local simp] runList aop abuiltin acall awanted ayielded env T0 tput tset Ran aload astore setMany upd binV aslice aindexAddr apart aindex alen acopy srcCells natOf boundOf aeq AV.nilEq convV appK fillA List.range List.range.loop onF isU8 rowOf
noncomputable def text1S : Spec:=fun args nm H =>
 match args with
 | [.ptr q 0] =>
  match H q with
  | some [d,.val (.int .i64 a),.val (.int .i64 e)] =>
   match partC H 1 d with
   | some (len,cells) =>
    match bytesA cells with
    | some l =>
     if 0 <= a /\ a <= len /\ len <= 1152921504606846976 /\ e = 0 then
      match l.drop a.toNat with
      | x :: y :: r =>
       if 0 < x.toNat + 256 * y.toNat /\ x.toNat + 256 * y.toNat <= r.length then
        some (.val (.string ⟨(r.take (x.toNat + 256 * y.toNat)).toArray⟩),upd H q (some [d,vi (a + (2 + (x.toNat + 256 * y.toNat : Nat))),vi 0]))
       else none
      | _ => none
     else none
    | none => none
   | none => none
  | _ => none
 | _ => none
theorem elems_shape {H : AHeap} {sz : Nat} {x : AV} {k : Nat} {c : List AV} (h : elems H sz x = some (k,c)) : (∃ n o l z,x = .sl n o l z) \/ ∃ m l c,x = .im m l c:=by
 unfold elems at h
 split at h
 ·exact .inl ⟨_,_,_,_,rfl⟩
 ·exact .inr ⟨_,_,_,rfl⟩
 ·cases h
set_option maxHeartbeats 1000000 in
theorem text1_ok : FnOK Tryz.prog 220 text1S:=by
 refine ⟨by kernel_rfl,fun args nm H r H' h => ?_⟩
 have hcall:=onF_ok take1_ok (@noCall_ok Tryz.prog)
 unfold text1S at h
 split at h
 ·rename_i q
  split at h
  ·rename_i d a e hq
   split at h
   ·rename_i len cells hp
    split at h
    ·rename_i l hb
     split at h
     ·rename_i hc
      obtain ⟨c1,c2,c3,rfl⟩:=hc
      split at h
      ·rename_i u v r hl
       split at h
       ·rename_i hn
        cases h
        obtain ⟨n,hnn⟩ : ∃ n,n = u.toNat + 256 * v.toNat:=⟨_,rfl⟩
        rw [<- hnn] at hn ⊢
        have hll : l.length = len:=by have:=part_length hp; rw [bytesA_some hb] at this; simpa using this
        obtain ⟨a,rfl⟩:=Int.eq_ofNat_of_zero_le c1
        simp only [Int.toNat_natCast] at hl
        have hlr : l.length - a = r.length + 2:=by
         have:=congrArg List.length hl
         simpa using this
        have ht:=take1_num (k:=2) hq hp hb c1 c2 c3 (by omega) (by omega)
        rw [if_neg (by rintro (h | h); exact h rfl; omega)] at ht
        obtain ⟨x,x1,x2⟩:=ht
        simp only [Int.toNat_natCast,hl,List.take_succ_cons,List.take_zero] at x1
        have hp2:=part_keep (row':=[d,vi ((a : Int) + 2),vi 0]) hq rfl hp hb
        have ht:=take1_num (q:=q) (d:=d) (a:=(a : Int) + 2) (e:=0) (k:=n) (H:=upd H q (some [d,vi ((a : Int) + 2),vi 0])) (by simp) hp2 hb (by omega) (by omega) c3 (by omega) (by omega)
        rw [if_neg (by rintro (h | h); exact h rfl; omega)] at ht
        obtain ⟨y,y1,y2⟩:=ht
        have hdr : (l.drop ((a : Int) + 2).toNat).take n = r.take n:=by
         have : ((a : Int) + 2).toNat = a + 2:=by omega
         rw [this,<- List.drop_drop,hl]; rfl
        rw [hdr] at y1
        have hlx:=part_len (elems_part x1) r3und70'
        obtain ⟨p0,p1,p2⟩:=index_data (i:=0) x1 (by omega)
        obtain ⟨q0,q1,q2⟩:=index_data (i:=1) x1 (by omega)
        have hu:=u.toNat_lt
        have hv:=v.toNat_lt
        have x2' : ∀ nm,take1S [.ptr q 0,.val (.int .i64 2)] nm H = _:=x2
        have y2' : ∀ nm,take1S [.ptr q 0,.val (.int .i64 n)] nm _ = _:=y2
        have p1' : aindexAddr Tryz.prog 72 x (.val (.int .i64 0)) = some p0:=p1
        have q1' : aindexAddr Tryz.prog 72 x (.val (.int .i64 1)) = some q0:=q1
        have p2' : aload Tryz.prog 5 p0 (upd H q (some [d,vi ((a : Int) + 2),vi 0])) = some (.val (.int .u8 (u.toNat : Int))):=p2
        have q2' : aload Tryz.prog 5 q0 (upd H q (some [d,vi ((a : Int) + 2),vi 0])) = some (.val (.int .u8 (v.toNat : Int))):=q2
        have w1 : IntKind.i64.wrap (u.toNat : Int) = u.toNat:=by rw [IntKind.wrap_i64]; omega
        have w2 : IntKind.i64.wrap (v.toNat : Int) = v.toNat:=by rw [IntKind.wrap_i64]; omega
        have w3 : IntKind.i64.wrap (256 * (v.toNat : Int)) = 256 * v.toNat:=by rw [IntKind.wrap_i64]; omega
        have w4 : IntKind.i64.wrap ((u.toNat : Int) + 256 * (v.toNat : Int)) = (n : Int):=by rw [IntKind.wrap_i64]; omega
        have hsrc:=part_src (elems_part y1)
        refine sim_go Tryz.func220 rfl rfl (Nat.le_of_ble_eq_true rfl) fun hH => ?_
        (repeat refine AWP.seq ?_)
        refine AWP.region_last hcall rfl fun K hK => ?_
        simp
        apply hK; clear hK K; simp only [onNormal,onExit]
        (repeat refine AWP.seq ?_)
        refine AWP.region_last hcall rfl fun K hK => ?_
        simp [x2']
        apply hK; clear hK K; simp only [onNormal,onExit]
        (repeat refine AWP.seq ?_)
        refine AWP.region_last hcall rfl fun K hK => ?_
        simp [-alen,hlx]
        apply hK; clear hK K; simp only [onNormal,onExit]
        (repeat refine AWP.seq ?_); refine AWP.cond (b:=false) (by simp) ?_; simp only [if_true,if_false,Bool.false_eq_true]
        refine AWP.skip ?_; simp only [onNormal,onExit]
        rcases elems_shape y1 with ⟨n',o',l',z',rfl⟩ | ⟨m',l',c',rfl⟩
        ·(repeat refine AWP.seq ?_)
         refine AWP.draw_last rfl hcall [0,0,2,6,14,0,32,96,224,480,1022,2047,4095,8191] [⟨0,false,[]⟩,⟨1,false,[]⟩,⟨2,false,[]⟩,⟨3,false,[0]⟩,⟨4,false,[0]⟩,⟨5,false,[]⟩,⟨6,false,[]⟩,⟨7,false,[0]⟩,⟨8,false,[0]⟩,⟨9,false,[]⟩,⟨10,false,[]⟩,⟨11,true,[]⟩,⟨12,false,[12]⟩,⟨13,false,[]⟩] rfl (by kernel_rfl) fun K hK => ?_
         simp [planW,chkW,-aindexAddr,-aload,-srcCells,p1',p2',q1',q2',w1,w2,w3,w4,y2',hsrc,bytesA_bs]
         apply hK; clear hK K; simp only [onNormal,onExit]
         (try refine AWP.ret ?_); (try simp only [onNormal,onExit]); refine ⟨by simp,⟨_,rfl,by simp [ares1]⟩,fun k row hk => ?_⟩
         by_cases e1 : k = q
         ·simpa [Int.add_assoc,e1] using hk
         ·simpa [Int.add_assoc,e1] using hk
        ·(repeat refine AWP.seq ?_)
         refine AWP.draw_last rfl hcall [0,0,2,6,14,0,32,96,224,480,1022,2047,4095,8191] [⟨0,false,[]⟩,⟨1,false,[]⟩,⟨2,false,[]⟩,⟨3,false,[0]⟩,⟨4,false,[0]⟩,⟨5,false,[]⟩,⟨6,false,[]⟩,⟨7,false,[0]⟩,⟨8,false,[0]⟩,⟨9,false,[]⟩,⟨10,false,[]⟩,⟨11,true,[]⟩,⟨12,false,[12]⟩,⟨13,false,[]⟩] rfl (by kernel_rfl) fun K hK => ?_
         simp [planW,chkW,-aindexAddr,-aload,-srcCells,p1',p2',q1',q2',w1,w2,w3,w4,y2',hsrc,bytesA_bs]
         apply hK; clear hK K; simp only [onNormal,onExit]
         (try refine AWP.ret ?_); (try simp only [onNormal,onExit]); refine ⟨by simp,⟨_,rfl,by simp [ares1]⟩,fun k row hk => ?_⟩
         by_cases e1 : k = q
         ·simpa [Int.add_assoc,e1] using hk
         ·simpa [Int.add_assoc,e1] using hk
       ·cases h
      ·cases h
     ·cases h
    ·cases h
   ·cases h
  ·cases h
 ·cases h
end Go.Proofs.YtbllpnjappddeaaGreat.Den
end
section
set_option linter.unusedSimpArgs false
set_option linter.unusedVariables false
set_option maxRecDepth 100000
namespace Go.Proofs.YtbllpnjappddeaaGreat.Den
open Go.RowKit
attribute [local simp] runList aop abuiltin acall awanted ayielded env T0 tput tset Ran aload astore setMany upd binV aslice aindexAddr apart aindex alen acopy srcCells natOf boundOf aeq AV.nilEq convV appK fillA List.range List.range.loop onF isU8 rowOf
theorem gone_sub {H : AHeap} {n : Name} : ∀ k r,upd H n none k = some r -> H k = some r:=fun k r h => by
 by_cases e : k = n
 ·subst e; rw [upd_same] at h; cases h
 ·rwa [upd_ne _ _ e] at h
def putS (b : AV) (l : List UInt8) (nm : Name) (H : AHeap) : Res :=
 match b with
 | .val (.slice none 0 0) => if l.length <= 140737488355328 then some (.sl nm 0 l.length 1,upd H nm (some (bs l))) else none
 | .sl n off len 1 =>
  match H n with
  | some row => if off + len <= row.length /\ len + l.length <= 140737488355328 then some (.sl nm 0 (len + l.length) 1,upd (upd H n none) nm (some ((row.drop off).take len ++ bs l))) else none
  | none => none
 | _ => none
def bytePS : Spec:=fun args nm H =>
 match args with
 | [b,.val (.int .i64 v)] => putS b [UInt8.ofNat (v % 256).toNat] nm H
 | _ => none
set_option maxHeartbeats 400000 in
theorem byteP_ok : FnOK Tryz.prog 326 bytePS:=by
 refine ⟨by kernel_rfl,fun args nm H r H' h => ?_⟩
 have hcall:=@noCall_ok Tryz.prog
 unfold bytePS at h
 split at h
 ·rename_i b v
  have hb : IntKind.u8.wrap v = ((UInt8.ofNat (v % 256).toNat).toNat : Int):=by
   rw [IntKind.wrap_u8]
   simp
   omega
  generalize UInt8.ofNat (v % 256).toNat = c at h hb
  unfold putS at h
  split at h
  ·split at h
   ·cases h
    refine sim_row Tryz.func326 rfl rfl (Nat.le_of_ble_eq_true rfl) fun hH => ?_
    (repeat refine AWP.seq ?_)
    refine AWP.region_last hcall rfl fun K hK => ?_
    simp
    apply hK; clear hK K; simp only [onNormal,onExit]
    (repeat refine AWP.seq ?_)
    refine AWP.region_last hcall rfl fun K hK => ?_
    simp [hb]
    apply hK; clear hK K; simp only [onNormal,onExit]
    (try refine AWP.ret ?_); (try simp only [onNormal,onExit]); refine ⟨by simp,_,rfl,?_,?_,fun k row hk => ?_⟩
    ·exact hH [5]
    ·simp [bs]
    ·refine SubL.out ?_ k row hk; repeat (first | exact SubL.id | refine SubL.set ?_ | refine SubL.gone ?_ | (refine SubL.ex ?_ ?_; · simp; done) | refine SubL.fresh (hH [_]) ?_ | refine SubL.fresh (hH [_,_]) ?_ | (refine SubL.fresh (upd_none (hH [_]) ?_) ?_; · simp; done) | (refine SubL.fresh (upd_none (hH [_,_]) ?_) ?_; · simp; done))
   ·cases h
  ·rename_i n off len
   split at h
   ·rename_i row hn
    split at h
    ·rename_i hc
     cases h
     obtain ⟨h1,h2⟩:=hc
     refine sim_rowB (B:=upd H n none) Tryz.func326 rfl rfl (Nat.le_of_ble_eq_true rfl) gone_sub fun hH => ?_
     have hne : n ≠ 4 :: 0 :: nm:=fun e => by subst e; have:=hH [4]; rw [List.singleton_append] at this; rw [this] at hn; cases hn
     have h2' : len <= 140737488355327:=by simp at h2; omega
     (repeat refine AWP.seq ?_)
     refine AWP.region_last hcall rfl fun K hK => ?_
     simp
     apply hK; clear hK K; simp only [onNormal,onExit]
     (repeat refine AWP.seq ?_)
     refine AWP.region_last hcall rfl fun K hK => ?_
     simp [hb,hn,h1,hne,h2']
     apply hK; clear hK K; simp only [onNormal,onExit]
     (try refine AWP.ret ?_); (try simp only [onNormal,onExit]); refine ⟨by simp,_,rfl,?_,?_,fun k row hk => ?_⟩
     ·exact upd_none (hH [5]) (fun e => by subst e; have:=hH [5]; rw [List.singleton_append] at this; rw [this] at hn; cases hn)
     ·simp [bs]
     ·refine SubL.out ?_ k row hk; repeat (first | exact SubL.id | refine SubL.set ?_ | refine SubL.gone ?_ | (refine SubL.ex ?_ ?_; · simp; done) | refine SubL.fresh (hH [_]) ?_ | refine SubL.fresh (hH [_,_]) ?_ | (refine SubL.fresh (upd_none (hH [_]) ?_) ?_; · simp; done) | (refine SubL.fresh (upd_none (hH [_,_]) ?_) ?_; · simp; done))
    ·cases h
   ·cases h
  ·cases h
 ·cases h
end Go.Proofs.YtbllpnjappddeaaGreat.Den
end
section
set_option linter.unusedSimpArgs false
set_option linter.unusedVariables false
set_option maxRecDepth 100000
namespace Go.Proofs.YtbllpnjappddeaaGreat.Den
open Go.RowKit
attribute [local simp] runList aop abuiltin acall awanted ayielded env T0 tput tset Ran aload astore setMany upd binV aslice aindexAddr apart aindex alen acopy srcCells natOf boundOf aeq AV.nilEq convV appK fillA List.range List.range.loop onF isU8 rowOf
end Go.Proofs.YtbllpnjappddeaaGreat.Den
end
