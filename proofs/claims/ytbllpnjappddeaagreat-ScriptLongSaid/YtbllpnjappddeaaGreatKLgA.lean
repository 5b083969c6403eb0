/- Runs of steps of kind 7 where nothing is to be synced: the contracts, of both sides. -/
import Derived.Test.YtbllpnjappddeaaGreatKLrA
import Derived.Test.YtbllpnjappddeaaGreatKWkT
import Derived.Test.YtbllpnjappddeaaGreatKFloatInt
set_option linter.unusedVariables false
set_option linter.unusedSimpArgs false
set_option maxRecDepth 1000000
namespace Go.Proofs.YtbllpnjappddeaaGreat.Den
open Go Go.RowKit
open FI
@[simp] theorem sz4 : szOf Tryz.prog 4 = some 1:=by kernel_rfl
@[simp] theorem ag4 : aggB Tryz.prog 4 = some false:=by kernel_rfl
@[simp] theorem sz34 : szOf Tryz.prog 34 = some 1:=by kernel_rfl
@[simp] theorem ag34 : aggB Tryz.prog 34 = some false:=by kernel_rfl
@[simp] theorem sz35 : szOf Tryz.prog 35 = some 1:=by kernel_rfl
@[simp] theorem ag35 : aggB Tryz.prog 35 = some false:=by kernel_rfl
@[simp] theorem sz37 : szOf Tryz.prog 37 = some 1:=by kernel_rfl
@[simp] theorem ag37 : aggB Tryz.prog 37 = some false:=by kernel_rfl
@[simp] theorem sz40 : szOf Tryz.prog 40 = some 1:=by kernel_rfl
@[simp] theorem ag40 : aggB Tryz.prog 40 = some false:=by kernel_rfl
@[simp] theorem sz80 : szOf Tryz.prog 80 = some 1:=by kernel_rfl
@[simp] theorem ag80 : aggB Tryz.prog 80 = some false:=by kernel_rfl
@[simp] theorem sz104 : szOf Tryz.prog 104 = some 4:=by kernel_rfl
@[simp] theorem ag104 : aggB Tryz.prog 104 = some true:=by kernel_rfl
@[simp] theorem ze104 : zeroCellsA Tryz.prog 104 = some ([.val (.int .u8 0),.val (.int .u8 0),.val (.int .u8 0),.val (.int .u8 0)]):=by kernel_rfl
@[simp] theorem sz186 : szOf Tryz.prog 186 = some 1:=by kernel_rfl
@[simp] theorem ag186 : aggB Tryz.prog 186 = some false:=by kernel_rfl
@[simp] theorem sz210 : szOf Tryz.prog 210 = some 1:=by kernel_rfl
@[simp] theorem ag210 : aggB Tryz.prog 210 = some false:=by kernel_rfl
@[simp] theorem ze224 : zeroCellsA Tryz.prog 224 = some ([.val (.pointer none),.val (.complex .f64 0 0)]):=by kernel_rfl
@[simp] theorem sz235 : szOf Tryz.prog 235 = some 1:=by kernel_rfl
@[simp] theorem ag235 : aggB Tryz.prog 235 = some false:=by kernel_rfl
@[simp] theorem sz314 : szOf Tryz.prog 314 = some 1:=by kernel_rfl
@[simp] theorem ag314 : aggB Tryz.prog 314 = some false:=by kernel_rfl
@[simp] theorem fa191_1 (x : AV) : afieldAddr Tryz.prog 191 x 1 = fldK 3 x:=by kernel_rfl
@[simp] theorem fa224_0 (x : AV) : afieldAddr Tryz.prog 224 x 0 = fldK 0 x:=by kernel_rfl
@[simp] theorem fa224_1 (x : AV) : afieldAddr Tryz.prog 224 x 1 = fldK 1 x:=by kernel_rfl
@[simp] theorem fa232_1 (x : AV) : afieldAddr Tryz.prog 232 x 1 = fldK 1 x:=by kernel_rfl
@[simp] theorem fa232_2 (x : AV) : afieldAddr Tryz.prog 232 x 2 = fldK 2 x:=by kernel_rfl
@[simp] theorem fa232_3 (x : AV) : afieldAddr Tryz.prog 232 x 3 = fldK 3 x:=by kernel_rfl
@[simp] theorem fa234_0 (x : AV) : afieldAddr Tryz.prog 234 x 0 = fldK 0 x:=by kernel_rfl
@[simp] theorem fa234_1 (x : AV) : afieldAddr Tryz.prog 234 x 1 = fldK 1 x:=by kernel_rfl
@[simp] theorem fa234_3 (x : AV) : afieldAddr Tryz.prog 234 x 3 = fldK 3 x:=by kernel_rfl
@[simp] theorem fa234_4 (x : AV) : afieldAddr Tryz.prog 234 x 4 = fldK 4 x:=by kernel_rfl
@[simp] theorem fa242_2 (x : AV) : afieldAddr Tryz.prog 242 x 2 = fldK 4 x:=by kernel_rfl
@[simp] theorem fa259_0 (x : AV) : afieldAddr Tryz.prog 259 x 0 = fldK 0 x:=by kernel_rfl
@[simp] theorem fa259_1 (x : AV) : afieldAddr Tryz.prog 259 x 1 = fldK 1 x:=by kernel_rfl
@[simp] theorem fa318_2 (x : AV) : afieldAddr Tryz.prog 318 x 2 = fldK 4 x:=by kernel_rfl
@[simp] theorem fa347_0 (x : AV) : afieldAddr Tryz.prog 347 x 0 = fldK 0 x:=by kernel_rfl
@[simp] theorem fa347_1 (x : AV) : afieldAddr Tryz.prog 347 x 1 = fldK 1 x:=by kernel_rfl
@[simp] theorem fa347_2 (x : AV) : afieldAddr Tryz.prog 347 x 2 = fldK 2 x:=by kernel_rfl
@[simp] theorem ap103_103 (s x : AV) (nm : Name) (H : AHeap) : aappend Tryz.prog 103 103 s x nm H = appK 4 4 s x nm H:=aappend_eq (by kernel_rfl : Tryz.prog.underlying 103 = some (.slice 104)) (by kernel_rfl : Tryz.prog.underlying 103 = some (.slice 104)) rfl (by kernel_rfl) (by kernel_rfl) (by kernel_rfl) s x nm H
attribute [local simp] runList aop abuiltin acall awanted ayielded env T0 tput tset Ran aload astore setMany upd binV aslice aindexAddr apart aindex alen acopy srcCells natOf boundOf aeq AV.nilEq convV appK fillA List.range List.range.loop onF isU8 rowOf
def thereS : Spec:=fun args nm H =>
 match args with
 | [.ptr q 0,.val (.int .i64 d)] =>
  match H q with
  | some row =>
   match row[3]? with
   | some (AV.sl _ _ len _) => some (vb (decide (0 <= d /\ d < (len : Int))),H)
   | _ => none
  | none => none
 | _ => none
set_option maxHeartbeats 400000 in
theorem there_ok : FnOK Tryz.prog 101 thereS:=by
 refine ⟨by kernel_rfl,fun args nm H r H' h => ?_⟩
 unfold thereS at h
 split at h
 ·rename_i q d
  split at h
  ·rename_i row hq
   split at h
   ·rename_i n off len sz h3
    cases h
    have hcall:=@noCall_ok Tryz.prog
    have hlt : 3 < row.length:=(List.getElem?_eq_some_iff.1 h3).1
    have h3' : ∀ h : 3 < row.length,row[3] = .sl n off len sz:=fun h => (List.getElem?_eq_some_iff.1 h3).2
    refine sim_go Tryz.func101 rfl rfl (Nat.le_of_ble_eq_true rfl) fun hH => ?_
    (repeat refine AWP.seq ?_)
    refine AWP.region_last hcall rfl fun K hK => ?_
    simp
    apply hK; clear hK K; simp only [onNormal,onExit]
    by_cases h0 : 0 <= d
    ·by_cases h1 : d < (len : Int)
     ·(repeat refine AWP.seq ?_)
      refine AWP.region_last hcall rfl fun K hK => ?_
      simp [h0,h1,hq,h3,h3',hlt]
      apply hK; clear hK K; simp only [onNormal,onExit]
      (try refine AWP.ret ?_); (try simp only [onNormal,onExit]); refine ⟨by simp,⟨_,rfl,by simp [ares1,h0,h1]⟩,fun k row hk => ?_⟩
      exact hk
     ·(repeat refine AWP.seq ?_)
      refine AWP.region_last hcall rfl fun K hK => ?_
      simp [h0,h1,hq,h3,h3',hlt]
      apply hK; clear hK K; simp only [onNormal,onExit]
      (try refine AWP.ret ?_); (try simp only [onNormal,onExit]); refine ⟨by simp,⟨_,rfl,by simp [ares1,h0,h1]⟩,fun k row hk => ?_⟩
      exact hk
    ·(repeat refine AWP.seq ?_)
     refine AWP.region_last hcall rfl fun K hK => ?_
     simp [h0,hq,h3]
     apply hK; clear hK K; simp only [onNormal,onExit]
     (try refine AWP.ret ?_); (try simp only [onNormal,onExit]); refine ⟨by simp,⟨_,rfl,by simp [ares1,h0]⟩,fun k row hk => ?_⟩
     exact hk
   ·cases h
  ·cases h
 ·cases h
def DiskIs (H : AHeap) (d : Name) : Prop:=∃ (x : AV) (a : Nat),H d = some [x,.val (.complex .f64 a a),vi 0,vb false]
def LogIs (H : AHeap) (l : Name) : Prop:=∃ (d : Name) (c : Int),H l = some [.ptr d 0,vi c,vi c] /\ DiskIs H d
def ServIs (H : AHeap) (s : Name) : Prop:=∃ (l : Name) (a b c d e f g : AV),H s = some [a,b,c,d,.ptr l 0,e,f,g] /\ LogIs H l
def WorldIs (H : AHeap) (q : Name) : Prop:=∃ (n s0 s1 s2 : Name) (a b c d e f g : AV),H q = some [a,b,c,.sl n 0 3 1,d,e,f,g] /\ H n = some [.ptr s0 0,.ptr s1 0,.ptr s2 0] /\ ServIs H s0 /\ ServIs H s1 /\ ServIs H s2
open Classical in
noncomputable def stepS : Spec:=fun args nm H => if ∃ d,args = [.ptr d 0] /\ DiskIs H d then some (vb false,H) else none
open Classical in
noncomputable def diskSyncS : Spec:=fun args nm H => if ∃ d,args = [.ptr d 0] /\ DiskIs H d then some (vi 0,H) else none
open Classical in
noncomputable def logSyncS : Spec:=fun args nm H => if ∃ d,args = [.ptr d 0] /\ LogIs H d then some (vi 0,H) else none
open Classical in
noncomputable def servSyncS : Spec:=fun args nm H => if ∃ d,args = [.ptr d 0] /\ ServIs H d then some (vi 0,H) else none
open Classical in
noncomputable def worldSyncS : Spec:=fun args nm H => if ∃ q i,args = [.ptr q 0,vi i] /\ (0 <= i /\ i < 3) /\ WorldIs H q then some (vi 0,H) else none
set_option maxHeartbeats 400000 in
theorem dstep_ok : FnOK Tryz.prog 224 stepS:=by
 refine ⟨by kernel_rfl,fun args nm H r H' h => ?_⟩
 unfold stepS at h
 split at h
 ·rename_i hc
  cases h
  obtain ⟨d,rfl,x,a,hd⟩:=hc
  have hcall:=@noCall_ok Tryz.prog
  refine sim_go Tryz.func224 rfl rfl (Nat.le_of_ble_eq_true rfl) fun hH => ?_
  (repeat refine AWP.seq ?_)
  refine AWP.region_last hcall rfl fun K hK => ?_
  simp
  apply hK; clear hK K; simp only [onNormal,onExit]
  (repeat refine AWP.seq ?_)
  refine AWP.region_last hcall rfl fun K hK => ?_
  simp [hd]
  apply hK; clear hK K; simp only [onNormal,onExit]
  (repeat refine AWP.seq ?_); refine AWP.cond (b:=false) (by simp) ?_; simp only [if_true,if_false,Bool.false_eq_true]
  refine AWP.skip ?_; simp only [onNormal,onExit]
  (repeat refine AWP.seq ?_)
  refine AWP.region_last hcall rfl fun K hK => ?_
  simp [hd]
  apply hK; clear hK K; simp only [onNormal,onExit]
  (try refine AWP.ret ?_); (try simp only [onNormal,onExit]); refine ⟨by simp,⟨_,rfl,by simp [ares1]⟩,fun k row hk => ?_⟩
  exact hk
 ·cases h
set_option maxHeartbeats 400000 in
theorem diskSync_ok : FnOK Tryz.prog 135 diskSyncS:=by
 refine ⟨by kernel_rfl,fun args nm H r H' h => ?_⟩
 unfold diskSyncS at h
 split at h
 ·rename_i hc
  cases h
  obtain ⟨d,rfl,x,a,hd⟩:=hc
  have hcall:=onF_ok dstep_ok (@noCall_ok Tryz.prog)
  have hs : ∀ nm',stepS [.ptr d 0] nm' H = some (vb false,H):=fun nm' => if_pos ⟨d,rfl,x,a,hd⟩
  refine sim_go Tryz.func135 rfl rfl (Nat.le_of_ble_eq_true rfl) fun hH => ?_
  (repeat refine AWP.seq ?_)
  refine AWP.region_last hcall rfl fun K hK => ?_
  simp
  apply hK; clear hK K; simp only [onNormal,onExit]
  (repeat refine AWP.seq ?_)
  refine AWP.region_last hcall rfl fun K hK => ?_
  simp [hd,hs]
  apply hK; clear hK K; simp only [onNormal,onExit]
  (repeat refine AWP.seq ?_); refine AWP.cond (b:=false) (by simp) ?_; simp only [if_true,if_false,Bool.false_eq_true]
  refine AWP.skip ?_; simp only [onNormal,onExit]
  (repeat refine AWP.seq ?_)
  refine AWP.draw_last rfl hcall [0,0,2,6,14,30,0,64,192,448,960,2046,4095,8191,16383] [⟨0,false,[]⟩,⟨1,false,[]⟩,⟨2,false,[]⟩,⟨3,false,[]⟩,⟨4,false,[0]⟩,⟨5,false,[]⟩,⟨6,false,[]⟩,⟨7,false,[]⟩,⟨8,false,[]⟩,⟨9,false,[0]⟩,⟨10,false,[]⟩,⟨11,false,[]⟩,⟨12,false,[]⟩,⟨13,false,[]⟩,⟨14,true,[]⟩] rfl (by kernel_rfl) fun K hK => ?_
  simp [planW,chkW,hd]
  apply hK; clear hK K; simp only [onNormal,onExit]
  (repeat refine AWP.seq ?_)
  refine AWP.region_last hcall rfl fun K hK => ?_
  simp
  apply hK; clear hK K; simp only [onNormal,onExit]
  (try refine AWP.ret ?_); (try simp only [onNormal,onExit]); refine ⟨by simp,⟨_,rfl,by simp [ares1]⟩,fun k row hk => ?_⟩
  by_cases e : k = d
  ·subst e; rw [hd] at hk; simpa [upd] using hk
  ·simpa [upd,e] using hk
 ·cases h
set_option maxHeartbeats 400000 in
theorem logSync_ok : FnOK Tryz.prog 66 logSyncS:=by
 refine ⟨by kernel_rfl,fun args nm H r H' h => ?_⟩
 unfold logSyncS at h
 split at h
 ·rename_i hc
  cases h
  obtain ⟨l,rfl,d,c,hl,hd⟩:=hc
  have hcall:=onF_ok diskSync_ok (@noCall_ok Tryz.prog)
  have hs : ∀ nm',diskSyncS [.ptr d 0] nm' H = some (vi 0,H):=fun nm' => if_pos ⟨d,rfl,hd⟩
  refine sim_go Tryz.func66 rfl rfl (Nat.le_of_ble_eq_true rfl) fun hH => ?_
  (repeat refine AWP.seq ?_)
  refine AWP.region_last hcall rfl fun K hK => ?_
  simp
  apply hK; clear hK K; simp only [onNormal,onExit]
  (repeat refine AWP.seq ?_)
  refine AWP.region_last hcall rfl fun K hK => ?_
  simp [hl,hs]
  apply hK; clear hK K; simp only [onNormal,onExit]
  (repeat refine AWP.seq ?_)
  refine AWP.region_last hcall rfl fun K hK => ?_
  simp
  apply hK; clear hK K; simp only [onNormal,onExit]
  (repeat refine AWP.seq ?_); refine AWP.cond (b:=true) (by simp) ?_; simp only [if_true,if_false,Bool.false_eq_true]
  (repeat refine AWP.seq ?_)
  refine AWP.region_last hcall rfl fun K hK => ?_
  simp [hl]
  apply hK; clear hK K; simp only [onNormal,onExit]
  (repeat refine AWP.seq ?_)
  refine AWP.region_last hcall rfl fun K hK => ?_
  simp
  apply hK; clear hK K; simp only [onNormal,onExit]
  (try refine AWP.ret ?_); (try simp only [onNormal,onExit]); refine ⟨by simp,⟨_,rfl,by simp [ares1]⟩,fun k row hk => ?_⟩
  by_cases e : k = l
  ·subst e; rw [hl] at hk; simpa [upd] using hk
  ·simpa [upd,e] using hk
 ·cases h
set_option maxHeartbeats 400000 in
theorem servSync_ok : FnOK Tryz.prog 16 servSyncS:=by
 refine ⟨by kernel_rfl,fun args nm H r H' h => ?_⟩
 unfold servSyncS at h
 split at h
 ·rename_i hc
  cases h
  obtain ⟨s,rfl,l,x0,x1,x2,x3,x5,x6,x7,hl,hd⟩:=hc
  have hcall:=onF_ok logSync_ok (@noCall_ok Tryz.prog)
  have hs : ∀ nm',logSyncS [.ptr l 0] nm' H = some (vi 0,H):=fun nm' => if_pos ⟨l,rfl,hd⟩
  refine sim_go Tryz.func16 rfl rfl (Nat.le_of_ble_eq_true rfl) fun hH => ?_
  (repeat refine AWP.seq ?_)
  refine AWP.region_last hcall rfl fun K hK => ?_
  simp
  apply hK; clear hK K; simp only [onNormal,onExit]
  (repeat refine AWP.seq ?_)
  refine AWP.region_last hcall rfl fun K hK => ?_
  simp [hl,hs]
  apply hK; clear hK K; simp only [onNormal,onExit]
  (try refine AWP.ret ?_); (try simp only [onNormal,onExit]); refine ⟨by simp,⟨_,rfl,by simp [ares1]⟩,fun k row hk => ?_⟩
  exact hk
 ·cases h
set_option maxHeartbeats 400000 in
theorem worldSync_ok : FnOK Tryz.prog 44 worldSyncS:=by
 refine ⟨by kernel_rfl,fun args nm H r H' h => ?_⟩
 unfold worldSyncS at h
 split at h
 ·rename_i hc
  cases h
  obtain ⟨q,i,rfl,hi,n,s0,s1,s2,x0,x1,x2,x4,x5,x6,x7,hq,hn,h0,h1,h2⟩:=hc
  have hcall:=onF_ok there_ok (onF_ok servSync_ok (@noCall_ok Tryz.prog))
  have ht : ∀ nm',thereS [.ptr q 0,vi i] nm' H = some (vb true,H):=fun nm' => by
   simp [thereS,hq,hi.1,hi.2]
  have hs0 : ∀ nm',servSyncS [.ptr s0 0] nm' H = some (vi 0,H):=fun nm' => if_pos ⟨_,rfl,h0⟩
  have hs1 : ∀ nm',servSyncS [.ptr s1 0] nm' H = some (vi 0,H):=fun nm' => if_pos ⟨_,rfl,h1⟩
  have hs2 : ∀ nm',servSyncS [.ptr s2 0] nm' H = some (vi 0,H):=fun nm' => if_pos ⟨_,rfl,h2⟩
  rcases (by omega : i = 0 \/ i = 1 \/ i = 2) with rfl | rfl | rfl
  all_goals
   refine sim_go Tryz.func44 rfl rfl (Nat.le_of_ble_eq_true rfl) fun hH => ?_
   (repeat refine AWP.seq ?_)
   refine AWP.region_last hcall rfl fun K hK => ?_
   simp
   apply hK; clear hK K; simp only [onNormal,onExit]
   (repeat refine AWP.seq ?_)
   refine AWP.region_last hcall rfl fun K hK => ?_
   simp [ht]
   apply hK; clear hK K; simp only [onNormal,onExit]
   (repeat refine AWP.seq ?_); refine AWP.cond (b:=false) (by simp) ?_; simp only [if_true,if_false,Bool.false_eq_true]
   refine AWP.skip ?_; simp only [onNormal,onExit]
   (repeat refine AWP.seq ?_)
   refine AWP.region_last hcall rfl fun K hK => ?_
   simp [hq,hn,hs0,hs1,hs2]
   apply hK; clear hK K; simp only [onNormal,onExit]
   (try refine AWP.ret ?_); (try simp only [onNormal,onExit]); refine ⟨by simp,⟨_,rfl,by simp [ares1]⟩,fun k row hk => ?_⟩
   exact hk
 ·cases h
def XDiskIs (H : AHeap) (d : Name) : Prop:=∃ (m : Name) (off len : Nat) (y : AV),H d = some [.sl m off len 1,vi len,y,vi 0,vb false]
def XLogIs (H : AHeap) (l : Name) : Prop:=∃ (d : Name) (c : Int),H l = some [.ptr d 0,vi c,vi c] /\ XDiskIs H d
def XServIs (H : AHeap) (s : Name) : Prop:=∃ (l : Name) (a b c d e f g : AV),H s = some [a,b,c,d,.ptr l 0,e,f,g] /\ XLogIs H l
def XWorldIs (H : AHeap) (q : Name) : Prop:=∃ (n s0 s1 s2 : Name) (a b c d e f g : AV),H q = some [a,b,c,d,.sl n 0 3 1,e,f,g] /\ H n = some [.ptr s0 0,.ptr s1 0,.ptr s2 0] /\ XServIs H s0 /\ XServIs H s1 /\ XServIs H s2
open Classical in
noncomputable def xopS : Spec:=fun args nm H => if ∃ d,args = [.ptr d 0] /\ XDiskIs H d then some (vb false,H) else none
open Classical in
noncomputable def xdiskSyncS : Spec:=fun args nm H => if ∃ d,args = [.ptr d 0] /\ XDiskIs H d then some (vi 0,H) else none
open Classical in
noncomputable def xlogSyncS : Spec:=fun args nm H => if ∃ d,args = [.ptr d 0] /\ XLogIs H d then some (vi 0,H) else none
open Classical in
noncomputable def xservSyncS : Spec:=fun args nm H => if ∃ d,args = [.ptr d 0] /\ XServIs H d then some (vi 0,H) else none
open Classical in
noncomputable def xthereS : Spec:=fun args nm H => if ∃ q i,args = [.ptr q 0,vi i] /\ (0 <= i /\ i < 3) /\ XWorldIs H q then some (vb true,H) else none
open Classical in
noncomputable def xworldSyncS : Spec:=fun args nm H => if ∃ q i,args = [.ptr q 0,vi i] /\ (0 <= i /\ i < 3) /\ XWorldIs H q then some (vi 0,H) else none
set_option maxHeartbeats 400000 in
theorem xop_ok : FnOK Tryz.prog 294 xopS:=by
 refine ⟨by kernel_rfl,fun args nm H r H' h => ?_⟩
 unfold xopS at h
 split at h
 ·rename_i hc
  cases h
  obtain ⟨d,rfl,m,off,len,y,hd⟩:=hc
  have hcall:=@noCall_ok Tryz.prog
  refine sim_go Tryz.func294 rfl rfl (Nat.le_of_ble_eq_true rfl) fun hH => ?_
  (repeat refine AWP.seq ?_)
  refine AWP.region_last hcall rfl fun K hK => ?_
  simp
  apply hK; clear hK K; simp only [onNormal,onExit]
  (repeat refine AWP.seq ?_)
  refine AWP.region_last hcall rfl fun K hK => ?_
  simp [hd]
  apply hK; clear hK K; simp only [onNormal,onExit]
  (repeat refine AWP.seq ?_); refine AWP.cond (b:=false) (by simp) ?_; simp only [if_true,if_false,Bool.false_eq_true]
  refine AWP.skip ?_; simp only [onNormal,onExit]
  (repeat refine AWP.seq ?_)
  refine AWP.region_last hcall rfl fun K hK => ?_
  simp [hd]
  apply hK; clear hK K; simp only [onNormal,onExit]
  (try refine AWP.ret ?_); (try simp only [onNormal,onExit]); refine ⟨by simp,⟨_,rfl,by simp [ares1]⟩,fun k row hk => ?_⟩
  exact hk
 ·cases h
set_option maxHeartbeats 400000 in
theorem xdiskSync_ok : FnOK Tryz.prog 370 xdiskSyncS:=by
 refine ⟨by kernel_rfl,fun args nm H r H' h => ?_⟩
 unfold xdiskSyncS at h
 split at h
 ·rename_i hc
  cases h
  obtain ⟨d,rfl,m,off,len,y,hd⟩:=hc
  have hcall:=onF_ok xop_ok (@noCall_ok Tryz.prog)
  have hs : ∀ nm',xopS [.ptr d 0] nm' H = some (vb false,H):=fun nm' => if_pos ⟨d,rfl,m,off,len,y,hd⟩
  refine sim_go Tryz.func370 rfl rfl (Nat.le_of_ble_eq_true rfl) fun hH => ?_
  (repeat refine AWP.seq ?_)
  refine AWP.region_last hcall rfl fun K hK => ?_
  simp
  apply hK; clear hK K; simp only [onNormal,onExit]
  (repeat refine AWP.seq ?_)
  refine AWP.region_last hcall rfl fun K hK => ?_
  simp [hd,hs]
  apply hK; clear hK K; simp only [onNormal,onExit]
  (repeat refine AWP.seq ?_); refine AWP.cond (b:=false) (by simp) ?_; simp only [if_true,if_false,Bool.false_eq_true]
  refine AWP.skip ?_; simp only [onNormal,onExit]
  (repeat refine AWP.seq ?_)
  refine AWP.region_last hcall rfl fun K hK => ?_
  simp [hd]
  apply hK; clear hK K; simp only [onNormal,onExit]
  (repeat refine AWP.seq ?_)
  refine AWP.region_last hcall rfl fun K hK => ?_
  simp
  apply hK; clear hK K; simp only [onNormal,onExit]
  (try refine AWP.ret ?_); (try simp only [onNormal,onExit]); refine ⟨by simp,⟨_,rfl,by simp [ares1]⟩,fun k row hk => ?_⟩
  by_cases e : k = d
  ·subst e; rw [hd] at hk; simpa [upd] using hk
  ·simpa [upd,e] using hk
 ·cases h
set_option maxHeartbeats 400000 in
theorem xlogSync_ok : FnOK Tryz.prog 327 xlogSyncS:=by
 refine ⟨by kernel_rfl,fun args nm H r H' h => ?_⟩
 unfold xlogSyncS at h
 split at h
 ·rename_i hc
  cases h
  obtain ⟨l,rfl,d,c,hl,hd⟩:=hc
  have hcall:=onF_ok xdiskSync_ok (@noCall_ok Tryz.prog)
  have hs : ∀ nm',xdiskSyncS [.ptr d 0] nm' H = some (vi 0,H):=fun nm' => if_pos ⟨d,rfl,hd⟩
  refine sim_go Tryz.func327 rfl rfl (Nat.le_of_ble_eq_true rfl) fun hH => ?_
  (repeat refine AWP.seq ?_)
  refine AWP.region_last hcall rfl fun K hK => ?_
  simp
  apply hK; clear hK K; simp only [onNormal,onExit]
  (repeat refine AWP.seq ?_)
  refine AWP.region_last hcall rfl fun K hK => ?_
  simp [hl,hs]
  apply hK; clear hK K; simp only [onNormal,onExit]
  (repeat refine AWP.seq ?_)
  refine AWP.region_last hcall rfl fun K hK => ?_
  simp
  apply hK; clear hK K; simp only [onNormal,onExit]
  (repeat refine AWP.seq ?_); refine AWP.cond (b:=true) (by simp) ?_; simp only [if_true,if_false,Bool.false_eq_true]
  (repeat refine AWP.seq ?_)
  refine AWP.region_last hcall rfl fun K hK => ?_
  simp [hl]
  apply hK; clear hK K; simp only [onNormal,onExit]
  (repeat refine AWP.seq ?_)
  refine AWP.region_last hcall rfl fun K hK => ?_
  simp
  apply hK; clear hK K; simp only [onNormal,onExit]
  (try refine AWP.ret ?_); (try simp only [onNormal,onExit]); refine ⟨by simp,⟨_,rfl,by simp [ares1]⟩,fun k row hk => ?_⟩
  by_cases e : k = l
  ·subst e; rw [hl] at hk; simpa [upd] using hk
  ·simpa [upd,e] using hk
 ·cases h
set_option maxHeartbeats 400000 in
theorem xservSync_ok : FnOK Tryz.prog 273 xservSyncS:=by
 refine ⟨by kernel_rfl,fun args nm H r H' h => ?_⟩
 unfold xservSyncS at h
 split at h
 ·rename_i hc
  cases h
  obtain ⟨s,rfl,l,x0,x1,x2,x3,x5,x6,x7,hl,hd⟩:=hc
  have hcall:=onF_ok xlogSync_ok (@noCall_ok Tryz.prog)
  have hs : ∀ nm',xlogSyncS [.ptr l 0] nm' H = some (vi 0,H):=fun nm' => if_pos ⟨l,rfl,hd⟩
  refine sim_go Tryz.func273 rfl rfl (Nat.le_of_ble_eq_true rfl) fun hH => ?_
  (repeat refine AWP.seq ?_)
  refine AWP.region_last hcall rfl fun K hK => ?_
  simp
  apply hK; clear hK K; simp only [onNormal,onExit]
  (repeat refine AWP.seq ?_)
  refine AWP.region_last hcall rfl fun K hK => ?_
  simp [hl,hs]
  apply hK; clear hK K; simp only [onNormal,onExit]
  (try refine AWP.ret ?_); (try simp only [onNormal,onExit]); refine ⟨by simp,⟨_,rfl,by simp [ares1]⟩,fun k row hk => ?_⟩
  exact hk
 ·cases h
set_option maxHeartbeats 400000 in
theorem xthere_ok : FnOK Tryz.prog 183 xthereS:=by
 refine ⟨by kernel_rfl,fun args nm H r H' h => ?_⟩
 unfold xthereS at h
 split at h
 ·rename_i hc
  cases h
  obtain ⟨q,i,rfl,⟨hi0,hi3⟩,n,s0,s1,s2,x0,x1,x2,x4,x5,x6,x7,hq,hn,h0,h1,h2⟩:=hc
  have hcall:=@noCall_ok Tryz.prog
  refine sim_go Tryz.func183 rfl rfl (Nat.le_of_ble_eq_true rfl) fun hH => ?_
  (repeat refine AWP.seq ?_)
  refine AWP.region_last hcall rfl fun K hK => ?_
  simp
  apply hK; clear hK K; simp only [onNormal,onExit]
  (repeat refine AWP.seq ?_)
  refine AWP.region_last hcall rfl fun K hK => ?_
  simp [hq,hi0,hi3]
  apply hK; clear hK K; simp only [onNormal,onExit]
  (try refine AWP.ret ?_); (try simp only [onNormal,onExit]); refine ⟨by simp,⟨_,rfl,by simp [ares1]⟩,fun k row hk => ?_⟩
  exact hk
 ·cases h
set_option maxHeartbeats 400000 in
theorem xworldSync_ok : FnOK Tryz.prog 185 xworldSyncS:=by
 refine ⟨by kernel_rfl,fun args nm H r H' h => ?_⟩
 unfold xworldSyncS at h
 split at h
 ·rename_i hc
  cases h
  have ht : ∀ nm',xthereS args nm' H = some (vb true,H):=fun nm' => if_pos hc
  obtain ⟨q,i,rfl,hi,n,s0,s1,s2,x0,x1,x2,x4,x5,x6,x7,hq,hn,h0,h1,h2⟩:=hc
  have hcall:=onF_ok xthere_ok (onF_ok xservSync_ok (@noCall_ok Tryz.prog))
  have hs0 : ∀ nm',xservSyncS [.ptr s0 0] nm' H = some (vi 0,H):=fun nm' => if_pos ⟨_,rfl,h0⟩
  have hs1 : ∀ nm',xservSyncS [.ptr s1 0] nm' H = some (vi 0,H):=fun nm' => if_pos ⟨_,rfl,h1⟩
  have hs2 : ∀ nm',xservSyncS [.ptr s2 0] nm' H = some (vi 0,H):=fun nm' => if_pos ⟨_,rfl,h2⟩
  rcases (by omega : i = 0 \/ i = 1 \/ i = 2) with rfl | rfl | rfl
  all_goals
   refine sim_go Tryz.func185 rfl rfl (Nat.le_of_ble_eq_true rfl) fun hH => ?_
   (repeat refine AWP.seq ?_)
   refine AWP.region_last hcall rfl fun K hK => ?_
   simp
   apply hK; clear hK K; simp only [onNormal,onExit]
   (repeat refine AWP.seq ?_)
   refine AWP.region_last hcall rfl fun K hK => ?_
   simp [ht]
   apply hK; clear hK K; simp only [onNormal,onExit]
   (repeat refine AWP.seq ?_); refine AWP.cond (b:=false) (by simp) ?_; simp only [if_true,if_false,Bool.false_eq_true]
   refine AWP.skip ?_; simp only [onNormal,onExit]
   (repeat refine AWP.seq ?_)
   refine AWP.region_last hcall rfl fun K hK => ?_
   simp [hq,hn,hs0,hs1,hs2]
   apply hK; clear hK K; simp only [onNormal,onExit]
   (try refine AWP.ret ?_); (try simp only [onNormal,onExit]); refine ⟨by simp,⟨_,rfl,by simp [ares1]⟩,fun k row hk => ?_⟩
   exact hk
 ·cases h
theorem DiskIs.mono {H H₁ : AHeap} (h : ∀ k r,H k = some r -> H₁ k = some r) {d : Name} : DiskIs H d -> DiskIs H₁ d:=fun ⟨x,a,e⟩ => ⟨x,a,h _ _ e⟩
theorem LogIs.mono {H H₁ : AHeap} (h : ∀ k r,H k = some r -> H₁ k = some r) {d : Name} : LogIs H d -> LogIs H₁ d:=fun ⟨x,a,e,f⟩ => ⟨x,a,h _ _ e,f.mono h⟩
theorem ServIs.mono {H H₁ : AHeap} (h : ∀ k r,H k = some r -> H₁ k = some r) {d : Name} : ServIs H d -> ServIs H₁ d:=fun ⟨x,a,b,c,d,e,f,g,i,j⟩ => ⟨x,a,b,c,d,e,f,g,h _ _ i,j.mono h⟩
theorem WorldIs.mono {H H₁ : AHeap} (h : ∀ k r,H k = some r -> H₁ k = some r) {d : Name} : WorldIs H d -> WorldIs H₁ d:=fun ⟨n,s0,s1,s2,a,b,c,d,e,f,g,i,j,k0,k1,k2⟩ => ⟨n,s0,s1,s2,a,b,c,d,e,f,g,h _ _ i,h _ _ j,k0.mono h,k1.mono h,k2.mono h⟩
theorem XDiskIs.mono {H H₁ : AHeap} (h : ∀ k r,H k = some r -> H₁ k = some r) {d : Name} : XDiskIs H d -> XDiskIs H₁ d:=fun ⟨x,a,b,c,e⟩ => ⟨x,a,b,c,h _ _ e⟩
theorem XLogIs.mono {H H₁ : AHeap} (h : ∀ k r,H k = some r -> H₁ k = some r) {d : Name} : XLogIs H d -> XLogIs H₁ d:=fun ⟨x,a,e,f⟩ => ⟨x,a,h _ _ e,f.mono h⟩
theorem XServIs.mono {H H₁ : AHeap} (h : ∀ k r,H k = some r -> H₁ k = some r) {d : Name} : XServIs H d -> XServIs H₁ d:=fun ⟨x,a,b,c,d,e,f,g,i,j⟩ => ⟨x,a,b,c,d,e,f,g,h _ _ i,j.mono h⟩
theorem XWorldIs.mono {H H₁ : AHeap} (h : ∀ k r,H k = some r -> H₁ k = some r) {d : Name} : XWorldIs H d -> XWorldIs H₁ d:=fun ⟨n,s0,s1,s2,a,b,c,d,e,f,g,i,j,k0,k1,k2⟩ => ⟨n,s0,s1,s2,a,b,c,d,e,f,g,h _ _ i,h _ _ j,k0.mono h,k1.mono h,k2.mono h⟩
open Classical in
noncomputable def step7S : Spec:=fun args nm H => if ∃ (r q : Name) (a : Nat) (x : AV),args = [.ptr r 0,vi 7,vi a,vi 0,vi 0] /\ a < 256 /\ H r = some [.ptr q 0,x] /\ WorldIs H q then some (vb true,H) else none
open Classical in
noncomputable def net7S : Spec:=fun args nm H => if ∃ (q : Name) (a : Nat),args = [.ptr q 0,vi 7,vi a,vi 0,vi 0] /\ a < 256 /\ XWorldIs H q then some (vi 1,H) else none
def oneS : Spec:=fun args nm H =>
 match args with
 | [.val (.bool true)] => some (vi 1,H)
 | _ => none
set_option maxHeartbeats 400000 in
theorem one_ok : FnOK Tryz.prog 120 oneS:=by
 refine ⟨by kernel_rfl,fun args nm H r H' h => ?_⟩
 unfold oneS at h
 split at h
 ·cases h
  have hcall:=@noCall_ok Tryz.prog
  refine sim_go Tryz.func120 rfl rfl (Nat.le_of_ble_eq_true rfl) fun hH => ?_
  (repeat refine AWP.seq ?_)
  refine AWP.region_last hcall rfl fun K hK => ?_
  simp
  apply hK; clear hK K; simp only [onNormal,onExit]
  (repeat refine AWP.seq ?_)
  refine AWP.region_last hcall rfl fun K hK => ?_
  simp
  apply hK; clear hK K; simp only [onNormal,onExit]
  (repeat refine AWP.seq ?_); refine AWP.cond (b:=true) (by simp) ?_; simp only [if_true,if_false,Bool.false_eq_true]
  (repeat refine AWP.seq ?_)
  refine AWP.region_last hcall rfl fun K hK => ?_
  simp
  apply hK; clear hK K; simp only [onNormal,onExit]
  (try refine AWP.ret ?_); (try simp only [onNormal,onExit]); refine ⟨by simp,⟨_,rfl,by simp [ares1]⟩,fun k row hk => ?_⟩
  exact hk
 ·cases h
set_option maxHeartbeats 1000000 in
theorem step7_ok : FnOK Tryz.prog 118 step7S:=by
 refine ⟨by kernel_rfl,fun args nm H r H' h => ?_⟩
 unfold step7S at h
 split at h
 ·rename_i hc
  cases h
  obtain ⟨r,q,a,x,rfl,ha,hr,hw⟩:=hc
  have hcall:=onF_ok worldSync_ok (@noCall_ok Tryz.prog)
  have hm : (a : Int).tmod 3 = ((a % 3 : Nat) : Int):=rfl
  have hpl : places Tryz.prog [{ name:="D", type:=3, offset:=0, embedded:=false, tag:="", pkgPath:="", byteOffset:=0 }, { name:="U", type:=3, offset:=1, embedded:=false, tag:="", pkgPath:="", byteOffset:=8 }] = some [(0, 1), (1, 1)]:=by kernel_rfl
  refine sim_go Tryz.func118 rfl rfl (Nat.le_of_ble_eq_true rfl) fun hH => ?_
  have hs : ∀ nm' r1 r2,worldSyncS [.ptr q 0,.val (.int .i64 ((a : Int) % 3))] nm' (upd (upd H (13 :: nm) r1) (13 :: nm) r2) = some (vi 0,upd (upd H (13 :: nm) r1) (13 :: nm) r2):=fun nm' r1 r2 => if_pos ⟨q,_,rfl,⟨by omega,by omega⟩,hw.mono (SubL.out (SubL.fresh (hH [13]) (SubL.fresh (hH [13]) SubL.id)))⟩
  (repeat refine AWP.seq ?_)
  refine AWP.region_last hcall rfl fun K hK => ?_
  simp
  apply hK; clear hK K; simp only [onNormal,onExit]
  (repeat refine AWP.seq ?_)
  refine AWP.region_last hcall rfl fun K hK => ?_
  simp [hr]
  apply hK; clear hK K; simp only [onNormal,onExit]
  (repeat refine AWP.seq ?_)
  refine AWP.region_last hcall rfl fun K hK => ?_
  simp [hm,hpl]
  apply hK; clear hK K; simp only [onNormal,onExit]
  (repeat refine AWP.seq ?_)
  refine AWP.region_last hcall rfl fun K hK => ?_
  simp
  apply hK; clear hK K; simp only [onNormal,onExit]
  (repeat refine AWP.seq ?_)
  refine AWP.region_last hcall rfl fun K hK => ?_
  simp
  apply hK; clear hK K; simp only [onNormal,onExit]
  (repeat refine AWP.seq ?_); refine AWP.block ?_
  (repeat refine AWP.seq ?_)
  refine AWP.region_last hcall rfl fun K hK => ?_
  simp
  apply hK; clear hK K; simp only [onNormal,onExit]
  (repeat refine AWP.seq ?_); refine AWP.cond (b:=false) (by simp) ?_; simp only [if_true,if_false,Bool.false_eq_true]
  (repeat refine AWP.seq ?_)
  refine AWP.region_last hcall rfl fun K hK => ?_
  simp
  apply hK; clear hK K; simp only [onNormal,onExit]
  (repeat refine AWP.seq ?_); refine AWP.cond (b:=false) (by simp) ?_; simp only [if_true,if_false,Bool.false_eq_true]
  (repeat refine AWP.seq ?_)
  refine AWP.region_last hcall rfl fun K hK => ?_
  simp
  apply hK; clear hK K; simp only [onNormal,onExit]
  (repeat refine AWP.seq ?_); refine AWP.cond (b:=false) (by simp) ?_; simp only [if_true,if_false,Bool.false_eq_true]
  (repeat refine AWP.seq ?_)
  refine AWP.region_last hcall rfl fun K hK => ?_
  simp
  apply hK; clear hK K; simp only [onNormal,onExit]
  (repeat refine AWP.seq ?_); refine AWP.cond (b:=false) (by simp) ?_; simp only [if_true,if_false,Bool.false_eq_true]
  (repeat refine AWP.seq ?_)
  refine AWP.region_last hcall rfl fun K hK => ?_
  simp
  apply hK; clear hK K; simp only [onNormal,onExit]
  (repeat refine AWP.seq ?_); refine AWP.cond (b:=false) (by simp) ?_; simp only [if_true,if_false,Bool.false_eq_true]
  (repeat refine AWP.seq ?_)
  refine AWP.region_last hcall rfl fun K hK => ?_
  simp
  apply hK; clear hK K; simp only [onNormal,onExit]
  (repeat refine AWP.seq ?_); refine AWP.cond (b:=false) (by simp) ?_; simp only [if_true,if_false,Bool.false_eq_true]
  (repeat refine AWP.seq ?_)
  refine AWP.region_last hcall rfl fun K hK => ?_
  simp
  apply hK; clear hK K; simp only [onNormal,onExit]
  (repeat refine AWP.seq ?_); refine AWP.cond (b:=false) (by simp) ?_; simp only [if_true,if_false,Bool.false_eq_true]
  (repeat refine AWP.seq ?_)
  refine AWP.region_last hcall rfl fun K hK => ?_
  simp
  apply hK; clear hK K; simp only [onNormal,onExit]
  (repeat refine AWP.seq ?_); refine AWP.cond (b:=true) (by simp) ?_; simp only [if_true,if_false,Bool.false_eq_true]
  (repeat refine AWP.seq ?_)
  refine AWP.region_last hcall rfl fun K hK => ?_
  simp [hs]
  apply hK; clear hK K; simp only [onNormal,onExit]
  (repeat refine AWP.seq ?_)
  refine AWP.region_last hcall rfl fun K hK => ?_
  simp
  apply hK; clear hK K; simp only [onNormal,onExit]
  (try refine AWP.ret ?_); (try simp only [onNormal,onExit]); refine ⟨by simp,⟨_,rfl,by simp [ares1]⟩,fun k row hk => ?_⟩
  exact SubL.out (SubL.fresh (hH [13]) (SubL.fresh (hH [13]) SubL.id)) k row hk
 ·cases h
set_option maxHeartbeats 1000000 in
theorem net7_ok : FnOK Tryz.prog 121 net7S:=by
 refine ⟨by kernel_rfl,fun args nm H r H' h => ?_⟩
 unfold net7S at h
 split at h
 ·rename_i hc
  cases h
  obtain ⟨q,a,rfl,ha,hw⟩:=hc
  have hcall:=onF_ok xworldSync_ok (onF_ok one_ok (@noCall_ok Tryz.prog))
  have hm : (a : Int).tmod 3 = ((a % 3 : Nat) : Int):=rfl
  have hs : ∀ nm',xworldSyncS [.ptr q 0,.val (.int .i64 ((a : Int) % 3))] nm' H = some (vi 0,H):=fun nm' => if_pos ⟨q,_,rfl,⟨by omega,by omega⟩,hw⟩
  refine sim_go Tryz.func121 rfl rfl (Nat.le_of_ble_eq_true rfl) fun hH => ?_
  (repeat refine AWP.seq ?_)
  refine AWP.region_last hcall rfl fun K hK => ?_
  simp
  apply hK; clear hK K; simp only [onNormal,onExit]
  (repeat refine AWP.seq ?_)
  refine AWP.region_last hcall rfl fun K hK => ?_
  simp
  apply hK; clear hK K; simp only [onNormal,onExit]
  (repeat refine AWP.seq ?_); refine AWP.block ?_
  (repeat refine AWP.seq ?_)
  refine AWP.region_last hcall rfl fun K hK => ?_
  simp
  apply hK; clear hK K; simp only [onNormal,onExit]
  (repeat refine AWP.seq ?_); refine AWP.cond (b:=false) (by simp) ?_; simp only [if_true,if_false,Bool.false_eq_true]
  (repeat refine AWP.seq ?_)
  refine AWP.region_last hcall rfl fun K hK => ?_
  simp
  apply hK; clear hK K; simp only [onNormal,onExit]
  (repeat refine AWP.seq ?_); refine AWP.cond (b:=true) (by simp) ?_; simp only [if_true,if_false,Bool.false_eq_true]
  (repeat refine AWP.seq ?_)
  refine AWP.region_last hcall rfl fun K hK => ?_
  simp [hm,hs,oneS]
  apply hK; clear hK K; simp only [onNormal,onExit]
  (try refine AWP.ret ?_); (try simp only [onNormal,onExit]); refine ⟨by simp,⟨_,rfl,by simp [ares1]⟩,fun k row hk => ?_⟩
  exact hk
 ·cases h
abbrev v8 (n : Nat) : AV:=.val (.int .u8 (n : Int))
def Steps7 (row : List AV) (N : Nat) : Prop:=4 * N <= row.length /\ ∀ i,i < N -> row[4 * i]? = some (v8 7) /\ row[4 * i + 1]? = some (v8 (i % 256)) /\ row[4 * i + 2]? = some (v8 0) /\ row[4 * i + 3]? = some (v8 0)
def restAV (n : Name) (N i : Nat) : AV:=if i < N then .sl n (4 * i) (4 * (N - i)) 1 else .im true 0 []
open Classical in
noncomputable def runS : Spec:=fun args nm H => if ∃ (q n : Name) (N : Nat) (row : List AV),args = [.ptr q 0,.sl n 0 (4 * N) 1] /\ (0 < N /\ N < 1000) /\ H n = some row /\ Steps7 row N /\ WorldIs H q then
 (match args with
  | [_,.sl _ _ k _] => some (vi (min (k / 4) 400 : Nat),H)
  | _ => none) else none
theorem F0 : F 0 = 0:=by decide +kernel
theorem F1 : F 1 = 4607182418800017408:=by decide +kernel
theorem F400 : F 400 = 4645744490609377280:=by decide +kernel
theorem sum_im {i : Nat} (h : i <= 1000) : binV .add (.complex .f64 (F i) (F i)) (.complex .f64 0 4607182418800017408) = some (.complex .f64 (F i) (F (i + 1))):=by
 have h0:=bits_add i 0 (by omega)
 have h1:=bits_add i 1 (by omega)
 rw [F0,Nat.add_zero] at h0
 rw [F1] at h1
 show (if FloatKind.f64 = FloatKind.f64 then (cSumBits .add .f64 _ _ _ _).map _ else none) = _
 simp [cSumBits,h0,h1]
theorem sum_re {i : Nat} (h : i <= 1000) : binV .add (.complex .f64 (F i) (F (i + 1))) (.complex .f64 4607182418800017408 0) = some (.complex .f64 (F (i + 1)) (F (i + 1))):=by
 have h0:=bits_add (i + 1) 0 (by omega)
 have h1:=bits_add i 1 (by omega)
 rw [F0,Nat.add_zero] at h0
 rw [F1] at h1
 show (if FloatKind.f64 = FloatKind.f64 then (cSumBits .add .f64 _ _ _ _).map _ else none) = _
 simp [cSumBits,h0,h1]
theorem ord400 {i : Nat} (h : i <= 1000) : FloatKind.f64.format.order (F i) 4645744490609377280 = some (compare i 400):=by
 rw [<- F400]; exact order_f64 i 400 (by omega) (by omega)
noncomputable def lgC : Code:=match Tryz.f51.body with | some (.seq _ (.scope (.seq _ (.seq _ c)))) => c | _ => .skip
def RunInv (H : AHeap) (q n : Name) (N i : Nat) (T : Temps) (H2 : AHeap) : Prop :=
 ∃ r,T 0 = .ptr q 0 /\ T 1 = restAV n N i /\ T 5 = .ptr r 0 /\ H r = none /\ H2 r = some [.ptr q 0,.val (.complex .f64 (F i) (F i))] /\ (∀ a row,H a = some row -> H2 a = some row)
set_option maxHeartbeats 2000000 in
theorem run_round {nm : Name} {H : AHeap} {q n : Name} {N : Nat} {row : List AV} (hN : N < 1000) (hn : H n = some row) (hst : Steps7 row N) (hw : WorldIs H q) {i c : Nat} {T : Temps} {H2 : AHeap} (hiN : i <= N) (hi : i <= 400) (hI : RunInv H q n N i T H2) :
  AWP Tryz.prog nm Tryz.f51.ntmps lgC (onGoto 0 (fun _ T' H' => ∃ m',m' < N - i /\ ∃ j,j <= N /\ j <= 400 /\ m' = N - j /\ RunInv H q n N j T' H') (fun e _ T' H₁ => (e = .normal \/ e = .ret) /\ (∃ l,ares Tryz.prog T' H₁ Tryz.f51.results.toList = some l /\ vi ((min N 400 : Nat) : Int) = ares1 l) /\ ∀ k row,H k = some row -> H₁ k = some row)) c T H2:=by
 obtain ⟨r,t0,t1,t5,hr,hr2,hsub⟩:=hI
 have hcall:=onF_ok step7_ok (@noCall_ok Tryz.prog)
 dsimp only [lgC,Tryz.f51]
 by_cases hlt : i < N
 ·obtain ⟨L,hL⟩ : ∃ L,L = 4 * (N - i):=⟨_,rfl⟩
  have e1 : T 1 = .sl n (4 * i) L 1:=by rw [t1,restAV,if_pos hlt,hL]
  have hl4 : ¬ (L : Int) < 4:=by omega
  have hl4' : (4 : Int) <= (L : Int):=by omega
  have hl4n : 4 <= L:=by omega
  by_cases h4 : i < 400
  ·have ho:=ord400 (i:=i) (by omega)
   rw [Nat.compare_eq_lt.2 h4] at ho
   have hs1:=sum_im (i:=i) (by omega)
   have hs2:=sum_re (i:=i) (by omega)
   obtain ⟨x,hx⟩ : ∃ x,x = F i:=⟨_,rfl⟩
   obtain ⟨y,hy⟩ : ∃ y,y = F (i + 1):=⟨_,rfl⟩
   rw [<- hx] at hr2 ho
   rw [<- hx,<- hy] at hs1
   rw [<- hx,<- hy] at hs2
   (repeat refine AWP.seq ?_)
   refine AWP.region_last hcall rfl fun K hK => ?_
   simp [e1,t5,hr2,hl4,hl4',ho]
   apply hK; clear hK K; simp only [onNormal,onExit]
   (repeat refine AWP.seq ?_); refine AWP.cond (b:=false) (by simp [hl4,hl4']) ?_; simp only [if_true,if_false,Bool.false_eq_true]
   refine AWP.skip ?_; simp only [onNormal,onExit]
   (repeat refine AWP.seq ?_)
   refine AWP.region_last hcall rfl fun K hK => ?_
   simp [-binV,t5,hr2,hs1]
   apply hK; clear hK K; simp only [onNormal,onExit]
   have hnr : n ≠ r:=by rintro rfl; rw [hr] at hn; cases hn
   obtain ⟨b0,b1,b2,b3⟩:=hst.2 i hlt
   have hrow : H2 n = some row:=hsub _ _ hn
   have h0 : 0 < L:=by omega
   have h1 : 1 < L:=by omega
   have h2 : 2 < L:=by omega
   have h3 : 3 < L:=by omega
   have hstep : ∀ nm' r1,step7S [.ptr r 0,vi 7,vi ((i : Int) % 256),vi 0,vi 0] nm' (upd H2 r (some [.ptr q 0,r1])) = some (vb true,upd H2 r (some [.ptr q 0,r1])):=fun nm' r1 => if_pos ⟨r,q,i % 256,r1,by rw [Int.natCast_emod]; rfl,Nat.mod_lt _ (by decide),by rw [upd_same],hw.mono fun a row' ha => by
    rw [upd_ne _ _ (by rintro rfl; rw [hr] at ha; cases ha)]; exact hsub _ _ ha⟩
   have hm : IntKind.i64.wrap ((i : Int) % 256) = (i : Int) % 256:=by rw [IntKind.wrap_i64]; omega
   have hm7 : IntKind.i64.wrap 7 = 7:=by rw [IntKind.wrap_i64]; rfl
   (repeat refine AWP.seq ?_)
   refine AWP.draw_last rfl hcall [0,0,2,6,14,0,32,96,224,0,512,1536,3584,0,8192,24576,57344,131071] [⟨0,false,[]⟩,⟨1,false,[]⟩,⟨2,false,[]⟩,⟨3,false,[0]⟩,⟨4,false,[0]⟩,⟨5,false,[]⟩,⟨6,false,[]⟩,⟨7,false,[0]⟩,⟨8,false,[0]⟩,⟨9,false,[]⟩,⟨10,false,[]⟩,⟨11,false,[0]⟩,⟨12,false,[0]⟩,⟨13,false,[]⟩,⟨14,false,[]⟩,⟨15,false,[0]⟩,⟨16,false,[0]⟩,⟨17,true,[]⟩] rfl (by kernel_rfl) fun K hK => ?_
   simp (maxDischargeDepth:=20) [planW,chkW,e1,t5,hrow,hnr,b0,b1,b2,b3,h0,h1,h2,h3,hstep,hm,hm7]
   apply hK; clear hK K; simp only [onNormal,onExit]
   (repeat refine AWP.seq ?_); refine AWP.cond (b:=true) (by simp) ?_; simp only [if_true,if_false,Bool.false_eq_true]
   (repeat refine AWP.seq ?_)
   refine AWP.region_last hcall rfl fun K hK => ?_
   simp [-binV,t5,hs2]
   apply hK; clear hK K; simp only [onNormal,onExit]
   by_cases hL4 : L = 4
   ·(repeat refine AWP.seq ?_)
    refine AWP.region_last hcall rfl fun K hK => ?_
    simp [e1,hL4]
    apply hK; clear hK K; simp only [onNormal,onExit]
    refine AWP.goto ?_; simp only [onNormal,onGoto]
    refine ⟨by trivial,N - (i + 1),by omega,i + 1,by omega,by omega,rfl,r,by simp [t0],?_,by simp [t5],hr,by simp [upd,hy],fun a row' ha => ?_⟩
    ·have : ¬ i + 1 < N:=by omega
     simp [restAV,this]
    ·rw [upd_ne _ _ (by rintro rfl; rw [hr] at ha; cases ha),upd_ne _ _ (by rintro rfl; rw [hr] at ha; cases ha)]; exact hsub _ _ ha
   ·have hL4' : ¬ (4 = L):=fun e => hL4 e.symm
    (repeat refine AWP.seq ?_)
    refine AWP.region_last hcall rfl fun K hK => ?_
    simp [e1,hL4,hL4',hl4n]
    apply hK; clear hK K; simp only [onNormal,onExit]
    refine AWP.goto ?_; simp only [onNormal,onGoto]
    refine ⟨by trivial,N - (i + 1),by omega,i + 1,by omega,by omega,rfl,r,by simp [t0],?_,by simp [t5],hr,by simp [upd,hy],fun a row' ha => ?_⟩
    ·have : i + 1 < N:=by omega
     simp [restAV,this]
     omega
    ·rw [upd_ne _ _ (by rintro rfl; rw [hr] at ha; cases ha),upd_ne _ _ (by rintro rfl; rw [hr] at ha; cases ha)]; exact hsub _ _ ha
  ·have h400 : i = 400:=by omega
   have ho:=ord400 (i:=i) (by omega)
   have hi4:=int_F i (by omega)
   rw [Nat.compare_eq_eq.2 h400] at ho
   have hmin : min N 400 = i:=by omega
   (repeat refine AWP.seq ?_)
   refine AWP.region_last hcall rfl fun K hK => ?_
   simp [e1,t5,hr2,hl4,hl4',ho]
   apply hK; clear hK K; simp only [onNormal,onExit]
   (repeat refine AWP.seq ?_); refine AWP.cond (b:=true) (by simp [hl4,hl4']) ?_; simp only [if_true,if_false,Bool.false_eq_true]
   (repeat refine AWP.seq ?_)
   refine AWP.region_last hcall rfl fun K hK => ?_
   simp [t5,hr2,hi4]
   apply hK; clear hK K; simp only [onNormal,onExit]
   (try refine AWP.ret ?_); (try simp only [onNormal,onExit]); refine ⟨by simp,⟨_,rfl,by simp [ares1,hmin]⟩,fun k row hk => ?_⟩
   exact hsub _ _ hk
 ·obtain rfl : i = N:=by omega
  have e1 : T 1 = .im true 0 []:=by rw [t1,restAV,if_neg (by omega)]
  have hi4:=int_F i (by omega)
  have hmin : min i 400 = i:=by omega
  (repeat refine AWP.seq ?_)
  refine AWP.region_last hcall rfl fun K hK => ?_
  simp [e1]
  apply hK; clear hK K; simp only [onNormal,onExit]
  (repeat refine AWP.seq ?_); refine AWP.cond (b:=true) (by simp) ?_; simp only [if_true,if_false,Bool.false_eq_true]
  (repeat refine AWP.seq ?_)
  refine AWP.region_last hcall rfl fun K hK => ?_
  simp [t5,hr2,hi4]
  apply hK; clear hK K; simp only [onNormal,onExit]
  (try refine AWP.ret ?_); (try simp only [onNormal,onExit]); refine ⟨by simp,⟨_,rfl,by simp [ares1,hmin]⟩,fun k row hk => ?_⟩
  exact hsub _ _ hk
set_option maxHeartbeats 2000000 in
theorem run_ok : FnOK Tryz.prog 51 runS:=by
 refine ⟨by kernel_rfl,fun args nm H r H' h => ?_⟩
 unfold runS at h
 split at h
 ·rename_i hc
  obtain ⟨q,n,N,row,rfl,⟨hN0,hN⟩,hn,hst,hw⟩:=hc
  simp only [Option.some.injEq,Prod.mk.injEq] at h
  obtain ⟨rfl,rfl⟩:=h
  have hk4 : 4 * N / 4 = N:=by omega
  rw [hk4]
  have hcall:=@noCall_ok Tryz.prog
  have hpl : places Tryz.prog [{ name:="w", type:=80, offset:=0, embedded:=false, tag:="", pkgPath:="comitia/script", byteOffset:=0 }, { name:="at", type:=210, offset:=1, embedded:=false, tag:="", pkgPath:="comitia/script", byteOffset:=8 }] = some [(0, 1), (1, 1)]:=by kernel_rfl
  refine sim_go Tryz.func51 rfl rfl (Nat.le_of_ble_eq_true rfl) fun hH => ?_
  (repeat refine AWP.seq ?_)
  refine AWP.region_last hcall rfl fun K hK => ?_
  simp
  apply hK; clear hK K; simp only [onNormal,onExit]
  (repeat refine AWP.seq ?_)
  refine AWP.scope 0 (fun m c' T H2 => ∃ j,j <= N /\ j <= 400 /\ m = N - j /\ RunInv H q n N j T H2) rfl ?_ ?_
  ·(repeat refine AWP.seq ?_)
   refine AWP.region_last hcall rfl fun K hK => ?_
   simp [hpl]
   apply hK; clear hK K; simp only [onNormal,onExit]
   (repeat refine AWP.seq ?_)
   refine AWP.label ?_; simp only [onNormal]
   refine AWP.mono (run_round hN hn hst hw (i:=0) (Nat.zero_le _) (Nat.zero_le _) ?_) ?_
   ·refine ⟨_,by simp; try rfl,by simp [restAV,hN0],by simp; try rfl,hH [_],by simp [F0],fun a row' ha => ?_⟩
    refine SubL.out ?_ a row' ha
    refine SubL.fresh (hH [_]) SubL.id
   ·rintro e c T H2 h
    cases e with
    | goto l => obtain ⟨h1,m',h2,h3⟩:=h; exact ⟨h1,m',h3⟩
    | _ => exact h
  ·rintro m c' T H2 ⟨j,h1,h2,rfl,hI⟩
   (repeat refine AWP.seq ?_)
   refine AWP.skip ?_; simp only [onNormal]
   exact run_round hN hn hst hw h1 h2 hI
 ·cases h
open Classical in
noncomputable def xrunS : Spec:=fun args nm H => if ∃ (q n : Name) (N : Nat) (row : List AV),args = [.ptr q 0,.sl n 0 (4 * N) 1] /\ (0 < N /\ N < 1000) /\ H n = some row /\ Steps7 row N /\ XWorldIs H q then
 (match args with
  | [_,.sl _ _ k _] => some (vi (min (k / 4) 400 : Nat),H)
  | _ => none) else none
set_option maxHeartbeats 2000000 in
theorem xrun7_ok : FnOK Tryz.prog 52 xrunS:=by
 refine ⟨by kernel_rfl,fun args nm H r H' h => ?_⟩
 unfold xrunS at h
 split at h
 ·rename_i hc
  obtain ⟨q,n,N,row,rfl,⟨hN0,hN⟩,hn,hst,hw⟩:=hc
  simp only [Option.some.injEq,Prod.mk.injEq] at h
  obtain ⟨rfl,rfl⟩:=h
  have hk4 : 4 * N / 4 = N:=by omega
  rw [hk4]
  have hcall:=onF_ok net7_ok (@noCall_ok Tryz.prog)
  refine sim_go Tryz.func52 rfl rfl (Nat.le_of_ble_eq_true rfl) fun hH => ?_
  (repeat refine AWP.seq ?_)
  refine AWP.region_last hcall rfl fun K hK => ?_
  simp
  apply hK; clear hK K; simp only [onNormal,onExit]
  (repeat refine AWP.seq ?_)
  refine AWP.region_last hcall rfl fun K hK => ?_
  simp
  apply hK; clear hK K; simp only [onNormal,onExit]
  (repeat refine AWP.seq ?_)
  refine AWP.region_last hcall rfl fun K hK => ?_
  simp
  apply hK; clear hK K; simp only [onNormal,onExit]
  (repeat refine AWP.seq ?_); refine AWP.block ?_
  refine AWP.loop (fun m c' T H2 => ∃ j,j <= N /\ j <= 400 /\ m = N - j /\ T 0 = .ptr q 0 /\ T 1 = .sl n 0 (4 * N) 1 /\ T 5 = vi (j : Nat) /\ T 6 = vi ((4 * j : Nat) : Int) /\ H2 = H) N ⟨0,by omega,by omega,by omega,by simp,by simp,by simp,by simp,rfl⟩ ?_
  rintro m c' T H2 ⟨j,hjN,hj,rfl,t0,t1,t5,t6,rfl⟩
  have hw4 : IntKind.i64.wrap (((4 * j : Nat) : Int) + 4) = ((4 * (j + 1) : Nat) : Int):=by rw [IntKind.wrap_i64]; omega
  by_cases hgo : j < N /\ j < 400
  ·have hle : ((4 * (j + 1) : Nat) : Int) <= ((4 * N : Nat) : Int):=by omega
   have hlt : ((4 * j : Nat) : Int) < 1600:=by omega
   obtain ⟨b0,b1,b2,b3⟩:=hst.2 j hgo.1
   have hw1 : IntKind.i64.wrap (((4 * j : Nat) : Int) + 1) = ((4 * j + 1 : Nat) : Int):=by rw [IntKind.wrap_i64]; omega
   have hw2 : IntKind.i64.wrap (((4 * j : Nat) : Int) + 2) = ((4 * j + 2 : Nat) : Int):=by rw [IntKind.wrap_i64]; omega
   have hw3 : IntKind.i64.wrap (((4 * j : Nat) : Int) + 3) = ((4 * j + 3 : Nat) : Int):=by rw [IntKind.wrap_i64]; omega
   have l0 : 4 * j < 4 * N:=by omega
   have l1 : 4 * j + 1 < 4 * N:=by omega
   have l2 : 4 * j + 2 < 4 * N:=by omega
   have l3 : 4 * j + 3 < 4 * N:=by omega
   have hm : IntKind.i64.wrap ((j : Int) % 256) = (j : Int) % 256:=by rw [IntKind.wrap_i64]; omega
   have hm7 : IntKind.i64.wrap 7 = 7:=by rw [IntKind.wrap_i64]; rfl
   have hnet : ∀ nm',net7S [.ptr q 0,vi 7,vi ((j : Int) % 256),vi 0,vi 0] nm' H2 = some (vi 1,H2):=fun nm' => if_pos ⟨q,j % 256,by rw [Int.natCast_emod]; rfl,Nat.mod_lt _ (by decide),hw⟩
   have hj1 : IntKind.i64.wrap ((j : Int) + 1) = ((j + 1 : Nat) : Int):=by rw [IntKind.wrap_i64]; omega
   have hd : ∃ LN Lj Lk : Nat,LN = 4 * N /\ Lj = 4 * j /\ Lk = 4 * (j + 1):=⟨_,_,_,rfl,rfl,rfl⟩
   obtain ⟨LN,Lj,Lk,hLN,hLj,hLk⟩:=hd
   rw [<- hLN] at t1 hle l0 l1 l2 l3
   rw [<- hLj] at t6 hw4 hlt hw1 hw2 hw3 l0 l1 l2 l3 b0 b1 b2 b3
   rw [<- hLk] at hw4 hle
   have p1 : (0 : Int) <= (Lj : Int) + 1:=by omega
   have p2 : (0 : Int) <= (Lj : Int) + 2:=by omega
   have p3 : (0 : Int) <= (Lj : Int) + 3:=by omega
   have q1 : (Lj : Int) + 1 < (LN : Int):=by omega
   have q2 : (Lj : Int) + 2 < (LN : Int):=by omega
   have q3 : (Lj : Int) + 3 < (LN : Int):=by omega
   have n1 : ((Lj : Int) + 1).toNat = Lj + 1:=by omega
   have n2 : ((Lj : Int) + 2).toNat = Lj + 2:=by omega
   have n3 : ((Lj : Int) + 3).toNat = Lj + 3:=by omega
   (repeat refine AWP.seq ?_)
   refine AWP.region_last hcall rfl fun K hK => ?_
   simp [t1,t6,hw4,hle,hlt]
   apply hK; clear hK K; simp only [onNormal,onExit]
   (repeat refine AWP.seq ?_); refine AWP.cond (b:=true) (by simp [hle,hlt]) ?_; simp only [if_true,if_false,Bool.false_eq_true]
   refine AWP.skip ?_; simp only [onNormal,onExit]
   (repeat refine AWP.seq ?_); refine AWP.block ?_
   (repeat refine AWP.seq ?_)
   refine AWP.draw_ops rfl hcall [0,0,3,7,15,31,0,0,128,448,960,1984,0,0,8192,28672,61440,126976,0,0,524288,1835008,3932160,8126464,63,16781311,50593791,134217727] [⟨0,false,[]⟩,⟨1,false,[]⟩,⟨2,false,[]⟩,⟨3,false,[0]⟩,⟨4,false,[0]⟩,⟨5,false,[]⟩,⟨6,false,[]⟩,⟨7,false,[]⟩,⟨8,false,[]⟩,⟨9,false,[]⟩,⟨10,false,[0]⟩,⟨11,false,[0]⟩,⟨12,false,[]⟩,⟨13,false,[]⟩,⟨14,false,[]⟩,⟨15,false,[]⟩,⟨16,false,[0]⟩,⟨17,false,[0]⟩,⟨18,false,[]⟩,⟨19,false,[]⟩,⟨20,false,[]⟩,⟨21,false,[]⟩,⟨22,false,[0]⟩,⟨23,false,[0]⟩,⟨24,false,[]⟩,⟨25,false,[]⟩,⟨26,false,[]⟩,⟨27,false,[]⟩] rfl (by kernel_rfl) fun ops' hops K hK => ?_
   have o_0:=op_at hops 0 rfl
   have o_1:=op_at hops 1 rfl
   have o_2:=op_at hops 2 rfl
   have o_3:=op_at hops 3 rfl
   have o_4:=op_at hops 4 rfl
   have o_5:=op_at hops 5 rfl
   have o_6:=op_at hops 6 rfl
   have o_7:=op_at hops 7 rfl
   have o_8:=op_at hops 8 rfl
   have o_9:=op_at hops 9 rfl
   have o_10:=op_at hops 10 rfl
   have o_11:=op_at hops 11 rfl
   have o_12:=op_at hops 12 rfl
   have o_13:=op_at hops 13 rfl
   have o_14:=op_at hops 14 rfl
   have o_15:=op_at hops 15 rfl
   have o_16:=op_at hops 16 rfl
   have o_17:=op_at hops 17 rfl
   have o_18:=op_at hops 18 rfl
   have o_19:=op_at hops 19 rfl
   have o_20:=op_at hops 20 rfl
   have o_21:=op_at hops 21 rfl
   have o_22:=op_at hops 22 rfl
   have o_23:=op_at hops 23 rfl
   have o_24:=op_at hops 24 rfl
   have o_25:=op_at hops 25 rfl
   have o_26:=op_at hops 26 rfl
   have o_27:=op_at hops 27 rfl
   have o_sz : ops'.size = 28:=op_sz hops rfl
   clear hops
   refine planW_ex o_0 rfl rfl ⟨_,by simp [t1,t6,hn,hw1,hw2,hw3,l0,l1,l2,l3,b0,b1,b2,b3,hm,hm7,p1,p2,p3,q1,q2,q3,n1,n2,n3]; try rfl,trivial,?_⟩
   clear o_0
   refine planW_ex o_1 rfl rfl ⟨_,by simp [t1,t6,hn,hw1,hw2,hw3,l0,l1,l2,l3,b0,b1,b2,b3,hm,hm7,p1,p2,p3,q1,q2,q3,n1,n2,n3]; try rfl,trivial,?_⟩
   clear o_1
   refine planW_ex o_2 rfl rfl ⟨_,by simp [t1,t6,hn,hw1,hw2,hw3,l0,l1,l2,l3,b0,b1,b2,b3,hm,hm7,p1,p2,p3,q1,q2,q3,n1,n2,n3]; try rfl,trivial,?_⟩
   clear o_2
   refine planW_ex o_3 rfl rfl ⟨_,by simp [t1,t6,hn,hw1,hw2,hw3,l0,l1,l2,l3,b0,b1,b2,b3,hm,hm7,p1,p2,p3,q1,q2,q3,n1,n2,n3]; try rfl,by simp [chkW,List.lookup,t1,t6,hn,hw1,hw2,hw3,l0,l1,l2,l3,b0,b1,b2,b3,hm,hm7,p1,p2,p3,q1,q2,q3,n1,n2,n3],?_⟩
   clear o_3
   refine planW_ex o_4 rfl rfl ⟨_,by simp [t1,t6,hn,hw1,hw2,hw3,l0,l1,l2,l3,b0,b1,b2,b3,hm,hm7,p1,p2,p3,q1,q2,q3,n1,n2,n3]; try rfl,by simp [chkW,List.lookup,t1,t6,hn,hw1,hw2,hw3,l0,l1,l2,l3,b0,b1,b2,b3,hm,hm7,p1,p2,p3,q1,q2,q3,n1,n2,n3],?_⟩
   clear o_4
   refine planW_ex o_5 rfl rfl ⟨_,by simp [t1,t6,hn,hw1,hw2,hw3,l0,l1,l2,l3,b0,b1,b2,b3,hm,hm7,p1,p2,p3,q1,q2,q3,n1,n2,n3]; try rfl,trivial,?_⟩
   clear o_5
   refine planW_ex o_6 rfl rfl ⟨_,by simp [t1,t6,hn,hw1,hw2,hw3,l0,l1,l2,l3,b0,b1,b2,b3,hm,hm7,p1,p2,p3,q1,q2,q3,n1,n2,n3]; try rfl,trivial,?_⟩
   clear o_6
   refine planW_ex o_7 rfl rfl ⟨_,by simp [t1,t6,hn,hw1,hw2,hw3,l0,l1,l2,l3,b0,b1,b2,b3,hm,hm7,p1,p2,p3,q1,q2,q3,n1,n2,n3]; try rfl,trivial,?_⟩
   clear o_7
   refine planW_ex o_8 rfl rfl ⟨_,by simp [t1,t6,hn,hw1,hw2,hw3,l0,l1,l2,l3,b0,b1,b2,b3,hm,hm7,p1,p2,p3,q1,q2,q3,n1,n2,n3]; try rfl,trivial,?_⟩
   clear o_8
   refine planW_ex o_9 rfl rfl ⟨_,by simp [t1,t6,hn,hw1,hw2,hw3,l0,l1,l2,l3,b0,b1,b2,b3,hm,hm7,p1,p2,p3,q1,q2,q3,n1,n2,n3]; try rfl,trivial,?_⟩
   clear o_9
   refine planW_ex o_10 rfl rfl ⟨_,by simp [t1,t6,hn,hw1,hw2,hw3,l0,l1,l2,l3,b0,b1,b2,b3,hm,hm7,p1,p2,p3,q1,q2,q3,n1,n2,n3]; try rfl,by simp [chkW,List.lookup,t1,t6,hn,hw1,hw2,hw3,l0,l1,l2,l3,b0,b1,b2,b3,hm,hm7,p1,p2,p3,q1,q2,q3,n1,n2,n3],?_⟩
   clear o_10
   refine planW_ex o_11 rfl rfl ⟨_,by simp [t1,t6,hn,hw1,hw2,hw3,l0,l1,l2,l3,b0,b1,b2,b3,hm,hm7,p1,p2,p3,q1,q2,q3,n1,n2,n3]; try rfl,by simp [chkW,List.lookup,t1,t6,hn,hw1,hw2,hw3,l0,l1,l2,l3,b0,b1,b2,b3,hm,hm7,p1,p2,p3,q1,q2,q3,n1,n2,n3],?_⟩
   clear o_11
   refine planW_ex o_12 rfl rfl ⟨_,by simp [t1,t6,hn,hw1,hw2,hw3,l0,l1,l2,l3,b0,b1,b2,b3,hm,hm7,p1,p2,p3,q1,q2,q3,n1,n2,n3]; try rfl,trivial,?_⟩
   clear o_12
   refine planW_ex o_13 rfl rfl ⟨_,by simp [t1,t6,hn,hw1,hw2,hw3,l0,l1,l2,l3,b0,b1,b2,b3,hm,hm7,p1,p2,p3,q1,q2,q3,n1,n2,n3]; try rfl,trivial,?_⟩
   clear o_13
   refine planW_ex o_14 rfl rfl ⟨_,by simp [t1,t6,hn,hw1,hw2,hw3,l0,l1,l2,l3,b0,b1,b2,b3,hm,hm7,p1,p2,p3,q1,q2,q3,n1,n2,n3]; try rfl,trivial,?_⟩
   clear o_14
   refine planW_ex o_15 rfl rfl ⟨_,by simp [t1,t6,hn,hw1,hw2,hw3,l0,l1,l2,l3,b0,b1,b2,b3,hm,hm7,p1,p2,p3,q1,q2,q3,n1,n2,n3]; try rfl,trivial,?_⟩
   clear o_15
   refine planW_ex o_16 rfl rfl ⟨_,by simp [t1,t6,hn,hw1,hw2,hw3,l0,l1,l2,l3,b0,b1,b2,b3,hm,hm7,p1,p2,p3,q1,q2,q3,n1,n2,n3]; try rfl,by simp [chkW,List.lookup,t1,t6,hn,hw1,hw2,hw3,l0,l1,l2,l3,b0,b1,b2,b3,hm,hm7,p1,p2,p3,q1,q2,q3,n1,n2,n3],?_⟩
   clear o_16
   refine planW_ex o_17 rfl rfl ⟨_,by simp [t1,t6,hn,hw1,hw2,hw3,l0,l1,l2,l3,b0,b1,b2,b3,hm,hm7,p1,p2,p3,q1,q2,q3,n1,n2,n3]; try rfl,by simp [chkW,List.lookup,t1,t6,hn,hw1,hw2,hw3,l0,l1,l2,l3,b0,b1,b2,b3,hm,hm7,p1,p2,p3,q1,q2,q3,n1,n2,n3],?_⟩
   clear o_17
   refine planW_ex o_18 rfl rfl ⟨_,by simp [t1,t6,hn,hw1,hw2,hw3,l0,l1,l2,l3,b0,b1,b2,b3,hm,hm7,p1,p2,p3,q1,q2,q3,n1,n2,n3]; try rfl,trivial,?_⟩
   clear o_18
   refine planW_ex o_19 rfl rfl ⟨_,by simp [t1,t6,hn,hw1,hw2,hw3,l0,l1,l2,l3,b0,b1,b2,b3,hm,hm7,p1,p2,p3,q1,q2,q3,n1,n2,n3]; try rfl,trivial,?_⟩
   clear o_19
   refine planW_ex o_20 rfl rfl ⟨_,by simp [t1,t6,hn,hw1,hw2,hw3,l0,l1,l2,l3,b0,b1,b2,b3,hm,hm7,p1,p2,p3,q1,q2,q3,n1,n2,n3]; try rfl,trivial,?_⟩
   clear o_20
   refine planW_ex o_21 rfl rfl ⟨_,by simp [t1,t6,hn,hw1,hw2,hw3,l0,l1,l2,l3,b0,b1,b2,b3,hm,hm7,p1,p2,p3,q1,q2,q3,n1,n2,n3]; try rfl,trivial,?_⟩
   clear o_21
   refine planW_ex o_22 rfl rfl ⟨_,by simp [t1,t6,hn,hw1,hw2,hw3,l0,l1,l2,l3,b0,b1,b2,b3,hm,hm7,p1,p2,p3,q1,q2,q3,n1,n2,n3]; try rfl,by simp [chkW,List.lookup,t1,t6,hn,hw1,hw2,hw3,l0,l1,l2,l3,b0,b1,b2,b3,hm,hm7,p1,p2,p3,q1,q2,q3,n1,n2,n3],?_⟩
   clear o_22
   refine planW_ex o_23 rfl rfl ⟨_,by simp [t1,t6,hn,hw1,hw2,hw3,l0,l1,l2,l3,b0,b1,b2,b3,hm,hm7,p1,p2,p3,q1,q2,q3,n1,n2,n3]; try rfl,by simp [chkW,List.lookup,t1,t6,hn,hw1,hw2,hw3,l0,l1,l2,l3,b0,b1,b2,b3,hm,hm7,p1,p2,p3,q1,q2,q3,n1,n2,n3],?_⟩
   clear o_23
   refine planW_ex o_24 rfl rfl ⟨_,by simp [t1,t6,hn,hw1,hw2,hw3,l0,l1,l2,l3,b0,b1,b2,b3,hm,hm7,p1,p2,p3,q1,q2,q3,n1,n2,n3]; try rfl,trivial,?_⟩
   clear o_24
   refine planW_ex o_25 rfl rfl ⟨_,by simp [t1,t6,hn,hw1,hw2,hw3,l0,l1,l2,l3,b0,b1,b2,b3,hm,hm7,p1,p2,p3,q1,q2,q3,n1,n2,n3]; try rfl,trivial,?_⟩
   clear o_25
   refine planW_ex o_26 rfl rfl ⟨_,by simp [t1,t6,hn,hw1,hw2,hw3,l0,l1,l2,l3,b0,b1,b2,b3,hm,hm7,p1,p2,p3,q1,q2,q3,n1,n2,n3]; try rfl,trivial,?_⟩
   clear o_26
   refine planW_ex o_27 rfl rfl ⟨_,by simp [t1,t6,hn,hw1,hw2,hw3,l0,l1,l2,l3,b0,b1,b2,b3,hm,hm7,p1,p2,p3,q1,q2,q3,n1,n2,n3]; try rfl,trivial,?_⟩
   clear o_27
   refine planW_end o_sz ?_
   apply hK; clear hK K o_sz; simp only [onNormal,onExit,tput]
   (repeat refine AWP.seq ?_); refine AWP.block ?_
   (repeat refine AWP.seq ?_)
   refine AWP.region_last hcall rfl fun K hK => ?_
   simp
   apply hK; clear hK K; simp only [onNormal,onExit]
   (repeat refine AWP.seq ?_); refine AWP.cond (b:=false) (by simp) ?_; simp only [if_true,if_false,Bool.false_eq_true]
   (repeat refine AWP.seq ?_)
   refine AWP.region_last hcall rfl fun K hK => ?_
   simp
   apply hK; clear hK K; simp only [onNormal,onExit]
   (repeat refine AWP.seq ?_); refine AWP.cond (b:=false) (by simp) ?_; simp only [if_true,if_false,Bool.false_eq_true]
   (repeat refine AWP.seq ?_)
   refine AWP.region_last hcall rfl fun K hK => ?_
   simp
   apply hK; clear hK K; simp only [onNormal,onExit]
   (repeat refine AWP.seq ?_); refine AWP.cond (b:=false) (by simp) ?_; simp only [if_true,if_false,Bool.false_eq_true]
   (repeat refine AWP.seq ?_)
   refine AWP.region_last hcall rfl fun K hK => ?_
   simp [t0,t5,hnet,hj1]
   apply hK; clear hK K; simp only [onNormal,onExit]
   (repeat refine AWP.seq ?_)
   refine AWP.region_last hcall rfl fun K hK => ?_
   simp [t6,hw4]
   apply hK; clear hK K; simp only [onNormal,onExit]
   refine ⟨N - (j + 1),by omega,j + 1,by omega,by omega,rfl,by simp [t0],by simp [t1,hLN],by simp,by simp [hLk],trivial⟩
  ·have hout : j = min N 400:=by omega
   by_cases hN4 : j < N
   ·have hle : ((4 * (j + 1) : Nat) : Int) <= ((4 * N : Nat) : Int):=by omega
    have hlt : ¬ ((4 * j : Nat) : Int) < 1600:=by omega
    have hd : ∃ LN Lj Lk : Nat,LN = 4 * N /\ Lj = 4 * j /\ Lk = 4 * (j + 1):=⟨_,_,_,rfl,rfl,rfl⟩
    obtain ⟨LN,Lj,Lk,hLN,hLj,hLk⟩:=hd
    rw [<- hLN] at t1 hle
    rw [<- hLj] at t6 hw4 hlt
    rw [<- hLk] at hw4 hle
    (repeat refine AWP.seq ?_)
    refine AWP.region_last hcall rfl fun K hK => ?_
    simp [t1,t6,hw4,hle,hlt]
    apply hK; clear hK K; simp only [onNormal,onExit]
    (repeat refine AWP.seq ?_); refine AWP.cond (b:=false) (by simp [hle,hlt]) ?_; simp only [if_true,if_false,Bool.false_eq_true]
    refine AWP.exit ?_; simp only [onNormal,onExit,if_true,reduceCtorEq,if_false]
    (repeat refine AWP.seq ?_)
    refine AWP.region_last hcall rfl fun K hK => ?_
    simp [t5]
    apply hK; clear hK K; simp only [onNormal,onExit]
    (try refine AWP.ret ?_); (try simp only [onNormal,onExit]); refine ⟨by simp,⟨_,rfl,by simp [ares1,hout]⟩,fun k row hk => ?_⟩
    exact hk
   ·have hle : ¬ ((4 * (j + 1) : Nat) : Int) <= ((4 * N : Nat) : Int):=by omega
    have hd : ∃ LN Lj Lk : Nat,LN = 4 * N /\ Lj = 4 * j /\ Lk = 4 * (j + 1):=⟨_,_,_,rfl,rfl,rfl⟩
    obtain ⟨LN,Lj,Lk,hLN,hLj,hLk⟩:=hd
    rw [<- hLN] at t1 hle
    rw [<- hLj] at t6 hw4
    rw [<- hLk] at hw4 hle
    (repeat refine AWP.seq ?_)
    refine AWP.region_last hcall rfl fun K hK => ?_
    simp [t1,t6,hw4,hle]
    apply hK; clear hK K; simp only [onNormal,onExit]
    (repeat refine AWP.seq ?_); refine AWP.cond (b:=false) (by simp [hle]) ?_; simp only [if_true,if_false,Bool.false_eq_true]
    refine AWP.exit ?_; simp only [onNormal,onExit,if_true,reduceCtorEq,if_false]
    (repeat refine AWP.seq ?_)
    refine AWP.region_last hcall rfl fun K hK => ?_
    simp [t5]
    apply hK; clear hK K; simp only [onNormal,onExit]
    (try refine AWP.ret ?_); (try simp only [onNormal,onExit]); refine ⟨by simp,⟨_,rfl,by simp [ares1,hout]⟩,fun k row hk => ?_⟩
    exact hk
 ·cases h
def stepsRow : Nat -> List AV
 | 0 => []
 | n + 1 => stepsRow n ++ [v8 7,v8 (n % 256),v8 0,v8 0]
theorem stepsRow_length : ∀ n,(stepsRow n).length = 4 * n
 | 0 => rfl
 | n + 1 => by rw [stepsRow,List.length_append,stepsRow_length n]; simp; omega
theorem stepsRow_get : ∀ (n i k : Nat),i < n -> k < 4 -> (stepsRow n)[4 * i + k]? = [v8 7,v8 (i % 256),v8 0,v8 0][k]?
 | 0,i,k,h,_ => by omega
 | n + 1,i,k,h,hk => by
  rw [stepsRow]
  by_cases hi : i < n
  ·rw [List.getElem?_append_left (by rw [stepsRow_length]; omega),stepsRow_get n i k hi hk]
  ·obtain rfl : i = n:=by omega
   rw [List.getElem?_append_right (by rw [stepsRow_length]; omega),stepsRow_length]
   congr 1; omega
theorem stepsRow_steps (n : Nat) : Steps7 (stepsRow n) n:=by
 refine ⟨by rw [stepsRow_length]; omega,fun i hi => ⟨?_,?_,?_,?_⟩⟩
 ·exact stepsRow_get n i 0 hi (by omega)
 ·exact stepsRow_get n i 1 hi (by omega)
 ·exact stepsRow_get n i 2 hi (by omega)
 ·exact stepsRow_get n i 3 hi (by omega)
theorem stepsRow_part {n i : Nat} (h : i < n) : ((stepsRow n).drop (4 * i)).take 4 = [v8 7,v8 (i % 256),v8 0,v8 0]:=by
 apply List.ext_getElem?
 intro k
 by_cases hk : k < 4
 ·rw [List.getElem?_take_of_lt hk,List.getElem?_drop,stepsRow_get n i k h hk]
 ·rw [List.getElem?_take_eq_none (by omega)]
  rw [List.getElem?_eq_none]
  simp; omega
theorem stepsRow_all (n : Nat) : (stepsRow n).all AV.one = true:=by
 induction n with
 | zero => rfl
 | succ n ih => rw [stepsRow,List.all_append,ih]; rfl
open Classical in
noncomputable def scbytesS : Spec:=fun args nm H => if ∃ (m : Name) (N : Nat),args = [.sl m 0 N 4] /\ (0 < N /\ N < 1000) /\ H m = some (stepsRow N) then
 (match args with
  | [.sl _ _ N _] => some (.sl nm 0 (4 * N) 1,upd H nm (some (stepsRow N)))
  | _ => none) else none
set_option maxHeartbeats 2000000 in
theorem scbytes_ok : FnOK Tryz.prog 48 scbytesS:=by
 refine ⟨by kernel_rfl,fun args nm H r H' h => ?_⟩
 unfold scbytesS at h
 split at h
 ·rename_i hc
  obtain ⟨m0,N,rfl,⟨hN0,hN⟩,hm⟩:=hc
  simp only [Option.some.injEq,Prod.mk.injEq] at h
  obtain ⟨rfl,rfl⟩:=h
  have hcall:=@noCall_ok Tryz.prog
  refine sim_row Tryz.func48 rfl rfl (Nat.le_of_ble_eq_true rfl) fun hH => ?_
  (repeat refine AWP.seq ?_)
  refine AWP.region_last hcall rfl fun K hK => ?_
  simp
  apply hK; clear hK K; simp only [onNormal,onExit]
  (repeat refine AWP.seq ?_)
  refine AWP.region_last hcall rfl fun K hK => ?_
  simp
  apply hK; clear hK K; simp only [onNormal,onExit]
  (repeat refine AWP.seq ?_)
  refine AWP.region_last hcall rfl fun K hK => ?_
  simp
  apply hK; clear hK K; simp only [onNormal,onExit]
  (repeat refine AWP.seq ?_); refine AWP.block ?_
  refine AWP.loop (fun m c' T H2 => ∃ i,i <= N /\ m = N - i /\ T 6 = .sl m0 0 N 4 /\ T 7 = vi (N : Nat) /\ T 8 = vi (i : Nat) /\ ((i = 0 /\ T 3 = vnil) \/ (0 < i /\ ∃ x,T 3 = .sl x 0 (4 * i) 1 /\ H x = none /\ H2 x = some (stepsRow i))) /\ (∀ a r,H a = some r -> H2 a = some r)) N ⟨0,by omega,rfl,by simp,by simp,by simp,.inl ⟨rfl,by simp⟩,fun a r h => h⟩ ?_
  rintro m c' T H2 ⟨i,hiN,rfl,t6,t7,t8,t3,hsub⟩
  have hm2 : H2 m0 = some (stepsRow N):=hsub _ _ hm
  refine AWP.known_fresh fun hfr => ?_
  by_cases hlt : i < N
  ·have hlt' : (i : Int) < (N : Int):=by omega
   have hpart:=stepsRow_part hlt
   rw [Nat.mul_comm 4 i] at hpart
   have hln : i * 4 + 4 <= (stepsRow N).length:=by rw [stepsRow_length]; omega
   (repeat refine AWP.seq ?_)
   refine AWP.region_last hcall rfl fun K hK => ?_
   simp [t6,t7,t8,hlt']
   apply hK; clear hK K; simp only [onNormal,onExit]
   (repeat refine AWP.seq ?_); refine AWP.cond (b:=true) (by simp [hlt']) ?_; simp only [if_true,if_false,Bool.false_eq_true]
   refine AWP.skip ?_; simp only [onNormal,onExit]
   (repeat refine AWP.seq ?_); refine AWP.block ?_
   (repeat refine AWP.seq ?_)
   refine AWP.region_last hcall rfl fun K hK => ?_
   simp [t6,t7,t8,hlt,hm2,hpart,hln]
   apply hK; clear hK K; simp only [onNormal,onExit]
   rcases t3 with ⟨rfl,t3⟩ | ⟨hi0,x,t3,hx,hxr⟩
   ·(repeat refine AWP.seq ?_)
    refine AWP.region_last hcall rfl fun K hK => ?_
    simp [t3]
    apply hK; clear hK K; simp only [onNormal,onExit]
    (repeat refine AWP.seq ?_)
    refine AWP.region_last hcall rfl fun K hK => ?_
    simp [t8]
    apply hK; clear hK K; simp only [onNormal,onExit]
    refine ⟨N - 1,by omega,1,by omega,rfl,by simp [t6],by simp [t7],by simp,.inr ⟨by omega,(c' + 1 + 4 + 2) :: 0 :: nm,by simp,hH [_],by simp [stepsRow]⟩,?_⟩
    exact SubL.out (SubL.fresh (hH [_]) (SubL.fresh (hH [_]) (SubL.fresh (hH [_]) fun a r _ h => hsub a r h)))
   ·have hx2 : ¬ x = (c' + 1 + 2) :: 0 :: nm:=fun e => ne_fresh hfr hxr (c' + 1 + 2) (by omega) e
    have hx6 : ¬ x = (c' + 1 + 4 + 2) :: 0 :: nm:=fun e => ne_fresh hfr hxr (c' + 1 + 4 + 2) (by omega) e
    have hx2' : ¬ (c' + 1 + 2) :: 0 :: nm = x:=fun e => hx2 e.symm
    have hx6' : ¬ (c' + 1 + 4 + 2) :: 0 :: nm = x:=fun e => hx6 e.symm
    have hsl:=stepsRow_length i
    have htk : (stepsRow i).take (4 * i) = stepsRow i:=List.take_of_length_le (by omega)
    have hle : 4 * i <= (stepsRow i).length:=by omega
    have hb1 : 4 * i + 4 <= 140737488355328:=by omega
    have hw : IntKind.i64.wrap ((i : Int) + 1) = ((i + 1 : Nat) : Int):=by rw [IntKind.wrap_i64]; omega
    (repeat refine AWP.seq ?_)
    refine AWP.region_last hcall rfl fun K hK => ?_
    simp (maxDischargeDepth:=20) [t3,hxr,hx2,hx6,hx2',hx6',htk,hle,hb1]
    apply hK; clear hK K; simp only [onNormal,onExit]
    (repeat refine AWP.seq ?_)
    refine AWP.region_last hcall rfl fun K hK => ?_
    simp [t8,hw]
    apply hK; clear hK K; simp only [onNormal,onExit]
    refine ⟨N - (i + 1),by omega,i + 1,by omega,rfl,by simp [t6],by simp [t7],by simp,.inr ⟨by omega,(c' + 1 + 4 + 2) :: 0 :: nm,by simp; try omega,hH [_],by simp [stepsRow]⟩,?_⟩
    refine SubL.out (SubL.fresh (hH [_]) ?_)
    intro a r hh ha
    rw [upd_ne _ _ (by rintro rfl; rw [hx] at ha; cases ha)]
    exact SubL.out (SubL.fresh (hH [_]) (SubL.fresh (hH [_]) fun a r _ h => hsub a r h)) a r ha
  ·obtain rfl : i = N:=by omega
   rcases t3 with ⟨h0,_⟩ | ⟨hi0,x,t3,hx,hxr⟩
   ·omega
   have hlt' : ¬ (i : Int) < (i : Int):=by omega
   have hsl:=stepsRow_length i
   have htk : (stepsRow i).take (4 * i) = stepsRow i:=List.take_of_length_le (by omega)
   have hle : 4 * i <= (stepsRow i).length:=by omega
   have hb1 : 4 * i <= 140737488355328:=by omega
   have hi1 : ¬ i = 0:=by omega
   have hone : (∀ y,y ∈ stepsRow i -> y.one = true) ↔ True:=iff_true_intro (List.all_eq_true.1 (stepsRow_all i))
   have h40 : ¬ 4 * i = 0:=by omega
   (repeat refine AWP.seq ?_)
   refine AWP.region_last hcall rfl fun K hK => ?_
   simp [t7,t8]
   apply hK; clear hK K; simp only [onNormal,onExit]
   (repeat refine AWP.seq ?_); refine AWP.cond (b:=false) (by simp) ?_; simp only [if_true,if_false,Bool.false_eq_true]
   refine AWP.exit ?_; simp only [onNormal,onExit,if_true,reduceCtorEq,if_false]
   (repeat refine AWP.seq ?_)
   refine AWP.region_last hcall rfl fun K hK => ?_
   simp (maxDischargeDepth:=20) [t3,hxr,htk,hle,hb1,hi1,hsl,h40,hone]
   apply hK; clear hK K; simp only [onNormal,onExit]
   (try refine AWP.ret ?_); (try simp only [onNormal,onExit]); refine ⟨by simp,_,rfl,?_,?_,fun k row hk => ?_⟩
   ·exact hH [_]
   ·simp
   ·exact SubL.out (SubL.fresh (hH [_]) fun a r _ h => hsub a r h) k row hk
 ·cases h
open FI
def knRow : Nat -> List AV
 | 0 => []
 | n + 1 => knRow n ++ [v8 1,v8 2,v8 3,v8 4]
theorem knRow_length : ∀ n,(knRow n).length = 4 * n
 | 0 => rfl
 | n + 1 => by rw [knRow,List.length_append,knRow_length n]; simp; omega
theorem knRow_get : ∀ (n i k : Nat),i < n -> k < 4 -> (knRow n)[4 * i + k]? = [v8 1,v8 2,v8 3,v8 4][k]?
 | 0,i,k,h,_ => by omega
 | n + 1,i,k,h,hk => by
  rw [knRow]
  by_cases hi : i < n
  ·rw [List.getElem?_append_left (by rw [knRow_length]; omega),knRow_get n i k hi hk]
  ·obtain rfl : i = n:=by omega
   rw [List.getElem?_append_right (by rw [knRow_length]; omega),knRow_length]
   congr 1; omega
theorem knRow_part {n i : Nat} (h : i < n) : ((knRow n).drop (4 * i)).take 4 = [v8 1,v8 2,v8 3,v8 4]:=by
 apply List.ext_getElem?
 intro k
 by_cases hk : k < 4
 ·rw [List.getElem?_take_of_lt hk,List.getElem?_drop,knRow_get n i k h hk]
 ·rw [List.getElem?_take_eq_none (by omega)]
  rw [List.getElem?_eq_none]
  simp; omega
theorem knRow_all (n : Nat) : (knRow n).all AV.one = true:=by
 induction n with
 | zero => rfl
 | succ n ih => rw [knRow,List.all_append,ih]; rfl
open Classical in
noncomputable def knbytesS : Spec:=fun args nm H => if ∃ (m : Name) (N : Nat),args = [.sl m 0 N 4] /\ (0 < N /\ N < 1000) /\ H m = some (knRow N) then
 (match args with
  | [.sl _ _ N _] => some (.sl nm 0 (4 * N) 1,upd H nm (some (knRow N)))
  | _ => none) else none
set_option maxHeartbeats 2000000 in
theorem knbytes_ok : FnOK Tryz.prog 48 knbytesS:=by
 refine ⟨by kernel_rfl,fun args nm H r H' h => ?_⟩
 unfold knbytesS at h
 split at h
 ·rename_i hc
  obtain ⟨m0,N,rfl,⟨hN0,hN⟩,hm⟩:=hc
  simp only [Option.some.injEq,Prod.mk.injEq] at h
  obtain ⟨rfl,rfl⟩:=h
  have hcall:=@noCall_ok Tryz.prog
  refine sim_row Tryz.func48 rfl rfl (Nat.le_of_ble_eq_true rfl) fun hH => ?_
  (repeat refine AWP.seq ?_)
  refine AWP.region_last hcall rfl fun K hK => ?_
  simp
  apply hK; clear hK K; simp only [onNormal,onExit]
  (repeat refine AWP.seq ?_)
  refine AWP.region_last hcall rfl fun K hK => ?_
  simp
  apply hK; clear hK K; simp only [onNormal,onExit]
  (repeat refine AWP.seq ?_)
  refine AWP.region_last hcall rfl fun K hK => ?_
  simp
  apply hK; clear hK K; simp only [onNormal,onExit]
  (repeat refine AWP.seq ?_); refine AWP.block ?_
  refine AWP.loop (fun m c' T H2 => ∃ i,i <= N /\ m = N - i /\ T 6 = .sl m0 0 N 4 /\ T 7 = vi (N : Nat) /\ T 8 = vi (i : Nat) /\ ((i = 0 /\ T 3 = vnil) \/ (0 < i /\ ∃ x,T 3 = .sl x 0 (4 * i) 1 /\ H x = none /\ H2 x = some (knRow i))) /\ (∀ a r,H a = some r -> H2 a = some r)) N ⟨0,by omega,rfl,by simp,by simp,by simp,.inl ⟨rfl,by simp⟩,fun a r h => h⟩ ?_
  rintro m c' T H2 ⟨i,hiN,rfl,t6,t7,t8,t3,hsub⟩
  have hm2 : H2 m0 = some (knRow N):=hsub _ _ hm
  refine AWP.known_fresh fun hfr => ?_
  by_cases hlt : i < N
  ·have hlt' : (i : Int) < (N : Int):=by omega
   have hpart:=knRow_part hlt
   rw [Nat.mul_comm 4 i] at hpart
   have hln : i * 4 + 4 <= (knRow N).length:=by rw [knRow_length]; omega
   (repeat refine AWP.seq ?_)
   refine AWP.region_last hcall rfl fun K hK => ?_
   simp [t6,t7,t8,hlt']
   apply hK; clear hK K; simp only [onNormal,onExit]
   (repeat refine AWP.seq ?_); refine AWP.cond (b:=true) (by simp [hlt']) ?_; simp only [if_true,if_false,Bool.false_eq_true]
   refine AWP.skip ?_; simp only [onNormal,onExit]
   (repeat refine AWP.seq ?_); refine AWP.block ?_
   (repeat refine AWP.seq ?_)
   refine AWP.region_last hcall rfl fun K hK => ?_
   simp [t6,t7,t8,hlt,hm2,hpart,hln]
   apply hK; clear hK K; simp only [onNormal,onExit]
   rcases t3 with ⟨rfl,t3⟩ | ⟨hi0,x,t3,hx,hxr⟩
   ·(repeat refine AWP.seq ?_)
    refine AWP.region_last hcall rfl fun K hK => ?_
    simp [t3]
    apply hK; clear hK K; simp only [onNormal,onExit]
    (repeat refine AWP.seq ?_)
    refine AWP.region_last hcall rfl fun K hK => ?_
    simp [t8]
    apply hK; clear hK K; simp only [onNormal,onExit]
    refine ⟨N - 1,by omega,1,by omega,rfl,by simp [t6],by simp [t7],by simp,.inr ⟨by omega,(c' + 1 + 4 + 2) :: 0 :: nm,by simp,hH [_],by simp [knRow]⟩,?_⟩
    exact SubL.out (SubL.fresh (hH [_]) (SubL.fresh (hH [_]) (SubL.fresh (hH [_]) fun a r _ h => hsub a r h)))
   ·have hx2 : ¬ x = (c' + 1 + 2) :: 0 :: nm:=fun e => ne_fresh hfr hxr (c' + 1 + 2) (by omega) e
    have hx6 : ¬ x = (c' + 1 + 4 + 2) :: 0 :: nm:=fun e => ne_fresh hfr hxr (c' + 1 + 4 + 2) (by omega) e
    have hx2' : ¬ (c' + 1 + 2) :: 0 :: nm = x:=fun e => hx2 e.symm
    have hx6' : ¬ (c' + 1 + 4 + 2) :: 0 :: nm = x:=fun e => hx6 e.symm
    have hsl:=knRow_length i
    have htk : (knRow i).take (4 * i) = knRow i:=List.take_of_length_le (by omega)
    have hle : 4 * i <= (knRow i).length:=by omega
    have hb1 : 4 * i + 4 <= 140737488355328:=by omega
    have hw : IntKind.i64.wrap ((i : Int) + 1) = ((i + 1 : Nat) : Int):=by rw [IntKind.wrap_i64]; omega
    (repeat refine AWP.seq ?_)
    refine AWP.region_last hcall rfl fun K hK => ?_
    simp (maxDischargeDepth:=20) [t3,hxr,hx2,hx6,hx2',hx6',htk,hle,hb1]
    apply hK; clear hK K; simp only [onNormal,onExit]
    (repeat refine AWP.seq ?_)
    refine AWP.region_last hcall rfl fun K hK => ?_
    simp [t8,hw]
    apply hK; clear hK K; simp only [onNormal,onExit]
    refine ⟨N - (i + 1),by omega,i + 1,by omega,rfl,by simp [t6],by simp [t7],by simp,.inr ⟨by omega,(c' + 1 + 4 + 2) :: 0 :: nm,by simp; try omega,hH [_],by simp [knRow]⟩,?_⟩
    refine SubL.out (SubL.fresh (hH [_]) ?_)
    intro a r hh ha
    rw [upd_ne _ _ (by rintro rfl; rw [hx] at ha; cases ha)]
    exact SubL.out (SubL.fresh (hH [_]) (SubL.fresh (hH [_]) fun a r _ h => hsub a r h)) a r ha
  ·obtain rfl : i = N:=by omega
   rcases t3 with ⟨h0,_⟩ | ⟨hi0,x,t3,hx,hxr⟩
   ·omega
   have hlt' : ¬ (i : Int) < (i : Int):=by omega
   have hsl:=knRow_length i
   have htk : (knRow i).take (4 * i) = knRow i:=List.take_of_length_le (by omega)
   have hle : 4 * i <= (knRow i).length:=by omega
   have hb1 : 4 * i <= 140737488355328:=by omega
   have hi1 : ¬ i = 0:=by omega
   have hone : (∀ y,y ∈ knRow i -> y.one = true) ↔ True:=iff_true_intro (List.all_eq_true.1 (knRow_all i))
   have h40 : ¬ 4 * i = 0:=by omega
   (repeat refine AWP.seq ?_)
   refine AWP.region_last hcall rfl fun K hK => ?_
   simp [t7,t8]
   apply hK; clear hK K; simp only [onNormal,onExit]
   (repeat refine AWP.seq ?_); refine AWP.cond (b:=false) (by simp) ?_; simp only [if_true,if_false,Bool.false_eq_true]
   refine AWP.exit ?_; simp only [onNormal,onExit,if_true,reduceCtorEq,if_false]
   (repeat refine AWP.seq ?_)
   refine AWP.region_last hcall rfl fun K hK => ?_
   simp (maxDischargeDepth:=20) [t3,hxr,htk,hle,hb1,hi1,hsl,h40,hone]
   apply hK; clear hK K; simp only [onNormal,onExit]
   (try refine AWP.ret ?_); (try simp only [onNormal,onExit]); refine ⟨by simp,_,rfl,?_,?_,fun k row hk => ?_⟩
   ·exact hH [_]
   ·simp
   ·exact SubL.out (SubL.fresh (hH [_]) fun a r _ h => hsub a r h) k row hk
 ·cases h
open Classical in
noncomputable def run0S : Spec:=fun args nm H => if ∃ q,args = [.ptr q 0,vnil] then some (vi 0,H) else none
theorem run0_ok : FnOK Tryz.prog 51 run0S:=by
 refine ⟨by kernel_rfl,fun args nm H r H' h => ?_⟩
 unfold run0S at h
 split at h
 ·rename_i hc
  obtain ⟨q,rfl⟩:=hc
  cases h
  have hcall:=@noCall_ok Tryz.prog
  have hpl : places Tryz.prog [{ name:="w", type:=80, offset:=0, embedded:=false, tag:="", pkgPath:="comitia/script", byteOffset:=0 }, { name:="at", type:=210, offset:=1, embedded:=false, tag:="", pkgPath:="comitia/script", byteOffset:=8 }] = some [(0, 1), (1, 1)]:=by kernel_rfl
  have hi4:=int_F 0 (by omega)
  rw [F0] at hi4
  refine sim_go Tryz.func51 rfl rfl (Nat.le_of_ble_eq_true rfl) fun hH => ?_
  (repeat refine AWP.seq ?_)
  refine AWP.region_last hcall rfl fun K hK => ?_
  simp
  apply hK; clear hK K; simp only [onNormal,onExit]
  (repeat refine AWP.seq ?_)
  refine AWP.scope 0 (fun m c' T H2 => False) rfl ?_ ?_
  ·(repeat refine AWP.seq ?_)
   refine AWP.region_last hcall rfl fun K hK => ?_
   simp [hpl]
   apply hK; clear hK K; simp only [onNormal,onExit]
   (repeat refine AWP.seq ?_)
   refine AWP.label ?_; simp only [onNormal]
   (repeat refine AWP.seq ?_)
   refine AWP.region_last hcall rfl fun K hK => ?_
   simp
   apply hK; clear hK K; simp only [onNormal,onExit]
   (repeat refine AWP.seq ?_); refine AWP.cond (b:=true) (by simp) ?_; simp only [if_true,if_false,Bool.false_eq_true]
   (repeat refine AWP.seq ?_)
   refine AWP.region_last hcall rfl fun K hK => ?_
   simp [hi4]
   apply hK; clear hK K; simp only [onNormal,onExit]
   (try refine AWP.ret ?_); (try simp only [onNormal,onExit]); refine ⟨by simp,⟨_,rfl,by simp [ares1]⟩,fun k row hk => ?_⟩
   exact SubL.out (SubL.fresh (hH [_]) SubL.id) k row hk
  ·rintro m c' T H2 h
   exact h.elim
 ·cases h
end Go.Proofs.YtbllpnjappddeaaGreat.Den
