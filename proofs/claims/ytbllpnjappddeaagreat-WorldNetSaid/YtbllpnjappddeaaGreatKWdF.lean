/- Clone lent; Forge, Net; the net as a list. -/
import Derived.Test.YtbllpnjappddeaaGreatKWdB
set_option linter.unusedVariables false
set_option linter.unusedSimpArgs false
set_option maxRecDepth 1000000
namespace Go.Proofs.YtbllpnjappddeaaGreat.Den
open Go Go.RowKit
variable {P : Program}
theorem Sim.freeze {f : FuncId} {xs : List AV} {nm n : Name} {H H₁ H' : AHeap} {len sz : Nat} {row : List AV} (h : Sim P f xs nm H (.sl n 0 len sz) H₁) (hn : H₁ n = some row) (hs : ∀ k r,H' k = some r -> k ≠ n /\ H₁ k = some r) :
  Sim P f xs nm H (.im true len row) H':=by
 intro σ I w vs hfr hv har
 refine (h σ I w vs hfr hv har).mono ?_
 rintro e w' ⟨v,σ',I',rfl,st,hr⟩
 cases hr with | sl hp hl hc =>
 obtain ⟨p',c,I'',hp',hvs,_,hI,hle,st'⟩:=Step.freeze (nm:=Under nm) st.rel hn
 rw [hp] at hp'; cases hp'
 refine ⟨_,σ',I'',rfl,(st.trans st').trans (Step.forget st'.rel fun k r hk => ?_),.im hI (hvs.mono (Sig.le_refl _) hle) hl⟩
 obtain ⟨h1,h2⟩:=hs k r hk
 rw [upd_ne _ _ h1]; exact h2
def cloneFS : Spec:=fun args nm H =>
 match args with
 | [.im m len cells] => if cells.all AV.one = true /\ cells.length = len /\ 0 < len /\ len <= 140737488355328 then some (.im true len cells,H) else none
 | _ => none
theorem cloneF_ok : FnOK Tryz.prog 75 cloneFS:=by
 refine ⟨by kernel_rfl,fun args nm H r H' h => ?_⟩
 unfold cloneFS at h
 split at h
 ·rename_i m len cells
  split at h
  ·rename_i hc
   cases h
   obtain ⟨h1,h2,h3,h4⟩:=hc
   have he : elems H 1 (.im m len cells) = some (len,cells):=by
    unfold elems
    simp [h2,h3]
   have hs : cloneS 1 1 [.im m len cells] nm H = some (.sl nm 0 len 1,upd H nm (some cells)):=by
    have h5 : len * 1 <= 140737488355328:=by omega
    simp only [cloneS,he]
    rw [if_pos ⟨h1,h5,h4⟩]
   intro σ I w vs hfr hv har
   have hn : H nm = none:=by
    cases e : H nm with
    | none => rfl
    | some row =>
     obtain ⟨p,_,_,_,hp,_⟩:=har.rows _ _ e
     have:=hfr []
     rw [List.nil_append,hp] at this
     cases this
   exact Sim.freeze (cloneB_ok.2 _ _ _ _ _ hs) (upd_same _ _ _) (fun k r hk => by
    have : k ≠ nm:=by rintro rfl; rw [hn] at hk; cases hk
    exact ⟨this,by rw [upd_ne _ _ this]; exact hk⟩) σ I w vs hfr hv har
  ·cases h
 ·cases h
section
attribute [local simp] runList aop abuiltin acall awanted ayielded env T0 tput tset Ran aload astore setMany upd binV aslice aindexAddr apart aindex alen acopy srcCells natOf boundOf aeq AV.nilEq convV appK fillA List.range List.range.loop onF isU8 rowOf
theorem aeq_none (cap : Nat) (x y : Operand) : aeq Tryz.prog false 72 x y (.val (.slice none 0 cap)) (.val (.slice none 0 0)) = some (vb true):=by kernel_rfl
theorem aeq_some (a : Addr) (cap : Nat) (x y : Operand) : aeq Tryz.prog false 72 x y (.val (.slice (some a) 0 cap)) (.val (.slice none 0 0)) = some (vb false):=by kernel_rfl
def cloneNS : Spec:=fun args nm H =>
 match args with
 | [.val (.slice none 0 _)] => some (vnil,H)
 | [.val (.slice (some _) 0 _)] => some (.sl nm 0 0 1,upd H nm (some []))
 | _ => none
theorem cloneN_ok : FnOK Tryz.prog 75 cloneNS:=by
 refine ⟨by kernel_rfl,fun args nm H r H' h => ?_⟩
 have hcall:=@noCall_ok Tryz.prog
 unfold cloneNS at h
 split at h
 ·cases h
  refine sim_go Tryz.func75 rfl rfl (Nat.le_of_ble_eq_true rfl) fun hH => ?_
  (repeat refine AWP.seq ?_)
  refine AWP.region_last hcall rfl fun K hK => ?_
  simp
  apply hK; clear hK K; simp only [onNormal,onExit]
  (repeat refine AWP.seq ?_)
  refine AWP.region_last hcall rfl fun K hK => ?_
  simp [-aeq,aeq_none]
  apply hK; clear hK K; simp only [onNormal,onExit]
  (repeat refine AWP.seq ?_); refine AWP.cond (b:=true) (by simp) ?_; simp only [if_true,if_false,Bool.false_eq_true]
  (repeat refine AWP.seq ?_)
  refine AWP.region_last hcall rfl fun K hK => ?_
  simp
  apply hK; clear hK K; simp only [onNormal,onExit]
  (try refine AWP.ret ?_); (try simp only [onNormal,onExit]); refine ⟨by simp,⟨_,rfl,by simp [ares1]⟩,fun k row hk => ?_⟩
  exact hk
 ·cases h
  refine sim_row Tryz.func75 rfl rfl (Nat.le_of_ble_eq_true rfl) fun hH => ?_
  (repeat refine AWP.seq ?_)
  refine AWP.region_last hcall rfl fun K hK => ?_
  simp
  apply hK; clear hK K; simp only [onNormal,onExit]
  (repeat refine AWP.seq ?_)
  refine AWP.region_last hcall rfl fun K hK => ?_
  simp [-aeq,aeq_some]
  apply hK; clear hK K; simp only [onNormal,onExit]
  (repeat refine AWP.seq ?_); refine AWP.cond (b:=false) (by simp) ?_; simp only [if_true,if_false,Bool.false_eq_true]
  refine AWP.skip ?_; simp only [onNormal,onExit]
  (repeat refine AWP.seq ?_)
  refine AWP.region_last hcall rfl fun K hK => ?_
  simp
  apply hK; clear hK K; simp only [onNormal,onExit]
  (try refine AWP.ret ?_); (try simp only [onNormal,onExit]); refine ⟨by simp,_,rfl,?_,?_,fun k row hk => ?_⟩
  ·exact hH [_]
  ·simp
  ·refine SubL.out ?_ k row hk; repeat (first | exact SubL.id | refine SubL.set ?_ | refine SubL.gone ?_ | (refine SubL.ex ?_ ?_; · simp; done) | refine SubL.fresh (hH [_]) ?_ | refine SubL.fresh (hH [_,_]) ?_ | (refine SubL.fresh (upd_none (hH [_]) ?_) ?_; · simp; done) | (refine SubL.fresh (upd_none (hH [_,_]) ?_) ?_; · simp; done))
 ·cases h
def cloneIS : Spec:=fun args nm H =>
 match args with
 | [.im m len cells] => if cells.all AV.one = true /\ cells.length = len /\ len <= 140737488355328 then some (.im true len cells,H) else none
 | _ => none
theorem no_row {σ : Sig} {I : Imm} {H : AHeap} {w : World} {nm : Name} (har : ARel σ I H w) (hfr : Fresh nm σ) : H nm = none:=by
 cases e : H nm with
 | none => rfl
 | some row =>
  obtain ⟨p,_,_,_,hp,_⟩:=har.rows _ _ e
  have:=hfr []
  rw [List.nil_append,hp] at this
  cases this
theorem cloneI_ok : FnOK Tryz.prog 75 cloneIS:=by
 refine ⟨by kernel_rfl,fun args nm H r H' h => ?_⟩
 unfold cloneIS at h
 split at h
 ·rename_i m len cells
  split at h
  ·rename_i hc
   cases h
   obtain ⟨h1,h2,h4⟩:=hc
   by_cases h3 : 0 < len
   ·exact cloneF_ok.2 _ _ _ _ _ (by show (if _ then _ else _) = _; rw [if_pos ⟨h1,h2,h3,h4⟩])
   ·obtain rfl : len = 0:=by omega
    obtain rfl : cells = []:=List.length_eq_zero_iff.1 h2
    intro σ I w vs hfr hv har
    obtain ⟨v,hv0,cap,a,rfl⟩ : ∃ v,vs.toList = [v] /\ ∃ cap a,v = .slice a 0 cap:=by
     generalize vs.toList = l at hv
     cases hv with | cons hv ht =>
     cases ht
     cases hv with
     | im0 => exact ⟨_,rfl,_,_,rfl⟩
     | im _ _ _ => exact ⟨_,rfl,_,_,rfl⟩
    have hv' : VRels σ I [.val (.slice a 0 cap)] vs.toList:=by rw [hv0]; exact .cons (.val _) .nil
    cases a with
    | none =>
     refine ((cloneN_ok.2 [.val (.slice none 0 cap)] nm H vnil H rfl) σ I w vs hfr hv' har).mono ?_
     rintro e w' ⟨v,σ',I',rfl,st,hr⟩
     cases hr
     exact ⟨_,σ',I',rfl,st,.im0⟩
    | some a =>
     refine ((cloneN_ok.2 [.val (.slice (some a) 0 cap)] nm H (.sl nm 0 0 1) (upd H nm (some [])) rfl) σ I w vs hfr hv' har).mono ?_
     rintro e w' ⟨v,σ',I',rfl,st,hr⟩
     cases hr with | sl hp hl hc =>
     have hn:=no_row har hfr
     refine ⟨_,σ',I',rfl,st.trans (Step.forget st.rel fun k r hk => ?_),.im0⟩
     rw [upd_ne]
     ·exact hk
     ·rintro rfl; rw [hn] at hk; cases hk
  ·cases h
 ·cases h
def forgeN (nm : Name) : Name:=27 :: nm
def wforgeS : Spec:=fun args nm H =>
 match args with
 | [.ptr q 0,.val (.int .i64 d),.im m len bytes] =>
  match H q with
  | some row =>
   match row[3]?,row[6]? with
   | some (AV.sl _ _ three _),some (AV.sl n off k 2) =>
    if ((0 <= d /\ d < (three : Int)) /\ len <= 8192 /\ k < 60) /\ bytes.all AV.one = true /\ bytes.length = len then
     if n = q then none else
     match H n with
     | some cells => if off + k * 2 <= cells.length /\ ((cells.drop off).take (k * 2)).all AV.one = true then
       some (vi 0,upd (upd (upd H n none) (forgeN nm) (some ((cells.drop off).take (k * 2) ++ [.val (.int .i64 d),.im true len bytes]))) q (some (row.set 6 (.sl (forgeN nm) 0 (k + 1) 2)))) else none
     | none => none
    else none
   | _,_ => none
  | none => none
 | _ => none
set_option maxHeartbeats 1000000 in
theorem wforge_ok : FnOK Tryz.prog 35 wforgeS:=by
 refine ⟨by kernel_rfl,fun args nm H r H' h => ?_⟩
 unfold wforgeS at h
 split at h
 ·rename_i q d m len bytes
  split at h
  ·rename_i row hq
   split at h
   ·rename_i sn so three ss n off k h3 h6
    have hlt : 6 < row.length:=(List.getElem?_eq_some_iff.1 h6).1
    have h6' : ∀ h : 6 < row.length,row[6] = .sl n off k 2:=fun h => (List.getElem?_eq_some_iff.1 h6).2
    split at h
    ·rename_i hi
     split at h
     ·cases h
     ·rename_i hnq
      split at h
      ·rename_i cells hn
       split at h
       ·rename_i hc
        cases h
        have hcall:=onF_ok cloneI_ok (onF_ok there_ok (@noCall_ok Tryz.prog))
        obtain ⟨⟨hd,hlen,hk60⟩,hb1,hb2⟩:=hi
        have hth : ∀ nm',thereS [.ptr q 0,.val (.int .i64 d)] nm' H = some (vb true,H):=fun nm' => by
         simp only [thereS,hq,h3]
         simp [hd]
        have hcl : ∀ nm',cloneIS [.im m len bytes] nm' H = some (.im true len bytes,H):=fun nm' => by
         show (if _ then _ else _) = _
         rw [if_pos ⟨hb1,hb2,by omega⟩]
        have hk1 : ¬ ((8192 : Int) < (len : Int)):=by omega
        have hk2 : ¬ ((60 : Int) <= (k : Int)):=by omega
        have h7 : 7 <= row.length:=by omega
        have hl1 : k + 1 <= 140737488355328:=by omega
        have hl2 : (k + 1) * 32 <= 140737488355328:=by omega
        have hqn' : ¬ q = n:=fun e => hnq e.symm
        refine sim_go Tryz.func35 rfl rfl (Nat.le_of_ble_eq_true rfl) fun hH => ?_
        (repeat refine AWP.seq ?_)
        refine AWP.region_last hcall rfl fun K hK => ?_
        simp
        apply hK; clear hK K; simp only [onNormal,onExit]
        (repeat refine AWP.seq ?_); refine AWP.block ?_
        (repeat refine AWP.seq ?_)
        refine AWP.region_last hcall rfl fun K hK => ?_
        simp [hth]
        apply hK; clear hK K; simp only [onNormal,onExit]
        (repeat refine AWP.seq ?_); refine AWP.cond (b:=false) (by simp) ?_; simp only [if_true,if_false,Bool.false_eq_true]
        (repeat refine AWP.seq ?_)
        refine AWP.region_last hcall rfl fun K hK => ?_
        simp [hk1]
        apply hK; clear hK K; simp only [onNormal,onExit]
        (repeat refine AWP.seq ?_); refine AWP.cond (b:=false) (by simp [hk1]) ?_; simp only [if_true,if_false,Bool.false_eq_true]
        (repeat refine AWP.seq ?_)
        refine AWP.region_last hcall rfl fun K hK => ?_
        simp [hk2,hq,h6,h6',hlt]
        apply hK; clear hK K; simp only [onNormal,onExit]
        (repeat refine AWP.seq ?_); refine AWP.cond (b:=false) (by simp [hk2]) ?_; simp only [if_true,if_false,Bool.false_eq_true]
        refine AWP.skip ?_; simp only [onNormal,onExit]
        have hr : ∀ x,H (x :: nm) = none:=fun x => hH [x]
        have hrn : ∀ x,¬ n = x :: nm:=fun x e => by rw [e,hr] at hn; cases hn
        have hrq : ∀ x,¬ q = x :: nm:=fun x e => by rw [e,hr] at hq; cases hq
        have hrn' : ∀ x,¬ x :: nm = n:=fun x e => hrn x e.symm
        have hrq' : ∀ x,¬ x :: nm = q:=fun x e => hrq x e.symm
        have hpl : places Tryz.prog [{ name:="to", type:=3, offset:=0, embedded:=false, tag:="", pkgPath:="comitia/world", byteOffset:=0 }, { name:="b", type:=72, offset:=1, embedded:=false, tag:="", pkgPath:="comitia/world", byteOffset:=8 }] = some [(0, 1), (1, 1)]:=by kernel_rfl
        have hc1:=hc.1
        have hc2:=hc.2
        (repeat refine AWP.seq ?_)
        refine AWP.draw_last rfl hcall [0,0,2,6,14,0,0,64,224,480,1022,2047,4095,8191] [⟨6,false,[]⟩,⟨7,true,[]⟩,⟨1,false,[]⟩,⟨2,false,[]⟩,⟨3,false,[]⟩,⟨4,false,[0,2]⟩,⟨5,false,[]⟩,⟨8,false,[]⟩,⟨9,false,[]⟩,⟨10,true,[]⟩,⟨0,false,[]⟩,⟨11,false,[]⟩,⟨12,false,[]⟩,⟨13,true,[]⟩] rfl (by kernel_rfl) fun K hK => ?_
        simp (maxDischargeDepth:=20) [planW,chkW,hcl,hq,h6,h6',hlt,hn,h7,hqn',hnq,hl1,hl2,hrn,hrq,hrn',hrq',hc1,hc2,hpl,List.lookup]
        apply hK; clear hK K; simp only [onNormal,onExit]
        (repeat refine AWP.seq ?_)
        refine AWP.region_last hcall rfl fun K hK => ?_
        simp
        apply hK; clear hK K; simp only [onNormal,onExit]
        (try refine AWP.ret ?_); (try simp only [onNormal,onExit]); refine ⟨by simp,⟨_,rfl,by simp [ares1]⟩,fun k row hk => ?_⟩
        by_cases e1 : k = q
        ·subst e1; simpa [upd,forgeN,hrq,hrq'] using hk
        ·by_cases e2 : k = 27 :: nm
         ·subst e2; simpa [upd,forgeN,hrq,hrq'] using hk
         ·by_cases e3 : k = n
          ·subst e3; simp [upd,forgeN,e1,e2] at hk
          ·have e4 : ¬ k = 26 :: nm:=by
            rintro rfl
            simp [upd,forgeN,e1,e3,hr] at hk
           simpa [upd,forgeN,e1,e2,e3,e4] using hk
       ·cases h
      ·cases h
    ·cases h
   ·cases h
  ·cases h
 ·cases h
structure Msg where
 d : Int
 len : Nat
 bytes : List AV
def Msg.good (x : Msg) : Prop:=(x.bytes.all AV.one = true /\ x.bytes.length = x.len) /\ x.len <= 8192
def Msg.lent (x : Msg) : AV:=.im true x.len x.bytes
def flatM (L : List Msg) : List AV:=L.flatMap fun x => [vi x.d,x.lent]
theorem flatM_length (L : List Msg) : (flatM L).length = 2 * L.length:=by
 induction L with
 | nil => rfl
 | cons x L ih => simp only [flatM,List.flatMap_cons,List.length_append,List.length_cons,List.length_nil] at ih ⊢; omega
theorem flatM_get : ∀ (L : List Msg) (i : Nat) (x : Msg),L[i]? = some x -> ((flatM L).drop (i * 2)).take 2 = [vi x.d,x.lent]
 | [],i,x,h => by simp at h
 | y :: L,0,x,h => by
  simp only [List.getElem?_cons_zero,Option.some.injEq] at h
  subst h
  rfl
 | y :: L,i + 1,x,h => by
  rw [List.getElem?_cons_succ] at h
  have:=flatM_get L i x h
  rw [<- this]
  show (List.drop ((i + 1) * 2) (vi y.d :: y.lent :: flatM L)).take 2 = _
  rw [show (i + 1) * 2 = i * 2 + 1 + 1 from by omega,List.drop_succ_cons,List.drop_succ_cons]
def evens : List AV -> List AV
 | _ :: b :: r => b :: evens r
 | _ => []
def netRow (H : AHeap) (q : Name) : List AV :=
 match H q with
 | some row =>
  match row[6]? with
  | some (AV.sl n _ _ _) => (H n).getD []
  | _ => []
 | none => []
open Classical in
noncomputable def wnetS : Spec:=fun args nm H => if ∃ (q n : Name) (row : List AV) (L : List Msg),args = [.ptr q 0] /\ H q = some row /\ row[6]? = some (.sl n 0 L.length 2) /\ H n = some (flatM L) /\ (∀ x ∈ L,x.good) /\ L.length <= 60 then
 (match args with
  | [.ptr q 0] => some (.sl nm 0 (evens (netRow H q)).length 1,upd H nm (some (evens (netRow H q))))
  | _ => none) else none
theorem evens_flat (L : List Msg) : evens (flatM L) = L.map Msg.lent:=by
 induction L with
 | nil => rfl
 | cons x L ih => show x.lent :: evens (flatM L) = _; rw [ih]; rfl
theorem rowOf_one (v : AV) : ∀ k,rowOf [v] k = List.replicate k v
 | 0 => rfl
 | k + 1 => by rw [List.replicate_succ,<- rowOf_one v k]; rfl
def mixM (L : List Msg) (i : Nat) : List AV:=(L.take i).map Msg.lent ++ List.replicate (L.length - i) vnil
theorem mixM_length (L : List Msg) {i : Nat} (h : i <= L.length) : (mixM L i).length = L.length:=by
 simp [mixM]; omega
theorem mixM_set (L : List Msg) {i : Nat} {x : Msg} (h : L[i]? = some x) : (mixM L i).set i x.lent = mixM L (i + 1):=by
 have hi : i < L.length:=(List.getElem?_eq_some_iff.1 h).1
 have hx : L[i] = x:=(List.getElem?_eq_some_iff.1 h).2
 unfold mixM
 have hl : ((L.take i).map Msg.lent).length = i:=by simp; omega
 rw [List.set_append_right _ _ (by omega),hl,Nat.sub_self,show L.length - i = (L.length - (i + 1)) + 1 from by omega,List.replicate_succ,List.set_cons_zero,List.take_add_one,h]
 simp
set_option maxHeartbeats 2000000 in
theorem wnet_ok : FnOK Tryz.prog 38 wnetS:=by
 refine ⟨by kernel_rfl,fun args nm H r H' h => ?_⟩
 unfold wnetS at h
 split at h
 ·rename_i hc
  obtain ⟨q,n,row,L,rfl,hq,h6,hn,hgood,hL⟩:=hc
  have hev : evens (netRow H q) = L.map Msg.lent:=by simp only [netRow,hq,h6,hn,Option.getD_some,evens_flat]
  simp only [hev,List.length_map,Option.some.injEq,Prod.mk.injEq] at h
  obtain ⟨rfl,rfl⟩:=h
  have hlt : 6 < row.length:=(List.getElem?_eq_some_iff.1 h6).1
  have h6' : ∀ h : 6 < row.length,row[6] = .sl n 0 L.length 2:=fun h => (List.getElem?_eq_some_iff.1 h6).2
  have hcall:=onF_ok cloneI_ok (@noCall_ok Tryz.prog)
  refine sim_row Tryz.func38 rfl rfl (Nat.le_of_ble_eq_true rfl) fun hH => ?_
  (repeat refine AWP.seq ?_)
  refine AWP.region_last hcall rfl fun K hK => ?_
  simp
  apply hK; clear hK K; simp only [onNormal,onExit]
  have hm1 : L.length <= 281474976710656:=by omega
  have hm2 : 24 * L.length <= 281474976710656:=by omega
  have hqm : ¬ q = 6 :: 0 :: nm:=fun e => by rw [e] at hq; rw [show H (6 :: 0 :: nm) = none from hH [6]] at hq; cases hq
  have hnm : ¬ n = 6 :: 0 :: nm:=fun e => by rw [e] at hn; rw [show H (6 :: 0 :: nm) = none from hH [6]] at hn; cases hn
  (repeat refine AWP.seq ?_)
  refine AWP.region_last hcall rfl fun K hK => ?_
  simp [-rowOf,hq,h6,h6',hlt,hm1,hm2]
  apply hK; clear hK K; simp only [onNormal,onExit]
  (repeat refine AWP.seq ?_)
  refine AWP.region_last hcall rfl fun K hK => ?_
  simp [-rowOf,hq,h6,h6',hlt,hqm]
  apply hK; clear hK K; simp only [onNormal,onExit]
  (repeat refine AWP.seq ?_); refine AWP.block ?_
  obtain ⟨z,hz⟩ : ∃ z,z = 6 :: 0 :: nm:=⟨_,rfl⟩
  have hz0 : H z = none:=by rw [hz]; exact hH [6]
  refine AWP.loop (fun m c' T H2 => ∃ i,i <= L.length /\ m = L.length - i /\ T 3 = .sl z 0 L.length 1 /\ T 15 = .sl n 0 L.length 2 /\ T 16 = vi (L.length : Nat) /\ T 17 = vi (i : Nat) /\ H2 z = some (mixM L i) /\ (∀ a r,H a = some r -> H2 a = some r)) L.length ⟨0,by omega,rfl,by simp [hz],by simp,by simp,by simp,?_,?_⟩ ?_
  ·simp [mixM,rowOf_one,-rowOf,hz]
  ·exact SubL.out (SubL.fresh (hH [_]) fun a r _ h => h)
  clear hqm hnm
  rintro m c' T H2 ⟨i,hiL,rfl,t3,t15,t16,t17,hm,hsub⟩
  refine AWP.known_fresh fun hfr => ?_
  by_cases hlt : i < L.length
  ·have hlt' : (i : Int) < (L.length : Int):=by omega
   obtain ⟨x,hx⟩ : ∃ x,L[i]? = some x:=⟨L[i],List.getElem?_eq_getElem hlt⟩
   have hxg:=hgood x (List.mem_of_getElem? hx)
   have hn2:=hsub _ _ hn
   have hpart:=flatM_get L i x hx
   have hfl:=flatM_length L
   have hle : i * 2 + 2 <= (flatM L).length:=by omega
   have hml:=mixM_length L hiL
   have hset:=mixM_set L hx
   have hcl : ∀ nm' H',cloneIS [x.lent] nm' H' = some (x.lent,H'):=fun nm' H' => by
    show (if _ then _ else _) = _
    rw [if_pos ⟨hxg.1.1,hxg.1.2,by have:=hxg.2; omega⟩]; rfl
   have hone : x.lent.one = true:=rfl
   have hce : x.lent.cells = [x.lent]:=rfl
   have hz4 : ¬ z = (c' + 1 + 3) :: 0 :: nm:=fun e => ne_fresh hfr hm (c' + 1 + 3) (by omega) e
   have hz4' : ¬ (c' + 1 + 3) :: 0 :: nm = z:=fun e => hz4 e.symm
   have hl3 : i + 1 <= L.length:=by omega
   have hw : IntKind.i64.wrap ((i : Int) + 1) = ((i + 1 : Nat) : Int):=by rw [IntKind.wrap_i64]; omega
   have hil : i < (mixM L i).length:=by omega
   have hil2 : i + 1 <= (mixM L i).length:=by omega
   generalize x.lent = y at hpart hset hcl hone hce
   (repeat refine AWP.seq ?_)
   refine AWP.region_last hcall rfl fun K hK => ?_
   simp [t16,t17,hlt']
   apply hK; clear hK K; simp only [onNormal,onExit]
   (repeat refine AWP.seq ?_); refine AWP.cond (b:=true) (by simp [hlt']) ?_; simp only [if_true,if_false,Bool.false_eq_true]
   refine AWP.skip ?_; simp only [onNormal,onExit]
   (repeat refine AWP.seq ?_); refine AWP.block ?_
   (repeat refine AWP.seq ?_)
   refine AWP.region_last hcall rfl fun K hK => ?_
   simp [t15,t17,hlt',hlt,hn2,hpart,hle,hone]
   apply hK; clear hK K; simp only [onNormal,onExit]
   (repeat refine AWP.seq ?_)
   refine AWP.region_last hcall rfl fun K hK => ?_
   simp (maxDischargeDepth:=20) [t3,hcl,hone,hce,hlt',hlt,hm,hz4,hz4',hil,hil2,hset,hml,hl3]
   apply hK; clear hK K; simp only [onNormal,onExit]
   (repeat refine AWP.seq ?_)
   refine AWP.region_last hcall rfl fun K hK => ?_
   simp [t17,hw]
   apply hK; clear hK K; simp only [onNormal,onExit]
   refine ⟨L.length - (i + 1),by omega,i + 1,by omega,rfl,by simp [t3],by simp [t15],by simp [t16],by simp,by simp,?_⟩
   intro a r ha
   have h1 : ¬ a = z:=by rintro rfl; rw [hz0] at ha; cases ha
   have h2 : ¬ a = (c' + 1 + 3) :: 0 :: nm:=by rintro rfl; rw [show H ((c' + 1 + 3) :: 0 :: nm) = none from hH [_]] at ha; cases ha
   simp [h1,h2,hsub a r ha]
  ·obtain rfl : i = L.length:=by omega
   have hlt' : ¬ (L.length : Int) < (L.length : Int):=by omega
   (repeat refine AWP.seq ?_)
   refine AWP.region_last hcall rfl fun K hK => ?_
   simp [t16,t17]
   apply hK; clear hK K; simp only [onNormal,onExit]
   (repeat refine AWP.seq ?_); refine AWP.cond (b:=false) (by simp) ?_; simp only [if_true,if_false,Bool.false_eq_true]
   refine AWP.exit ?_; simp only [onNormal,onExit,if_true,reduceCtorEq,if_false]
   (repeat refine AWP.seq ?_)
   refine AWP.region_last hcall rfl fun K hK => ?_
   simp [t3]
   apply hK; clear hK K; simp only [onNormal,onExit]
   (try refine AWP.ret ?_); (try simp only [onNormal,onExit]); refine ⟨by simp,_,rfl,?_,?_,fun k row hk => ?_⟩
   ·exact hz0
   ·simp [hm,mixM]
   ·exact hsub _ _ (by assumption)
 ·cases h
end
def NetIs (H : AHeap) (q n : Name) (L : List Msg) : Prop:=∃ (row : List AV) (sn : Name) (so ss : Nat),H q = some row /\ row[3]? = some (.sl sn so 3 ss) /\ row[6]? = some (.sl n 0 L.length 2) /\ H n = some (flatM L) /\ n ≠ q
theorem flatM_append (L K : List Msg) : flatM (L ++ K) = flatM L ++ flatM K:=by simp [flatM]
theorem flatM_one (L : List Msg) : (flatM L).all AV.one = true:=by
 induction L with
 | nil => rfl
 | cons x L ih => show ([vi x.d,x.lent] ++ flatM L).all AV.one = true; rw [List.all_append,ih]; rfl
theorem flatM_take (L : List Msg) (i : Nat) : (flatM L).take (i * 2) = flatM (L.take i):=by
 induction L generalizing i with
 | nil => simp [flatM]
 | cons x L ih =>
  cases i with
  | zero => simp [flatM]
  | succ i =>
   show List.take ((i + 1) * 2) (vi x.d :: x.lent :: flatM L) = vi x.d :: x.lent :: flatM (L.take i)
   rw [show (i + 1) * 2 = i * 2 + 1 + 1 from by omega,List.take_succ_cons,List.take_succ_cons,ih]
theorem flatM_drop (L : List Msg) (i : Nat) : (flatM L).drop (i * 2) = flatM (L.drop i):=by
 induction L generalizing i with
 | nil => simp [flatM]
 | cons x L ih =>
  cases i with
  | zero => simp [flatM]
  | succ i =>
   show List.drop ((i + 1) * 2) (vi x.d :: x.lent :: flatM L) = flatM (L.drop i)
   rw [show (i + 1) * 2 = i * 2 + 1 + 1 from by omega,List.drop_succ_cons,List.drop_succ_cons,ih]
theorem flatM_whole (L : List Msg) : (flatM L).take (L.length * 2) = flatM L:=List.take_of_length_le (by rw [flatM_length]; omega)
section
variable {H : AHeap} {q n nm : Name} {L : List Msg}
theorem net_upd {row : List AV} {sn k : Name} {so ss : Nat} {K : List Msg} (hq : H q = some row) (h3 : row[3]? = some (.sl sn so 3 ss)) (h6 : row[6]? = some (.sl n 0 L.length 2)) (hnq : n ≠ q) (hk : H k = none) :
  NetIs (upd (upd (upd H n none) k (some (flatM K))) q (some (row.set 6 (.sl k 0 K.length 2)))) q k K /\ ∀ a r,H a = some r -> a ≠ n -> a ≠ q -> upd (upd (upd H n none) k (some (flatM K))) q (some (row.set 6 (.sl k 0 K.length 2))) a = some r:=by
 have hkq : k ≠ q:=by rintro rfl; rw [hq] at hk; cases hk
 have hlt : 6 < row.length:=(List.getElem?_eq_some_iff.1 h6).1
 refine ⟨⟨_,sn,so,ss,upd_same _ _ _,?_,?_,?_,hkq⟩,fun a r ha h1 h2 => ?_⟩
 ·rw [List.getElem?_set_ne (by omega)]; exact h3
 ·rw [List.getElem?_set_self hlt]
 ·rw [upd_ne _ _ hkq,upd_same]
 ·have h4 : a ≠ k:=by rintro rfl; rw [ha] at hk; cases hk
  rw [upd_ne _ _ h2,upd_ne _ _ h4,upd_ne _ _ h1]; exact ha
theorem forge_at (h : NetIs H q n L) (hf : ∀ s,H (s ++ nm) = none) {d : Int} (hd : 0 <= d /\ d < 3) {m : Bool} {len : Nat} {bytes : List AV} (hb : (⟨d,len,bytes⟩ : Msg).good) (hL : L.length < 60) :
  ∃ H',wforgeS [.ptr q 0,vi d,.im m len bytes] nm H = some (vi 0,H') /\ NetIs H' q (forgeN nm) (L ++ [⟨d,len,bytes⟩]) /\ ∀ a r,H a = some r -> a ≠ n -> a ≠ q -> H' a = some r:=by
 obtain ⟨row,sn,so,ss,hq,h3,h6,hn,hnq⟩:=h
 have hs : wforgeS [.ptr q 0,vi d,.im m len bytes] nm H = some (vi 0,upd (upd (upd H n none) (forgeN nm) (some (flatM (L ++ [⟨d,len,bytes⟩])))) q (some (row.set 6 (.sl (forgeN nm) 0 (L ++ [(⟨d,len,bytes⟩ : Msg)]).length 2)))):=by
  have hd' : (0 <= d /\ d < ((3 : Nat) : Int)):=⟨hd.1,by omega⟩
  have hl : 0 + L.length * 2 <= (flatM L).length:=by rw [flatM_length]; omega
  simp only [wforgeS,hq,h3,h6]
  rw [if_pos ⟨⟨hd',hb.2,hL⟩,hb.1⟩,if_neg hnq]
  simp only [hn]
  rw [List.drop_zero,flatM_whole,if_pos ⟨hl,flatM_one L⟩,flatM_append,List.length_append]
  rfl
 exact ⟨_,hs,net_upd hq h3 h6 hnq (hf [27])⟩
theorem twice_at (h : NetIs H q n L) (hf : ∀ s,H (s ++ nm) = none) {i : Nat} {x : Msg} (hx : L[i]? = some x) (hL : L.length < 60) :
  ∃ H',wtwiceS [.ptr q 0,vi (i : Nat)] nm H = some (vb true,H') /\ NetIs H' q (twiceN nm) (L ++ [x]) /\ ∀ a r,H a = some r -> a ≠ n -> a ≠ q -> H' a = some r:=by
 obtain ⟨row,sn,so,ss,hq,h3,h6,hn,hnq⟩:=h
 have hi : i < L.length:=(List.getElem?_eq_some_iff.1 hx).1
 have hs : wtwiceS [.ptr q 0,vi (i : Nat)] nm H = some (vb true,upd (upd (upd H n none) (twiceN nm) (some (flatM (L ++ [x])))) q (some (row.set 6 (.sl (twiceN nm) 0 (L ++ [x]).length 2)))):=by
  have hl : 0 + L.length * 2 <= (flatM L).length:=by rw [flatM_length]; omega
  have hi' : (0 <= (i : Int) /\ (i : Int) < (L.length : Int)) /\ L.length < 60:=⟨⟨by omega,by omega⟩,hL⟩
  have hp:=flatM_get L i x hx
  have ht : ((i : Nat) : Int).toNat = i:=rfl
  simp only [wtwiceS,hq,h6]
  rw [if_pos hi',if_neg hnq]
  simp only [hn]
  rw [ht,Nat.zero_add,List.drop_zero,flatM_whole,Nat.zero_add,hp,if_pos ⟨by omega,rfl⟩,flatM_append,List.length_append]
  rfl
 exact ⟨_,hs,net_upd hq h3 h6 hnq (hf [33])⟩
theorem twice_out (h : NetIs H q n L) {i : Int} (hi : ¬ (0 <= i /\ i < (L.length : Int))) : wtwiceS [.ptr q 0,vi i] nm H = some (vb false,H):=by
 obtain ⟨row,sn,so,ss,hq,h3,h6,hn,hnq⟩:=h
 simp only [wtwiceS,hq,h6]
 rw [if_neg fun h => hi h.1]
theorem drop_at (h : NetIs H q n L) (hf : ∀ s,H (s ++ nm) = none) {i : Nat} (hi : i < L.length) (hL : L.length <= 60) :
  ∃ H',wdropS [.ptr q 0,vi (i : Nat)] nm H = some (vb true,H') /\ NetIs H' q (dropN nm) (L.take i ++ L.drop (i + 1)) /\ ∀ a r,H a = some r -> a ≠ n -> a ≠ q -> H' a = some r:=by
 obtain ⟨row,sn,so,ss,hq,h3,h6,hn,hnq⟩:=h
 have hlen : (L.take i ++ L.drop (i + 1)).length = L.length - 1:=by rw [List.length_append,List.length_take,List.length_drop]; omega
 have hs : wdropS [.ptr q 0,vi (i : Nat)] nm H = some (vb true,upd (upd (upd H n none) (dropN nm) (some (flatM (L.take i ++ L.drop (i + 1))))) q (some (row.set 6 (.sl (dropN nm) 0 (L.take i ++ L.drop (i + 1)).length 2)))):=by
  have hl : 0 + L.length * 2 <= (flatM L).length:=by rw [flatM_length]; omega
  have hi' : (0 <= (i : Int) /\ (i : Int) < (L.length : Int)):=⟨by omega,by omega⟩
  have ht : ((i : Nat) : Int).toNat = i:=rfl
  simp only [wdropS,hq,h6]
  rw [if_pos hi',if_neg hnq]
  simp only [hn]
  rw [ht,List.drop_zero,flatM_whole,if_pos ⟨⟨hl,by omega⟩,flatM_one L⟩,flatM_take,flatM_drop,<- flatM_append,hlen]
 exact ⟨_,hs,net_upd hq h3 h6 hnq (by have:=hf (dropN []); simpa [dropN] using this)⟩
theorem drop_out (h : NetIs H q n L) {i : Int} (hi : ¬ (0 <= i /\ i < (L.length : Int))) : wdropS [.ptr q 0,vi i] nm H = some (vb false,H):=by
 obtain ⟨row,sn,so,ss,hq,h3,h6,hn,hnq⟩:=h
 simp only [wdropS,hq,h6]
 rw [if_neg hi]
theorem net_at (h : NetIs H q n L) (hg : ∀ x ∈ L,x.good) (hL : L.length <= 60) : wnetS [.ptr q 0] nm H = some (.sl nm 0 L.length 1,upd H nm (some (L.map Msg.lent))):=by
 obtain ⟨row,sn,so,ss,hq,h3,h6,hn,hnq⟩:=h
 have hev : evens (netRow H q) = L.map Msg.lent:=by simp only [netRow,hq,h6,hn,Option.getD_some,evens_flat]
 unfold wnetS
 rw [if_pos ⟨q,n,row,L,rfl,hq,h6,hn,hg,hL⟩]
 simp only [hev,List.length_map]
end
end Go.Proofs.YtbllpnjappddeaaGreat.Den
