/- Contracts of a world on its net: Drop, Twice; what is known by runs. -/
import Derived.Test.YtbllpnjappddeaaGreatKLrA
import Derived.Test.YtbllpnjappddeaaGreatKWkT
import Derived.Test.YtbllpnjappddeaaGreatKWjF
set_option linter.unusedVariables false
set_option linter.unusedSimpArgs false
set_option maxRecDepth 1000000
namespace Go.Proofs.YtbllpnjappddeaaGreat.Den
open Go Go.RowKit
set_option linter.unusedSimpArgs false
variable {P : Program}
@[simp] theorem sz9 : szOf Tryz.prog 9 = some 1:=by kernel_rfl
@[simp] theorem ag9 : aggB Tryz.prog 9 = some false:=by kernel_rfl
@[simp] theorem ze9 : zeroCellsA Tryz.prog 9 = some ([.val (.string .empty)]):=by kernel_rfl
@[simp] theorem by72 : bytesOf' Tryz.prog 72 = some 24:=by kernel_rfl
@[simp] theorem sz186 : szOf Tryz.prog 186 = some 1:=by kernel_rfl
@[simp] theorem ag186 : aggB Tryz.prog 186 = some false:=by kernel_rfl
@[simp] theorem sz189 : szOf Tryz.prog 189 = some 1:=by kernel_rfl
@[simp] theorem ag189 : aggB Tryz.prog 189 = some false:=by kernel_rfl
@[simp] theorem sz206 : szOf Tryz.prog 206 = some 2:=by kernel_rfl
@[simp] theorem ag206 : aggB Tryz.prog 206 = some true:=by kernel_rfl
@[simp] theorem ze206 : zeroCellsA Tryz.prog 206 = some ([.val (.int .i64 0),.val (.slice none 0 0)]):=by kernel_rfl
@[simp] theorem fa191_1 (x : AV) : afieldAddr Tryz.prog 191 x 1 = fldK 3 x:=by kernel_rfl
@[simp] theorem fa191_4 (x : AV) : afieldAddr Tryz.prog 191 x 4 = fldK 6 x:=by kernel_rfl
@[simp] theorem fa206_1 (x : AV) : afieldAddr Tryz.prog 206 x 1 = fldK 1 x:=by kernel_rfl
@[simp] theorem ap91_91 (s x : AV) (nm : Name) (H : AHeap) : aappend Tryz.prog 91 91 s x nm H = appK 1 16 s x nm H:=aappend_eq (by kernel_rfl : Tryz.prog.underlying 91 = some (.slice 9)) (by kernel_rfl : Tryz.prog.underlying 91 = some (.slice 9)) rfl (by kernel_rfl) (by kernel_rfl) (by kernel_rfl) s x nm H
@[simp] theorem ap189_189 (s x : AV) (nm : Name) (H : AHeap) : aappend Tryz.prog 189 189 s x nm H = appK 2 32 s x nm H:=aappend_eq (by kernel_rfl : Tryz.prog.underlying 189 = some (.slice 206)) (by kernel_rfl : Tryz.prog.underlying 189 = some (.slice 206)) rfl (by kernel_rfl) (by kernel_rfl) (by kernel_rfl) s x nm H
def isTrue : SRes -> Bool
 | some (.bool b,_) => b
 | _ => false
theorem fn_true {ρ : Vals} {sc : SCall} (hsc : SCallOK P ρ sc) {f : FuncId} (h : isTrue (sc f [] ⟨0,.nil⟩) = true) : FnOK P f trueS:=by
 have hg : isGo P f = true:=by
  cases hc : sc f [] ⟨0,.nil⟩ with
  | none => rw [hc] at h; cases h
  | some x => exact (hsc _ _ _ _ _ hc).1
 refine ⟨hg,fun args nm H r H' hs => ?_⟩
 unfold trueS at hs
 split at hs
 ·cases hs
  have key : ∃ H₁,Sim P f [] nm (fun _ => none) (vb true) H₁:=by
   cases hc : sc f [] ⟨0,.nil⟩ with
   | none => rw [hc] at h; cases h
   | some x =>
    obtain ⟨r,h'⟩:=x
    rw [hc] at h
    cases r with
    | bool b =>
     have hb : b = true:=h
     subst hb
     obtain ⟨_,g⟩:=hsc _ _ _ _ _ hc
     obtain ⟨z,H₁,k1,ν',k2,k3,k4,k5⟩:=g (fun _ => none) (fun _ => none) nm [] ⟨fun n row hn => (by rw [show (⟨0,.nil⟩ : Mem).get n = none from nil_get n] at hn; cases hn),fun n k m hn => (by cases hn),fun n hn => absurd rfl hn⟩ (fun n s hn => (by cases hn)) .nil
     cases k5
     exact ⟨H₁,k1⟩
    | _ => cases h
  obtain ⟨H₁,hsim⟩:=key
  have hg0 : givenH (fun _ => False) H = fun _ => none:=by
   funext k
   unfold givenH
   rw [if_neg (fun h => h)]
  have hfr:=Sim.frame (D:=fun _ => False) (H:=H) (H':=H₁) (by rw [hg0]; exact hsim)
  intro σ I w vs hfresh hv har
  refine (hfr σ I w vs hfresh hv har).mono ?_
  rintro e w' ⟨v,σ',I',rfl,st,hr⟩
  refine ⟨v,σ',I',rfl,st.trans (Step.forget st.rel ?_),hr⟩
  intro k row hk
  have hnu : ¬ Under nm k:=by
   rintro ⟨s,rfl⟩
   obtain ⟨p,_,_,_,h1,_⟩:=har.rows _ _ hk
   rw [hfresh s] at h1
   cases h1
  unfold leftH
  rw [if_neg (by rintro (h | h); exact hnu h; exact h),hk]
 ·cases hs
attribute [local simp] runList aop abuiltin acall awanted ayielded env T0 tput tset Ran aload astore setMany upd binV aslice aindexAddr apart aindex alen acopy srcCells natOf boundOf aeq AV.nilEq convV appK fillA List.range List.range.loop onF isU8 rowOf
def thereS : Spec:=fun args nm H =>
 match args with
 | [.ptr q 0,.val (.int .i64 d)] =>
  match H q with
  | some row =>
   match row[3]? with
   | some (AV.sl _ _ len _) => some (vb (decide (0 <= d /\ d < (len : Int))),H)
   | _ => none
  | none => none
 | _ => none
set_option maxHeartbeats 400000 in
theorem there_ok : FnOK Tryz.prog 101 thereS:=by
 refine ⟨by kernel_rfl,fun args nm H r H' h => ?_⟩
 unfold thereS at h
 split at h
 ·rename_i q d
  split at h
  ·rename_i row hq
   split at h
   ·rename_i n off len sz h3
    cases h
    have hcall:=@noCall_ok Tryz.prog
    have hlt : 3 < row.length:=(List.getElem?_eq_some_iff.1 h3).1
    have h3' : ∀ h : 3 < row.length,row[3] = .sl n off len sz:=fun h => (List.getElem?_eq_some_iff.1 h3).2
    refine sim_go Tryz.func101 rfl rfl (Nat.le_of_ble_eq_true rfl) fun hH => ?_
    (repeat refine AWP.seq ?_)
    refine AWP.region_last hcall rfl fun K hK => ?_
    simp
    apply hK; clear hK K; simp only [onNormal,onExit]
    by_cases h0 : 0 <= d
    ·by_cases h1 : d < (len : Int)
     ·(repeat refine AWP.seq ?_)
      refine AWP.region_last hcall rfl fun K hK => ?_
      simp [h0,h1,hq,h3,h3',hlt]
      apply hK; clear hK K; simp only [onNormal,onExit]
      (try refine AWP.ret ?_); (try simp only [onNormal,onExit]); refine ⟨by simp,⟨_,rfl,by simp [ares1,h0,h1]⟩,fun k row hk => ?_⟩
      exact hk
     ·(repeat refine AWP.seq ?_)
      refine AWP.region_last hcall rfl fun K hK => ?_
      simp [h0,h1,hq,h3,h3',hlt]
      apply hK; clear hK K; simp only [onNormal,onExit]
      (try refine AWP.ret ?_); (try simp only [onNormal,onExit]); refine ⟨by simp,⟨_,rfl,by simp [ares1,h0,h1]⟩,fun k row hk => ?_⟩
      exact hk
    ·(repeat refine AWP.seq ?_)
     refine AWP.region_last hcall rfl fun K hK => ?_
     simp [h0,hq,h3]
     apply hK; clear hK K; simp only [onNormal,onExit]
     (try refine AWP.ret ?_); (try simp only [onNormal,onExit]); refine ⟨by simp,⟨_,rfl,by simp [ares1,h0]⟩,fun k row hk => ?_⟩
     exact hk
   ·cases h
  ·cases h
 ·cases h
abbrev v8 (n : Nat) : AV:=.val (.int .u8 (n : Int))
noncomputable def sameS (xs : List AV) (v : AV) : Spec:=fun args nm H => by
 classical exact if args = xs then some (v,H) else none
theorem fn_same {ρ : Vals} {sc : SCall} (hsc : SCallOK P ρ sc) {f : FuncId} {sa : List SV} {xs : List AV} {v : AV} {chk : SV -> Bool} (hx : SRels ρ (fun _ => none) sa xs)
  (h : (match sc f sa ⟨0,.nil⟩ with | some x => chk x.1 | none => false) = true) (hv : ∀ r,chk r = true -> ∀ ν z,SRel ρ ν r z -> z = v) : FnOK P f (sameS xs v):=by
 cases hc : sc f sa ⟨0,.nil⟩ with
 | none => rw [hc] at h; cases h
 | some x =>
  obtain ⟨r,h'⟩:=x
  rw [hc] at h
  obtain ⟨hg,g⟩:=hsc _ _ _ _ _ hc
  refine ⟨hg,fun args nm H r' H' hs => ?_⟩
  unfold sameS at hs
  split at hs
  ·rename_i hargs
   subst hargs
   cases hs
   obtain ⟨z,H₁,k1,ν',k2,k3,k4,k5⟩:=g (fun _ => none) (fun _ => none) nm args ⟨fun n row hn => (by rw [show (⟨0,.nil⟩ : Mem).get n = none from nil_get n] at hn; cases hn),fun n k m hn => (by cases hn),fun n hn => absurd rfl hn⟩ (fun n s hn => (by cases hn)) hx
   obtain rfl:=hv r h _ _ k5
   have hg0 : givenH (fun _ => False) H = fun _ => none:=by
    funext k
    unfold givenH
    rw [if_neg (fun h => h)]
   have hfr:=Sim.frame (D:=fun _ => False) (H:=H) (H':=H₁) (by rw [hg0]; exact k1)
   intro σ I w vs hfresh hv har
   refine (hfr σ I w vs hfresh hv har).mono ?_
   rintro e w' ⟨v,σ',I',rfl,st,hr⟩
   refine ⟨v,σ',I',rfl,st.trans (Step.forget st.rel ?_),hr⟩
   intro k row hk
   have hnu : ¬ Under nm k:=by
    rintro ⟨s,rfl⟩
    obtain ⟨p,_,_,_,h1,_⟩:=har.rows _ _ hk
    rw [hfresh s] at h1
    cases h1
   unfold leftH
   rw [if_neg (by rintro (h | h); exact hnu h; exact h),hk]
  ·cases hs
def rho0 : Vals:=⟨fun _ => 0,fun _ => 0,fun _ _ _ => 0⟩
noncomputable def keysSV : SV:=.agg (cA [.im true 2 (cB [107,48] []),.im true 2 (cB [107,49] []),.im true 2 (cB [107,50] [])] [])
def keysV : AV:=.agg [.im true 2 [v8 107,v8 48],.im true 2 [v8 107,v8 49],.im true 2 [v8 107,v8 50]]
theorem keys_rel {ρ : Vals} {ν : Nat -> Option Name} : SRel ρ ν keysSV keysV :=
 .agg (.cons (.im (.cons (.int _ _) (.cons (.int _ _) .nil))) (.cons (.im (.cons (.int _ _) (.cons (.int _ _) .nil))) (.cons (.im (.cons (.int _ _) (.cons (.int _ _) .nil))) .nil)))
theorem bytes2_only {ρ : Vals} {ν : Nat -> Option Name} {a b : Nat} {z : AV} (h : SRel ρ ν (.im true 2 (cB [a,b] [])) z) : z = .im true 2 [v8 a,v8 b]:=by
 change SRel ρ ν (.im true 2 [.int .u8 (.lit (.ofNat a)),.int .u8 (.lit (.ofNat b))]) z at h
 cases h with | im h =>
 cases h with | cons h1 h =>
 cases h with | cons h2 h =>
 cases h
 cases h1
 cases h2
 rfl
theorem keys_only {ρ : Vals} {ν : Nat -> Option Name} {z : AV} (h : SRel ρ ν keysSV z) : z = keysV:=by
 change SRel ρ ν (.agg [.im true 2 (cB [107,48] []),.im true 2 (cB [107,49] []),.im true 2 (cB [107,50] [])]) z at h
 cases h with | agg h =>
 cases h with | cons h1 h =>
 cases h with | cons h2 h =>
 cases h with | cons h3 h =>
 cases h
 rw [bytes2_only h1,bytes2_only h2,bytes2_only h3]
 rfl
theorem keys9_ok : FnOK Tryz.prog 50 (sameS [vnil] keysV) :=
 fn_same (callQ_ok rho0) (sa:=cA [sN] []) (chk:=fun r => vq r keysSV) (.cons (.val _) .nil) (by decide +kernel) fun r h ν z hz => by
  rw [vq_eq h] at hz
  exact keys_only hz
open Classical in
noncomputable def underH (nm : Name) (H : AHeap) : AHeap:=fun k => if Under nm k then H k else none
theorem underH_get {nm k : Name} {H : AHeap} {row : List AV} (h : H k = some row) (hu : Under nm k) : underH nm H k = some row:=by
 unfold underH
 rw [if_pos hu,h]
section
variable {ρ : Vals} {ν : Nat -> Option Name} {h : Mem} {H : AHeap}
def RowsIn (ρ : Vals) (ν : Nat -> Option Name) (h : Mem) (H : AHeap) : Prop:=∀ (k : Nat) (srow : List SV) (q : Name),h.get k = some srow -> ν k = some q -> ∃ row,H q = some row /\ SRels ρ ν srow row
theorem ptr_in {k off : Nat} {z : AV} (h : SRel ρ ν (.ptr k off) z) : ∃ m,z = .ptr m off /\ ν k = some m:=by
 cases h with | ptr hm => exact ⟨_,rfl,hm⟩
end
noncomputable def stMem : Mem:=zmem wj4.next' wj4.rows'
theorem st_w : stMem.get 38 = some [.sl 40 0 2 1,.sl 42 0 2 1,.sl 44 0 2 1,.sl 86 0 3 1,.sl 84 0 3 1,.sl 5025 0 3 87,.sl 3464 0 0 2,nI 21]:=by kernel_rfl
theorem st_tup : wj4.r = .tup [.ptr 38 0,.ptr 88 0]:=by kernel_rfl
theorem known20_run : isTrue (callQ 28 [] ⟨0,.nil⟩) = true:=by decide +kernel
theorem known20_ok : FnOK Tryz.prog 28 trueS:=fn_true (callQ_ok ⟨fun _ => 0,fun _ => 0,fun _ _ _ => 0⟩) known20_run
section
attribute [local simp] runList aop abuiltin acall awanted ayielded env T0 tput tset Ran aload astore setMany upd binV aslice aindexAddr apart aindex alen acopy srcCells natOf boundOf aeq AV.nilEq convV appK fillA List.range List.range.loop onF isU8 rowOf
def dropN (nm : Name) : Name:=20 :: nm
def wdropS : Spec:=fun args nm H =>
 match args with
 | [.ptr q 0,.val (.int .i64 i)] =>
  match H q with
  | some row =>
   match row[6]? with
   | some (AV.sl n off len 2) =>
    if 0 <= i /\ i < (len : Int) then
     if n = q then none else
     match H n with
     | some cells => if (off + len * 2 <= cells.length /\ len <= 140737488355328) /\ ((cells.drop off).take (len * 2)).all AV.one = true then
       some (vb true,upd (upd (upd H n none) (dropN nm) (some (((cells.drop off).take (len * 2)).take (i.toNat * 2) ++ ((cells.drop off).take (len * 2)).drop ((i.toNat + 1) * 2)))) q (some (row.set 6 (.sl (dropN nm) 0 (len - 1) 2)))) else none
     | none => none
    else some (vb false,H)
   | some (AV.val (.slice none 0 0)) => some (vb false,H)
   | _ => none
  | none => none
 | _ => none
set_option maxHeartbeats 1000000 in
theorem wdrop_ok : FnOK Tryz.prog 36 wdropS:=by
 refine ⟨by kernel_rfl,fun args nm H r H' h => ?_⟩
 unfold wdropS at h
 split at h
 ·rename_i q i
  split at h
  ·rename_i row hq
   split at h
   ·rename_i n off len h6
    have hlt : 6 < row.length:=(List.getElem?_eq_some_iff.1 h6).1
    have h6' : ∀ h : 6 < row.length,row[6] = .sl n off len 2:=fun h => (List.getElem?_eq_some_iff.1 h6).2
    split at h
    ·rename_i hi
     split at h
     ·cases h
     ·rename_i hnq
      split at h
      ·rename_i cells hn
       split at h
       ·rename_i hc
        cases h
        have hcall:=onF_ok deleteF_parcel (@noCall_ok Tryz.prog)
        obtain ⟨k,rfl⟩ : ∃ k : Nat,i = (k : Int):=⟨i.toNat,by omega⟩
        have hk0 : ¬ ((k : Int) < 0):=by omega
        have hk1 : ¬ ((len : Int) <= (k : Int)):=by omega
        have hw : IntKind.i64.wrap ((k : Int) + 1) = ((k + 1 : Nat) : Int):=by
         have:=hc.1.2
         rw [IntKind.wrap_i64]; omega
        refine sim_go Tryz.func36 rfl rfl (Nat.le_of_ble_eq_true rfl) fun hH => ?_
        (repeat refine AWP.seq ?_)
        refine AWP.region_last hcall rfl fun K hK => ?_
        simp
        apply hK; clear hK K; simp only [onNormal,onExit]
        (repeat refine AWP.seq ?_)
        refine AWP.region_last hcall rfl fun K hK => ?_
        simp [hk0,hk1,hq,h6,h6',hlt]
        apply hK; clear hK K; simp only [onNormal,onExit]
        (repeat refine AWP.seq ?_); refine AWP.cond (b:=false) (by simp) ?_; simp only [if_true,if_false,Bool.false_eq_true]
        refine AWP.skip ?_; simp only [onNormal,onExit]
        have hcast : (k : Int) + 1 = ((k + 1 : Nat) : Int):=by omega
        have hdel : ∀ nm',deleteS 2 [.sl n off len 2,vi (k : Int),vi ((k : Int) + 1)] nm' H = some (.sl nm' 0 (len - 1) 2,upd (upd H n none) nm' (some (((cells.drop off).take (len * 2)).take (k * 2) ++ ((cells.drop off).take (len * 2)).drop ((k + 1) * 2)))):=fun nm' => by
         rw [hcast]
         show (match H n with | some row => _ | none => none) = _
         rw [hn]
         show (if _ then _ else none) = _
         rw [if_pos ⟨rfl,by omega,by omega,hc.1.1,hc.2⟩]
         rw [show len - (k + 1 - k) = len - 1 by omega]
        have hqn : q ≠ 20 :: nm:=by rintro rfl; have:=hH [20]; rw [show ([20] : Name) ++ nm = 20 :: nm from rfl] at this; rw [this] at hq; cases hq
        have hqn' : ¬ q = n:=fun e => hnq e.symm
        have h7 : 7 <= row.length:=by omega
        (repeat refine AWP.seq ?_)
        refine AWP.region_last hcall rfl fun K hK => ?_
        simp [hw,hq,h6,h6',hlt,hdel,hqn,hqn',h7]
        apply hK; clear hK K; simp only [onNormal,onExit]
        (repeat refine AWP.seq ?_)
        refine AWP.region_last hcall rfl fun K hK => ?_
        simp
        apply hK; clear hK K; simp only [onNormal,onExit]
        (try refine AWP.ret ?_); (try simp only [onNormal,onExit]); refine ⟨by simp,⟨_,rfl,by simp [ares1]⟩,fun k row hk => ?_⟩
        refine Eq.trans ?_ hk
        simp only [dropN,Int.toNat_natCast]
       ·cases h
      ·cases h
    ·rename_i hi
     cases h
     have hcall:=@noCall_ok Tryz.prog
     refine sim_go Tryz.func36 rfl rfl (Nat.le_of_ble_eq_true rfl) fun hH => ?_
     (repeat refine AWP.seq ?_)
     refine AWP.region_last hcall rfl fun K hK => ?_
     simp
     apply hK; clear hK K; simp only [onNormal,onExit]
     by_cases h0 : i < 0
     ·(repeat refine AWP.seq ?_)
      refine AWP.region_last hcall rfl fun K hK => ?_
      simp [h0,hq,h6]
      apply hK; clear hK K; simp only [onNormal,onExit]
      (repeat refine AWP.seq ?_); refine AWP.cond (b:=true) (by simp) ?_; simp only [if_true,if_false,Bool.false_eq_true]
      (repeat refine AWP.seq ?_)
      refine AWP.region_last hcall rfl fun K hK => ?_
      simp
      apply hK; clear hK K; simp only [onNormal,onExit]
      (try refine AWP.ret ?_); (try simp only [onNormal,onExit]); refine ⟨by simp,⟨_,rfl,by simp [ares1]⟩,fun k row hk => ?_⟩
      exact hk
     ·have h1 : (len : Int) <= i:=by omega
      (repeat refine AWP.seq ?_)
      refine AWP.region_last hcall rfl fun K hK => ?_
      simp [h0,h1,hq,h6,h6',hlt]
      apply hK; clear hK K; simp only [onNormal,onExit]
      (repeat refine AWP.seq ?_); refine AWP.cond (b:=true) (by simp) ?_; simp only [if_true,if_false,Bool.false_eq_true]
      (repeat refine AWP.seq ?_)
      refine AWP.region_last hcall rfl fun K hK => ?_
      simp
      apply hK; clear hK K; simp only [onNormal,onExit]
      (try refine AWP.ret ?_); (try simp only [onNormal,onExit]); refine ⟨by simp,⟨_,rfl,by simp [ares1]⟩,fun k row hk => ?_⟩
      exact hk
   ·rename_i h6
    cases h
    have hlt : 6 < row.length:=(List.getElem?_eq_some_iff.1 h6).1
    have h6' : ∀ h : 6 < row.length,row[6] = vnil:=fun h => (List.getElem?_eq_some_iff.1 h6).2
    have hcall:=@noCall_ok Tryz.prog
    refine sim_go Tryz.func36 rfl rfl (Nat.le_of_ble_eq_true rfl) fun hH => ?_
    (repeat refine AWP.seq ?_)
    refine AWP.region_last hcall rfl fun K hK => ?_
    simp
    apply hK; clear hK K; simp only [onNormal,onExit]
    by_cases h0 : i < 0
    ·(repeat refine AWP.seq ?_)
     refine AWP.region_last hcall rfl fun K hK => ?_
     simp [h0,hq,h6]
     apply hK; clear hK K; simp only [onNormal,onExit]
     (repeat refine AWP.seq ?_); refine AWP.cond (b:=true) (by simp) ?_; simp only [if_true,if_false,Bool.false_eq_true]
     (repeat refine AWP.seq ?_)
     refine AWP.region_last hcall rfl fun K hK => ?_
     simp
     apply hK; clear hK K; simp only [onNormal,onExit]
     (try refine AWP.ret ?_); (try simp only [onNormal,onExit]); refine ⟨by simp,⟨_,rfl,by simp [ares1]⟩,fun k row hk => ?_⟩
     exact hk
    ·have h1 : (0 : Int) <= i:=by omega
     (repeat refine AWP.seq ?_)
     refine AWP.region_last hcall rfl fun K hK => ?_
     simp [h0,h1,hq,h6,h6',hlt]
     apply hK; clear hK K; simp only [onNormal,onExit]
     (repeat refine AWP.seq ?_); refine AWP.cond (b:=true) (by simp) ?_; simp only [if_true,if_false,Bool.false_eq_true]
     (repeat refine AWP.seq ?_)
     refine AWP.region_last hcall rfl fun K hK => ?_
     simp
     apply hK; clear hK K; simp only [onNormal,onExit]
     (try refine AWP.ret ?_); (try simp only [onNormal,onExit]); refine ⟨by simp,⟨_,rfl,by simp [ares1]⟩,fun k row hk => ?_⟩
     exact hk
   ·cases h
  ·cases h
 ·cases h
def twiceN (nm : Name) : Name:=33 :: nm
def wtwiceS : Spec:=fun args nm H =>
 match args with
 | [.ptr q 0,.val (.int .i64 i)] =>
  match H q with
  | some row =>
   match row[6]? with
   | some (AV.sl n off len 2) =>
    if (0 <= i /\ i < (len : Int)) /\ len < 60 then
     if n = q then none else
     match H n with
     | some cells => if off + len * 2 <= cells.length /\ ((cells.drop (off + i.toNat * 2)).take 2).all AV.one = true then
       some (vb true,upd (upd (upd H n none) (twiceN nm) (some ((cells.drop off).take (len * 2) ++ (cells.drop (off + i.toNat * 2)).take 2))) q (some (row.set 6 (.sl (twiceN nm) 0 (len + 1) 2)))) else none
     | none => none
    else some (vb false,H)
   | some (AV.val (.slice none 0 0)) => some (vb false,H)
   | _ => none
  | none => none
 | _ => none
set_option maxHeartbeats 1000000 in
theorem wtwice_ok : FnOK Tryz.prog 37 wtwiceS:=by
 refine ⟨by kernel_rfl,fun args nm H r H' h => ?_⟩
 unfold wtwiceS at h
 split at h
 ·rename_i q i
  split at h
  ·rename_i row hq
   split at h
   ·rename_i n off len h6
    have hlt : 6 < row.length:=(List.getElem?_eq_some_iff.1 h6).1
    have h6' : ∀ h : 6 < row.length,row[6] = .sl n off len 2:=fun h => (List.getElem?_eq_some_iff.1 h6).2
    split at h
    ·rename_i hi
     split at h
     ·cases h
     ·rename_i hnq
      split at h
      ·rename_i cells hn
       split at h
       ·rename_i hc
        cases h
        have hcall:=@noCall_ok Tryz.prog
        obtain ⟨j,rfl⟩ : ∃ j : Nat,i = (j : Int):=⟨i.toNat,by omega⟩
        have hk0 : ¬ ((j : Int) < 0):=by omega
        have hk1 : ¬ ((len : Int) <= (j : Int)):=by omega
        have hk2 : ¬ ((60 : Int) <= (len : Int)):=by omega
        have hk3 : (j : Int) < (len : Int):=by omega
        have h7 : 7 <= row.length:=by omega
        have hkl : j < len:=by omega
        have hb : off + j * 2 + 2 <= cells.length:=by have:=hc.1; omega
        obtain ⟨a,b,hab⟩ : ∃ a b,(cells.drop (off + j * 2)).take 2 = [a,b]:=by
         have hl : ((cells.drop (off + j * 2)).take 2).length = 2:=by rw [List.length_take,List.length_drop]; omega
         match h : (cells.drop (off + j * 2)).take 2,hl with
         | [a,b],_ => exact ⟨a,b,rfl⟩
        have hone : a.one = true /\ b.one = true:=by
         have:=hc.2
         rw [show ((j : Int)).toNat = j from rfl,hab] at this
         simpa using this
        have hl1 : len + 1 <= 140737488355328:=by omega
        have hl2 : (len + 1) * 32 <= 140737488355328:=by omega
        have hqn' : ¬ q = n:=fun e => hnq e.symm
        refine sim_go Tryz.func37 rfl rfl (Nat.le_of_ble_eq_true rfl) fun hH => ?_
        (repeat refine AWP.seq ?_)
        refine AWP.region_last hcall rfl fun K hK => ?_
        simp
        apply hK; clear hK K; simp only [onNormal,onExit]
        (repeat refine AWP.seq ?_)
        refine AWP.region_last hcall rfl fun K hK => ?_
        simp [hk0,hk1,hk2,hq,h6,h6',hlt]
        apply hK; clear hK K; simp only [onNormal,onExit]
        (repeat refine AWP.seq ?_); refine AWP.cond (b:=false) (by simp) ?_; simp only [if_true,if_false,Bool.false_eq_true]
        refine AWP.skip ?_; simp only [onNormal,onExit]
        have hr : ∀ x,H (x :: nm) = none:=fun x => hH [x]
        have hrn : ∀ x,¬ n = x :: nm:=fun x e => by rw [e,hr] at hn; cases hn
        have hrq : ∀ x,¬ q = x :: nm:=fun x e => by rw [e,hr] at hq; cases hq
        have hrn' : ∀ x,¬ x :: nm = n:=fun x e => hrn x e.symm
        have hrq' : ∀ x,¬ x :: nm = q:=fun x e => hrq x e.symm
        have hc1:=hc.1
        (repeat refine AWP.seq ?_)
        refine AWP.draw_last rfl hcall [0,0,2,6,14,0,32,96,224,0,992,2016,4064,8190,16383,32767,65535] [⟨1,false,[]⟩,⟨2,false,[]⟩,⟨3,false,[]⟩,⟨4,false,[0]⟩,⟨5,false,[]⟩,⟨6,false,[]⟩,⟨7,false,[]⟩,⟨8,false,[0]⟩,⟨9,false,[]⟩,⟨10,false,[]⟩,⟨11,false,[0]⟩,⟨12,false,[]⟩,⟨13,true,[]⟩,⟨0,false,[]⟩,⟨14,false,[]⟩,⟨15,false,[]⟩,⟨16,true,[]⟩] rfl (by kernel_rfl) fun K hK => ?_
        simp (maxDischargeDepth:=20) [planW,chkW,hk0,hk1,hk3,hkl,hq,h6,h6',hlt,hn,h7,hqn',hnq,hab,hone.1,hone.2,hl1,hl2,hrn,hrq,hrn',hrq',hb,hc1]
        apply hK; clear hK K; simp only [onNormal,onExit]
        (repeat refine AWP.seq ?_)
        refine AWP.region_last hcall rfl fun K hK => ?_
        simp
        apply hK; clear hK K; simp only [onNormal,onExit]
        (try refine AWP.ret ?_); (try simp only [onNormal,onExit]); refine ⟨by simp,⟨_,rfl,by simp [ares1]⟩,fun k row hk => ?_⟩
        rw [show ((j : Int)).toNat = j from rfl,hab] at hk
        by_cases e1 : k = q
        ·subst e1; simpa [upd,twiceN,hrq,hrq'] using hk
        ·by_cases e2 : k = 33 :: nm
         ·subst e2; simpa [upd,twiceN,hrq,hrq'] using hk
         ·by_cases e3 : k = n
          ·subst e3; simp [upd,twiceN,e1,e2] at hk
          ·have e4 : ¬ k = 32 :: nm:=by
            rintro rfl
            simp [upd,twiceN,e1,e3,hr] at hk
           simpa [upd,twiceN,e1,e2,e3,e4] using hk
       ·cases h
      ·cases h
    ·rename_i hi
     cases h
     have hcall:=@noCall_ok Tryz.prog
     refine sim_go Tryz.func37 rfl rfl (Nat.le_of_ble_eq_true rfl) fun hH => ?_
     (repeat refine AWP.seq ?_)
     refine AWP.region_last hcall rfl fun K hK => ?_
     simp
     apply hK; clear hK K; simp only [onNormal,onExit]
     by_cases h0 : i < 0
     ·(repeat refine AWP.seq ?_)
      refine AWP.region_last hcall rfl fun K hK => ?_
      simp [h0,hq,h6]
      apply hK; clear hK K; simp only [onNormal,onExit]
      (repeat refine AWP.seq ?_); refine AWP.cond (b:=true) (by simp) ?_; simp only [if_true,if_false,Bool.false_eq_true]
      (repeat refine AWP.seq ?_)
      refine AWP.region_last hcall rfl fun K hK => ?_
      simp
      apply hK; clear hK K; simp only [onNormal,onExit]
      (try refine AWP.ret ?_); (try simp only [onNormal,onExit]); refine ⟨by simp,⟨_,rfl,by simp [ares1]⟩,fun k row hk => ?_⟩
      exact hk
     ·by_cases h1 : (len : Int) <= i
      ·(repeat refine AWP.seq ?_)
       refine AWP.region_last hcall rfl fun K hK => ?_
       simp [h0,h1,hq,h6,h6',hlt]
       apply hK; clear hK K; simp only [onNormal,onExit]
       (repeat refine AWP.seq ?_); refine AWP.cond (b:=true) (by simp) ?_; simp only [if_true,if_false,Bool.false_eq_true]
       (repeat refine AWP.seq ?_)
       refine AWP.region_last hcall rfl fun K hK => ?_
       simp
       apply hK; clear hK K; simp only [onNormal,onExit]
       (try refine AWP.ret ?_); (try simp only [onNormal,onExit]); refine ⟨by simp,⟨_,rfl,by simp [ares1]⟩,fun k row hk => ?_⟩
       exact hk
      ·have h2 : (60 : Int) <= (len : Int):=by omega
       (repeat refine AWP.seq ?_)
       refine AWP.region_last hcall rfl fun K hK => ?_
       simp [h0,h1,h2,hq,h6,h6',hlt]
       apply hK; clear hK K; simp only [onNormal,onExit]
       (repeat refine AWP.seq ?_); refine AWP.cond (b:=true) (by simp) ?_; simp only [if_true,if_false,Bool.false_eq_true]
       (repeat refine AWP.seq ?_)
       refine AWP.region_last hcall rfl fun K hK => ?_
       simp
       apply hK; clear hK K; simp only [onNormal,onExit]
       (try refine AWP.ret ?_); (try simp only [onNormal,onExit]); refine ⟨by simp,⟨_,rfl,by simp [ares1]⟩,fun k row hk => ?_⟩
       exact hk
   ·rename_i h6
    cases h
    have hlt : 6 < row.length:=(List.getElem?_eq_some_iff.1 h6).1
    have h6' : ∀ h : 6 < row.length,row[6] = vnil:=fun h => (List.getElem?_eq_some_iff.1 h6).2
    have hcall:=@noCall_ok Tryz.prog
    refine sim_go Tryz.func37 rfl rfl (Nat.le_of_ble_eq_true rfl) fun hH => ?_
    (repeat refine AWP.seq ?_)
    refine AWP.region_last hcall rfl fun K hK => ?_
    simp
    apply hK; clear hK K; simp only [onNormal,onExit]
    by_cases h0 : i < 0
    ·(repeat refine AWP.seq ?_)
     refine AWP.region_last hcall rfl fun K hK => ?_
     simp [h0,hq,h6]
     apply hK; clear hK K; simp only [onNormal,onExit]
     (repeat refine AWP.seq ?_); refine AWP.cond (b:=true) (by simp) ?_; simp only [if_true,if_false,Bool.false_eq_true]
     (repeat refine AWP.seq ?_)
     refine AWP.region_last hcall rfl fun K hK => ?_
     simp
     apply hK; clear hK K; simp only [onNormal,onExit]
     (try refine AWP.ret ?_); (try simp only [onNormal,onExit]); refine ⟨by simp,⟨_,rfl,by simp [ares1]⟩,fun k row hk => ?_⟩
     exact hk
    ·have h1 : (0 : Int) <= i:=by omega
     (repeat refine AWP.seq ?_)
     refine AWP.region_last hcall rfl fun K hK => ?_
     simp [h0,h1,hq,h6,h6',hlt]
     apply hK; clear hK K; simp only [onNormal,onExit]
     (repeat refine AWP.seq ?_); refine AWP.cond (b:=true) (by simp) ?_; simp only [if_true,if_false,Bool.false_eq_true]
     (repeat refine AWP.seq ?_)
     refine AWP.region_last hcall rfl fun K hK => ?_
     simp
     apply hK; clear hK K; simp only [onNormal,onExit]
     (try refine AWP.ret ?_); (try simp only [onNormal,onExit]); refine ⟨by simp,⟨_,rfl,by simp [ares1]⟩,fun k row hk => ?_⟩
     exact hk
   ·cases h
  ·cases h
 ·cases h
end
end Go.Proofs.YtbllpnjappddeaaGreat.Den
