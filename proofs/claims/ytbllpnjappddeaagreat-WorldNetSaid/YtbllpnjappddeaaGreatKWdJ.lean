/- WorldNet: the law; its arguments as lent values. -/
import Derived.Test.YtbllpnjappddeaaGreatKWdF
import Derived.OpenShut
import Derived.Deep.Matrix
set_option linter.unusedVariables false
set_option linter.unusedSimpArgs false
set_option maxRecDepth 1000000
namespace Go.Proofs.YtbllpnjappddeaaGreat.Den
open Go Go.RowKit
section
attribute [local simp] runList aop abuiltin acall awanted ayielded env T0 tput tset Ran aload astore setMany upd binV aslice aindexAddr apart aindex alen acopy srcCells natOf boundOf aeq AV.nilEq convV appK fillA List.range List.range.loop onF isU8 rowOf
theorem st_e : stMem.get 3464 = some []:=by kernel_rfl
theorem nst_ex (nm : Name) : ∃ (q n : Name) (x : AV) (H₁ : AHeap),Sim Tryz.prog 49 [keysV] nm (fun _ => none) (.tup [.ptr q 0,x]) H₁ /\ NetIs (underH nm H₁) q n []:=by
 obtain ⟨z,H₁,hs,ν',_,hn,hm,hr⟩:=(start_fit rho0).1.1.2 (fun _ => none) (fun _ => none) nm [keysV] ⟨fun n row hn => (by rw [show (zmem wj4.next wj4.rows).get n = none from nil_get n] at hn; cases hn),fun n k m hn => (by cases hn),fun n hn => absurd rfl hn⟩ (fun n s hn => (by cases hn)) (.cons keys_rel .nil)
 have R : RowsIn rho0 ν' stMem (underH nm H₁):=by
  intro k srow q hk hq
  obtain ⟨m,row,h1,h2,h3⟩:=hm.rows k srow hk
  rw [hq] at h1
  cases h1
  refine ⟨row,underH_get h2 ?_,h3⟩
  rcases hn _ _ hq with h | h
  ·cases h
  ·exact h
 rw [st_tup] at hr
 cases hr with | tup hr =>
 rcases hr with _ | ⟨r1,hr⟩
 rcases hr with _ | ⟨r2,hr⟩
 cases hr
 obtain ⟨q,rfl,hq⟩:=ptr_in r1
 obtain ⟨r,hr,s⟩:=R _ _ _ st_w hq
 rcases s with _ | ⟨s1,s⟩
 rcases s with _ | ⟨s2,s⟩
 rcases s with _ | ⟨s3,s⟩
 rcases s with _ | ⟨s4,s⟩
 rcases s with _ | ⟨s5,s⟩
 rcases s with _ | ⟨s6,s⟩
 rcases s with _ | ⟨s7,s⟩
 rcases s with _ | ⟨s8,s⟩
 cases s
 cases s4 with | sl hm4 =>
 cases s7 with | sl hm7 =>
 obtain ⟨r',hr',t⟩:=R _ _ _ st_e hm7
 cases t
 refine ⟨q,_,_,H₁,hs,⟨_,_,_,_,hr,rfl,rfl,hr',?_⟩⟩
 rintro rfl
 have:=hm.inj _ _ _ hm7 hq
 cases this
noncomputable def nsQ (nm : Name) : Name:=(nst_ex nm).choose
noncomputable def nsN (nm : Name) : Name:=(nst_ex nm).choose_spec.choose
noncomputable def nsX (nm : Name) : AV:=(nst_ex nm).choose_spec.choose_spec.choose
noncomputable def nsH (nm : Name) : AHeap:=(nst_ex nm).choose_spec.choose_spec.choose_spec.choose
theorem ns_spec (nm : Name) : Sim Tryz.prog 49 [keysV] nm (fun _ => none) (.tup [.ptr (nsQ nm) 0,nsX nm]) (nsH nm) /\ NetIs (underH nm (nsH nm)) (nsQ nm) (nsN nm) []:=(nst_ex nm).choose_spec.choose_spec.choose_spec.choose_spec
noncomputable def nsL (nm : Name) (H : AHeap) : AHeap:=leftH nm (fun _ => False) H (nsH nm)
open Classical in
noncomputable def nstartS : Spec:=fun args nm H => if args = [keysV] then some (.tup [.ptr (nsQ nm) 0,nsX nm],nsL nm H) else none
theorem nstart_fn : FnOK Tryz.prog 49 nstartS:=by
 refine ⟨(start_fit rho0).1.1.1,fun args nm H r H' h => ?_⟩
 unfold nstartS at h
 split at h
 ·rename_i hc
  subst hc
  cases h
  have hg0 : givenH (fun _ => False) H = fun _ => none:=by
   funext k
   unfold givenH
   rw [if_neg (fun h => h)]
  exact Sim.frame (D:=fun _ => False) (H:=H) (by rw [hg0]; exact (ns_spec nm).1)
 ·cases h
theorem ns_under {nm : Name} {H : AHeap} (k : Name) (r : List AV) (h : underH nm (nsH nm) k = some r) : nsL nm H k = some r:=by
 unfold underH at h
 split at h
 ·rename_i hu
  unfold nsL leftH
  rw [if_pos (.inl hu),h]
 ·cases h
theorem NetIs.mono {H H₁ : AHeap} (h : ∀ k r,H k = some r -> H₁ k = some r) {q n : Name} {L : List Msg} : NetIs H q n L -> NetIs H₁ q n L:=fun ⟨row,sn,so,ss,a,b,c,d,e⟩ => ⟨row,sn,so,ss,h _ _ a,b,c,h _ _ d,e⟩
theorem ns_net (nm : Name) (H : AHeap) : NetIs (nsL nm H) (nsQ nm) (nsN nm) []:=(ns_spec nm).2.mono ns_under
theorem ns_stays {nm : Name} {H : AHeap} (hf : ∀ s,H (s ++ nm) = none) (k : Name) (r : List AV) (h : H k = some r) : nsL nm H k = some r:=by
 have hnu : ¬ Under nm k:=by
  rintro ⟨s,rfl⟩
  rw [hf s] at h
  cases h
 unfold nsL leftH
 rw [if_neg (by rintro (h | h); exact hnu h; exact h),h]
def threeS : Spec:=fun _ _ _ => none
theorem nstartS_at (nm : Name) (H : AHeap) : nstartS [keysV] nm H = some (.tup [.ptr (nsQ nm) 0,nsX nm],nsL nm H):=if_pos rfl
theorem keysN_at (nm : Name) (H : AHeap) : sameS [vnil] keysV [vnil] nm H = some (keysV,H):=by
 unfold sameS; rw [if_pos rfl]
open Classical in
noncomputable def nthreeS : Spec:=fun args nm H => if args = [] then some (.ptr (nsQ (2 :: nm)) 0,nsL (2 :: nm) H) else none
theorem nthree_ok : FnOK Tryz.prog 29 nthreeS:=by
 refine ⟨by kernel_rfl,fun args nm H r H' h => ?_⟩
 unfold nthreeS at h
 split at h
 ·rename_i hc
  subst hc
  cases h
  have hcall:=onF_ok keys9_ok (onF_ok nstart_fn (@noCall_ok Tryz.prog))
  refine sim_go Tryz.func29 rfl rfl (Nat.le_of_ble_eq_true rfl) fun hH => ?_
  (repeat refine AWP.seq ?_)
  refine AWP.region_last hcall rfl fun K hK => ?_
  simp
  apply hK; clear hK K; simp only [onNormal,onExit]
  (repeat refine AWP.seq ?_)
  refine AWP.region_last hcall rfl fun K hK => ?_
  simp [keysN_at,nstartS_at]
  apply hK; clear hK K; simp only [onNormal,onExit]
  (repeat refine AWP.seq ?_)
  refine AWP.region_last hcall rfl fun K hK => ?_
  simp
  apply hK; clear hK K; simp only [onNormal,onExit]
  (try refine AWP.ret ?_); (try simp only [onNormal,onExit]); refine ⟨by simp,⟨_,rfl,by simp [ares1]⟩,fun k row hk => ?_⟩
  exact hk
 ·cases h
def within20S : Spec:=fun args nm H =>
 match args with
 | [.val (.int .i64 a),.val (.int .i64 n)] => if 0 < n /\ n < 1000 then some (vi (a % n),H) else none
 | _ => none
theorem emod_tmod {a n : Int} (hn : 0 < n) : (-n < a.tmod n /\ a.tmod n < n) /\ a % n = (if a.tmod n < 0 then a.tmod n + n else a.tmod n):=by
 have h1:=Int.tmod_lt_of_pos a hn
 have h2:=Int.lt_tmod_of_pos a hn
 have h0:=Int.mul_tdiv_add_tmod a n
 have h3 : a % n = (a.tmod n) % n:=by
  conv => lhs; rw [<- h0,Int.add_comm]
  exact Int.add_mul_emod_self_left _ _ _
 refine ⟨⟨h2,h1⟩,?_⟩
 rw [h3]
 split
 ·rw [<- Int.add_emod_right]; exact Int.emod_eq_of_lt (by omega) (by omega)
 ·exact Int.emod_eq_of_lt (by omega) (by omega)
theorem within20_fn : FnOK Tryz.prog 30 within20S:=by
 refine ⟨by kernel_rfl,fun args nm H r H' h => ?_⟩
 unfold within20S at h
 split at h
 ·rename_i a n
  split at h
  ·rename_i hc
   cases h
   have hcall:=@noCall_ok Tryz.prog
   have hn0 : ¬ n = 0:=by omega
   have he:=@emod_tmod a n hc.1
   refine sim_go Tryz.func30 rfl rfl (Nat.le_of_ble_eq_true rfl) fun hH => ?_
   (repeat refine AWP.seq ?_)
   refine AWP.region_last hcall rfl fun K hK => ?_
   simp
   apply hK; clear hK K; simp only [onNormal,onExit]
   (repeat refine AWP.seq ?_)
   refine AWP.region_last hcall rfl fun K hK => ?_
   simp [hn0]
   apply hK; clear hK K; simp only [onNormal,onExit]
   by_cases h0 : a.tmod n < 0
   ·have hw : IntKind.i64.wrap (a.tmod n + n) = a.tmod n + n:=by rw [IntKind.wrap_i64]; omega
    rw [he.2,if_pos h0]
    (repeat refine AWP.seq ?_)
    refine AWP.region_last hcall rfl fun K hK => ?_
    simp [h0]
    apply hK; clear hK K; simp only [onNormal,onExit]
    (repeat refine AWP.seq ?_); refine AWP.cond (b:=true) (by simp [h0]) ?_; simp only [if_true,if_false,Bool.false_eq_true]
    (repeat refine AWP.seq ?_)
    refine AWP.region_last hcall rfl fun K hK => ?_
    simp [hw]
    apply hK; clear hK K; simp only [onNormal,onExit]
    (repeat refine AWP.seq ?_)
    refine AWP.region_last hcall rfl fun K hK => ?_
    simp
    apply hK; clear hK K; simp only [onNormal,onExit]
    (try refine AWP.ret ?_); (try simp only [onNormal,onExit]); refine ⟨by simp,⟨_,rfl,by simp [ares1]⟩,fun k row hk => ?_⟩
    exact hk
   ·rw [he.2,if_neg h0]
    (repeat refine AWP.seq ?_)
    refine AWP.region_last hcall rfl fun K hK => ?_
    simp [h0]
    apply hK; clear hK K; simp only [onNormal,onExit]
    (repeat refine AWP.seq ?_); refine AWP.cond (b:=false) (by simp [h0]) ?_; simp only [if_true,if_false,Bool.false_eq_true]
    refine AWP.skip ?_; simp only [onNormal,onExit]
    (repeat refine AWP.seq ?_)
    refine AWP.region_last hcall rfl fun K hK => ?_
    simp
    apply hK; clear hK K; simp only [onNormal,onExit]
    (try refine AWP.ret ?_); (try simp only [onNormal,onExit]); refine ⟨by simp,⟨_,rfl,by simp [ares1]⟩,fun k row hk => ?_⟩
    exact hk
  ·cases h
 ·cases h
def tl : Nat -> Code -> Code
 | 0,c => c
 | k + 1,.seq _ c => tl k c
 | _ + 1,c => c
noncomputable def netC : Code:=tl 5 (Tryz.f8.body.getD .skip)
noncomputable def netD : Code:=tl 6 (Tryz.f8.body.getD .skip)
abbrev netQ : Exit -> Nat -> Temps -> AHeap -> Prop:=fun e x T H₁ => (e = .normal \/ e = .ret) /\ (∃ l,ares Tryz.prog T H₁ Tryz.f8.results.toList = some l /\ vb true = ares1 l) /\ ∀ (k : Name) (row : List AV),False -> H₁ k = some row
theorem nthreeS_at (nm : Name) (H : AHeap) : nthreeS [] nm H = some (.ptr (nsQ (2 :: nm)) 0,nsL (2 :: nm) H):=if_pos rfl
def bytesArg (l : List UInt8) : AV:=.im false l.length (bs l)
def rowsArg (A : List (List UInt8)) : AV:=.im false A.length (A.map bytesArg)
def intsArg (B : List Int) : AV:=.im false B.length (B.map vi)
def strB (l : List UInt8) : AV:=.val (.string ⟨l.toArray⟩)
def msgB (x : Int × List UInt8) : Msg:=⟨x.1,x.2.length,bs x.2⟩
theorem alen_sl (n : Name) (o l z : Nat) : alen Tryz.prog 42 (.sl n o l z) = some (vi (l : Nat)):=by rfl
abbrev PM:=Int × List UInt8
theorem bs_allone (l : List UInt8) : (bs l).all AV.one = true:=by
 induction l with
 | nil => rfl
 | cons a l ih => simp only [bs,List.map_cons,List.all_cons] at ih ⊢; rw [ih]; rfl
theorem msgB_good {x : PM} (h : x.2.length <= 8192) : (msgB x).good:=⟨⟨bs_allone _,bs_length _⟩,h⟩
def Strs (H : AHeap) (q n : Name) (v : AV) (L : List PM) : Prop:=(v = vnil /\ L = []) \/ ∃ y,v = .sl y 0 L.length 1 /\ H y = some (L.map fun x => strB x.2) /\ y ≠ q /\ y ≠ n
def Both (H : AHeap) (q : Name) (v : AV) (L : List PM) : Prop:=∃ n,NetIs H q n (L.map msgB) /\ Strs H q n v L /\ ∀ x ∈ L,x.2.length <= 100
theorem NetIs.upd {H : AHeap} {q n a : Name} {L : List Msg} {x : Option (List AV)} (h : NetIs H q n L) (hq : a ≠ q) (hn : a ≠ n) : NetIs (upd H a x) q n L:=by
 obtain ⟨row,sn,so,ss,h1,h2,h3,h4,h5⟩:=h
 exact ⟨row,sn,so,ss,by rw [upd_ne _ _ (Ne.symm hq)]; exact h1,h2,h3,by rw [upd_ne _ _ (Ne.symm hn)]; exact h4,h5⟩
theorem NetIs.at_q {H : AHeap} {q n : Name} {L : List Msg} (h : NetIs H q n L) : ∃ r,H q = some r:=by
 obtain ⟨row,_,_,_,h,_⟩:=h; exact ⟨row,h⟩
theorem NetIs.at_n {H : AHeap} {q n : Name} {L : List Msg} (h : NetIs H q n L) : ∃ r,H n = some r:=by
 obtain ⟨row,_,_,_,_,_,_,h,_⟩:=h; exact ⟨_,h⟩
set_option maxHeartbeats 4000000 in
theorem net_three {nm : Name} {q : Name} {c : Nat} {T : Temps} {H : AHeap} {L : List PM} (t7 : T 7 = .ptr q 0) (hL : L.length <= 25) (hB : Both H q (T 8) L) : AWP Tryz.prog nm Tryz.f8.ntmps netD netQ c T H:=by
 have hcall:=onF_ok known20_ok (onF_ok nthree_ok (onF_ok wforge_ok (onF_ok wdrop_ok (onF_ok wtwice_ok (onF_ok wnet_ok (onF_ok within20_fn (@noCall_ok Tryz.prog)))))))
 obtain ⟨n,hn,hst,hgd⟩:=hB
 refine AWP.known_fresh fun hfr => ?_
 dsimp only [netD,tl,Tryz.f8,Option.getD_some]
 obtain ⟨N,hN⟩ : ∃ N,N = L.length:=⟨_,rfl⟩
 have hal : alen Tryz.prog 91 (T 8) = some (vi (N : Nat)):=by
  rcases hst with ⟨h8,hL0⟩ | ⟨y,h8,_⟩
  ·rw [h8,hN,hL0]; rfl
  ·rw [h8,hN]; rfl
 have hgood : ∀ x ∈ L.map msgB,x.good:=fun x hx => by
  obtain ⟨y,hy,rfl⟩:=List.mem_map.1 hx
  exact msgB_good (by have:=hgd y hy; omega)
 have hnet : ∀ nm',wnetS [.ptr q 0] nm' H = some (.sl nm' 0 N 1,upd H nm' (some ((L.map msgB).map Msg.lent))):=fun nm' => by
  have:=net_at (nm:=nm') hn hgood (by rw [List.length_map]; omega)
  rw [this,List.length_map,hN]
 (repeat refine AWP.seq ?_)
 refine AWP.region_last hcall rfl fun K hK => ?_
 simp [t7,hnet]
 apply hK; clear hK K; simp only [onNormal,onExit]
 (repeat refine AWP.seq ?_)
 refine AWP.region_last hcall rfl fun K hK => ?_
 simp [-alen,hal,alen_sl]
 apply hK; clear hK K; simp only [onNormal,onExit]
 (repeat refine AWP.seq ?_); refine AWP.cond (b:=false) (by simp) ?_; simp only [if_true,if_false,Bool.false_eq_true]
 refine AWP.skip ?_; simp only [onNormal,onExit]
 (repeat refine AWP.seq ?_)
 refine AWP.region_last hcall rfl fun K hK => ?_
 simp
 apply hK; clear hK K; simp only [onNormal,onExit]
 (repeat refine AWP.seq ?_); refine AWP.block ?_
 obtain ⟨v,hv⟩ : ∃ v,v = T 8:=⟨_,rfl⟩
 rw [<- hv] at hst hal
 have hm0 : H ((c + 1) :: nm) = none:=hfr (c + 1) [] (by omega)
 obtain ⟨m0,hm⟩ : ∃ m0,m0 = (c + 1) :: nm:=⟨_,rfl⟩
 rw [<- hm] at hm0 ⊢
 refine AWP.loop (fun m c' T' H2 => ∃ k,k <= N /\ m = N - k /\ T' 14 = .sl m0 0 N 1 /\ T' 15 = vi (k : Nat) /\ T' 8 = v /\ H2 = upd H m0 (some (L.map (Msg.lent ∘ msgB)))) N ⟨0,by omega,rfl,by simp,by simp,by simp [hv],by simp [hm]⟩ ?_
 rintro m c' T' H2 ⟨k,hkN,rfl,t14,t15,t8,rfl⟩
 by_cases hlt : k < N
 ·have hlt' : (k : Int) < (N : Int):=by omega
  rcases hst with ⟨h8,hL0⟩ | ⟨z,h8,hz,hzq,hzn⟩
  ·subst hL0; simp at hN; omega
  obtain ⟨l,hl⟩ : ∃ l,L[k]? = some l:=⟨L[k],List.getElem?_eq_getElem (by omega)⟩
  have hzm : ¬ z = m0:=by rintro rfl; rw [hm0] at hz; cases hz
  have hzm' : ¬ m0 = z:=fun e => hzm e.symm
  obtain ⟨S,hS⟩ : ∃ S,S = L.map fun x => strB x.2:=⟨_,rfl⟩
  have hSl : S.length = L.length:=by rw [hS,List.length_map]
  have hSp : S[k]? = some (.val (.string ⟨l.2.toArray⟩)):=by rw [hS,List.getElem?_map,hl]; rfl
  have hSp' : ∀ h : k < S.length,S[k] = .val (.string ⟨l.2.toArray⟩):=fun h => (List.getElem?_eq_some_iff.1 hSp).2
  obtain ⟨R,hR⟩ : ∃ R,R = L.map (Msg.lent ∘ msgB):=⟨_,rfl⟩
  have hRl : R.length = L.length:=by rw [hR,List.length_map]
  have hRp : R[k]? = some (.im true l.2.length (bs l.2)):=by rw [hR,List.getElem?_map,hl]; rfl
  have hRp' : ∀ h : k < R.length,R[k] = .im true l.2.length (bs l.2):=fun h => (List.getElem?_eq_some_iff.1 hRp).2
  rw [<- hS] at hz
  rw [<- hN] at h8
  rw [<- hR]
  have hkR : k < R.length:=by omega
  have hkS : k < S.length:=by omega
  have hby:=bytesA_bs l.2
  (repeat refine AWP.seq ?_)
  refine AWP.region_last hcall rfl fun K hK => ?_
  simp [t14,t15,hlt']
  apply hK; clear hK K; simp only [onNormal,onExit]
  (repeat refine AWP.seq ?_); refine AWP.cond (b:=true) (by simp [hlt']) ?_; simp only [if_true,if_false,Bool.false_eq_true]
  refine AWP.skip ?_; simp only [onNormal,onExit]
  (repeat refine AWP.seq ?_); refine AWP.block ?_
  (repeat refine AWP.seq ?_)
  refine AWP.draw_last rfl hcall [0,0,3,7,15,0,0,96,224,511] [⟨0,false,[]⟩,⟨1,false,[]⟩,⟨2,false,[]⟩,⟨3,false,[0]⟩,⟨4,false,[0]⟩,⟨5,false,[]⟩,⟨6,false,[]⟩,⟨7,false,[]⟩,⟨8,false,[0]⟩,⟨9,false,[]⟩] rfl (by kernel_rfl) fun K hK => ?_
  simp (maxDischargeDepth:=20) [planW,chkW,t14,t15,t8,h8,hlt',hlt,hz,hzm,hzm',hSp,hSp',hRp,hRp',hkR,hkS,hby,List.lookup]
  apply hK; clear hK K; simp only [onNormal,onExit]
  have hwk : IntKind.i64.wrap ((k : Int) + 1) = ((k + 1 : Nat) : Int):=by rw [IntKind.wrap_i64]; omega
  (repeat refine AWP.seq ?_); refine AWP.cond (b:=false) (by simp) ?_; simp only [if_true,if_false,Bool.false_eq_true]
  refine AWP.skip ?_; simp only [onNormal,onExit]
  (repeat refine AWP.seq ?_)
  refine AWP.region_last hcall rfl fun K hK => ?_
  simp [t15,hwk]
  apply hK; clear hK K; simp only [onNormal,onExit]
  exact ⟨N - (k + 1),by omega,k + 1,by omega,rfl,by simp [t14],by simp,by simp [t8,h8],trivial⟩
 ·have hlt' : ¬ (k : Int) < (N : Int):=by omega
  (repeat refine AWP.seq ?_)
  refine AWP.region_last hcall rfl fun K hK => ?_
  simp [t14,t15,hlt']
  apply hK; clear hK K; simp only [onNormal,onExit]
  (repeat refine AWP.seq ?_); refine AWP.cond (b:=false) (by simp [hlt']) ?_; simp only [if_true,if_false,Bool.false_eq_true]
  refine AWP.exit ?_; simp only [onNormal,onExit,if_true,reduceCtorEq,if_false]
  (repeat refine AWP.seq ?_)
  refine AWP.region_last hcall rfl fun K hK => ?_
  simp
  apply hK; clear hK K; simp only [onNormal,onExit]
  (try refine AWP.ret ?_); (try simp only [onNormal,onExit]); refine ⟨by simp,⟨_,rfl,by simp [ares1]⟩,fun k row hk => ?_⟩
  exact hk.elim
set_option maxHeartbeats 4000000 in
theorem net_two {nm : Name} {B C : List Int} {q : Name} {c : Nat} {T : Temps} {H : AHeap} {L : List PM} (t1 : T 1 = intsArg B) (t2 : T 2 = intsArg C) (t7 : T 7 = .ptr q 0) (hL : L.length <= 10) (hB : Both H q (T 8) L) : AWP Tryz.prog nm Tryz.f8.ntmps netC netQ c T H:=by
 have hcall:=onF_ok known20_ok (onF_ok nthree_ok (onF_ok wforge_ok (onF_ok wdrop_ok (onF_ok wtwice_ok (onF_ok wnet_ok (onF_ok within20_fn (@noCall_ok Tryz.prog)))))))
 dsimp only [netC,tl,Tryz.f8,Option.getD_some]
 (repeat refine AWP.seq ?_)
 refine AWP.region_last hcall rfl fun K hK => ?_
 simp
 apply hK; clear hK K; simp only [onNormal,onExit]
 (repeat refine AWP.seq ?_); refine AWP.block ?_
 refine AWP.loop (fun m c' T H2 => ∃ j L,j <= B.length /\ j <= C.length /\ j <= 15 /\ m = B.length - j /\ T 1 = intsArg B /\ T 2 = intsArg C /\ T 7 = .ptr q 0 /\ T 10 = vi (j : Nat) /\ L.length <= 10 + j /\ Both H2 q (T 8) L) B.length ⟨0,L,by omega,by omega,by omega,rfl,by simp [t1],by simp [t2],by simp [t7],by simp,by omega,by simpa using hB⟩ ?_
 clear hB hL t1 t2 t7 T H L c
 rintro m c' T H2 ⟨j,L,hjB,hjC,hj15,rfl,t1,t2,t7,t10,hLj,n,hn,hst,hgd⟩
 refine AWP.known_fresh fun hfr => ?_
 by_cases hB : j < B.length
 ·by_cases hC : j < C.length
  ·by_cases h15 : j < 15
   ·have hB' : (j : Int) < (B.length : Int):=by omega
    have hC' : (j : Int) < (C.length : Int):=by omega
    have h15' : (j : Int) < 15:=by omega
    obtain ⟨b,hb⟩ : ∃ b,B[j]? = some b:=⟨B[j],List.getElem?_eq_getElem hB⟩
    have hBb : B[j] = b:=(List.getElem?_eq_some_iff.1 hb).2
    obtain ⟨e,he⟩ : ∃ e,C[j]? = some e:=⟨C[j],List.getElem?_eq_getElem hC⟩
    have hCe : C[j] = e:=(List.getElem?_eq_some_iff.1 he).2
    obtain ⟨N,hN⟩ : ∃ N,N = L.length:=⟨_,rfl⟩
    have hal : alen Tryz.prog 91 (T 8) = some (vi (N : Nat)):=by
     rcases hst with ⟨h8,hL0⟩ | ⟨y,h8,_⟩
     ·rw [h8,hN,hL0]; rfl
     ·rw [h8,hN]; rfl
    have hw2 : IntKind.i64.wrap ((N : Int) + 2) = (N : Int) + 2:=by rw [IntKind.wrap_i64]; omega
    have hin1 : ∀ nm' H',within20S [vi e,vi ((N : Int) + 2)] nm' H' = some (vi (e % ((N : Int) + 2)),H'):=fun _ _ => if_pos ⟨by omega,by omega⟩
    have hin2 : ∀ nm' H',within20S [vi b,vi 2] nm' H' = some (vi (b % 2),H'):=fun _ H' => by
     show (if (0 : Int) < 2 /\ (2 : Int) < 1000 then some (vi (b % 2),H') else none) = _
     rw [if_pos (by decide)]
    obtain ⟨v,hv⟩ : ∃ v,v = b % 2:=⟨_,rfl⟩
    rw [<- hv] at hin2
    have hm0:=Int.emod_nonneg e (show ((N : Int) + 2) ≠ 0 by omega)
    have hm1:=Int.emod_lt_of_pos e (show 0 < ((N : Int) + 2) by omega)
    obtain ⟨x,hx⟩ : ∃ x,x = e % ((N : Int) + 2):=⟨_,rfl⟩
    rw [<- hx] at hm0 hm1 hin1
    obtain ⟨k,hk⟩ : ∃ k,k = x - 1:=⟨_,rfl⟩
    have hw1 : IntKind.i64.wrap (x - 1) = k:=by rw [hk,IntKind.wrap_i64]; omega
    have hlm : (L.map msgB).length = N:=by rw [List.length_map,hN]
    have hwj : IntKind.i64.wrap ((j : Int) + 1) = ((j + 1 : Nat) : Int):=by rw [IntKind.wrap_i64]; omega
    (repeat refine AWP.seq ?_)
    refine AWP.region_last hcall rfl fun K hK => ?_
    simp [t1,t2,t10,intsArg,hB',hC',h15']
    apply hK; clear hK K; simp only [onNormal,onExit]
    (repeat refine AWP.seq ?_); refine AWP.cond (b:=true) (by simp [hB',hC',h15']) ?_; simp only [if_true,if_false,Bool.false_eq_true]
    refine AWP.skip ?_; simp only [onNormal,onExit]
    (repeat refine AWP.seq ?_); refine AWP.block ?_
    (repeat refine AWP.seq ?_)
    refine AWP.region_last hcall rfl fun K hK => ?_
    simp [-alen,hal]
    apply hK; clear hK K; simp only [onNormal,onExit]
    (repeat refine AWP.seq ?_)
    refine AWP.region_last hcall rfl fun K hK => ?_
    simp [t2,t10,intsArg,hC',hC,he,hCe,hw2,hin1,hw1]
    apply hK; clear hK K; simp only [onNormal,onExit]
    by_cases hin : 0 <= k /\ k < (N : Int)
    ·obtain ⟨p,rfl⟩ : ∃ p : Nat,k = (p : Int):=⟨k.toNat,by omega⟩
     have hp : p < N:=by omega
     have hp' : (p : Int) < (N : Int):=by omega
     (repeat refine AWP.seq ?_)
     refine AWP.region_last hcall rfl fun K hK => ?_
     simp [hp']
     apply hK; clear hK K; simp only [onNormal,onExit]
     by_cases hv0 : v = 0
     ·subst hv0
      obtain ⟨H3,d1,d2,d3⟩:=drop_at (i:=p) hn (fun s => hfr (c' + 14 + 3 + 9 + 8 + 6 + 2) s (by omega)) (by omega) (by omega)
      (repeat refine AWP.seq ?_)
      refine AWP.region_last hcall rfl fun K hK => ?_
      simp [t1,t10,intsArg,hB',hB,hb,hBb,hin2]
      apply hK; clear hK K; simp only [onNormal,onExit]
      (repeat refine AWP.seq ?_); refine AWP.cond (b:=true) (by simp) ?_; simp only [if_true,if_false,Bool.false_eq_true]
      (repeat refine AWP.seq ?_)
      refine AWP.region_last hcall rfl fun K hK => ?_
      simp [t7,d1]
      apply hK; clear hK K; simp only [onNormal,onExit]
      (repeat refine AWP.seq ?_); refine AWP.cond (b:=false) (by simp) ?_; simp only [if_true,if_false,Bool.false_eq_true]
      refine AWP.skip ?_; simp only [onNormal,onExit]
      (repeat refine AWP.seq ?_)
      refine AWP.region_last hcall rfl fun K hK => ?_
      simp
      apply hK; clear hK K; simp only [onNormal,onExit]
      refine AWP.known_fresh fun hfr3 => ?_
      rcases hst with ⟨h8,hL0⟩ | ⟨z,h8,hz,hzq,hzn⟩
      ·subst hL0; simp at hN; omega
      generalize hk' : dropN ((c' + 14 + 3 + 9 + 8 + 6 + 2) :: nm) = n' at d2
      have hn'0 : H2 n' = none:=by rw [<- hk']; exact hfr (c' + 14 + 3 + 9 + 8 + 6 + 2) [20] (by omega)
      have hz3:=d3 z _ hz hzn hzq
      obtain ⟨S,hS⟩ : ∃ S,S = L.map fun x => strB x.2:=⟨_,rfl⟩
      have hSl : S.length = L.length:=by rw [hS,List.length_map]
      have hSone : ∀ x,x ∈ S -> x.one = true:=fun x hx => by
       rw [hS] at hx
       obtain ⟨y,_,rfl⟩:=List.mem_map.1 hx
       rfl
      rw [<- hS] at hz3
      rw [<- hN] at h8
      obtain ⟨rq,hrq⟩:=d2.at_q
      obtain ⟨rn,hrn⟩:=d2.at_n
      have fq : ∀ i,¬ (c' + 14 + 3 + 9 + 8 + 6 + 5 + 1 + i) :: nm = q:=fun i e => ne_fresh hfr3 hrq (c' + 14 + 3 + 9 + 8 + 6 + 5 + 1 + i) (by omega) e.symm
      have fn : ∀ i,¬ (c' + 14 + 3 + 9 + 8 + 6 + 5 + 1 + i) :: nm = n':=fun i e => ne_fresh hfr3 hrn (c' + 14 + 3 + 9 + 8 + 6 + 5 + 1 + i) (by omega) e.symm
      have fz : ∀ i,¬ z = (c' + 14 + 3 + 9 + 8 + 6 + 5 + 1 + i) :: nm:=fun i e => ne_fresh hfr3 hz3 (c' + 14 + 3 + 9 + 8 + 6 + 5 + 1 + i) (by omega) e
      have fz' : ∀ i,¬ (c' + 14 + 3 + 9 + 8 + 6 + 5 + 1 + i) :: nm = z:=fun i e => fz i e.symm
      have fz0 : ¬ z = (c' + 14 + 3 + 9 + 8 + 6 + 5 + 1) :: nm:=fz 0
      have fz0' : ¬ (c' + 14 + 3 + 9 + 8 + 6 + 5 + 1) :: nm = z:=fz' 0
      have hzn' : z ≠ n':=by rintro rfl; rw [hz] at hn'0; cases hn'0
      have hwp : IntKind.i64.wrap ((p : Int) + 1) = ((p + 1 : Nat) : Int):=by rw [IntKind.wrap_i64]; omega
      have hle : N <= S.length:=by omega
      have hpN : (p : Int) <= (N : Int):=by omega
      have hpN1 : p <= N:=by omega
      have hqN : ((p + 1 : Nat) : Int) <= (N : Int):=by omega
      have hqN1 : p + 1 <= N:=by omega
      have f46 : ¬ z = (c' + 46) :: nm:=fun e => ne_fresh hfr3 hz3 (c' + 46) (by omega) e
      have f46' : ¬ (c' + 46) :: nm = z:=fun e => f46 e.symm
      have q46 : ¬ (c' + 46) :: nm = q:=fun e => ne_fresh hfr3 hrq (c' + 46) (by omega) e.symm
      have n46 : ¬ (c' + 46) :: nm = n':=fun e => ne_fresh hfr3 hrn (c' + 46) (by omega) e.symm
      have g46 : ∀ i,0 < i -> ¬ c' + 46 = c' + 14 + 3 + 9 + 8 + 6 + 5 + 1 + i:=fun i h => by omega
      have g46' : ∀ i,0 < i -> ¬ c' + 14 + 3 + 9 + 8 + 6 + 5 + 1 + i = c' + 46:=fun i h => by omega
      have hp0 : (0 : Int) <= (p : Int) + 1:=by omega
      have hSN : S.length = N:=by omega
      have hmin : min p N = p:=by omega
      have hT : (∀ x,x ∈ S.take p -> x.one = true) ↔ True:=iff_true_intro fun x hx => hSone x (List.mem_of_mem_take hx)
      have hDr : (∀ x,x ∈ S.drop (p + 1) -> x.one = true) ↔ True:=iff_true_intro fun x hx => hSone x (List.mem_of_mem_drop hx)
      have hp1 : p * 16 <= 140737488355328:=by omega
      have hp2 : p <= 140737488355328:=by omega
      have hpS : p <= S.length:=by omega
      have hgd3 : ∀ x ∈ L.take p ++ L.drop (p + 1),x.2.length <= 100:=fun x hx => by
       rcases List.mem_append.1 hx with h | h
       ·exact hgd x (List.mem_of_mem_take h)
       ·exact hgd x (List.mem_of_mem_drop h)
      have hnew : NetIs H3 q n' ((L.take p ++ L.drop (p + 1)).map msgB):=by rw [List.map_append,List.map_take,List.map_drop]; exact d2
      (repeat refine AWP.seq ?_); refine AWP.cond (b:=true) (by simp) ?_; simp only [if_true,if_false,Bool.false_eq_true]
      have hN0 : ¬ N = 0:=by omega
      have hLl : (L.take p ++ L.drop (p + 1)).length = N - 1:=by rw [List.length_append,List.length_take,List.length_drop]; omega
      have hrowE : S.take p ++ S.drop (p + 1) = (L.take p ++ L.drop (p + 1)).map fun x => strB x.2:=by rw [hS,List.map_append,List.map_take,List.map_drop]
      by_cases hl : p + 1 = N
      ·(repeat refine AWP.seq ?_)
       refine AWP.draw_last rfl hcall [0,0,0,6,15,0,0,64,224,511,1023] [⟨0,false,[]⟩,⟨1,false,[]⟩,⟨2,false,[]⟩,⟨3,false,[0]⟩,⟨4,true,[]⟩,⟨5,false,[]⟩,⟨6,false,[]⟩,⟨7,false,[]⟩,⟨8,false,[0,5]⟩,⟨9,true,[]⟩,⟨10,false,[]⟩] rfl (by kernel_rfl) fun K hK => ?_
       simp (maxDischargeDepth:=20) [planW,chkW,h8,hp,hp',hz3,fz,fz',f46,f46',g46,g46',hwp,hle,hpN,hpN1,hqN,hqN1,List.lookup,hp0,hSN,hmin,hT,hDr,hp1,hp2,hpS,hl,hN0]
       apply hK; clear hK K; simp only [onNormal,onExit]
       refine AWP.exit ?_; simp only [onNormal,onExit,if_true,reduceCtorEq,if_false]
       (repeat refine AWP.seq ?_)
       refine AWP.region_last hcall rfl fun K hK => ?_
       simp [t10,hwj]
       apply hK; clear hK K; simp only [onNormal,onExit]
       have hde : S.drop (p + 1) = []:=List.drop_eq_nil_of_le (by omega)
       rw [hde,List.append_nil] at hrowE
       have hpl : p = N - 1:=by omega
       refine ⟨B.length - (j + 1),by omega,j + 1,L.take p ++ L.drop (p + 1),by omega,by omega,by omega,rfl,by simp [t1,intsArg],by simp [t2,intsArg],by simp [t7],by simp,by omega,n',?_,.inr ⟨(c' + 14 + 3 + 9 + 8 + 6 + 5 + 1 + 9) :: nm,?_,?_,fq 9,fn 9⟩,hgd3⟩
       ·exact ((((hnew.upd q46 n46).upd q46 n46).upd (fq 4) (fn 4)).upd (fq 4) (fn 4)).upd (fq 9) (fn 9)
       ·rw [hLl,<- hpl]; simp
       ·rw [<- hrowE]; simp [List.take_take]
      ·obtain ⟨W,hW⟩ : ∃ W,W = N - 1:=⟨_,rfl⟩
       have hs : p + (N - (p + 1)) = W:=by omega
       have hs1 : W * 16 <= 140737488355328:=by omega
       have hs2 : W <= 140737488355328:=by omega
       have hs3 : p + 1 + (N - (p + 1)) = N:=by omega
       have hD : List.take (N - (p + 1)) (List.drop (p + 1) S) = S.drop (p + 1):=List.take_of_length_le (by rw [List.length_drop]; omega)
       (repeat refine AWP.seq ?_)
       refine AWP.draw_last rfl hcall [0,0,0,6,15,0,0,64,224,511,1023] [⟨0,false,[]⟩,⟨1,false,[]⟩,⟨2,false,[]⟩,⟨3,false,[0]⟩,⟨4,true,[]⟩,⟨5,false,[]⟩,⟨6,false,[]⟩,⟨7,false,[]⟩,⟨8,false,[0,5]⟩,⟨9,true,[]⟩,⟨10,false,[]⟩] rfl (by kernel_rfl) fun K hK => ?_
       simp (maxDischargeDepth:=20) [planW,chkW,h8,hp,hp',hz3,fz,fz',f46,f46',g46,g46',hwp,hle,hpN,hpN1,hqN,hqN1,List.lookup,hp0,hSN,hmin,hT,hDr,hp1,hp2,hpS,hl,hs,hs1,hs2,hs3,hD]
       apply hK; clear hK K; simp only [onNormal,onExit]
       refine AWP.exit ?_; simp only [onNormal,onExit,if_true,reduceCtorEq,if_false]
       (repeat refine AWP.seq ?_)
       refine AWP.region_last hcall rfl fun K hK => ?_
       simp [t10,hwj]
       apply hK; clear hK K; simp only [onNormal,onExit]
       refine ⟨B.length - (j + 1),by omega,j + 1,L.take p ++ L.drop (p + 1),by omega,by omega,by omega,rfl,by simp [t1,intsArg],by simp [t2,intsArg],by simp [t7],by simp,by omega,n',?_,.inr ⟨(c' + 14 + 3 + 9 + 8 + 6 + 5 + 1 + 9) :: nm,?_,?_,fq 9,fn 9⟩,hgd3⟩
       ·exact ((((hnew.upd q46 n46).upd q46 n46).upd (fq 4) (fn 4)).upd (fq 4) (fn 4)).upd (fq 9) (fn 9)
       ·rw [hLl,<- hW]; simp
       ·rw [<- hrowE]; simp [List.take_take]
     ·obtain ⟨y,hy⟩ : ∃ y,(L.map msgB)[p]? = some y:=⟨(L.map msgB)[p],List.getElem?_eq_getElem (by omega)⟩
      obtain ⟨H3,d1,d2,d3⟩:=twice_at (i:=p) hn (fun s => hfr (c' + 14 + 3 + 9 + 8 + 6 + 2) s (by omega)) hy (by omega)
      (repeat refine AWP.seq ?_)
      refine AWP.region_last hcall rfl fun K hK => ?_
      simp [t1,t10,intsArg,hB',hB,hb,hBb,hin2,hv0]
      apply hK; clear hK K; simp only [onNormal,onExit]
      (repeat refine AWP.seq ?_); refine AWP.cond (b:=false) (by simp [hv0]) ?_; simp only [if_true,if_false,Bool.false_eq_true]
      refine AWP.skip ?_; simp only [onNormal,onExit]
      (repeat refine AWP.seq ?_)
      refine AWP.region_last hcall rfl fun K hK => ?_
      simp [t7,d1]
      apply hK; clear hK K; simp only [onNormal,onExit]
      (repeat refine AWP.seq ?_); refine AWP.cond (b:=false) (by simp) ?_; simp only [if_true,if_false,Bool.false_eq_true]
      refine AWP.skip ?_; simp only [onNormal,onExit]
      (repeat refine AWP.seq ?_)
      refine AWP.region_last hcall rfl fun K hK => ?_
      simp
      apply hK; clear hK K; simp only [onNormal,onExit]
      (repeat refine AWP.seq ?_); refine AWP.cond (b:=true) (by simp) ?_; simp only [if_true,if_false,Bool.false_eq_true]
      refine AWP.known_fresh fun hfr3 => ?_
      rcases hst with ⟨h8,hL0⟩ | ⟨z,h8,hz,hzq,hzn⟩
      ·subst hL0; simp at hN; omega
      obtain ⟨l,hl⟩ : ∃ l,L[p]? = some l:=⟨L[p],List.getElem?_eq_getElem (by omega)⟩
      have hyl : y = msgB l:=by rw [List.getElem?_map,hl] at hy; cases hy; rfl
      subst hyl
      generalize hk' : twiceN ((c' + 14 + 3 + 9 + 8 + 6 + 2) :: nm) = n' at d2
      have hn'0 : H2 n' = none:=by rw [<- hk']; exact hfr (c' + 14 + 3 + 9 + 8 + 6 + 2) [33] (by omega)
      have hz3:=d3 z _ hz hzn hzq
      obtain ⟨S,hS⟩ : ∃ S,S = L.map fun x => strB x.2:=⟨_,rfl⟩
      have hSl : S.length = L.length:=by rw [hS,List.length_map]
      have hSp : S[p]? = some (strB l.2):=by rw [hS,List.getElem?_map,hl]; rfl
      have hSp' : ∀ h : p < S.length,S[p] = strB l.2:=fun h => (List.getElem?_eq_some_iff.1 hSp).2
      rw [<- hS] at hz3
      rw [<- hN] at h8
      have hone : (strB l.2).one = true:=rfl
      have hce : (strB l.2).cells = [strB l.2]:=rfl
      generalize hw0 : strB l.2 = w0 at hSp hSp' hone hce
      obtain ⟨rq,hrq⟩:=d2.at_q
      obtain ⟨rn,hrn⟩:=d2.at_n
      have q6 : ¬ (c' + 14 + 3 + 9 + 8 + 6 + 5 + 1 + 5) :: nm = q:=fun e => ne_fresh hfr3 hrq (c' + 14 + 3 + 9 + 8 + 6 + 5 + 1 + 5) (by omega) e.symm
      have q7 : ¬ (c' + 14 + 3 + 9 + 8 + 6 + 5 + 1 + 6) :: nm = q:=fun e => ne_fresh hfr3 hrq (c' + 14 + 3 + 9 + 8 + 6 + 5 + 1 + 6) (by omega) e.symm
      have n6 : ¬ (c' + 14 + 3 + 9 + 8 + 6 + 5 + 1 + 5) :: nm = n':=fun e => ne_fresh hfr3 hrn (c' + 14 + 3 + 9 + 8 + 6 + 5 + 1 + 5) (by omega) e.symm
      have n7 : ¬ (c' + 14 + 3 + 9 + 8 + 6 + 5 + 1 + 6) :: nm = n':=fun e => ne_fresh hfr3 hrn (c' + 14 + 3 + 9 + 8 + 6 + 5 + 1 + 6) (by omega) e.symm
      have z6 : ¬ z = (c' + 14 + 3 + 9 + 8 + 6 + 5 + 1 + 5) :: nm:=fun e => ne_fresh hfr3 hz3 (c' + 14 + 3 + 9 + 8 + 6 + 5 + 1 + 5) (by omega) e
      have z7 : ¬ z = (c' + 14 + 3 + 9 + 8 + 6 + 5 + 1 + 6) :: nm:=fun e => ne_fresh hfr3 hz3 (c' + 14 + 3 + 9 + 8 + 6 + 5 + 1 + 6) (by omega) e
      have z6' : ¬ (c' + 14 + 3 + 9 + 8 + 6 + 5 + 1 + 5) :: nm = z:=fun e => z6 e.symm
      have z7' : ¬ (c' + 14 + 3 + 9 + 8 + 6 + 5 + 1 + 6) :: nm = z:=fun e => z7 e.symm
      have hzn' : z ≠ n':=by rintro rfl; rw [hz] at hn'0; cases hn'0
      have htk : S.take N = S:=List.take_of_length_le (by omega)
      have hle : N <= S.length:=by omega
      have hb1 : N + 1 <= 140737488355328:=by omega
      have hb2 : N <= 140737488355327:=by omega
      have hb3 : (N + 1) * 16 <= 140737488355328:=by omega
      have hpS : p < S.length:=by omega
      (repeat refine AWP.seq ?_)
      refine AWP.region_last hcall rfl fun K hK => ?_
      simp (maxDischargeDepth:=20) [h8,hp,hp',hz3,hSp,hSp',hone,hce,z6,z7,z6',z7',htk,hle,hb1,hb2,hb3,hpS]
      apply hK; clear hK K; simp only [onNormal,onExit]
      (repeat refine AWP.seq ?_)
      refine AWP.region_last hcall rfl fun K hK => ?_
      simp [t10,hwj]
      apply hK; clear hK K; simp only [onNormal,onExit]
      refine ⟨B.length - (j + 1),by omega,j + 1,L ++ [l],by omega,by omega,by omega,rfl,by simp [t1,intsArg],by simp [t2,intsArg],by simp [t7],by simp,by rw [List.length_append,List.length_singleton]; omega,n',?_,.inr ⟨(c' + 14 + 3 + 9 + 8 + 6 + 5 + 1 + 6) :: nm,by simp [hN],by simp [hS,hw0],q7,n7⟩,fun x hx => ?_⟩
      ·rw [List.map_append]; exact ((d2.upd q6 n6).upd hzq hzn').upd q7 n7
      ·rcases List.mem_append.1 hx with h | h
       ·exact hgd x h
       ·rw [List.mem_singleton.1 h]; exact hgd l (List.mem_of_getElem? hl)
    ·have hno : ¬ (0 <= k /\ k < ((L.map msgB).length : Int)):=by rw [hlm]; exact hin
     have d1 : ∀ nm',wdropS [.ptr q 0,vi k] nm' H2 = some (vb false,H2):=fun nm' => drop_out hn hno
     have d2 : ∀ nm',wtwiceS [.ptr q 0,vi k] nm' H2 = some (vb false,H2):=fun nm' => twice_out hn hno
     by_cases h0 : 0 <= k
     ·have h0' : ¬ k < 0:=by omega
      have hk1 : ¬ k < (N : Int):=by omega
      (repeat refine AWP.seq ?_)
      refine AWP.region_last hcall rfl fun K hK => ?_
      simp [h0,h0',hk1]
      apply hK; clear hK K; simp only [onNormal,onExit]
      by_cases hv0 : v = 0
      ·subst hv0
       (repeat refine AWP.seq ?_)
       refine AWP.region_last hcall rfl fun K hK => ?_
       simp [t1,t10,intsArg,hB',hB,hb,hBb,hin2]
       apply hK; clear hK K; simp only [onNormal,onExit]
       (repeat refine AWP.seq ?_); refine AWP.cond (b:=true) (by simp) ?_; simp only [if_true,if_false,Bool.false_eq_true]
       (repeat refine AWP.seq ?_)
       refine AWP.region_last hcall rfl fun K hK => ?_
       simp [t7,d1]
       apply hK; clear hK K; simp only [onNormal,onExit]
       (repeat refine AWP.seq ?_); refine AWP.cond (b:=false) (by simp) ?_; simp only [if_true,if_false,Bool.false_eq_true]
       refine AWP.skip ?_; simp only [onNormal,onExit]
       (repeat refine AWP.seq ?_)
       refine AWP.region_last hcall rfl fun K hK => ?_
       simp
       apply hK; clear hK K; simp only [onNormal,onExit]
       (repeat refine AWP.seq ?_); refine AWP.cond (b:=false) (by simp) ?_; simp only [if_true,if_false,Bool.false_eq_true]
       refine AWP.skip ?_; simp only [onNormal,onExit]
       refine AWP.exit ?_; simp only [onNormal,onExit,if_true,reduceCtorEq,if_false]
       (repeat refine AWP.seq ?_)
       refine AWP.region_last hcall rfl fun K hK => ?_
       simp [t10,hwj]
       apply hK; clear hK K; simp only [onNormal,onExit]
       refine ⟨B.length - (j + 1),by omega,j + 1,L,by omega,by omega,by omega,rfl,by simp [t1,intsArg],by simp [t2,intsArg],by simp [t7],by simp,by omega,n,hn,by simpa using hst,hgd⟩
      ·(repeat refine AWP.seq ?_)
       refine AWP.region_last hcall rfl fun K hK => ?_
       simp [t1,t10,intsArg,hB',hB,hb,hBb,hin2,hv0]
       apply hK; clear hK K; simp only [onNormal,onExit]
       (repeat refine AWP.seq ?_); refine AWP.cond (b:=false) (by simp [hv0]) ?_; simp only [if_true,if_false,Bool.false_eq_true]
       refine AWP.skip ?_; simp only [onNormal,onExit]
       (repeat refine AWP.seq ?_)
       refine AWP.region_last hcall rfl fun K hK => ?_
       simp [t7,d2]
       apply hK; clear hK K; simp only [onNormal,onExit]
       (repeat refine AWP.seq ?_); refine AWP.cond (b:=false) (by simp) ?_; simp only [if_true,if_false,Bool.false_eq_true]
       refine AWP.skip ?_; simp only [onNormal,onExit]
       (repeat refine AWP.seq ?_)
       refine AWP.region_last hcall rfl fun K hK => ?_
       simp
       apply hK; clear hK K; simp only [onNormal,onExit]
       (repeat refine AWP.seq ?_); refine AWP.cond (b:=false) (by simp) ?_; simp only [if_true,if_false,Bool.false_eq_true]
       refine AWP.skip ?_; simp only [onNormal,onExit]
       (repeat refine AWP.seq ?_)
       refine AWP.region_last hcall rfl fun K hK => ?_
       simp [t10,hwj]
       apply hK; clear hK K; simp only [onNormal,onExit]
       refine ⟨B.length - (j + 1),by omega,j + 1,L,by omega,by omega,by omega,rfl,by simp [t1,intsArg],by simp [t2,intsArg],by simp [t7],by simp,by omega,n,hn,by simpa using hst,hgd⟩
     ·have h0' : k < 0:=by omega
      have h0'' : ¬ 0 <= k:=h0
      (repeat refine AWP.seq ?_)
      refine AWP.region_last hcall rfl fun K hK => ?_
      simp [h0,h0']
      apply hK; clear hK K; simp only [onNormal,onExit]
      by_cases hv0 : v = 0
      ·subst hv0
       (repeat refine AWP.seq ?_)
       refine AWP.region_last hcall rfl fun K hK => ?_
       simp [t1,t10,intsArg,hB',hB,hb,hBb,hin2]
       apply hK; clear hK K; simp only [onNormal,onExit]
       (repeat refine AWP.seq ?_); refine AWP.cond (b:=true) (by simp) ?_; simp only [if_true,if_false,Bool.false_eq_true]
       (repeat refine AWP.seq ?_)
       refine AWP.region_last hcall rfl fun K hK => ?_
       simp [t7,d1]
       apply hK; clear hK K; simp only [onNormal,onExit]
       (repeat refine AWP.seq ?_); refine AWP.cond (b:=false) (by simp) ?_; simp only [if_true,if_false,Bool.false_eq_true]
       refine AWP.skip ?_; simp only [onNormal,onExit]
       (repeat refine AWP.seq ?_)
       refine AWP.region_last hcall rfl fun K hK => ?_
       simp
       apply hK; clear hK K; simp only [onNormal,onExit]
       (repeat refine AWP.seq ?_); refine AWP.cond (b:=false) (by simp) ?_; simp only [if_true,if_false,Bool.false_eq_true]
       refine AWP.skip ?_; simp only [onNormal,onExit]
       refine AWP.exit ?_; simp only [onNormal,onExit,if_true,reduceCtorEq,if_false]
       (repeat refine AWP.seq ?_)
       refine AWP.region_last hcall rfl fun K hK => ?_
       simp [t10,hwj]
       apply hK; clear hK K; simp only [onNormal,onExit]
       refine ⟨B.length - (j + 1),by omega,j + 1,L,by omega,by omega,by omega,rfl,by simp [t1,intsArg],by simp [t2,intsArg],by simp [t7],by simp,by omega,n,hn,by simpa using hst,hgd⟩
      ·(repeat refine AWP.seq ?_)
       refine AWP.region_last hcall rfl fun K hK => ?_
       simp [t1,t10,intsArg,hB',hB,hb,hBb,hin2,hv0]
       apply hK; clear hK K; simp only [onNormal,onExit]
       (repeat refine AWP.seq ?_); refine AWP.cond (b:=false) (by simp [hv0]) ?_; simp only [if_true,if_false,Bool.false_eq_true]
       refine AWP.skip ?_; simp only [onNormal,onExit]
       (repeat refine AWP.seq ?_)
       refine AWP.region_last hcall rfl fun K hK => ?_
       simp [t7,d2]
       apply hK; clear hK K; simp only [onNormal,onExit]
       (repeat refine AWP.seq ?_); refine AWP.cond (b:=false) (by simp) ?_; simp only [if_true,if_false,Bool.false_eq_true]
       refine AWP.skip ?_; simp only [onNormal,onExit]
       (repeat refine AWP.seq ?_)
       refine AWP.region_last hcall rfl fun K hK => ?_
       simp
       apply hK; clear hK K; simp only [onNormal,onExit]
       (repeat refine AWP.seq ?_); refine AWP.cond (b:=false) (by simp) ?_; simp only [if_true,if_false,Bool.false_eq_true]
       refine AWP.skip ?_; simp only [onNormal,onExit]
       (repeat refine AWP.seq ?_)
       refine AWP.region_last hcall rfl fun K hK => ?_
       simp [t10,hwj]
       apply hK; clear hK K; simp only [onNormal,onExit]
       refine ⟨B.length - (j + 1),by omega,j + 1,L,by omega,by omega,by omega,rfl,by simp [t1,intsArg],by simp [t2,intsArg],by simp [t7],by simp,by omega,n,hn,by simpa using hst,hgd⟩
   ·have hB' : (j : Int) < (B.length : Int):=by omega
    have hC' : (j : Int) < (C.length : Int):=by omega
    have h15' : ¬ (j : Int) < 15:=by omega
    (repeat refine AWP.seq ?_)
    refine AWP.region_last hcall rfl fun K hK => ?_
    simp [t1,t2,t10,intsArg,hB',hC',h15']
    apply hK; clear hK K; simp only [onNormal,onExit]
    (repeat refine AWP.seq ?_); refine AWP.cond (b:=false) (by simp [hB',hC',h15']) ?_; simp only [if_true,if_false,Bool.false_eq_true]
    refine AWP.exit ?_; simp only [onNormal,onExit,if_true,reduceCtorEq,if_false]
    refine net_three ?_ (L:=L) (by omega) ⟨n,hn,?_,hgd⟩
    ·simp [t7]
    ·simpa using hst
  ·have hB' : (j : Int) < (B.length : Int):=by omega
   have hC' : ¬ (j : Int) < (C.length : Int):=by omega
   (repeat refine AWP.seq ?_)
   refine AWP.region_last hcall rfl fun K hK => ?_
   simp [t1,t2,t10,intsArg,hB',hC']
   apply hK; clear hK K; simp only [onNormal,onExit]
   (repeat refine AWP.seq ?_); refine AWP.cond (b:=false) (by simp [hB',hC']) ?_; simp only [if_true,if_false,Bool.false_eq_true]
   refine AWP.exit ?_; simp only [onNormal,onExit,if_true,reduceCtorEq,if_false]
   refine net_three ?_ (L:=L) (by omega) ⟨n,hn,?_,hgd⟩
   ·simp [t7]
   ·simpa using hst
 ·have hB' : ¬ (j : Int) < (B.length : Int):=by omega
  (repeat refine AWP.seq ?_)
  refine AWP.region_last hcall rfl fun K hK => ?_
  simp [t1,t2,t10,intsArg,hB']
  apply hK; clear hK K; simp only [onNormal,onExit]
  (repeat refine AWP.seq ?_); refine AWP.cond (b:=false) (by simp [hB']) ?_; simp only [if_true,if_false,Bool.false_eq_true]
  refine AWP.exit ?_; simp only [onNormal,onExit,if_true,reduceCtorEq,if_false]
  refine net_three ?_ (L:=L) (by omega) ⟨n,hn,?_,hgd⟩
  ·simp [t7]
  ·simpa using hst
set_option maxHeartbeats 4000000 in
theorem net_law (A : List (List UInt8)) (B C : List Int) (nm : Name) : Sim Tryz.prog 8 [rowsArg A,intsArg B,intsArg C] nm (fun _ => none) (vb true) (fun _ => none):=by
 have hcall:=onF_ok known20_ok (onF_ok nthree_ok (onF_ok wforge_ok (onF_ok wdrop_ok (onF_ok wtwice_ok (onF_ok wnet_ok (onF_ok within20_fn (@noCall_ok Tryz.prog)))))))
 refine sim_go Tryz.func8 rfl rfl (Nat.le_of_ble_eq_true rfl) fun hH => ?_
 (repeat refine AWP.seq ?_)
 refine AWP.region_last hcall rfl fun K hK => ?_
 simp
 apply hK; clear hK K; simp only [onNormal,onExit]
 (repeat refine AWP.seq ?_)
 refine AWP.region_last hcall rfl fun K hK => ?_
 simp [trueS]
 apply hK; clear hK K; simp only [onNormal,onExit]
 (repeat refine AWP.seq ?_); refine AWP.cond (b:=false) (by simp) ?_; simp only [if_true,if_false,Bool.false_eq_true]
 refine AWP.skip ?_; simp only [onNormal,onExit]
 (repeat refine AWP.seq ?_)
 refine AWP.region_last hcall rfl fun K hK => ?_
 simp [nthreeS_at]
 apply hK; clear hK K; simp only [onNormal,onExit]
 have hnet:=ns_net (2 :: 3 :: nm) (fun _ => none)
 generalize nsL (2 :: 3 :: nm) (fun _ => none) = H0 at hnet ⊢
 generalize nsQ (2 :: 3 :: nm) = q at hnet ⊢
 generalize nsN (2 :: 3 :: nm) = n0 at hnet
 (repeat refine AWP.seq ?_)
 refine AWP.region_last hcall rfl fun K hK => ?_
 simp
 apply hK; clear hK K; simp only [onNormal,onExit]
 (repeat refine AWP.seq ?_)
 refine AWP.region_last hcall rfl fun K hK => ?_
 simp
 apply hK; clear hK K; simp only [onNormal,onExit]
 (repeat refine AWP.seq ?_); refine AWP.block ?_
 refine AWP.loop (fun m c' T H2 => ∃ i L,i <= A.length /\ i <= 10 /\ m = A.length - i /\ T 0 = rowsArg A /\ T 1 = intsArg B /\ T 2 = intsArg C /\ T 7 = .ptr q 0 /\ T 9 = vi (i : Nat) /\ L.length = i /\ Both H2 q (T 8) L) A.length ⟨0,[],by omega,by omega,rfl,by simp,by simp,by simp,by simp,by simp,rfl,?_⟩ ?_
 ·exact ⟨n0,hnet,.inl ⟨by simp,rfl⟩,fun x hx => by cases hx⟩
 rintro m c' T H2 ⟨i,L,hiA,hi10,rfl,t0,t1,t2,t7,t9,hLi,n,hn,hst,hgd⟩
 refine AWP.known_fresh fun hfr => ?_
 by_cases hgo : i < A.length /\ i < 10
 ·obtain ⟨hlt,h10⟩:=hgo
  have hlt' : (i : Int) < (A.length : Int):=by omega
  have h10' : (i : Int) < 10:=by omega
  obtain ⟨l,hl⟩ : ∃ l,A[i]? = some l:=⟨A[i],List.getElem?_eq_getElem hlt⟩
  have hAl : A[i] = l:=(List.getElem?_eq_some_iff.1 hl).2
  (repeat refine AWP.seq ?_)
  refine AWP.region_last hcall rfl fun K hK => ?_
  simp [t0,t9,rowsArg,hlt',h10']
  apply hK; clear hK K; simp only [onNormal,onExit]
  (repeat refine AWP.seq ?_); refine AWP.cond (b:=true) (by simp [hlt',h10']) ?_; simp only [if_true,if_false,Bool.false_eq_true]
  refine AWP.skip ?_; simp only [onNormal,onExit]
  (repeat refine AWP.seq ?_); refine AWP.block ?_
  by_cases hbig : 100 < l.length
  ·have hbig' : (100 : Int) < (l.length : Int):=by omega
   (repeat refine AWP.seq ?_)
   refine AWP.region_last hcall rfl fun K hK => ?_
   simp [t0,t9,rowsArg,hlt',hlt,hl,hAl,bytesArg,hbig']
   apply hK; clear hK K; simp only [onNormal,onExit]
   (repeat refine AWP.seq ?_); refine AWP.cond (b:=true) (by simp [hbig']) ?_; simp only [if_true,if_false,Bool.false_eq_true]
   (repeat refine AWP.seq ?_)
   refine AWP.region_last hcall rfl fun K hK => ?_
   simp
   apply hK; clear hK K; simp only [onNormal,onExit]
   (try refine AWP.ret ?_); (try simp only [onNormal,onExit]); refine ⟨by simp,⟨_,rfl,by simp [ares1]⟩,fun k row hk => ?_⟩
   cases hk
  ·have hbig' : ¬ (100 : Int) < (l.length : Int):=by omega
   (repeat refine AWP.seq ?_)
   refine AWP.region_last hcall rfl fun K hK => ?_
   simp [t0,t9,rowsArg,hlt',hlt,hl,hAl,bytesArg,hbig']
   apply hK; clear hK K; simp only [onNormal,onExit]
   (repeat refine AWP.seq ?_); refine AWP.cond (b:=false) (by simp [hbig']) ?_; simp only [if_true,if_false,Bool.false_eq_true]
   refine AWP.skip ?_; simp only [onNormal,onExit]
   have h3 : (i : Int).tmod 3 = (i : Int) % 3:=Int.tmod_eq_emod_of_nonneg (by omega)
   obtain ⟨d,hd⟩ : ∃ d : Int,d = (i : Int) % 3:=⟨_,rfl⟩
   have hd3 : 0 <= d /\ d < 3:=by omega
   have hgood : (⟨d,l.length,bs l⟩ : Msg).good:=⟨⟨bs_allone l,bs_length l⟩,by show l.length <= 8192; omega⟩
   obtain ⟨H3,hf1,hf2,hf3⟩:=forge_at (m:=false) hn (fun s => hfr (c' + 8 + 6 + 7) s (by omega)) hd3 hgood (by rw [List.length_map]; omega)
   have hw3 : IntKind.i64.wrap d = d:=by rw [IntKind.wrap_i64]; omega
   rw [<- hd] at h3
   (repeat refine AWP.seq ?_)
   refine AWP.region_last hcall rfl fun K hK => ?_
   simp [t0,t7,t9,rowsArg,hlt',hlt,hl,hAl,bytesArg,h3,hw3,hf1]
   apply hK; clear hK K; simp only [onNormal,onExit]
   (repeat refine AWP.seq ?_); refine AWP.cond (b:=false) (by simp) ?_; simp only [if_true,if_false,Bool.false_eq_true]
   refine AWP.skip ?_; simp only [onNormal,onExit]
   have hby:=bytesA_bs l
   have hnew : NetIs H3 q (forgeN ((c' + 8 + 6 + 7) :: nm)) ((L ++ [(d,l)]).map msgB):=by rw [List.map_append]; exact hf2
   refine AWP.known_fresh fun hfr3 => ?_
   obtain ⟨rq,hrq⟩:=hnew.at_q
   obtain ⟨rn,hrn⟩:=hnew.at_n
   generalize hk : forgeN ((c' + 8 + 6 + 7) :: nm) = n' at hnew hrn
   have hn'0 : H2 n' = none:=by rw [<- hk]; exact hfr (c' + 8 + 6 + 7) [27] (by omega)
   have q6 : ¬ (c' + 8 + 6 + 9 + 6) :: nm = q:=fun e => ne_fresh hfr3 hrq (c' + 8 + 6 + 9 + 6) (by omega) e.symm
   have q7 : ¬ (c' + 8 + 6 + 9 + 7) :: nm = q:=fun e => ne_fresh hfr3 hrq (c' + 8 + 6 + 9 + 7) (by omega) e.symm
   have n6 : ¬ (c' + 8 + 6 + 9 + 6) :: nm = n':=fun e => ne_fresh hfr3 hrn (c' + 8 + 6 + 9 + 6) (by omega) e.symm
   have n7 : ¬ (c' + 8 + 6 + 9 + 7) :: nm = n':=fun e => ne_fresh hfr3 hrn (c' + 8 + 6 + 9 + 7) (by omega) e.symm
   have hgd' : ∀ x ∈ L ++ [(d,l)],x.2.length <= 100:=fun x hx => by
    rcases List.mem_append.1 hx with h | h
    ·exact hgd x h
    ·rw [List.mem_singleton.1 h]; show l.length <= 100; omega
   have hw : IntKind.i64.wrap ((i : Int) + 1) = ((i + 1 : Nat) : Int):=by rw [IntKind.wrap_i64]; omega
   rcases hst with ⟨h8,hL0⟩ | ⟨y,h8,hy,hyq,hyn⟩
   ·(repeat refine AWP.seq ?_)
    refine AWP.region_last hcall rfl fun K hK => ?_
    simp [t0,h8,t9,rowsArg,hlt',hlt,hl,hAl,bytesArg,hby]
    apply hK; clear hK K; simp only [onNormal,onExit]
    (repeat refine AWP.seq ?_)
    refine AWP.region_last hcall rfl fun K hK => ?_
    simp [t9,hw]
    apply hK; clear hK K; simp only [onNormal,onExit]
    refine ⟨A.length - (i + 1),by omega,i + 1,L ++ [(d,l)],by omega,by omega,rfl,by simp [t0,rowsArg],by simp [t1],by simp [t2],by simp [t7],by simp,by simp [hLi],n',?_,?_,hgd'⟩
    ·exact (hnew.upd q6 n6).upd q7 n7
    ·subst hL0
     exact .inr ⟨(c' + 8 + 6 + 9 + 7) :: nm,by simp,by simp [strB],q7,n7⟩
   ·have hy3:=hf3 y _ hy hyn hyq
    have hy6 : ¬ y = (c' + 8 + 6 + 9 + 6) :: nm:=fun e => ne_fresh hfr3 hy3 (c' + 8 + 6 + 9 + 6) (by omega) e
    have hy7 : ¬ y = (c' + 8 + 6 + 9 + 7) :: nm:=fun e => ne_fresh hfr3 hy3 (c' + 8 + 6 + 9 + 7) (by omega) e
    have hy6' : ¬ (c' + 8 + 6 + 9 + 6) :: nm = y:=fun e => hy6 e.symm
    have hy7' : ¬ (c' + 8 + 6 + 9 + 7) :: nm = y:=fun e => hy7 e.symm
    have hyn' : y ≠ n':=by rintro rfl; rw [hy] at hn'0; cases hn'0
    obtain ⟨S,hS⟩ : ∃ S,S = L.map fun x => strB x.2:=⟨_,rfl⟩
    have hSl : S.length = L.length:=by rw [hS,List.length_map]
    rw [<- hS] at hy3
    have htk : S.take L.length = S:=List.take_of_length_le (by omega)
    have hle : L.length <= S.length:=by omega
    have hb1 : L.length + 1 <= 140737488355328:=by omega
    have hb2 : L.length <= 140737488355327:=by omega
    have hb3 : (L.length + 1) * 16 <= 140737488355328:=by omega
    (repeat refine AWP.seq ?_)
    refine AWP.region_last hcall rfl fun K hK => ?_
    simp (maxDischargeDepth:=20) [t0,h8,t9,rowsArg,hlt',hlt,hl,hAl,bytesArg,hby,hy3,hy6,hy7,hy6',hy7',htk,hle,hb1,hb2,hb3]
    apply hK; clear hK K; simp only [onNormal,onExit]
    (repeat refine AWP.seq ?_)
    refine AWP.region_last hcall rfl fun K hK => ?_
    simp [t9,hw]
    apply hK; clear hK K; simp only [onNormal,onExit]
    refine ⟨A.length - (i + 1),by omega,i + 1,L ++ [(d,l)],by omega,by omega,rfl,by simp [t0,rowsArg],by simp [t1],by simp [t2],by simp [t7],by simp,by simp [hLi],n',?_,?_,hgd'⟩
    ·exact ((hnew.upd q6 n6).upd hyq hyn').upd q7 n7
    ·exact .inr ⟨(c' + 8 + 6 + 9 + 7) :: nm,by simp,by simp [strB,hS],q7,n7⟩
 ·have hg1 : ¬ ((i : Int) < (A.length : Int)) \/ ¬ ((i : Int) < 10):=by omega
  have hlen : L.length <= 10:=by omega
  by_cases hlt : (i : Int) < (A.length : Int)
  ·have h10 : ¬ (i : Int) < 10:=by omega
   (repeat refine AWP.seq ?_)
   refine AWP.region_last hcall rfl fun K hK => ?_
   simp [t0,t9,rowsArg,hlt,h10]
   apply hK; clear hK K; simp only [onNormal,onExit]
   (repeat refine AWP.seq ?_); refine AWP.cond (b:=false) (by simp [hlt,h10]) ?_; simp only [if_true,if_false,Bool.false_eq_true]
   refine AWP.exit ?_; simp only [onNormal,onExit,if_true,reduceCtorEq,if_false]
   refine net_two (B:=B) (C:=C) ?_ ?_ ?_ hlen ⟨n,hn,?_,hgd⟩
   ·simp [t1]
   ·simp [t2]
   ·simp [t7]
   ·simpa using hst
  ·(repeat refine AWP.seq ?_)
   refine AWP.region_last hcall rfl fun K hK => ?_
   simp [t0,t9,rowsArg,hlt]
   apply hK; clear hK K; simp only [onNormal,onExit]
   (repeat refine AWP.seq ?_); refine AWP.cond (b:=false) (by simp [hlt]) ?_; simp only [if_true,if_false,Bool.false_eq_true]
   refine AWP.exit ?_; simp only [onNormal,onExit,if_true,reduceCtorEq,if_false]
   refine net_two (B:=B) (C:=C) ?_ ?_ ?_ hlen ⟨n,hn,?_,hgd⟩
   ·simp [t1]
   ·simp [t2]
   ·simp [t7]
   ·simpa using hst
theorem net_sim (A : List (List UInt8)) (B C : List Int) : ∃ H',Sim Tryz.prog 8 [rowsArg A,intsArg B,intsArg C] [] (fun _ => none) (.val (.bool true)) H':=⟨_,net_law A B C []⟩
end
def immOf (w : World) : Imm:=fun m b => if m = false then (match w.heap[b]? with | some (.cells c _ _) => some c | _ => none) else none
theorem immOf_ok (w : World) : ∀ m b c,immOf w m b = some c -> ∃ el fr,w.heap[b]? = some (.cells c el fr):=by
 intro m b c h
 unfold immOf at h
 split at h
 ·split at h
  ·rename_i c' el fr hb
   cases h
   exact ⟨el,fr,hb⟩
  ·cases h
 ·cases h
theorem im_row {w : World} {σ : Sig} {b off len cap : Nat} {row : List AV} (hcells : ∀ (j : Nat) (a : AV),row[j]? = some a -> ∃ v,w.cell? ⟨b,off + j,none⟩ = some v /\ VRel σ (immOf w) a v) (hp : 0 < row.length) (hl : len <= cap) :
  VRel σ (immOf w) (.im false len row) (.slice (some ⟨b,off,none⟩) len cap):=by
 have cells : ∀ (j : Nat) (a : AV),row[j]? = some a -> ∃ c el fr v,w.heap[b]? = some (.cells c el fr) /\ c[off + j]? = some v /\ VRel σ (immOf w) a v:=by
  intro j a ha
  obtain ⟨v,h1,h2⟩:=hcells j a ha
  unfold World.cell? at h1
  cases e : w.heap[b]? with
  | none => simp [e] at h1
  | some o =>
   cases o with
   | cells c el fr => exact ⟨c,el,fr,v,rfl,by simpa [e] using h1,h2⟩
   | _ => simp [e] at h1
 obtain ⟨c,el,fr,_,hb,_,_⟩:=cells 0 row[0] (List.getElem?_eq_getElem hp)
 have cells' : ∀ (j : Nat) (a : AV),row[j]? = some a -> ∃ v,c[off + j]? = some v /\ VRel σ (immOf w) a v:=by
  intro j a ha
  obtain ⟨c',el',fr',v,h1,h2,h3⟩:=cells j a ha
  rw [hb] at h1
  cases h1
  exact ⟨v,h2,h3⟩
 refine .im (b:=b) (o:=off) (c:=c) (by simp [immOf,hb]) (VRels.of_get ?_ fun j a v ha hv => ?_) hl
 ·obtain ⟨v,h1,_⟩:=cells' (row.length - 1) row[row.length - 1] (List.getElem?_eq_getElem (by omega))
  have:=(Array.getElem?_eq_some_iff.1 h1).1
  rw [seg_length]; omega
 ·obtain ⟨v',h1,h2⟩:=cells' j a ha
  have hj : j < row.length:=(List.getElem?_eq_some_iff.1 ha).1
  rw [seg_get _ _ _ _ hj,h1] at hv
  cases hv
  exact h2
theorem im_nums {w : World} {σ : Sig} {k : IntKind} {a : Addr} {len cap : Nat} {zs : List Int} (hl : len <= cap) (hz : zs.length = cap) (hc : ∀ j,j < zs.length -> w.cell? (a.add j) = some (.int k (zs.getD j 0))) :
  VRel σ (immOf w) (.im false len ((zs.take len).map fun z => .val (.int k z))) (.slice (some a) len cap):=by
 cases len with
 | zero => exact .im0
 | succ len =>
  obtain ⟨b,off,rfl,hcell⟩:=ints_at hc (by omega)
  refine im_row (fun j x hx => ?_) (by simp; omega) hl
  rw [List.getElem?_map] at hx
  cases e : (zs.take (len + 1))[j]? with
  | none => rw [e] at hx; cases hx
  | some z =>
   rw [e] at hx
   cases hx
   have hj : j < (zs.take (len + 1)).length:=(List.getElem?_eq_some_iff.1 e).1
   rw [List.length_take] at hj
   rw [List.getElem?_take_of_lt (by omega)] at e
   refine ⟨_,hcell j (by omega),?_⟩
   have : zs.getD j 0 = z:=by rw [List.getD_eq_getElem?_getD,e]; rfl
   rw [this]
   exact .val _
def asBytes (zs : List Int) : List UInt8:=zs.map fun z => UInt8.ofNat z.toNat
theorem bs_asBytes {zs : List Int} (h : ∀ z ∈ zs,0 <= z /\ z < 256) : bs (asBytes zs) = zs.map fun z => .val (.int .u8 z):=by
 simp only [bs,asBytes,List.map_map]
 refine List.map_congr_left fun z hz => ?_
 have:=h z hz
 show AV.val (.int .u8 ((UInt8.ofNat z.toNat).toNat : Int)) = _
 rw [UInt8.toNat_ofNat',show z.toNat % 2 ^ 8 = z.toNat from Nat.mod_eq_of_lt (by omega),Int.toNat_of_nonneg this.1]
theorem im_bytes {w : World} {σ : Sig} {a : Addr} {len cap : Nat} {zs : List Int} (hl : len <= cap) (hz : zs.length = cap) (hb : ∀ z ∈ zs,0 <= z /\ z < 256) (hc : ∀ j,j < zs.length -> w.cell? (a.add j) = some (.int .u8 (zs.getD j 0))) :
  VRel σ (immOf w) (bytesArg (asBytes (zs.take len))) (.slice (some a) len cap):=by
 have h:=im_nums (σ:=σ) hl hz hc
 have hlen : (asBytes (zs.take len)).length = len:=by simp [asBytes]; omega
 unfold bytesArg
 rw [hlen,bs_asBytes fun z hz => hb z (List.mem_of_mem_take hz)]
 exact h
end Go.Proofs.YtbllpnjappddeaaGreat.Den
