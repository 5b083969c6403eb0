/- ScriptLong: Keys and Start, known by runs; known; the law. -/
import Derived.Test.YtbllpnjappddeaaGreatKLgA
import Derived.Test.YtbllpnjappddeaaGreatKWjF
import Derived.Test.YtbllpnjappddeaaGreatKLrA
set_option linter.unusedVariables false
set_option linter.unusedSimpArgs false
set_option maxRecDepth 1000000
namespace Go.Proofs.YtbllpnjappddeaaGreat.Den
open Go Go.RowKit
variable {P : Program}
noncomputable def sameS (xs : List AV) (v : AV) : Spec:=fun args nm H => by
 classical exact if args = xs then some (v,H) else none
theorem fn_same {ρ : Vals} {sc : SCall} (hsc : SCallOK P ρ sc) {f : FuncId} {sa : List SV} {xs : List AV} {v : AV} {chk : SV -> Bool} (hx : SRels ρ (fun _ => none) sa xs)
  (h : (match sc f sa ⟨0,.nil⟩ with | some x => chk x.1 | none => false) = true) (hv : ∀ r,chk r = true -> ∀ ν z,SRel ρ ν r z -> z = v) : FnOK P f (sameS xs v):=by
 cases hc : sc f sa ⟨0,.nil⟩ with
 | none => rw [hc] at h; cases h
 | some x =>
  obtain ⟨r,h'⟩:=x
  rw [hc] at h
  obtain ⟨hg,g⟩:=hsc _ _ _ _ _ hc
  refine ⟨hg,fun args nm H r' H' hs => ?_⟩
  unfold sameS at hs
  split at hs
  ·rename_i hargs
   subst hargs
   cases hs
   obtain ⟨z,H₁,k1,ν',k2,k3,k4,k5⟩:=g (fun _ => none) (fun _ => none) nm args ⟨fun n row hn => (by rw [show (⟨0,.nil⟩ : Mem).get n = none from nil_get n] at hn; cases hn),fun n k m hn => (by cases hn),fun n hn => absurd rfl hn⟩ (fun n s hn => (by cases hn)) hx
   obtain rfl:=hv r h _ _ k5
   have hg0 : givenH (fun _ => False) H = fun _ => none:=by
    funext k
    unfold givenH
    rw [if_neg (fun h => h)]
   have hfr:=Sim.frame (D:=fun _ => False) (H:=H) (H':=H₁) (by rw [hg0]; exact k1)
   intro σ I w vs hfresh hv har
   refine (hfr σ I w vs hfresh hv har).mono ?_
   rintro e w' ⟨v,σ',I',rfl,st,hr⟩
   refine ⟨v,σ',I',rfl,st.trans (Step.forget st.rel ?_),hr⟩
   intro k row hk
   have hnu : ¬ Under nm k:=by
    rintro ⟨s,rfl⟩
    obtain ⟨p,_,_,_,h1,_⟩:=har.rows _ _ hk
    rw [hfresh s] at h1
    cases h1
   unfold leftH
   rw [if_neg (by rintro (h | h); exact hnu h; exact h),hk]
  ·cases hs
def rho0 : Vals:=⟨fun _ => 0,fun _ => 0,fun _ _ _ => 0⟩
noncomputable def keysSV : SV:=.agg (cA [.im true 2 (cB [107,48] []),.im true 2 (cB [107,49] []),.im true 2 (cB [107,50] [])] [])
def keysV : AV:=.agg [.im true 2 [v8 107,v8 48],.im true 2 [v8 107,v8 49],.im true 2 [v8 107,v8 50]]
theorem keys_rel {ρ : Vals} {ν : Nat -> Option Name} : SRel ρ ν keysSV keysV :=
 .agg (.cons (.im (.cons (.int _ _) (.cons (.int _ _) .nil))) (.cons (.im (.cons (.int _ _) (.cons (.int _ _) .nil))) (.cons (.im (.cons (.int _ _) (.cons (.int _ _) .nil))) .nil)))
theorem bytes2_only {ρ : Vals} {ν : Nat -> Option Name} {a b : Nat} {z : AV} (h : SRel ρ ν (.im true 2 (cB [a,b] [])) z) : z = .im true 2 [v8 a,v8 b]:=by
 change SRel ρ ν (.im true 2 [.int .u8 (.lit (.ofNat a)),.int .u8 (.lit (.ofNat b))]) z at h
 cases h with | im h =>
 cases h with | cons h1 h =>
 cases h with | cons h2 h =>
 cases h
 cases h1
 cases h2
 rfl
theorem keys_only {ρ : Vals} {ν : Nat -> Option Name} {z : AV} (h : SRel ρ ν keysSV z) : z = keysV:=by
 change SRel ρ ν (.agg [.im true 2 (cB [107,48] []),.im true 2 (cB [107,49] []),.im true 2 (cB [107,50] [])]) z at h
 cases h with | agg h =>
 cases h with | cons h1 h =>
 cases h with | cons h2 h =>
 cases h with | cons h3 h =>
 cases h
 rw [bytes2_only h1,bytes2_only h2,bytes2_only h3]
 rfl
theorem keys9_ok : FnOK Tryz.prog 50 (sameS [vnil] keysV) :=
 fn_same (callQ_ok rho0) (sa:=cA [sN] []) (chk:=fun r => vq r keysSV) (.cons (.val _) .nil) (by decide +kernel) fun r h ν z hz => by
  rw [vq_eq h] at hz
  exact keys_only hz
open Classical in
noncomputable def underH (nm : Name) (H : AHeap) : AHeap:=fun k => if Under nm k then H k else none
theorem underH_get {nm k : Name} {H : AHeap} {row : List AV} (h : H k = some row) (hu : Under nm k) : underH nm H k = some row:=by
 unfold underH
 rw [if_pos hu,h]
section
variable {ρ : Vals} {ν : Nat -> Option Name} {h : Mem} {H : AHeap}
def RowsIn (ρ : Vals) (ν : Nat -> Option Name) (h : Mem) (H : AHeap) : Prop:=∀ (k : Nat) (srow : List SV) (q : Name),h.get k = some srow -> ν k = some q -> ∃ row,H q = some row /\ SRels ρ ν srow row
theorem ptr_in {k off : Nat} {z : AV} (h : SRel ρ ν (.ptr k off) z) : ∃ m,z = .ptr m off /\ ν k = some m:=by
 cases h with | ptr hm => exact ⟨_,rfl,hm⟩
theorem log_in (R : RowsIn ρ ν h H) {l d c : Nat} {q : Name} (h1 : h.get l = some [.ptr d 0,nI c,nI c]) {x : SV} {a : Nat} (h2 : h.get d = some [x,.val (.complex .f64 a a),nI 0,.bool false]) (hq : ν l = some q) : LogIs H q:=by
 obtain ⟨r,hr,s⟩:=R _ _ _ h1 hq
 rcases s with _ | ⟨s1,s⟩
 rcases s with _ | ⟨s2,s⟩
 rcases s with _ | ⟨s3,s⟩
 cases s
 obtain ⟨m,rfl,hm⟩:=ptr_in s1
 change SRel ρ ν (.int .i64 (.lit (.ofNat c))) _ at s2
 change SRel ρ ν (.int .i64 (.lit (.ofNat c))) _ at s3
 cases s2
 cases s3
 obtain ⟨r',hr',t⟩:=R _ _ _ h2 hm
 rcases t with _ | ⟨t1,t⟩
 rcases t with _ | ⟨t2,t⟩
 rcases t with _ | ⟨t3,t⟩
 rcases t with _ | ⟨t4,t⟩
 cases t
 change SRel ρ ν (.int .i64 (.lit (.ofNat 0))) _ at t3
 cases t2
 cases t3
 cases t4
 exact ⟨m,c,hr,_,a,hr'⟩
theorem serv_in (R : RowsIn ρ ν h H) {s l d c : Nat} {a1 a2 a3 a4 b1 b2 b3 : SV} (h0 : h.get s = some [a1,a2,a3,a4,.ptr l 0,b1,b2,b3]) (h1 : h.get l = some [.ptr d 0,nI c,nI c]) {x : SV} {a : Nat} (h2 : h.get d = some [x,.val (.complex .f64 a a),nI 0,.bool false]) {q : Name} (hq : ν s = some q) : ServIs H q:=by
 obtain ⟨r,hr,s⟩:=R _ _ _ h0 hq
 rcases s with _ | ⟨s1,s⟩
 rcases s with _ | ⟨s2,s⟩
 rcases s with _ | ⟨s3,s⟩
 rcases s with _ | ⟨s4,s⟩
 rcases s with _ | ⟨s5,s⟩
 rcases s with _ | ⟨s6,s⟩
 rcases s with _ | ⟨s7,s⟩
 rcases s with _ | ⟨s8,s⟩
 cases s
 obtain ⟨m,rfl,hm⟩:=ptr_in s5
 exact ⟨m,_,_,_,_,_,_,_,hr,log_in R h1 h2 hm⟩
theorem xlog_in (R : RowsIn ρ ν h H) {l d c : Nat} {q : Name} (h1 : h.get l = some [.ptr d 0,nI c,nI c]) {y : SV} {m0 len : Nat} (h2 : h.get d = some [.sl m0 0 len 1,nI len,y,nI 0,.bool false]) (hq : ν l = some q) : XLogIs H q:=by
 obtain ⟨r,hr,s⟩:=R _ _ _ h1 hq
 rcases s with _ | ⟨s1,s⟩
 rcases s with _ | ⟨s2,s⟩
 rcases s with _ | ⟨s3,s⟩
 cases s
 obtain ⟨m,rfl,hm⟩:=ptr_in s1
 change SRel ρ ν (.int .i64 (.lit (.ofNat c))) _ at s2
 change SRel ρ ν (.int .i64 (.lit (.ofNat c))) _ at s3
 cases s2
 cases s3
 obtain ⟨r',hr',t⟩:=R _ _ _ h2 hm
 rcases t with _ | ⟨t1,t⟩
 rcases t with _ | ⟨t2,t⟩
 rcases t with _ | ⟨t3,t⟩
 rcases t with _ | ⟨t4,t⟩
 rcases t with _ | ⟨t5,t⟩
 cases t
 change SRel ρ ν (.int .i64 (.lit (.ofNat len))) _ at t2
 change SRel ρ ν (.int .i64 (.lit (.ofNat 0))) _ at t4
 cases t1
 cases t2
 cases t4
 cases t5
 exact ⟨m,c,hr,_,0,len,_,hr'⟩
theorem xserv_in (R : RowsIn ρ ν h H) {s l d c : Nat} {a1 a2 a3 a4 b1 b2 b3 : SV} (h0 : h.get s = some [a1,a2,a3,a4,.ptr l 0,b1,b2,b3]) (h1 : h.get l = some [.ptr d 0,nI c,nI c]) {y : SV} {m0 len : Nat} (h2 : h.get d = some [.sl m0 0 len 1,nI len,y,nI 0,.bool false]) {q : Name} (hq : ν s = some q) : XServIs H q:=by
 obtain ⟨r,hr,s⟩:=R _ _ _ h0 hq
 rcases s with _ | ⟨s1,s⟩
 rcases s with _ | ⟨s2,s⟩
 rcases s with _ | ⟨s3,s⟩
 rcases s with _ | ⟨s4,s⟩
 rcases s with _ | ⟨s5,s⟩
 rcases s with _ | ⟨s6,s⟩
 rcases s with _ | ⟨s7,s⟩
 rcases s with _ | ⟨s8,s⟩
 cases s
 obtain ⟨m,rfl,hm⟩:=ptr_in s5
 exact ⟨m,_,_,_,_,_,_,_,hr,xlog_in R h1 h2 hm⟩
theorem three_in (R : RowsIn ρ ν h H) {n s0 s1 s2 : Nat} (h0 : h.get n = some [.ptr s0 0,.ptr s1 0,.ptr s2 0]) {q : Name} (hq : ν n = some q) : ∃ m0 m1 m2,H q = some [.ptr m0 0,.ptr m1 0,.ptr m2 0] /\ ν s0 = some m0 /\ ν s1 = some m1 /\ ν s2 = some m2:=by
 obtain ⟨r,hr,s⟩:=R _ _ _ h0 hq
 rcases s with _ | ⟨t0,s⟩
 rcases s with _ | ⟨t1,s⟩
 rcases s with _ | ⟨t2,s⟩
 cases s
 obtain ⟨m0,rfl,k0⟩:=ptr_in t0
 obtain ⟨m1,rfl,k1⟩:=ptr_in t1
 obtain ⟨m2,rfl,k2⟩:=ptr_in t2
 exact ⟨m0,m1,m2,hr,k0,k1,k2⟩
end
noncomputable def stMem : Mem:=zmem wj4.next' wj4.rows'
theorem st_w : stMem.get 38 = some [.sl 40 0 2 1,.sl 42 0 2 1,.sl 44 0 2 1,.sl 86 0 3 1,.sl 84 0 3 1,.sl 5025 0 3 87,.sl 3464 0 0 2,nI 21]:=by kernel_rfl
theorem st_n : stMem.get 86 = some [.ptr 54 0,.ptr 68 0,.ptr 82 0]:=by kernel_rfl
theorem st_s0 : stMem.get 54 = some [nI 0,.sl 51 0 2 1,.sl 52 0 2 1,.sl 53 0 2 1,.ptr 50 0,.sl 171 0 1 1,sN,sN]:=by kernel_rfl
theorem st_s1 : stMem.get 68 = some [nI 1,.sl 65 0 2 1,.sl 66 0 2 1,.sl 67 0 2 1,.ptr 64 0,.sl 893 0 2 1,sN,sN]:=by kernel_rfl
theorem st_s2 : stMem.get 82 = some [nI 2,.sl 79 0 2 1,.sl 80 0 2 1,.sl 81 0 2 1,.ptr 78 0,.sl 2720 0 1 1,sN,sN]:=by kernel_rfl
theorem st_l0 : stMem.get 50 = some [.ptr 46 0,nI 3,nI 3]:=by kernel_rfl
theorem st_l1 : stMem.get 64 = some [.ptr 60 0,nI 4,nI 4]:=by kernel_rfl
theorem st_l2 : stMem.get 78 = some [.ptr 74 0,nI 3,nI 3]:=by kernel_rfl
theorem st_d0 : stMem.get 46 = some [.sl 45 0 65536 1,.val (.complex .f64 4647169457678974976 4647169457678974976),nI 0,.bool false]:=by kernel_rfl
theorem st_d1 : stMem.get 60 = some [.sl 59 0 65536 1,.val (.complex .f64 4647802776376573952 4647802776376573952),nI 0,.bool false]:=by kernel_rfl
theorem st_d2 : stMem.get 74 = some [.sl 73 0 65536 1,.val (.complex .f64 4647169457678974976 4647169457678974976),nI 0,.bool false]:=by kernel_rfl
theorem st_x : stMem.get 88 = some [.im true 2 (cB [107,48] []),.im true 2 (cB [107,49] []),.im true 2 (cB [107,50] []),.sl 122 0 3 1,.sl 124 0 3 1,.sl 5039 0 3 87,.sl 4832 0 0 2,nI 21]:=by kernel_rfl
theorem st_xn : stMem.get 124 = some [.ptr 96 0,.ptr 108 0,.ptr 120 0]:=by kernel_rfl
theorem st_x0 : stMem.get 96 = some [nI 0,.im true 2 (cB [107,48] []),.im true 2 (cB [107,49] []),.im true 2 (cB [107,50] []),.ptr 95 0,.sl 212 0 1 59,sN,sN]:=by kernel_rfl
theorem st_x1 : stMem.get 108 = some [nI 1,.im true 2 (cB [107,48] []),.im true 2 (cB [107,49] []),.im true 2 (cB [107,50] []),.ptr 107 0,.sl 1475 0 2 59,sN,sN]:=by kernel_rfl
theorem st_x2 : stMem.get 120 = some [nI 2,.im true 2 (cB [107,48] []),.im true 2 (cB [107,49] []),.im true 2 (cB [107,50] []),.ptr 119 0,.sl 4013 0 1 59,sN,sN]:=by kernel_rfl
theorem st_xl0 : stMem.get 95 = some [.ptr 89 0,nI 3,nI 3]:=by kernel_rfl
theorem st_xl1 : stMem.get 107 = some [.ptr 101 0,nI 4,nI 4]:=by kernel_rfl
theorem st_xl2 : stMem.get 119 = some [.ptr 113 0,nI 3,nI 3]:=by kernel_rfl
theorem st_xd0 : stMem.get 89 = some [.sl 2363 0 481 1,nI 481,nI 65536,nI 0,.bool false]:=by kernel_rfl
theorem st_xd1 : stMem.get 101 = some [.sl 3925 0 522 1,nI 522,nI 65536,nI 0,.bool false]:=by kernel_rfl
theorem st_xd2 : stMem.get 113 = some [.sl 4236 0 481 1,nI 481,nI 65536,nI 0,.bool false]:=by kernel_rfl
theorem st_tup : wj4.r = .tup [.ptr 38 0,.ptr 88 0]:=by kernel_rfl
theorem start_ex (nm : Name) : ∃ (q x : Name) (H₁ : AHeap),Sim Tryz.prog 49 [keysV] nm (fun _ => none) (.tup [.ptr q 0,.ptr x 0]) H₁ /\ WorldIs (underH nm H₁) q /\ XWorldIs (underH nm H₁) x:=by
 obtain ⟨z,H₁,hs,ν',_,hn,hm,hr⟩:=(start_fit rho0).1.1.2 (fun _ => none) (fun _ => none) nm [keysV] ⟨fun n row hn => (by rw [show (zmem wj4.next wj4.rows).get n = none from nil_get n] at hn; cases hn),fun n k m hn => (by cases hn),fun n hn => absurd rfl hn⟩ (fun n s hn => (by cases hn)) (.cons keys_rel .nil)
 have R : RowsIn rho0 ν' stMem (underH nm H₁):=by
  intro k srow q hk hq
  obtain ⟨m,row,h1,h2,h3⟩:=hm.rows k srow hk
  rw [hq] at h1
  cases h1
  refine ⟨row,underH_get h2 ?_,h3⟩
  rcases hn _ _ hq with h | h
  ·cases h
  ·exact h
 rw [st_tup] at hr
 cases hr with | tup hr =>
 rcases hr with _ | ⟨r1,hr⟩
 rcases hr with _ | ⟨r2,hr⟩
 cases hr
 obtain ⟨q,rfl,hq⟩:=ptr_in r1
 obtain ⟨x,rfl,hx⟩:=ptr_in r2
 refine ⟨q,x,H₁,hs,?_,?_⟩
 ·obtain ⟨r,hr,s⟩:=R _ _ _ st_w hq
  rcases s with _ | ⟨s1,s⟩
  rcases s with _ | ⟨s2,s⟩
  rcases s with _ | ⟨s3,s⟩
  rcases s with _ | ⟨s4,s⟩
  rcases s with _ | ⟨s5,s⟩
  rcases s with _ | ⟨s6,s⟩
  rcases s with _ | ⟨s7,s⟩
  rcases s with _ | ⟨s8,s⟩
  cases s
  cases s4 with | sl hm4 =>
  obtain ⟨m0,m1,m2,e,k0,k1,k2⟩:=three_in R st_n hm4
  exact ⟨_,m0,m1,m2,_,_,_,_,_,_,_,hr,e,serv_in R st_s0 st_l0 st_d0 k0,serv_in R st_s1 st_l1 st_d1 k1,serv_in R st_s2 st_l2 st_d2 k2⟩
 ·obtain ⟨r,hr,s⟩:=R _ _ _ st_x hx
  rcases s with _ | ⟨s1,s⟩
  rcases s with _ | ⟨s2,s⟩
  rcases s with _ | ⟨s3,s⟩
  rcases s with _ | ⟨s4,s⟩
  rcases s with _ | ⟨s5,s⟩
  rcases s with _ | ⟨s6,s⟩
  rcases s with _ | ⟨s7,s⟩
  rcases s with _ | ⟨s8,s⟩
  cases s
  cases s5 with | sl hm5 =>
  obtain ⟨m0,m1,m2,e,k0,k1,k2⟩:=three_in R st_xn hm5
  exact ⟨_,m0,m1,m2,_,_,_,_,_,_,_,hr,e,xserv_in R st_x0 st_xl0 st_xd0 k0,xserv_in R st_x1 st_xl1 st_xd1 k1,xserv_in R st_x2 st_xl2 st_xd2 k2⟩
noncomputable def stQ (nm : Name) : Name:=(start_ex nm).choose
noncomputable def stX (nm : Name) : Name:=(start_ex nm).choose_spec.choose
noncomputable def stH (nm : Name) : AHeap:=(start_ex nm).choose_spec.choose_spec.choose
theorem st_spec (nm : Name) : Sim Tryz.prog 49 [keysV] nm (fun _ => none) (.tup [.ptr (stQ nm) 0,.ptr (stX nm) 0]) (stH nm) /\ WorldIs (underH nm (stH nm)) (stQ nm) /\ XWorldIs (underH nm (stH nm)) (stX nm):=(start_ex nm).choose_spec.choose_spec.choose_spec
noncomputable def stL (nm : Name) (H : AHeap) : AHeap:=leftH nm (fun _ => False) H (stH nm)
open Classical in
noncomputable def startS : Spec:=fun args nm H => if args = [keysV] then some (.tup [.ptr (stQ nm) 0,.ptr (stX nm) 0],stL nm H) else none
theorem start_fn : FnOK Tryz.prog 49 startS:=by
 refine ⟨(start_fit rho0).1.1.1,fun args nm H r H' h => ?_⟩
 unfold startS at h
 split at h
 ·rename_i hc
  subst hc
  cases h
  have hg0 : givenH (fun _ => False) H = fun _ => none:=by
   funext k
   unfold givenH
   rw [if_neg (fun h => h)]
  exact Sim.frame (D:=fun _ => False) (H:=H) (by rw [hg0]; exact (st_spec nm).1)
 ·cases h
theorem st_under {nm : Name} {H : AHeap} (k : Name) (r : List AV) (h : underH nm (stH nm) k = some r) : stL nm H k = some r:=by
 unfold underH at h
 split at h
 ·rename_i hu
  unfold stL leftH
  rw [if_pos (.inl hu),h]
 ·cases h
theorem st_world (nm : Name) (H : AHeap) : WorldIs (stL nm H) (stQ nm):=(st_spec nm).2.1.mono st_under
theorem st_xworld (nm : Name) (H : AHeap) : XWorldIs (stL nm H) (stX nm):=(st_spec nm).2.2.mono st_under
theorem st_stays {nm : Name} {H : AHeap} (hf : ∀ s,H (s ++ nm) = none) (k : Name) (r : List AV) (h : H k = some r) : stL nm H k = some r:=by
 have hnu : ¬ Under nm k:=by
  rintro ⟨s,rfl⟩
  rw [hf s] at h
  cases h
 unfold stL leftH
 rw [if_neg (by rintro (h | h); exact hnu h; exact h),h]
attribute [local simp] runList aop abuiltin acall awanted ayielded env T0 tput tset Ran aload astore setMany upd binV aslice aindexAddr apart aindex alen acopy srcCells natOf boundOf aeq AV.nilEq convV appK fillA List.range List.range.loop onF isU8 rowOf
theorem keysS_at (nm : Name) (H : AHeap) : sameS [vnil] keysV [vnil] nm H = some (keysV,H):=by
 unfold sameS; rw [if_pos rfl]
theorem startS_at (nm : Name) (H : AHeap) : startS [keysV] nm H = some (.tup [.ptr (stQ nm) 0,.ptr (stX nm) 0],stL nm H):=if_pos rfl
theorem run0S_at (q nm : Name) (H : AHeap) : run0S [.ptr q 0,vnil] nm H = some (vi 0,H):=if_pos ⟨q,rfl⟩
theorem knbytesS_at {m : Name} (nm : Name) {H : AHeap} (h : H m = some [.val (.int .u8 1),.val (.int .u8 2),.val (.int .u8 3),.val (.int .u8 4)]) : knbytesS [.sl m 0 1 4] nm H = some (.sl nm 0 4 1,upd H nm (some (knRow 1))):=if_pos ⟨m,1,rfl,⟨by decide,by decide⟩,h⟩
set_option maxHeartbeats 2000000 in
theorem known21_ok : FnOK Tryz.prog 47 trueS:=by
 refine ⟨by kernel_rfl,fun args nm H r H' h => ?_⟩
 unfold trueS at h
 split at h
 ·cases h
  have hcall:=onF_ok keys9_ok (onF_ok start_fn (onF_ok run0_ok (onF_ok knbytes_ok (@noCall_ok Tryz.prog))))
  refine sim_go Tryz.func47 rfl rfl (Nat.le_of_ble_eq_true rfl) fun hH => ?_
  (repeat refine AWP.seq ?_)
  refine AWP.region_last hcall rfl fun K hK => ?_
  simp
  apply hK; clear hK K; simp only [onNormal,onExit]
  (repeat refine AWP.seq ?_)
  refine AWP.region_last hcall rfl fun K hK => ?_
  simp [keysS_at,startS_at]
  apply hK; clear hK K; simp only [onNormal,onExit]
  (repeat refine AWP.seq ?_)
  refine AWP.region_last hcall rfl fun K hK => ?_
  simp [run0S_at,knbytesS_at]
  apply hK; clear hK K; simp only [onNormal,onExit]
  (try refine AWP.ret ?_); (try simp only [onNormal,onExit]); refine ⟨by simp,⟨_,rfl,by simp [ares1]⟩,fun k row hk => ?_⟩
  have h13 : H (13 :: nm) = none:=hH [_]
  have h14 : H (14 :: nm) = none:=hH [_]
  rw [upd_ne _ _ (by rintro rfl; rw [h14] at hk; cases hk),upd_ne _ _ (by rintro rfl; rw [h13] at hk; cases hk)]
  exact st_stays (fun s => by have:=hH (s ++ [2]); simpa using this) k row hk
 ·cases h
open Classical in
noncomputable def longS : Spec:=fun args nm H => if ∃ n,args = [vi n] then some (vb true,H) else none
set_option maxHeartbeats 4000000 in
theorem long_ok : FnOK Tryz.prog 10 longS:=by
 refine ⟨by kernel_rfl,fun args nm H r H' h => ?_⟩
 unfold longS at h
 split at h
 ·rename_i hc
  obtain ⟨n,rfl⟩:=hc
  cases h
  have hcall:=onF_ok known21_ok (onF_ok keys9_ok (onF_ok start_fn (onF_ok scbytes_ok (onF_ok run_ok (onF_ok xrun7_ok (@noCall_ok Tryz.prog))))))
  obtain ⟨c,hc5,hcn⟩ : ∃ c : Nat,c < 5 /\ max (n.tmod 5) 0 = c:=by
   have h1:=Int.tmod_lt_of_pos n (by decide : (0 : Int) < 5)
   exact ⟨(max (n.tmod 5) 0).toNat,by omega,by omega⟩
  have e13 : (if n.tmod 5 < 0 then (0 : Int) else n.tmod 5) = c:=by rw [<- hcn]; split <;> omega
  have e14 : (if (4 : Int) < (c : Int) then (4 : Int) else c) = c:=if_neg (by omega)
  obtain ⟨N,hN⟩ : ∃ N : Nat,N = 398 + c:=⟨_,rfl⟩
  have e15 : IntKind.i64.wrap (398 + (c : Int)) = (N : Int):=by rw [IntKind.wrap_i64]; omega
  have hN1 : 398 <= N:=by omega
  have hN2 : N < 403:=by omega
  clear hN
  refine sim_go Tryz.func10 rfl rfl (Nat.le_of_ble_eq_true rfl) fun hH => ?_
  (repeat refine AWP.seq ?_)
  refine AWP.region_last hcall rfl fun K hK => ?_
  simp
  apply hK; clear hK K; simp only [onNormal,onExit]
  (repeat refine AWP.seq ?_)
  refine AWP.region_last hcall rfl fun K hK => ?_
  simp [trueS]
  apply hK; clear hK K; simp only [onNormal,onExit]
  (repeat refine AWP.seq ?_); refine AWP.cond (b:=false) (by simp) ?_; simp only [if_true,if_false,Bool.false_eq_true]
  refine AWP.skip ?_; simp only [onNormal,onExit]
  (repeat refine AWP.seq ?_)
  refine AWP.region_last hcall rfl fun K hK => ?_
  simp [e13,e14,e15]
  apply hK; clear hK K; simp only [onNormal,onExit]
  (repeat refine AWP.seq ?_)
  refine AWP.region_last hcall rfl fun K hK => ?_
  simp
  apply hK; clear hK K; simp only [onNormal,onExit]
  (repeat refine AWP.seq ?_)
  refine AWP.region_last hcall rfl fun K hK => ?_
  simp
  apply hK; clear hK K; simp only [onNormal,onExit]
  (repeat refine AWP.seq ?_); refine AWP.block ?_
  refine AWP.loop (fun m c' T H2 => ∃ i,i <= N /\ m = N - i /\ T 0 = vi (N : Nat) /\ T 4 = vi (i : Nat) /\ ((i = 0 /\ T 3 = vnil) \/ (0 < i /\ ∃ x,T 3 = .sl x 0 i 4 /\ H x = none /\ H2 x = some (stepsRow i))) /\ (∀ a r,H a = some r -> H2 a = some r)) N ⟨0,by omega,rfl,by simp,by simp,.inl ⟨rfl,by simp⟩,fun a r h => h⟩ ?_
  rintro m c' T H2 ⟨i,hiN,rfl,t0,t4,t3,hsub⟩
  refine AWP.known_fresh fun hfr => ?_
  by_cases hlt : i < N
  ·have hlt' : (i : Int) < (N : Int):=by omega
   (repeat refine AWP.seq ?_)
   refine AWP.region_last hcall rfl fun K hK => ?_
   simp [t0,t4,hlt']
   apply hK; clear hK K; simp only [onNormal,onExit]
   (repeat refine AWP.seq ?_); refine AWP.cond (b:=true) (by simp [hlt']) ?_; simp only [if_true,if_false,Bool.false_eq_true]
   refine AWP.skip ?_; simp only [onNormal,onExit]
   (repeat refine AWP.seq ?_); refine AWP.block ?_
   rcases t3 with ⟨rfl,t3⟩ | ⟨hi0,x,t3,hx,hxr⟩
   ·(repeat refine AWP.seq ?_)
    refine AWP.region_last hcall rfl fun K hK => ?_
    simp [t3,t4]
    apply hK; clear hK K; simp only [onNormal,onExit]
    (repeat refine AWP.seq ?_)
    refine AWP.region_last hcall rfl fun K hK => ?_
    simp [t4]
    apply hK; clear hK K; simp only [onNormal,onExit]
    refine ⟨N - 1,by omega,1,by omega,rfl,by simp [t0],by simp,.inr ⟨by omega,(c' + 3 + 5) :: nm,by simp,hH [_],by simp [stepsRow]⟩,?_⟩
    exact SubL.out (SubL.fresh (hH [_]) (SubL.fresh (hH [_]) fun a r _ h => hsub a r h))
   ·have hx4 : ¬ x = (c' + 3 + 4) :: nm:=fun e => ne_fresh hfr hxr (c' + 3 + 4) (by omega) e
    have hx5 : ¬ x = (c' + 3 + 5) :: nm:=fun e => ne_fresh hfr hxr (c' + 3 + 5) (by omega) e
    have hx4' : ¬ (c' + 3 + 4) :: nm = x:=fun e => hx4 e.symm
    have hx5' : ¬ (c' + 3 + 5) :: nm = x:=fun e => hx5 e.symm
    have hsl:=stepsRow_length i
    have htk : (stepsRow i).take (i * 4) = stepsRow i:=List.take_of_length_le (by omega)
    have hle : i * 4 <= (stepsRow i).length:=by omega
    have hb1 : (i + 1) * 4 <= 140737488355328:=by omega
    have hb2 : i <= 140737488355327:=by omega
    have hu : IntKind.u8.wrap (i : Int) = (i : Int) % 256:=by rw [IntKind.wrap_u8]
    have hw : IntKind.i64.wrap ((i : Int) + 1) = ((i + 1 : Nat) : Int):=by rw [IntKind.wrap_i64]; omega
    (repeat refine AWP.seq ?_)
    refine AWP.region_last hcall rfl fun K hK => ?_
    simp (maxDischargeDepth:=20) [t3,t4,hxr,hx4,hx5,hx4',hx5',htk,hle,hb1,hb2,hu]
    apply hK; clear hK K; simp only [onNormal,onExit]
    (repeat refine AWP.seq ?_)
    refine AWP.region_last hcall rfl fun K hK => ?_
    simp [t4,hw]
    apply hK; clear hK K; simp only [onNormal,onExit]
    refine ⟨N - (i + 1),by omega,i + 1,by omega,rfl,by simp [t0],by simp,.inr ⟨by omega,(c' + 3 + 5) :: nm,by simp,hH [_],by simp [stepsRow]⟩,?_⟩
    refine SubL.out (SubL.fresh (hH [_]) ?_)
    intro a r hh ha
    rw [upd_ne _ _ (by rintro rfl; rw [hx] at ha; cases ha)]
    exact SubL.out (SubL.fresh (hH [_]) fun a r _ h => hsub a r h) a r ha
  ·obtain rfl : i = N:=by omega
   rcases t3 with ⟨h0,_⟩ | ⟨hi0,x,t3,hx,hxr⟩
   ·omega
   have hlt' : ¬ (i : Int) < (i : Int):=by omega
   (repeat refine AWP.seq ?_)
   refine AWP.region_last hcall rfl fun K hK => ?_
   simp [t0,t4]
   apply hK; clear hK K; simp only [onNormal,onExit]
   (repeat refine AWP.seq ?_); refine AWP.cond (b:=false) (by simp) ?_; simp only [if_true,if_false,Bool.false_eq_true]
   refine AWP.exit ?_; simp only [onNormal,onExit,if_true,reduceCtorEq,if_false]
   obtain ⟨L,hL⟩ : ∃ L,L = 4 * i:=⟨_,rfl⟩
   obtain ⟨M,hM⟩ : ∃ M,M = min i 400:=⟨_,rfl⟩
   have hk4 : 4 * i / 4 = i:=by omega
   have hsb : ∀ nm' : Name,scbytesS [.sl x 0 i 4] nm' H2 = some (.sl nm' 0 L 1,upd H2 nm' (some (stepsRow i))):=fun nm' => by
    rw [hL]; exact if_pos ⟨x,i,rfl,⟨by omega,by omega⟩,hxr⟩
   (repeat refine AWP.seq ?_)
   refine AWP.region_last hcall rfl fun K hK => ?_
   simp [t3,hsb]
   apply hK; clear hK K; simp only [onNormal,onExit]
   (repeat refine AWP.seq ?_)
   refine AWP.region_last hcall rfl fun K hK => ?_
   simp [keysS_at,startS_at]
   apply hK; clear hK K; simp only [onNormal,onExit]
   have hf4 : ∀ s,(upd H2 ((c' + 3 + 1) :: nm) (some (stepsRow i))) (s ++ (c' + 3 + 3 + 1) :: nm) = none:=fun s => by
    rw [upd_ne _ _ (by
     intro e
     have:=congrArg List.length e
     cases s with
     | nil => simp at e
     | cons a s => simp at this; omega)]
    exact hfr _ _ (by omega)
   have hb4 : stL ((c' + 3 + 3 + 1) :: nm) (upd H2 ((c' + 3 + 1) :: nm) (some (stepsRow i))) ((c' + 3 + 1) :: nm) = some (stepsRow i):=st_stays hf4 _ _ (upd_same _ _ _)
   have hout : ∀ a r,H a = some r -> stL ((c' + 3 + 3 + 1) :: nm) (upd H2 ((c' + 3 + 1) :: nm) (some (stepsRow i))) a = some r:=fun a r ha => st_stays hf4 _ _ (SubL.out (SubL.fresh (hH [_]) fun a r _ h => hsub a r h) a r ha)
   have hqw:=st_world ((c' + 3 + 3 + 1) :: nm) (upd H2 ((c' + 3 + 1) :: nm) (some (stepsRow i)))
   have hxw:=st_xworld ((c' + 3 + 3 + 1) :: nm) (upd H2 ((c' + 3 + 1) :: nm) (some (stepsRow i)))
   generalize stL ((c' + 3 + 3 + 1) :: nm) (upd H2 ((c' + 3 + 1) :: nm) (some (stepsRow i))) = H4 at hb4 hout hqw hxw ⊢
   generalize stQ ((c' + 3 + 3 + 1) :: nm) = q at hqw ⊢
   generalize stX ((c' + 3 + 3 + 1) :: nm) = y at hxw ⊢
   have hr1 : ∀ nm',runS [.ptr q 0,.sl ((c' + 3 + 1) :: nm) 0 L 1] nm' H4 = some (vi (M : Nat),H4):=fun nm' => by
    rw [hL,hM]
    have h : runS [.ptr q 0,.sl ((c' + 3 + 1) :: nm) 0 (4 * i) 1] nm' H4 = some (vi (min (4 * i / 4) 400 : Nat),H4):=if_pos ⟨q,(c' + 3 + 1) :: nm,i,stepsRow i,rfl,⟨by omega,by omega⟩,hb4,stepsRow_steps i,hqw⟩
    rw [hk4] at h
    exact h
   have hr2 : ∀ nm',xrunS [.ptr y 0,.sl ((c' + 3 + 1) :: nm) 0 L 1] nm' H4 = some (vi (M : Nat),H4):=fun nm' => by
    rw [hL,hM]
    have h : xrunS [.ptr y 0,.sl ((c' + 3 + 1) :: nm) 0 (4 * i) 1] nm' H4 = some (vi (min (4 * i / 4) 400 : Nat),H4):=if_pos ⟨y,(c' + 3 + 1) :: nm,i,stepsRow i,rfl,⟨by omega,by omega⟩,hb4,stepsRow_steps i,hxw⟩
    rw [hk4] at h
    exact h
   have hw4 : IntKind.i64.wrap (4 * (i : Int)) = (L : Int):=by rw [IntKind.wrap_i64]; omega
   have hm4 : (if (400 : Int) < (i : Int) then (400 : Int) else (i : Int)) = (M : Int):=by split <;> omega
   (repeat refine AWP.seq ?_)
   refine AWP.region_last hcall rfl fun K hK => ?_
   simp [hr1]
   apply hK; clear hK K; simp only [onNormal,onExit]
   (repeat refine AWP.seq ?_)
   refine AWP.region_last hcall rfl fun K hK => ?_
   simp [t0,hw4,hm4,hr2]
   apply hK; clear hK K; simp only [onNormal,onExit]
   (try refine AWP.ret ?_); (try simp only [onNormal,onExit]); refine ⟨by simp,⟨_,rfl,by simp [ares1]⟩,fun k row hk => ?_⟩
   exact hout k row hk
 ·cases h
theorem long_sim (n : Int) : ∃ H',Sim Tryz.prog 10 [vi n] [] (fun _ => none) (.val (.bool true)) H':=⟨_,long_ok.2 _ _ _ _ _ (if_pos ⟨n,rfl⟩)⟩
end Go.Proofs.YtbllpnjappddeaaGreat.Den
