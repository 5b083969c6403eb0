/- Package comitiaref1: Int is written. -/
import Derived.Test.YtbllpnjappddeaaGreatKWkE
import Derived.Test.YtbllpnjappddeaaGreatKLibInsert
import Derived.Test.YtbllpnjappddeaaGreatKWkA
import Derived.Deep.LoopGhost
import Derived.Deep.RegionLaw
import Derived.Lib.Hide
import Derived.Test.YtbllpnjappddeaaGreatKShaC
set_option linter.unusedVariables false
set_option linter.unusedSimpArgs false
section
set_option linter.unusedSimpArgs false
set_option linter.unusedVariables false
set_option maxRecDepth 100000
namespace Go.Proofs.YtbllpnjappddeaaGreat.Den
open Go.RowKit
attribute [local simp] runList aop abuiltin acall awanted ayielded env T0 tput tset Ran aload astore setMany upd binV aslice aindexAddr apart aindex alen acopy srcCells natOf boundOf aeq AV.nilEq convV appK fillA List.range List.range.loop onF isU8 rowOf
theorem putS_cases {b : AV} {l : List UInt8} {nm : Name} {H : AHeap} {r : AV} {H' : AHeap} (h : putS b l nm H = some (r,H')) : ∃ k c B,r = .sl nm 0 (k + l.length) 1 /\ H' = upd B nm (some (c ++ bs l)) /\ k + l.length <= 140737488355328 /\ c.length = k /\ (∀ a r,B a = some r -> H a = some r) /\
  ((b = vnil /\ k = 0 /\ c = [] /\ B = H) \/ ∃ n off row,b = .sl n off k 1 /\ H n = some row /\ off + k <= row.length /\ (row.drop off).take k = c /\ B = upd H n none):=by
 unfold putS at h
 split at h
 ·split at h
  ·cases h
   exact ⟨0,[],H,by simp,by simp,by omega,rfl,fun _ _ h => h,.inl ⟨rfl,rfl,rfl,rfl⟩⟩
  ·cases h
 ·rename_i n off len
  split at h
  ·rename_i row hn
   split at h
   ·rename_i hc
    cases h
    exact ⟨len,_,upd H n none,rfl,rfl,hc.2,by rw [List.length_take,List.length_drop]; omega,gone_sub,.inr ⟨n,off,row,rfl,hn,hc.1,rfl,rfl⟩⟩
   ·cases h
  ·cases h
 ·cases h
def intPS : Spec:=fun args nm H =>
 match args with
 | [b,.val (.int .i64 n)] => putS b (i8 n) nm H
 | _ => none
set_option maxHeartbeats 1000000 in
theorem intP_ok : FnOK Tryz.prog 325 intPS:=by
 refine ⟨by kernel_rfl,fun args nm H r H' h => ?_⟩
 have hcall:=@noCall_ok Tryz.prog
 unfold intPS at h
 split at h
 ·rename_i b n
  obtain ⟨k,c,B,rfl,rfl,hk8,hcl,hBH,hb⟩:=putS_cases h
  clear h
  have h8 : (i8 n).length = 8:=i8p_length n 8
  rw [h8] at hk8 ⊢
  refine sim_rowB (B:=B) Tryz.func325 rfl rfl (Nat.le_of_ble_eq_true rfl) hBH fun hH => ?_
  have hB0 : ∀ j,B (j :: 0 :: nm) = none:=fun j => by
   cases e : B (j :: 0 :: nm) with
   | none => rfl
   | some row => have h1:=hBH _ _ e; have h2:=hH [j]; rw [List.singleton_append] at h2; rw [h2] at h1; cases h1
  (repeat refine AWP.seq ?_)
  refine AWP.region_last hcall rfl fun K hK => ?_
  simp
  apply hK; clear hK K; simp only [onNormal,onExit]
  (repeat refine AWP.seq ?_)
  refine AWP.region_last hcall rfl fun K hK => ?_
  simp
  apply hK; clear hK K; simp only [onNormal,onExit]
  (repeat refine AWP.seq ?_); refine AWP.block ?_
  refine AWP.loop (fun m c' T H2 => ∃ i,i <= 8 /\ m = 8 - i /\ T 1 = vi n /\ T 5 = vi i /\ ((i = 0 /\ T 0 = b /\ H2 = H) \/ (0 < i /\ ∃ q,T 0 = .sl q 0 (k + i) 1 /\ B q = none /\ H2 q = some (c ++ bs (i8p n i)) /\ (∀ a r,B a = some r -> H2 a = some r)))) 8 ⟨0,by omega,by omega,by simp,by simp,.inl ⟨rfl,by simp,rfl⟩⟩ ?_
  rintro m c' T H2 ⟨i,hi8,rfl,t1,t5,hcase⟩
  by_cases hi : i < 8
  ·have hi' : (i : Int) < 8:=by omega
   have hzz : (0 : Int) <= 8 * (i : Int):=by omega
   have hw8 : IntKind.u64.wrap (8 * (i : Int)) = 8 * (i : Int):=by rw [IntKind.wrap_u64]; omega
   have hwi : IntKind.u64.wrap (i : Int) = (i : Int):=by rw [IntKind.wrap_u64]; omega
   have hw2 : IntKind.i64.wrap ((i : Int) + 1) = ((i + 1 : Nat) : Int):=by rw [IntKind.wrap_i64]; omega
   have hbw:=byteAt_wrap n i (by omega)
   have hrs : bs (i8p n i) ++ [.val (.int .u8 ((byteAt n i).toNat : Int))] = bs (i8p n (i + 1)):=by
    rw [i8p_succ,<- bs_append]; rfl
   rcases hcase with ⟨rfl,t0,rfl⟩ | ⟨hi0,q,t0,hq1,hq2,hsub⟩
   ·have hb0 : IntKind.u8.wrap ((IntKind.u64.wrap n).fdiv (2 ^ min 0 IntKind.u64.bits)) = ((byteAt n 0).toNat : Int):=byteAt_wrap n 0 (by omega)
    have hb0' : IntKind.u8.wrap (IntKind.u64.wrap n) = ((byteAt n 0).toNat : Int):=by simpa using hb0
    rcases hb with ⟨rfl,rfl,rfl,rfl⟩ | ⟨n0,off,row,rfl,hn,hoff,hct,rfl⟩
    ·(repeat refine AWP.seq ?_)
     refine AWP.region_last hcall rfl fun K hK => ?_
     simp [t5]
     apply hK; clear hK K; simp only [onNormal,onExit]
     (repeat refine AWP.seq ?_); refine AWP.cond (b:=true) (by simp) ?_; simp only [if_true,if_false,Bool.false_eq_true]
     refine AWP.skip ?_; simp only [onNormal,onExit]
     (repeat refine AWP.seq ?_); refine AWP.block ?_
     (repeat refine AWP.seq ?_)
     refine AWP.region_last hcall rfl fun K hK => ?_
     simp [t0,t1,t5,hb0']
     apply hK; clear hK K; simp only [onNormal,onExit]
     (repeat refine AWP.seq ?_)
     refine AWP.region_last hcall rfl fun K hK => ?_
     simp [t5]
     apply hK; clear hK K; simp only [onNormal,onExit]
     refine ⟨7,by omega,1,by omega,rfl,by simp [t1],by simp,.inr ⟨by omega,(c' + 2 + 9) :: 0 :: nm,by simp,hH [_],by simp [i8p_succ n 0,show i8p n 0 = [] from rfl,bs],?_⟩⟩
     exact SubL.out (SubL.fresh (hH [_]) (SubL.fresh (hH [_]) SubL.id))
    ·have hne : ∀ j,n0 ≠ j :: 0 :: nm:=fun j e => by subst e; have:=hH [j]; rw [List.singleton_append] at this; rw [this] at hn; cases hn
     have hb1 : k + 1 <= 140737488355328:=by omega
     (repeat refine AWP.seq ?_)
     refine AWP.region_last hcall rfl fun K hK => ?_
     simp [t5]
     apply hK; clear hK K; simp only [onNormal,onExit]
     (repeat refine AWP.seq ?_); refine AWP.cond (b:=true) (by simp) ?_; simp only [if_true,if_false,Bool.false_eq_true]
     refine AWP.skip ?_; simp only [onNormal,onExit]
     (repeat refine AWP.seq ?_); refine AWP.block ?_
     (repeat refine AWP.seq ?_)
     refine AWP.region_last hcall rfl fun K hK => ?_
     simp [t0,t1,t5,hb0',hn,hct,hne,hb1,hoff]
     apply hK; clear hK K; simp only [onNormal,onExit]
     (repeat refine AWP.seq ?_)
     refine AWP.region_last hcall rfl fun K hK => ?_
     simp [t5]
     apply hK; clear hK K; simp only [onNormal,onExit]
     refine ⟨7,by omega,1,by omega,rfl,by simp [t1],by simp,.inr ⟨by omega,(c' + 2 + 9) :: 0 :: nm,by simp,hB0 _,by simp [i8p_succ n 0,show i8p n 0 = [] from rfl,bs],?_⟩⟩
     exact SubL.out (SubL.fresh (hB0 _) (SubL.set (SubL.fresh (hH [_]) SubL.id)))
   ·have hlr : (c ++ bs (i8p n i)).length = k + i:=by rw [List.length_append,bs_length,i8p_length,hcl]
    have hct : (c ++ bs (i8p n i)).take (k + i) = c ++ bs (i8p n i):=List.take_of_length_le (by omega)
    have hb1 : k + i + 1 <= 140737488355328:=by omega
    have hle : k + i <= (c ++ bs (i8p n i)).length:=by omega
    generalize hrow : c ++ bs (i8p n i) = row at *
    (repeat refine AWP.seq ?_)
    refine AWP.region_last hcall rfl fun K hK => ?_
    simp [t5]
    apply hK; clear hK K; simp only [onNormal,onExit]
    (repeat refine AWP.seq ?_); refine AWP.cond (b:=true) (by simp [hi']) ?_; simp only [if_true,if_false,Bool.false_eq_true]
    refine AWP.skip ?_; simp only [onNormal,onExit]
    (repeat refine AWP.seq ?_); refine AWP.block ?_
    refine AWP.known_fresh fun hfr => ?_
    have hqn:=ne_fresh hfr hq2 (c' + 2 + 8) (by omega)
    have hqn' : q ≠ (c' + 2 + 8) :: 0 :: nm:=hqn
    (repeat refine AWP.seq ?_)
    refine AWP.region_last hcall rfl fun K hK => ?_
    simp [t0,t1,t5,hw8,hwi,hzz,hbw,hq2,hct,hb1,hle,hqn,hqn']
    apply hK; clear hK K; simp only [onNormal,onExit]
    (repeat refine AWP.seq ?_)
    refine AWP.region_last hcall rfl fun K hK => ?_
    simp [t5,hw2]
    apply hK; clear hK K; simp only [onNormal,onExit]
    refine ⟨8 - (i + 1),by omega,i + 1,by omega,rfl,by simp [t1],by simp,.inr ⟨by omega,(c' + 2 + 9) :: 0 :: nm,by simp [Nat.add_assoc],hB0 _,by simp [<- hrs,<- hrow],?_⟩⟩
    exact SubL.out (SubL.fresh (hB0 _) (SubL.fresh hq1 (SubL.fresh (hB0 _) fun a r _ ha => hsub a r ha)))
  ·obtain rfl : i = 8:=by omega
   rcases hcase with ⟨h,_⟩ | ⟨hi0,q,t0,hq1,hq2,hsub⟩
   ·omega
   ·(repeat refine AWP.seq ?_)
    refine AWP.region_last hcall rfl fun K hK => ?_
    simp [t5]
    apply hK; clear hK K; simp only [onNormal,onExit]
    (repeat refine AWP.seq ?_); refine AWP.cond (b:=false) (by simp) ?_; simp only [if_true,if_false,Bool.false_eq_true]
    refine AWP.exit ?_; simp only [onNormal,onExit,if_true,reduceCtorEq,if_false]
    (repeat refine AWP.seq ?_)
    refine AWP.region_last hcall rfl fun K hK => ?_
    simp [t0]
    apply hK; clear hK K; simp only [onNormal,onExit]
    (try refine AWP.ret ?_); (try simp only [onNormal,onExit]); refine ⟨by simp,_,rfl,?_,?_,fun k row hk => ?_⟩
    ·exact hq1
    ·exact hq2
    ·exact hsub k row hk
 ·cases h
end Go.Proofs.YtbllpnjappddeaaGreat.Den
end
section
set_option linter.unusedSimpArgs false
set_option linter.unusedVariables false
set_option maxRecDepth 100000
namespace Go.Proofs.YtbllpnjappddeaaGreat.Den
open Go.RowKit
variable {P : Program} {ρ : Vals} {ν : Nat -> Option Name}
def onum1 (k : Nat) (args : List SV) (h : Mem) : SRes :=
 match args with
 | [.ptr q 0] =>
  match h.get q with
  | some [d,.int .i64 (.lit (.ofNat a)),.int .i64 (.lit (.ofNat 0))] =>
   match partS h 1 d with
   | some (len,cells) =>
    match litTake len cells with
    | some (ns,_) =>
     bif Nat.ble (Nat.add a k) len && Nat.ble len 1152921504606846976 then
      forceI (IntKind.i64.wrap (Int.ofNat (leN ((ns.drop a).take k)))) fun z => forceN (Nat.add a k) fun m => some (.int .i64 (.lit z),h.set q [d,.int .i64 (.lit (.ofNat m)),.int .i64 (.lit (.ofNat 0))])
     else none
    | none => none
   | none => none
  | _ => none
 | _ => none
theorem onum1_ok {k : Nat} {args : List SV} {h h' : Mem} {r : SV} (hr : onum1 k args h = some (r,h')) (ν : Nat -> Option Name) (H : AHeap) (nm : Name) (xs : List AV) (hm : MRel ρ ν h H) (hfre : Fre ν nm) (hx : SRels ρ ν args xs) :
  ∃ z H',num1S k xs nm H = some (z,H') /\ Out ρ ν nm r h' z H':=by
 unfold onum1 at hr
 split at hr
 ·rename_i q
  split at hr
  ·rename_i d a hg
   split at hr
   ·rename_i len cells hs
    split at hr
    ·rename_i ns rest ht
     cases hc : (Nat.ble (Nat.add a k) len && Nat.ble len 1152921504606846976) with
     | false => rw [hc] at hr; cases hr
     | true =>
      rw [hc] at hr
      simp only [cond_true,forceN_eq,forceI_eq,Option.some.injEq,Prod.mk.injEq] at hr
      obtain ⟨rfl,rfl⟩:=hr
      simp only [Bool.and_eq_true] at hc
      have c1 : a + k <= len:=Nat.le_of_ble_eq_true hc.1
      have c2:=Nat.le_of_ble_eq_true hc.2
      cases hx with
      | cons hq t =>
       cases t
       cases hq with
       | @ptr _ _ m hν =>
        obtain ⟨m',row',hν',hH,hrow⟩:=hm.rows _ _ hg
        rw [hν] at hν'; cases hν'
        cases hrow with
        | @cons _ d' _ _ h1 t =>
         cases t with
         | cons h2 t =>
          cases t with
          | cons h3 t =>
           cases t
           cases h2
           cases h3
           obtain ⟨ys,g1,g2,g3⟩:=partS_rel hm.rows h1 hs
           obtain ⟨e1,e2,e3,e4,e5⟩:=litTake_rel ht g2
           have hyl:=part_length g1
           have hys : ys = bs (u8s ns):=by rw [<- e1,List.take_of_length_le (by omega)]
           subst hys
           refine ⟨vi (IntKind.i64.wrap (Int.ofNat (leN ((ns.drop a).take k)))),upd H m (some [d',vi ((a : Int) + k),vi 0]),?_,.same (hm.set hν (row:=[d,.int .i64 (.lit (.ofNat (a + k))),.int .i64 (.lit (.ofNat 0))]) (row':=[d',vi ((a : Int) + k),vi 0]) ?_) ?_⟩
           rotate_left
           ·refine .cons h1 (.cons ?_ (.cons (.int .i64 (.lit (.ofNat 0))) .nil))
            have:=SRel.int (ρ:=ρ) (ν:=ν) .i64 (.lit (.ofNat (a + k)))
            exact this
           ·exact .int .i64 (.lit _)
           ·simp only [num1S,hH,IE.den,g1,bytesA_bs]
            have hle : le (((u8s ns).drop a).take k) = leN ((ns.drop a).take k):=by
             rw [<- leN_eq (l:=(ns.drop a).take k) fun x hx => e4 x (List.mem_of_mem_drop (List.mem_of_mem_take hx))]
             simp [u8s]
            rw [if_pos ⟨by simp,by simp; omega,c2⟩,if_neg (by rintro (h | h); exact h rfl; simp at h; omega)]
            simp only [Int.ofNat_eq_natCast,Int.toNat_natCast,hle]
    ·cases hr
   ·cases hr
  ·cases hr
 ·cases hr
theorem oint1_ok {args : List SV} {h h' : Mem} {r : SV} (hr : onum1 8 args h = some (r,h')) : isGo Tryz.prog 213 = true /\ ∀ (ν : Nat -> Option Name) (H : AHeap) (nm : Name) (xs : List AV),MRel ρ ν h H -> Fre ν nm -> SRels ρ ν args xs ->
  ∃ z H',Sim Tryz.prog 213 xs nm H z H' /\ Out ρ ν nm r h' z H' :=
 ovr_fn int1_ok (g:=onum1 8) (fun args h r h' hr ν H nm xs hm hf hx => onum1_ok hr ν H nm xs hm hf hx) hr
theorem obyte1_ok {args : List SV} {h h' : Mem} {r : SV} (hr : onum1 1 args h = some (r,h')) : isGo Tryz.prog 215 = true /\ ∀ (ν : Nat -> Option Name) (H : AHeap) (nm : Name) (xs : List AV),MRel ρ ν h H -> Fre ν nm -> SRels ρ ν args xs ->
  ∃ z H',Sim Tryz.prog 215 xs nm H z H' /\ Out ρ ν nm r h' z H' :=
 ovr_fn byte1_ok (g:=onum1 1) (fun args h r h' hr ν H nm xs hm hf hx => onum1_ok hr ν H nm xs hm hf hx) hr
end Go.Proofs.YtbllpnjappddeaaGreat.Den
end
section
set_option linter.unusedSimpArgs false
set_option linter.unusedVariables false
set_option maxRecDepth 100000
namespace Go.Proofs.YtbllpnjappddeaaGreat.Den
open Go.RowKit
variable {P : Program} {ρ : Vals} {ν : Nat -> Option Name}
def putO (x : SV) (ns : List Nat) (h : Mem) : SRes :=
 match x with
 | .val (.slice none 0 0) => bif Nat.ble ns.length 140737488355328 then forceN ns.length fun m => forceB ns fun b => some (.sl h.next 0 m 1,h.push b) else none
 | .sl q off len 1 => (h.get q).bind fun row => (sseg off len row).bind fun c =>
  bif Nat.ble (Nat.add len ns.length) 140737488355328 then forceN (Nat.add len ns.length) fun m => forceB ns fun b => some (.sl h.next 0 m 1,(h.drop q).push (c ++ b)) else none
 | _ => none
theorem putO_ok {x : SV} {y : AV} {ns : List Nat} {h h' : Mem} {r : SV} {nm : Name} {H : AHeap} (hns : ∀ x ∈ ns,x < 256) (hr : putO x ns h = some (r,h')) (hm : MRel ρ ν h H) (hfre : Fre ν nm) (hx : SRel ρ ν x y) :
  ∃ z H',putS y (u8s ns) nm H = some (z,H') /\ Out ρ ν nm r h' z H':=by
 have hul : (u8s ns).length = ns.length:=by simp [u8s]
 unfold putO at hr
 split at hr
 ·cases hc : Nat.ble ns.length 140737488355328 with
  | false => rw [hc] at hr; cases hr
  | true =>
   rw [hc] at hr
   simp only [cond_true,forceN_eq,forceB_eq,Option.some.injEq,Prod.mk.injEq] at hr
   obtain ⟨rfl,rfl⟩:=hr
   cases hx
   refine ⟨.sl nm 0 ns.length 1,_,?_,.push hm hfre (row':=bs (u8s ns)) (bs_u8s hns) fun ν' hn => .sl hn⟩
   simp only [putS]
   rw [if_pos (by rw [hul]; exact Nat.le_of_ble_eq_true hc),hul]
 ·rename_i q off len
  simp only [Option.bind_eq_some_iff] at hr
  obtain ⟨row,h1,c,h2,hr⟩:=hr
  cases hc : Nat.ble (Nat.add len ns.length) 140737488355328 with
  | false => rw [hc] at hr; cases hr
  | true =>
   rw [hc] at hr
   simp only [cond_true,forceN_eq,forceB_eq,Option.some.injEq,Prod.mk.injEq] at hr
   obtain ⟨rfl,rfl⟩:=hr
   cases hx with
   | @sl _ _ _ _ m hν =>
    obtain ⟨m',row',hν',hH,hrow⟩:=hm.rows _ _ h1
    rw [hν] at hν'; cases hν'
    obtain ⟨g1,g2⟩:=hrow.seg h2
    refine ⟨.sl nm 0 (len + ns.length) 1,_,?_,.push (h:=h.drop q) (hm.drop hν) hfre (row':=(row'.drop off).take len ++ bs (u8s ns)) (g1.append (bs_u8s hns)) fun ν' hn => .sl hn⟩
    simp only [putS,hH]
    rw [if_pos ⟨g2,by rw [hul]; exact Nat.le_of_ble_eq_true hc⟩,hul]
 ·cases hr
def obyteP (args : List SV) (h : Mem) : SRes :=
 match args with
 | [x,.int .i64 (.lit n)] => putO x [(Int.emod n 256).toNat] h
 | _ => none
def ointP (args : List SV) (h : Mem) : SRes :=
 match args with
 | [x,.int .i64 (.lit n)] => putO x (i8N (ulow n)) h
 | _ => none
theorem obyteP_ok {args : List SV} {h h' : Mem} {r : SV} (hr : obyteP args h = some (r,h')) : isGo Tryz.prog 326 = true /\ ∀ (ν : Nat -> Option Name) (H : AHeap) (nm : Name) (xs : List AV),MRel ρ ν h H -> Fre ν nm -> SRels ρ ν args xs ->
  ∃ z H',Sim Tryz.prog 326 xs nm H z H' /\ Out ρ ν nm r h' z H':=by
 refine ovr_fn byteP_ok (g:=obyteP) (fun args h r h' hr ν H nm xs hm hf hx => ?_) hr
 unfold obyteP at hr
 split at hr
 ·rename_i x n
  cases hx with
  | cons hx t =>
   cases t with
   | cons hn t =>
    cases t
    cases hn
    exact putO_ok (ns:=[(Int.emod n 256).toNat]) (fun x hx => by
     simp only [List.mem_singleton] at hx
     subst hx
     have : Int.emod n 256 = n % 256:=rfl
     omega) hr hm hf hx
 ·cases hr
theorem ointP_ok {args : List SV} {h h' : Mem} {r : SV} (hr : ointP args h = some (r,h')) : isGo Tryz.prog 325 = true /\ ∀ (ν : Nat -> Option Name) (H : AHeap) (nm : Name) (xs : List AV),MRel ρ ν h H -> Fre ν nm -> SRels ρ ν args xs ->
  ∃ z H',Sim Tryz.prog 325 xs nm H z H' /\ Out ρ ν nm r h' z H':=by
 refine ovr_fn intP_ok (g:=ointP) (fun args h r h' hr ν H nm xs hm hf hx => ?_) hr
 unfold ointP at hr
 split at hr
 ·rename_i x n
  cases hx with
  | cons hx t =>
   cases t with
   | cons hn t =>
    cases t
    cases hn
    have:=putO_ok (ns:=i8N (ulow n)) (i8N_eq n).2 hr hm hf hx
    rw [(i8N_eq n).1] at this
    exact this
 ·cases hr
end Go.Proofs.YtbllpnjappddeaaGreat.Den
end
section
set_option linter.unusedSimpArgs false
set_option linter.unusedVariables false
set_option maxRecDepth 100000
namespace Go.Proofs.YtbllpnjappddeaaGreat.Den
open Go.RowKit
variable {P : Program} {ρ : Vals} {ν : Nat -> Option Name}
def otext1 (args : List SV) (h : Mem) : SRes :=
 match args with
 | [.ptr q 0] =>
  match h.get q with
  | some [d,.int .i64 (.lit (.ofNat a)),.int .i64 (.lit (.ofNat 0))] =>
   match partS h 1 d with
   | some (len,cells) =>
    match litTake len cells with
    | some (ns,_) =>
     match ns.drop a with
     | u :: v :: r =>
      match sbytes ((r.take (Nat.add u (Nat.mul 256 v))).map lB) with
      | some s =>
       bif Nat.blt 0 (Nat.add u (Nat.mul 256 v)) && Nat.ble (Nat.add u (Nat.mul 256 v)) r.length && Nat.ble len 1152921504606846976 then
        forceN (Nat.add a (Nat.add 2 (Nat.add u (Nat.mul 256 v)))) fun m => some (.str s,h.set q [d,.int .i64 (.lit (.ofNat m)),.int .i64 (.lit (.ofNat 0))])
       else none
      | none => none
     | _ => none
    | none => none
   | none => none
  | _ => none
 | _ => none
theorem otext1_ok {args : List SV} {h h' : Mem} {r : SV} (hr : otext1 args h = some (r,h')) : isGo Tryz.prog 220 = true /\ ∀ (ν : Nat -> Option Name) (H : AHeap) (nm : Name) (xs : List AV),MRel ρ ν h H -> Fre ν nm -> SRels ρ ν args xs ->
  ∃ z H',Sim Tryz.prog 220 xs nm H z H' /\ Out ρ ν nm r h' z H':=by
 refine ovr_fn text1_ok (g:=otext1) (fun args h r h' hr ν H nm xs hm hf hx => ?_) hr
 unfold otext1 at hr
 split at hr
 ·rename_i q
  split at hr
  ·rename_i d a hg
   split at hr
   ·rename_i len cells hs
    split at hr
    ·rename_i ns rest ht
     split at hr
     ·rename_i u v rr hd
      split at hr
      ·rename_i s hsb
       cases hc : (Nat.blt 0 (Nat.add u (Nat.mul 256 v)) && Nat.ble (Nat.add u (Nat.mul 256 v)) rr.length && Nat.ble len 1152921504606846976) with
       | false => rw [hc] at hr; cases hr
       | true =>
        rw [hc] at hr
        simp only [cond_true,forceN_eq,Option.some.injEq,Prod.mk.injEq] at hr
        obtain ⟨rfl,rfl⟩:=hr
        simp only [Bool.and_eq_true] at hc
        have c1 : 0 < u + 256 * v:=blt_lt hc.1.1
        have c2 : u + 256 * v <= rr.length:=Nat.le_of_ble_eq_true hc.1.2
        have c3:=Nat.le_of_ble_eq_true hc.2
        cases hx with
        | cons hq t =>
         cases t
         cases hq with
         | @ptr _ _ m hν =>
          obtain ⟨m',row',hν',hH,hrow⟩:=hm.rows _ _ hg
          rw [hν] at hν'; cases hν'
          cases hrow with
          | @cons _ d' _ _ h1 t =>
           cases t with
           | cons h2 t =>
            cases t with
            | cons h3 t =>
             cases t
             cases h2
             cases h3
             obtain ⟨ys,g1,g2,g3⟩:=partS_rel hm.rows h1 hs
             obtain ⟨e1,e2,e3,e4,e5⟩:=litTake_rel ht g2
             have hyl:=part_length g1
             have hys : ys = bs (u8s ns):=by rw [<- e1,List.take_of_length_le (by omega)]
             subst hys
             have hmem : ∀ x ∈ u :: v :: rr,x < 256:=fun x hx => e4 x (List.mem_of_mem_drop (by rw [hd]; exact hx))
             have hu:=hmem u (by simp)
             have hv:=hmem v (by simp)
             have hrel:=bs_u8s (ρ:=ρ) (ν:=ν) (l:=rr.take (u + 256 * v)) fun x hx => hmem x (by simp [List.mem_of_mem_take hx])
             obtain ⟨bb,b1,b2⟩:=sbytes_ok hrel hsb
             rw [bytesA_bs] at b1
             cases b1
             have hlen : a + (2 + rr.length) = len:=by
              have:=congrArg List.length hd
              simp only [List.length_drop,List.length_cons] at this
              omega
             have ea : (UInt8.ofNat u).toNat = u:=by simp; omega
             have eb : (UInt8.ofNat v).toNat = v:=by simp; omega
             have hdu : (u8s ns).drop a = UInt8.ofNat u :: UInt8.ofNat v :: u8s rr:=by
              simp only [u8s,<- List.map_drop,hd,List.map_cons]
             have hrl : (u8s rr).length = rr.length:=by simp [u8s]
             have htk : (u8s rr).take (u + 256 * v) = u8s (rr.take (u + 256 * v)):=by simp [u8s]
             refine ⟨.val (.string (strOf ρ s)),upd H m (some [d',vi ((a : Int) + (2 + (u + 256 * v) : Nat)),vi 0]),?_,.same (hm.set hν (row:=[d,.int .i64 (.lit (.ofNat (a + (2 + (u + 256 * v))))),.int .i64 (.lit (.ofNat 0))]) (row':=[d',vi ((a : Int) + (2 + (u + 256 * v) : Nat)),vi 0]) ?_) (.str s)⟩
             ·simp only [text1S,hH,IE.den,g1,bytesA_bs,Int.ofNat_eq_natCast,Int.toNat_natCast,hdu,ea,eb]
              rw [if_pos ⟨by omega,by omega,c3,rfl⟩]
              rw [if_pos ⟨c1,by rw [hrl]; exact c2⟩,htk,<- b2]
              rfl
             ·refine .cons h1 (.cons ?_ (.cons (.int .i64 (.lit (.ofNat 0))) .nil))
              have:=SRel.int (ρ:=ρ) (ν:=ν) .i64 (.lit (.ofNat (a + (2 + (u + 256 * v)))))
              exact this
      ·cases hr
     ·cases hr
    ·cases hr
   ·cases hr
  ·cases hr
 ·cases hr
end Go.Proofs.YtbllpnjappddeaaGreat.Den
end
section
set_option linter.unusedSimpArgs false
set_option maxRecDepth 1000000
namespace Go.Proofs.YtbllpnjappddeaaGreat.Den
def ovrU (f : FuncId) : Option (List SV -> Mem -> SRes) :=
 bif Nat.beq f 215 then some (onum1 1) else
 bif Nat.beq f 213 then some (onum1 8) else
 bif Nat.beq f 326 then some (obyteP) else
 bif Nat.beq f 325 then some (ointP) else
 bif Nat.beq f 220 then some (otext1) else
 ovrT f
theorem ovrU_ok (ρ : Vals) : OvrOK Tryz.prog ρ ovrU:=by
 intro f g hg args h r h' hr
 unfold ovrU at hg
 cases e : Nat.beq f 215 with
 | true =>
  rw [e] at hg
  simp only [cond_true,Option.some.injEq] at hg
  subst hg
  rw [Nat.eq_of_beq_eq_true e]
  exact obyte1_ok hr
 | false =>
  rw [e] at hg
  simp only [cond_false] at hg
  clear e
  cases e : Nat.beq f 213 with
  | true =>
   rw [e] at hg
   simp only [cond_true,Option.some.injEq] at hg
   subst hg
   rw [Nat.eq_of_beq_eq_true e]
   exact oint1_ok hr
  | false =>
   rw [e] at hg
   simp only [cond_false] at hg
   clear e
   cases e : Nat.beq f 326 with
   | true =>
    rw [e] at hg
    simp only [cond_true,Option.some.injEq] at hg
    subst hg
    rw [Nat.eq_of_beq_eq_true e]
    exact obyteP_ok hr
   | false =>
    rw [e] at hg
    simp only [cond_false] at hg
    clear e
    cases e : Nat.beq f 325 with
    | true =>
     rw [e] at hg
     simp only [cond_true,Option.some.injEq] at hg
     subst hg
     rw [Nat.eq_of_beq_eq_true e]
     exact ointP_ok hr
    | false =>
     rw [e] at hg
     simp only [cond_false] at hg
     clear e
     cases e : Nat.beq f 220 with
     | true =>
      rw [e] at hg
      simp only [cond_true,Option.some.injEq] at hg
      subst hg
      rw [Nat.eq_of_beq_eq_true e]
      exact otext1_ok hr
     | false =>
      rw [e] at hg
      simp only [cond_false] at hg
      clear e
      exact ovrT_ok ρ f g hg args h r h' hr
end Go.Proofs.YtbllpnjappddeaaGreat.Den
end
section
set_option linter.unusedSimpArgs false
set_option linter.unusedVariables false
set_option maxRecDepth 100000
namespace Go.Proofs.YtbllpnjappddeaaGreat
open Go.RowKit Go.Lib
theorem run_clear_cells {P : Program} (w : World) (t e ty : TypeId) (z : Value) (ht : P.underlying t = some (.slice e)) (hv : ∀ w,(zeroValue e).run P w = .ok z w) (b o n c : Nat) (hn : 0 < n) (zs : List Value) (hzs : (Builtin.zeroCells z.cells n).toList = zs) (h1 : ∀ v ∈ zs,v.oneCell' = true)
  (hc : ∀ j,j < zs.length -> (w.cell? ⟨b,o + j,none⟩).isSome = true) (hf : ∀ j,j < zs.length -> w.frozen? ⟨b,o + j,none⟩ = false) :
  (Builtin.clear_ #[t] ty #[.slice (some ⟨b,o,none⟩) n c]).run P w = .ok (.tuple #[]) (w.setCells b o zs):=by
 have hst:=run_storeCells_cells (P:=P) b o zs 0 w (by simpa using hc) (by simpa using hf) h1
 simp only [Nat.add_zero] at hst
 obtain ⟨m,rfl⟩ : ∃ m,n = m + 1:=⟨n - 1,by omega⟩
 simp [Builtin.clear_,run_underlying ht,hv,hzs,hst]
theorem zeroCells_length (c : Array Value) (n : Nat) : (Builtin.zeroCells c n).toList.length = n * c.size:=by
 simp [Builtin.zeroCells]
theorem zeroCells_one {c : Array Value} (h : c.toList.all Value.oneCell' = true) (n : Nat) : ∀ v ∈ (Builtin.zeroCells c n).toList,v.oneCell' = true:=by
 intro v hv
 by_cases h0 : c.size = 0
 ·simp [Builtin.zeroCells,h0] at hv
 ·simp only [Builtin.zeroCells,Array.toList_map,List.mem_map] at hv
  obtain ⟨i,_,rfl⟩:=hv
  have hi : i % c.size < c.size:=Nat.mod_lt _ (by omega)
  rw [getElem!_pos c _ hi]
  exact List.all_eq_true.1 h _ (by simp)
namespace Den
theorem setMany_mid {row xs : List AV} {off : Nat} (h : off + xs.length <= row.length) : setMany row off xs = row.take off ++ (xs ++ row.drop (off + xs.length)):=by
 have e : row = row.take off ++ ((row.drop off).take xs.length ++ row.drop (off + xs.length)):=by
  rw [<- List.drop_drop,List.take_append_drop,List.take_append_drop]
 have hl : (row.take off).length = off:=by rw [List.length_take]; omega
 conv => lhs; rw [e]
 have:=setMany_at xs (row.take off) ((row.drop off).take xs.length ++ row.drop (off + xs.length))
 rw [hl] at this
 rw [this,setMany_all _ _ _ (by rw [List.length_take,List.length_drop]; omega)]
theorem del_row {row xs zs : List AV} {off a : Nat} (h : off + a + xs.length + zs.length <= row.length) : ((setMany (setMany row (off + a) xs) (off + a + xs.length) zs).drop off).take (a + xs.length) = (row.drop off).take a ++ xs:=by
 have hA : (row.take (off + a)).length = off + a:=by rw [List.length_take]; omega
 have h1:=setMany_mid (row:=row) (xs:=xs) (off:=off + a) (by omega)
 have h1l : (setMany row (off + a) xs).length = row.length:=setMany_length _ _ _
 have h2:=setMany_mid (row:=setMany row (off + a) xs) (xs:=zs) (off:=off + a + xs.length) (by omega)
 have h3 : (setMany row (off + a) xs).take (off + a + xs.length) = row.take (off + a) ++ xs:=by
  rw [h1,<- List.append_assoc]
  exact List.take_left' (by rw [List.length_append,hA])
 rw [h2,h3,List.append_assoc,List.drop_append_of_le_length (by omega),<- List.append_assoc]
 rw [List.take_left' (by rw [List.length_append,List.length_drop,hA]; omega),List.drop_take,Nat.add_sub_cancel_left]
def deleteS (sz : Nat) : Spec:=fun args nm H =>
 match args with
 | [.sl n off len s,.val (.int .i64 (.ofNat i)),.val (.int .i64 (.ofNat j))] =>
  match H n with
  | some row =>
   if s = sz /\ i < j /\ j <= len /\ off + len * sz <= row.length /\ ((row.drop off).take (len * sz)).all AV.one = true then
    some (.sl nm 0 (len - (j - i)) sz,upd (upd H n none) nm (some (((row.drop off).take (len * sz)).take (i * sz) ++ ((row.drop off).take (len * sz)).drop (j * sz))))
   else none
  | none => none
 | _ => none
theorem delete_fn {P : Program} {f : FuncId} {sz : Nat} (hgo : isGo P f = true)
  (h : ∀ (blk off n cap i j : Nat) (cs : List Value) (w : World),i < j -> j <= n -> n <= cap -> cs.length = n * sz -> (∀ t v,cs[t]? = some v -> w.cell? ⟨blk,off + t,none⟩ = some v) -> (∀ t,t < n * sz -> w.frozen? ⟨blk,off + t,none⟩ = false) -> (∀ v ∈ cs,v.oneCell' = true) ->
   Calls P f #[.slice (some ⟨blk,off,none⟩) n cap,.int .i64 i,.int .i64 j] w fun e w' => e = .returned (.slice (some ⟨blk,off,none⟩) (n - (j - i)) cap) /\
    ∃ zs : List Value,zs.length = (j - i) * sz /\ w' = (w.drew.setCells blk (off + i * sz) (cs.drop (j * sz))).setCells blk (off + (i + (n - j)) * sz) zs) :
  FnOK P f (deleteS sz):=by
 refine ⟨hgo,fun args nm H r H' hs => ?_⟩
 unfold deleteS at hs
 split at hs
 ·rename_i a off len s i j
  split at hs
  ·rename_i row hrow
   split at hs
   ·rename_i hc
    cases hs
    obtain ⟨rfl,hij,hjl,hle,hone⟩:=hc
    intro σ I w vs hfr hv har
    have hσn : σ nm = none:=hfr []
    generalize hL : vs.toList = L at hv
    cases hv with
    | cons hv1 ht =>
     cases ht with
     | cons hv2 ht =>
      cases ht with
      | cons hv3 ht =>
       cases ht
       cases hv2
       cases hv3
       cases hv1 with
       | @sl _ _ _ _ cap p hp hl hcap =>
        have hvs : vs = #[.slice (some ⟨p.b,p.o + off,none⟩) len cap,.int .i64 (i : Nat),.int .i64 (j : Nat)]:=Array.ext' hL
        rw [hvs]
        obtain ⟨q,C,el,fr,q1,q2,q3,q4,q5⟩:=har.rows a row hrow
        rw [hp] at q1; cases q1
        have l1:=q5.length
        rw [seg_length] at l1
        have hCs : p.o + row.length <= C.size:=by
         rcases Nat.le_total row.length (C.size - p.o) with h | h
         ·by_cases h0 : row.length = 0
          ·have : len * s = 0:=by omega
           have hcs0 : 0 < len:=by omega
           have : s = 0:=by
            rcases Nat.mul_eq_zero.1 this with h | h
            ·omega
            ·exact h
           subst this
           rw [q3] at hcap
           omega
          ·omega
         ·omega
        have hcs : VRels σ I ((row.drop off).take (len * s)) (seg C (p.o + off) (len * s)):=by
         have:=(q5.drop off).take (len * s)
         rwa [show ((seg C p.o row.length).drop off).take (len * s) = seg C (p.o + off) (len * s) by
          simp only [seg,List.drop_take,List.drop_drop,List.take_take]
          congr 1
          omega] at this
        have hcl : ((row.drop off).take (len * s)).length = len * s:=by simp; omega
        have hcl' : (seg C (p.o + off) (len * s)).length = len * s:=by rw [<- hcs.length,hcl]
        have hjs : j * s <= len * s:=Nat.mul_le_mul_right _ hjl
        have his : i * s <= j * s:=Nat.mul_le_mul_right _ (by omega)
        have hmul1 : (j - i) * s = j * s - i * s:=Nat.sub_mul _ _ _
        have hmul2 : (i + (len - j)) * s = i * s + (len * s - j * s):=by rw [Nat.add_mul,Nat.sub_mul]
        refine (h p.b (p.o + off) len cap i j (seg C (p.o + off) (len * s)) w hij hjl hl hcl' (fun t v ht => ?_) (fun t _ => frozen_of_heap q2 q4 _) (all_oneV hcs hone)).mono ?_
        ·have htl:=(List.getElem?_eq_some_iff.1 ht).1
         rw [seg_get _ _ _ _ (by omega)] at ht
         rw [cell_of_heap q2]; exact ht
        rintro e w' ⟨rfl,zs,hzl,rfl⟩
        have hxs : VRels σ I (((row.drop off).take (len * s)).drop (j * s)) ((seg C (p.o + off) (len * s)).drop (j * s)):=hcs.drop _
        have hxl : (((row.drop off).take (len * s)).drop (j * s)).length = len * s - j * s:=by rw [List.length_drop,hcl]
        have hs0 : Step (Under nm) σ I H w σ I H w.drew:=Step.drawn har rfl rfl rfl rfl
        have s2:=Step.setCells (nm:=Under nm) hp _ _ H w.drew row (off + i * s) hs0.rel hrow hxs (by rw [hxl]; omega)
        have s3:=Step.setCells (nm:=Under nm) hp (zs.map .val) zs _ _ _ (off + i * s + (((row.drop off).take (len * s)).drop (j * s)).length) s2.rel (upd_same _ _ _) (VRels.vals zs) (by rw [setMany_length,List.length_map,hxl,hzl]; omega)
        have hdr:=del_row (row:=row) (xs:=((row.drop off).take (len * s)).drop (j * s)) (zs:=zs.map AV.val) (off:=off) (a:=i * s) (by rw [List.length_map,hxl,hzl]; omega)
        have htk : ((row.drop off).take (len * s)).take (i * s) = (row.drop off).take (i * s):=by rw [List.take_take,Nat.min_eq_left (by omega)]
        rw [htk,<- hdr]
        have s4:=Step.rename (nm:=Under nm) (m:=nm) (row':=((setMany (setMany row (off + i * s) (((row.drop off).take (len * s)).drop (j * s))) (off + i * s + (((row.drop off).take (len * s)).drop (j * s)).length) (zs.map AV.val)).drop off).take (i * s + (((row.drop off).take (len * s)).drop (j * s)).length)) (o:=p.o + off) s3.rel (upd_same _ _ _) hp hσn ⟨[],rfl⟩ (fun C2 el2 fr2 hb2 => by
         obtain ⟨p5,C5,el5,fr5,z1,z2,z3,z4,z5⟩:=s3.rel.rows a _ (upd_same _ _ _)
         rw [hp] at z1; cases z1
         rw [hb2] at z2; cases z2
         have:=(z5.drop off).take (i * s + (((row.drop off).take (len * s)).drop (j * s)).length)
         rw [setMany_length,setMany_length] at this
         have e : (seg C2 p.o row.length).drop off = seg C2 (p.o + off) (row.length - off):=by
          simp only [seg,List.drop_take,List.drop_drop]
         rw [e] at this
         have e2 : ∀ k,k <= row.length - off -> (seg C2 (p.o + off) (row.length - off)).take k = seg C2 (p.o + off) k:=fun k hk => by
          simp only [seg,List.take_take]; congr 1; omega
         rw [e2 _ (by rw [hxl]; omega)] at this
         have e3 : ∀ l : List AV,i * s + (((row.drop off).take (len * s)).drop (j * s)).length <= l.length -> (l.take (i * s + (((row.drop off).take (len * s)).drop (j * s)).length)).length = i * s + (((row.drop off).take (len * s)).drop (j * s)).length:=fun l hl => by rw [List.length_take,Nat.min_eq_left hl]
         rw [e3 _ (by simp only [List.length_drop,setMany_length,hcl]; omega)]
         exact this)
        have st:=((hs0.trans s2).trans s3).trans s4
        have hH : ∀ x y z,upd (upd (upd (upd H a x) a y) a none) nm z = upd (upd H a none) nm z:=fun x y z => by
         funext k
         by_cases hk : k = nm
         ·subst hk; rw [upd_same,upd_same]
         ·rw [upd_ne _ _ hk,upd_ne _ _ hk]
          by_cases hka : k = a
          ·subst hka; rw [upd_same,upd_same]
          ·rw [upd_ne _ _ hka,upd_ne _ _ hka,upd_ne _ _ hka,upd_ne _ _ hka]
        rw [hH] at st
        have hw : ∀ (W : World) (us : List Value),W.setCells p.b (p.o + off + (i + (len - j)) * s) us = W.setCells p.b (p.o + (off + i * s + (((row.drop off).take (len * s)).drop (j * s)).length)) us:=fun W us => by
         rw [hxl,hmul2]; congr 1; omega
        rw [hw,show p.o + off + i * s = p.o + (off + i * s) by omega]
        refine ⟨_,_,_,rfl,st,?_⟩
        exact .sl (p:=⟨p.b,p.o + off,p.tot⟩) (upd_same _ _ _) (by omega) (by show p.o + off + 0 + cap * s <= p.tot; omega)
   ·cases hs
  ·cases hs
 ·cases hs
end Den
end Go.Proofs.YtbllpnjappddeaaGreat
end
section
set_option linter.unusedSimpArgs false
set_option linter.unusedVariables false
namespace Go.Proofs.YtbllpnjappddeaaGreat
open Go.RowKit Go.Lib
set_option maxHeartbeats 4000000 in
set_option maxRecDepth 1000000 in
theorem delete_parcel (blk off n cap i j : Nat) (cs : List Value) (w : World) (hlt : i < j) (hj : j <= n) (hcap : n <= cap) (hcl : cs.length = n * 2) (hcs : ∀ t v,cs[t]? = some v -> w.cell? ⟨blk,off + t,none⟩ = some v) (hfz : ∀ t,t < n * 2 -> w.frozen? ⟨blk,off + t,none⟩ = false) (h1c : ∀ v ∈ cs,v.oneCell' = true) :
  Calls Tryz.prog 102 #[.slice (some ⟨blk,off,none⟩) n cap,.int .i64 i,.int .i64 j] w fun e w' => e = .returned (.slice (some ⟨blk,off,none⟩) (n - (j - i)) cap) /\
   ∃ zs : List Value,zs.length = (j - i) * 2 /\ w' = (w.drew.setCells blk (off + i * 2) (cs.drop (j * 2))).setCells blk (off + (i + (n - j)) * 2) zs:=by
 have mixed : Tryz.prog.follows .mixedOrders = true:=rfl
 obtain ⟨i0,z,hi0,hz0,hz1,hzs,hz2⟩ : ∃ i0 z,Tryz.prog.info? 206 = some i0 /\ i0.zero = some z /\ i0.size = 2 /\ z.cells.size = 2 /\ z.cells.toList.all Value.oneCell' = true:=⟨_,_,rfl,rfl,rfl,rfl,rfl⟩
 have hzv : ∀ w,(zeroValue 206).run Tryz.prog w = .ok z w:=fun w => by
  simp [Go.zeroValue,typeInfo,hi0,hz0]
 obtain ⟨zs,hzs'⟩ : ∃ zs,(Builtin.zeroCells z.cells (n - (i + (n - j)))).toList = zs:=⟨_,rfl⟩
 have hzl : zs.length = (j - i) * 2:=by
  rw [<- hzs',zeroCells_length,hzs,show n - (i + (n - j)) = j - i by omega]
 have hzo : ∀ v ∈ zs,v.oneCell' = true:=by rw [<- hzs']; exact zeroCells_one hz2 _
 obtain ⟨news,hnews⟩ : ∃ news,news = cs.drop (j * 2):=⟨_,rfl⟩
 have hlen : news.length = (n - j) * 2:=by rw [hnews,List.length_drop,hcl]; omega
 obtain ⟨A,hA,hsrc⟩ : ∃ A : Addr,(if cap = j then some (⟨blk,off,none⟩ : Addr) else some ⟨blk,off + j * 2,none⟩) = some A /\ Hid (∀ t u,news[t]? = some u -> w.drew.cell? (A.add t) = some u):=by
  by_cases h : cap = j
  ·refine ⟨⟨blk,off,none⟩,by simp [h],fun t u hu => ?_⟩
   have h0 : news.length = 0:=by rw [hlen]; omega
   rw [List.length_eq_zero_iff.1 h0] at hu
   simp at hu
  ·refine ⟨⟨blk,off + j * 2,none⟩,by simp [h],fun t u hu => ?_⟩
   rw [hnews,List.getElem?_drop] at hu
   rw [Addr.add_lit,Nat.add_assoc]
   exact hcs _ _ hu
 have s1 : Hid (news.length = (n - j) * 2):=hlen
 have s2 : Hid (∀ u ∈ news,u.oneCell' = true):=fun u hu => h1c u (List.mem_of_mem_drop (by rw [<- hnews]; exact hu))
 have hsome : ∀ t,t < n * 2 -> (w.cell? ⟨blk,off + t,none⟩).isSome = true:=fun t ht => by
  rw [hcs t _ (List.getElem?_eq_getElem (by omega))]; rfl
 have s3 : Hid (∀ t,t < news.length -> (w.drew.cell? ⟨blk,off + i * 2 + t,none⟩).isSome = true /\ w.drew.frozen? ⟨blk,off + i * 2 + t,none⟩ = false):=by
  intro t ht
  rw [hlen] at ht
  rw [Nat.add_assoc]
  exact ⟨hsome _ (by omega),hfz _ (by omega)⟩
 obtain ⟨W1,hW1⟩ : ∃ W1,W1 = w.drew.setCells blk (off + i * 2) news:=⟨_,rfl⟩
 have hsome1 : ∀ t,t < n * 2 -> (W1.cell? ⟨blk,off + t,none⟩).isSome = true:=fun t ht => by
  rw [hW1]
  exact isSome_setCells blk _ _ _ (fun u hu => (s3.out u hu).1) _ (hsome t ht)
 have hcl : ∀ ty,(Builtin.clear_ #[189] ty #[.slice (some ⟨blk,off + (i + (n - j)) * 2,none⟩) (n - (i + (n - j))) (cap - (i + (n - j)))]).run Tryz.prog W1 = .ok (.tuple #[]) (W1.setCells blk (off + (i + (n - j)) * 2) zs) :=
  fun ty => run_clear_cells W1 _ 206 ty z rfl hzv blk _ _ _ (by omega) zs hzs' hzo (fun t ht => by rw [hzl] at ht; rw [Nat.add_assoc]; exact hsome1 _ (by omega)) (fun t ht => by rw [hzl] at ht; rw [hW1,World.frozen?_setCells,Nat.add_assoc]; exact hfz _ (by omega))
 have hW : Hid (W1 = w.drew.setCells blk (off + i * 2) news):=hW1
 have hfin : Hid (zs.length = (j - i) * 2 /\ (W1.setCells blk (off + (i + (n - j)) * 2) zs) = (w.drew.setCells blk (off + i * 2) (cs.drop (j * 2))).setCells blk (off + (i + (n - j)) * 2) zs):=⟨hzl,by rw [hW1,hnews]⟩
 have hic : i <= cap:=by omega
 have hjc : j <= cap:=by omega
 clear hsome1 hsome hcs hfz h1c hW1 hnews hlen hzl hzo hzs'
 go_enter Tryz.func102,Tryz.ntmps102
 go_wp2_with fail
 go_region_law (refine step_append_room rfl (.tmp 22) (.tmp 25) 189 rfl 206 i0 2 rfl hi0 hz1 blk off i cap (by simp [Act.eval,Act.put]) A (n - j) (cap - j) news (by simp [Act.eval,Act.put]) s1.out hsrc.out s2.out (by omega) s3.out ?_; rw [<- hW.out])
 go_wp2
 go_ret
 exact ⟨by rw [show n - (j - i) = i + (n - j) by omega]; rfl,zs,hfin.out.1,hfin.out.2⟩
set_option maxRecDepth 100000 in
theorem deleteF_parcel : Den.FnOK Tryz.prog 102 (Den.deleteS 2):=Den.delete_fn rfl delete_parcel
set_option maxHeartbeats 4000000 in
set_option maxRecDepth 1000000 in
theorem delete_sub (blk off n cap i j : Nat) (cs : List Value) (w : World) (hlt : i < j) (hj : j <= n) (hcap : n <= cap) (hcl : cs.length = n * 44) (hcs : ∀ t v,cs[t]? = some v -> w.cell? ⟨blk,off + t,none⟩ = some v) (hfz : ∀ t,t < n * 44 -> w.frozen? ⟨blk,off + t,none⟩ = false) (h1c : ∀ v ∈ cs,v.oneCell' = true) :
  Calls Tryz.prog 160 #[.slice (some ⟨blk,off,none⟩) n cap,.int .i64 i,.int .i64 j] w fun e w' => e = .returned (.slice (some ⟨blk,off,none⟩) (n - (j - i)) cap) /\
   ∃ zs : List Value,zs.length = (j - i) * 44 /\ w' = (w.drew.setCells blk (off + i * 44) (cs.drop (j * 44))).setCells blk (off + (i + (n - j)) * 44) zs:=by
 have mixed : Tryz.prog.follows .mixedOrders = true:=rfl
 obtain ⟨i0,z,hi0,hz0,hz1,hzs,hz2⟩ : ∃ i0 z,Tryz.prog.info? 162 = some i0 /\ i0.zero = some z /\ i0.size = 44 /\ z.cells.size = 44 /\ z.cells.toList.all Value.oneCell' = true:=⟨_,_,rfl,rfl,rfl,rfl,rfl⟩
 have hzv : ∀ w,(zeroValue 162).run Tryz.prog w = .ok z w:=fun w => by
  simp [Go.zeroValue,typeInfo,hi0,hz0]
 obtain ⟨zs,hzs'⟩ : ∃ zs,(Builtin.zeroCells z.cells (n - (i + (n - j)))).toList = zs:=⟨_,rfl⟩
 have hzl : zs.length = (j - i) * 44:=by
  rw [<- hzs',zeroCells_length,hzs,show n - (i + (n - j)) = j - i by omega]
 have hzo : ∀ v ∈ zs,v.oneCell' = true:=by rw [<- hzs']; exact zeroCells_one hz2 _
 obtain ⟨news,hnews⟩ : ∃ news,news = cs.drop (j * 44):=⟨_,rfl⟩
 have hlen : news.length = (n - j) * 44:=by rw [hnews,List.length_drop,hcl]; omega
 obtain ⟨A,hA,hsrc⟩ : ∃ A : Addr,(if cap = j then some (⟨blk,off,none⟩ : Addr) else some ⟨blk,off + j * 44,none⟩) = some A /\ Hid (∀ t u,news[t]? = some u -> w.drew.cell? (A.add t) = some u):=by
  by_cases h : cap = j
  ·refine ⟨⟨blk,off,none⟩,by simp [h],fun t u hu => ?_⟩
   have h0 : news.length = 0:=by rw [hlen]; omega
   rw [List.length_eq_zero_iff.1 h0] at hu
   simp at hu
  ·refine ⟨⟨blk,off + j * 44,none⟩,by simp [h],fun t u hu => ?_⟩
   rw [hnews,List.getElem?_drop] at hu
   rw [Addr.add_lit,Nat.add_assoc]
   exact hcs _ _ hu
 have s1 : Hid (news.length = (n - j) * 44):=hlen
 have s2 : Hid (∀ u ∈ news,u.oneCell' = true):=fun u hu => h1c u (List.mem_of_mem_drop (by rw [<- hnews]; exact hu))
 have hsome : ∀ t,t < n * 44 -> (w.cell? ⟨blk,off + t,none⟩).isSome = true:=fun t ht => by
  rw [hcs t _ (List.getElem?_eq_getElem (by omega))]; rfl
 have s3 : Hid (∀ t,t < news.length -> (w.drew.cell? ⟨blk,off + i * 44 + t,none⟩).isSome = true /\ w.drew.frozen? ⟨blk,off + i * 44 + t,none⟩ = false):=by
  intro t ht
  rw [hlen] at ht
  rw [Nat.add_assoc]
  exact ⟨hsome _ (by omega),hfz _ (by omega)⟩
 obtain ⟨W1,hW1⟩ : ∃ W1,W1 = w.drew.setCells blk (off + i * 44) news:=⟨_,rfl⟩
 have hsome1 : ∀ t,t < n * 44 -> (W1.cell? ⟨blk,off + t,none⟩).isSome = true:=fun t ht => by
  rw [hW1]
  exact isSome_setCells blk _ _ _ (fun u hu => (s3.out u hu).1) _ (hsome t ht)
 have hcl : ∀ ty,(Builtin.clear_ #[122] ty #[.slice (some ⟨blk,off + (i + (n - j)) * 44,none⟩) (n - (i + (n - j))) (cap - (i + (n - j)))]).run Tryz.prog W1 = .ok (.tuple #[]) (W1.setCells blk (off + (i + (n - j)) * 44) zs) :=
  fun ty => run_clear_cells W1 _ 162 ty z rfl hzv blk _ _ _ (by omega) zs hzs' hzo (fun t ht => by rw [hzl] at ht; rw [Nat.add_assoc]; exact hsome1 _ (by omega)) (fun t ht => by rw [hzl] at ht; rw [hW1,World.frozen?_setCells,Nat.add_assoc]; exact hfz _ (by omega))
 have hW : Hid (W1 = w.drew.setCells blk (off + i * 44) news):=hW1
 have hfin : Hid (zs.length = (j - i) * 44 /\ (W1.setCells blk (off + (i + (n - j)) * 44) zs) = (w.drew.setCells blk (off + i * 44) (cs.drop (j * 44))).setCells blk (off + (i + (n - j)) * 44) zs):=⟨hzl,by rw [hW1,hnews]⟩
 have hic : i <= cap:=by omega
 have hjc : j <= cap:=by omega
 clear hsome1 hsome hcs hfz h1c hW1 hnews hlen hzl hzo hzs'
 go_enter Tryz.func160,Tryz.ntmps160
 go_wp2_with fail
 go_region_law (refine step_append_room rfl (.tmp 22) (.tmp 25) 122 rfl 162 i0 44 rfl hi0 hz1 blk off i cap (by simp [Act.eval,Act.put]) A (n - j) (cap - j) news (by simp [Act.eval,Act.put]) s1.out hsrc.out s2.out (by omega) s3.out ?_; rw [<- hW.out])
 go_wp2
 go_ret
 exact ⟨by rw [show n - (j - i) = i + (n - j) by omega]; rfl,zs,hfin.out.1,hfin.out.2⟩
set_option maxRecDepth 100000 in
theorem deleteF_sub : Den.FnOK Tryz.prog 160 (Den.deleteS 44):=Den.delete_fn rfl delete_sub
set_option maxHeartbeats 4000000 in
set_option maxRecDepth 1000000 in
theorem delete_entry (blk off n cap i j : Nat) (cs : List Value) (w : World) (hlt : i < j) (hj : j <= n) (hcap : n <= cap) (hcl : cs.length = n * 99) (hcs : ∀ t v,cs[t]? = some v -> w.cell? ⟨blk,off + t,none⟩ = some v) (hfz : ∀ t,t < n * 99 -> w.frozen? ⟨blk,off + t,none⟩ = false) (h1c : ∀ v ∈ cs,v.oneCell' = true) :
  Calls Tryz.prog 256 #[.slice (some ⟨blk,off,none⟩) n cap,.int .i64 i,.int .i64 j] w fun e w' => e = .returned (.slice (some ⟨blk,off,none⟩) (n - (j - i)) cap) /\
   ∃ zs : List Value,zs.length = (j - i) * 99 /\ w' = (w.drew.setCells blk (off + i * 99) (cs.drop (j * 99))).setCells blk (off + (i + (n - j)) * 99) zs:=by
 have mixed : Tryz.prog.follows .mixedOrders = true:=rfl
 obtain ⟨i0,z,hi0,hz0,hz1,hzs,hz2⟩ : ∃ i0 z,Tryz.prog.info? 164 = some i0 /\ i0.zero = some z /\ i0.size = 99 /\ z.cells.size = 99 /\ z.cells.toList.all Value.oneCell' = true:=⟨_,_,rfl,rfl,rfl,rfl,rfl⟩
 have hzv : ∀ w,(zeroValue 164).run Tryz.prog w = .ok z w:=fun w => by
  simp [Go.zeroValue,typeInfo,hi0,hz0]
 obtain ⟨zs,hzs'⟩ : ∃ zs,(Builtin.zeroCells z.cells (n - (i + (n - j)))).toList = zs:=⟨_,rfl⟩
 have hzl : zs.length = (j - i) * 99:=by
  rw [<- hzs',zeroCells_length,hzs,show n - (i + (n - j)) = j - i by omega]
 have hzo : ∀ v ∈ zs,v.oneCell' = true:=by rw [<- hzs']; exact zeroCells_one hz2 _
 obtain ⟨news,hnews⟩ : ∃ news,news = cs.drop (j * 99):=⟨_,rfl⟩
 have hlen : news.length = (n - j) * 99:=by rw [hnews,List.length_drop,hcl]; omega
 obtain ⟨A,hA,hsrc⟩ : ∃ A : Addr,(if cap = j then some (⟨blk,off,none⟩ : Addr) else some ⟨blk,off + j * 99,none⟩) = some A /\ Hid (∀ t u,news[t]? = some u -> w.drew.cell? (A.add t) = some u):=by
  by_cases h : cap = j
  ·refine ⟨⟨blk,off,none⟩,by simp [h],fun t u hu => ?_⟩
   have h0 : news.length = 0:=by rw [hlen]; omega
   rw [List.length_eq_zero_iff.1 h0] at hu
   simp at hu
  ·refine ⟨⟨blk,off + j * 99,none⟩,by simp [h],fun t u hu => ?_⟩
   rw [hnews,List.getElem?_drop] at hu
   rw [Addr.add_lit,Nat.add_assoc]
   exact hcs _ _ hu
 have s1 : Hid (news.length = (n - j) * 99):=hlen
 have s2 : Hid (∀ u ∈ news,u.oneCell' = true):=fun u hu => h1c u (List.mem_of_mem_drop (by rw [<- hnews]; exact hu))
 have hsome : ∀ t,t < n * 99 -> (w.cell? ⟨blk,off + t,none⟩).isSome = true:=fun t ht => by
  rw [hcs t _ (List.getElem?_eq_getElem (by omega))]; rfl
 have s3 : Hid (∀ t,t < news.length -> (w.drew.cell? ⟨blk,off + i * 99 + t,none⟩).isSome = true /\ w.drew.frozen? ⟨blk,off + i * 99 + t,none⟩ = false):=by
  intro t ht
  rw [hlen] at ht
  rw [Nat.add_assoc]
  exact ⟨hsome _ (by omega),hfz _ (by omega)⟩
 obtain ⟨W1,hW1⟩ : ∃ W1,W1 = w.drew.setCells blk (off + i * 99) news:=⟨_,rfl⟩
 have hsome1 : ∀ t,t < n * 99 -> (W1.cell? ⟨blk,off + t,none⟩).isSome = true:=fun t ht => by
  rw [hW1]
  exact isSome_setCells blk _ _ _ (fun u hu => (s3.out u hu).1) _ (hsome t ht)
 have hcl : ∀ ty,(Builtin.clear_ #[67] ty #[.slice (some ⟨blk,off + (i + (n - j)) * 99,none⟩) (n - (i + (n - j))) (cap - (i + (n - j)))]).run Tryz.prog W1 = .ok (.tuple #[]) (W1.setCells blk (off + (i + (n - j)) * 99) zs) :=
  fun ty => run_clear_cells W1 _ 164 ty z rfl hzv blk _ _ _ (by omega) zs hzs' hzo (fun t ht => by rw [hzl] at ht; rw [Nat.add_assoc]; exact hsome1 _ (by omega)) (fun t ht => by rw [hzl] at ht; rw [hW1,World.frozen?_setCells,Nat.add_assoc]; exact hfz _ (by omega))
 have hW : Hid (W1 = w.drew.setCells blk (off + i * 99) news):=hW1
 have hfin : Hid (zs.length = (j - i) * 99 /\ (W1.setCells blk (off + (i + (n - j)) * 99) zs) = (w.drew.setCells blk (off + i * 99) (cs.drop (j * 99))).setCells blk (off + (i + (n - j)) * 99) zs):=⟨hzl,by rw [hW1,hnews]⟩
 have hic : i <= cap:=by omega
 have hjc : j <= cap:=by omega
 clear hsome1 hsome hcs hfz h1c hW1 hnews hlen hzl hzo hzs'
 go_enter Tryz.func256,Tryz.ntmps256
 go_wp2_with fail
 go_region_law (refine step_append_room rfl (.tmp 22) (.tmp 25) 67 rfl 164 i0 99 rfl hi0 hz1 blk off i cap (by simp [Act.eval,Act.put]) A (n - j) (cap - j) news (by simp [Act.eval,Act.put]) s1.out hsrc.out s2.out (by omega) s3.out ?_; rw [<- hW.out])
 go_wp2
 go_ret
 exact ⟨by rw [show n - (j - i) = i + (n - j) by omega]; rfl,zs,hfin.out.1,hfin.out.2⟩
set_option maxRecDepth 100000 in
theorem deleteF_entry : Den.FnOK Tryz.prog 256 (Den.deleteS 99):=Den.delete_fn rfl delete_entry
end Go.Proofs.YtbllpnjappddeaaGreat
end
section
set_option linter.unusedSimpArgs false
set_option linter.unusedVariables false
set_option maxRecDepth 100000
namespace Go.Proofs.YtbllpnjappddeaaGreat.Den
open Go.RowKit
attribute [local simp] runList aop abuiltin acall awanted ayielded env T0 tput tset Ran aload astore setMany upd binV aslice aindexAddr apart aindex alen acopy srcCells natOf boundOf aeq AV.nilEq convV appK fillA List.range List.range.loop onF isU8 rowOf
def rotS : Spec:=fun args nm H =>
 match args with
 | [.val (.int .u32 (.ofNat x)),.val (.int .u64 (.ofNat n))] => if x < 4294967296 /\ 0 < n /\ n < 32 then some (.val (.int .u32 (rotr x n : Nat)),H) else none
 | _ => none
theorem rot_eq (x n : Nat) (hx : x < 4294967296) (h0 : 0 < n) (hn : n < 32) : rotr x n = x / 2 ^ n ||| (x * 2 ^ (32 - n)) % 4294967296:=by
 show (x >>> n) ||| ((x <<< (32 - n)) &&& 4294967295) = _
 rw [Nat.shiftRight_eq_div_pow,Nat.shiftLeft_eq,show (4294967295 : Nat) = 2 ^ 32 - 1 from rfl,Nat.and_two_pow_sub_one_eq_mod]
theorem toNat_mod (a : Nat) (h : a < 4294967296) : ((a : Int) % 2 ^ IntKind.u32.bits).toNat = a:=by
 show ((a : Int) % 2 ^ 32).toNat = a
 omega
theorem rot_wrap (x n : Nat) (hx : x < 4294967296) (h0 : 0 < n) (hn : n < 32) : IntKind.u32.wrap (((((x : Int).fdiv (2 ^ min n IntKind.u32.bits)) % 2 ^ IntKind.u32.bits).toNat ||| (IntKind.u32.wrap ((x : Int) * 2 ^ min (32 - n) IntKind.u32.bits) % 2 ^ IntKind.u32.bits).toNat : Nat) : Int) = (rotr x n : Nat):=by
 have m1 : min n IntKind.u32.bits = n:=Nat.min_eq_left (by show n <= 32; omega)
 have m2 : min (32 - n) IntKind.u32.bits = 32 - n:=Nat.min_eq_left (by show 32 - n <= 32; omega)
 have e1 : (x : Int).fdiv (2 ^ n) = ((x / 2 ^ n : Nat) : Int):=by
  rw [Int.fdiv_eq_ediv_of_nonneg _ (Int.le_of_lt (Int.pow_pos (by decide)))]
  push_cast; rfl
 have e2 : (x : Int) * 2 ^ (32 - n) = ((x * 2 ^ (32 - n) : Nat) : Int):=by push_cast; rfl
 have l1 : x / 2 ^ n < 4294967296:=Nat.lt_of_le_of_lt (Nat.div_le_self _ _) hx
 have l2 : x * 2 ^ (32 - n) % 4294967296 < 4294967296:=Nat.mod_lt _ (by decide)
 rw [m1,m2,e1,e2,wrap_u32 (x * 2 ^ (32 - n)),toNat_mod _ l1,toNat_mod _ l2,wrap_u32,rot_eq x n hx h0 hn,Nat.mod_eq_of_lt]
 exact Nat.or_lt_two_pow (n:=32) l1 l2
set_option maxHeartbeats 400000 in
theorem rot_ok : FnOK Tryz.prog 403 rotS:=by
 refine ⟨by kernel_rfl,fun args nm H r H' h => ?_⟩
 have hcall:=@noCall_ok Tryz.prog
 unfold rotS at h
 split at h
 ·rename_i x n
  split at h
  ·rename_i hc
   cases h
   obtain ⟨hx,h0,hn⟩:=hc
   have hr:=rot_eq x n hx h0 hn
   simp only [Int.ofNat_eq_natCast]
   have hz : ¬ ((n : Int) < 0):=by omega
   have hz0 : (0 : Int) <= n:=by omega
   have w1 : IntKind.u64.wrap (32 - (n : Int)) = ((32 - n : Nat) : Int):=by rw [IntKind.wrap_u64]; omega
   refine sim_go Tryz.func403 rfl rfl (Nat.le_of_ble_eq_true rfl) fun hH => ?_
   (repeat refine AWP.seq ?_)
   refine AWP.region_last hcall rfl fun K hK => ?_
   simp
   apply hK; clear hK K; simp only [onNormal,onExit]
   have hw:=rot_wrap x n hx h0 hn
   (repeat refine AWP.seq ?_)
   refine AWP.region_last hcall rfl fun K hK => ?_
   simp [w1,hz0,hw]
   apply hK; clear hK K; simp only [onNormal,onExit]
   (try refine AWP.ret ?_); (try simp only [onNormal,onExit]); refine ⟨by simp,⟨_,rfl,by simp [ares1,hw]⟩,fun k row hk => ?_⟩
   exact hk
  ·cases h
 ·cases h
end Go.Proofs.YtbllpnjappddeaaGreat.Den
end
section
set_option linter.unusedSimpArgs false
set_option linter.unusedVariables false
set_option maxRecDepth 100000
namespace Go.Proofs.YtbllpnjappddeaaGreat.Den
open Go.RowKit
attribute [local simp] runList aop abuiltin acall awanted ayielded env T0 tput tset Ran aload astore setMany upd binV aslice aindexAddr apart aindex alen acopy srcCells natOf boundOf aeq AV.nilEq convV appK fillA List.range List.range.loop onF isU8 rowOf
def wds (l : List Nat) : List AV:=l.map fun (n : Nat) => .val (.int .u32 (n : Int))
def k256 : List Nat:=[1116352408,1899447441,3049323471,3921009573,961987163,1508970993,2453635748,2870763221,3624381080,310598401,607225278,1426881987,1925078388,2162078206,2614888103,3248222580,3835390401,4022224774,264347078,604807628,770255983,1249150122,1555081692,1996064986,2554220882,2821834349,2952996808,3210313671,3336571891,3584528711,113926993,338241895,666307205,773529912,1294757372,1396182291,1695183700,1986661051,2177026350,2456956037,2730485921,2820302411,3259730800,3345764771,3516065817,3600352804,4094571909,275423344,430227734,506948616,659060556,883997877,958139571,1322822218,1537002063,1747873779,1955562222,2024104815,2227730452,2361852424,2428436474,2756734187,3204031479,3329325298]
def wordsRS : Spec:=fun args nm H =>
 match args with
 | [] => some (.agg (wds k256),H)
 | _ => none
set_option maxHeartbeats 1000000 in
theorem words_ok : FnOK Tryz.prog 402 wordsRS:=by
 refine ⟨by kernel_rfl,fun args nm H r H' h => ?_⟩
 have hcall:=@noCall_ok Tryz.prog
 unfold wordsRS at h
 split at h
 ·cases h
  refine sim_go Tryz.func402 rfl rfl (Nat.le_of_ble_eq_true rfl) fun hH => ?_
  (repeat refine AWP.seq ?_)
  refine AWP.region_last hcall rfl fun K hK => ?_
  simp
  apply hK; clear hK K; simp only [onNormal,onExit]
  (repeat refine AWP.seq ?_)
  refine AWP.region_last hcall rfl fun K hK => ?_
  simp
  apply hK; clear hK K; simp only [onNormal,onExit]
  (try refine AWP.ret ?_); (try simp only [onNormal,onExit]); refine ⟨by simp,⟨[_],by simp [ares,Tryz.results402,k256,wds],rfl⟩,fun k row hk => ?_⟩
  refine SubL.out ?_ k row hk; repeat (first | exact SubL.id | refine SubL.set ?_ | refine SubL.gone ?_ | (refine SubL.ex ?_ ?_; · simp; done) | refine SubL.fresh (hH [_]) ?_ | refine SubL.fresh (hH [_,_]) ?_ | (refine SubL.fresh (upd_none (hH [_]) ?_) ?_; · simp; done) | (refine SubL.fresh (upd_none (hH [_,_]) ?_) ?_; · simp; done))
 ·cases h
end Go.Proofs.YtbllpnjappddeaaGreat.Den
end
section
set_option linter.unusedSimpArgs false
set_option linter.unusedVariables false
set_option maxRecDepth 100000
namespace Go.Proofs.YtbllpnjappddeaaGreat.Den
open Go.RowKit
theorem addN_def (a b : Nat) : addN a b = (a + b) % 4294967296:=rfl
theorem addN_lt (a b : Nat) : addN a b < 4294967296:=Nat.mod_lt _ (by decide)
theorem xor_lt {a b : Nat} (ha : a < 4294967296) (hb : b < 4294967296) : a ^^^ b < 4294967296:=Nat.xor_lt_two_pow (n:=32) ha hb
theorem or_lt {a b : Nat} (ha : a < 4294967296) (hb : b < 4294967296) : a ||| b < 4294967296:=Nat.or_lt_two_pow (n:=32) ha hb
theorem and_lt {a b : Nat} (hb : b < 4294967296) : a &&& b < 4294967296:=Nat.and_lt_two_pow (n:=32) a hb
theorem shr_lt {a : Nat} (n : Nat) (ha : a < 4294967296) : a >>> n < 4294967296:=Nat.lt_of_le_of_lt (by rw [Nat.shiftRight_eq_div_pow]; exact Nat.div_le_self _ _) ha
theorem shl_lt (a n : Nat) : (a <<< n) % 4294967296 < 4294967296:=Nat.mod_lt _ (by decide)
theorem rotN_lt {a : Nat} (n : Nat) (ha : a < 4294967296) : rotN a n < 4294967296:=or_lt (Nat.mod_lt _ (by decide)) (shr_lt n ha)
theorem rotr_rotN {x n : Nat} (hx : x < 4294967296) (h0 : 0 < n) (hn : n < 32) : rotr x n = rotN x n:=by
 rw [rot_eq x n hx h0 hn]
 show _ = (x <<< (32 - n)) % 4294967296 ||| x >>> n
 rw [Nat.shiftRight_eq_div_pow,Nat.shiftLeft_eq,Nat.or_comm]
def notN (a : Nat) : Nat:=4294967295 ^^^ a
theorem notN_lt {a : Nat} (ha : a < 4294967296) : notN a < 4294967296:=xor_lt (by decide) ha
theorem i32 (a : Nat) (ha : a < 4294967296) : (BitVec.ofInt 32 (a : Int)).toNat = a:=by
 rw [BitVec.toNat_ofInt]; omega
theorem w32 {a : Nat} (ha : a < 4294967296) : IntKind.u32.wrap (a : Int) = (a : Int):=by rw [wrap_u32,Nat.mod_eq_of_lt ha]
theorem b32_xor {a b : Nat} (ha : a < 4294967296) (hb : b < 4294967296) : binV .xor (.int .u32 (a : Int)) (.int .u32 (b : Int)) = some (.int .u32 ((a ^^^ b : Nat) : Int)):=by
 show some (Value.int .u32 (IntKind.u32.wrap ((BitVec.ofInt 32 (a : Int) ^^^ BitVec.ofInt 32 (b : Int)).toNat : Int))) = _
 rw [BitVec.toNat_xor,i32 a ha,i32 b hb,w32 (xor_lt ha hb)]
theorem b32_or {a b : Nat} (ha : a < 4294967296) (hb : b < 4294967296) : binV .or (.int .u32 (a : Int)) (.int .u32 (b : Int)) = some (.int .u32 ((a ||| b : Nat) : Int)):=by
 show some (Value.int .u32 (IntKind.u32.wrap ((BitVec.ofInt 32 (a : Int) ||| BitVec.ofInt 32 (b : Int)).toNat : Int))) = _
 rw [BitVec.toNat_or,i32 a ha,i32 b hb,w32 (or_lt ha hb)]
theorem b32_and {a b : Nat} (ha : a < 4294967296) (hb : b < 4294967296) : binV .and (.int .u32 (a : Int)) (.int .u32 (b : Int)) = some (.int .u32 ((a &&& b : Nat) : Int)):=by
 show some (Value.int .u32 (IntKind.u32.wrap ((BitVec.ofInt 32 (a : Int) &&& BitVec.ofInt 32 (b : Int)).toNat : Int))) = _
 rw [BitVec.toNat_and,i32 a ha,i32 b hb,w32 (and_lt hb)]
theorem b32_add (a b : Nat) : binV .add (.int .u32 (a : Int)) (.int .u32 (b : Int)) = some (.int .u32 ((addN a b : Nat) : Int)):=by
 show some (Value.int .u32 (IntKind.u32.wrap ((a : Int) + (b : Int)))) = _
 rw [<- Int.natCast_add,wrap_u32]; rfl
theorem b32_shr (a n : Nat) (k : IntKind) (hn : n <= 32) : binV .shr (.int .u32 (a : Int)) (.int k (n : Int)) = some (.int .u32 ((a >>> n : Nat) : Int)):=by
 show (if (0 : Int) <= (n : Int) then some (Value.int .u32 ((a : Int).fdiv (2 ^ min (n : Int).toNat 32))) else none) = _
 rw [if_pos (Int.natCast_nonneg _),Int.toNat_natCast,Nat.min_eq_left hn,Int.fdiv_eq_ediv_of_nonneg _ (Int.le_of_lt (Int.pow_pos (by decide))),Nat.shiftRight_eq_div_pow]
 push_cast; rfl
theorem b32_shl (a n : Nat) (k : IntKind) (hn : n <= 32) : binV .shl (.int .u32 (a : Int)) (.int k (n : Int)) = some (.int .u32 (((a <<< n) % 4294967296 : Nat) : Int)):=by
 show (if (0 : Int) <= (n : Int) then some (Value.int .u32 (IntKind.u32.wrap ((a : Int) * (2 ^ min (n : Int).toNat 32)))) else none) = _
 rw [if_pos (Int.natCast_nonneg _),Int.toNat_natCast,Nat.min_eq_left hn,Nat.shiftLeft_eq,<- wrap_u32]
 push_cast; rfl
theorem grow_snoc (f : List Nat -> Nat) : ∀ (n : Nat) (e : List Nat),grow f (n + 1) e = grow f n e ++ [f (grow f n e)]
 | 0,e => rfl
 | n + 1,e => by
  show grow f (n + 1) (e ++ [f e]) = grow f n (e ++ [f e]) ++ _
  rw [grow_snoc f n (e ++ [f e])]; rfl
def w1 (b : List Nat) (j : Nat) : List Nat:=grow (fB fun i => b.getD i 0) j []
def w2 (b : List Nat) (j : Nat) : List Nat:=grow fW j (w1 b 16)
theorem w1_length (b : List Nat) (j : Nat) : (w1 b j).length = j:=by rw [w1,grow_length]; exact Nat.zero_add _
theorem w2_length (b : List Nat) (j : Nat) : (w2 b j).length = 16 + j:=by rw [w2,grow_length,w1_length]
theorem w1_succ (b : List Nat) (j : Nat) : w1 b (j + 1) = w1 b j ++ [w4N (b.getD (4 * j) 0) (b.getD (4 * j + 1) 0) (b.getD (4 * j + 2) 0) (b.getD (4 * j + 3) 0)]:=by
 have h:=w1_length b j
 rw [w1,grow_snoc]
 show w1 b j ++ [fB _ (w1 b j)] = _
 rw [fB,h]
theorem w2_zero (b : List Nat) : w2 b 0 = w1 b 16:=rfl
theorem w2_succ (b : List Nat) (j : Nat) : w2 b (j + 1) = w2 b j ++ [wN ((w2 b j).getD j 0) ((w2 b j).getD (j + 1) 0) ((w2 b j).getD (j + 9) 0) ((w2 b j).getD (j + 14) 0)]:=by
 have h:=w2_length b j
 rw [w2,grow_snoc]
 show w2 b j ++ [fW (w2 b j)] = _
 rw [fW,h,show 16 + j - 16 = j by omega,show 16 + j - 15 = j + 1 by omega,show 16 + j - 7 = j + 9 by omega,show 16 + j - 2 = j + 14 by omega]
 rfl
theorem wordsN_w2 {b : List Nat} (h : b.length = 64) : wordsN b = w2 b 48:=by
 rw [wordsN_eq h (B:=fun i => b.getD i 0) fun _ _ => rfl,sp_words]; rfl
theorem w4N_lt {a b c d : Nat} (hd : d < 256) : w4N a b c d < 4294967296:=or_lt (or_lt (or_lt (Nat.mod_lt _ (by decide)) (Nat.mod_lt _ (by decide))) (Nat.mod_lt _ (by decide))) (by omega)
theorem wN_lt (a b c d : Nat) : wN a b c d < 4294967296:=addN_lt _ _
theorem getD_lt {b : List Nat} (hb : ∀ x ∈ b,x < 256) (i : Nat) : b.getD i 0 < 256:=by
 rw [List.getD_eq_getElem?_getD]
 by_cases h : i < b.length
 ·rw [List.getElem?_eq_getElem h]; exact hb _ (List.getElem_mem h)
 ·rw [List.getElem?_eq_none (by omega)]; decide
theorem w1_lt {b : List Nat} (hb : ∀ x ∈ b,x < 256) : ∀ j,∀ x ∈ w1 b j,x < 4294967296
 | 0 => fun x hx => by cases hx
 | j + 1 => fun x hx => by
  rw [w1_succ] at hx
  rcases List.mem_append.1 hx with hx | hx
  ·exact w1_lt hb j x hx
  ·rw [List.mem_singleton.1 hx]; exact w4N_lt (getD_lt hb _)
theorem w2_lt {b : List Nat} (hb : ∀ x ∈ b,x < 256) : ∀ j,∀ x ∈ w2 b j,x < 4294967296
 | 0 => fun x hx => w1_lt hb 16 x hx
 | j + 1 => fun x hx => by
  rw [w2_succ] at hx
  rcases List.mem_append.1 hx with hx | hx
  ·exact w2_lt hb j x hx
  ·rw [List.mem_singleton.1 hx]; exact wN_lt _ _ _ _
theorem w4N_ref (a b c d : Nat) : ((((a <<< 24) % 4294967296 ||| (b <<< 16) % 4294967296) ||| (c <<< 8) % 4294967296) ||| d) = w4N a b c d:=rfl
theorem wN_ref (a b c d : Nat) : addN (addN (addN ((rotN d 17 ^^^ rotN d 19) ^^^ d >>> 10) c) ((rotN b 7 ^^^ rotN b 18) ^^^ b >>> 3)) a = wN a b c d:=by
 show _ = addN (addN (addN a ((rotN b 7 ^^^ rotN b 18) ^^^ b >>> 3)) c) ((rotN d 17 ^^^ rotN d 19) ^^^ d >>> 10)
 generalize (rotN d 17 ^^^ rotN d 19) ^^^ d >>> 10 = x
 generalize (rotN b 7 ^^^ rotN b 18) ^^^ b >>> 3 = y
 simp only [addN_def]; omega
theorem nx (a b : Nat) : Nat.xor a b = a ^^^ b:=rfl
theorem na (a b : Nat) : Nat.land a b = a &&& b:=rfl
theorem xN_ref (k w e f g h : Nat) : addN (addN (addN (addN h ((rotN e 6 ^^^ rotN e 11) ^^^ rotN e 25)) ((e &&& f) ^^^ (notN e &&& g))) k) w = xN k w e f g h:=by
 simp only [xN,sigN,nx,na,notN]
theorem yN_ref (a b c : Nat) : addN ((rotN a 2 ^^^ rotN a 13) ^^^ rotN a 22) (((a &&& b) ^^^ (a &&& c)) ^^^ (b &&& c)) = yN a b c:=by
 simp only [yN,sigN,nx,na]
def rnds (w : List Nat) (s : W8) (i : Nat) : W8:=roundsN (shaK.take i) (w.take i) s
theorem stepN_eq (k w : Nat) (s : W8) : stepN k w s = ⟨addN (xN k w s.e s.f s.g s.h) (yN s.a s.b s.c),s.a,s.b,s.c,addN s.d (xN k w s.e s.f s.g s.h),s.e,s.f,s.g⟩:=by
 simp only [stepN,forceN_eq]
theorem roundsN_snoc (k w : Nat) : ∀ (ks ws : List Nat) (s : W8),ks.length = ws.length -> roundsN (ks ++ [k]) (ws ++ [w]) s = stepN k w (roundsN ks ws s)
 | [],[],_,_ => rfl
 | a :: ks,b :: ws,s,h => roundsN_snoc k w ks ws _ (by simpa using h)
 | [],_ :: _,_,h => by simp at h
 | _ :: _,[],_,h => by simp at h
theorem rnds_succ {w : List Nat} (hw : w.length = 64) (s : W8) {i : Nat} (hi : i < 64) : rnds w s (i + 1) = stepN (shaK.getD i 0) (w.getD i 0) (rnds w s i):=by
 have hk : shaK.length = 64:=rfl
 have e1 : shaK.take (i + 1) = shaK.take i ++ [shaK.getD i 0]:=by
  rw [List.take_add_one,List.getElem?_eq_getElem (by omega),List.getD_eq_getElem?_getD,List.getElem?_eq_getElem (by omega)]; rfl
 have e2 : w.take (i + 1) = w.take i ++ [w.getD i 0]:=by
  rw [List.take_add_one,List.getElem?_eq_getElem (by omega),List.getD_eq_getElem?_getD,List.getElem?_eq_getElem (by omega)]; rfl
 rw [rnds,e1,e2,roundsN_snoc _ _ _ _ _ (by rw [List.length_take,List.length_take,hk,hw])]; rfl
def okW (s : W8) : Prop:=s.a < 4294967296 /\ s.b < 4294967296 /\ s.c < 4294967296 /\ s.d < 4294967296 /\ s.e < 4294967296 /\ s.f < 4294967296 /\ s.g < 4294967296 /\ s.h < 4294967296
theorem stepN_ok (k w : Nat) {s : W8} (h : okW s) : okW (stepN k w s):=by
 rw [stepN_eq]
 exact ⟨addN_lt _ _,h.1,h.2.1,h.2.2.1,addN_lt _ _,h.2.2.2.2.1,h.2.2.2.2.2.1,h.2.2.2.2.2.2.1⟩
theorem rnds_ok {w : List Nat} (hw : w.length = 64) {s : W8} (h : okW s) : ∀ {i : Nat},i <= 64 -> okW (rnds w s i)
 | 0,_ => h
 | i + 1,hi => by rw [rnds_succ hw s (by omega)]; exact stepN_ok _ _ (rnds_ok hw h (by omega))
theorem rnds_all {w : List Nat} (hw : w.length = 64) (s : W8) : rnds w s 64 = roundsN shaK w s:=by
 rw [rnds,List.take_of_length_le (by exact Nat.le_refl 64),List.take_of_length_le (by omega)]
theorem k256_shaK : k256 = shaK:=rfl
theorem wds_ws (l : List Nat) : wds l = ws l:=by simp [wds,ws,vcells,vU]
def sP (s t : W8) (i : Nat) : List Nat:=(addW s t).take i ++ (listN s).drop i
theorem sP_length (s t : W8) {i : Nat} (hi : i <= 8) : (sP s t i).length = 8:=by
 rw [sP,List.length_append,List.length_take,List.length_drop]
 show min i 8 + (8 - i) = 8
 omega
theorem sP_get (s t : W8) {i : Nat} (hi : i < 8) : (sP s t i).getD i 0 = (listN s).getD i 0:=by
 match i,hi with
 | 0,_ => rfl
 | 1,_ => rfl
 | 2,_ => rfl
 | 3,_ => rfl
 | 4,_ => rfl
 | 5,_ => rfl
 | 6,_ => rfl
 | 7,_ => rfl
theorem addN_comm (a b : Nat) : addN a b = addN b a:=by rw [addN_def,addN_def,Nat.add_comm]
theorem sP_set (s t : W8) {i : Nat} (hi : i < 8) : (sP s t i).set i (addN ((listN s).getD i 0) ((listN t).getD i 0)) = sP s t (i + 1):=by
 rw [addN_comm]
 match i,hi with
 | 0,_ => rfl
 | 1,_ => rfl
 | 2,_ => rfl
 | 3,_ => rfl
 | 4,_ => rfl
 | 5,_ => rfl
 | 6,_ => rfl
 | 7,_ => rfl
theorem sP_all (s t : W8) : sP s t 8 = addW s t:=rfl
theorem addFast_w2 {b : List Nat} (h : b.length = 64) (s : W8) : addFast (listN s) b = addW s (rnds (w2 b 48) s 64):=by
 show forceL (wordsN b) (fun w => addW s (roundsN shaK w s)) = _
 rw [forceL_eq,wordsN_w2 h,rnds_all (by rw [w2_length])]
theorem ws_set (l : List Nat) (i n : Nat) : (ws l).set i (.val (.int .u32 (n : Int))) = ws (l.set i n):=by
 simp only [ws,vcells,vU,List.map_set]; rfl
theorem ws_grow {e o : List Nat} {n : Nat} (h : e.length < o.length) : (ws (e ++ o.drop e.length)).set e.length (.val (.int .u32 (n : Int))) = ws ((e ++ [n]) ++ o.drop (e ++ [n]).length):=by
 rw [ws_set,List.set_append_right _ _ (Nat.le_refl _),Nat.sub_self,List.drop_eq_getElem_cons h,List.set_cons_zero,List.length_append,List.append_assoc]; rfl
end Go.Proofs.YtbllpnjappddeaaGreat.Den
end
section
set_option linter.unusedSimpArgs false
set_option linter.unusedVariables false
set_option maxRecDepth 100000
namespace Go.Proofs.YtbllpnjappddeaaGreat.Den
open Go.RowKit
attribute [local simp] runList aop abuiltin acall awanted ayielded env T0 tput tset Ran aload astore setMany upd binV aslice aindexAddr apart aindex alen acopy srcCells natOf boundOf aeq AV.nilEq convV appK fillA List.range List.range.loop onF isU8 rowOf
def sum2S : Spec:=fun args nm H =>
 match args with
 | [x] =>
  match partC H 1 x with
  | some (n,cells) =>
   match bytesA cells with
   | some l => if n <= 549755813888 then some (.agg (bs (shaSum l)),H) else none
   | none => none
  | none => none
 | _ => none
def w0 : W8:=⟨1779033703,3144134277,1013904242,2773480762,1359893119,2600822924,528734635,1541459225⟩
theorem w0_begun : listN w0 = begunL:=rfl
theorem w0_ok : okW w0:=by unfold okW w0; decide
structure SB (nm : Name) (x : AV) (H : AHeap) (s : List Nat) (T : Temps) (H2 : AHeap) : Prop where
 t0 : T 0 = x
 t2 : T 2 = .ptr (0 :: nm) 0
 t3 : T 3 = .ptr (2 :: nm) 0
 t4 : T 4 = .ptr (5 :: nm) 0
 r2 : H2 (0 :: nm) = some (bz 32)
 r3 : H2 (2 :: nm) = some (ws k256)
 r4 : H2 (5 :: nm) = some (ws s)
 sub : ∀ k r,H k = some r -> H2 k = some r
theorem tset_ge {T : Temps} {k i : Nat} {v : AV} (h : i < 5) (hk : Nat.ble 5 k = true) : tset T k v i = T i:=by
 have:=Nat.le_of_ble_eq_true hk
 simp only [tset]
 rw [if_neg (by omega)]
theorem SB.temps {nm : Name} {x : AV} {H : AHeap} {s : List Nat} {T T' : Temps} {H2 : AHeap} (b : SB nm x H s T H2) (ht : ∀ i,i < 5 -> T' i = T i) : SB nm x H s T' H2 :=
 ⟨(ht 0 (by omega)).trans b.t0,(ht 2 (by omega)).trans b.t2,(ht 3 (by omega)).trans b.t3,(ht 4 (by omega)).trans b.t4,b.r2,b.r3,b.r4,b.sub⟩
theorem SB.upd {nm : Name} {x : AV} {H : AHeap} {s : List Nat} {T : Temps} {H2 : AHeap} (b : SB nm x H s T H2) {m : Name} (o : Option (List AV)) (h0 : 0 :: nm ≠ m) (h2 : 2 :: nm ≠ m) (h5 : 5 :: nm ≠ m) (hm : H m = none) : SB nm x H s T (upd H2 m o) :=
 ⟨b.t0,b.t2,b.t3,b.t4,(upd_ne _ _ h0).trans b.r2,(upd_ne _ _ h2).trans b.r3,(upd_ne _ _ h5).trans b.r4,fun k r hk => by rw [upd_ne _ _ (by rintro rfl; rw [hm] at hk; cases hk)]; exact b.sub k r hk⟩
theorem SB.set4 {nm : Name} {x : AV} {H : AHeap} {s s' : List Nat} {T : Temps} {H2 : AHeap} (b : SB nm x H s T H2) (hm : H (5 :: nm) = none) : SB nm x H s' T (Den.upd H2 (5 :: nm) (some (ws s'))) :=
 ⟨b.t0,b.t2,b.t3,b.t4,(upd_ne _ _ (by simp)).trans b.r2,(upd_ne _ _ (by simp)).trans b.r3,upd_same _ _ _,fun k r hk => by rw [upd_ne _ _ (by rintro rfl; rw [hm] at hk; cases hk)]; exact b.sub k r hk⟩
theorem SB.names {nm : Name} {x : AV} {H : AHeap} {s : List Nat} {T : Temps} {H2 : AHeap} (b : SB nm x H s T H2) {c : Nat} (h : ∀ j s,c <= j -> H2 (s ++ j :: nm) = none) (k : Nat) (hk : c <= k) : 0 :: nm ≠ k :: nm /\ 2 :: nm ≠ k :: nm /\ 5 :: nm ≠ k :: nm :=
 ⟨ne_fresh h b.r2 k hk,ne_fresh h b.r3 k hk,ne_fresh h b.r4 k hk⟩
theorem bi_add (a b : Int) : binV .add (.int .i64 a) (.int .i64 b) = some (.int .i64 (IntKind.i64.wrap (a + b))):=of_eq_true (eq_self _)
theorem bi_sub (a b : Int) : binV .sub (.int .i64 a) (.int .i64 b) = some (.int .i64 (IntKind.i64.wrap (a - b))):=of_eq_true (eq_self _)
theorem bi_mul (a b : Int) : binV .mul (.int .i64 a) (.int .i64 b) = some (.int .i64 (IntKind.i64.wrap (a * b))):=of_eq_true (eq_self _)
/- Words as names: casts are not to be led into them. -/
def lsh (a n : Nat) : Nat:=(a <<< n) % 4294967296
def rsh (a n : Nat) : Nat:=a >>> n
def xr (a b : Nat) : Nat:=a ^^^ b
def an (a b : Nat) : Nat:=a &&& b
def orr (a b : Nat) : Nat:=a ||| b
theorem lsh_lt (a n : Nat) : lsh a n < 4294967296:=shl_lt a n
theorem rsh_lt {a : Nat} (n : Nat) (h : a < 4294967296) : rsh a n < 4294967296:=shr_lt n h
theorem xr_lt {a b : Nat} (ha : a < 4294967296) (hb : b < 4294967296) : xr a b < 4294967296:=xor_lt ha hb
theorem an_lt {a b : Nat} (hb : b < 4294967296) : an a b < 4294967296:=and_lt hb
theorem orr_lt {a b : Nat} (ha : a < 4294967296) (hb : b < 4294967296) : orr a b < 4294967296:=or_lt ha hb
theorem bx {a b : Nat} (ha : a < 4294967296) (hb : b < 4294967296) : binV .xor (.int .u32 (a : Int)) (.int .u32 (b : Int)) = some (.int .u32 ((xr a b : Nat) : Int)):=b32_xor ha hb
theorem bo {a b : Nat} (ha : a < 4294967296) (hb : b < 4294967296) : binV .or (.int .u32 (a : Int)) (.int .u32 (b : Int)) = some (.int .u32 ((orr a b : Nat) : Int)):=b32_or ha hb
theorem ba {a b : Nat} (ha : a < 4294967296) (hb : b < 4294967296) : binV .and (.int .u32 (a : Int)) (.int .u32 (b : Int)) = some (.int .u32 ((an a b : Nat) : Int)):=b32_and ha hb
theorem s24 (a : Nat) : binV .shl (.int .u32 (a : Int)) (.int .u64 24) = some (.int .u32 ((lsh a 24 : Nat) : Int)):=b32_shl a 24 .u64 (by decide)
theorem s16 (a : Nat) : binV .shl (.int .u32 (a : Int)) (.int .u64 16) = some (.int .u32 ((lsh a 16 : Nat) : Int)):=b32_shl a 16 .u64 (by decide)
theorem s8 (a : Nat) : binV .shl (.int .u32 (a : Int)) (.int .u64 8) = some (.int .u32 ((lsh a 8 : Nat) : Int)):=b32_shl a 8 .u64 (by decide)
theorem r10 (a : Nat) : binV .shr (.int .u32 (a : Int)) (.int .u64 10) = some (.int .u32 ((rsh a 10 : Nat) : Int)):=b32_shr a 10 .u64 (by decide)
theorem r3 (a : Nat) : binV .shr (.int .u32 (a : Int)) (.int .u64 3) = some (.int .u32 ((rsh a 3 : Nat) : Int)):=b32_shr a 3 .u64 (by decide)
theorem r24 (a : Nat) : binV .shr (.int .u32 (a : Int)) (.int .u64 24) = some (.int .u32 ((rsh a 24 : Nat) : Int)):=b32_shr a 24 .u64 (by decide)
theorem r16 (a : Nat) : binV .shr (.int .u32 (a : Int)) (.int .u64 16) = some (.int .u32 ((rsh a 16 : Nat) : Int)):=b32_shr a 16 .u64 (by decide)
theorem r8 (a : Nat) : binV .shr (.int .u32 (a : Int)) (.int .u64 8) = some (.int .u32 ((rsh a 8 : Nat) : Int)):=b32_shr a 8 .u64 (by decide)
theorem w4r (a b c d : Nat) : orr (orr (orr (lsh a 24) (lsh b 16)) (lsh c 8)) d = w4N a b c d:=w4N_ref a b c d
theorem wr (a b c d : Nat) : addN (addN (addN (xr (xr (rotN d 17) (rotN d 19)) (rsh d 10)) c) (xr (xr (rotN b 7) (rotN b 18)) (rsh b 3))) a = wN a b c d:=wN_ref a b c d
theorem xr_ref (k w e f g h : Nat) : addN (addN (addN (addN h (xr (xr (rotN e 6) (rotN e 11)) (rotN e 25))) (xr (an e f) (an (notN e) g))) k) w = xN k w e f g h:=xN_ref k w e f g h
theorem yr_ref (a b c : Nat) : addN (xr (xr (rotN a 2) (rotN a 13)) (rotN a 22)) (xr (xr (an a b) (an a c)) (an b c)) = yN a b c:=yN_ref a b c
theorem not32' {a : Nat} (ha : a < 4294967296) : IntKind.u32.wrap (((((if IntKind.u32.signed = true then (-1 : Int) else IntKind.u32.max) % 2 ^ IntKind.u32.bits).toNat ^^^ a % 2 ^ IntKind.u32.bits : Nat)) : Int) = ((notN a : Nat) : Int):=by
 show IntKind.u32.wrap (((4294967295 ^^^ a % 4294967296 : Nat)) : Int) = _
 rw [Nat.mod_eq_of_lt ha]
 exact w32 (notN_lt ha)
theorem wu8 (n : Nat) : IntKind.u8.wrap (n : Int) = ((UInt8.ofNat n).toNat : Int):=by
 rw [lenB1]
theorem rotS_N {x n : Nat} (hx : x < 4294967296) (h0 : 0 < n) (hn : n < 32) (nm : Name) (H : AHeap) : rotS [.val (.int .u32 (x : Int)),.val (.int .u64 (n : Int))] nm H = some (.val (.int .u32 ((rotN x n : Nat) : Int)),H):=by
 show (if x < 4294967296 /\ 0 < n /\ n < 32 then some (AV.val (.int .u32 (rotr x n : Nat)),H) else none) = _
 rw [if_pos ⟨hx,h0,hn⟩,rotr_rotN hx h0 hn]
theorem ro17 {x : Nat} (hx : x < 4294967296) (nm : Name) (H : AHeap) : rotS [.val (.int .u32 (x : Int)),.val (.int .u64 17)] nm H = some (.val (.int .u32 ((rotN x 17 : Nat) : Int)),H):=rotS_N (n:=17) hx (by decide) (by decide) nm H
theorem ro19 {x : Nat} (hx : x < 4294967296) (nm : Name) (H : AHeap) : rotS [.val (.int .u32 (x : Int)),.val (.int .u64 19)] nm H = some (.val (.int .u32 ((rotN x 19 : Nat) : Int)),H):=rotS_N (n:=19) hx (by decide) (by decide) nm H
theorem ro7 {x : Nat} (hx : x < 4294967296) (nm : Name) (H : AHeap) : rotS [.val (.int .u32 (x : Int)),.val (.int .u64 7)] nm H = some (.val (.int .u32 ((rotN x 7 : Nat) : Int)),H):=rotS_N (n:=7) hx (by decide) (by decide) nm H
theorem ro18 {x : Nat} (hx : x < 4294967296) (nm : Name) (H : AHeap) : rotS [.val (.int .u32 (x : Int)),.val (.int .u64 18)] nm H = some (.val (.int .u32 ((rotN x 18 : Nat) : Int)),H):=rotS_N (n:=18) hx (by decide) (by decide) nm H
theorem ro6 {x : Nat} (hx : x < 4294967296) (nm : Name) (H : AHeap) : rotS [.val (.int .u32 (x : Int)),.val (.int .u64 6)] nm H = some (.val (.int .u32 ((rotN x 6 : Nat) : Int)),H):=rotS_N (n:=6) hx (by decide) (by decide) nm H
theorem ro11 {x : Nat} (hx : x < 4294967296) (nm : Name) (H : AHeap) : rotS [.val (.int .u32 (x : Int)),.val (.int .u64 11)] nm H = some (.val (.int .u32 ((rotN x 11 : Nat) : Int)),H):=rotS_N (n:=11) hx (by decide) (by decide) nm H
theorem ro25 {x : Nat} (hx : x < 4294967296) (nm : Name) (H : AHeap) : rotS [.val (.int .u32 (x : Int)),.val (.int .u64 25)] nm H = some (.val (.int .u32 ((rotN x 25 : Nat) : Int)),H):=rotS_N (n:=25) hx (by decide) (by decide) nm H
theorem ro2 {x : Nat} (hx : x < 4294967296) (nm : Name) (H : AHeap) : rotS [.val (.int .u32 (x : Int)),.val (.int .u64 2)] nm H = some (.val (.int .u32 ((rotN x 2 : Nat) : Int)),H):=rotS_N (n:=2) hx (by decide) (by decide) nm H
theorem ro13 {x : Nat} (hx : x < 4294967296) (nm : Name) (H : AHeap) : rotS [.val (.int .u32 (x : Int)),.val (.int .u64 13)] nm H = some (.val (.int .u32 ((rotN x 13 : Nat) : Int)),H):=rotS_N (n:=13) hx (by decide) (by decide) nm H
theorem ro22 {x : Nat} (hx : x < 4294967296) (nm : Name) (H : AHeap) : rotS [.val (.int .u32 (x : Int)),.val (.int .u64 22)] nm H = some (.val (.int .u32 ((rotN x 22 : Nat) : Int)),H):=rotS_N (n:=22) hx (by decide) (by decide) nm H
theorem d20 {B0 B1 B2 B3 : Nat} (g3 : B3 < 256) : ∃ v1 v2 v3 v4 v5 v6 : Nat,v6 = w4N B0 B1 B2 B3 /\ binV .shl (.int .u32 (B0 : Int)) (.int .u64 24) = some (.int .u32 (v1 : Int)) /\ binV .shl (.int .u32 (B1 : Int)) (.int .u64 16) = some (.int .u32 (v2 : Int)) /\ binV .shl (.int .u32 (B2 : Int)) (.int .u64 8) = some (.int .u32 (v3 : Int)) /\ binV .or (.int .u32 (v1 : Int)) (.int .u32 (v2 : Int)) = some (.int .u32 (v4 : Int)) /\ binV .or (.int .u32 (v4 : Int)) (.int .u32 (v3 : Int)) = some (.int .u32 (v5 : Int)) /\ binV .or (.int .u32 (v5 : Int)) (.int .u32 (B3 : Int)) = some (.int .u32 (v6 : Int)):=by
 have e3:=bo (orr_lt (orr_lt (lsh_lt B0 24) (lsh_lt B1 16)) (lsh_lt B2 8)) (show B3 < 4294967296 by omega)
 rw [w4r] at e3
 exact ⟨_,_,_,_,_,_,rfl,s24 B0,s16 B1,s8 B2,bo (lsh_lt B0 24) (lsh_lt B1 16),bo (orr_lt (lsh_lt B0 24) (lsh_lt B1 16)) (lsh_lt B2 8),e3⟩
theorem d25 {x0 x1 x9 x14 : Nat} (l1 : x1 < 4294967296) (l14 : x14 < 4294967296) : ∃ u1 u2 u3 u4 u5 u6 u7 u8 u9 u10 u11 u12 v : Nat,v = wN x0 x1 x9 x14 /\ (∀ (nm : Name) (H : AHeap),rotS [.val (.int .u32 (x14 : Int)),.val (.int .u64 17)] nm H = some (.val (.int .u32 (u1 : Int)),H)) /\ (∀ (nm : Name) (H : AHeap),rotS [.val (.int .u32 (x14 : Int)),.val (.int .u64 19)] nm H = some (.val (.int .u32 (u2 : Int)),H)) /\ (∀ (nm : Name) (H : AHeap),rotS [.val (.int .u32 (x1 : Int)),.val (.int .u64 7)] nm H = some (.val (.int .u32 (u3 : Int)),H)) /\ (∀ (nm : Name) (H : AHeap),rotS [.val (.int .u32 (x1 : Int)),.val (.int .u64 18)] nm H = some (.val (.int .u32 (u4 : Int)),H)) /\ binV .shr (.int .u32 (x14 : Int)) (.int .u64 10) = some (.int .u32 (u5 : Int)) /\ binV .shr (.int .u32 (x1 : Int)) (.int .u64 3) = some (.int .u32 (u6 : Int)) /\ binV .xor (.int .u32 (u1 : Int)) (.int .u32 (u2 : Int)) = some (.int .u32 (u7 : Int)) /\ binV .xor (.int .u32 (u7 : Int)) (.int .u32 (u5 : Int)) = some (.int .u32 (u8 : Int)) /\ binV .xor (.int .u32 (u3 : Int)) (.int .u32 (u4 : Int)) = some (.int .u32 (u9 : Int)) /\ binV .xor (.int .u32 (u9 : Int)) (.int .u32 (u6 : Int)) = some (.int .u32 (u10 : Int)) /\ binV .add (.int .u32 (u8 : Int)) (.int .u32 (x9 : Int)) = some (.int .u32 (u11 : Int)) /\ binV .add (.int .u32 (u11 : Int)) (.int .u32 (u10 : Int)) = some (.int .u32 (u12 : Int)) /\ binV .add (.int .u32 (u12 : Int)) (.int .u32 (x0 : Int)) = some (.int .u32 (v : Int)):=by
 have d3:=b32_add (addN (addN (xr (xr (rotN x14 17) (rotN x14 19)) (rsh x14 10)) x9) (xr (xr (rotN x1 7) (rotN x1 18)) (rsh x1 3))) x0
 rw [wr] at d3
 exact ⟨_,_,_,_,_,_,_,_,_,_,_,_,_,rfl,ro17 l14,ro19 l14,ro7 l1,ro18 l1,r10 x14,r3 x1,bx (rotN_lt 17 l14) (rotN_lt 19 l14),bx (xr_lt (rotN_lt 17 l14) (rotN_lt 19 l14)) (rsh_lt 10 l14),bx (rotN_lt 7 l1) (rotN_lt 18 l1),bx (xr_lt (rotN_lt 7 l1) (rotN_lt 18 l1)) (rsh_lt 3 l1),b32_add _ _,b32_add _ _,d3⟩
theorem d31 {k w e f g h : Nat} (le : e < 4294967296) (lf : f < 4294967296) (lg : g < 4294967296) : ∃ u1 u2 u3 u4 u5 u6 u7 u8 u9 u10 u11 u12 v : Nat,v = xN k w e f g h /\ (∀ (nm : Name) (H : AHeap),rotS [.val (.int .u32 (e : Int)),.val (.int .u64 6)] nm H = some (.val (.int .u32 (u1 : Int)),H)) /\ (∀ (nm : Name) (H : AHeap),rotS [.val (.int .u32 (e : Int)),.val (.int .u64 11)] nm H = some (.val (.int .u32 (u2 : Int)),H)) /\ (∀ (nm : Name) (H : AHeap),rotS [.val (.int .u32 (e : Int)),.val (.int .u64 25)] nm H = some (.val (.int .u32 (u3 : Int)),H)) /\ binV .xor (.int .u32 (u1 : Int)) (.int .u32 (u2 : Int)) = some (.int .u32 (u4 : Int)) /\ binV .xor (.int .u32 (u4 : Int)) (.int .u32 (u3 : Int)) = some (.int .u32 (u5 : Int)) /\ binV .add (.int .u32 (h : Int)) (.int .u32 (u5 : Int)) = some (.int .u32 (u6 : Int)) /\ binV .and (.int .u32 (e : Int)) (.int .u32 (f : Int)) = some (.int .u32 (u7 : Int)) /\ IntKind.u32.wrap (((((if IntKind.u32.signed = true then (-1 : Int) else IntKind.u32.max) % 2 ^ IntKind.u32.bits).toNat ^^^ e % 2 ^ IntKind.u32.bits : Nat)) : Int) = (u8 : Int) /\ binV .and (.int .u32 (u8 : Int)) (.int .u32 (g : Int)) = some (.int .u32 (u9 : Int)) /\ binV .xor (.int .u32 (u7 : Int)) (.int .u32 (u9 : Int)) = some (.int .u32 (u10 : Int)) /\ binV .add (.int .u32 (u6 : Int)) (.int .u32 (u10 : Int)) = some (.int .u32 (u11 : Int)) /\ binV .add (.int .u32 (u11 : Int)) (.int .u32 (k : Int)) = some (.int .u32 (u12 : Int)) /\ binV .add (.int .u32 (u12 : Int)) (.int .u32 (w : Int)) = some (.int .u32 (v : Int)):=by
 have d:=b32_add (addN (addN (addN h (xr (xr (rotN e 6) (rotN e 11)) (rotN e 25))) (xr (an e f) (an (notN e) g))) k) w
 rw [xr_ref] at d
 exact ⟨_,_,_,_,_,_,_,_,_,_,_,_,_,rfl,ro6 le,ro11 le,ro25 le,bx (rotN_lt 6 le) (rotN_lt 11 le),bx (xr_lt (rotN_lt 6 le) (rotN_lt 11 le)) (rotN_lt 25 le),b32_add _ _,ba le lf,not32' le,ba (notN_lt le) lg,bx (an_lt lf) (an_lt lg),b32_add _ _,b32_add _ _,d⟩
theorem d32 {a b c : Nat} (la : a < 4294967296) (lb : b < 4294967296) (lc : c < 4294967296) : ∃ u1 u2 u3 u4 u5 u6 u7 u8 u9 u10 v : Nat,v = yN a b c /\ (∀ (nm : Name) (H : AHeap),rotS [.val (.int .u32 (a : Int)),.val (.int .u64 2)] nm H = some (.val (.int .u32 (u1 : Int)),H)) /\ (∀ (nm : Name) (H : AHeap),rotS [.val (.int .u32 (a : Int)),.val (.int .u64 13)] nm H = some (.val (.int .u32 (u2 : Int)),H)) /\ (∀ (nm : Name) (H : AHeap),rotS [.val (.int .u32 (a : Int)),.val (.int .u64 22)] nm H = some (.val (.int .u32 (u3 : Int)),H)) /\ binV .xor (.int .u32 (u1 : Int)) (.int .u32 (u2 : Int)) = some (.int .u32 (u4 : Int)) /\ binV .xor (.int .u32 (u4 : Int)) (.int .u32 (u3 : Int)) = some (.int .u32 (u5 : Int)) /\ binV .and (.int .u32 (a : Int)) (.int .u32 (b : Int)) = some (.int .u32 (u6 : Int)) /\ binV .and (.int .u32 (a : Int)) (.int .u32 (c : Int)) = some (.int .u32 (u7 : Int)) /\ binV .xor (.int .u32 (u6 : Int)) (.int .u32 (u7 : Int)) = some (.int .u32 (u8 : Int)) /\ binV .and (.int .u32 (b : Int)) (.int .u32 (c : Int)) = some (.int .u32 (u9 : Int)) /\ binV .xor (.int .u32 (u8 : Int)) (.int .u32 (u9 : Int)) = some (.int .u32 (u10 : Int)) /\ binV .add (.int .u32 (u5 : Int)) (.int .u32 (u10 : Int)) = some (.int .u32 (v : Int)):=by
 have d:=b32_add (xr (xr (rotN a 2) (rotN a 13)) (rotN a 22)) (xr (xr (an a b) (an a c)) (an b c))
 rw [yr_ref] at d
 exact ⟨_,_,_,_,_,_,_,_,_,_,_,rfl,ro2 la,ro13 la,ro22 la,bx (rotN_lt 2 la) (rotN_lt 13 la),bx (xr_lt (rotN_lt 2 la) (rotN_lt 13 la)) (rotN_lt 22 la),ba la lb,ba la lc,bx (an_lt lb) (an_lt lc),ba lb lc,bx (xr_lt (an_lt lb) (an_lt lc)) (an_lt lc),d⟩
end Go.Proofs.YtbllpnjappddeaaGreat.Den
end
section
set_option linter.unusedSimpArgs false
set_option linter.unusedVariables false
set_option maxRecDepth 100000
namespace Go.Proofs.YtbllpnjappddeaaGreat.Den
open Go.RowKit
attribute [local simp] runList aop abuiltin acall awanted ayielded env T0 tput tset Ran aload astore setMany upd binV aslice aindexAddr apart aindex alen acopy srcCells natOf boundOf aeq AV.nilEq convV appK fillA List.range List.range.loop onF isU8 rowOf
def codeAt : List Nat -> Code -> Code
 | [],c => c
 | 0 :: r,.seq a _ => codeAt r a
 | 1 :: r,.seq _ b => codeAt r b
 | 2 :: r,.block _ b => codeAt r b
 | 3 :: r,.loop b => codeAt r b
 | 4 :: r,.cond _ a _ => codeAt r a
 | 5 :: r,.cond _ _ b => codeAt r b
 | _,_ => .skip
noncomputable def sum2Code (p : List Nat) : Code:=codeAt p (Tryz.f390.body.getD .skip)
theorem ws_getD {l : List Nat} {i : Nat} (h : i < l.length) : (ws l)[i]? = some (.val (.int .u32 ((l.getD i 0 : Nat) : Int))):=by
 rw [List.getElem?_eq_getElem (by rw [ws_length]; exact h),ws_getElem,List.getD_eq_getElem?_getD,List.getElem?_eq_getElem h]; rfl
section
variable {P : Program} {call : CallF} {p : Name} {n : Nat} {ops : Array Oper} {Q : Exit -> Nat -> Temps -> AHeap -> Prop} {c : Nat} {T : Temps} {H : AHeap}
theorem op_at {ops ops' : Array Oper} (h : ops' = ops) (i : Nat) {o : Oper} (ho : ops[i]? = some o) : ops'[i]? = some o:=h ▸ ho
theorem op_sz {ops ops' : Array Oper} (h : ops' = ops) {k : Nat} (ho : ops.size = k) : ops'.size = k:=h ▸ ho
theorem planW_ex {ops' : Array Oper} {K : Nat -> Temps -> AHeap -> Prop} {x : Item} {r : List Item} {k : Nat} {Hs : List (Nat × AHeap)} {o : Oper} {d : Option Nat} (ho : ops'[x.i]? = some o) (hg : o.guard = none) (hd : o.dst = d)
  (h : ∃ y : AV × AHeap,aop P call o (env T) ((c + x.i) :: p) H = some y /\ chkW P call o (env T) ((c + x.i) :: p) y.1 Hs x.chk /\ planW P call ops' p c K (k + 1) r (tput T d y.1) (bif x.e then (k + 1,y.2) :: Hs else Hs) y.2) :
  planW P call ops' p c K k (x :: r) T Hs H:=by
 obtain ⟨⟨v,H'⟩,h1,h2,h3⟩:=h
 subst hd
 have hw : awanted ops' o T = true:=by unfold awanted; rw [hg]
 simp only [planW,ho,hw,if_true,h1]
 exact ⟨h2,h3⟩
theorem planW_end {ops' : Array Oper} {K : Nat -> Temps -> AHeap -> Prop} {k m : Nat} {Hs : List (Nat × AHeap)} (hs : ops'.size = m) (h : K (c + m) T H) : planW P call ops' p c K k [] T Hs H:=by
 subst hs; exact h
theorem AWP.draw_ops (hm : P.follows .mixedOrders = true) (hcall : CallOK P call) (ms : List Nat) (pl : List Item) {id : Nat} (hd : dstOk n ops = true) (hp : planOK ops ms pl = true)
  (h : ∀ ops' : Array Oper,ops' = ops -> ∀ K : Nat -> Temps -> AHeap -> Prop,(∀ c T H,Q .normal c T H -> K c T H) -> planW P call ops' p c K 0 pl T [(0,H)] H) : AWP P p n (.region id ops true) Q c T H :=
 AWP.draw_last hm hcall ms pl hd hp (h ops rfl)
end
end Go.Proofs.YtbllpnjappddeaaGreat.Den
end
