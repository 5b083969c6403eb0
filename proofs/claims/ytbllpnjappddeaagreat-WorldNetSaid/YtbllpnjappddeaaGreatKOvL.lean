/- What stands for slices.Delete, comitiaref2.Sum and comitiaref3.Mac in the executor: known bytes. -/
import Derived.Test.YtbllpnjappddeaaGreatKRfI
import Derived.Test.YtbllpnjappddeaaGreatKRsO
import Derived.Test.YtbllpnjappddeaaGreatKLibInsert
set_option linter.unusedVariables false
set_option linter.unusedSimpArgs false
section
set_option linter.unusedSimpArgs false
set_option linter.unusedVariables false
set_option maxRecDepth 100000
namespace Go.Proofs.YtbllpnjappddeaaGreat.Den
open Go.RowKit
variable {P : Program} {ρ : Vals} {ν : Nat -> Option Name}
def odelS (sz : Nat) (args : List SV) (h : Mem) : SRes :=
 match args with
 | [.sl n off len s,.int .i64 (.lit (.ofNat i)),.int .i64 (.lit (.ofNat j))] =>
  bif Nat.beq s sz && Nat.blt i j && Nat.ble j len then
   match h.get n with
   | some row =>
    match sseg off (Nat.mul len sz) row with
    | some c => bif c.all SV.one then forceN (Nat.sub len (Nat.sub j i)) fun k => some (.sl h.next 0 k sz,(h.drop n).push (List.append (c.take (Nat.mul i sz)) (c.drop (Nat.mul j sz)))) else none
    | none => none
   | none => none
  else none
 | _ => none
theorem odelS_ok {f : FuncId} {sz : Nat} (hf : FnOK P f (deleteS sz)) {args : List SV} {h h' : Mem} {r : SV} (hr : odelS sz args h = some (r,h')) : isGo P f = true /\ ∀ (ν : Nat -> Option Name) (H : AHeap) (nm : Name) (xs : List AV),MRel ρ ν h H -> Fre ν nm -> SRels ρ ν args xs ->
  ∃ z H',Sim P f xs nm H z H' /\ Out ρ ν nm r h' z H':=by
 refine ovr_fn hf (g:=odelS sz) (fun args h r h' hr ν H nm xs hm hfre hx => ?_) hr
 unfold odelS at hr
 split at hr
 ·rename_i n off len s i j
  cases hc : (Nat.beq s sz && Nat.blt i j && Nat.ble j len) with
  | false => rw [hc] at hr; cases hr
  | true =>
   rw [hc] at hr
   simp only [cond_true] at hr
   split at hr
   ·rename_i row h1
    split at hr
    ·rename_i c h2
     cases hcd : c.all SV.one with
     | false => rw [hcd] at hr; cases hr
     | true =>
      rw [hcd] at hr
      simp only [cond_true,forceN_eq,Option.some.injEq,Prod.mk.injEq] at hr
      obtain ⟨rfl,rfl⟩:=hr
      simp only [Bool.and_eq_true] at hc
      obtain ⟨⟨c1,c2⟩,c3⟩:=hc
      obtain rfl:=Nat.eq_of_beq_eq_true c1
      have c2:=blt_lt c2
      have c3:=Nat.le_of_ble_eq_true c3
      cases hx with
      | cons hx1 t =>
       cases t with
       | cons hx2 t =>
        cases t with
        | cons hx3 t =>
         cases t
         cases hx2
         cases hx3
         cases hx1 with
         | @sl _ _ _ _ a ha =>
          obtain ⟨ma,rw1,e1,e2,e3⟩:=hm.rows n row h1
          rw [ha] at e1; cases e1
          obtain ⟨g1,g2⟩:=e3.seg h2
          refine ⟨_,_,?_,.push (h:=h.drop n) (hm.drop ha) hfre ((g1.take (i * s)).append (g1.drop (j * s))) fun ν' hn => .sl hn⟩
          simp only [deleteS,IE.den,e2]
          rw [if_pos ⟨by trivial,c2,c3,g2,sall_one g1 hcd⟩]
          rfl
    ·cases hr
   ·cases hr
 ·cases hr
def osum2 (args : List SV) (h : Mem) : SRes :=
 match args with
 | [x] =>
  match litParts h [x] with
  | some l => bif Nat.ble l.length 549755813888 then forceB (sumN l) fun b => some (.agg b,h) else none
  | none => none
 | _ => none
theorem lit_part {h : Mem} {H : AHeap} (hm : ∀ n row,h.get n = some row -> ∃ m row',ν n = some m /\ H m = some row' /\ SRels ρ ν row row') {x : SV} {y : AV} (hx : SRel ρ ν x y) {k : List Nat} (hk : litParts h [x] = some k) : partC H 1 y = some (k.length,bs (u8s k)) /\ ∀ b ∈ k,b < 256:=by
 obtain ⟨k1,k2⟩:=litParts_rel hm (.cons hx .nil) hk
 refine ⟨?_,k2⟩
 obtain ⟨a,c,n',c',e1,e2,e3,e4⟩:=partsC_cons k1
 simp only [partsC,Option.some.injEq,Prod.mk.injEq] at e2
 obtain ⟨rfl,rfl⟩:=e2
 rw [e1,e3,e4,List.append_nil,Nat.add_zero]
theorem osum2_ok {args : List SV} {h h' : Mem} {r : SV} (hr : osum2 args h = some (r,h')) : isGo Tryz.prog 390 = true /\ ∀ (ν : Nat -> Option Name) (H : AHeap) (nm : Name) (xs : List AV),MRel ρ ν h H -> Fre ν nm -> SRels ρ ν args xs ->
  ∃ z H',Sim Tryz.prog 390 xs nm H z H' /\ Out ρ ν nm r h' z H':=by
 refine ovr_fn sum2_ok (g:=osum2) (fun args h r h' hr ν H nm xs hm hf hx => ?_) hr
 unfold osum2 at hr
 split at hr
 ·rename_i x
  split at hr
  ·rename_i l hl
   cases hc : Nat.ble l.length 549755813888 with
   | false => rw [hc] at hr; cases hr
   | true =>
    rw [hc] at hr
    simp only [cond_true,forceB_eq,Option.some.injEq,Prod.mk.injEq] at hr
    obtain ⟨rfl,rfl⟩:=hr
    cases hx with
    | cons hx t =>
     cases t
     obtain ⟨g1,g2⟩:=lit_part hm.rows hx hl
     obtain ⟨s1,s2⟩:=sumN_eq l g2
     refine ⟨_,H,?_,.same hm (.agg (bs_u8s s2))⟩
     simp only [sum2S,g1,bytesA_bs]
     rw [if_pos (Nat.le_of_ble_eq_true hc),s1]
  ·cases hr
 ·cases hr
def omac3 (args : List SV) (h : Mem) : SRes :=
 match args with
 | [key,x] =>
  match litParts h [key],litParts h [x] with
  | some k,some l => bif Nat.ble k.length 64 && Nat.ble l.length 274877906944 then forceB (macN k l) fun b => some (.agg b,h) else none
  | _,_ => none
 | _ => none
theorem omac3_ok {args : List SV} {h h' : Mem} {r : SV} (hr : omac3 args h = some (r,h')) : isGo Tryz.prog 372 = true /\ ∀ (ν : Nat -> Option Name) (H : AHeap) (nm : Name) (xs : List AV),MRel ρ ν h H -> Fre ν nm -> SRels ρ ν args xs ->
  ∃ z H',Sim Tryz.prog 372 xs nm H z H' /\ Out ρ ν nm r h' z H':=by
 refine ovr_fn mac3_ok (g:=omac3) (fun args h r h' hr ν H nm xs hm hf hx => ?_) hr
 unfold omac3 at hr
 split at hr
 ·rename_i key x
  split at hr
  ·rename_i k l hk hl
   cases hc : (Nat.ble k.length 64 && Nat.ble l.length 274877906944) with
   | false => rw [hc] at hr; cases hr
   | true =>
    rw [hc] at hr
    simp only [cond_true,forceB_eq,Option.some.injEq,Prod.mk.injEq] at hr
    obtain ⟨rfl,rfl⟩:=hr
    simp only [Bool.and_eq_true] at hc
    cases hx with
    | cons hx1 t =>
     cases t with
     | cons hx2 t =>
      cases t
      obtain ⟨g1,g2⟩:=lit_part hm.rows hx1 hk
      obtain ⟨f1,f2⟩:=lit_part hm.rows hx2 hl
      obtain ⟨s1,s2⟩:=macN_eq k l g2 f2
      refine ⟨_,H,?_,.same hm (.agg (bs_u8s s2))⟩
      simp only [mac3S,g1,f1,bytesA_bs]
      rw [if_pos ⟨Nat.le_of_ble_eq_true hc.1,Nat.le_of_ble_eq_true hc.2⟩,s1]
  ·cases hr
 ·cases hr
def ofailed (args : List SV) (h : Mem) : SRes :=
 match args with
 | [.ptr q 0,.agg [.int .i64 _,.int .i64 _],.agg [.int .i64 _,.int .i64 _],.int .i64 _] =>
  match h.get q with
  | some [_,_,_,_,_,_,_,.val (.slice none 0 0)] => some (.tup [.agg [.int .i64 (.lit (.ofNat 0)),.int .i64 (.lit (.ofNat 0)),.int .i64 (.lit (.ofNat 0)),.int .i64 (.lit (.ofNat 0)),.int .i64 (.lit (.ofNat 0)),.int .i64 (.lit (.ofNat 0))],.bool false],h)
  | _ => none
 | _ => none
theorem ofailed_ok {args : List SV} {h h' : Mem} {r : SV} (hr : ofailed args h = some (r,h')) : isGo Tryz.prog 27 = true /\ ∀ (ν : Nat -> Option Name) (H : AHeap) (nm : Name) (xs : List AV),MRel ρ ν h H -> Fre ν nm -> SRels ρ ν args xs ->
  ∃ z H',Sim Tryz.prog 27 xs nm H z H' /\ Out ρ ν nm r h' z H':=by
 refine ovr_fn failed_ok (g:=ofailed) (fun args h r h' hr ν H nm xs hm hf hx => ?_) hr
 unfold ofailed at hr
 split at hr
 ·rename_i q e1 e2 e3 e4 e5
  split at hr
  ·rename_i x1 x2 x3 x4 x5 x6 x7 hg
   simp only [Option.some.injEq,Prod.mk.injEq] at hr
   obtain ⟨rfl,rfl⟩:=hr
   cases hx with
   | cons hq t =>
    cases t with
    | cons h1 t =>
     cases t with
     | cons h2 t =>
      cases t with
      | cons h3 t =>
       cases t
       cases h3
       cases h1 with
       | agg h1 =>
        cases h2 with
        | agg h2 =>
         cases h1 with
         | cons k1 t =>
          cases t with
          | cons k2 t =>
           cases t
           cases k1
           cases k2
           cases h2 with
           | cons k1 t =>
            cases t with
            | cons k2 t =>
             cases t
             cases k1
             cases k2
             cases hq with
             | @ptr _ _ m hν =>
              obtain ⟨m',row',hν',hH,hrow⟩:=hm.rows _ _ hg
              rw [hν] at hν'; cases hν'
              have h7 : row'[7]? = some (AV.val (.slice none 0 0)):=by
               cases hrow with
               | cons _ t => cases t with
                | cons _ t => cases t with
                 | cons _ t => cases t with
                  | cons _ t => cases t with
                   | cons _ t => cases t with
                    | cons _ t => cases t with
                     | cons _ t => cases t with
                      | cons h t => cases h; rfl
              refine ⟨_,H,?_,.same hm (.tup (.cons (.agg (.cons (.int .i64 (.lit (.ofNat 0))) (.cons (.int .i64 (.lit (.ofNat 0))) (.cons (.int .i64 (.lit (.ofNat 0))) (.cons (.int .i64 (.lit (.ofNat 0))) (.cons (.int .i64 (.lit (.ofNat 0))) (.cons (.int .i64 (.lit (.ofNat 0))) .nil))))))) (.cons (.bool false) .nil)))⟩
              simp only [failedS,hH,h7]
              rfl
  ·cases hr
 ·cases hr
end Go.Proofs.YtbllpnjappddeaaGreat.Den
end
section
set_option linter.unusedSimpArgs false
namespace Go.Proofs.YtbllpnjappddeaaGreat.Den
open Go.RowKit
variable {P : Program} {ρ : Vals} {ν : Nat -> Option Name}
noncomputable def cA (l r : List SV) : List SV:=@List.rec SV (fun _ => List SV) r (fun a _ ih => a :: ih) l
noncomputable def cB (l : List Nat) (r : List SV) : List SV:=@List.rec Nat (fun _ => List SV) r (fun n _ ih => SV.int .u8 (.lit (.ofNat n)) :: ih) l
noncomputable def zb : SV:=.int .u8 (.lit (.ofNat 0))
noncomputable def cZ (n : Nat) (r : List SV) : List SV:=@Nat.rec (fun _ => List SV) r (fun _ ih => zb :: ih) n
noncomputable def cE (l : List Nat) : List IE:=@List.rec Nat (fun _ => List IE) [] (fun n _ ih => IE.lit (.ofNat n) :: ih) l
noncomputable def nI (n : Nat) : SV:=.int .i64 (.lit (.ofNat n))
noncomputable def sN : SV:=.val (.slice none 0 0)
noncomputable def kOrd : IntKind -> Nat:=@IntKind.rec (fun _ => Nat) 0 1 2 3 4 5 6 7
theorem kOrd_inj : ∀ {a b : IntKind},kOrd a = kOrd b -> a = b:=by intro a b; cases a <;> cases b <;> simp [kOrd]
noncomputable def zq (a b : Int) : Bool:=@Int.casesOn (fun _ => Bool) a (fun m => @Int.casesOn (fun _ => Bool) b (fun n => Nat.beq m n) fun _ => false) (fun m => @Int.casesOn (fun _ => Bool) b (fun _ => false) fun n => Nat.beq m n)
theorem zq_eq {a b : Int} (h : zq a b = true) : a = b:=by
 cases a <;> cases b <;> first | cases h | (have h':=Nat.eq_of_beq_eq_true h; subst h'; rfl)
noncomputable def iq (a b : IE) : Bool :=
 match a,b with
 | .lit m,.lit n => zq m n
 | a,b => IE.beq a b
theorem iq_eq {a b : IE} (h : iq a b = true) : a = b:=by
 unfold iq at h
 split at h
 ·rw [zq_eq h]
 ·exact IE.beq_eq h
noncomputable def vq (a b : SV) : Bool :=
 match a,b with
 | .int k m,.int k' n => Nat.beq (kOrd k) (kOrd k') && iq m n
 | a,b => SV.beq a b
theorem vq_eq {a b : SV} (h : vq a b = true) : a = b:=by
 unfold vq at h
 split at h
 ·simp only [Bool.and_eq_true] at h
  rw [kOrd_inj (Nat.eq_of_beq_eq_true h.1),iq_eq h.2]
 ·exact SV.beq_eq h
noncomputable def isZ (a : SV) : Bool :=
 match a with
 | .int .u8 (.lit (.ofNat n)) => Nat.beq n 0
 | _ => false
theorem isZ_eq {a : SV} (h : isZ a = true) : a = zb:=by
 unfold isZ at h
 split at h
 ·rw [Nat.eq_of_beq_eq_true h]; rfl
 ·cases h
noncomputable def tZ : Nat -> List SV -> Bool:=@Nat.rec (fun _ => List SV -> Bool) (fun l => @List.casesOn SV (fun _ => Bool) l true (fun _ _ => false)) (fun _ ih l => @List.casesOn SV (fun _ => Bool) l false (fun a r => @Bool.casesOn (fun _ => Bool) (isZ a) false (ih r)))
theorem tZ_eq : ∀ {n : Nat} {l : List SV},tZ n l = true -> l = cZ n []
 | 0,l,h => by cases l with
  | nil => rfl
  | cons a r => cases h
 | n + 1,l,h => by
  cases l with
  | nil => cases h
  | cons a r =>
   have h' : @Bool.casesOn (fun _ => Bool) (isZ a) false (tZ n r) = true:=h
   cases hz : isZ a with
   | false => rw [hz] at h'; cases h'
   | true =>
    rw [hz] at h'
    have h2 : tZ n r = true:=h'
    rw [isZ_eq hz,tZ_eq h2]; rfl
noncomputable def rowq : List SV -> Nat -> List SV -> Bool:=@List.rec SV (fun _ => Nat -> List SV -> Bool) (fun m row => @Bool.casesOn (fun _ => Bool) (tZ m row) false true) (fun a _ ih m row => @List.casesOn SV (fun _ => Bool) row false (fun b r => @Bool.casesOn (fun _ => Bool) (vq b a) false (ih m r)))
theorem cA_cons (a : SV) (l r : List SV) : cA (a :: l) r = a :: cA l r:=rfl
theorem rowq_eq : ∀ {l : List SV} {m : Nat} {row : List SV},rowq l m row = true -> row = cA l (cZ m [])
 | [],m,row,h => by
  have h' : @Bool.casesOn (fun _ => Bool) (tZ m row) false true = true:=h
  cases hz : tZ m row with
  | false => rw [hz] at h'; cases h'
  | true => exact tZ_eq hz
 | a :: l,m,row,h => by
  cases row with
  | nil => cases h
  | cons b r =>
   have h' : @Bool.casesOn (fun _ => Bool) (vq b a) false (rowq l m r) = true:=h
   cases hz : vq b a with
   | false => rw [hz] at h'; cases h'
   | true =>
    rw [hz] at h'
    have h2 : rowq l m r = true:=h'
    rw [vq_eq hz,rowq_eq h2]; rfl
abbrev ZRows:=List (Nat × List SV × Nat)
noncomputable def zrow (l : List SV) (m : Nat) : List SV:=@Nat.casesOn (fun _ => List SV) m l (fun _ => cA l (cZ m []))
theorem zrow_eq : ∀ (l : List SV) (m : Nat),zrow l m = cA l (cZ m [])
 | l,0 => by
  show l = cA l []
  induction l with
  | nil => rfl
  | cons a l ih => rw [cA_cons,<- ih]
 | _,_ + 1 => rfl
noncomputable def putZ : ZRows -> Tr (List SV) -> Tr (List SV)
 | [],m => m
 | (k,l,z) :: r,m => putZ r (m.put k (zrow l z))
noncomputable def zmem (next : Nat) (rows : ZRows) : Mem:=⟨next,putZ rows .nil⟩
noncomputable def sameZ (h : Mem) : ZRows -> Bool
 | [] => true
 | (k,l,z) :: r => (match h.get k with
  | some row => rowq l z row
  | none => false) && sameZ h r
theorem putZ_get : ∀ (l : ZRows) (m : Tr (List SV)) (k : Nat) (row : List SV),(putZ l m).get k = some row -> (∃ c z,(k,c,z) ∈ l /\ row = zrow c z) \/ m.get k = some row
 | [],_,_,_,h => .inr h
 | (k',c,z) :: r,m,k,row,h => by
  rcases putZ_get r _ k row h with ⟨c',z',h1,h2⟩ | h1
  ·exact .inl ⟨c',z',List.mem_cons_of_mem _ h1,h2⟩
  ·rcases put_get_some m k' (zrow c z) k row h1 with ⟨rfl,rfl⟩ | ⟨_,h2⟩
   ·exact .inl ⟨c,z,by simp,rfl⟩
   ·exact .inr h2
theorem sameZ_at {h' : Mem} : ∀ {l : ZRows},sameZ h' l = true -> ∀ k c z,(k,c,z) ∈ l -> h'.get k = some (zrow c z)
 | [],_,_,_,_,h => by cases h
 | (k',c',z') :: r,hs,k,c,z,h => by
  simp only [sameZ,Bool.and_eq_true] at hs
  rcases List.mem_cons.1 h with e | h
  ·cases e
   have h1:=hs.1
   split at h1
   ·rename_i r' hr'; rw [hr',rowq_eq h1,zrow_eq]
   ·cases h1
  ·exact sameZ_at hs.2 k c z h
theorem sameZ_rel {next : Nat} {h' : Mem} {H : AHeap} {rows : ZRows} (hn : next = h'.next) (hm : MRel ρ ν h' H) (hs : sameZ h' rows = true) : MRel ρ ν (zmem next rows) H where
 rows:=fun k row hk => by
  rcases putZ_get rows .nil k row hk with ⟨c,z,h1,rfl⟩ | h1
  ·exact hm.rows k _ (sameZ_at hs k c z h1)
  ·rw [nil_get] at h1; cases h1
 inj:=hm.inj
 lt:=fun k hk => by show k < next; rw [hn]; exact hm.lt k hk
structure PZ where
 f : FuncId
 args : List SV
 next : Nat
 rows : ZRows
 r : SV
 next' : Nat
 rows' : ZRows
noncomputable def pzR (r : SV) (next' : Nat) (rows' : ZRows) : SRes -> Bool
 | some (x,h') => vq x r && Nat.beq next' h'.next && sameZ h' rows'
 | none => false
noncomputable def pzOK (sc : SCall) (p : PZ) : Bool:=pzR p.r p.next' p.rows' (sc p.f p.args (zmem p.next p.rows))
noncomputable def PZ.Holds (P : Program) (ρ : Vals) (p : PZ) : Prop :=
 isGo P p.f = true /\ ∀ (ν : Nat -> Option Name) (H : AHeap) (nm : Name) (xs : List AV),MRel ρ ν (zmem p.next p.rows) H -> Fre ν nm -> SRels ρ ν p.args xs -> ∃ z H',Sim P p.f xs nm H z H' /\ Out ρ ν nm p.r (zmem p.next' p.rows') z H'
theorem pz_holds {sc : SCall} {p : PZ} (h : pzOK sc p = true) (hsc : SCallOK P ρ sc) : p.Holds P ρ:=by
 unfold pzOK at h
 cases hc : sc p.f p.args (zmem p.next p.rows) with
 | none => rw [hc] at h; cases h
 | some x =>
  obtain ⟨r,h'⟩:=x
  rw [hc] at h
  simp only [pzR,Bool.and_eq_true] at h
  obtain ⟨⟨h1,h2⟩,h3⟩:=h
  obtain ⟨g1,g2⟩:=hsc _ _ _ _ _ hc
  refine ⟨g1,fun ν H nm xs hm hfre hxs => ?_⟩
  obtain ⟨z,H',k1,ν',k2,k3,k4,k5⟩:=g2 ν H nm xs hm hfre hxs
  refine ⟨z,H',k1,ν',k2,k3,sameZ_rel (Nat.eq_of_beq_eq_true h2) k4 h3,?_⟩
  rw [<- vq_eq h1]
  exact k5
end Go.Proofs.YtbllpnjappddeaaGreat.Den
end
section
set_option linter.unusedSimpArgs false
set_option linter.unusedVariables false
namespace Go.Proofs.YtbllpnjappddeaaGreat.Den
open Go.RowKit
variable {P : Program} {ρ : Vals} {ν : Nat -> Option Name}
open Classical in
noncomputable def givenH (D : Name -> Prop) (H : AHeap) : AHeap:=fun k => if D k then H k else none
open Classical in
noncomputable def leftH (nm : Name) (D : Name -> Prop) (H H' : AHeap) : AHeap:=fun k =>
 if Under nm k \/ D k then H' k else match H k with
  | some r => some r
  | none => H' k
theorem left_get {nm : Name} {D : Name -> Prop} {H H' : AHeap} {k : Name} {r : List AV} (h : leftH nm D H H' k = some r) : H' k = some r \/ (¬ D k /\ ¬ Under nm k /\ H k = some r):=by
 unfold leftH at h
 split at h
 ·exact .inl h
 ·rename_i hc
  split at h
  ·rename_i r' hr; cases h; exact .inr ⟨fun e => hc (.inr e),fun e => hc (.inl e),hr⟩
  ·exact .inl h
theorem left_ne {nm : Name} {D : Name -> Prop} {H H' : AHeap} {k : Name} (h : leftH nm D H H' k ≠ none) : H' k ≠ none \/ (¬ D k /\ ¬ Under nm k /\ H k ≠ none):=by
 cases e : leftH nm D H H' k with
 | none => exact absurd e h
 | some r =>
  rcases left_get e with h1 | ⟨h1,h2,h3⟩
  ·exact .inl (by rw [h1]; simp)
  ·exact .inr ⟨h1,h2,by rw [h3]; simp⟩
theorem given_ne {D : Name -> Prop} {H : AHeap} {k : Name} (h : givenH D H k ≠ none) : D k /\ H k ≠ none:=by
 unfold givenH at h
 split at h
 ·rename_i hd; exact ⟨hd,h⟩
 ·exact absurd rfl h
theorem owns_given {σ : Sig} {D : Name -> Prop} {H : AHeap} {b : Nat} (h : Owns σ (givenH D H) b) : Owns σ H b:=by
 obtain ⟨n,p,h1,h2,h3⟩:=h
 exact ⟨n,p,(given_ne h1).2,h2,h3⟩
theorem Sim.frame {f : FuncId} {xs : List AV} {nm : Name} {D : Name -> Prop} {H H' : AHeap} {z : AV} (h : Sim P f xs nm (givenH D H) z H') : Sim P f xs nm H z (leftH nm D H H'):=by
 intro σ I w vs hfr hv har
 have hsub : ∀ n row,givenH D H n = some row -> H n = some row:=fun n row hn => by
  unfold givenH at hn
  split at hn
  ·exact hn
  ·cases hn
 have har₀ : ARel σ I (givenH D H) w:=(Step.forget (nm:=Under nm) har hsub).rel
 refine (h σ I w vs hfr hv har₀).mono ?_
 rintro e w' ⟨v,σ',I',rfl,st,hr⟩
 have hrest : ∀ k,¬ D k -> H k ≠ none -> ∀ p,σ k = some p -> p.b < w.heap.size /\ ¬ Owns σ (givenH D H) p.b:=by
  intro k hd hk p hp
  cases e : H k with
  | none => exact absurd e hk
  | some r =>
   obtain ⟨p',c,el,fr,h1,h2,_⟩:=har.rows k r e
   rw [hp] at h1; cases h1
   refine ⟨(Array.getElem?_eq_some_iff.1 h2).1,?_⟩
   rintro ⟨n,q,g1,g2,g3⟩
   obtain ⟨g4,g5⟩:=given_ne g1
   have:=har.inj n k q p g5 hk g2 hp g3
   subst this
   exact hd g4
 have hsome : ∀ k,H k ≠ none -> ∃ p,σ k = some p:=fun k hk => by
  cases e : H k with
  | none => exact absurd e hk
  | some r => obtain ⟨p,_,_,_,h1,_⟩:=har.rows k r e; exact ⟨p,h1⟩
 refine ⟨v,σ',I',rfl,?_,hr⟩
 refine ⟨⟨?_,?_,st.rel.imm,?_⟩,st.sig,st.new,st.imm,?_,?_,⟨st.fr.os,st.fr.tape,st.fr.output,st.fr.size,fun b hb hno => st.fr.block b hb fun ho => hno (owns_given ho)⟩⟩
 ·intro n row hn
  rcases left_get hn with h1 | ⟨h1,h2,h3⟩
  ·exact st.rel.rows n row h1
  ·obtain ⟨p,c,el,fr,g1,g2,g3,g4,g5⟩:=har.rows n row h3
   obtain ⟨k1,k2⟩:=hrest n h1 (by rw [h3]; simp) p g1
   exact ⟨p,c,el,fr,st.sig _ _ g1,by rw [st.fr.block _ k1 k2]; exact g2,g3,g4,g5.mono st.sig st.imm⟩
 ·intro n n' p p' hn hn' hp hp' hb
  rcases left_ne hn with h1 | ⟨h1,h2,h3⟩
  ·rcases left_ne hn' with k1 | ⟨k1,k2,k3⟩
   ·exact st.rel.inj n n' p p' h1 k1 hp hp' hb
   ·obtain ⟨q,hq⟩:=hsome n' k3
    have:=st.sig _ _ hq
    rw [hp'] at this; cases this
    obtain ⟨g1,g2⟩:=hrest n' k1 k3 p' hq
    rcases st.own p.b ⟨n,p,h1,hp,rfl⟩ with ho | ho
    ·exact absurd (hb ▸ ho) g2
    ·omega
  ·obtain ⟨q,hq⟩:=hsome n h3
   have:=st.sig _ _ hq
   rw [hp] at this; cases this
   obtain ⟨g1,g2⟩:=hrest n h1 h3 p hq
   rcases left_ne hn' with k1 | ⟨k1,k2,k3⟩
   ·rcases st.own p'.b ⟨n',p',k1,hp',rfl⟩ with ho | ho
    ·exact absurd (hb ▸ ho) g2
    ·omega
   ·obtain ⟨q',hq'⟩:=hsome n' k3
    have:=st.sig _ _ hq'
    rw [hp'] at this; cases this
    exact har.inj n n' p p' h3 k3 hq hq' hb
 ·intro n p m hn hp
  rcases left_ne hn with h1 | ⟨h1,h2,h3⟩
  ·exact st.rel.dis n p m h1 hp
  ·obtain ⟨q,hq⟩:=hsome n h3
   have:=st.sig _ _ hq
   rw [hp] at this; cases this
   obtain ⟨g1,g2⟩:=hrest n h1 h3 p hq
   cases e : I' m p.b with
   | none => rfl
   | some c =>
    rcases st.inew m p.b c e with ho | ho | ho
    ·rw [har.dis n p m h3 hq] at ho; cases ho
    ·omega
    ·exact absurd ho g2
 ·intro m b c hc
  rcases st.inew m b c hc with ho | ho | ho
  ·exact .inl ho
  ·exact .inr (.inl ho)
  ·exact .inr (.inr (owns_given ho))
 ·rintro b ⟨n,p,hn,hp,rfl⟩
  rcases left_ne hn with h1 | ⟨h1,h2,h3⟩
  ·rcases st.own p.b ⟨n,p,h1,hp,rfl⟩ with ho | ho
   ·exact .inl (owns_given ho)
   ·exact .inr ho
  ·obtain ⟨q,hq⟩:=hsome n h3
   have:=st.sig _ _ hq
   rw [hp] at this; cases this
   exact .inl ⟨n,p,h3,hq,rfl⟩
def smallZ (l : ZRows) : Bool:=l.all fun q => Nat.blt q.1 1000000000
theorem putZ_out : ∀ {l : ZRows} {m : Tr (List SV)} {k : Nat},(∀ q ∈ l,q.1 ≠ k) -> smallZ l = true -> (putZ l m).get k = m.get k
 | [],_,_,_,_ => rfl
 | (k',c,z) :: r,m,k,h,hs => by
  simp only [smallZ,List.all_cons,Bool.and_eq_true] at hs
  have h1:=blt_lt hs.1
  show (putZ r (m.put k' (zrow c z))).get k = _
  rw [putZ_out (fun q hq => h q (List.mem_cons_of_mem _ hq)) hs.2,put_get _ _ _ _ (by omega),if_neg (fun e => h (k',c,z) (by simp) e.symm)]
theorem putZ_in : ∀ {l : ZRows} {m m' : Tr (List SV)} {k : Nat},(∃ q ∈ l,q.1 = k) -> smallZ l = true -> (putZ l m).get k = (putZ l m').get k
 | [],_,_,_,h,_ => by obtain ⟨q,hq,_⟩:=h; cases hq
 | (k',c,z) :: r,m,m',k,h,hs => by
  simp only [smallZ,List.all_cons,Bool.and_eq_true] at hs
  have h1:=blt_lt hs.1
  show (putZ r (m.put k' (zrow c z))).get k = (putZ r (m'.put k' (zrow c z))).get k
  by_cases hr : ∃ q ∈ r,q.1 = k
  ·exact putZ_in hr hs.2
  ·have hr' : ∀ q ∈ r,q.1 ≠ k:=fun q hq e => hr ⟨q,hq,e⟩
   have hk : k = k':=by
    obtain ⟨q,hq,e⟩:=h
    rcases List.mem_cons.1 hq with rfl | hq
    ·exact e.symm
    ·exact absurd e (hr' q hq)
   rw [putZ_out hr' hs.2,putZ_out hr' hs.2,put_get _ _ _ _ (by omega),put_get _ _ _ _ (by omega),if_pos hk,if_pos hk]
noncomputable def delZ : ZRows -> Tr (List SV) -> Tr (List SV)
 | [],m => m
 | (k,_,_) :: r,m => delZ r (m.del k)
theorem delZ_get : ∀ {l : ZRows} {m : Tr (List SV)} {k : Nat} {row : List SV},(delZ l m).get k = some row -> (∀ q ∈ l,q.1 ≠ k) /\ m.get k = some row
 | [],_,_,_,h => ⟨fun q hq => (by cases hq),h⟩
 | (k',c,z) :: r,m,k,row,h => by
  obtain ⟨h1,h2⟩:=delZ_get (l:=r) (m:=m.del k') h
  rw [del_get] at h2
  split at h2
  ·cases h2
  ·rename_i hne
   refine ⟨fun q hq => ?_,h2⟩
   rcases List.mem_cons.1 hq with rfl | hq
   ·exact fun e => hne e.symm
   ·exact h1 q hq
def okF (p : PZ) : Bool:=smallZ p.rows' && p.rows'.all fun q => p.rows.any (fun s => Nat.beq s.1 q.1) || Nat.ble p.next q.1
noncomputable def optF (p : PZ) (args : List SV) (h : Mem) : SRes:=bif Nat.beq p.next h.next && SV.beqs args p.args && sameZ h p.rows then some (p.r,⟨p.next',putZ p.rows' (delZ p.rows h.m)⟩) else none
theorem optF_ok {p : PZ} (hp : p.Holds P ρ) (hk : okF p = true) {args : List SV} {h h' : Mem} {r : SV} (hr : optF p args h = some (r,h')) : isGo P p.f = true /\ ∀ (ν : Nat -> Option Name) (H : AHeap) (nm : Name) (xs : List AV),MRel ρ ν h H -> Fre ν nm -> SRels ρ ν args xs -> ∃ z H',Sim P p.f xs nm H z H' /\ Out ρ ν nm r h' z H':=by
 refine ⟨hp.1,fun ν H nm xs hm hfre hxs => ?_⟩
 unfold optF at hr
 cases hc : (Nat.beq p.next h.next && SV.beqs args p.args && sameZ h p.rows) with
 | false => rw [hc] at hr; cases hr
 | true =>
  rw [hc] at hr
  simp only [cond_true,Option.some.injEq,Prod.mk.injEq] at hr
  obtain ⟨rfl,rfl⟩:=hr
  simp only [Bool.and_eq_true] at hc
  obtain ⟨⟨h1,h2⟩,h3⟩:=hc
  have h1:=Nat.eq_of_beq_eq_true h1
  rw [SV.beqs_eq h2] at hxs
  simp only [okF,Bool.and_eq_true] at hk
  obtain ⟨hs,hk⟩:=hk
  let D : Name -> Prop:=fun k => ∃ q ∈ p.rows,ν q.1 = some k
  have hm0:=sameZ_rel h1 hm h3
  have hm1 : MRel ρ ν (zmem p.next p.rows) (givenH D H):=by
   refine ⟨fun k row hkr => ?_,hm0.inj,hm0.lt⟩
   obtain ⟨m,row',g1,g2,g3⟩:=hm0.rows k row hkr
   refine ⟨m,row',g1,?_,g3⟩
   rcases putZ_get p.rows .nil k row hkr with ⟨c,z,k1,_⟩ | k1
   ·unfold givenH
    rw [if_pos ⟨_,k1,g1⟩]; exact g2
   ·rw [nil_get] at k1; cases k1
  obtain ⟨z,H₀,g1,ν',g2,g3,g4,g5⟩:=hp.2 ν (givenH D H) nm xs hm1 hfre hxs
  refine ⟨z,leftH nm D H H₀,g1.frame,ν',g2,g3,⟨?_,g4.inj,g4.lt⟩,g5⟩
  intro k row hkr
  have hkr' : (putZ p.rows' (delZ p.rows h.m)).get k = some row:=hkr
  by_cases hin : ∃ q ∈ p.rows',q.1 = k
  ·rw [putZ_in (m':=.nil) hin hs] at hkr'
   obtain ⟨m,row',e1,e2,e3⟩:=g4.rows k row hkr'
   refine ⟨m,row',e1,?_,e3⟩
   have hd : Under nm m \/ D m:=by
    obtain ⟨q,hq,rfl⟩:=hin
    have:=List.all_eq_true.1 hk q hq
    simp only [Bool.or_eq_true,List.any_eq_true] at this
    rcases g3 _ _ e1 with e4 | e4
    ·rcases this with ⟨s,k1,k2⟩ | k1
     ·exact .inr ⟨s,k1,by rw [Nat.eq_of_beq_eq_true k2]; exact e4⟩
     ·have:=hm.lt q.1 (by rw [e4]; simp)
      have:=Nat.le_of_ble_eq_true k1
      omega
    ·exact .inl e4
   unfold leftH
   rw [if_pos hd]; exact e2
  ·have hout : ∀ q ∈ p.rows',q.1 ≠ k:=fun q hq e => hin ⟨q,hq,e⟩
   rw [putZ_out hout hs] at hkr'
   obtain ⟨e0,e00⟩:=delZ_get hkr'
   obtain ⟨m,row',e1,e2,e3⟩:=hm.rows k row e00
   refine ⟨m,row',g2 _ _ e1,?_,e3.mono g2⟩
   unfold leftH
   have hnd : ¬ (Under nm m \/ D m):=by
    rintro (⟨s,rfl⟩ | ⟨q,k1,k2⟩)
    ·exact hfre k s e1
    ·exact e0 q k1 (hm.inj _ _ _ k2 e1)
   rw [if_neg hnd,e2]
noncomputable def optFL (sc : SCall) (f : FuncId) : List PZ -> List SV -> Mem -> SRes
 | [],args,h => sc f args h
 | p :: r,args,h => bif Nat.beq f p.f then (match optF p args h with
  | some x => some x
  | none => optFL sc f r args h) else optFL sc f r args h
noncomputable def ovrF (sc : SCall) (fs : List FuncId) (l : List PZ) (ovr : FuncId -> Option (List SV -> Mem -> SRes)) (f : FuncId) : Option (List SV -> Mem -> SRes):=bif fs.any (Nat.beq f) then some (optFL sc f l) else ovr f
def PZ.Good (P : Program) (ρ : Vals) (p : PZ) : Prop:=p.Holds P ρ /\ okF p = true
theorem good_nil : ∀ p ∈ ([] : List PZ),p.Good P ρ:=fun _ h => by cases h
theorem good_cons {q : PZ} {l : List PZ} (h : q.Good P ρ) (t : ∀ p ∈ l,p.Good P ρ) : ∀ p ∈ q :: l,p.Good P ρ:=fun p hp => by
 cases hp with
 | head => exact h
 | tail _ hp => exact t p hp
theorem optFL_ok {sc : SCall} (hsc : SCallOK P ρ sc) {f : FuncId} : ∀ {l : List PZ},(∀ p ∈ l,p.Good P ρ) -> ∀ {args : List SV} {h h' : Mem} {r : SV},optFL sc f l args h = some (r,h') -> isGo P f = true /\ ∀ (ν : Nat -> Option Name) (H : AHeap) (nm : Name) (xs : List AV),MRel ρ ν h H -> Fre ν nm -> SRels ρ ν args xs -> ∃ z H',Sim P f xs nm H z H' /\ Out ρ ν nm r h' z H'
 | [],_,args,h,h',r,hr => hsc f args h r h' hr
 | p :: l,hl,args,h,h',r,hr => by
  simp only [optFL] at hr
  have rest:=optFL_ok hsc (f:=f) (l:=l) (fun q hq => hl q (List.mem_cons_of_mem _ hq)) (args:=args) (h:=h) (h':=h') (r:=r)
  cases hf : Nat.beq f p.f with
  | false => rw [hf] at hr; exact rest hr
  | true =>
   rw [hf] at hr
   simp only [cond_true] at hr
   split at hr
   ·rename_i x hx
    cases hr
    obtain ⟨hp,hk⟩:=hl p (by simp)
    rw [Nat.eq_of_beq_eq_true hf]
    exact optF_ok hp hk hx
   ·exact rest hr
theorem ovrF_ok {sc : SCall} (hsc : SCallOK P ρ sc) {fs : List FuncId} {l : List PZ} (hl : ∀ p ∈ l,p.Good P ρ) {ovr : FuncId -> Option (List SV -> Mem -> SRes)} (ho : OvrOK P ρ ovr) : OvrOK P ρ (ovrF sc fs l ovr):=by
 intro f g hg args h r h' hr
 unfold ovrF at hg
 cases hc : fs.any (Nat.beq f) with
 | false => rw [hc] at hg; exact ho f g hg args h r h' hr
 | true =>
  rw [hc] at hg
  simp only [cond_true,Option.some.injEq] at hg
  subst hg
  exact optFL_ok hsc hl hr
end Go.Proofs.YtbllpnjappddeaaGreat.Den
end
section
set_option linter.unusedSimpArgs false
set_option maxRecDepth 1000000
namespace Go.Proofs.YtbllpnjappddeaaGreat.Den
def ovrV (f : FuncId) : Option (List SV -> Mem -> SRes) :=
 bif Nat.beq f 102 then some (odelS 2) else
 bif Nat.beq f 160 then some (odelS 44) else
 bif Nat.beq f 256 then some (odelS 99) else
 bif Nat.beq f 390 then some (osum2) else
 bif Nat.beq f 372 then some (omac3) else
 bif Nat.beq f 27 then some (ofailed) else
 ovrU f
theorem ovrV_ok (ρ : Vals) : OvrOK Tryz.prog ρ ovrV:=by
 intro f g hg args h r h' hr
 unfold ovrV at hg
 cases e : Nat.beq f 102 with
 | true =>
  rw [e] at hg
  simp only [cond_true,Option.some.injEq] at hg
  subst hg
  rw [Nat.eq_of_beq_eq_true e]
  exact odelS_ok deleteF_parcel hr
 | false =>
  rw [e] at hg
  simp only [cond_false] at hg
  clear e
  cases e : Nat.beq f 160 with
  | true =>
   rw [e] at hg
   simp only [cond_true,Option.some.injEq] at hg
   subst hg
   rw [Nat.eq_of_beq_eq_true e]
   exact odelS_ok deleteF_sub hr
  | false =>
   rw [e] at hg
   simp only [cond_false] at hg
   clear e
   cases e : Nat.beq f 256 with
   | true =>
    rw [e] at hg
    simp only [cond_true,Option.some.injEq] at hg
    subst hg
    rw [Nat.eq_of_beq_eq_true e]
    exact odelS_ok deleteF_entry hr
   | false =>
    rw [e] at hg
    simp only [cond_false] at hg
    clear e
    cases e : Nat.beq f 390 with
    | true =>
     rw [e] at hg
     simp only [cond_true,Option.some.injEq] at hg
     subst hg
     rw [Nat.eq_of_beq_eq_true e]
     exact osum2_ok hr
    | false =>
     rw [e] at hg
     simp only [cond_false] at hg
     clear e
     cases e : Nat.beq f 372 with
     | true =>
      rw [e] at hg
      simp only [cond_true,Option.some.injEq] at hg
      subst hg
      rw [Nat.eq_of_beq_eq_true e]
      exact omac3_ok hr
     | false =>
      rw [e] at hg
      simp only [cond_false] at hg
      clear e
      cases e : Nat.beq f 27 with
      | true =>
       rw [e] at hg
       simp only [cond_true,Option.some.injEq] at hg
       subst hg
       rw [Nat.eq_of_beq_eq_true e]
       exact ofailed_ok hr
      | false =>
       rw [e] at hg
       simp only [cond_false] at hg
       clear e
       exact ovrU_ok ρ f g hg args h r h' hr
end Go.Proofs.YtbllpnjappddeaaGreat.Den
end
section
set_option linter.unusedSimpArgs false
set_option linter.unusedVariables false
set_option maxRecDepth 100000
namespace Go.Proofs.YtbllpnjappddeaaGreat.Den
open Go.RowKit
attribute [local simp] runList aop abuiltin acall awanted ayielded env T0 tput tset Ran aload astore setMany upd binV aslice aindexAddr apart aindex alen acopy srcCells natOf boundOf aeq AV.nilEq convV appK fillA List.range List.range.loop onF isU8 rowOf
def logSafeS : Spec:=fun args nm H =>
 match args with
 | [.ptr q 0] =>
  match H q with
  | some [_,_,.val (.int .i64 s)] => some (vi s,H)
  | _ => none
 | _ => none
set_option maxHeartbeats 400000 in
theorem logSafe_ok : FnOK Tryz.prog 227 logSafeS:=by
 refine ⟨by kernel_rfl,fun args nm H r H' h => ?_⟩
 unfold logSafeS at h
 split at h
 ·rename_i q
  split at h
  ·rename_i d cn s hq
   cases h
   have hcall:=@noCall_ok Tryz.prog
   refine sim_go Tryz.func227 rfl rfl (Nat.le_of_ble_eq_true rfl) fun hH => ?_
   (repeat refine AWP.seq ?_)
   refine AWP.region_last hcall rfl fun K hK => ?_
   simp
   apply hK; clear hK K; simp only [onNormal,onExit]
   (repeat refine AWP.seq ?_)
   refine AWP.region_last hcall rfl fun K hK => ?_
   simp [hq]
   apply hK; clear hK K; simp only [onNormal,onExit]
   (try refine AWP.ret ?_); (try simp only [onNormal,onExit]); refine ⟨by simp,⟨_,rfl,by simp [ares1]⟩,fun k row hk => ?_⟩
   exact hk
  ·cases h
 ·cases h
def intsA : List AV -> Option (List Int)
 | [] => some []
 | .val (.int .i64 n) :: r => (intsA r).map (n :: ·)
 | _ => none
theorem intsA_some : ∀ {c : List AV} {l : List Int},intsA c = some l -> c = l.map vi
 | [],l,h => by cases h; rfl
 | a :: r,l,h => by
  unfold intsA at h
  split at h
  ·rename_i e; cases e
  ·rename_i n r' e
   injection e with e1 e2
   subst e1 e2
   simp only [Option.map_eq_some_iff] at h
   obtain ⟨l',h1,rfl⟩:=h
   rw [intsA_some h1]; rfl
  ·cases h
def cntI (z : Int) (l : List Int) : Nat:=l.countP fun x => decide (x < z)
def safeS : Spec:=fun args nm H =>
 match args with
 | [.ptr s 0,.ptr w 0] =>
  match H s,H w with
  | some rs,some rw =>
   match rs[4]?,rw[58]? with
   | some (AV.ptr lg 0),some (AV.sl m off n 1) =>
    match H lg,H m with
    | some [_,_,.val (.int .i64 z)],some rm =>
     match intsA ((rm.drop off).take n) with
     | some l => if off + n <= rm.length /\ n < 4611686018427387904 then some (.tup [vb (decide (0 < cntI z l)),vi ((cntI z l - 1 : Nat) : Int)],H) else none
     | none => none
    | _,_ => none
   | _,_ => none
  | _,_ => none
 | _ => none
set_option maxHeartbeats 1000000 in
theorem safe_ok : FnOK Tryz.prog 134 safeS:=by
 refine ⟨by kernel_rfl,fun args nm H r H' h => ?_⟩
 unfold safeS at h
 split at h
 ·rename_i s w
  split at h
  ·rename_i rs rw hs hw
   split at h
   ·rename_i lg m off n h4 h58
    split at h
    ·rename_i d cn z rm hlg hm
     split at h
     ·rename_i l hl
      split at h
      ·rename_i hc
       cases h
       obtain ⟨hle,hn⟩:=hc
       have hcs:=intsA_some hl
       have hln : l.length = n:=by
        have:=congrArg List.length hcs
        rw [List.length_take,List.length_drop,List.length_map] at this
        omega
       have hcall:=onF_ok logSafe_ok (@noCall_ok Tryz.prog)
       refine sim_go Tryz.func134 rfl rfl (Nat.le_of_ble_eq_true rfl) fun hH => ?_
       (repeat refine AWP.seq ?_)
       refine AWP.region_last hcall rfl fun K hK => ?_
       simp
       apply hK; clear hK K; simp only [onNormal,onExit]
       (repeat refine AWP.seq ?_)
       refine AWP.region_last hcall rfl fun K hK => ?_
       simp
       apply hK; clear hK K; simp only [onNormal,onExit]
       (repeat refine AWP.seq ?_)
       refine AWP.region_last hcall rfl fun K hK => ?_
       simp [hw,h58]
       apply hK; clear hK K; simp only [onNormal,onExit]
       (repeat refine AWP.seq ?_); refine AWP.block ?_
       refine AWP.loop (fun k c T H2 => ∃ i,i <= n /\ k = n - i /\ H2 = H /\ T 0 = .ptr s 0 /\ T 12 = .sl m off n 1 /\ T 13 = vi (n : Nat) /\ T 14 = vi (i : Nat) /\ T 6 = vi ((cntI z (l.take i) : Nat) : Int)) n ⟨0,by omega,rfl,rfl,by simp,by simp,by simp,by simp,by simp [cntI]⟩ ?_
       rintro _ c T H2 ⟨i,hi,rfl,rfl,t0,t12,t13,t14,t6⟩
       by_cases hin : i < n
       ·have hii : (i : Int) < (n : Int):=by omega
        have hi1 : IntKind.i64.wrap ((i : Int) + 1) = ((i + 1 : Nat) : Int):=by rw [IntKind.wrap_i64]; omega
        have hcl : cntI z (l.take i) <= i:=by
         have:=List.countP_le_length (p:=fun x => decide (x < z)) (l:=l.take i)
         rw [List.length_take] at this
         simp only [cntI]; omega
        obtain ⟨v,hv⟩ : ∃ v,v = l[i]'(by omega):=⟨_,rfl⟩
        have hg : rm[off + i]? = some (vi v):=by
         have : ((rm.drop off).take n)[i]? = some (vi v):=by rw [hcs,List.getElem?_map,List.getElem?_eq_getElem (by omega),hv]; rfl
         rwa [List.getElem?_take,if_pos hin,List.getElem?_drop] at this
        have htk : l.take (i + 1) = l.take i ++ [v]:=by rw [List.take_add_one,List.getElem?_eq_getElem (by omega),hv]; rfl
        have hcn : cntI z (l.take (i + 1)) = cntI z (l.take i) + (if v < z then 1 else 0):=by
         simp only [cntI,htk,List.countP_append,List.countP_cons,List.countP_nil]
         by_cases h : v < z <;> simp [h]
        have hg' : ∀ h',rm[off + i]'h' = vi v:=fun h' => by
         have:=hg; rw [List.getElem?_eq_getElem h'] at this; exact Option.some.inj this
        (repeat refine AWP.seq ?_)
        refine AWP.region_last hcall rfl fun K hK => ?_
        simp [t13,t14,hii]
        apply hK; clear hK K; simp only [onNormal,onExit]
        (repeat refine AWP.seq ?_); refine AWP.cond (b:=true) (by simp [hii]) ?_; simp only [if_true,if_false,Bool.false_eq_true]
        refine AWP.skip ?_; simp only [onNormal,onExit]
        (repeat refine AWP.seq ?_); refine AWP.block ?_
        (repeat refine AWP.seq ?_)
        refine AWP.region_last hcall rfl fun K hK => ?_
        simp [t12,t14,hm,hg,hg',hin]
        apply hK; clear hK K; simp only [onNormal,onExit]
        (repeat refine AWP.seq ?_)
        refine AWP.region_last hcall rfl fun K hK => ?_
        simp [t0,hs,h4,logSafeS,hlg]
        apply hK; clear hK K; simp only [onNormal,onExit]
        by_cases hvz : v < z
        ·have hw6 : IntKind.i64.wrap (((cntI z (l.take i) : Nat) : Int) + 1) = ((cntI z (l.take i) + 1 : Nat) : Int):=by rw [IntKind.wrap_i64]; omega
         (repeat refine AWP.seq ?_); refine AWP.cond (b:=true) (by simp [hvz]) ?_; simp only [if_true,if_false,Bool.false_eq_true]
         (repeat refine AWP.seq ?_)
         refine AWP.region_last hcall rfl fun K hK => ?_
         simp [t6,hw6]
         apply hK; clear hK K; simp only [onNormal,onExit]
         (repeat refine AWP.seq ?_)
         refine AWP.region_last hcall rfl fun K hK => ?_
         simp [t14,hi1]
         apply hK; clear hK K; simp only [onNormal,onExit]
         refine ⟨n - (i + 1),by omega,i + 1,by omega,rfl,by first | rfl | trivial,by simp [t0],by simp [t12],by simp [t13],by simp,by simp [hcn,hvz]⟩
        ·(repeat refine AWP.seq ?_); refine AWP.cond (b:=false) (by simp [hvz]) ?_; simp only [if_true,if_false,Bool.false_eq_true]
         refine AWP.skip ?_; simp only [onNormal,onExit]
         (repeat refine AWP.seq ?_)
         refine AWP.region_last hcall rfl fun K hK => ?_
         simp [t14,hi1]
         apply hK; clear hK K; simp only [onNormal,onExit]
         refine ⟨n - (i + 1),by omega,i + 1,by omega,rfl,by first | rfl | trivial,by simp [t0],by simp [t12],by simp [t13],by simp,by simp [hcn,hvz,t6]⟩
       obtain rfl : i = n:=by omega
       have hta : l.take i = l:=List.take_of_length_le (by omega)
       rw [hta] at t6
       have hcl : cntI z l <= i:=by
        have:=List.countP_le_length (p:=fun x => decide (x < z)) (l:=l)
        simp only [cntI]; omega
       obtain ⟨C,hC⟩ : ∃ C,C = cntI z l:=⟨_,rfl⟩
       rw [<- hC] at t6 hcl ⊢
       (repeat refine AWP.seq ?_)
       refine AWP.region_last hcall rfl fun K hK => ?_
       simp [t13,t14]
       apply hK; clear hK K; simp only [onNormal,onExit]
       (repeat refine AWP.seq ?_); refine AWP.cond (b:=false) (by simp) ?_; simp only [if_true,if_false,Bool.false_eq_true]
       refine AWP.exit ?_; simp only [onNormal,onExit,if_true,reduceCtorEq,if_false]
       have hw1 : IntKind.i64.wrap ((C : Int) - 1) = (C : Int) - 1:=by rw [IntKind.wrap_i64]; omega
       have hmx : max ((C : Int) - 1) 0 = ((C - 1 : Nat) : Int):=by omega
       by_cases hC0 : 0 < C
       ·have hC1 : (0 : Int) < (C : Int):=by omega
        have hmy : (if (C : Int) - 1 < 0 then 0 else (C : Int) - 1) = ((C - 1 : Nat) : Int):=by split <;> omega
        (repeat refine AWP.seq ?_)
        refine AWP.region_last hcall rfl fun K hK => ?_
        simp [t6,hw1,hmx]
        apply hK; clear hK K; simp only [onNormal,onExit]
        (try refine AWP.ret ?_); (try simp only [onNormal,onExit]); refine ⟨by simp,⟨[_,_],by simp [ares,Tryz.results134,hC0,hmy,hmx]; try rfl,rfl⟩,fun k row hk => ?_⟩
        exact hk
       ·obtain rfl : C = 0:=by omega
        have hwm : IntKind.i64.wrap (-1) = -1:=rfl
        (repeat refine AWP.seq ?_)
        refine AWP.region_last hcall rfl fun K hK => ?_
        simp [t6,hwm]
        apply hK; clear hK K; simp only [onNormal,onExit]
        (try refine AWP.ret ?_); (try simp only [onNormal,onExit]); refine ⟨by simp,⟨[_,_],by simp [ares,Tryz.results134,hwm]; try rfl,rfl⟩,fun k row hk => ?_⟩
        exact hk
      ·cases h
     ·cases h
    ·cases h
   ·cases h
  ·cases h
 ·cases h
def hashRS : Spec:=fun args nm H =>
 match args with
 | [.ptr q 0] =>
  match H q with
  | some [.im true len cells,.val (.int .i64 0)] =>
   match bytesA (cells.take 32) with
   | some l => if 32 <= len /\ cells.length = len then some (.agg (bs l),upd H q (some (rdr (len - 32) (cells.drop 32) 0))) else none
   | none => none
  | _ => none
 | _ => none
end Go.Proofs.YtbllpnjappddeaaGreat.Den
end
section
set_option linter.unusedSimpArgs false
set_option linter.unusedVariables false
set_option maxRecDepth 100000
namespace Go.Proofs.YtbllpnjappddeaaGreat.Den
open Go.RowKit
variable {P : Program} {ρ : Vals} {ν : Nat -> Option Name}
def litNs : List SV -> Option (List Nat)
 | [] => some []
 | .int .i64 (.lit (.ofNat n)) :: r => (litNs r).map (n :: ·)
 | _ => none
theorem litNs_rel : ∀ {l : List SV} {ns : List Nat} {xs : List AV},litNs l = some ns -> SRels ρ ν l xs -> intsA xs = some (ns.map fun n : Nat => (n : Int))
 | [],ns,xs,h,hx => by cases h; cases hx; rfl
 | a :: r,ns,xs,h,hx => by
  unfold litNs at h
  split at h
  ·rename_i e; cases e
  ·rename_i n r' e
   injection e with e1 e2
   subst e1 e2
   simp only [Option.map_eq_some_iff] at h
   obtain ⟨l',h1,rfl⟩:=h
   cases hx with
   | cons hx t =>
    cases hx
    simp only [intsA,IE.den,litNs_rel h1 t]
    rfl
  ·cases h
def cntN (z : Nat) : List Nat -> Nat
 | [] => 0
 | a :: r => bif Nat.blt a z then Nat.succ (cntN z r) else cntN z r
theorem cntN_eq (z : Nat) : ∀ l : List Nat,cntI (z : Int) (l.map fun n : Nat => (n : Int)) = cntN z l
 | [] => rfl
 | a :: r => by
  have ih:=cntN_eq z r
  simp only [cntI] at ih
  simp only [cntI,List.map_cons,List.countP_cons,ih,cntN]
  cases h : Nat.blt a z with
  | true => have:=blt_lt h; simp; omega
  | false =>
   have : ¬ a < z:=fun h' => by rw [Nat.blt] at h; rw [Nat.ble_eq_true_of_le h'] at h; cases h
   simp; omega
def osafe (args : List SV) (h : Mem) : SRes :=
 match args with
 | [.ptr s 0,.ptr w 0] =>
  match h.get s,h.get w with
  | some rs,some rw =>
   match rs[4]?,rw[58]? with
   | some (SV.ptr lg 0),some (SV.sl m off n 1) =>
    match h.get lg,h.get m with
    | some [_,_,.int .i64 (.lit (.ofNat z))],some rm =>
     match sseg off n rm with
     | some c =>
      match litNs c with
      | some l => bif Nat.blt n 4611686018427387904 then forceN (cntN z l) fun k => some (.tup [.bool (Nat.blt 0 k),.int .i64 (.lit (.ofNat (Nat.sub k 1)))],h) else none
      | none => none
     | none => none
    | _,_ => none
   | _,_ => none
  | _,_ => none
 | _ => none
theorem osafe_ok {args : List SV} {h h' : Mem} {r : SV} (hr : osafe args h = some (r,h')) : isGo Tryz.prog 134 = true /\ ∀ (ν : Nat -> Option Name) (H : AHeap) (nm : Name) (xs : List AV),MRel ρ ν h H -> Fre ν nm -> SRels ρ ν args xs ->
  ∃ z H',Sim Tryz.prog 134 xs nm H z H' /\ Out ρ ν nm r h' z H':=by
 refine ovr_fn safe_ok (g:=osafe) (fun args h r h' hr ν H nm xs hm hf hx => ?_) hr
 unfold osafe at hr
 split at hr
 ·rename_i s w
  split at hr
  ·rename_i rs rw hs hw
   split at hr
   ·rename_i lg m off n h4 h58
    split at hr
    ·rename_i d cn z rm hlg hmm
     split at hr
     ·rename_i c hc
      split at hr
      ·rename_i l hl
       cases hb : Nat.blt n 4611686018427387904 with
       | false => rw [hb] at hr; cases hr
       | true =>
        rw [hb] at hr
        simp only [cond_true,forceN_eq,Option.some.injEq,Prod.mk.injEq] at hr
        obtain ⟨rfl,rfl⟩:=hr
        cases hx with
        | cons hq1 t =>
         cases t with
         | cons hq2 t =>
          cases t
          cases hq1 with
          | @ptr _ _ ms e1 =>
           cases hq2 with
           | @ptr _ _ mw e2 =>
            obtain ⟨ms',rs',k1,k2,k3⟩:=hm.rows _ _ hs
            rw [e1] at k1; cases k1
            obtain ⟨mw',rw',j1,j2,j3⟩:=hm.rows _ _ hw
            rw [e2] at j1; cases j1
            obtain ⟨x4,g4,g5⟩:=k3.get h4
            obtain ⟨x58,g6,g7⟩:=j3.get h58
            cases g5 with
            | @ptr _ _ ml e3 =>
             cases g7 with
             | @sl _ _ _ _ mm e4 =>
              obtain ⟨ml',rl',l1,l2,l3⟩:=hm.rows _ _ hlg
              rw [e3] at l1; cases l1
              obtain ⟨mm',rm',m1,m2,m3⟩:=hm.rows _ _ hmm
              rw [e4] at m1; cases m1
              obtain ⟨n1,n2⟩:=m3.seg hc
              have hint:=litNs_rel hl n1
              cases l3 with
              | @cons _ a1 _ _ p1 t =>
               cases t with
               | @cons _ a2 _ _ p2 t =>
                cases t with
                | cons p3 t =>
                 cases t
                 cases p3
                 refine ⟨_,H,?_,.same hm (.tup (.cons (.bool _) (.cons (.int .i64 (.lit (.ofNat (Nat.sub (cntN z l) 1)))) .nil)))⟩
                 simp only [safeS,k2,j2,g4,g6,l2,m2,IE.den,hint]
                 rw [if_pos ⟨n2,blt_lt hb⟩]
                 have:=cntN_eq z l
                 simp only [Int.ofNat_eq_natCast,this]
                 congr 3
                 cases e : Nat.blt 0 (cntN z l) with
                 | true => have:=blt_lt e; simp [this]
                 | false =>
                  have : ¬ 0 < cntN z l:=fun h' => by rw [Nat.blt] at e; rw [Nat.ble_eq_true_of_le h'] at e; cases e
                  simp [this]
      ·cases hr
     ·cases hr
    ·cases hr
   ·cases hr
  ·cases hr
 ·cases hr
end Go.Proofs.YtbllpnjappddeaaGreat.Den
end
section
set_option linter.unusedSimpArgs false
set_option linter.unusedVariables false
set_option maxRecDepth 100000
namespace Go.Proofs.YtbllpnjappddeaaGreat.Den
open Go.RowKit
attribute [local simp] runList aop abuiltin acall awanted ayielded env T0 tput tset Ran aload astore setMany upd binV aslice aindexAddr apart aindex alen acopy srcCells natOf boundOf aeq AV.nilEq convV appK fillA List.range List.range.loop onF isU8 rowOf
theorem le_one (b : UInt8) : le [b] = b.toNat:=by simp [le]
theorem byteR_one {q nm : Name} {H : AHeap} {len : Nat} {cells : List AV} {b : UInt8} (hq : H q = some [.im true len cells,vi 0]) (hl : cells.length = len) (hb : cells[0]? = some (.val (.int .u8 (b.toNat : Int)))) :
  byteRS [.ptr q 0] nm H = some (vi (b.toNat : Int),upd H q (some [.im true (len - 1) (cells.drop 1),vi 0])):=by
 have h1 : 1 <= len:=by have:=(List.getElem?_eq_some_iff.1 hb).1; omega
 have h2 : bytesA (cells.take 1) = some [b]:=by
  cases cells with
  | nil => simp at hb
  | cons a r =>
   simp only [List.getElem?_cons_zero,Option.some.injEq] at hb
   subst hb
   exact bytesA_bs [b]
 have h3 : IntKind.i64.wrap ((le [b] : Nat) : Int) = (b.toNat : Int):=by
  have:=b.toNat_lt
  rw [le_one,IntKind.wrap_i64]; omega
 simp only [byteRS,numberS,hq]
 rw [if_pos ⟨by decide,by decide,hl⟩,if_neg (by omega)]
 simp only [show ((1 : Int)).toNat = 1 from rfl,h2,h3,rdr]
set_option maxHeartbeats 1000000 in
theorem hash_ok : FnOK Tryz.prog 312 hashRS:=by
 refine ⟨by kernel_rfl,fun args nm H r H' h => ?_⟩
 unfold hashRS at h
 split at h
 ·rename_i q
  split at h
  ·rename_i len cells hq
   split at h
   ·rename_i l hl
    split at h
    ·rename_i hc
     cases h
     obtain ⟨h1,h2⟩:=hc
     have hcs:=bytesA_some hl
     have hll : l.length = 32:=by
      have:=congrArg List.length hcs
      rw [List.length_take,bs_length] at this; omega
     have hcall:=onF_ok byteR_ok (@noCall_ok Tryz.prog)
     refine sim_go Tryz.func312 rfl rfl (Nat.le_of_ble_eq_true rfl) fun hH => ?_
     have f0 : ∀ j,H (j :: nm) = none:=fun j => hH [j]
     have hq0 : q ≠ 0 :: nm:=by rintro rfl; rw [f0] at hq; cases hq
     have hq0' : 0 :: nm ≠ q:=Ne.symm hq0
     (repeat refine AWP.seq ?_)
     refine AWP.region_last hcall rfl fun K hK => ?_
     simp
     apply hK; clear hK K; simp only [onNormal,onExit]
     (repeat refine AWP.seq ?_)
     refine AWP.scope 0 (fun k c T H2 => ∃ i,i < 32 /\ k = 32 - i /\ T 0 = .ptr q 0 /\ T 2 = .ptr (0 :: nm) 0 /\ T 3 = vi (i : Nat) /\ H2 q = some [.im true (len - i) (cells.drop i),vi 0] /\ H2 (0 :: nm) = some (bs (l.take i) ++ bz (32 - i)) /\ (∀ a r,a ≠ q -> H a = some r -> H2 a = some r)) rfl ?_ ?_
     ·(repeat refine AWP.seq ?_)
      refine AWP.region_last hcall rfl fun K hK => ?_
      simp
      apply hK; clear hK K; simp only [onNormal,onExit]
      refine AWP.seq ?_
      refine AWP.label ?_; simp only [onNormal]
      refine AWP.gen (fun c T H2 => ∃ i,i < 32 /\ T 0 = .ptr q 0 /\ T 2 = .ptr (0 :: nm) 0 /\ T 3 = vi (i : Nat) /\ H2 q = some [.im true (len - i) (cells.drop i),vi 0] /\ H2 (0 :: nm) = some (bs (l.take i) ++ bz (32 - i)) /\ (∀ a r,a ≠ q -> H a = some r -> H2 a = some r)) ⟨0,by omega,by simp,by simp,by simp,by simp [hq,hq0],by simp [bs,bz],fun a r ha har => ?_⟩ ?_
      ·have ha0 : a ≠ 0 :: nm:=by rintro rfl; rw [f0] at har; cases har
       simp [ha0,har]
      rintro c T H2 ⟨i,hi,t0,t2,t3,hq2,ho,hsub⟩
      have hb : ∃ b,b = l[i]'(by omega):=⟨_,rfl⟩
      obtain ⟨b,hb⟩:=hb
      have hci : (cells.drop i)[0]? = some (.val (.int .u8 (b.toNat : Int))):=by
       have e1 : (cells.take 32)[i]? = some (.val (.int .u8 (b.toNat : Int))):=by rw [hcs,bs_get,List.getElem?_eq_getElem (by omega),hb]; rfl
       rw [List.getElem?_take,if_pos hi] at e1
       rw [List.getElem?_drop,Nat.add_zero]; exact e1
      have hbr:=fun nm' => byteR_one (nm:=nm') hq2 (by rw [List.length_drop]; omega) hci
      have hd : (cells.drop i).drop 1 = cells.drop (i + 1):=by rw [List.drop_drop]
      have hle : len - i - 1 = len - (i + 1):=by omega
      rw [hd,hle] at hbr
      have hset : (bs (l.take i) ++ bz (32 - i)).set i (.val (.int .u8 (b.toNat : Int))) = bs (l.take (i + 1)) ++ bz (32 - (i + 1)):=by
       have hti : (bs (l.take i)).length = i:=by rw [bs_length,List.length_take]; omega
       have e1 : l.take (i + 1) = l.take i ++ [b]:=by rw [List.take_add_one,List.getElem?_eq_getElem (by omega),hb]; rfl
       rw [show 32 - i = (32 - (i + 1)) + 1 by omega,bz,List.replicate_succ,List.set_append_right _ _ (by omega),hti,Nat.sub_self,List.set_cons_zero,e1,<- bs_append,List.append_assoc]
       rfl
      have hlen : (bs (l.take i) ++ bz (32 - i)).length = 32:=by rw [List.length_append,bs_length,List.length_take,bz,List.length_replicate]; omega
      have hwb : IntKind.u8.wrap (b.toNat : Int) = (b.toNat : Int):=by have:=b.toNat_lt; rw [IntKind.wrap_u8]; omega
      have hw1 : IntKind.i64.wrap ((i : Int) + 1) = ((i + 1 : Nat) : Int):=by rw [IntKind.wrap_i64]; omega
      obtain ⟨row,hrow⟩ : ∃ r,r = bs (l.take i) ++ bz (32 - i):=⟨_,rfl⟩
      obtain ⟨rowN,hrowN⟩ : ∃ r,r = bs (l.take (i + 1)) ++ bz (32 - (i + 1)):=⟨_,rfl⟩
      rw [<- hrow] at ho hset hlen
      rw [<- hrowN] at hset
      obtain ⟨bb,hbb⟩ : ∃ r,r = b.toNat:=⟨_,rfl⟩
      rw [<- hbb] at hbr hset hwb
      have hi31 : i <= 31:=by omega
      (repeat refine AWP.seq ?_)
      refine AWP.region_last hcall rfl fun K hK => ?_
      simp [t0,t2,t3,hbr,hwb,hi31,hi,ho,hlen,hset,hq0,hq0']
      apply hK; clear hK K; simp only [onNormal,onExit]
      (repeat refine AWP.seq ?_)
      refine AWP.region_last hcall rfl fun K hK => ?_
      simp [t3,hw1]
      apply hK; clear hK K; simp only [onNormal,onExit]
      by_cases h31 : i + 1 < 32
      ·have hlt : ((i + 1 : Nat) : Int) < 32:=by omega
       have hlt' : (i : Int) + 1 < 32:=by omega
       (repeat refine AWP.seq ?_)
       refine AWP.region_last hcall rfl fun K hK => ?_
       simp [hlt,hlt']
       apply hK; clear hK K; simp only [onNormal,onExit]
       (repeat refine AWP.seq ?_); refine AWP.cond (b:=true) (by simp [hlt']) ?_; simp only [if_true,if_false,Bool.false_eq_true]
       refine AWP.goto ?_; simp only [onNormal,onGoto]
       refine ⟨by trivial,32 - (i + 1),i + 1,h31,rfl,by simp [t0],by simp [t2],by simp,by simp [hq0],by simp [hrowN,hq0'],fun a r ha har => ?_⟩
       have ha0 : a ≠ 0 :: nm:=by rintro rfl; rw [f0] at har; cases har
       simp [ha,ha0,hsub a r ha har]
      ·obtain rfl : i = 31:=by omega
       have hlt' : ¬ (((31 : Nat) : Int) + 1 < 32):=by omega
       have hR : rowN = bs l:=by rw [hrowN,List.take_of_length_le (by omega)]; simp [bz]
       rw [hR] at hset
       have dl : (bs l).length = 32:=by rw [bs_length,hll]
       have dt : (bs l).take 32 = bs l:=List.take_of_length_le (by omega)
       have done' : (∀ y,y ∈ bs l -> y.one = true) ↔ True:=iff_true_intro fun y hy => List.all_eq_true.1 (bs_one l) y hy
       have dset : setMany (bs l) 0 (bs l) = bs l:=setMany_full rfl
       (repeat refine AWP.seq ?_)
       refine AWP.region_last hcall rfl fun K hK => ?_
       simp
       apply hK; clear hK K; simp only [onNormal,onExit]
       (repeat refine AWP.seq ?_); refine AWP.cond (b:=false) (by simp) ?_; simp only [if_true,if_false,Bool.false_eq_true]
       refine AWP.skip ?_; simp only [onNormal,onExit]
       (repeat refine AWP.seq ?_)
       refine AWP.region_last hcall rfl fun K hK => ?_
       simp [t2,hR,dl,dt,done',dset,hq0']
       apply hK; clear hK K; simp only [onNormal,onExit]
       (try refine AWP.ret ?_); (try simp only [onNormal,onExit,onGoto])
       refine ⟨by simp,⟨[_],by simp [ares,Tryz.results312,t2,dl,dt],rfl⟩,fun k row hk => ?_⟩
       by_cases hkq : k = q
       ·subst hkq
        rw [upd_same] at hk
        cases hk
        simp [hq0,rdr]
       ·rw [upd_ne _ _ hkq] at hk
        have ha0 : k ≠ 0 :: nm:=by rintro rfl; rw [f0] at hk; cases hk
        simp [hkq,ha0,hsub k row hkq hk]
     ·rintro k c T H2 ⟨i,hi,rfl,t0,t2,t3,hq2,ho,hsub⟩
      (repeat refine AWP.seq ?_)
      refine AWP.skip ?_; simp only [onNormal]
      have hb : ∃ b,b = l[i]'(by omega):=⟨_,rfl⟩
      obtain ⟨b,hb⟩:=hb
      have hci : (cells.drop i)[0]? = some (.val (.int .u8 (b.toNat : Int))):=by
       have e1 : (cells.take 32)[i]? = some (.val (.int .u8 (b.toNat : Int))):=by rw [hcs,bs_get,List.getElem?_eq_getElem (by omega),hb]; rfl
       rw [List.getElem?_take,if_pos hi] at e1
       rw [List.getElem?_drop,Nat.add_zero]; exact e1
      have hbr:=fun nm' => byteR_one (nm:=nm') hq2 (by rw [List.length_drop]; omega) hci
      have hd : (cells.drop i).drop 1 = cells.drop (i + 1):=by rw [List.drop_drop]
      have hle : len - i - 1 = len - (i + 1):=by omega
      rw [hd,hle] at hbr
      have hset : (bs (l.take i) ++ bz (32 - i)).set i (.val (.int .u8 (b.toNat : Int))) = bs (l.take (i + 1)) ++ bz (32 - (i + 1)):=by
       have hti : (bs (l.take i)).length = i:=by rw [bs_length,List.length_take]; omega
       have e1 : l.take (i + 1) = l.take i ++ [b]:=by rw [List.take_add_one,List.getElem?_eq_getElem (by omega),hb]; rfl
       rw [show 32 - i = (32 - (i + 1)) + 1 by omega,bz,List.replicate_succ,List.set_append_right _ _ (by omega),hti,Nat.sub_self,List.set_cons_zero,e1,<- bs_append,List.append_assoc]
       rfl
      have hlen : (bs (l.take i) ++ bz (32 - i)).length = 32:=by rw [List.length_append,bs_length,List.length_take,bz,List.length_replicate]; omega
      have hwb : IntKind.u8.wrap (b.toNat : Int) = (b.toNat : Int):=by have:=b.toNat_lt; rw [IntKind.wrap_u8]; omega
      have hw1 : IntKind.i64.wrap ((i : Int) + 1) = ((i + 1 : Nat) : Int):=by rw [IntKind.wrap_i64]; omega
      obtain ⟨row,hrow⟩ : ∃ r,r = bs (l.take i) ++ bz (32 - i):=⟨_,rfl⟩
      obtain ⟨rowN,hrowN⟩ : ∃ r,r = bs (l.take (i + 1)) ++ bz (32 - (i + 1)):=⟨_,rfl⟩
      rw [<- hrow] at ho hset hlen
      rw [<- hrowN] at hset
      obtain ⟨bb,hbb⟩ : ∃ r,r = b.toNat:=⟨_,rfl⟩
      rw [<- hbb] at hbr hset hwb
      have hi31 : i <= 31:=by omega
      (repeat refine AWP.seq ?_)
      refine AWP.region_last hcall rfl fun K hK => ?_
      simp [t0,t2,t3,hbr,hwb,hi31,hi,ho,hlen,hset,hq0,hq0']
      apply hK; clear hK K; simp only [onNormal,onExit]
      (repeat refine AWP.seq ?_)
      refine AWP.region_last hcall rfl fun K hK => ?_
      simp [t3,hw1]
      apply hK; clear hK K; simp only [onNormal,onExit]
      by_cases h31 : i + 1 < 32
      ·have hlt : ((i + 1 : Nat) : Int) < 32:=by omega
       have hlt' : (i : Int) + 1 < 32:=by omega
       (repeat refine AWP.seq ?_)
       refine AWP.region_last hcall rfl fun K hK => ?_
       simp [hlt,hlt']
       apply hK; clear hK K; simp only [onNormal,onExit]
       (repeat refine AWP.seq ?_); refine AWP.cond (b:=true) (by simp [hlt']) ?_; simp only [if_true,if_false,Bool.false_eq_true]
       refine AWP.goto ?_; simp only [onNormal,onGoto]
       refine ⟨by trivial,32 - (i + 1),by omega,i + 1,h31,rfl,by simp [t0],by simp [t2],by simp,by simp [hq0],by simp [hrowN,hq0'],fun a r ha har => ?_⟩
       have ha0 : a ≠ 0 :: nm:=by rintro rfl; rw [f0] at har; cases har
       simp [ha,ha0,hsub a r ha har]
      ·obtain rfl : i = 31:=by omega
       have hlt' : ¬ (((31 : Nat) : Int) + 1 < 32):=by omega
       have hR : rowN = bs l:=by rw [hrowN,List.take_of_length_le (by omega)]; simp [bz]
       rw [hR] at hset
       have dl : (bs l).length = 32:=by rw [bs_length,hll]
       have dt : (bs l).take 32 = bs l:=List.take_of_length_le (by omega)
       have done' : (∀ y,y ∈ bs l -> y.one = true) ↔ True:=iff_true_intro fun y hy => List.all_eq_true.1 (bs_one l) y hy
       have dset : setMany (bs l) 0 (bs l) = bs l:=setMany_full rfl
       (repeat refine AWP.seq ?_)
       refine AWP.region_last hcall rfl fun K hK => ?_
       simp
       apply hK; clear hK K; simp only [onNormal,onExit]
       (repeat refine AWP.seq ?_); refine AWP.cond (b:=false) (by simp) ?_; simp only [if_true,if_false,Bool.false_eq_true]
       refine AWP.skip ?_; simp only [onNormal,onExit]
       (repeat refine AWP.seq ?_)
       refine AWP.region_last hcall rfl fun K hK => ?_
       simp [t2,hR,dl,dt,done',dset,hq0']
       apply hK; clear hK K; simp only [onNormal,onExit]
       (try refine AWP.ret ?_); (try simp only [onNormal,onExit,onGoto])
       refine ⟨by simp,⟨[_],by simp [ares,Tryz.results312,t2,dl,dt],rfl⟩,fun k row hk => ?_⟩
       by_cases hkq : k = q
       ·subst hkq
        rw [upd_same] at hk
        cases hk
        simp [hq0,rdr]
       ·rw [upd_ne _ _ hkq] at hk
        have ha0 : k ≠ 0 :: nm:=by rintro rfl; rw [f0] at hk; cases hk
        simp [hkq,ha0,hsub k row hkq hk]
    ·cases h
   ·cases h
  ·cases h
 ·cases h
end Go.Proofs.YtbllpnjappddeaaGreat.Den
end
section
set_option linter.unusedSimpArgs false
set_option linter.unusedVariables false
set_option maxRecDepth 100000
namespace Go.Proofs.YtbllpnjappddeaaGreat.Den
open Go.RowKit
attribute [local simp] runList aop abuiltin acall awanted ayielded env T0 tput tset Ran aload astore setMany upd binV aslice aindexAddr apart aindex alen acopy srcCells natOf boundOf aeq AV.nilEq convV appK fillA List.range List.range.loop onF isU8 rowOf
def dwithinS : Spec:=fun args nm H =>
 match args with
 | [.val (.int .i64 n),.val (.int .i64 m)] => some (vb (decide (0 <= n /\ n <= m)),H)
 | _ => none
set_option maxHeartbeats 400000 in
theorem dwithin_ok : FnOK Tryz.prog 137 dwithinS:=by
 refine ⟨by kernel_rfl,fun args nm H r H' h => ?_⟩
 unfold dwithinS at h
 split at h
 ·rename_i n m
  cases h
  have hcall:=@noCall_ok Tryz.prog
  refine sim_go Tryz.func137 rfl rfl (Nat.le_of_ble_eq_true rfl) fun hH => ?_
  (repeat refine AWP.seq ?_)
  refine AWP.region_last hcall rfl fun K hK => ?_
  simp
  apply hK; clear hK K; simp only [onNormal,onExit]
  by_cases h0 : 0 <= n
  ·by_cases h1 : n <= m
   ·(repeat refine AWP.seq ?_)
    refine AWP.region_last hcall rfl fun K hK => ?_
    simp [h0,h1]
    apply hK; clear hK K; simp only [onNormal,onExit]
    (try refine AWP.ret ?_); (try simp only [onNormal,onExit]); refine ⟨by simp,⟨_,rfl,by simp [ares1,h0,h1]⟩,fun k row hk => ?_⟩
    exact hk
   ·(repeat refine AWP.seq ?_)
    refine AWP.region_last hcall rfl fun K hK => ?_
    simp [h0,h1]
    apply hK; clear hK K; simp only [onNormal,onExit]
    (try refine AWP.ret ?_); (try simp only [onNormal,onExit]); refine ⟨by simp,⟨_,rfl,by simp [ares1,h0,h1]⟩,fun k row hk => ?_⟩
    exact hk
  ·(repeat refine AWP.seq ?_)
   refine AWP.region_last hcall rfl fun K hK => ?_
   simp [h0]
   apply hK; clear hK K; simp only [onNormal,onExit]
   (try refine AWP.ret ?_); (try simp only [onNormal,onExit]); refine ⟨by simp,⟨_,rfl,by simp [ares1,h0]⟩,fun k row hk => ?_⟩
   exact hk
 ·cases h
def duserS : Spec:=fun args nm H =>
 match args with
 | [.agg [.val (.int .i64 d),.val (.int .i64 u)]] => some (vb (decide ((0 <= d /\ d <= 2) /\ (0 <= u /\ u <= 7))),H)
 | _ => none
set_option maxHeartbeats 400000 in
theorem duser_ok : FnOK Tryz.prog 136 duserS:=by
 refine ⟨by kernel_rfl,fun args nm H r H' h => ?_⟩
 unfold duserS at h
 split at h
 ·rename_i d u
  cases h
  have hcall:=onF_ok dwithin_ok (@noCall_ok Tryz.prog)
  refine sim_go Tryz.func136 rfl rfl (Nat.le_of_ble_eq_true rfl) fun hH => ?_
  (repeat refine AWP.seq ?_)
  refine AWP.region_last hcall rfl fun K hK => ?_
  simp
  apply hK; clear hK K; simp only [onNormal,onExit]
  by_cases h0 : 0 <= d /\ d <= 2
  ·by_cases h1 : 0 <= u /\ u <= 7
   ·(repeat refine AWP.seq ?_)
    refine AWP.region_last hcall rfl fun K hK => ?_
    simp [dwithinS,h0,h1]
    apply hK; clear hK K; simp only [onNormal,onExit]
    (try refine AWP.ret ?_); (try simp only [onNormal,onExit]); refine ⟨by simp,⟨_,rfl,by simp [ares1,h0,h1]⟩,fun k row hk => ?_⟩
    refine SubL.out ?_ k row hk; repeat (first | exact SubL.id | refine SubL.set ?_ | refine SubL.gone ?_ | (refine SubL.ex ?_ ?_; · simp; done) | refine SubL.fresh (hH [_]) ?_ | refine SubL.fresh (hH [_,_]) ?_ | (refine SubL.fresh (upd_none (hH [_]) ?_) ?_; · simp; done) | (refine SubL.fresh (upd_none (hH [_,_]) ?_) ?_; · simp; done))
   ·(repeat refine AWP.seq ?_)
    refine AWP.region_last hcall rfl fun K hK => ?_
    simp [dwithinS,h0,h1]
    apply hK; clear hK K; simp only [onNormal,onExit]
    (try refine AWP.ret ?_); (try simp only [onNormal,onExit]); refine ⟨by simp,⟨_,rfl,by simp [ares1,h0,h1]⟩,fun k row hk => ?_⟩
    refine SubL.out ?_ k row hk; repeat (first | exact SubL.id | refine SubL.set ?_ | refine SubL.gone ?_ | (refine SubL.ex ?_ ?_; · simp; done) | refine SubL.fresh (hH [_]) ?_ | refine SubL.fresh (hH [_,_]) ?_ | (refine SubL.fresh (upd_none (hH [_]) ?_) ?_; · simp; done) | (refine SubL.fresh (upd_none (hH [_,_]) ?_) ?_; · simp; done))
  ·(repeat refine AWP.seq ?_)
   refine AWP.region_last hcall rfl fun K hK => ?_
   simp [dwithinS,h0]
   apply hK; clear hK K; simp only [onNormal,onExit]
   (try refine AWP.ret ?_); (try simp only [onNormal,onExit]); refine ⟨by simp,⟨_,rfl,by simp [ares1,h0]⟩,fun k row hk => ?_⟩
   refine SubL.out ?_ k row hk; repeat (first | exact SubL.id | refine SubL.set ?_ | refine SubL.gone ?_ | (refine SubL.ex ?_ ?_; · simp; done) | refine SubL.fresh (hH [_]) ?_ | refine SubL.fresh (hH [_,_]) ?_ | (refine SubL.fresh (upd_none (hH [_]) ?_) ?_; · simp; done) | (refine SubL.fresh (upd_none (hH [_,_]) ?_) ?_; · simp; done))
 ·cases h
def dcheckS : Spec:=fun args nm H =>
 match args with
 | [.agg (.val (.int .i64 d) :: .val (.int .i64 u) :: .val (.int .i64 i) :: .val (.int .i64 v) :: r)] =>
  match r.drop 32 with
  | [.val (.int .i64 k),.val (.slice none 0 0),.val (.int .i64 d'),.val (.int .i64 u')] =>
   if ((0 <= d /\ d <= 2) /\ (0 <= u /\ u <= 7)) /\ (0 <= i /\ i <= 1073741824) /\ (0 <= v /\ v <= 1048576) /\ (k = 2 \/ k = 3) /\ ((0 <= d' /\ d' <= 2) /\ (0 <= u' /\ u' <= 7)) then some (vi 0,H) else none
  | _ => none
 | _ => none
theorem at_of_drop {l r : List AV} {n : Nat} {a : AV} (h : l.drop n = a :: r) : l[n]? = some a /\ l.drop (n + 1) = r:=by
 refine ⟨?_,?_⟩
 ·have : (l.drop n)[0]? = some a:=by rw [h]; rfl
  rwa [List.getElem?_drop,Nat.add_zero] at this
 ·have : (l.drop n).drop 1 = r:=by rw [h]; rfl
  rwa [List.drop_drop] at this
set_option maxHeartbeats 1000000 in
theorem dcheck_ok : FnOK Tryz.prog 67 dcheckS:=by
 refine ⟨by kernel_rfl,fun args nm H r0 H' h => ?_⟩
 unfold dcheckS at h
 split at h
 ·rename_i d u i v r
  split at h
  ·rename_i k d' u' hr
   split at h
   ·rename_i hc
    cases h
    obtain ⟨c1,⟨c2,c2'⟩,⟨c3,c3'⟩,c4,c5⟩:=hc
    obtain ⟨row,hrow⟩ : ∃ row : List AV,row = AV.val (.int .i64 d) :: .val (.int .i64 u) :: .val (.int .i64 i) :: .val (.int .i64 v) :: r:=⟨_,rfl⟩
    have hd36 : row.drop 36 = [.val (.int .i64 k),.val (.slice none 0 0),.val (.int .i64 d'),.val (.int .i64 u')]:=by rw [hrow]; exact hr
    have e2 : row[2]? = some (vi i):=by rw [hrow]; rfl
    have e3 : row[3]? = some (vi v):=by rw [hrow]; rfl
    have e0 : row.take 2 = [vi d,vi u]:=by rw [hrow]; rfl
    obtain ⟨e36,h37⟩:=at_of_drop hd36
    obtain ⟨e37,h38⟩:=at_of_drop h37
    have e38 : (row.drop 38).take 2 = [vi d',vi u']:=by rw [h38]; rfl
    have hl : row.length = 40:=by
     have:=congrArg List.length hd36
     simp only [List.length_drop,List.length_cons,List.length_nil] at this
     omega
    rw [<- hrow]
    clear hrow hr hd36 h37 h38
    have hcall:=onF_ok duser_ok (onF_ok dwithin_ok (@noCall_ok Tryz.prog))
    have g2 : ∀ h',row[2]'h' = vi i:=fun h' => by have:=e2; rw [List.getElem?_eq_getElem h'] at this; exact Option.some.inj this
    have g3 : ∀ h',row[3]'h' = vi v:=fun h' => by have:=e3; rw [List.getElem?_eq_getElem h'] at this; exact Option.some.inj this
    have g36 : ∀ h',row[36]'h' = vi k:=fun h' => by have:=e36; rw [List.getElem?_eq_getElem h'] at this; exact Option.some.inj this
    have g37 : ∀ h',row[37]'h' = vnil:=fun h' => by have:=e37; rw [List.getElem?_eq_getElem h'] at this; exact Option.some.inj this
    refine sim_go Tryz.func67 rfl rfl (Nat.le_of_ble_eq_true rfl) fun hH => ?_
    (repeat refine AWP.seq ?_)
    refine AWP.region_last hcall rfl fun K hK => ?_
    simp
    apply hK; clear hK K; simp only [onNormal,onExit]
    (repeat refine AWP.seq ?_)
    refine AWP.region_last hcall rfl fun K hK => ?_
    simp [dwithinS,duserS,e0,e2,e3,g2,g3,hl,c1,c2,c2',c3,c3']
    apply hK; clear hK K; simp only [onNormal,onExit]
    (repeat refine AWP.seq ?_); refine AWP.cond (b:=false) (by simp) ?_; simp only [if_true,if_false,Bool.false_eq_true]
    refine AWP.skip ?_; simp only [onNormal,onExit]
    (repeat refine AWP.seq ?_)
    refine AWP.region_last hcall rfl fun K hK => ?_
    simp [e36,g36,hl]
    apply hK; clear hK K; simp only [onNormal,onExit]
    (repeat refine AWP.seq ?_); refine AWP.block ?_
    rcases c4 with rfl | rfl
    ·(repeat refine AWP.seq ?_)
     refine AWP.region_last hcall rfl fun K hK => ?_
     simp
     apply hK; clear hK K; simp only [onNormal,onExit]
     (repeat refine AWP.seq ?_); refine AWP.cond (b:=false) (by simp) ?_; simp only [if_true,if_false,Bool.false_eq_true]
     (repeat refine AWP.seq ?_)
     refine AWP.region_last hcall rfl fun K hK => ?_
     simp
     apply hK; clear hK K; simp only [onNormal,onExit]
     (repeat refine AWP.seq ?_); refine AWP.cond (b:=true) (by simp) ?_; simp only [if_true,if_false,Bool.false_eq_true]
     refine AWP.skip ?_; simp only [onNormal,onExit]
     (repeat refine AWP.seq ?_); refine AWP.cond (b:=true) (by simp) ?_; simp only [if_true,if_false,Bool.false_eq_true]
     (repeat refine AWP.seq ?_)
     refine AWP.region_last hcall rfl fun K hK => ?_
     simp [dwithinS,duserS,e37,g37,e38,hl,c5]
     apply hK; clear hK K; simp only [onNormal,onExit]
     (repeat refine AWP.seq ?_); refine AWP.cond (b:=false) (by simp) ?_; simp only [if_true,if_false,Bool.false_eq_true]
     refine AWP.skip ?_; simp only [onNormal,onExit]
     (repeat refine AWP.seq ?_)
     refine AWP.region_last hcall rfl fun K hK => ?_
     simp
     apply hK; clear hK K; simp only [onNormal,onExit]
     (try refine AWP.ret ?_); (try simp only [onNormal,onExit]); refine ⟨by simp,⟨_,rfl,by simp [ares1]⟩,fun k row hk => ?_⟩
     refine SubL.out ?_ k row hk; repeat (first | exact SubL.id | refine SubL.set ?_ | refine SubL.gone ?_ | (refine SubL.ex ?_ ?_; · simp; done) | refine SubL.fresh (hH [_]) ?_ | refine SubL.fresh (hH [_,_]) ?_ | (refine SubL.fresh (upd_none (hH [_]) ?_) ?_; · simp; done) | (refine SubL.fresh (upd_none (hH [_,_]) ?_) ?_; · simp; done))
    ·(repeat refine AWP.seq ?_)
     refine AWP.region_last hcall rfl fun K hK => ?_
     simp
     apply hK; clear hK K; simp only [onNormal,onExit]
     (repeat refine AWP.seq ?_); refine AWP.cond (b:=false) (by simp) ?_; simp only [if_true,if_false,Bool.false_eq_true]
     (repeat refine AWP.seq ?_)
     refine AWP.region_last hcall rfl fun K hK => ?_
     simp
     apply hK; clear hK K; simp only [onNormal,onExit]
     (repeat refine AWP.seq ?_); refine AWP.cond (b:=false) (by simp) ?_; simp only [if_true,if_false,Bool.false_eq_true]
     (repeat refine AWP.seq ?_)
     refine AWP.region_last hcall rfl fun K hK => ?_
     simp
     apply hK; clear hK K; simp only [onNormal,onExit]
     (repeat refine AWP.seq ?_); refine AWP.cond (b:=true) (by simp) ?_; simp only [if_true,if_false,Bool.false_eq_true]
     (repeat refine AWP.seq ?_)
     refine AWP.region_last hcall rfl fun K hK => ?_
     simp [dwithinS,duserS,e37,g37,e38,hl,c5]
     apply hK; clear hK K; simp only [onNormal,onExit]
     (repeat refine AWP.seq ?_); refine AWP.cond (b:=false) (by simp) ?_; simp only [if_true,if_false,Bool.false_eq_true]
     refine AWP.skip ?_; simp only [onNormal,onExit]
     (repeat refine AWP.seq ?_)
     refine AWP.region_last hcall rfl fun K hK => ?_
     simp
     apply hK; clear hK K; simp only [onNormal,onExit]
     (try refine AWP.ret ?_); (try simp only [onNormal,onExit]); refine ⟨by simp,⟨_,rfl,by simp [ares1]⟩,fun k row hk => ?_⟩
     refine SubL.out ?_ k row hk; repeat (first | exact SubL.id | refine SubL.set ?_ | refine SubL.gone ?_ | (refine SubL.ex ?_ ?_; · simp; done) | refine SubL.fresh (hH [_]) ?_ | refine SubL.fresh (hH [_,_]) ?_ | (refine SubL.fresh (upd_none (hH [_]) ?_) ?_; · simp; done) | (refine SubL.fresh (upd_none (hH [_,_]) ?_) ?_; · simp; done))
   ·cases h
  ·cases h
 ·cases h
end Go.Proofs.YtbllpnjappddeaaGreat.Den
end
section
set_option linter.unusedSimpArgs false
set_option linter.unusedVariables false
set_option maxRecDepth 100000
namespace Go.Proofs.YtbllpnjappddeaaGreat.Den
open Go.RowKit
attribute [local simp] runList aop abuiltin acall awanted ayielded env T0 tput tset Ran aload astore setMany upd binV aslice aindexAddr apart aindex alen acopy srcCells natOf boundOf aeq AV.nilEq convV appK fillA List.range List.range.loop onF isU8 rowOf
def nilS (r : AV) : Spec:=fun args nm H =>
 match args with
 | [.val (.slice none 0 0)] => some (r,H)
 | _ => none
set_option maxHeartbeats 400000 in
theorem cloneOp_nil : FnOK Tryz.prog 73 (nilS vnil):=by
 refine ⟨by kernel_rfl,fun args nm H r H' h => ?_⟩
 have hcall:=@noCall_ok Tryz.prog
 unfold nilS at h
 split at h
 ·cases h
  refine sim_go Tryz.func73 rfl rfl (Nat.le_of_ble_eq_true rfl) fun hH => ?_
  (repeat refine AWP.seq ?_)
  refine AWP.region_last hcall rfl fun K hK => ?_
  simp
  apply hK; clear hK K; simp only [onNormal,onExit]
  (repeat refine AWP.seq ?_)
  refine AWP.region_last hcall rfl fun K hK => ?_
  simp
  apply hK; clear hK K; simp only [onNormal,onExit]
  (repeat refine AWP.seq ?_); refine AWP.cond (b:=true) (by simp) ?_; simp only [if_true,if_false,Bool.false_eq_true]
  (repeat refine AWP.seq ?_)
  refine AWP.region_last hcall rfl fun K hK => ?_
  simp
  apply hK; clear hK K; simp only [onNormal,onExit]
  (try refine AWP.ret ?_); (try simp only [onNormal,onExit]); refine ⟨by simp,⟨_,rfl,by simp [ares1]⟩,fun k row hk => ?_⟩
  exact hk
 ·cases h
set_option maxHeartbeats 400000 in
theorem opCheck_nil : FnOK Tryz.prog 138 (nilS (vi 0)):=by
 refine ⟨by kernel_rfl,fun args nm H r H' h => ?_⟩
 have hcall:=@noCall_ok Tryz.prog
 unfold nilS at h
 split at h
 ·cases h
  refine sim_go Tryz.func138 rfl rfl (Nat.le_of_ble_eq_true rfl) fun hH => ?_
  (repeat refine AWP.seq ?_)
  refine AWP.region_last hcall rfl fun K hK => ?_
  simp
  apply hK; clear hK K; simp only [onNormal,onExit]
  (repeat refine AWP.seq ?_)
  refine AWP.region_last hcall rfl fun K hK => ?_
  simp
  apply hK; clear hK K; simp only [onNormal,onExit]
  (repeat refine AWP.seq ?_); refine AWP.cond (b:=false) (by simp) ?_; simp only [if_true,if_false,Bool.false_eq_true]
  refine AWP.skip ?_; simp only [onNormal,onExit]
  (repeat refine AWP.seq ?_)
  refine AWP.region_last hcall rfl fun K hK => ?_
  simp
  apply hK; clear hK K; simp only [onNormal,onExit]
  (repeat refine AWP.seq ?_); refine AWP.block ?_
  refine AWP.loop (fun m c T H2 => m = 0 /\ H2 = H /\ T 10 = vi 0 /\ T 11 = vi 0) 0 ⟨rfl,rfl,by simp,by simp⟩ ?_
  rintro _ c T H2 ⟨rfl,rfl,t10,t11⟩
  (repeat refine AWP.seq ?_)
  refine AWP.region_last hcall rfl fun K hK => ?_
  simp [t10,t11]
  apply hK; clear hK K; simp only [onNormal,onExit]
  (repeat refine AWP.seq ?_); refine AWP.cond (b:=false) (by simp) ?_; simp only [if_true,if_false,Bool.false_eq_true]
  refine AWP.exit ?_; simp only [onNormal,onExit,if_true,reduceCtorEq,if_false]
  (repeat refine AWP.seq ?_)
  refine AWP.region_last hcall rfl fun K hK => ?_
  simp
  apply hK; clear hK K; simp only [onNormal,onExit]
  (try refine AWP.ret ?_); (try simp only [onNormal,onExit]); refine ⟨by simp,⟨_,rfl,by simp [ares1]⟩,fun k row hk => ?_⟩
  exact hk
 ·cases h
def opParse0S : Spec:=fun args nm H =>
 match args with
 | [.im true 1 [.val (.int .u8 0)]] => some (.tup [vnil,vi 0],H)
 | _ => none
set_option maxHeartbeats 1000000 in
theorem opParse_0 : FnOK Tryz.prog 244 opParse0S:=by
 refine ⟨by kernel_rfl,fun args nm H r H' h => ?_⟩
 have hcall:=onF_ok new_ok (onF_ok byteR_ok (onF_ok endR_ok (onF_ok opCheck_nil (onF_ok cloneOp_nil (@noCall_ok Tryz.prog)))))
 unfold opParse0S at h
 split at h
 ·cases h
  have hbr:=fun (q nm' : Name) (H₁ : AHeap) (hq : H₁ q = some [.im true 1 [.val (.int .u8 0)],vi 0]) => byteR_one (nm:=nm') (b:=0) hq rfl rfl
  have hbr' : ∀ (q nm' : Name) (H₁ : AHeap),H₁ q = some [.im true 1 [.val (.int .u8 0)],vi 0] -> byteRS [.ptr q 0] nm' H₁ = some (vi 0,upd H₁ q (some [.im true 0 [],vi 0])):=fun q nm' H₁ hq => by rw [hbr q nm' H₁ hq]; rfl
  refine sim_go Tryz.func244 rfl rfl (Nat.le_of_ble_eq_true rfl) fun hH => ?_
  (repeat refine AWP.seq ?_)
  refine AWP.region_last hcall rfl fun K hK => ?_
  simp
  apply hK; clear hK K; simp only [onNormal,onExit]
  (repeat refine AWP.seq ?_)
  refine AWP.region_last hcall rfl fun K hK => ?_
  simp [newS,fullC,elems,rdr]
  apply hK; clear hK K; simp only [onNormal,onExit]
  (repeat refine AWP.seq ?_)
  refine AWP.region_last hcall rfl fun K hK => ?_
  simp
  apply hK; clear hK K; simp only [onNormal,onExit]
  (repeat refine AWP.seq ?_)
  refine AWP.region_last hcall rfl fun K hK => ?_
  simp [hbr']
  apply hK; clear hK K; simp only [onNormal,onExit]
  (repeat refine AWP.seq ?_)
  refine AWP.region_last hcall rfl fun K hK => ?_
  simp
  apply hK; clear hK K; simp only [onNormal,onExit]
  (repeat refine AWP.seq ?_); refine AWP.cond (b:=false) (by simp) ?_; simp only [if_true,if_false,Bool.false_eq_true]
  refine AWP.skip ?_; simp only [onNormal,onExit]
  (repeat refine AWP.seq ?_)
  refine AWP.region_last hcall rfl fun K hK => ?_
  simp
  apply hK; clear hK K; simp only [onNormal,onExit]
  (repeat refine AWP.seq ?_)
  refine AWP.region_last hcall rfl fun K hK => ?_
  simp
  apply hK; clear hK K; simp only [onNormal,onExit]
  (repeat refine AWP.seq ?_); refine AWP.block ?_
  refine AWP.loop (fun m c T H2 => m = 0 /\ H2 (3 :: nm) = some [.im true 0 [],vi 0] /\ T 4 = .ptr (3 :: nm) 0 /\ T 9 = vnil /\ T 25 = vi 0 /\ T 26 = vi 0 /\ (∀ a r,H a = some r -> H2 a = some r)) 0 ⟨rfl,by simp,by simp,by simp,by simp,by simp,SubL.out (SubL.fresh (hH [3]) (SubL.fresh (hH [3]) SubL.id))⟩ ?_
  rintro _ c T H2 ⟨rfl,hq,t4,t9,t25,t26,hsub⟩
  (repeat refine AWP.seq ?_)
  refine AWP.region_last hcall rfl fun K hK => ?_
  simp [t25,t26]
  apply hK; clear hK K; simp only [onNormal,onExit]
  (repeat refine AWP.seq ?_); refine AWP.cond (b:=false) (by simp) ?_; simp only [if_true,if_false,Bool.false_eq_true]
  refine AWP.exit ?_; simp only [onNormal,onExit,if_true,reduceCtorEq,if_false]
  (repeat refine AWP.seq ?_)
  refine AWP.region_last hcall rfl fun K hK => ?_
  simp [t4,endRS,hq]
  apply hK; clear hK K; simp only [onNormal,onExit]
  (repeat refine AWP.seq ?_)
  refine AWP.region_last hcall rfl fun K hK => ?_
  simp
  apply hK; clear hK K; simp only [onNormal,onExit]
  (repeat refine AWP.seq ?_); refine AWP.cond (b:=true) (by simp) ?_; simp only [if_true,if_false,Bool.false_eq_true]
  (repeat refine AWP.seq ?_)
  refine AWP.region_last hcall rfl fun K hK => ?_
  simp [t9,nilS]
  apply hK; clear hK K; simp only [onNormal,onExit]
  (repeat refine AWP.seq ?_)
  refine AWP.region_last hcall rfl fun K hK => ?_
  simp
  apply hK; clear hK K; simp only [onNormal,onExit]
  (repeat refine AWP.seq ?_); refine AWP.cond (b:=false) (by simp) ?_; simp only [if_true,if_false,Bool.false_eq_true]
  refine AWP.skip ?_; simp only [onNormal,onExit]
  (repeat refine AWP.seq ?_)
  refine AWP.region_last hcall rfl fun K hK => ?_
  simp [t9,nilS]
  apply hK; clear hK K; simp only [onNormal,onExit]
  (try refine AWP.ret ?_); (try simp only [onNormal,onExit]); refine ⟨by simp,⟨[_,_],by simp [ares,Tryz.results244]; try rfl,rfl⟩,fun k row hk => ?_⟩
  exact hsub k row hk
 ·cases h
end Go.Proofs.YtbllpnjappddeaaGreat.Den
end
section
set_option linter.unusedSimpArgs false
set_option linter.unusedVariables false
set_option maxRecDepth 100000
namespace Go.Proofs.YtbllpnjappddeaaGreat.Den
open Go.RowKit
attribute [local simp] runList aop abuiltin acall awanted ayielded env T0 tput tset Ran aload astore setMany upd binV aslice aindexAddr apart aindex alen acopy srcCells natOf boundOf aeq AV.nilEq convV appK fillA List.range List.range.loop onF isU8 rowOf
def rdp (l : List UInt8) (j : Nat) : List AV:=[.im true (84 - j) (bs (l.drop j)),vi 0]
def rdI (l : List UInt8) (j : Nat) : Int:=IntKind.i64.wrap ((le ((l.drop j).take 8) : Nat) : Int)
theorem intR_pos {l : List UInt8} {q nm : Name} {H : AHeap} {j : Nat} (hl : l.length = 84) (hj : j + 8 <= 84) (hq : H q = some (rdp l j)) : intRS [.ptr q 0] nm H = some (vi (rdI l j),upd H q (some (rdp l (j + 8)))):=by
 have hlen : (bs (l.drop j)).length = 84 - j:=by rw [bs_length,List.length_drop,hl]
 have hb : bytesA ((bs (l.drop j)).take 8) = some ((l.drop j).take 8):=by rw [bs_take,bytesA_bs]
 simp only [intRS,numberS,hq,rdp]
 rw [if_pos ⟨by decide,by decide,hlen⟩,if_neg (by omega)]
 simp only [show ((8 : Int)).toNat = 8 from rfl,hb,rdr,bs_drop,List.drop_drop,rdI]
 rw [show 84 - j - 8 = 84 - (j + 8) by omega]
theorem byteR_pos {l : List UInt8} {q nm : Name} {H : AHeap} {j : Nat} (hl : l.length = 84) (hj : j < 84) (hq : H q = some (rdp l j)) : byteRS [.ptr q 0] nm H = some (vi (((l.getD j 0).toNat : Nat) : Int),upd H q (some (rdp l (j + 1)))):=by
 rw [byteR_one (b:=l.getD j 0) hq (by rw [bs_length,List.length_drop,hl]) ?_]
 ·rw [bs_drop,List.drop_drop,show 84 - j - 1 = 84 - (j + 1) by omega]; rfl
 ·rw [bs_get,List.getElem?_drop,Nat.add_zero,List.getD_eq_getElem?_getD,List.getElem?_eq_getElem (by omega)]; rfl
theorem set_tail (hs : List AV) (hl : hs.length = 32) (a b c d : AV) (t : List AV) (j : Nat) (v : AV) : (a :: b :: c :: d :: (hs ++ t)).set (36 + j) v = a :: b :: c :: d :: (hs ++ t.set j v):=by
 rw [show 36 + j = (32 + j) + 1 + 1 + 1 + 1 by omega,List.set_cons_succ,List.set_cons_succ,List.set_cons_succ,List.set_cons_succ,List.set_append_right _ _ (by omega),hl,show 32 + j - 32 = j by omega]
def rowI (d u i v : Int) (h : List UInt8) (j : Nat) : List AV:=vi d :: vi u :: vi i :: vi v :: ((bs (h.take j) ++ bz (32 - j)) ++ [vi 0,vnil,vi 0,vi 0])
theorem rowI_length (d u i v : Int) (h : List UInt8) (j : Nat) (hj : j <= 32) (hh : h.length = 32) : (rowI d u i v h j).length = 40:=by
 simp only [rowI,List.length_cons,List.length_append,bs_length,List.length_take,bz,List.length_replicate,List.length_nil]; omega
theorem rowI_set (d u i v : Int) (h : List UInt8) (j : Nat) (hj : j < 32) (hh : h.length = 32) : (rowI d u i v h j).set (4 + j) (.val (.int .u8 ((h.getD j 0).toNat : Int))) = rowI d u i v h (j + 1):=by
 have hti : (bs (h.take j)).length = j:=by rw [bs_length,List.length_take]; omega
 have e1 : h.take (j + 1) = h.take j ++ [h.getD j 0]:=by rw [List.take_add_one,List.getD_eq_getElem?_getD,List.getElem?_eq_getElem (by omega)]; rfl
 rw [rowI,show 4 + j = j + 1 + 1 + 1 + 1 by omega,List.set_cons_succ,List.set_cons_succ,List.set_cons_succ,List.set_cons_succ,List.append_assoc,List.set_append_right _ _ (by omega),hti,Nat.sub_self,show 32 - j = (32 - (j + 1)) + 1 by omega,bz,List.replicate_succ,List.cons_append,List.set_cons_zero,rowI,e1,<- bs_append]
 simp [bs,bz]
def dparseS : Spec:=fun args nm H =>
 match args with
 | [x] =>
  match elems H 1 x with
  | some (84,cells) =>
   match bytesA cells with
   | some l =>
    if ((0 <= rdI l 0 /\ rdI l 0 <= 2) /\ (0 <= rdI l 8 /\ rdI l 8 <= 7)) /\ (0 <= rdI l 16 /\ rdI l 16 <= 1073741824) /\ (0 <= rdI l 24 /\ rdI l 24 <= 1048576) /\ ((l.getD 64 0).toNat = 2 \/ (l.getD 64 0).toNat = 3) /\ l.getD 65 0 = 1 /\ l.getD 66 0 = 0 /\ l.getD 67 0 = 0 /\ ((0 <= rdI l 68 /\ rdI l 68 <= 2) /\ (0 <= rdI l 76 /\ rdI l 76 <= 7)) then
     some (.tup [.agg (vi (rdI l 0) :: vi (rdI l 8) :: vi (rdI l 16) :: vi (rdI l 24) :: (bs ((l.drop 32).take 32) ++ [vi (((l.getD 64 0).toNat : Nat) : Int),vnil,vi (rdI l 68),vi (rdI l 76)])),vi 0],H)
    else none
   | none => none
  | _ => none
 | _ => none
end Go.Proofs.YtbllpnjappddeaaGreat.Den
end
