/- Package delta: a delta that is no edit is read: the walk. -/
import Derived.Test.YtbllpnjappddeaaGreatKOvL
import Derived.Test.YtbllpnjappddeaaGreatKLibInsert
set_option linter.unusedVariables false
set_option linter.unusedSimpArgs false
section
set_option linter.unusedSimpArgs false
set_option linter.unusedVariables false
set_option maxRecDepth 100000
namespace Go.Proofs.YtbllpnjappddeaaGreat.Den
open Go.RowKit
attribute [local simp] runList aop abuiltin acall awanted ayielded env T0 tput tset Ran aload astore setMany upd binV aslice aindexAddr apart aindex alen acopy srcCells natOf boundOf aeq AV.nilEq convV appK fillA List.range List.range.loop onF isU8 rowOf
theorem getD_drop {l : List UInt8} {j : Nat} (h : j < l.length) : l.drop j = l.getD j 0 :: l.drop (j + 1):=by
 rw [List.drop_eq_getElem_cons h,List.getD_eq_getElem?_getD,List.getElem?_eq_getElem h]; rfl
theorem text65 {l : List UInt8} {q nm : Name} {H : AHeap} (hl : l.length = 84) (hq : H q = some (rdp l 65)) (h1 : l.getD 65 0 = 1) (h2 : l.getD 66 0 = 0) (h3 : l.getD 67 0 = 0) : textRS [.ptr q 0] nm H = some (.val (.string ⟨#[0]⟩),upd (upd H q (some (rdp l 67))) q (some (rdp l 68))):=by
 have e3 : l.drop 67 = 0 :: l.drop 68:=by rw [getD_drop (by omega),h3]
 have e2 : l.drop 66 = 0 :: l.drop 67:=by rw [getD_drop (by omega),h2]
 have e1 : l.drop 65 = 1 :: l.drop 66:=by rw [getD_drop (by omega),h1]
 have n : numberS [.ptr q 0,vi 2] nm H = some (vi 1,upd H q (some (rdp l 67))):=by
  simp only [numberS,hq,rdp]
  rw [if_pos ⟨by decide,by decide,by rw [bs_length,List.length_drop,hl]⟩,if_neg (by decide),show ((2 : Int)).toNat = 2 from rfl,bs_take,bytesA_bs,e1,e2]
  simp only [List.take,rdr,bs_drop,List.drop]
  rfl
 have t : takeS [.ptr q 0,vi 1] nm (upd H q (some (rdp l 67))) = some (.im true 1 [.val (.int .u8 0)],upd (upd H q (some (rdp l 67))) q (some (rdp l 68))):=by
  simp only [takeS,upd_same,rdp]
  rw [if_pos ⟨by decide,by rw [bs_length,List.length_drop,hl]⟩,if_neg (by decide),show ((1 : Int)).toNat = 1 from rfl,bs_take,e3]
  simp only [List.take,rdr,bs_drop,List.drop]
  rfl
 simp only [textRS,n,t]
 rfl
set_option maxHeartbeats 2000000 in
theorem dparse_ok : FnOK Tryz.prog 148 dparseS:=by
 refine ⟨by kernel_rfl,fun args nm H r H' h => ?_⟩
 unfold dparseS at h
 split at h
 ·rename_i x
  split at h
  ·rename_i cells hel
   split at h
   ·rename_i l hl
    split at h
    ·rename_i hc
     cases h
     have hcall:=onF_ok new_ok (onF_ok intR_ok (onF_ok byteR_ok (onF_ok textR_ok (onF_ok endR_ok (onF_ok opParse_0 (onF_ok dcheck_ok (@noCall_ok Tryz.prog)))))))
     have hcs:=bytesA_some hl
     have hll : l.length = 84:=by
      have h1:=elems_pos hel
      have h2:=congrArg List.length hcs
      rw [bs_length] at h2; omega
     subst hcs
     refine sim_go Tryz.func148 rfl rfl (Nat.le_of_ble_eq_true rfl) fun hH => ?_
     have f0 : ∀ j,H (j :: nm) = none:=fun j => hH [j]
     have hnew : ∀ m row,newS [x] m (upd H (0 :: nm) row) = some (.ptr m 0,upd (upd H (0 :: nm) row) m (some (rdp l 0))):=fun m row => by
      have h1:=elems_sub (H₁:=upd H (0 :: nm) row) (fun k r hk => by rw [upd_ne _ _ (by rintro rfl; rw [f0] at hk; cases hk)]; exact hk) hel
      have h2 : fullC (upd H (0 :: nm) row) x = some (84,bs l):=by
       unfold fullC
       split
       ·simp [elems] at hel
       ·exact h1
      simp [newS,h2,rdr,rdp,List.all_eq_true.1 (bs_one l)]
      exact fun y hy => List.all_eq_true.1 (bs_one l) y hy
     (repeat refine AWP.seq ?_)
     refine AWP.region_last hcall rfl fun K hK => ?_
     simp
     apply hK; clear hK K; simp only [onNormal,onExit]
     (repeat refine AWP.seq ?_)
     refine AWP.region_last hcall rfl fun K hK => ?_
     simp [hnew]
     apply hK; clear hK K; simp only [onNormal,onExit]
     have hI : ∀ (nm' : Name) (H₁ : AHeap) (j : Nat),j + 8 <= 84 -> intRS [.ptr (3 :: nm) 0] nm' (upd H₁ (3 :: nm) (some (rdp l j))) = some (vi (rdI l j),upd (upd H₁ (3 :: nm) (some (rdp l j))) (3 :: nm) (some (rdp l (j + 8)))):=fun nm' H₁ j hj => intR_pos hll hj (upd_same _ _ _)
     have hp1 : places Tryz.prog [{ name := "D", type := 3, offset := 0, embedded := false, tag := "", pkgPath := "", byteOffset := 0 }, { name := "U", type := 3, offset := 1, embedded := false, tag := "", pkgPath := "", byteOffset := 8 }] = some [(0, 1), (1, 1)] := by kernel_rfl
     have hp2 : places Tryz.prog [{ name := "Author", type := 28, offset := 0, embedded := false, tag := "", pkgPath := "", byteOffset := 0 }, { name := "Id", type := 3, offset := 2, embedded := false, tag := "", pkgPath := "", byteOffset := 16 }, { name := "Version", type := 3, offset := 3, embedded := false, tag := "", pkgPath := "", byteOffset := 24 }, { name := "Hash", type := 48, offset := 4, embedded := false, tag := "", pkgPath := "", byteOffset := 32 }, { name := "Kind", type := 3, offset := 36, embedded := false, tag := "", pkgPath := "", byteOffset := 64 }, { name := "Op", type := 62, offset := 37, embedded := false, tag := "", pkgPath := "", byteOffset := 72 }, { name := "Who", type := 28, offset := 38, embedded := false, tag := "", pkgPath := "", byteOffset := 96 }] = some [(0, 2), (2, 1), (3, 1), (4, 32), (36, 1), (37, 1), (38, 2)] := by kernel_rfl
     (repeat refine AWP.seq ?_)
     refine AWP.region_last hcall rfl fun K hK => ?_
     simp [hI,hp1,hp2]
     apply hK; clear hK K; simp only [onNormal,onExit]
     (repeat refine AWP.seq ?_)
     refine AWP.region_last hcall rfl fun K hK => ?_
     simp
     apply hK; clear hK K; simp only [onNormal,onExit]
     (repeat refine AWP.seq ?_); refine AWP.block ?_
     refine AWP.loop (fun m c T H2 => ∃ i,i <= 32 /\ m = 32 - i /\ T 2 = .ptr (0 :: nm) 0 /\ T 3 = vi 0 /\ T 4 = .ptr (3 :: nm) 0 /\ T 5 = .ptr (15 :: nm) 0 /\ T 21 = vi (i : Nat) /\ H2 (0 :: nm) = some (vi 0 :: vi 0 :: vi 0 :: vi 0 :: (bz 32 ++ [vi 0,vnil,vi 0,vi 0])) /\ H2 (3 :: nm) = some (rdp l (32 + i)) /\ H2 (15 :: nm) = some (rowI (rdI l 0) (rdI l 8) (rdI l 16) (rdI l 24) ((l.drop 32).take 32) i) /\ (∀ a r,H a = some r -> H2 a = some r)) 32 ⟨0,by omega,rfl,by simp,by simp,by simp,by simp,by simp,by simp,by simp,by simp [rowI,bs,bz],fun k row hk => ?_⟩ ?_
     ·refine SubL.out ?_ k row hk; repeat (first | exact SubL.id | refine SubL.set ?_ | refine SubL.gone ?_ | (refine SubL.ex ?_ ?_; · simp; done) | refine SubL.fresh (hH [_]) ?_ | refine SubL.fresh (hH [_,_]) ?_ | (refine SubL.fresh (upd_none (hH [_]) ?_) ?_; · simp; done) | (refine SubL.fresh (upd_none (hH [_,_]) ?_) ?_; · simp; done))
     rintro _ c T H2 ⟨i,hi,rfl,t2,t3,t4,t5,t21,h0,h3,h15,hsub⟩
     by_cases h32 : i < 32
     ·have hlt : (i : Int) < 32:=by omega
      have hw : IntKind.i64.wrap ((i : Int) + 1) = ((i + 1 : Nat) : Int):=by rw [IntKind.wrap_i64]; omega
      have hb:=fun nm' => byteR_pos (nm:=nm') hll (by omega) h3
      have hh : ((l.drop 32).take 32).length = 32:=by rw [List.length_take,List.length_drop,hll]; omega
      have hgd : l.getD (32 + i) 0 = ((l.drop 32).take 32).getD i 0:=by
       rw [List.getD_eq_getElem?_getD,List.getD_eq_getElem?_getD,List.getElem?_take,if_pos h32,List.getElem?_drop]
      have hset:=rowI_set (rdI l 0) (rdI l 8) (rdI l 16) (rdI l 24) ((l.drop 32).take 32) i h32 hh
      have hlen:=rowI_length (rdI l 0) (rdI l 8) (rdI l 16) (rdI l 24) ((l.drop 32).take 32) i hi hh
      rw [hgd] at hb
      obtain ⟨row,hrow⟩ : ∃ r,r = rowI (rdI l 0) (rdI l 8) (rdI l 16) (rdI l 24) ((l.drop 32).take 32) i:=⟨_,rfl⟩
      obtain ⟨rowN,hrowN⟩ : ∃ r,r = rowI (rdI l 0) (rdI l 8) (rdI l 16) (rdI l 24) ((l.drop 32).take 32) (i + 1):=⟨_,rfl⟩
      rw [<- hrow] at h15 hset hlen
      rw [<- hrowN] at hset
      have hwb : IntKind.u8.wrap (((((l.drop 32).take 32).getD i 0).toNat : Nat) : Int) = ((((l.drop 32).take 32).getD i 0).toNat : Int):=by have:=(((l.drop 32).take 32).getD i 0).toNat_lt; rw [IntKind.wrap_u8]; omega
      obtain ⟨bb,hbb⟩ : ∃ r,r = (((l.drop 32).take 32).getD i 0).toNat:=⟨_,rfl⟩
      rw [<- hbb] at hb hset hwb
      have hi36 : 4 + i <= 39:=by omega
      (repeat refine AWP.seq ?_)
      refine AWP.region_last hcall rfl fun K hK => ?_
      simp [t21]
      apply hK; clear hK K; simp only [onNormal,onExit]
      (repeat refine AWP.seq ?_); refine AWP.cond (b:=true) (by simp [hlt]) ?_; simp only [if_true,if_false,Bool.false_eq_true]
      refine AWP.skip ?_; simp only [onNormal,onExit]
      (repeat refine AWP.seq ?_); refine AWP.block ?_
      (repeat refine AWP.seq ?_)
      refine AWP.region_last hcall rfl fun K hK => ?_
      simp [t21]
      apply hK; clear hK K; simp only [onNormal,onExit]
      (repeat refine AWP.seq ?_)
      refine AWP.region_last hcall rfl fun K hK => ?_
      simp [t4,t5,hb,hwb,h32,hi36,h15,hlen,hset]
      apply hK; clear hK K; simp only [onNormal,onExit]
      (repeat refine AWP.seq ?_)
      refine AWP.region_last hcall rfl fun K hK => ?_
      simp [t21,hw]
      apply hK; clear hK K; simp only [onNormal,onExit]
      refine ⟨32 - (i + 1),by omega,i + 1,by omega,rfl,by simp [t2],by simp [t3],by simp [t4],by simp [t5],by simp,by simp [h0],by simp [Nat.add_assoc],by simp [hrowN],SubL.out (SubL.fresh (hH [15]) (SubL.fresh (hH [3]) fun a r _ ha => hsub a r ha))⟩
     ·obtain rfl : i = 32:=by omega
      obtain ⟨hs,hhs⟩ : ∃ r,r = bs ((l.drop 32).take 32):=⟨_,rfl⟩
      have hsl : hs.length = 32:=by rw [hhs,bs_length,List.length_take,List.length_drop,hll]; omega
      have hrow : rowI (rdI l 0) (rdI l 8) (rdI l 16) (rdI l 24) ((l.drop 32).take 32) 32 = vi (rdI l 0) :: vi (rdI l 8) :: vi (rdI l 16) :: vi (rdI l 24) :: (hs ++ [vi 0,vnil,vi 0,vi 0]):=by
       rw [rowI,List.take_of_length_le (by rw [List.length_take]; omega),hhs]; simp [bz]
      rw [hrow] at h15
      clear hrow
      rw [<- hhs]
      have hb:=fun nm' => byteR_pos (nm:=nm') hll (by omega) h3
      have s36:=fun a b c d t v => set_tail hs hsl a b c d t 0 v
      have s37:=fun a b c d t v => set_tail hs hsl a b c d t 1 v
      have s38:=fun a b c d t v => set_tail hs hsl a b c d t 2 v
      have s39:=fun a b c d t v => set_tail hs hsl a b c d t 3 v
      simp only [Nat.reduceAdd,List.set_cons_zero,List.set_cons_succ] at hb s36 s37 s38 s39
      (repeat refine AWP.seq ?_)
      refine AWP.region_last hcall rfl fun K hK => ?_
      simp [t21]
      apply hK; clear hK K; simp only [onNormal,onExit]
      (repeat refine AWP.seq ?_); refine AWP.cond (b:=false) (by simp) ?_; simp only [if_true,if_false,Bool.false_eq_true]
      refine AWP.exit ?_; simp only [onNormal,onExit,if_true,reduceCtorEq,if_false]
      obtain ⟨⟨⟨c1,c1'⟩,c2,c2'⟩,⟨c3,c3'⟩,⟨c4,c4'⟩,c5,c6,c7,c8,⟨c9,c9'⟩,c10,c10'⟩:=hc
      have ht : ∀ (nm' : Name) (H₁ : AHeap),H₁ (3 :: nm) = some (rdp l 65) -> textRS [.ptr (3 :: nm) 0] nm' H₁ = some (.val (.string ⟨#[0]⟩),upd (upd H₁ (3 :: nm) (some (rdp l 67))) (3 :: nm) (some (rdp l 68))):=fun nm' H₁ h => text65 hll h c6 c7 c8
      have he : ∀ (nm' : Name) (H₁ : AHeap),H₁ (3 :: nm) = some (rdp l 84) -> endRS [.ptr (3 :: nm) 0] nm' H₁ = some (vi 0,H₁):=fun nm' H₁ h => by simp [endRS,h,rdp]
      obtain ⟨kb,hkb⟩ : ∃ r,r = (l.getD 64 0).toNat:=⟨_,rfl⟩
      rw [<- hkb] at hb c5 ⊢
      (repeat refine AWP.seq ?_)
      refine AWP.region_last hcall rfl fun K hK => ?_
      simp [t4,t5,hb,h15,hsl,s36]
      apply hK; clear hK K; simp only [onNormal,onExit]
      (repeat refine AWP.seq ?_)
      refine AWP.region_last hcall rfl fun K hK => ?_
      simp [t4,ht]
      apply hK; clear hK K; simp only [onNormal,onExit]
      (repeat refine AWP.seq ?_)
      refine AWP.region_last hcall rfl fun K hK => ?_
      simp [t4,t5,hI,hp1,s38,s39,hsl]
      apply hK; clear hK K; simp only [onNormal,onExit]
      (repeat refine AWP.seq ?_)
      refine AWP.region_last hcall rfl fun K hK => ?_
      simp [t4,he]
      apply hK; clear hK K; simp only [onNormal,onExit]
      (repeat refine AWP.seq ?_)
      refine AWP.region_last hcall rfl fun K hK => ?_
      simp
      apply hK; clear hK K; simp only [onNormal,onExit]
      (repeat refine AWP.seq ?_); refine AWP.cond (b:=true) (by simp) ?_; simp only [if_true,if_false,Bool.false_eq_true]
      have hop : ∀ (nm' : Name) (H₁ : AHeap),opParse0S [.im true 1 [.val (.int .u8 0)]] nm' H₁ = some (.tup [vnil,vi 0],H₁):=fun nm' H₁ => rfl
      have hck : ∀ (nm' : Name) (H₁ : AHeap),dcheckS [.agg (vi (rdI l 0) :: vi (rdI l 8) :: vi (rdI l 16) :: vi (rdI l 24) :: (hs ++ [vi ((kb : Nat) : Int),vnil,vi (rdI l 68),vi (rdI l 76)]))] nm' H₁ = some (vi 0,H₁):=fun nm' H₁ => by
       have hd : (hs ++ [vi ((kb : Nat) : Int),vnil,vi (rdI l 68),vi (rdI l 76)]).drop 32 = [vi ((kb : Nat) : Int),vnil,vi (rdI l 68),vi (rdI l 76)]:=by
        rw [<- hsl]; exact List.drop_left
       simp only [dcheckS,hd]
       rw [if_pos ⟨⟨⟨c1,c1'⟩,c2,c2'⟩,⟨c3,c3'⟩,⟨c4,c4'⟩,by omega,⟨c9,c9'⟩,c10,c10'⟩]
      have hsz : (⟨#[0]⟩ : ByteArray).size = 1:=rfl
      (repeat refine AWP.seq ?_)
      refine AWP.region_last hcall rfl fun K hK => ?_
      simp [t5,hsz,hop,s37,hsl]
      apply hK; clear hK K; simp only [onNormal,onExit]
      (repeat refine AWP.seq ?_)
      refine AWP.region_last hcall rfl fun K hK => ?_
      simp
      apply hK; clear hK K; simp only [onNormal,onExit]
      (repeat refine AWP.seq ?_); refine AWP.cond (b:=true) (by simp) ?_; simp only [if_true,if_false,Bool.false_eq_true]
      have htk : (hs ++ [vi ((kb : Nat) : Int),vnil,vi (rdI l 68),vi (rdI l 76)]).take 36 = hs ++ [vi ((kb : Nat) : Int),vnil,vi (rdI l 68),vi (rdI l 76)]:=List.take_of_length_le (by simp [hsl])
      (repeat refine AWP.seq ?_)
      refine AWP.region_last hcall rfl fun K hK => ?_
      simp [t5,hck,hsl,htk]
      apply hK; clear hK K; simp only [onNormal,onExit]
      (repeat refine AWP.seq ?_)
      refine AWP.region_last hcall rfl fun K hK => ?_
      simp
      apply hK; clear hK K; simp only [onNormal,onExit]
      (repeat refine AWP.seq ?_); refine AWP.cond (b:=false) (by simp) ?_; simp only [if_true,if_false,Bool.false_eq_true]
      refine AWP.skip ?_; simp only [onNormal,onExit]
      have hs1 : (∀ y,y ∈ hs -> y.one = true) ↔ True:=iff_true_intro fun y hy => List.all_eq_true.1 (hhs ▸ bs_one _) y hy
      have hsm : setMany (vi (rdI l 0) :: vi (rdI l 8) :: vi (rdI l 16) :: vi (rdI l 24) :: (bz 32 ++ [vi 0,vnil,vi 0,vi 0])) 4 (hs ++ [vi ((kb : Nat) : Int),vnil,vi (rdI l 68),vi (rdI l 76)]) = vi (rdI l 0) :: vi (rdI l 8) :: vi (rdI l 16) :: vi (rdI l 24) :: (hs ++ [vi ((kb : Nat) : Int),vnil,vi (rdI l 68),vi (rdI l 76)]):=by
       have:=setMany_append (hs ++ [vi ((kb : Nat) : Int),vnil,vi (rdI l 68),vi (rdI l 76)]) [vi (rdI l 0),vi (rdI l 8),vi (rdI l 16),vi (rdI l 24)] (bz 32 ++ [vi 0,vnil,vi 0,vi 0]) (by simp [bz,hsl])
       exact this
      have htk2 : (hs ++ [vi ((kb : Nat) : Int),vnil,vi (rdI l 68),vi (rdI l 76)]).take 40 = hs ++ [vi ((kb : Nat) : Int),vnil,vi (rdI l 68),vi (rdI l 76)]:=List.take_of_length_le (by simp [hsl])
      (repeat refine AWP.seq ?_)
      refine AWP.region_last hcall rfl fun K hK => ?_
      simp [t2,t5,h0,hsl,htk,hs1,hsm]
      apply hK; clear hK K; simp only [onNormal,onExit]
      (try refine AWP.ret ?_); (try simp only [onNormal,onExit]); refine ⟨by simp,⟨[_,_],by simp [ares,Tryz.results148,t2,hsl,htk,htk2,hsm]; try rfl,rfl⟩,fun k row hk => ?_⟩
      refine SubL.out ?_ k row hk
      have hb0 : SubL [] H H2:=fun a r _ ha => hsub a r ha
      repeat (first | exact hb0 | refine SubL.fresh (hH [_]) ?_)
    ·cases h
   ·cases h
  ·cases h
 ·cases h
end Go.Proofs.YtbllpnjappddeaaGreat.Den
end
section
set_option linter.unusedSimpArgs false
set_option linter.unusedVariables false
set_option maxRecDepth 100000
namespace Go.Proofs.YtbllpnjappddeaaGreat.Den
open Go.RowKit
variable {P : Program} {ρ : Vals} {ν : Nat -> Option Name}
theorem partC_elems {H : AHeap} {x : AV} {k : Nat} {c : List AV} (h : partC H 1 x = some (k,c)) (h0 : 0 < k) : elems H 1 x = some (k,c):=by
 unfold partC at h
 split at h
 ·cases h; omega
 ·split at h
  ·rename_i hs
   simp only [Option.bind_eq_some_iff] at h
   obtain ⟨row,h1,h2⟩:=h
   split at h2
   ·rename_i hl
    cases h2
    subst hs
    rw [elems_sl,if_pos ⟨rfl,h0⟩,h1]
    exact if_pos hl
   ·cases h2
  ·cases h
 ·split at h
  ·rename_i hl
   cases h
   simp [elems,hl,h0]
  ·cases h
 ·cases h
def rdN (l : List Nat) (j : Nat) : Nat:=leN ((l.drop j).take 8)
theorem u8s_get {l : List Nat} (h : ∀ x ∈ l,x < 256) (j : Nat) : ((u8s l).getD j 0).toNat = l.getD j 0:=by
 rw [u8s,List.getD_eq_getElem?_getD,List.getElem?_map,List.getD_eq_getElem?_getD]
 cases e : l[j]? with
 | none => rfl
 | some x =>
  have:=h x (List.mem_of_getElem? e)
  simp; omega
theorem rdN_eq {l : List Nat} (h : ∀ x ∈ l,x < 256) {j m : Nat} (hm : m < 9223372036854775808) (hb : Nat.ble (rdN l j) m = true) : rdI (u8s l) j = (rdN l j : Nat) /\ rdN l j <= m:=by
 have hb:=Nat.le_of_ble_eq_true hb
 have e : ((u8s l).drop j).take 8 = u8s ((l.drop j).take 8):=by simp [u8s,List.map_drop,List.map_take]
 have e2 : le (((u8s l).drop j).take 8) = rdN l j:=by
  rw [e,rdN]
  exact leN_eq fun x hx => h x (List.mem_of_mem_drop (List.mem_of_mem_take hx))
 refine ⟨?_,hb⟩
 rw [rdI,e2,IntKind.wrap_i64]; omega
def lI (n : Nat) : SV:=.int .i64 (.lit (.ofNat n))
def odparse (args : List SV) (h : Mem) : SRes :=
 match args with
 | [x] =>
  match litParts h [x] with
  | some l =>
   bif Nat.beq l.length 84 && Nat.ble (rdN l 0) 2 && Nat.ble (rdN l 8) 7 && Nat.ble (rdN l 16) 1073741824 && Nat.ble (rdN l 24) 1048576 && Nat.ble 2 (l.getD 64 0) && Nat.ble (l.getD 64 0) 3 && Nat.beq (l.getD 65 0) 1 && Nat.beq (l.getD 66 0) 0 && Nat.beq (l.getD 67 0) 0 && Nat.ble (rdN l 68) 2 && Nat.ble (rdN l 76) 7 then
    forceN (rdN l 0) fun a => forceN (rdN l 8) fun b => forceN (rdN l 16) fun c => forceN (rdN l 24) fun d => forceN (l.getD 64 0) fun k => forceN (rdN l 68) fun e => forceN (rdN l 76) fun f => forceB ((l.drop 32).take 32) fun hs =>
     some (.tup [.agg (lI a :: lI b :: lI c :: lI d :: List.append hs [lI k,.val (.slice none 0 0),lI e,lI f]),lI 0],h)
   else none
  | none => none
 | _ => none
theorem odparse_ok {args : List SV} {h h' : Mem} {r : SV} (hr : odparse args h = some (r,h')) : isGo Tryz.prog 148 = true /\ ∀ (ν : Nat -> Option Name) (H : AHeap) (nm : Name) (xs : List AV),MRel ρ ν h H -> Fre ν nm -> SRels ρ ν args xs ->
  ∃ z H',Sim Tryz.prog 148 xs nm H z H' /\ Out ρ ν nm r h' z H':=by
 refine ovr_fn dparse_ok (g:=odparse) (fun args h r h' hr ν H nm xs hm hf hx => ?_) hr
 unfold odparse at hr
 split at hr
 ·rename_i x
  split at hr
  ·rename_i l hl
   generalize hc : (Nat.beq l.length 84 && Nat.ble (rdN l 0) 2 && Nat.ble (rdN l 8) 7 && Nat.ble (rdN l 16) 1073741824 && Nat.ble (rdN l 24) 1048576 && Nat.ble 2 (l.getD 64 0) && Nat.ble (l.getD 64 0) 3 && Nat.beq (l.getD 65 0) 1 && Nat.beq (l.getD 66 0) 0 && Nat.beq (l.getD 67 0) 0 && Nat.ble (rdN l 68) 2 && Nat.ble (rdN l 76) 7) = cc at hr
   cases cc with
   | false => cases hr
   | true =>
    simp only [cond_true,forceN_eq,forceB_eq,Option.some.injEq,Prod.mk.injEq] at hr
    obtain ⟨rfl,rfl⟩:=hr
    simp only [Bool.and_eq_true] at hc
    obtain ⟨⟨⟨⟨⟨⟨⟨⟨⟨⟨⟨c0,c1⟩,c2⟩,c3⟩,c4⟩,c5⟩,c5'⟩,c6⟩,c7⟩,c8⟩,c9⟩,c10⟩:=hc
    cases hx with
    | cons hx t =>
     cases t
     obtain ⟨g1,g2⟩:=lit_part hm.rows hx hl
     rw [Nat.eq_of_beq_eq_true c0] at g1
     have g3:=partC_elems g1 (by decide)
     obtain ⟨r0,m0⟩:=rdN_eq g2 (by decide) c1
     obtain ⟨r8,m8⟩:=rdN_eq g2 (by decide) c2
     obtain ⟨r16,m16⟩:=rdN_eq g2 (by decide) c3
     obtain ⟨r24,m24⟩:=rdN_eq g2 (by decide) c4
     obtain ⟨r68,m68⟩:=rdN_eq g2 (by decide) c9
     obtain ⟨r76,m76⟩:=rdN_eq g2 (by decide) c10
     have k64:=u8s_get g2 64
     have k65:=u8s_get g2 65
     have k66:=u8s_get g2 66
     have k67:=u8s_get g2 67
     have d5:=Nat.le_of_ble_eq_true c5
     have d5':=Nat.le_of_ble_eq_true c5'
     have d6:=Nat.eq_of_beq_eq_true c6
     have d7:=Nat.eq_of_beq_eq_true c7
     have d8:=Nat.eq_of_beq_eq_true c8
     have e5 : (u8s l).getD 65 0 = 1:=UInt8.toNat_inj.1 (by rw [k65,d6]; rfl)
     have e6 : (u8s l).getD 66 0 = 0:=UInt8.toNat_inj.1 (by rw [k66,d7]; rfl)
     have e7 : (u8s l).getD 67 0 = 0:=UInt8.toNat_inj.1 (by rw [k67,d8]; rfl)
     have eh : ((u8s l).drop 32).take 32 = u8s ((l.drop 32).take 32):=by simp [u8s,List.map_drop,List.map_take]
     have hh : SRels ρ ν (((l.drop 32).take 32).map lB) (bs (u8s ((l.drop 32).take 32))):=bs_u8s fun x hx => g2 x (List.mem_of_mem_drop (List.mem_of_mem_take hx))
     have hI : ∀ n : Nat,SRel ρ ν (lI n) (vi (n : Nat)):=fun n => .int .i64 (.lit (.ofNat n))
     have hrow : ∀ a b c d k e f : Nat,SRels ρ ν [.agg (lI a :: lI b :: lI c :: lI d :: List.append (((l.drop 32).take 32).map lB) [lI k,.val (.slice none 0 0),lI e,lI f]),lI 0] [.agg (vi (a : Nat) :: vi (b : Nat) :: vi (c : Nat) :: vi (d : Nat) :: (bs (u8s ((l.drop 32).take 32)) ++ [vi (k : Nat),vnil,vi (e : Nat),vi (f : Nat)])),vi 0]:=fun a b c d k e f =>
      have t1 : SRels ρ ν [lI k,.val (.slice none 0 0),lI e,lI f] [vi (k : Nat),vnil,vi (e : Nat),vi (f : Nat)]:=.cons (hI k) (.cons (.val _) (.cons (hI e) (.cons (hI f) .nil)))
      .cons (.agg (.cons (hI a) (.cons (hI b) (.cons (hI c) (.cons (hI d) (hh.append t1)))))) (.cons (hI 0) .nil)
     refine ⟨_,H,?_,.same hm (.tup (hrow _ _ _ _ _ _ _))⟩
     simp only [dparseS,g3,bytesA_bs,r0,r8,r16,r24,r68,r76,k64,eh]
     rw [if_pos ⟨⟨⟨by omega,by omega⟩,by omega,by omega⟩,⟨by omega,by omega⟩,⟨by omega,by omega⟩,by omega,e5,e6,e7,⟨by omega,by omega⟩,by omega,by omega⟩]
  ·cases hr
 ·cases hr
def ohash (args : List SV) (h : Mem) : SRes :=
 match args with
 | [.ptr q 0] =>
  match h.get q with
  | some [.im true len cells,.int .i64 (.lit (.ofNat 0))] =>
   bif Nat.beq cells.length len && Nat.ble 32 len then
    match litTake 32 cells with
    | some (ns,rest) => forceN (Nat.sub len 32) fun m => forceB ns fun hs => some (.agg hs,h.set q [.im true m rest,.int .i64 (.lit (.ofNat 0))])
    | none => none
   else none
  | _ => none
 | _ => none
theorem ohash_ok {args : List SV} {h h' : Mem} {r : SV} (hr : ohash args h = some (r,h')) : isGo Tryz.prog 312 = true /\ ∀ (ν : Nat -> Option Name) (H : AHeap) (nm : Name) (xs : List AV),MRel ρ ν h H -> Fre ν nm -> SRels ρ ν args xs ->
  ∃ z H',Sim Tryz.prog 312 xs nm H z H' /\ Out ρ ν nm r h' z H':=by
 refine ovr_fn hash_ok (g:=ohash) (fun args h r h' hr ν H nm xs hm hfre hx => ?_) hr
 unfold ohash at hr
 split at hr
 ·rename_i q
  split at hr
  ·rename_i len cells hg
   cases hc : (Nat.beq cells.length len && Nat.ble 32 len) with
   | false => rw [hc] at hr; cases hr
   | true =>
    rw [hc] at hr
    simp only [cond_true] at hr
    simp only [Bool.and_eq_true] at hc
    have c1:=Nat.eq_of_beq_eq_true hc.1
    have c2:=Nat.le_of_ble_eq_true hc.2
    split at hr
    ·rename_i ns rest ht
     simp only [forceN_eq,forceB_eq,Option.some.injEq,Prod.mk.injEq] at hr
     obtain ⟨rfl,rfl⟩:=hr
     cases hx with
     | cons hq t =>
      cases t
      cases hq with
      | @ptr _ _ m hν =>
       obtain ⟨m',row',hν',hH,hrow⟩:=hm.rows _ _ hg
       rw [hν] at hν'; cases hν'
       cases hrow with
       | cons h1 t =>
        cases t with
        | cons h2 t =>
         cases t
         cases h2
         cases h1 with
         | @im _ _ _ c' h1 =>
          obtain ⟨g1,g2,g3,g4,g5⟩:=litTake_rel ht h1
          have hcl : c'.length = len:=by rw [<- h1.length,c1]
          refine ⟨.agg (bs (u8s ns)),upd H m (some (rdr (len - 32) (c'.drop 32) 0)),?_,?_⟩
          ·have hH' : H m = some [.im true len c',vi 0]:=hH
           simp only [hashRS,hH',g1,bytesA_bs]
           exact if_pos (And.intro c2 hcl)
          ·refine .same (hm.set hν ?_) (.agg (bs_u8s g4))
           exact .cons (.im g2) (.cons (.int .i64 (.lit (.ofNat 0))) .nil)
    ·cases hr
  ·cases hr
 ·cases hr
end Go.Proofs.YtbllpnjappddeaaGreat.Den
end
section
set_option linter.unusedSimpArgs false
set_option maxRecDepth 1000000
namespace Go.Proofs.YtbllpnjappddeaaGreat.Den
def ovrW (f : FuncId) : Option (List SV -> Mem -> SRes) :=
 bif Nat.beq f 134 then some (osafe) else
 bif Nat.beq f 148 then some (odparse) else
 bif Nat.beq f 312 then some (ohash) else
 ovrV f
theorem ovrW_ok (ρ : Vals) : OvrOK Tryz.prog ρ ovrW:=by
 intro f g hg args h r h' hr
 unfold ovrW at hg
 cases e : Nat.beq f 134 with
 | true =>
  rw [e] at hg
  simp only [cond_true,Option.some.injEq] at hg
  subst hg
  rw [Nat.eq_of_beq_eq_true e]
  exact osafe_ok hr
 | false =>
  rw [e] at hg
  simp only [cond_false] at hg
  clear e
  cases e : Nat.beq f 148 with
  | true =>
   rw [e] at hg
   simp only [cond_true,Option.some.injEq] at hg
   subst hg
   rw [Nat.eq_of_beq_eq_true e]
   exact odparse_ok hr
  | false =>
   rw [e] at hg
   simp only [cond_false] at hg
   clear e
   cases e : Nat.beq f 312 with
   | true =>
    rw [e] at hg
    simp only [cond_true,Option.some.injEq] at hg
    subst hg
    rw [Nat.eq_of_beq_eq_true e]
    exact ohash_ok hr
   | false =>
    rw [e] at hg
    simp only [cond_false] at hg
    clear e
    exact ovrV_ok ρ f g hg args h r h' hr
end Go.Proofs.YtbllpnjappddeaaGreat.Den
end
section
set_option linter.unusedSimpArgs false
set_option linter.unusedVariables false
namespace Go.Proofs.YtbllpnjappddeaaGreat.Den
abbrev PlanT:=Nat -> Array Oper -> List Item
noncomputable def preg : Bool -> List Item -> Array Oper -> List Fact -> Program -> SCall -> Tr SV -> Mem -> SLate -> CRes:=@Bool.rec (fun _ => List Item -> Array Oper -> List Fact -> Program -> SCall -> Tr SV -> Mem -> SLate -> CRes) (fun _ ops Γ P call T h D => gn3 (gregion ops.toList Γ P call ops T h D)) (fun pl ops Γ P call T h D => gn2 (gdraw pl 0 Γ P call ops T [(0,h)] h) D)
noncomputable def pnode : Code -> PlanT -> NT:=@Code.rec (fun _ => PlanT -> NT)
 (fun pt Γ P call n f k T h D => some (.normal,T,h,D))
 (fun id ops d pt Γ P call n f k T h D => preg d (pt id ops) ops Γ P call T h D)
 (fun x y _ _ pt Γ P call n f k T h D => gthen (k x T h D) (k y))
 (fun x y z _ _ pt Γ P call n f k T h D => gcond (genv x T) y z k T h D)
 (fun id x _ pt Γ P call n f k T h D => fblock id (k x T h D))
 (fun x _ pt Γ P call n f k T h D => gthen (k x T h D) (k (.loop x)))
 (fun _ _ _ _ _ _ pt Γ P call n f k T h D => none)
 (fun id pt Γ P call n f k T h D => some (.exit id,T,h,D))
 (fun x _ pt Γ P call n f k T h D => fscope x k f (k x T h D))
 (fun l pt Γ P call n f k T h D => some (.normal,T,h,D))
 (fun l pt Γ P call n f k T h D => some (.goto l,T,h,D))
 (fun pt Γ P call n f k T h D => some (.ret,T,h,D))
 (fun _ pt Γ P call n f k T h D => none)
noncomputable def prun (pt : PlanT) (Γ : List Fact) (P : Program) (call : SCall) (n : Nat) : Nat -> CK:=@Nat.rec (fun _ => CK) (fun _ _ _ _ => none) (fun f k c => pnode c pt Γ P call n f k)
def PtOK (pt : PlanT) : Code -> Prop
 | .region id ops d => d = true -> pt id ops = planItemsOf ops
 | .seq x y => PtOK pt x /\ PtOK pt y
 | .cond _ x y => PtOK pt x /\ PtOK pt y
 | .block _ x => PtOK pt x
 | .loop x => PtOK pt x
 | .scope x => PtOK pt x
 | _ => True
theorem findLabel_pt {pt : PlanT} : ∀ (c : Code) (l : Nat) (rest : Code),findLabel c l = some rest -> PtOK pt c -> PtOK pt rest:=by
 intro c
 induction c with
 | seq a b iha ihb =>
  intro l rest h hc
  simp only [PtOK] at hc
  simp only [findLabel] at h
  split at h
  ·rename_i r hr
   cases h
   simp only [PtOK]
   exact ⟨iha l r hr hc.1,hc.2⟩
  ·exact ihb l rest h hc.2
 | label l' =>
  intro l rest h _
  simp only [findLabel] at h
  split at h
  ·cases h; trivial
  ·cases h
 | _ => intro l rest h; simp [findLabel] at h
theorem prun_eq (pt : PlanT) (Γ : List Fact) (P : Program) (call : SCall) (n : Nat) : ∀ (f : Nat) (c : Code),PtOK pt c -> prun pt Γ P call n f c = hrun Γ P call n f c:=by
 intro f
 induction f with
 | zero => intro c _; rfl
 | succ f ih =>
  intro c hc
  funext T h D
  show pnode c pt Γ P call n f (prun pt Γ P call n f) T h D = hnode c Γ P call n f (hrun Γ P call n f) T h D
  cases c with
  | region id ops d =>
   cases d with
   | false => rfl
   | true =>
    have e : pt id ops = planItemsOf ops:=hc rfl
    show gn2 (gdraw (pt id ops) 0 Γ P call ops T [(0,h)] h) D = gn2 (gdraw (planItemsOf ops) 0 Γ P call ops T [(0,h)] h) D
    rw [e]
  | seq x y =>
   show gthen (prun pt Γ P call n f x T h D) (prun pt Γ P call n f y) = gthen (hrun Γ P call n f x T h D) (hrun Γ P call n f y)
   rw [ih x hc.1,ih y hc.2]
  | loop x =>
   have hx : PtOK pt x:=hc
   have hl : PtOK pt (.loop x):=hc
   show gthen (prun pt Γ P call n f x T h D) (prun pt Γ P call n f (.loop x)) = gthen (hrun Γ P call n f x T h D) (hrun Γ P call n f (.loop x))
   rw [ih x hx,ih (.loop x) hl]
  | cond x y z =>
   show gcond (genv x T) y z (prun pt Γ P call n f) T h D = gcond (genv x T) y z (hrun Γ P call n f) T h D
   rw [gcond_eq,gcond_eq]
   cases genv x T <;> first | rfl | skip
   rename_i b
   cases b
   ·show prun pt Γ P call n f z T h D = _; rw [ih z hc.2]; rfl
   ·show prun pt Γ P call n f y T h D = _; rw [ih y hc.1]; rfl
  | block id x =>
   have hx : PtOK pt x:=hc
   show fblock id (prun pt Γ P call n f x T h D) = fblock id (hrun Γ P call n f x T h D)
   rw [ih x hx]
  | scope x =>
   have hx : PtOK pt x:=hc
   show fscope x (prun pt Γ P call n f) f (prun pt Γ P call n f x T h D) = fscope x (hrun Γ P call n f) f (hrun Γ P call n f x T h D)
   rw [ih x hx]
   cases hg : hrun Γ P call n f x T h D with
   | none => rfl
   | some r =>
    obtain ⟨e,T1,h1,D1⟩:=r
    cases e with
    | goto l =>
     show fscope1 (prun pt Γ P call n f) l f T1 h1 D1 (findLabel x l) = fscope1 (hrun Γ P call n f) l f T1 h1 D1 (findLabel x l)
     cases hl : findLabel x l with
     | none => rfl
     | some rest =>
      show sjumps (prun pt Γ P call n f rest) l f (some (.goto l,T1,h1,D1)) = sjumps (hrun Γ P call n f rest) l f (some (.goto l,T1,h1,D1))
      rw [ih rest (findLabel_pt x l rest hl hx)]
    | _ => rfl
  | _ => rfl
noncomputable def pbody2 (pt : PlanT) (Γ : List Fact) (P : Program) (F : Nat) (call : SCall) (args : List SV) (h : Mem) (fn : Func) (code : Code) : CRes:=prun pt Γ P call fn.ntmps F code (sargs 0 args .nil) h []
noncomputable def pbody1 (pt : PlanT) (Γ : List Fact) (P : Program) (F : Nat) (call : SCall) (f : FuncId) (args : List SV) (h : Mem) (fn : Func) : Option Code -> Option (Func × Tr SV × Mem × SLate)
 | some code => bif isGo P f && Nat.ble args.length fn.ntmps && Nat.blt fn.ntmps 1000000 then fbody2 fn (pbody2 pt Γ P F call args h fn code) else none
 | none => none
noncomputable def pbody (pt : PlanT) (Γ : List Fact) (P : Program) (F : Nat) (call : SCall) (f : FuncId) (args : List SV) (h : Mem) : Option Func -> Option (Func × Tr SV × Mem × SLate)
 | some fn => pbody1 pt Γ P F call f args h fn fn.body
 | none => none
noncomputable def pcall1 (pt : PlanT) (Γ : List Fact) (P : Program) (F : Nat) (call : SCall) (f : FuncId) (args : List SV) (h : Mem) : Option (List SV -> Mem -> SRes) -> SRes
 | some g => g args h
 | none => fcallE P (sdef Γ P F call) (pbody pt Γ P F call f args h (fnAt P f))
noncomputable def pscall (pt : FuncId -> PlanT) (Γ : List Fact) (P : Program) (F : Nat) (ovr : FuncId -> Option (List SV -> Mem -> SRes)) : Nat -> SCall:=@Nat.rec (fun _ => SCall) (fun _ _ _ => none) (fun _ call f args h => pcall1 (pt f) Γ P F call f args h (ovr f))
def FnsPt (P : Program) (pt : FuncId -> PlanT) : Prop:=∀ f fn code,fnAt P f = some fn -> fn.body = some code -> PtOK (pt f) code
theorem pscall_eq {P : Program} {pt : FuncId -> PlanT} (hpt : FnsPt P pt) (Γ : List Fact) (F : Nat) (ovr : FuncId -> Option (List SV -> Mem -> SRes)) : ∀ d,pscall pt Γ P F ovr d = hscall (fun _ => true) Γ P F ovr d:=by
 intro d
 induction d with
 | zero => rfl
 | succ d ih =>
  funext f args h
  show pcall1 (pt f) Γ P F (pscall pt Γ P F ovr d) f args h (ovr f) = hcall1 true Γ P F (hscall (fun _ => true) Γ P F ovr d) f args h (ovr f)
  rw [ih]
  cases ovr f with
  | some g => rfl
  | none =>
   simp only [pcall1,hcall1]
   congr 1
   cases hf : fnAt P f with
   | none => rfl
   | some fn =>
    simp only [pbody,hbody]
    cases hb : fn.body with
    | none => rfl
    | some code =>
     simp only [pbody1,hbody1,pbody2,hbody2,cond_true]
     rw [prun_eq (pt f) Γ P _ fn.ntmps F code (hpt f fn code hf hb)]
def natsEq : List Nat -> List Nat -> Bool
 | [],[] => true
 | a :: l,b :: r => Nat.beq a b && natsEq l r
 | _,_ => false
theorem natsEq_eq : ∀ {l r : List Nat},natsEq l r = true -> l = r
 | [],[],_ => rfl
 | a :: l,b :: r,h => by
  simp only [natsEq,Bool.and_eq_true] at h
  rw [Nat.eq_of_beq_eq_true h.1,natsEq_eq h.2]
 | [],_ :: _,h => by cases h
 | _ :: _,[],h => by cases h
def itemsEq : List Item -> List Item -> Bool
 | [],[] => true
 | a :: l,b :: r => Nat.beq a.i b.i && (a.e == b.e) && natsEq a.chk b.chk && itemsEq l r
 | _,_ => false
theorem itemsEq_eq : ∀ {l r : List Item},itemsEq l r = true -> l = r
 | [],[],_ => rfl
 | ⟨i,e,c⟩ :: l,⟨i',e',c'⟩ :: r,h => by
  simp only [itemsEq,Bool.and_eq_true,beq_iff_eq] at h
  obtain ⟨⟨⟨h1,h2⟩,h3⟩,h4⟩:=h
  rw [Nat.eq_of_beq_eq_true h1,h2,natsEq_eq h3,itemsEq_eq h4]
 | [],_ :: _,h => by cases h
 | _ :: _,[],h => by cases h
def lookN {α : Type} : List (Nat × α) -> Nat -> Option α
 | [],_ => none
 | (k,v) :: r,n => bif Nat.beq k n then some v else lookN r n
def planOf (l : Option (List Item)) (ops : Array Oper) : List Item :=
 match l with
 | some p => p
 | none => planItemsOf ops
def ptOf (tab : List (Nat × List (Nat × List Item))) (f : FuncId) (id : Nat) (ops : Array Oper) : List Item :=
 planOf ((lookN tab f).bind fun l => lookN l id) ops
def ptC (tab : List (Nat × List (Nat × List Item))) (f : FuncId) : Code -> Bool
 | .region id ops d => !d || (match (lookN tab f).bind fun l => lookN l id with | some p => itemsEq p (planItemsOf ops) | none => true)
 | .seq x y => ptC tab f x && ptC tab f y
 | .cond _ x y => ptC tab f x && ptC tab f y
 | .block _ x => ptC tab f x
 | .loop x => ptC tab f x
 | .scope x => ptC tab f x
 | _ => true
theorem ptC_ok {tab : List (Nat × List (Nat × List Item))} {f : FuncId} : ∀ {c : Code},ptC tab f c = true -> PtOK (ptOf tab f) c:=by
 intro c
 induction c with
 | region id ops d =>
  intro h hd
  subst hd
  simp only [ptC,Bool.not_true,Bool.false_or] at h
  unfold ptOf planOf
  cases hl : (lookN tab f).bind fun l => lookN l id with
  | none => rfl
  | some p => rw [hl] at h; exact itemsEq_eq h
 | seq a b iha ihb => intro h; simp only [ptC,Bool.and_eq_true] at h; exact ⟨iha h.1,ihb h.2⟩
 | cond x a b iha ihb => intro h; simp only [ptC,Bool.and_eq_true] at h; exact ⟨iha h.1,ihb h.2⟩
 | block id x ih => intro h; exact ih h
 | loop x ih => intro h; exact ih h
 | scope x ih => intro h; exact ih h
 | _ => intro _; trivial
def fnPt (P : Program) (tab : List (Nat × List (Nat × List Item))) (f : FuncId) : Bool :=
 match fnAt P f with
 | some fn => (match fn.body with
  | some code => ptC tab f code
  | none => true)
 | none => true
end Go.Proofs.YtbllpnjappddeaaGreat.Den
end
