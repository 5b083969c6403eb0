/- Functions that only read: from runs with cuts to calls, whatever the memory. -/
import Derived.Test.YtbllpnjappddeaaGreatKSymR
import Derived.Test.YtbllpnjappddeaaGreatKDenM
import Derived.Test.YtbllpnjappddeaaGreatRows
import Derived.WalkKit
import Derived.WalkSpells
import Derived.WalkLawsBesides
import Derived.Lib.Walk
import Derived.Lib.SliceRun
import Derived.Lib.AppendZeros
import Derived.Test.YtbllpnjappddeaaGreatKCdA
set_option linter.unusedVariables false
set_option linter.unusedSimpArgs false
section
set_option linter.unusedSimpArgs false
namespace Go.Proofs.YtbllpnjappddeaaGreat.Den
open Go.RowKit
variable {P : Program} {ρ ρ' : Vals}
def noH : AHeap := fun _ => none
def noS : Sig := fun _ => none
def noN : Nat -> Option Name := fun _ => none
theorem arel_no {I : Imm} {w : World} (hI : ∀ m b c, I m b = some c -> ∃ el fr, w.heap[b]? = some (.cells c el fr)) : ARel noS I noH w :=
 ⟨fun n row hn => (by cases hn), fun n n' p p' hn => absurd rfl hn, hI, fun n p m hn => absurd rfl hn⟩
theorem mrel_no : MRel ρ noN ⟨0, .nil⟩ noH :=
 ⟨fun n row hn => (by rw [Mem.get, nil_get] at hn; cases hn), fun n k m hn => (by cases hn), fun n hn => absurd rfl hn⟩
theorem vals_agg {σ : Sig} {I : Imm} : ∀ {l vs : List Value}, VRels σ I (l.map .val) vs -> vs = l
 | [], vs, h => by cases h; rfl
 | v :: l, vs, h => by
  cases h with
  | cons h t => cases h; rw [vals_agg t]
/-- What a run with cuts is, for a call. -/
theorem calls_of_xg {f : FuncId} {fn : Func} {code : Code} {args l : List SV} {e : Exit} {T' : Tr SV} {h' : Mem} (hf : P.funcs[f]? = some fn) (hb : fn.body = some code) (hn : args.length <= fn.ntmps) (hn' : fn.ntmps < 1000000)
  (hx : XG (Code.wp P code) fn.ntmps ρ (sargs 0 args .nil) ⟨0, .nil⟩ e ρ' T' h') (he : e = .normal \/ e = .ret) (hr : sres P T' h' fn.results.toList = some l) {xs : List AV} (ha : SRels ρ noN args xs) :
  ∃ ν' ys, SRels ρ' ν' l ys /\ ∀ (I : Imm) (w : World) (vs : Array Value), VRels noS I xs vs.toList -> (∀ m b c, I m b = some c -> ∃ el fr, w.heap[b]? = some (.cells c el fr)) ->
   Calls P f vs w fun e w' => ∃ v σ' I', e = .returned v /\ Below w.heap.size w w' /\ VRel σ' I' (ares1 ys) v := by
 obtain ⟨ν', s', g1, g2⟩ := hx [] noN ⟨0, T0 xs, noH, []⟩ ⟨sargs_T0 ha (by omega), mrel_no, fun i _ n s hs => (by cases hs), .nil⟩
 obtain ⟨ys, h1, h2⟩ := sres_ok g1.tr g1.mem.rows _ _ hr
 refine ⟨ν', ys, h2, fun I w vs hv hI => ?_⟩
 refine calls_of_wp hf hb (g2 noS I _ w _ (start_st (by rw [<- ha.length]; exact hn) (fun s => rfl) hv (arel_no hI)) ?_)
 intro σ' I' a' w' hst st'
 have hds : a'.defers = [] := (g1.late.nil_inv ▸ st'.late).nil_inv
 obtain ⟨v, h4, h5⟩ := results_run st'.st.tr st'.st.rel h1
 have hbl : Below w.heap.size w w' := ⟨hst.fr.os, hst.fr.tape, hst.fr.output, hst.fr.size, fun k hk => hst.fr.block k hk (by
  rintro ⟨n, p, hn, _⟩
  exact hn rfl)⟩
 rcases he with rfl | rfl
 ·exact ⟨hds, v, h4, v, σ', I', rfl, hbl, h5⟩
 ·exact ⟨hds, v, h4, v, σ', I', rfl, hbl, h5⟩
/-- All blocks, as if nobody wrote them. -/
def allI (w : World) : Imm := fun _ b => match w.heap[b]? with
 | some (.cells c _ _) => some c
 | _ => none
theorem allI_ok (w : World) : ∀ m b c, allI w m b = some c -> ∃ el fr, w.heap[b]? = some (.cells c el fr) := by
 intro m b c h
 unfold allI at h
 split at h
 ·rename_i c' el fr hb; cases h; exact ⟨el, fr, hb⟩
 ·cases h
/-- Cells that name nothing. -/
def vcells (l : List Value) : List AV := l.map .val
theorem vcells_any {σ σ' : Sig} {I I' : Imm} : ∀ {l vs : List Value}, VRels σ I (vcells l) vs -> VRels σ' I' (vcells l) vs := by
 intro l vs h
 rw [vals_agg h]
 exact VRels.vals l
/-- A slice of plain cells that are in the memory, as one that nobody writes. -/
theorem src_im {σ : Sig} {I : Imm} {H : AHeap} {w : World} (hr : ARel σ I H w) {y : AV} {v : Value} (hv : VRel σ I y v) {k sz : Nat} {l : List Value} (hk : k ≠ 0) (hs : srcCells H sz y = some (k, vcells l)) (hl : l.length = k * sz) (hy : (∃ n o len z, y = .sl n o len z) \/ ∃ m len c, y = .im m len c) :
  VRel noS (allI w) (.im true k (vcells l)) v := by
 rcases hy with ⟨n, o, len, z, rfl⟩ | ⟨m, len, c, rfl⟩
 ·simp only [srcCells] at hs
  split at hs
  ·rename_i hz
   subst hz
   cases hn : H n with
   | none => rw [hn] at hs; simp at hs
   | some row =>
    rw [hn] at hs
    simp only [Option.bind_some] at hs
    split at hs
    ·rename_i hle
     simp only [Option.some.injEq, Prod.mk.injEq] at hs
     obtain ⟨rfl, hs⟩ := hs
     cases hv with
     | @sl _ _ _ _ cap p hp hlc hc =>
      obtain ⟨p', c', el, fr, h1, h2, h3, h4, h5⟩ := hr.rows n row hn
      rw [hp] at h1; cases h1
      have hI : allI w true p.b = some c' := by simp only [allI, h2]
      refine .im hI ?_ hlc
      have hseg := (h5.drop o).take (len * z)
      rw [hs] at hseg
      have hlen : (vcells l).length = len * z := by simp [vcells, hl]
      rw [hlen]
      refine vcells_any (σ := σ) (I := I) ?_
      have e1 : ((seg c' p.o row.length).drop o).take (len * z) = seg c' (p.o + o) (len * z) := by
       simp only [seg, List.drop_take, List.drop_drop, List.take_take]
       congr 1
       omega
      rw [e1] at hseg
      exact hseg
    ·cases hs
  ·cases hs
 ·simp only [srcCells] at hs
  split at hs
  ·simp only [Option.some.injEq, Prod.mk.injEq] at hs
   obtain ⟨rfl, hs⟩ := hs
   cases hv with
   | im0 => exact absurd rfl hk
   | @im _ _ cap b o _ c' hI hc hlc =>
    obtain ⟨el, fr, hb⟩ := hr.imm _ _ _ hI
    rw [hs] at hc
    exact .im (by simp only [allI, hb]) (vcells_any hc) hlc
  ·cases hs
/-- Plain values, whatever the names. -/
theorem agg_any {σ σ' : Sig} {I I' : Imm} {l : List Value} {v : Value} (h : VRel σ I (.agg (vcells l)) v) : VRel σ' I' (.agg (vcells l)) v := by
 cases h with
 | agg h => exact .agg (vcells_any h)
end Go.Proofs.YtbllpnjappddeaaGreat.Den
end
section
set_option linter.unusedSimpArgs false
set_option linter.unusedVariables false
namespace Go.Proofs.YtbllpnjappddeaaGreat
open Go.RowKit Go.Lib
def addrZ : Value := .agg #[.int .i64 0, .int .i64 0]
set_option maxHeartbeats 2000000 in
set_option maxRecDepth 100000 in
theorem grow_bytes (n : Nat) (h0 : 0 < n) (hbig : n <= 140737488355328) (w : World) :
  Calls Tryz.prog 225 #[.slice none 0 0, .int .i64 n] w fun e w' =>
   ∃ G, n <= G /\ e = .returned (.slice (some ⟨w.heap.size, 0, none⟩) 0 G) /\ w' = w.drew.alloc (.cells (Builtin.zeroCells (Value.int .u8 0).cells n ++ Builtin.zeroCells (Value.int .u8 0).cells (G - n)) 5) := by
 obtain ⟨i0, hi0, hz0, hzs, hzb⟩ : ∃ i, Tryz.prog.info? 5 = some i /\ i.zero = some (.int .u8 0) /\ i.size = 1 /\ i.bytes = 1 := ⟨_, rfl, rfl, rfl, rfl⟩
 have hrz : ∀ ty, (Builtin.append_ #[72, 3] ty #[.slice none 0 0, .int .i64 (n : Int)]).run Tryz.prog w = _ := fun ty =>
  Lib.run_append_nil_zeros w 72 3 ty 5 i0 (.int .u8 0) .i64 .i64 rfl rfl hi0 hz0 n h0 (by rw [hzs]; decide) (by omega) (by rw [hzb]; omega)
 have hGn : n <= grownCap w n 0 5 := grownCap_ge w _ _ _
 have hG63 : grownCap w n 0 5 <= 9223372036854775807 := by
  have := grownCap_le_maxLen w n 0 5 (by unfold maxLen; omega)
  unfold maxLen at this
  omega
 obtain ⟨G, hG⟩ : ∃ G, G = grownCap w n 0 5 := ⟨_, rfl⟩
 rw [<- hG] at hrz hGn hG63
 have h1 : ¬ ((n : Int) < 0) := by omega
 have h2 : wrap64 ((n : Int)) = (n : Int) := by unfold wrap64; omega
 have h4 : (n : Int) > 0 := by omega
 clear hG
 go_enter Tryz.func225, Tryz.ntmps225
 go_wp2_with (at_builtin; refine Lib.wpList_append_run _ rfl _ _ _ _ rfl _ _ rfl rfl _ _ (hrz _) ?_)
 all_goals (go_ret; exact ⟨G, hGn, rfl, rfl⟩)
set_option maxHeartbeats 2000000 in
set_option maxRecDepth 100000 in
theorem grow_addrs (n : Nat) (h0 : 0 < n) (hbig : n * 16 <= 140737488355328) (w : World) :
  Calls Tryz.prog 395 #[.slice none 0 0, .int .i64 n] w fun e w' =>
   ∃ G, n <= G /\ e = .returned (.slice (some ⟨w.heap.size, 0, none⟩) 0 G) /\ w' = w.drew.alloc (.cells (Builtin.zeroCells addrZ.cells n ++ Builtin.zeroCells addrZ.cells (G - n)) 28) := by
 obtain ⟨i0, hi0, hz0, hzs, hzb⟩ : ∃ i, Tryz.prog.info? 28 = some i /\ i.zero = some addrZ /\ i.size = 2 /\ i.bytes = 16 := ⟨_, rfl, rfl, rfl, rfl⟩
 have hrz : ∀ ty, (Builtin.append_ #[47, 3] ty #[.slice none 0 0, .int .i64 (n : Int)]).run Tryz.prog w = _ := fun ty =>
  Lib.run_append_nil_zeros w 47 3 ty 28 i0 addrZ .i64 .i64 rfl rfl hi0 hz0 n h0 (by rw [hzs]; decide) (by omega) (by rw [hzb]; omega)
 have hGn : n <= grownCap w n 0 28 := grownCap_ge w _ _ _
 have hG63 : grownCap w n 0 28 <= 9223372036854775807 := by
  have := grownCap_le_maxLen w n 0 28 (by unfold maxLen; omega)
  unfold maxLen at this
  omega
 obtain ⟨G, hG⟩ : ∃ G, G = grownCap w n 0 28 := ⟨_, rfl⟩
 rw [<- hG] at hrz hGn hG63
 have h1 : ¬ ((n : Int) < 0) := by omega
 have h2 : wrap64 ((n : Int)) = (n : Int) := by unfold wrap64; omega
 have h4 : (n : Int) > 0 := by omega
 clear hG
 go_enter Tryz.func395, Tryz.ntmps395
 go_wp2_with (at_builtin; refine Lib.wpList_append_run _ rfl _ _ _ _ rfl _ _ rfl rfl _ _ (hrz _) ?_)
 all_goals (go_ret; exact ⟨G, hGn, rfl, rfl⟩)
set_option maxRecDepth 100000 in
theorem grow_bytes0 (w : World) : Calls Tryz.prog 225 #[.slice none 0 0, .int .i64 0] w fun e w' => e = .returned (.slice none 0 0) /\ w' = w := by
 go_enter Tryz.func225, Tryz.ntmps225
 go_wp2
 go_ret
 exact ⟨rfl, rfl⟩
set_option maxRecDepth 100000 in
theorem grow_addrs0 (w : World) : Calls Tryz.prog 395 #[.slice none 0 0, .int .i64 0] w fun e w' => e = .returned (.slice none 0 0) /\ w' = w := by
 go_enter Tryz.func395, Tryz.ntmps395
 go_wp2
 go_ret
 exact ⟨rfl, rfl⟩
set_option maxRecDepth 1000000
namespace Den
/-- What Grow does for a nil slice. -/
def ogrow (sz by_ : Nat) : List SV -> Mem -> SRes
 | [.val (.slice none 0 0), .int .i64 (.lit (.ofNat k))], h =>
  bif Nat.beq k 0 then some (.val (.slice none 0 0), h) else bif Nat.ble (k * by_) 140737488355328 then some (.sl h.next 0 0 sz, h.push []) else none
 | _, _ => none
theorem grow_ok (ρ : Vals) {f : FuncId} {sz by_ : Nat} {z : List Value} {e0 : TypeId} (hz : z.length = sz) (hgo : isGo Tryz.prog f = true)
  (h0 : ∀ w, Calls Tryz.prog f #[.slice none 0 0, .int .i64 0] w fun e w' => e = .returned (.slice none 0 0) /\ w' = w)
  (h1 : ∀ n, 0 < n -> n * by_ <= 140737488355328 -> ∀ w, Calls Tryz.prog f #[.slice none 0 0, .int .i64 n] w fun e w' => ∃ G, n <= G /\ e = .returned (.slice (some ⟨w.heap.size, 0, none⟩) 0 G) /\ w' = w.drew.alloc (.cells (Builtin.zeroCells z.toArray n ++ Builtin.zeroCells z.toArray (G - n)) e0))
  {args : List SV} {h h' : Mem} {r : SV} (hr : ogrow sz by_ args h = some (r, h')) : isGo Tryz.prog f = true /\ ∀ (ν : Nat -> Option Name) (H : AHeap) (nm : Name) (xs : List AV), MRel ρ ν h H -> Fre ν nm -> SRels ρ ν args xs ->
   ∃ z H', Sim Tryz.prog f xs nm H z H' /\ Out ρ ν nm r h' z H' := by
 refine ⟨hgo, fun ν H nm xs hm hfre hxs => ?_⟩
 unfold ogrow at hr
 split at hr
 ·rename_i k
  have hx : xs = [.val (.slice none 0 0), .val (.int .i64 (k : Int))] := SRels.one hxs (.cons (.val _) (.cons (.int .i64 (.lit (.ofNat k))) .nil))
  subst hx
  have hargs : ∀ {σ : Sig} {I : Imm} {vs : Array Value}, VRels σ I [.val (.slice none 0 0), .val (.int .i64 (k : Int))] vs.toList -> vs = #[.slice none 0 0, .int .i64 (k : Int)] := by
   intro σ I vs hv
   apply Array.ext'
   generalize vs.toList = l at hv
   cases hv with
   | cons h1 t => cases h1; cases t with
    | cons h2 t => cases h2; cases t; rfl
  cases hk : Nat.beq k 0 with
  | true =>
   rw [hk] at hr
   simp only [cond_true, Option.some.injEq, Prod.mk.injEq] at hr
   obtain ⟨rfl, rfl⟩ := hr
   have hk := Nat.eq_of_beq_eq_true hk
   subst hk
   refine ⟨.val (.slice none 0 0), H, ?_, .same hm (.val _)⟩
   intro σ I w vs _ hv har
   rw [hargs hv]
   refine (h0 w).mono ?_
   rintro e w' ⟨rfl, rfl⟩
   exact ⟨_, σ, I, rfl, Step.refl _ har, .val _⟩
  | false =>
   rw [hk] at hr
   simp only [cond_false] at hr
   have hk0 : 0 < k := by
    cases k with
    | zero => simp at hk
    | succ k => omega
   cases hb : Nat.ble (k * by_) 140737488355328 with
   | false => rw [hb] at hr; cases hr
   | true =>
    rw [hb] at hr
    simp only [cond_true, Option.some.injEq, Prod.mk.injEq] at hr
    obtain ⟨rfl, rfl⟩ := hr
    refine ⟨.sl nm 0 0 sz, _, ?_, .push hm hfre .nil fun ν' hn => .sl hn⟩
    intro σ I w vs hfr hv har
    rw [hargs hv]
    refine (h1 k hk0 (Nat.le_of_ble_eq_true hb) w).mono ?_
    rintro e w' ⟨G, hG, rfl, rfl⟩
    have hs1 : Step (Under nm) σ I H w σ I H w.drew := Step.drawn har rfl rfl rfl rfl
    have hs2 := (Step.alloc (nm := Under nm) hs1.rel (hfr []) ⟨[], rfl⟩ (row := []) (c := Builtin.zeroCells z.toArray k ++ Builtin.zeroCells z.toArray (G - k)) (el := e0) (fr := (0, 0)) rfl (by simp [seg]; exact .nil)).1
    refine ⟨_, _, _, rfl, hs1.trans hs2, ?_⟩
    refine .sl (p := ⟨w.heap.size, 0, (Builtin.zeroCells z.toArray k ++ Builtin.zeroCells z.toArray (G - k)).size⟩) (upd_same _ _ _) (Nat.zero_le _) ?_
    have hzc : ∀ m, (Builtin.zeroCells z.toArray m).size = m * sz := by
     intro m
     simp [Builtin.zeroCells, hz]
    simp only [Array.size_append, hzc, <- Nat.add_mul]
    rw [show k + (G - k) = G by omega]
    omega
 ·cases hr
theorem ogrow_bytes (ρ : Vals) {args : List SV} {h h' : Mem} {r : SV} (hr : ogrow 1 1 args h = some (r, h')) : isGo Tryz.prog 225 = true /\ ∀ (ν : Nat -> Option Name) (H : AHeap) (nm : Name) (xs : List AV), MRel ρ ν h H -> Fre ν nm -> SRels ρ ν args xs ->
   ∃ z H', Sim Tryz.prog 225 xs nm H z H' /\ Out ρ ν nm r h' z H' :=
 grow_ok ρ (z := [.int .u8 0]) rfl rfl grow_bytes0 (fun n hn hb w => grow_bytes n hn (by omega) w) hr
theorem ogrow_addrs (ρ : Vals) {args : List SV} {h h' : Mem} {r : SV} (hr : ogrow 2 16 args h = some (r, h')) : isGo Tryz.prog 395 = true /\ ∀ (ν : Nat -> Option Name) (H : AHeap) (nm : Name) (xs : List AV), MRel ρ ν h H -> Fre ν nm -> SRels ρ ν args xs ->
   ∃ z H', Sim Tryz.prog 395 xs nm H z H' /\ Out ρ ν nm r h' z H' :=
 grow_ok ρ (z := [.int .i64 0, .int .i64 0]) rfl rfl grow_addrs0 (fun n hn hb w => grow_addrs n hn hb w) hr
end Den
end Go.Proofs.YtbllpnjappddeaaGreat
end
section
set_option linter.unusedSimpArgs false
set_option linter.unusedVariables false
set_option maxRecDepth 100000
namespace Go.Proofs.YtbllpnjappddeaaGreat.Den
open Go.RowKit
attribute [local simp] runList aop abuiltin acall awanted ayielded env T0 tput tset Ran aload astore setMany upd binV aslice aindexAddr apart aindex alen acopy srcCells natOf boundOf aeq AV.nilEq convV appK fillA List.range List.range.loop onF isU8 rowOf
def growS (sz by_ : Nat) : Spec := fun args nm H =>
 match args with
 | [.val (.slice none 0 0), .val (.int .i64 (.ofNat k))] => if k = 0 then some (vnil, H) else if k * by_ <= 140737488355328 then some (.sl nm 0 0 sz, upd H nm (some [])) else none
 | _ => none
theorem growS_ok {f : FuncId} {sz by_ : Nat} {z : List Value} {e0 : TypeId} (hz : z.length = sz) (hgo : isGo Tryz.prog f = true)
  (h0 : ∀ w, Calls Tryz.prog f #[.slice none 0 0, .int .i64 0] w fun e w' => e = .returned (.slice none 0 0) /\ w' = w)
  (h1 : ∀ n, 0 < n -> n * by_ <= 140737488355328 -> ∀ w, Calls Tryz.prog f #[.slice none 0 0, .int .i64 n] w fun e w' => ∃ G, n <= G /\ e = .returned (.slice (some ⟨w.heap.size, 0, none⟩) 0 G) /\ w' = w.drew.alloc (.cells (Builtin.zeroCells z.toArray n ++ Builtin.zeroCells z.toArray (G - n)) e0)) :
  FnOK Tryz.prog f (growS sz by_) := by
 refine ⟨hgo, fun args nm H r H' h => ?_⟩
 unfold growS at h
 split at h
 ·rename_i k
  have hargs : ∀ {σ : Sig} {I : Imm} {vs : Array Value}, VRels σ I [.val (.slice none 0 0), .val (.int .i64 (k : Int))] vs.toList -> vs = #[.slice none 0 0, .int .i64 (k : Int)] := by
   intro σ I vs hv
   apply Array.ext'
   generalize vs.toList = l at hv
   cases hv with
   | cons h1 t => cases h1; cases t with
    | cons h2 t => cases h2; cases t; rfl
  split at h
  ·rename_i hk
   subst hk
   cases h
   intro σ I w vs _ hv har
   rw [hargs hv]
   refine (h0 w).mono ?_
   rintro e w' ⟨rfl, rfl⟩
   exact ⟨_, σ, I, rfl, Step.refl _ har, .val _⟩
  ·rename_i hk
   split at h
   ·rename_i hb
    cases h
    intro σ I w vs hfr hv har
    rw [hargs hv]
    refine (h1 k (by omega) hb w).mono ?_
    rintro e w' ⟨G, hG, rfl, rfl⟩
    have hs1 : Step (Under nm) σ I H w σ I H w.drew := Step.drawn har rfl rfl rfl rfl
    have hs2 := (Step.alloc (nm := Under nm) hs1.rel (hfr []) ⟨[], rfl⟩ (row := []) (c := Builtin.zeroCells z.toArray k ++ Builtin.zeroCells z.toArray (G - k)) (el := e0) (fr := (0, 0)) rfl (by simp [seg]; exact .nil)).1
    refine ⟨_, _, _, rfl, hs1.trans hs2, ?_⟩
    refine .sl (p := ⟨w.heap.size, 0, (Builtin.zeroCells z.toArray k ++ Builtin.zeroCells z.toArray (G - k)).size⟩) (upd_same _ _ _) (Nat.zero_le _) ?_
    have hzc : ∀ m, (Builtin.zeroCells z.toArray m).size = m * sz := by
     intro m
     simp [Builtin.zeroCells, hz]
    simp only [Array.size_append, hzc, <- Nat.add_mul]
    rw [show k + (G - k) = G by omega]
    omega
   ·cases h
 ·cases h
theorem growB_ok : FnOK Tryz.prog 225 (growS 1 1) := growS_ok (z := [.int .u8 0]) rfl rfl grow_bytes0 (fun n hn hb w => grow_bytes n hn (by omega) w)
/-! ### Clone -/
/-- The elements of a slice that is not empty: how many, and their cells. -/
def elems (H : AHeap) (sz : Nat) : AV -> Option (Nat × List AV)
 | .sl n off len s => if s = sz /\ 0 < len then (H n).bind fun row => if off + len * sz <= row.length then some (len, (row.drop off).take (len * sz)) else none else none
 | .im _ len cells => if 0 < len /\ cells.length = len * sz then some (len, cells) else none
 | _ => none
theorem elems_pos {H : AHeap} {sz : Nat} {x : AV} {k : Nat} {c : List AV} (h : elems H sz x = some (k, c)) : 0 < k /\ c.length = k * sz := by
 unfold elems at h
 split at h
 ·split at h
  ·rename_i hc
   simp only [Option.bind_eq_some_iff] at h
   obtain ⟨row, _, h2⟩ := h
   split at h2
   ·rename_i hle
    cases h2
    refine ⟨hc.2, ?_⟩
    rw [List.length_take, List.length_drop]; omega
   ·cases h2
  ·cases h
 ·split at h
  ·rename_i hc; cases h; exact hc
  ·cases h
 ·cases h
theorem elems_src {H : AHeap} {sz : Nat} {x : AV} {k : Nat} {c : List AV} (h : elems H sz x = some (k, c)) : srcCells H sz x = some (k, c) := by
 unfold elems at h
 split at h
 ·split at h
  ·rename_i hc; simp only [srcCells, hc.1, if_true]; exact h
  ·cases h
 ·split at h
  ·rename_i hc; simp only [srcCells]; rw [if_pos hc.2]; exact h
  ·cases h
 ·cases h
/-- A slice with elements is not nil. -/
theorem elems_nil {H : AHeap} {sz : Nat} {x : AV} {k : Nat} {c : List AV} (h : elems H sz x = some (k, c)) {P : Program} {t e : TypeId} (ht : P.underlying t = some (.slice e)) (neg : Bool) (a b : Operand) : aeq P neg t a b x vnil = some (vb neg) := by
 unfold elems at h
 split at h
 ·cases neg <;> simp [aeq, AV.nilEq, ht]
 ·rename_i m len cells
  split at h
  ·rename_i hc
   obtain ⟨j, rfl⟩ : ∃ j, len = j + 1 := ⟨len - 1, by omega⟩
   cases neg <;> simp [aeq, AV.nilEq, ht]
  ·cases h
 ·cases h
/-- The elements of a slice, in a row of their own; nil: nil. -/
def cloneS (sz by_ : Nat) : Spec := fun args nm H =>
 match args with
 | [.val (.slice none 0 0)] => some (vnil, H)
 | [x] =>
  match elems H sz x with
  | some (k, cells) => if cells.all AV.one = true /\ k * by_ <= 140737488355328 /\ k <= 140737488355328 then some (.sl nm 0 k sz, upd H nm (some cells)) else none
  | none => none
 | _ => none
theorem upd_elems {H : AHeap} {sz : Nat} {x : AV} {k : Nat} {c : List AV} {n : Name} {o : Option (List AV)} (hn : H n = none) (h : elems H sz x = some (k, c)) : elems (upd H n o) sz x = some (k, c) := by
 unfold elems at h ⊢
 split at h
 ·rename_i n' off len s
  split at h
  ·rename_i hc
   rw [if_pos hc]
   have : n' ≠ n := by
    rintro rfl
    rw [hn] at h; cases h
   rw [upd_ne _ _ this]; exact h
  ·cases h
 ·exact h
 ·cases h
set_option maxHeartbeats 400000 in
theorem cloneB_ok : FnOK Tryz.prog 75 (cloneS 1 1) := by
 refine ⟨by kernel_rfl, fun args nm H r H' h => ?_⟩
 have hcall := @noCall_ok Tryz.prog
 unfold cloneS at h
 split at h
 ·cases h
  refine sim_go Tryz.func75 rfl rfl (Nat.le_of_ble_eq_true rfl) fun hH => ?_
  (repeat refine AWP.seq ?_)
  refine AWP.region_last hcall rfl fun K hK => ?_
  simp
  apply hK; clear hK K; simp only [onNormal, onExit]
  (repeat refine AWP.seq ?_)
  refine AWP.region_last hcall rfl fun K hK => ?_
  simp
  apply hK; clear hK K; simp only [onNormal, onExit]
  (repeat refine AWP.seq ?_); refine AWP.cond (b := true) (by simp) ?_; simp only [if_true, if_false, Bool.false_eq_true]
  (repeat refine AWP.seq ?_)
  refine AWP.region_last hcall rfl fun K hK => ?_
  simp
  apply hK; clear hK K; simp only [onNormal, onExit]
  (try refine AWP.ret ?_); (try simp only [onNormal, onExit]); refine ⟨by simp, ⟨_, rfl, by simp [ares1]⟩, fun k row hk => ?_⟩
  exact hk
 ·rename_i x hx
  split at h
  ·rename_i k cells hs
   split at h
   ·rename_i hc
    cases h
    obtain ⟨h3, h4, h5⟩ := hc
    have hp := elems_pos hs
    refine sim_row Tryz.func75 rfl rfl (Nat.le_of_ble_eq_true rfl) fun hH => ?_
    have h9 : elems (upd H (3 :: 0 :: nm) (some [])) 1 x = some (k, cells) := upd_elems (hH [3]) hs
    have h8 := elems_src h9
    (repeat refine AWP.seq ?_)
    refine AWP.region_last hcall rfl fun K hK => ?_
    simp
    apply hK; clear hK K; simp only [onNormal, onExit]
    (repeat refine AWP.seq ?_)
    refine AWP.region_last hcall rfl fun K hK => ?_
    simp [-aeq, elems_nil hs r3und70]
    apply hK; clear hK K; simp only [onNormal, onExit]
    (repeat refine AWP.seq ?_); refine AWP.cond (b := false) (by simp) ?_; simp only [if_true, if_false, Bool.false_eq_true]
    refine AWP.skip ?_; simp only [onNormal, onExit]
    (repeat refine AWP.seq ?_)
    refine AWP.region_last hcall rfl fun K hK => ?_
    simp [-srcCells, h8, h3, h4, h5, hp.2]
    apply hK; clear hK K; simp only [onNormal, onExit]
    (try refine AWP.ret ?_); (try simp only [onNormal, onExit]); refine ⟨by simp, _, rfl, ?_, ?_, fun k row hk => ?_⟩
    ·exact hH [5]
    ·simp
    ·refine SubL.out ?_ k row hk; repeat (first | exact SubL.id | refine SubL.set ?_ | refine SubL.gone ?_ | (refine SubL.ex ?_ ?_; · simp; done) | refine SubL.fresh (hH [_]) ?_ | refine SubL.fresh (hH [_, _]) ?_ | (refine SubL.fresh (upd_none (hH [_]) ?_) ?_; · simp; done) | (refine SubL.fresh (upd_none (hH [_, _]) ?_) ?_; · simp; done))
   ·cases h
  ·cases h
 ·cases h
end Go.Proofs.YtbllpnjappddeaaGreat.Den
end
section
set_option linter.unusedSimpArgs false
set_option linter.unusedVariables false
set_option maxRecDepth 100000
namespace Go.Proofs.YtbllpnjappddeaaGreat.Den
open Go.RowKit
attribute [local simp] runList aop abuiltin acall awanted ayielded env T0 tput tset Ran aload astore setMany upd binV aslice aindexAddr apart aindex alen acopy srcCells natOf boundOf aeq AV.nilEq convV appK fillA List.range List.range.loop onF isU8 rowOf
variable {P : Program} {H : AHeap} {sz : Nat}
/-- The elements of a slice, whatever it is: how many, and their cells. -/
def partC (H : AHeap) (sz : Nat) : AV -> Option (Nat × List AV)
 | .val (.slice _ 0 _) => some (0, [])
 | .sl n off len s => if s = sz then (H n).bind fun row => if off + len * sz <= row.length then some (len, (row.drop off).take (len * sz)) else none else none
 | .im _ len cells => if cells.length = len * sz then some (len, cells) else none
 | _ => none
theorem partC_sl (n : Name) (off len s : Nat) : partC H sz (.sl n off len s) = if s = sz then (H n).bind fun row => if off + len * sz <= row.length then some (len, (row.drop off).take (len * sz)) else none else none := rfl
theorem partC_im (m : Bool) (len : Nat) (cells : List AV) : partC H sz (.im m len cells) = if cells.length = len * sz then some (len, cells) else none := rfl
theorem elems_sl (n : Name) (off len s : Nat) : elems H sz (.sl n off len s) = if s = sz /\ 0 < len then (H n).bind fun row => if off + len * sz <= row.length then some (len, (row.drop off).take (len * sz)) else none else none := rfl
theorem elems_im (m : Bool) (len : Nat) (cells : List AV) : elems H sz (.im m len cells) = if 0 < len /\ cells.length = len * sz then some (len, cells) else none := rfl
theorem part_length {x : AV} {k : Nat} {c : List AV} (h : partC H sz x = some (k, c)) : c.length = k * sz := by
 unfold partC at h
 split at h
 ·cases h; simp
 ·split at h
  ·simp only [Option.bind_eq_some_iff] at h
   obtain ⟨row, _, h2⟩ := h
   split at h2
   ·cases h2; rw [List.length_take, List.length_drop]; omega
   ·cases h2
  ·cases h
 ·split at h
  ·rename_i hc; cases h; exact hc
  ·cases h
 ·cases h
theorem part_src {x : AV} {k : Nat} {c : List AV} (h : partC H sz x = some (k, c)) : srcCells H sz x = some (k, c) := by
 unfold partC at h
 split at h
 ·cases h; rfl
 ·simp only [srcCells]; exact h
 ·simp only [srcCells]; exact h
 ·cases h
theorem part_sub {H₁ : AHeap} (hs : ∀ k r, H k = some r -> H₁ k = some r) {x : AV} {k : Nat} {c : List AV} (h : partC H sz x = some (k, c)) : partC H₁ sz x = some (k, c) := by
 unfold partC at h ⊢
 split at h
 ·exact h
 ·split at h
  ·rename_i hc
   simp only [Option.bind_eq_some_iff] at h
   obtain ⟨row, h1, h2⟩ := h
   rw [if_pos hc, hs _ _ h1]
   exact h2
  ·cases h
 ·exact h
 ·cases h
theorem elems_sub {H₁ : AHeap} (hs : ∀ k r, H k = some r -> H₁ k = some r) {x : AV} {k : Nat} {c : List AV} (h : elems H sz x = some (k, c)) : elems H₁ sz x = some (k, c) := by
 unfold elems at h ⊢
 split at h
 ·split at h
  ·rename_i hc
   simp only [Option.bind_eq_some_iff] at h
   obtain ⟨row, h1, h2⟩ := h
   rw [if_pos hc, hs _ _ h1]
   exact h2
  ·cases h
 ·exact h
 ·cases h
theorem part_len {x : AV} {k : Nat} {c : List AV} (h : partC H sz x = some (k, c)) {t e : TypeId} (ht : P.underlying t = some (.slice e)) : alen P t x = some (vi k) := by
 unfold partC at h
 split at h
 ·cases h; simp [alen, ht]
 ·split at h
  ·simp only [Option.bind_eq_some_iff] at h
   obtain ⟨row, _, h2⟩ := h
   split at h2
   ·cases h2; simp [alen, ht]
   ·cases h2
  ·cases h
 ·split at h
  ·cases h; simp [alen, ht]
  ·cases h
 ·cases h
theorem elems_at {p : AV} {m : Nat} {ps : List AV} (h : elems H 1 p = some (m, ps)) {t e : TypeId} (ht : P.underlying t = some (.slice e)) (hsz : szOf P e = some 1) (hag : aggB P e = some false) {j : Nat} {x : AV} (hx : ps[j]? = some x) :
  ∃ a, aindexAddr P t p (vi j) = some a /\ ∀ H₁ : AHeap, (∀ k r, H k = some r -> H₁ k = some r) -> aload P e a H₁ = some x := by
 have hj : j < ps.length := (List.getElem?_eq_some_iff.1 hx).1
 have hp := elems_pos h
 unfold elems at h
 split at h
 ·rename_i n off len s
  split at h
  ·rename_i hc
   simp only [Option.bind_eq_some_iff] at h
   obtain ⟨row, h1, h2⟩ := h
   split at h2
   ·rename_i hle
    cases h2
    have hjl : j < m := by omega
    refine ⟨.ptr n (off + j), ?_, fun H₁ hs => ?_⟩
    ·simp [aindexAddr, natOf, ht, hsz, hc.1, hjl]
    ·simp only [aload, hsz, hag, hs _ _ h1, Option.bind_some]
     simpa [List.getElem?_take, List.getElem?_drop, hjl] using hx
   ·cases h2
  ·cases h
 ·rename_i mm len cells
  split at h
  ·rename_i hc
   cases h
   have hjl : j < m := by omega
   refine ⟨.imp mm ps j, ?_, fun H₁ hs => ?_⟩
   ·simp [aindexAddr, natOf, ht, hsz, hc.2, hjl]
   ·simp only [aload, hsz, hag]; exact hx
  ·cases h
 ·cases h
theorem elems_len {p : AV} {m : Nat} {ps : List AV} (h : elems H sz p = some (m, ps)) {t e : TypeId} (ht : P.underlying t = some (.slice e)) : alen P t p = some (vi m) := by
 unfold elems at h
 split at h
 ·split at h
  ·simp only [Option.bind_eq_some_iff] at h
   obtain ⟨row, _, h2⟩ := h
   split at h2
   ·cases h2; simp [alen, ht]
   ·cases h2
  ·cases h
 ·split at h
  ·cases h; simp [alen, ht]
  ·cases h
 ·cases h
def partsC (H : AHeap) (sz : Nat) : List AV -> Option (Nat × List AV)
 | [] => some (0, [])
 | x :: r =>
  match partC H sz x with
  | some (k, c) => (partsC H sz r).map fun d => (k + d.1, c ++ d.2)
  | none => none
theorem partsC_cons {x : AV} {r : List AV} {n : Nat} {cells : List AV} (h : partsC H sz (x :: r) = some (n, cells)) : ∃ k c n' c', partC H sz x = some (k, c) /\ partsC H sz r = some (n', c') /\ n = k + n' /\ cells = c ++ c' := by
 simp only [partsC] at h
 split at h
 ·rename_i k c hk
  simp only [Option.map_eq_some_iff] at h
  obtain ⟨⟨n', c'⟩, h1, h2⟩ := h
  cases h2
  exact ⟨k, c, n', c', hk, h1, rfl, rfl⟩
 ·cases h
theorem partsC_length {l : List AV} : ∀ {n : Nat} {cells : List AV}, partsC H sz l = some (n, cells) -> cells.length = n * sz := by
 induction l with
 | nil => intro n cells h; cases h; simp
 | cons x r ih =>
  intro n cells h
  obtain ⟨k, c, n', c', h1, h2, rfl, rfl⟩ := partsC_cons h
  simp [part_length h1, ih h2, Nat.add_mul]
theorem partsC_sub {H₁ : AHeap} (hs : ∀ k r, H k = some r -> H₁ k = some r) : ∀ {l : List AV} {n : Nat} {cells : List AV}, partsC H sz l = some (n, cells) -> partsC H₁ sz l = some (n, cells)
 | [], _, _, h => h
 | x :: r, n, cells, h => by
  obtain ⟨k, c, n', c', h1, h2, rfl, rfl⟩ := partsC_cons h
  simp only [partsC, part_sub hs h1, partsC_sub hs h2, Option.map_some]
/-- All elements, one slice's behind the other's. -/
def concatS (sz by_ : Nat) : Spec := fun args nm H =>
 match args with
 | [p] =>
  match elems H 1 p with
  | some (m, ps) =>
   match partsC H sz ps with
   | some (n, cells) => if cells.all AV.one = true /\ n * by_ <= 140737488355328 /\ n <= 140737488355328 /\ m <= 140737488355328 then (if n = 0 then some (vnil, H) else some (.sl nm 0 n sz, upd H nm (some cells))) else none
   | none => none
  | none => none
 | _ => none
set_option maxHeartbeats 1000000 in
theorem concatB_ok : FnOK Tryz.prog 130 (concatS 1 1) := by
 refine ⟨by kernel_rfl, fun args nm H r H' h => ?_⟩
 have hcall := onF_ok growB_ok (@noCall_ok Tryz.prog)
 unfold concatS at h
 split at h
 ·rename_i p
  split at h
  ·rename_i m ps hp
   split at h
   ·rename_i n cells hn
    split at h
    ·rename_i hc
     obtain ⟨hone, hby, hbn, hbm⟩ := hc
     have hpl := elems_pos hp
     have main : ∀ (nm : Name), (∀ s, H (s ++ nm) = none) -> ∀ (Q : Exit -> Nat -> Temps -> AHeap -> Prop),
       (n = 0 -> ∀ c T, T 2 = vnil -> ∀ H1 : AHeap, (∀ k r, H k = some r -> H1 k = some r) -> Q .ret c T H1) ->
       (0 < n -> ∀ c T q, T 2 = .sl q 0 n 1 -> H q = none -> ∀ H1 : AHeap, H1 q = some cells -> (∀ k r, H k = some r -> H1 k = some r) -> Q .ret c T H1) ->
       AWP Tryz.prog nm Tryz.f130.ntmps (Tryz.f130.body.getD .skip) Q 0 (T0 [p]) H := by
      intro nm hH Q hQ0 hQ1
      (repeat refine AWP.seq ?_)
      refine AWP.region_last hcall rfl fun K hK => ?_
      simp
      apply hK; clear hK K; simp only [onNormal, onExit]
      (repeat refine AWP.seq ?_)
      refine AWP.region_last hcall rfl fun K hK => ?_
      simp
      apply hK; clear hK K; simp only [onNormal, onExit]
      (repeat refine AWP.seq ?_)
      refine AWP.region_last hcall rfl fun K hK => ?_
      simp [-alen, elems_len hp r3und42]
      apply hK; clear hK K; simp only [onNormal, onExit]
      (repeat refine AWP.seq ?_); refine AWP.block ?_
      refine AWP.loop (fun k c T H1 => H1 = H /\ T 0 = p /\ T 9 = p /\ T 10 = vi m /\ ∃ dn rs kd cd kr cr, ps = dn ++ rs /\ partsC H 1 rs = some (kr, cr) /\ kd + kr = n /\ cd ++ cr = cells /\ T 11 = vi dn.length /\ T 3 = vi kd /\ k = rs.length) ps.length ⟨rfl, by simp, by simp, by simp, [], ps, 0, [], n, cells, by simp, hn, by simp, by simp, by simp, by simp, rfl⟩ ?_
      rintro _ c T H1 ⟨rfl, t0, t9, t10, dn, rs, kd, cd, kr, cr, e1, e2, e3, e4, t11, t3, rfl⟩
      have hml : ps.length = m := by simpa using hpl.2
      cases rs with
      | nil =>
       have hd : dn.length = m := by rw [<- hml, e1]; simp
       have hkr : kr = 0 := by simp only [partsC, Option.some.injEq, Prod.mk.injEq] at e2; exact e2.1.symm
       have hkd : kd = n := by omega
       subst hkd
       (repeat refine AWP.seq ?_)
       refine AWP.region_last hcall rfl fun K hK => ?_
       simp [t10, t11, hd]
       apply hK; clear hK K; simp only [onNormal, onExit]
       (repeat refine AWP.seq ?_); refine AWP.cond (b := false) (by simp) ?_; simp only [if_true, if_false, Bool.false_eq_true]
       refine AWP.exit ?_; simp only [onNormal, onExit, if_true, reduceCtorEq, if_false]
       have hg : ∀ q, growS 1 1 [vnil, vi kd] q H1 = if kd = 0 then some (vnil, H1) else some (.sl q 0 0 1, upd H1 q (some [])) := by
        intro q
        show (if kd = 0 then _ else if kd * 1 <= 140737488355328 then _ else none) = _
        rw [if_pos (show kd * 1 <= 140737488355328 from hby)]
       by_cases h0 : kd = 0
       ·subst h0
        (repeat refine AWP.seq ?_)
        refine AWP.region_last hcall rfl fun K hK => ?_
        simp [t3, hg]
        apply hK; clear hK K; simp only [onNormal, onExit]
        (repeat refine AWP.seq ?_)
        refine AWP.region_last hcall rfl fun K hK => ?_
        simp [-alen, t0, elems_len hp r3und42]
        apply hK; clear hK K; simp only [onNormal, onExit]
        (repeat refine AWP.seq ?_); refine AWP.block ?_
        refine AWP.loop (fun k c T H2 => H2 = H1 /\ T 25 = p /\ T 26 = vi m /\ T 6 = vnil /\ ∃ dn rs, ps = dn ++ rs /\ (∃ cr, partsC H1 1 rs = some (0, cr)) /\ T 27 = vi dn.length /\ k = rs.length) ps.length ⟨rfl, by simp [t0], by simp, by simp, [], ps, by simp, ⟨_, hn⟩, by simp, rfl⟩ ?_
        rintro _ c T H2 ⟨rfl, t25, t26, t6, dn2, rs2, f1, ⟨cr2, f2⟩, t27, rfl⟩
        cases rs2 with
        | nil =>
         have hd2 : dn2.length = m := by rw [<- hml, f1]; simp
         (repeat refine AWP.seq ?_)
         refine AWP.region_last hcall rfl fun K hK => ?_
         simp [t26, t27, hd2]
         apply hK; clear hK K; simp only [onNormal, onExit]
         (repeat refine AWP.seq ?_); refine AWP.cond (b := false) (by simp) ?_; simp only [if_true, if_false, Bool.false_eq_true]
         refine AWP.exit ?_; simp only [onNormal, onExit, if_true, reduceCtorEq, if_false]
         (repeat refine AWP.seq ?_)
         refine AWP.region_last hcall rfl fun K hK => ?_
         simp [t6]
         apply hK; clear hK K; simp only [onNormal, onExit]
         refine AWP.ret ?_
         exact hQ0 rfl _ _ (by simp) _ (fun _ _ h => h)
        | cons x rs2 =>
         obtain ⟨kx, cx, kr', cr', g1, g2, g3, g4⟩ := partsC_cons f2
         obtain ⟨rfl, rfl⟩ : kx = 0 /\ kr' = 0 := by omega
         have hd2 : dn2.length < m := by rw [<- hml, f1]; simp
         have hx : ps[dn2.length]? = some x := by rw [f1]; simp
         obtain ⟨a, ha, hla⟩ := elems_at hp r3und42 r3sz70 r3ag70 hx
         have hcx : cx = [] := List.eq_nil_of_length_eq_zero (by have := part_length g1; omega)
         subst hcx
         (repeat refine AWP.seq ?_)
         refine AWP.region_last hcall rfl fun K hK => ?_
         simp [t26, t27, hd2]
         apply hK; clear hK K; simp only [onNormal, onExit]
         (repeat refine AWP.seq ?_); refine AWP.cond (b := true) (by simp [hd2]) ?_; simp only [if_true, if_false, Bool.false_eq_true]
         refine AWP.skip ?_; simp only [onNormal, onExit]
         (repeat refine AWP.seq ?_); refine AWP.block ?_
         (repeat refine AWP.seq ?_)
         refine AWP.region_last hcall rfl fun K hK => ?_
         simp [-aindexAddr, -aload, t25, t27, ha, hla H2 (fun _ _ h => h)]
         apply hK; clear hK K; simp only [onNormal, onExit]
         (repeat refine AWP.seq ?_)
         refine AWP.region_last hcall rfl fun K hK => ?_
         simp [-srcCells, t6, part_src g1]
         apply hK; clear hK K; simp only [onNormal, onExit]
         have hw2 : IntKind.i64.wrap ((dn2.length : Int) + 1) = ((dn2.length + 1 : Nat) : Int) := by rw [IntKind.wrap_i64]; omega
         (repeat refine AWP.seq ?_)
         refine AWP.region_last hcall rfl fun K hK => ?_
         simp [t27, hw2]
         apply hK; clear hK K; simp only [onNormal, onExit]
         exact ⟨rs2.length, by simp, by simp, by simp [t25], by simp [t26], by simp, dn2 ++ [x], rs2, by simp [f1], ⟨_, g2⟩, by simp, rfl⟩
       ·have hgn : H1 ((c + 3) :: nm) = none := hH [c + 3]
        have hgn' : ∀ q, growS 1 1 [vnil, vi kd] q H1 = some (.sl q 0 0 1, upd H1 q (some [])) := fun q => by rw [hg, if_neg h0]
        (repeat refine AWP.seq ?_)
        refine AWP.region_last hcall rfl fun K hK => ?_
        simp [t3, hgn']
        apply hK; clear hK K; simp only [onNormal, onExit]
        (repeat refine AWP.seq ?_)
        refine AWP.region_last hcall rfl fun K hK => ?_
        simp [-alen, t0, elems_len hp r3und42]
        apply hK; clear hK K; simp only [onNormal, onExit]
        (repeat refine AWP.seq ?_); refine AWP.block ?_
        refine AWP.loop (fun k c T H2 => (∀ k r, H1 k = some r -> H2 k = some r) /\ T 25 = p /\ T 26 = vi m /\ ∃ q dn rs kd' cd' kr cr, ps = dn ++ rs /\ partsC H1 1 rs = some (kr, cr) /\ kd' + kr = kd /\ cd' ++ cr = cells /\ cd'.length = kd' * 1 /\ T 6 = .sl q 0 kd' 1 /\ H1 q = none /\ H2 q = some cd' /\ T 27 = vi dn.length /\ k = rs.length) ps.length ⟨?_, by simp [t0], by simp, (c + 1 + 1) :: nm, [], ps, 0, [], kd, cells, by simp, hn, by simp, by simp, by simp, by simp, hH [c + 1 + 1], by simp, by simp, rfl⟩ ?_
        ·intro k r hk
         refine SubL.out (SubL.fresh (hH [_]) SubL.id) k r hk
        rintro _ c T H2 ⟨hsub, t25, t26, q, dn2, rs2, kd2, cd2, kr2, cr2, f1, f2, f3, f4, f5, t6, hq1, hq2, t27, rfl⟩
        cases rs2 with
        | nil =>
         have hd2 : dn2.length = m := by rw [<- hml, f1]; simp
         simp only [partsC, Option.some.injEq, Prod.mk.injEq] at f2
         obtain ⟨rfl, rfl⟩ := f2
         obtain rfl : kd2 = kd := by omega
         obtain rfl : cd2 = cells := by simpa using f4
         (repeat refine AWP.seq ?_)
         refine AWP.region_last hcall rfl fun K hK => ?_
         simp [t26, t27, hd2]
         apply hK; clear hK K; simp only [onNormal, onExit]
         (repeat refine AWP.seq ?_); refine AWP.cond (b := false) (by simp) ?_; simp only [if_true, if_false, Bool.false_eq_true]
         refine AWP.exit ?_; simp only [onNormal, onExit, if_true, reduceCtorEq, if_false]
         (repeat refine AWP.seq ?_)
         refine AWP.region_last hcall rfl fun K hK => ?_
         simp [t6]
         apply hK; clear hK K; simp only [onNormal, onExit]
         refine AWP.ret ?_
         exact hQ1 (by omega) _ _ q (by simp) hq1 _ hq2 hsub
        | cons x rs2 =>
         obtain ⟨kx, cx, kr', cr', g1, g2, rfl, rfl⟩ := partsC_cons f2
         have hd2 : dn2.length < m := by rw [<- hml, f1]; simp
         have hx : ps[dn2.length]? = some x := by rw [f1]; simp
         obtain ⟨a, ha, hla⟩ := elems_at hp r3und42 r3sz70 r3ag70 hx
         have hcx := part_length g1
         have hone2 : cx.all AV.one = true := by
          rw [<- f4] at hone
          simp only [List.all_append, Bool.and_eq_true] at hone
          exact hone.2.1
         (repeat refine AWP.seq ?_)
         refine AWP.region_last hcall rfl fun K hK => ?_
         simp [t26, t27, hd2]
         apply hK; clear hK K; simp only [onNormal, onExit]
         (repeat refine AWP.seq ?_); refine AWP.cond (b := true) (by simp [hd2]) ?_; simp only [if_true, if_false, Bool.false_eq_true]
         refine AWP.skip ?_; simp only [onNormal, onExit]
         (repeat refine AWP.seq ?_); refine AWP.block ?_
         (repeat refine AWP.seq ?_)
         refine AWP.region_last hcall rfl fun K hK => ?_
         simp [-aindexAddr, -aload, t25, t27, ha, hla H2 hsub]
         apply hK; clear hK K; simp only [onNormal, onExit]
         have hb1 : kd2 * 1 <= cd2.length := by omega
         have hb2 : (kd2 + kx) * 1 <= 140737488355328 := by
          have : (kd2 + kx) * 1 <= kd * 1 := Nat.mul_le_mul_right _ (by omega)
          omega
         have hb3 : kd2 + kx <= 140737488355328 := by omega
         have hct : cd2.take (kd2 * 1) = cd2 := List.take_of_length_le (by omega)
         (try simp only [Nat.mul_one] at hb1 hb2 hct hcx)
         (repeat refine AWP.seq ?_)
         refine AWP.region_last hcall rfl fun K hK => ?_
         simp [-srcCells, t6, part_src (part_sub hsub g1), hone2, hcx, hq2, hb1, hb2, hb3, hct]
         apply hK; clear hK K; simp only [onNormal, onExit]
         have hw2 : IntKind.i64.wrap ((dn2.length : Int) + 1) = ((dn2.length + 1 : Nat) : Int) := by rw [IntKind.wrap_i64]; omega
         (repeat refine AWP.seq ?_)
         refine AWP.region_last hcall rfl fun K hK => ?_
         simp [t27, hw2]
         apply hK; clear hK K; simp only [onNormal, onExit]
         refine ⟨rs2.length, by simp, ?_, by simp [t25], by simp [t26], (c + 1 + 3 + 2) :: nm, dn2 ++ [x], rs2, kd2 + kx, cd2 ++ cx, kr', cr', by simp [f1], g2, by omega, by rw [<- f4]; simp, by simp [f5, hcx, Nat.add_mul], by simp, hH [c + 1 + 3 + 2], by simp, by simp, rfl⟩
         intro k r hk
         exact SubL.out (SubL.fresh (hH [_]) (SubL.fresh hq1 (fun k r _ hk => hsub k r hk))) k r hk
      | cons x rs =>
       obtain ⟨kx, cx, kr', cr', g1, g2, rfl, rfl⟩ := partsC_cons e2
       have hd : dn.length < m := by rw [<- hml, e1]; simp
       have hx : ps[dn.length]? = some x := by rw [e1]; simp
       obtain ⟨a, ha, hla⟩ := elems_at hp r3und42 r3sz70 r3ag70 hx
       (repeat refine AWP.seq ?_)
       refine AWP.region_last hcall rfl fun K hK => ?_
       simp [t10, t11, hd]
       apply hK; clear hK K; simp only [onNormal, onExit]
       (repeat refine AWP.seq ?_); refine AWP.cond (b := true) (by simp [hd]) ?_; simp only [if_true, if_false, Bool.false_eq_true]
       refine AWP.skip ?_; simp only [onNormal, onExit]
       (repeat refine AWP.seq ?_); refine AWP.block ?_
       (repeat refine AWP.seq ?_)
       refine AWP.region_last hcall rfl fun K hK => ?_
       simp [-aindexAddr, -aload, t9, t11, ha, hla H1 (fun _ _ h => h)]
       apply hK; clear hK K; simp only [onNormal, onExit]
       have hw : IntKind.i64.wrap ((kd : Int) + kx) = ((kd + kx : Nat) : Int) := by rw [IntKind.wrap_i64]; omega
       have hz : ¬ ((kd : Int) + kx < 0) := by omega
       (repeat refine AWP.seq ?_)
       refine AWP.region_last hcall rfl fun K hK => ?_
       simp [-alen, t3, part_len g1 r3und70, hw]
       apply hK; clear hK K; simp only [onNormal, onExit]
       (repeat refine AWP.seq ?_)
       refine AWP.region_last hcall rfl fun K hK => ?_
       simp [hz]
       apply hK; clear hK K; simp only [onNormal, onExit]
       (repeat refine AWP.seq ?_); refine AWP.cond (b := false) (by simp [hz]) ?_; simp only [if_true, if_false, Bool.false_eq_true]
       refine AWP.skip ?_; simp only [onNormal, onExit]
       have hw2 : IntKind.i64.wrap ((dn.length : Int) + 1) = ((dn.length + 1 : Nat) : Int) := by rw [IntKind.wrap_i64]; omega
       (repeat refine AWP.seq ?_)
       refine AWP.region_last hcall rfl fun K hK => ?_
       simp [t11, hw2]
       apply hK; clear hK K; simp only [onNormal, onExit]
       refine ⟨rs.length, by simp, by simp, by simp [t0], by simp [t9], by simp [t10], dn ++ [x], rs, kd + kx, cd ++ cx, kr', cr', by simp [e1], g2, by omega, by rw [<- e4]; simp, by simp, by simp, rfl⟩
     by_cases h0 : n = 0
     ·rw [if_pos h0] at h
      cases h
      refine sim_go Tryz.func130 rfl rfl (Nat.le_of_ble_eq_true rfl) fun hH => ?_
      refine main nm hH _ (fun _ c T t2 H1 hs => ⟨.inr rfl, ⟨_, rfl, by simp [ares1, t2]⟩, fun k row hk => hs k row hk⟩) (fun hpos => by omega)
     ·rw [if_neg h0] at h
      cases h
      refine sim_row Tryz.func130 rfl rfl (Nat.le_of_ble_eq_true rfl) fun hH => ?_
      refine main (0 :: nm) hH _ (fun he => absurd he h0) (fun _ c T q t2 hq H1 hr hs => ⟨.inr rfl, q, ?_, hq, hr, hs⟩)
      show some [T 2] = _
      rw [t2]
    ·cases h
   ·cases h
  ·cases h
 ·cases h
end Go.Proofs.YtbllpnjappddeaaGreat.Den
end
section
set_option linter.unusedSimpArgs false
set_option linter.unusedVariables false
set_option maxRecDepth 100000
namespace Go.Proofs.YtbllpnjappddeaaGreat.Den
open Go.RowKit
attribute [local simp] runList aop abuiltin acall awanted ayielded env T0 tput tset Ran aload astore setMany upd binV aslice aindexAddr apart aindex alen acopy srcCells natOf boundOf aeq AV.nilEq convV appK fillA List.range List.range.loop onF isU8 rowOf
def u8 (n : Int) : AV := .val (.int .u8 (IntKind.u8.wrap n))
/-- A byte behind bytes. -/
def byteS : Spec := fun args nm H =>
 match args with
 | [b, .val (.int .i64 n)] =>
  match partC H 1 b with
  | some (k, c) => if c.all AV.one = true /\ k < 140737488355328 then some (.sl nm 0 (k + 1) 1, upd H nm (some (c ++ [u8 n]))) else none
  | none => none
 | _ => none
set_option maxHeartbeats 400000 in
theorem byte_ok : FnOK Tryz.prog 226 byteS := by
 refine ⟨by kernel_rfl, fun args nm H r H' h => ?_⟩
 have hcall := onF_ok concatB_ok (@noCall_ok Tryz.prog)
 unfold byteS at h
 split at h
 ·rename_i b n
  split at h
  ·rename_i k c hb
   split at h
   ·rename_i hc
    cases h
    have hcl := part_length hb
    simp only [Nat.mul_one] at hcl
    obtain ⟨h1, h2⟩ := hc
    refine sim_row Tryz.func226 rfl rfl (Nat.le_of_ble_eq_true rfl) fun hH => ?_
    have hb2 : ∀ o1 o2, partC (upd (upd H (4 :: 0 :: nm) o1) (5 :: 0 :: nm) o2) 1 b = some (k, c) := fun o1 o2 => part_sub (SubL.out (SubL.fresh (hH [5]) (SubL.fresh (hH [4]) SubL.id))) hb
    have hb3 : k + 1 <= 140737488355328 := by omega
    have hone : b.one = true /\ b.cells = [b] := by
     unfold partC at hb
     split at hb <;> first | exact ⟨rfl, rfl⟩ | cases hb
    (repeat refine AWP.seq ?_)
    refine AWP.region_last hcall rfl fun K hK => ?_
    simp
    apply hK; clear hK K; simp only [onNormal, onExit]
    (repeat refine AWP.seq ?_)
    refine AWP.region_last hcall rfl fun K hK => ?_
    simp [concatS, elems_sl, partsC, partC_sl, hb2, h1, hb3, hone.1, hone.2]
    apply hK; clear hK K; simp only [onNormal, onExit]
    (try refine AWP.ret ?_); (try simp only [onNormal, onExit]); refine ⟨by simp, _, rfl, ?_, ?_, fun k row hk => ?_⟩
    ·exact hH [6]
    ·simp [u8]
    ·refine SubL.out ?_ k row hk; repeat (first | exact SubL.id | refine SubL.set ?_ | refine SubL.gone ?_ | (refine SubL.ex ?_ ?_; · simp; done) | refine SubL.fresh (hH [_]) ?_ | refine SubL.fresh (hH [_, _]) ?_ | (refine SubL.fresh (upd_none (hH [_]) ?_) ?_; · simp; done) | (refine SubL.fresh (upd_none (hH [_, _]) ?_) ?_; · simp; done))
   ·cases h
  ·cases h
 ·cases h
/-- A text behind bytes, its length ahead. -/
def lenB (n : Nat) : List UInt8 := [UInt8.ofNat n, UInt8.ofNat (n / 256)]
theorem lenB1 (n : Nat) : IntKind.u8.wrap (n : Int) = ((UInt8.ofNat n).toNat : Int) := by
 rw [IntKind.wrap_u8, UInt8.toNat_ofNat']
 omega
theorem lenB2 (n : Nat) : IntKind.u8.wrap ((n : Int).fdiv (2 ^ min 8 IntKind.i64.bits)) = ((UInt8.ofNat (n / 256)).toNat : Int) := by
 have e : (n : Int).fdiv (2 ^ min 8 IntKind.i64.bits) = ((n / 256 : Nat) : Int) := by
  show (n : Int).fdiv 256 = _
  rw [Int.fdiv_eq_ediv_of_nonneg _ (by decide)]; rfl
 rw [e, lenB1]
def textS : Spec := fun args nm H =>
 match args with
 | [b, .val (.string s)] =>
  match partC H 1 b with
  | some (k, c) => if c.all AV.one = true /\ k < 140737488289792 /\ s.size <= 65535 then some (.sl nm 0 (k + (2 + s.size)) 1, upd H nm (some (c ++ bs (lenB s.size) ++ bs s.data.toList))) else none
  | none => none
 | _ => none
theorem part_one {H : AHeap} {b : AV} {k : Nat} {c : List AV} (hb : partC H 1 b = some (k, c)) : b.one = true /\ b.cells = [b] := by
 unfold partC at hb
 split at hb <;> first | exact ⟨rfl, rfl⟩ | cases hb
theorem bs_one (l : List UInt8) : (bs l).all AV.one = true := List.all_eq_true.2 fun a ha => by obtain ⟨b, _, rfl⟩ := List.mem_map.1 ha; rfl
theorem extract_all (s : ByteArray) : s.extract 0 s.size = s := by
 apply ByteArray.ext
 simp only [ByteArray.data_extract]
 exact Array.extract_size
theorem all_one (a : Array UInt8) (n : Nat) : a.all (AV.one ∘ fun b : UInt8 => AV.val (.int .u8 b.toNat)) 0 n = true := by
 rw [show (AV.one ∘ fun b : UInt8 => AV.val (.int .u8 b.toNat)) = fun _ => true from rfl]
 rw [Array.all_iff_forall]
 intros; rfl
set_option maxHeartbeats 400000 in
theorem text_ok : FnOK Tryz.prog 237 textS := by
 refine ⟨by kernel_rfl, fun args nm H r H' h => ?_⟩
 have hcall := onF_ok concatB_ok (@noCall_ok Tryz.prog)
 unfold textS at h
 split at h
 ·rename_i b s
  split at h
  ·rename_i k c hb
   split at h
   ·rename_i hc
    cases h
    have hcl := part_length hb
    simp only [Nat.mul_one] at hcl
    obtain ⟨h1, h2, h3⟩ := hc
    have h4 : ¬ (65535 < (s.size : Int)) := by omega
    have h5 : s.data.toList.length = s.size := by rw [Array.length_toList]; rfl
    refine sim_row Tryz.func237 rfl rfl (Nat.le_of_ble_eq_true rfl) fun hH => ?_
    have hb2 : ∀ o1 o2, partC (upd (upd H (15 :: 0 :: nm) o1) (18 :: 0 :: nm) o2) 1 b = some (k, c) := fun o1 o2 => part_sub (SubL.out (SubL.fresh (hH [18]) (SubL.fresh (hH [15]) SubL.id))) hb
    have hb3 : k + (2 + s.size) <= 140737488355328 := by omega
    have hone := part_one hb
    (repeat refine AWP.seq ?_)
    refine AWP.region_last hcall rfl fun K hK => ?_
    simp
    apply hK; clear hK K; simp only [onNormal, onExit]
    (repeat refine AWP.seq ?_)
    refine AWP.region_last hcall rfl fun K hK => ?_
    simp [h4, extract_all]
    apply hK; clear hK K; simp only [onNormal, onExit]
    have hlb := bs_one s.data.toList
    (repeat refine AWP.seq ?_)
    refine AWP.region_last hcall rfl fun K hK => ?_
    simp [concatS, elems_sl, partsC, partC_sl, partC_im, hb2, h1, h5, hone.1, hone.2, hb3, all_one]
    apply hK; clear hK K; simp only [onNormal, onExit]
    (try refine AWP.ret ?_); (try simp only [onNormal, onExit]); refine ⟨by simp, _, rfl, ?_, ?_, fun k row hk => ?_⟩
    ·exact hH [19]
    ·simp [bs, lenB, lenB1, lenB2]
    ·refine SubL.out ?_ k row hk; repeat (first | exact SubL.id | refine SubL.set ?_ | refine SubL.gone ?_ | (refine SubL.ex ?_ ?_; · simp; done) | refine SubL.fresh (hH [_]) ?_ | refine SubL.fresh (hH [_, _]) ?_ | (refine SubL.fresh (upd_none (hH [_]) ?_) ?_; · simp; done) | (refine SubL.fresh (upd_none (hH [_, _]) ?_) ?_; · simp; done))
   ·cases h
  ·cases h
 ·cases h
/-! ### numbers of eight bytes -/
def byteAt (n : Int) (i : Nat) : UInt8 := UInt8.ofNat ((n % 18446744073709551616).toNat / 256 ^ i)
def i8p (n : Int) (i : Nat) : List UInt8 := (List.range i).map (byteAt n)
def i8 (n : Int) : List UInt8 := i8p n 8
theorem i8p_length (n : Int) (i : Nat) : (i8p n i).length = i := by rw [i8p, List.length_map, List.length_range]
theorem i8p_succ (n : Int) (i : Nat) : i8p n (i + 1) = i8p n i ++ [byteAt n i] := by rw [i8p, List.range_succ, List.map_append]; rfl
theorem byteAt_wrap (n : Int) (i : Nat) (hi : i < 8) : IntKind.u8.wrap ((IntKind.u64.wrap n).fdiv (2 ^ min (8 * (i : Int)).toNat IntKind.u64.bits)) = ((byteAt n i).toNat : Int) := by
 have e0 : (8 * (i : Int)).toNat = 8 * i := by omega
 have e1 : min (8 * i) IntKind.u64.bits = 8 * i := Nat.min_eq_left (by show 8 * i <= 64; omega)
 have h0 := Int.emod_nonneg n (by decide : (18446744073709551616 : Int) ≠ 0)
 have hd : (IntKind.u64.wrap n).fdiv (2 ^ min (8 * (i : Int)).toNat IntKind.u64.bits) = (((n % 18446744073709551616).toNat / 256 ^ i : Nat) : Int) := by
  rw [e0, e1, IntKind.wrap_u64, Int.fdiv_eq_ediv_of_nonneg _ (Int.le_of_lt (Int.pow_pos (by decide)))]
  push_cast
  rw [Int.toNat_of_nonneg h0]
  congr 1
  rw [Int.pow_mul]; rfl
 rw [hd, lenB1]; rfl
/-- All elements of a slice: nil has none. -/
def fullC (H : AHeap) : AV -> Option (Nat × List AV)
 | .val (.slice none 0 0) => some (0, [])
 | x => elems H 1 x
def intS : Spec := fun args nm H =>
 match args with
 | [b, .val (.int .i64 n)] =>
  match fullC H b with
  | some (k, c) => if c.all AV.one = true /\ k < 140737488355320 then some (.sl nm 0 (k + 8) 1, upd H nm (some (c ++ bs (i8 n)))) else none
  | none => none
 | _ => none
set_option maxHeartbeats 1000000 in
theorem int_ok : FnOK Tryz.prog 131 intS := by
 refine ⟨by kernel_rfl, fun args nm H r H' h => ?_⟩
 have hcall := onF_ok cloneB_ok (@noCall_ok Tryz.prog)
 unfold intS at h
 split at h
 ·rename_i b n
  split at h
  ·rename_i k c hb
   split at h
   ·rename_i hc
    cases h
    obtain ⟨h1, h2⟩ := hc
    have hcl : c.length = k := by
     unfold fullC at hb
     split at hb
     ·cases hb; rfl
     ·have := (elems_pos hb).2; omega
    -- what Clone gives
    have hcn : ∀ q, H q = none -> ∃ x H1, cloneS 1 1 [b] q H = some (x, H1) /\ (∀ a r, H a = some r -> H1 a = some r) /\ (k = 0 /\ x = vnil \/ 0 < k /\ x = .sl q 0 k 1 /\ H1 q = some c) := by
     intro q hq
     unfold fullC at hb
     split at hb
     ·cases hb
      exact ⟨vnil, H, rfl, fun _ _ h => h, .inl ⟨rfl, rfl⟩⟩
     ·rename_i hnn
      have hp := elems_pos hb
      refine ⟨.sl q 0 k 1, upd H q (some c), ?_, fun a r ha => ?_, .inr ⟨hp.1, rfl, upd_same _ _ _⟩⟩
      ·unfold cloneS
       split
       ·rename_i e; injection e with e; subst e; cases hb
       ·rename_i x hx e
        injection e with e; subst e
        rw [hb]
        simp only
        rw [if_pos ⟨h1, by omega, by omega⟩]
       ·rename_i hx1 hx2 ; exact absurd rfl (hx2 b)
      ·rw [upd_ne]; exact ha
       rintro rfl; rw [hq] at ha; cases ha
    refine sim_row Tryz.func131 rfl rfl (Nat.le_of_ble_eq_true rfl) fun hH => ?_
    obtain ⟨x, H1, g1, g2, g3⟩ := hcn (2 :: 0 :: nm) (hH [2])
    (repeat refine AWP.seq ?_)
    refine AWP.region_last hcall rfl fun K hK => ?_
    simp
    apply hK; clear hK K; simp only [onNormal, onExit]
    (repeat refine AWP.seq ?_)
    refine AWP.scope 0 (fun m c' T H2 => ∃ i q, 0 < i /\ i < 8 /\ m = 8 - i /\ T 1 = vi n /\ T 6 = vi i /\ T 5 = .sl q 0 (k + i) 1 /\ H q = none /\ H2 q = some (c ++ bs (i8p n i)) /\ (∀ a r, H a = some r -> H2 a = some r)) rfl ?_ ?_
    ·(repeat refine AWP.seq ?_)
     refine AWP.region_last hcall rfl fun K hK => ?_
     simp [g1]
     apply hK; clear hK K; simp only [onNormal, onExit]
     (repeat refine AWP.seq ?_)
     refine AWP.region_last hcall rfl fun K hK => ?_
     simp
     apply hK; clear hK K; simp only [onNormal, onExit]
     (repeat refine AWP.seq ?_)
     refine AWP.label ?_; simp only [onNormal]
     have hb0 : IntKind.u8.wrap ((IntKind.u64.wrap n).fdiv (2 ^ min 0 IntKind.u64.bits)) = ((byteAt n 0).toNat : Int) := byteAt_wrap n 0 (by omega)
     have hb0' : IntKind.u8.wrap (IntKind.u64.wrap n) = ((byteAt n 0).toNat : Int) := by simpa using hb0
     rcases g3 with ⟨hk0, rfl⟩ | ⟨hk0, rfl, hr0⟩
     ·subst hk0
      obtain rfl : c = [] := List.eq_nil_of_length_eq_zero hcl
      (repeat refine AWP.seq ?_)
      refine AWP.region_last hcall rfl fun K hK => ?_
      simp [hb0]
      apply hK; clear hK K; simp only [onNormal, onExit]
      (repeat refine AWP.seq ?_)
      refine AWP.region_last hcall rfl fun K hK => ?_
      simp
      apply hK; clear hK K; simp only [onNormal, onExit]
      (repeat refine AWP.seq ?_)
      refine AWP.region_last hcall rfl fun K hK => ?_
      simp
      apply hK; clear hK K; simp only [onNormal, onExit]
      (repeat refine AWP.seq ?_); refine AWP.cond (b := true) (by simp) ?_; simp only [if_true, if_false, Bool.false_eq_true]
      refine AWP.goto ?_; simp only [onNormal, onGoto]
      refine ⟨by trivial, 7, 1, 13 :: 0 :: nm, by omega, by omega, rfl, by simp, by simp, by simp, hH [_], by simp [i8p_succ n 0, show i8p n 0 = [] from rfl, bs, hb0'], ?_⟩
      refine SubL.out (SubL.fresh (hH [_]) (SubL.fresh (hH [_]) fun a r _ ha => g2 a r ha))
     ·have hct : c.take k = c := List.take_of_length_le (by omega)
      have hne1 : ¬ (2 :: 0 :: nm = 12 :: 0 :: nm) := by simp
      have hkl : k <= c.length := by omega
      have hb1 : k + 1 <= 140737488355328 := by omega
      (repeat refine AWP.seq ?_)
      refine AWP.region_last hcall rfl fun K hK => ?_
      simp [hb0, hr0, hct, hkl, hb1]
      apply hK; clear hK K; simp only [onNormal, onExit]
      (repeat refine AWP.seq ?_)
      refine AWP.region_last hcall rfl fun K hK => ?_
      simp
      apply hK; clear hK K; simp only [onNormal, onExit]
      (repeat refine AWP.seq ?_)
      refine AWP.region_last hcall rfl fun K hK => ?_
      simp
      apply hK; clear hK K; simp only [onNormal, onExit]
      (repeat refine AWP.seq ?_); refine AWP.cond (b := true) (by simp) ?_; simp only [if_true, if_false, Bool.false_eq_true]
      refine AWP.goto ?_; simp only [onNormal, onGoto]
      refine ⟨by trivial, 7, 1, 13 :: 0 :: nm, by omega, by omega, rfl, by simp, by simp, by simp, hH [_], by simp [i8p_succ n 0, show i8p n 0 = [] from rfl, bs, hb0'], ?_⟩
      refine SubL.out (SubL.fresh (hH [_]) (SubL.fresh (hH [_]) (SubL.fresh (hH [_]) fun a r _ ha => g2 a r ha)))
    ·rintro m c' T H2 ⟨i, q, hi0, hi8, rfl, t1, t6, t5, hq1, hq2, hsub⟩
     (repeat refine AWP.seq ?_)
     refine AWP.skip ?_; simp only [onNormal]
     have hzz : (0 : Int) <= 8 * (i : Int) := by omega
     have hw8 : IntKind.i64.wrap (8 * (i : Int)) = 8 * (i : Int) := by rw [IntKind.wrap_i64]; omega
     have hw2 : IntKind.i64.wrap ((i : Int) + 1) = ((i + 1 : Nat) : Int) := by rw [IntKind.wrap_i64]; omega
     have hbw := byteAt_wrap n i (by omega)
     have hrs : bs (i8p n i) ++ [.val (.int .u8 ((byteAt n i).toNat : Int))] = bs (i8p n (i + 1)) := by
      rw [i8p_succ, <- bs_append]; rfl
     have hlr : (c ++ bs (i8p n i)).length = k + i := by rw [List.length_append, bs_length, i8p_length, hcl]
     have hct : (c ++ bs (i8p n i)).take (k + i) = c ++ bs (i8p n i) := List.take_of_length_le (by omega)
     have hb1 : k + i + 1 <= 140737488355328 := by omega
     have hle : k + i <= (c ++ bs (i8p n i)).length := by omega
     generalize hrow : c ++ bs (i8p n i) = row at *
     refine AWP.known_fresh fun hfr => ?_
     have hqn := ne_fresh hfr hq2 (c' + 7) (by omega)
     (repeat refine AWP.seq ?_)
     refine AWP.region_last hcall rfl fun K hK => ?_
     simp [t5, t1, t6, hw8, hzz, hbw, hq2, hct, hb1, hle, hqn]
     apply hK; clear hK K; simp only [onNormal, onExit]
     (repeat refine AWP.seq ?_)
     refine AWP.region_last hcall rfl fun K hK => ?_
     simp [t6, hw2]
     apply hK; clear hK K; simp only [onNormal, onExit]
     by_cases h7 : i + 1 < 8
     ·(repeat refine AWP.seq ?_)
      refine AWP.region_last hcall rfl fun K hK => ?_
      simp [h7]
      apply hK; clear hK K; simp only [onNormal, onExit]
      have h7' : (i : Int) + 1 < 8 := by omega
      (repeat refine AWP.seq ?_); refine AWP.cond (b := true) (by simp [h7']) ?_; simp only [if_true, if_false, Bool.false_eq_true]
      refine AWP.goto ?_; simp only [onNormal, onGoto]
      refine ⟨by trivial, 8 - (i + 1), by omega, i + 1, (c' + 8) :: 0 :: nm, by omega, h7, rfl, by simp [t1], by simp, by simp [Nat.add_assoc], hH [_], by simp [<- hrs, <- hrow], ?_⟩
      refine SubL.out (SubL.fresh (hH [_]) (SubL.fresh hq1 (SubL.fresh (hH [_]) fun a r _ ha => hsub a r ha)))
     ·(repeat refine AWP.seq ?_)
      refine AWP.region_last hcall rfl fun K hK => ?_
      simp
      apply hK; clear hK K; simp only [onNormal, onExit]
      have h7' : ¬ ((i : Int) + 1 < 8) := by omega
      (repeat refine AWP.seq ?_); refine AWP.cond (b := false) (by simp [h7']) ?_; simp only [if_true, if_false, Bool.false_eq_true]
      refine AWP.skip ?_; simp only [onNormal, onExit]
      obtain rfl : i = 7 := by omega
      have hone : row.all AV.one = true := by
       rw [<- hrow, List.all_append, h1, bs_one]; rfl
      have hb8 : k + 8 <= 140737488355328 := by omega
      have hlr8 : row.length = k + 7 := hlr
      have hi8' : row ++ [.val (.int .u8 ((byteAt n 7).toNat : Int))] = c ++ bs (i8 n) := by
       rw [<- hrow, List.append_assoc, hrs]; rfl
      have hl8 : (i8 n).length = 8 := i8p_length n 8
      have htk : (c ++ bs (i8 n)).take (k + 7 + 1) = c ++ bs (i8 n) := List.take_of_length_le (by rw [List.length_append, bs_length, hl8, hcl]; omega)
      have hone8 : (c ++ bs (i8 n)).all AV.one = true := by rw [List.all_append, h1, bs_one]; rfl
      have hle8 : k + 7 + 1 <= k + 8 := by omega
      (repeat refine AWP.seq ?_)
      refine AWP.region_last hcall rfl fun K hK => ?_
      simp [cloneS, elems_sl, hlr8, hb8, hi8', hl8, htk, hone8, hcl, hle8]
      apply hK; clear hK K; simp only [onNormal, onExit]
      (try refine AWP.ret ?_); (try simp only [onNormal, onExit]); refine ⟨by simp, _, rfl, ?_, ?_, fun k row hk => ?_⟩
      ·exact hH [_]
      ·simp
      ·exact SubL.out (SubL.fresh (hH [_]) (SubL.fresh (hH [_]) (SubL.fresh hq1 (SubL.fresh (hH [_]) fun a r _ ha => hsub a r ha)))) k row hk
   ·cases h
  ·cases h
 ·cases h
end Go.Proofs.YtbllpnjappddeaaGreat.Den
end
section
set_option linter.unusedSimpArgs false
namespace Go.Proofs.YtbllpnjappddeaaGreat.Den
open Go.RowKit
variable {P : Program} {ρ : Vals}
def isNil {α : Type} : List α -> Bool
 | [] => true
 | _ => false
/-- Calls by one table till the first cut, by another one behind. -/
noncomputable def yrun (P : Program) (call0 call : SCall) (n : Nat) : Nat -> Code -> Tr SV -> Mem -> XRes
 | 0, _, _, _ => none
 | f + 1, c, T, h =>
  match c with
  | .seq x y =>
   match yrun P call0 call n f x T h with
   | some (.normal, T, h, Θ) => (bif isNil Θ then yrun P call0 call n f y T h else xrun [] P call n f y T h).map fun (e, T, h, Θ') => (e, T, h, Θ ++ Θ')
   | r => r
  | .block id x => xrun [] P call n (f + 1) (.block id x) T h
  | .loop x => xrun [] P call n (f + 1) (.loop x) T h
  | c => xof (grun [] P call0 n f c T h [])
theorem FOk.nil : FOk ρ [] := fun x hx => by cases hx
theorem yrun_ok {sc0 sc : SCall} {n : Nat} (hsc0 : SCallOK P ρ sc0) (hsc : ∀ ρ, SCallOK P ρ sc) (hn : n < 1000000) : ∀ (f : Nat) (c : Code) (T T' : Tr SV) (h h' : Mem) (e : Exit) (Θ : List (List IE)), Dom n T -> yrun P sc0 sc n f c T h = some (e, T', h', Θ) ->
  Dom n T' /\ XG (Code.wp P c) n ρ T h e (ρ.subs Θ) T' h' := by
 intro f
 induction f with
 | zero => intro c T T' h h' e Θ _ hr; simp [yrun] at hr
 | succ f ih =>
  intro c T T' h h' e Θ hd hr
  cases c with
  | seq x y =>
   simp only [yrun] at hr
   cases hr1 : yrun P sc0 sc n f x T h with
   | none => rw [hr1] at hr; cases hr
   | some r =>
    obtain ⟨e1, T1, h1, Θ1⟩ := r
    rw [hr1] at hr
    obtain ⟨a1, a2⟩ := ih x T T1 h h1 e1 Θ1 hd hr1
    cases e1 with
    | normal =>
     simp only [Option.map_eq_some_iff] at hr
     obtain ⟨⟨e3, T3, h3, Θ3⟩, hr3, e4⟩ := hr
     simp only [Prod.mk.injEq] at e4
     obtain ⟨rfl, rfl, rfl, rfl⟩ := e4
     cases Θ1 with
     | nil =>
      obtain ⟨b1, b2⟩ := ih y T1 T3 h1 h3 e3 Θ3 a1 hr3
      exact ⟨b1, XG.seq a2 b2⟩
     | cons θ Θ1 =>
      obtain ⟨b1, b2⟩ := xrun_ok (fun _ => FOk.nil) hsc hn f y T1 T3 h1 h3 e3 Θ3 a1 hr3
      refine ⟨b1, ?_⟩
      rw [subs_append]
      exact XG.seq a2 (b2 _)
    | _ =>
     simp only [Option.some.injEq, Prod.mk.injEq] at hr
     obtain ⟨rfl, rfl, rfl, rfl⟩ := hr
     exact ⟨a1, a2.as fun Q a w h => wp_seq (wp_mono h (by rintro e₁ a w ⟨rfl, h⟩; exact h))⟩
  | block id x =>
   obtain ⟨a1, a2⟩ := xrun_ok (fun _ => FOk.nil) hsc hn (f + 1) (.block id x) T T' h h' e Θ hd hr
   exact ⟨a1, a2 ρ⟩
  | loop x =>
   obtain ⟨a1, a2⟩ := xrun_ok (fun _ => FOk.nil) hsc hn (f + 1) (.loop x) T T' h h' e Θ hd hr
   exact ⟨a1, a2 ρ⟩
  | _ =>
   obtain ⟨h1, rfl⟩ := xof_some hr
   rw [grun_eq, frun_eq] at h1
   exact ⟨srun_dom hn f _ T h [] e T' h' [] hd h1, (srun_ok FOk.nil hsc0 hn f _ T h [] e T' h' [] h1).xg⟩
/-! ### a function, all of it -/
def isEnd : Exit -> Bool
 | .normal => true
 | .ret => true
 | _ => false
def ychk3 (Θ : List (List IE)) (chk : List SV -> List (List IE) -> Bool) : Option (List SV) -> Bool
 | some l => chk l Θ
 | none => false
def ychk2 (P : Program) (fn : Func) (chk : List SV -> List (List IE) -> Bool) : XRes -> Bool
 | some (e, T, h, Θ) => bif isEnd e then ychk3 Θ chk (sres P T h fn.results.toList) else false
 | none => false
noncomputable def ychk1 (P : Program) (call0 call : SCall) (F : Nat) (f : FuncId) (args : List SV) (fn : Func) (chk : List SV -> List (List IE) -> Bool) : Option Code -> Bool
 | some code => bif isGo P f && Nat.ble args.length fn.ntmps && Nat.blt fn.ntmps 1000000 then ychk2 P fn chk (yrun P call0 call fn.ntmps F code (sargs 0 args .nil) ⟨0, .nil⟩) else false
 | none => false
noncomputable def ychk0 (P : Program) (call0 call : SCall) (F : Nat) (f : FuncId) (args : List SV) (chk : List SV -> List (List IE) -> Bool) : Option Func -> Bool
 | some fn => ychk1 P call0 call F f args fn chk fn.body
 | none => false
/-- A function is run, with cuts, and what it gives is checked. -/
noncomputable def ychk (P : Program) (call0 call : SCall) (F : Nat) (f : FuncId) (args : List SV) (chk : List SV -> List (List IE) -> Bool) : Bool := ychk0 P call0 call F f args chk (fnAt P f)
theorem sargs_dom {n : Nat} {l : List SV} (hl : l.length <= n) (hn : n < 1000000) : Dom n (sargs 0 l .nil) := by
 intro t ht
 rw [sargs_get l 0 .nil t (Nat.lt_trans (show 0 + l.length < 1000001 by omega) (by decide)), if_neg (by omega), nil_get]
theorem ychk_ok {sc0 sc : SCall} (hsc0 : SCallOK P ρ sc0) (hsc : ∀ ρ, SCallOK P ρ sc) {F : Nat} {f : FuncId} {args : List SV} {chk : List SV -> List (List IE) -> Bool} (h : ychk P sc0 sc F f args chk = true) :
  isGo P f = true /\ ∃ l Θ, chk l Θ = true /\ ∀ xs, SRels ρ noN args xs -> ∃ ν' ys, SRels (ρ.subs Θ) ν' l ys /\ ∀ (I : Imm) (w : World) (vs : Array Value), VRels noS I xs vs.toList -> (∀ m b c, I m b = some c -> ∃ el fr, w.heap[b]? = some (.cells c el fr)) ->
   Calls P f vs w fun e w' => ∃ v σ' I', e = .returned v /\ Below w.heap.size w w' /\ VRel σ' I' (ares1 ys) v := by
 unfold ychk at h
 cases hf : fnAt P f with
 | none => rw [hf] at h; cases h
 | some fn =>
  rw [hf] at h
  simp only [ychk0] at h
  cases hb : fn.body with
  | none => rw [hb] at h; cases h
  | some code =>
   rw [hb] at h
   simp only [ychk1] at h
   cases hc : (isGo P f && Nat.ble args.length fn.ntmps && Nat.blt fn.ntmps 1000000) with
   | false => rw [hc] at h; cases h
   | true =>
    rw [hc] at h
    simp only [cond_true] at h
    simp only [Bool.and_eq_true] at hc
    obtain ⟨⟨hgo, ha⟩, hn⟩ := hc
    have ha := Nat.le_of_ble_eq_true ha
    have hn := blt_lt hn
    unfold ychk2 at h
    split at h
    ·rename_i e T h' Θ hy
     cases he : isEnd e with
     | false => rw [he] at h; cases h
     | true =>
      rw [he] at h
      simp only [cond_true] at h
      cases hr : sres P T h' fn.results.toList with
      | none => rw [hr] at h; cases h
      | some l =>
       rw [hr] at h
       refine ⟨hgo, l, Θ, h, fun xs hxs => ?_⟩
       obtain ⟨_, g⟩ := yrun_ok hsc0 hsc hn F code _ T _ h' e Θ (sargs_dom ha hn) hy
       refine calls_of_xg hf hb ha hn g ?_ hr hxs
       cases e <;> first | exact .inl rfl | exact .inr rfl | cases he
    ·cases h
end Go.Proofs.YtbllpnjappddeaaGreat.Den
end
