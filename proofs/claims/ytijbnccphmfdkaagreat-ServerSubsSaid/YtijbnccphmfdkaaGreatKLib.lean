/- slices.Grow of nil and slices.Insert, for the executor. -/
import Derived.Test.YtijbnccphmfdkaaGreatKSymD
import Derived.Test.YtijbnccphmfdkaaGreatRows
import Derived.WalkKit
import Derived.WalkSpells
import Derived.WalkLawsBesides
import Derived.Lib.Walk
import Derived.Lib.SliceRun
import Derived.Lib.AppendZeros
import Derived.Laws.IdiomCopy
import Derived.Laws.Externs
import Derived.Laws.NewBlocks
import Derived.Lib.Overlaps
import Derived.Lib.AppendZerosOnto
import Derived.Lib.JoinLaws
section
set_option linter.unusedSimpArgs false
set_option linter.unusedVariables false
namespace Go.Proofs.YtijbnccphmfdkaaGreat
open Go.RowKit Go.Lib

def addrZ : Value := .agg #[.int .i64 0, .int .i64 0]

set_option maxHeartbeats 2000000 in
set_option maxRecDepth 100000 in
theorem grow_bytes (n : Nat) (h0 : 0 < n) (hbig : n ≤ 140737488355328) (w : World) :
    Calls Tryz.prog 144 #[.slice none 0 0, .int .i64 n] w fun e w' =>
      ∃ G, n ≤ G ∧ e = .returned (.slice (some ⟨w.heap.size, 0, none⟩) 0 G) ∧ w' = w.drew.alloc (.cells (Builtin.zeroCells (Value.int .u8 0).cells n ++ Builtin.zeroCells (Value.int .u8 0).cells (G - n)) 5) := by
  obtain ⟨i0, hi0, hz0, hzs, hzb⟩ : ∃ i, Tryz.prog.info? 5 = some i ∧ i.zero = some (.int .u8 0) ∧ i.size = 1 ∧ i.bytes = 1 := ⟨_, rfl, rfl, rfl, rfl⟩
  have hrz : ∀ ty, (Builtin.append_ #[70, 3] ty #[.slice none 0 0, .int .i64 (n : Int)]).run Tryz.prog w = _ := fun ty =>
    Lib.run_append_nil_zeros w 70 3 ty 5 i0 (.int .u8 0) .i64 .i64 rfl rfl hi0 hz0 n h0 (by rw [hzs]; decide) (by omega) (by rw [hzb]; omega)
  have hGn : n ≤ grownCap w n 0 5 := grownCap_ge w _ _ _
  have hG63 : grownCap w n 0 5 ≤ 9223372036854775807 := by
    have := grownCap_le_maxLen w n 0 5 (by unfold maxLen; omega)
    unfold maxLen at this
    omega
  obtain ⟨G, hG⟩ : ∃ G, G = grownCap w n 0 5 := ⟨_, rfl⟩
  rw [← hG] at hrz hGn hG63
  have h1 : ¬ ((n : Int) < 0) := by omega
  have h2 : wrap64 ((n : Int)) = (n : Int) := by unfold wrap64; omega
  have h4 : (n : Int) > 0 := by omega
  clear hG
  go_enter Tryz.func144, Tryz.ntmps144
  go_wp2_with (at_builtin; refine Lib.wpList_append_run _ rfl _ _ _ _ rfl _ _ rfl rfl _ _ (hrz _) ?_)
  all_goals (go_ret; exact ⟨G, hGn, rfl, rfl⟩)

set_option maxHeartbeats 2000000 in
set_option maxRecDepth 100000 in
theorem grow_addrs (n : Nat) (h0 : 0 < n) (hbig : n * 16 ≤ 140737488355328) (w : World) :
    Calls Tryz.prog 264 #[.slice none 0 0, .int .i64 n] w fun e w' =>
      ∃ G, n ≤ G ∧ e = .returned (.slice (some ⟨w.heap.size, 0, none⟩) 0 G) ∧ w' = w.drew.alloc (.cells (Builtin.zeroCells addrZ.cells n ++ Builtin.zeroCells addrZ.cells (G - n)) 28) := by
  obtain ⟨i0, hi0, hz0, hzs, hzb⟩ : ∃ i, Tryz.prog.info? 28 = some i ∧ i.zero = some addrZ ∧ i.size = 2 ∧ i.bytes = 16 := ⟨_, rfl, rfl, rfl, rfl⟩
  have hrz : ∀ ty, (Builtin.append_ #[47, 3] ty #[.slice none 0 0, .int .i64 (n : Int)]).run Tryz.prog w = _ := fun ty =>
    Lib.run_append_nil_zeros w 47 3 ty 28 i0 addrZ .i64 .i64 rfl rfl hi0 hz0 n h0 (by rw [hzs]; decide) (by omega) (by rw [hzb]; omega)
  have hGn : n ≤ grownCap w n 0 28 := grownCap_ge w _ _ _
  have hG63 : grownCap w n 0 28 ≤ 9223372036854775807 := by
    have := grownCap_le_maxLen w n 0 28 (by unfold maxLen; omega)
    unfold maxLen at this
    omega
  obtain ⟨G, hG⟩ : ∃ G, G = grownCap w n 0 28 := ⟨_, rfl⟩
  rw [← hG] at hrz hGn hG63
  have h1 : ¬ ((n : Int) < 0) := by omega
  have h2 : wrap64 ((n : Int)) = (n : Int) := by unfold wrap64; omega
  have h4 : (n : Int) > 0 := by omega
  clear hG
  go_enter Tryz.func264, Tryz.ntmps264
  go_wp2_with (at_builtin; refine Lib.wpList_append_run _ rfl _ _ _ _ rfl _ _ rfl rfl _ _ (hrz _) ?_)
  all_goals (go_ret; exact ⟨G, hGn, rfl, rfl⟩)


set_option maxRecDepth 100000 in
theorem grow_bytes0 (w : World) : Calls Tryz.prog 144 #[.slice none 0 0, .int .i64 0] w fun e w' => e = .returned (.slice none 0 0) ∧ w' = w := by
  go_enter Tryz.func144, Tryz.ntmps144
  go_wp2
  go_ret
  exact ⟨rfl, rfl⟩

set_option maxRecDepth 100000 in
theorem grow_addrs0 (w : World) : Calls Tryz.prog 264 #[.slice none 0 0, .int .i64 0] w fun e w' => e = .returned (.slice none 0 0) ∧ w' = w := by
  go_enter Tryz.func264, Tryz.ntmps264
  go_wp2
  go_ret
  exact ⟨rfl, rfl⟩

set_option maxRecDepth 1000000
namespace Den

/-- What Grow does for a nil slice. -/
def ogrow (sz by_ : Nat) : List SV → Mem → SRes
  | [.val (.slice none 0 0), .int .i64 (.lit (.ofNat k))], h =>
    bif Nat.beq k 0 then some (.val (.slice none 0 0), h) else bif Nat.ble (k * by_) 140737488355328 then some (.sl h.next 0 0 sz, h.push []) else none
  | _, _ => none

theorem grow_ok (ρ : Vals) {f : FuncId} {sz by_ : Nat} {z : List Value} {e0 : TypeId} (hz : z.length = sz) (hgo : isGo Tryz.prog f = true)
    (h0 : ∀ w, Calls Tryz.prog f #[.slice none 0 0, .int .i64 0] w fun e w' => e = .returned (.slice none 0 0) ∧ w' = w)
    (h1 : ∀ n, 0 < n → n * by_ ≤ 140737488355328 → ∀ w, Calls Tryz.prog f #[.slice none 0 0, .int .i64 n] w fun e w' => ∃ G, n ≤ G ∧ e = .returned (.slice (some ⟨w.heap.size, 0, none⟩) 0 G) ∧ w' = w.drew.alloc (.cells (Builtin.zeroCells z.toArray n ++ Builtin.zeroCells z.toArray (G - n)) e0))
    {args : List SV} {h h' : Mem} {r : SV} (hr : ogrow sz by_ args h = some (r, h')) : isGo Tryz.prog f = true ∧ ∀ (ν : Nat → Option Name) (H : AHeap) (nm : Name) (xs : List AV), MRel ρ ν h H → Fre ν nm → SRels ρ ν args xs →
      ∃ z H', Sim Tryz.prog f xs nm H z H' ∧ Out ρ ν nm r h' z H' := by
  refine ⟨hgo, fun ν H nm xs hm hfre hxs => ?_⟩
  unfold ogrow at hr
  split at hr
  · rename_i k
    have hx : xs = [.val (.slice none 0 0), .val (.int .i64 (k : Int))] := SRels.one hxs (.cons (.val _) (.cons (.int .i64 (.lit (.ofNat k))) .nil))
    subst hx
    have hargs : ∀ {σ : Sig} {I : Imm} {vs : Array Value}, VRels σ I [.val (.slice none 0 0), .val (.int .i64 (k : Int))] vs.toList → vs = #[.slice none 0 0, .int .i64 (k : Int)] := by
      intro σ I vs hv
      apply Array.ext'
      generalize vs.toList = l at hv
      cases hv with
      | cons h1 t => cases h1; cases t with
        | cons h2 t => cases h2; cases t; rfl
    cases hk : Nat.beq k 0 with
    | true =>
      rw [hk] at hr
      simp only [cond_true, Option.some.injEq, Prod.mk.injEq] at hr
      obtain ⟨rfl, rfl⟩ := hr
      have hk := Nat.eq_of_beq_eq_true hk
      subst hk
      refine ⟨.val (.slice none 0 0), H, ?_, .same hm (.val _)⟩
      intro σ I w vs _ hv har
      rw [hargs hv]
      refine (h0 w).mono ?_
      rintro e w' ⟨rfl, rfl⟩
      exact ⟨_, σ, I, rfl, Step.refl _ har, .val _⟩
    | false =>
      rw [hk] at hr
      simp only [cond_false] at hr
      have hk0 : 0 < k := by
        cases k with
        | zero => simp at hk
        | succ k => omega
      cases hb : Nat.ble (k * by_) 140737488355328 with
      | false => rw [hb] at hr; cases hr
      | true =>
        rw [hb] at hr
        simp only [cond_true, Option.some.injEq, Prod.mk.injEq] at hr
        obtain ⟨rfl, rfl⟩ := hr
        refine ⟨.sl nm 0 0 sz, _, ?_, .push hm hfre .nil fun ν' hn => .sl hn⟩
        intro σ I w vs hfr hv har
        rw [hargs hv]
        refine (h1 k hk0 (Nat.le_of_ble_eq_true hb) w).mono ?_
        rintro e w' ⟨G, hG, rfl, rfl⟩
        have hs1 : Step (Under nm) σ I H w σ I H w.drew := Step.drawn har rfl rfl rfl rfl
        have hs2 := (Step.alloc (nm := Under nm) hs1.rel (hfr []) ⟨[], rfl⟩ (row := []) (c := Builtin.zeroCells z.toArray k ++ Builtin.zeroCells z.toArray (G - k)) (el := e0) (fr := (0, 0)) rfl (by simp [seg]; exact .nil)).1
        refine ⟨_, _, _, rfl, hs1.trans hs2, ?_⟩
        refine .sl (p := ⟨w.heap.size, 0, (Builtin.zeroCells z.toArray k ++ Builtin.zeroCells z.toArray (G - k)).size⟩) (upd_same _ _ _) (Nat.zero_le _) ?_
        have hzc : ∀ m, (Builtin.zeroCells z.toArray m).size = m * sz := by
          intro m
          simp [Builtin.zeroCells, hz]
        simp only [Array.size_append, hzc, ← Nat.add_mul]
        rw [show k + (G - k) = G by omega]
        omega
  · cases hr

theorem ogrow_bytes (ρ : Vals) {args : List SV} {h h' : Mem} {r : SV} (hr : ogrow 1 1 args h = some (r, h')) : isGo Tryz.prog 144 = true ∧ ∀ (ν : Nat → Option Name) (H : AHeap) (nm : Name) (xs : List AV), MRel ρ ν h H → Fre ν nm → SRels ρ ν args xs →
      ∃ z H', Sim Tryz.prog 144 xs nm H z H' ∧ Out ρ ν nm r h' z H' :=
  grow_ok ρ (z := [.int .u8 0]) rfl rfl grow_bytes0 (fun n hn hb w => grow_bytes n hn (by omega) w) hr

theorem ogrow_addrs (ρ : Vals) {args : List SV} {h h' : Mem} {r : SV} (hr : ogrow 2 16 args h = some (r, h')) : isGo Tryz.prog 264 = true ∧ ∀ (ν : Nat → Option Name) (H : AHeap) (nm : Name) (xs : List AV), MRel ρ ν h H → Fre ν nm → SRels ρ ν args xs →
      ∃ z H', Sim Tryz.prog 264 xs nm H z H' ∧ Out ρ ν nm r h' z H' :=
  grow_ok ρ (z := [.int .i64 0, .int .i64 0]) rfl rfl grow_addrs0 (fun n hn hb w => grow_addrs n hn hb w) hr

end Den

end Go.Proofs.YtijbnccphmfdkaaGreat
end

section
set_option linter.unusedSimpArgs false
set_option linter.unusedVariables false
namespace Go.Proofs.YtijbnccphmfdkaaGreat
open Go.RowKit Go.Lib
variable {P : Program}

theorem wp_copy_runI (w : World) {o : Oper} {a : Act} {K : Act → World → Prop} {Q : Exit → Act → World → Prop} (d s : Operand) (t t' : TypeId)
    (ho : o.op = .call { callee := .builtin .copy, args := #[d, s], argTypes := #[t, t'] }) (v u : Value) (hd : a.eval d = v) (hs : a.eval s = u) {v' : Value} {w' : World}
    (hr : (Builtin.copy_ #[t, t'] o.type #[v, u]).run P w = .ok v' w') (h : K (a.put o.dst v') w') : o.wp P a w K Q := by
  unfold Oper.wp execOp
  simp only [ho, resolve, invoke, builtin, Sem.run_bind, Sem.run_pure, Result.andThen_ok, List.map_toArray, List.map_cons, List.map_nil, hd, hs, hr]
  exact h

theorem wpList_copy_runI (w : World) {ops : Array Oper} {rest : List Oper} {o : Oper} {a : Act} {Q : Exit → Act → World → Prop} (hgd : o.guard = none) (d s : Operand) (t t' : TypeId)
    (ho : o.op = .call { callee := .builtin .copy, args := #[d, s], argTypes := #[t, t'] }) (v u : Value) (hd : a.eval d = v) (hs : a.eval s = u) {v' : Value} {w' : World}
    (hr : (Builtin.copy_ #[t, t'] o.type #[v, u]).run P w = .ok v' w') (h : wpList P ops Q rest (a.put o.dst v') w') : wpList P ops Q (o :: rest) a w :=
  wpList_plain hgd fun _ hK => wp_copy_runI w d s t t' ho v u hd hs hr (hK _ _ h)

theorem step_copy_runI {ops : Array Oper} {o : Oper} {a : Act} {w : World} {K : Act → World → Prop} {Q : Exit → Act → World → Prop} {E : Prop}
    (hg : o.guard = none) (d x : Operand) (dT sT : TypeId) (hop : o.op = Op.call { callee := Callee.builtin Builtin.copy, args := #[d, x], argTypes := #[dT, sT] })
    (v u : Value) (hd : a.eval d = v) (hx : a.eval x = u) {v' : Value} {w' : World} (hr : (Builtin.copy_ #[dT, sT] o.type #[v, u]).run P w = .ok v' w') (hK : K (a.put o.dst v') w') :
    if Region.wanted o (yielded ops a.tmps) = true then Oper.wp P o a w K Q else E := by
  have hw : Region.wanted o (yielded ops a.tmps) = true := by simp [Region.wanted, hg]
  rw [if_pos hw]
  unfold Oper.wp
  simp [execOp, hop, resolve, invoke, builtin, hd, hx, hr, Result.andThen]
  exact hK

theorem drew_setCells (b : Nat) : ∀ (vs : List Value) (o : Nat) (w : World), (w.setCells b o vs).drew = w.drew.setCells b o vs
  | [], _, _ => rfl
  | v :: r, o, w => by rw [World.setCells, World.setCells, drew_setCells b r]; rfl

theorem isSome_setCells (b : Nat) (vs : List Value) (o : Nat) (w : World) (h : ∀ j, j < vs.length → (w.cell? ⟨b, o + j, none⟩).isSome = true) (k : Nat) (hk : (w.cell? ⟨b, k, none⟩).isSome = true) : ((w.setCells b o vs).cell? ⟨b, k, none⟩).isSome = true := by
  by_cases hin : o ≤ k ∧ k < o + vs.length
  · have := World.cell?_setCells_in b vs o w h (k - o) (by omega)
    rw [show o + (k - o) = k by omega] at this
    rw [this]; rfl
  · rw [World.cell?_setCells_out b vs o w ⟨b, k, none⟩ (fun _ _ => by show k < o ∨ o + vs.length ≤ k; omega)]
    exact hk

set_option maxHeartbeats 4000000 in
set_option maxRecDepth 100000 in
theorem insert_room (b off n c i vb voff m vc : Nat) (cs vs : List Value) (w : World) (hi : i < n) (hm : 0 < m) (hroom : n + m ≤ c) (hbig : (n + m) * 24 ≤ 140737488355328) (hvb : vb ≠ b)
    (hcl : cs.length = n) (hvl : vs.length = m)
    (hcs : ∀ j v, cs[j]? = some v → w.cell? ⟨b, off + j, none⟩ = some v) (hsp : ∀ j, j < n + m → (w.cell? ⟨b, off + j, none⟩).isSome = true) (hfz : ∀ j, j < n + m → w.frozen? ⟨b, off + j, none⟩ = false)
    (hvs : ∀ j v, vs[j]? = some v → w.cell? ⟨vb, voff + j, none⟩ = some v) (h1c : ∀ v ∈ cs, v.oneCell' = true) (h1v : ∀ v ∈ vs, v.oneCell' = true)
    (tA tB : TypeId) (kA kB : Nat) (hsa : w.shape? vb = some (tA, kA)) (hsb : w.shape? b = some (tB, kB)) (hkB : kB ≠ 0) (hfa : w.frozen? ⟨vb, voff, none⟩ = false) (hfe : w.frozen? ⟨vb, kA, none⟩ = false) :
    Calls Tryz.prog 161 #[.slice (some ⟨b, off, none⟩) n c, .int .i64 i, .slice (some ⟨vb, voff, none⟩) m vc] w fun e w' =>
      e = .returned (.slice (some ⟨b, off, none⟩) (n + m) c) ∧ w' = (w.drew.setCells b (off + (i + m)) (cs.drop i)).setCells b (off + i) vs := by
  have hz1 : ¬ ((m : Int) = 0) := by omega
  have hz2 : ¬ ((i : Int) = (n : Int)) := by omega
  have hsz : (Tryz.prog.info? 70).map (·.size) = some 1 := by
    obtain ⟨i0, hi0, h0, h1, h2⟩ : ∃ i, Tryz.prog.info? 70 = some i ∧ i.zero = some (.slice none 0 0) ∧ i.size = 1 ∧ i.bytes = 24 := ⟨_, rfl, rfl, rfl, rfl⟩
    rw [hi0]; simp [h1]
  have hov : ∀ lb cb, (callFunc 199 #[.slice (some ⟨vb, voff, none⟩) m vc, .slice (some ⟨b, off + (i + m), none⟩) lb cb]).run Tryz.prog w = .ok (.value (.bool false)) w := fun lb cb => by
    rw [run_callFunc_extern Tryz.func199 (by kernel_rfl) (by kernel_rfl) (by kernel_rfl) (e := Extern.SlicesOverlaps.overlaps #[42, 42] #[4]) (by kernel_rfl),
      Lib.run_overlaps_apart w 42 4 70 (rfl : Tryz.prog.underlying 42 = some (.slice 70)) 1 (fun w => by simp [Go.sizeOf, typeInfo, (rfl : Tryz.prog.info? 70 = some _)]; rfl) ⟨vb, voff, none⟩ ⟨b, off + (i + m), none⟩ m vc lb cb hvb tA tB kA kB hsa hsb hkB hfa hfe]
    rfl
  have hdl : (cs.drop i).length = n - i := by rw [List.length_drop, hcl]
  have mixed : Tryz.prog.follows .mixedOrders = true := rfl
  have hw1 : IntKind.i64.wrap ((i : Int) + (m : Int)) = (i : Int) + (m : Int) := by rw [IntKind.wrap_i64]; omega
  have hb1 : (0 : Int) ≤ (i : Int) + (m : Int) := by omega
  have hin : i ≤ n := by omega
  have htn : ((i : Int) + (m : Int)).toNat = i + m := by omega
  have hb2 : ¬ (c = i + m) := by omega
  have hb3 : (i : Int) ≤ (n : Int) + (m : Int) := by omega
  have hb4 : ¬ (c = i) := by omega
  have hcp1 : ∀ ty dc sc, (Builtin.copy_ #[42, 42] ty #[.slice (some ⟨b, off + (i + m), none⟩) (n + m - (i + m)) dc, .slice (some ⟨b, off + i, none⟩) (n + m - i) sc]).run Tryz.prog w.drew = .ok (goInt (cs.drop i).length) (w.drew.setCells b (off + (i + m)) (cs.drop i)) := fun ty dc sc =>
    run_copy_cells w.drew _ _ ty 70 b (off + (i + m)) (n + m - (i + m)) dc ⟨b, off + i, none⟩ (n + m - i) sc (cs.drop i) (rfl : Tryz.prog.underlying 42 = some (.slice 70)) hsz (by rw [hdl]; simp only [Nat.min_def]; split <;> omega)
      (fun j v hj => by rw [Addr.add_lit, Nat.add_assoc]; exact hcs (i + j) v (by rwa [List.getElem?_drop] at hj))
      (fun j hj => by rw [Nat.add_assoc]; exact hsp _ (by omega)) (fun j hj => by rw [Nat.add_assoc]; exact hfz _ (by omega)) (fun v hv => h1c v (List.mem_of_mem_drop hv))
  obtain ⟨W1, hW1⟩ : ∃ W1, W1 = w.drew.setCells b (off + (i + m)) (cs.drop i) := ⟨_, rfl⟩
  have hsp1 : ∀ k, k < n + m → (W1.cell? ⟨b, off + k, none⟩).isSome = true := fun k hk => by
    rw [hW1]
    exact isSome_setCells b _ _ _ (fun j hj => by rw [Nat.add_assoc]; exact hsp _ (by omega)) _ (hsp k hk)
  have hcp2 : ∀ (W : World), (∀ x, W.cell? x = W1.cell? x) → (∀ x, W.frozen? x = W1.frozen? x) → ∀ ty dc, (Builtin.copy_ #[42, 42] ty #[.slice (some ⟨b, off + i, none⟩) (n + m - i) dc, .slice (some ⟨vb, voff, none⟩) m vc]).run Tryz.prog W = .ok (goInt vs.length) (W.setCells b (off + i) vs) := fun W hWc hWf ty dc =>
    run_copy_cells W _ _ ty 70 b (off + i) (n + m - i) dc ⟨vb, voff, none⟩ m vc vs (rfl : Tryz.prog.underlying 42 = some (.slice 70)) hsz (by rw [hvl]; simp only [Nat.min_def]; split <;> omega)
      (fun j v hj => by
        rw [Addr.add_lit, hWc, hW1, World.cell?_setCells_out b _ _ _ _ (fun h _ => absurd h hvb)]
        exact hvs j v hj)
      (fun j hj => by rw [hWc, Nat.add_assoc]; exact hsp1 _ (by omega)) (fun j hj => by rw [hWf, hW1, World.frozen?_setCells, Nat.add_assoc]; exact hfz _ (by omega)) h1v
  rw [← hW1] at hcp1
  go_enter Tryz.func161, Tryz.ntmps161
  go_wp2_with (simp only [hov])
  go_region_law (refine step_copy_runI rfl _ _ 42 42 rfl _ _ (by simp [Act.eval, Act.put]) (by simp [Act.eval, Act.put]) (hcp1 _ _ _) ?_)
  go_wp2_with (at_builtin; refine wpList_copy_runI _ rfl _ _ 42 42 rfl _ _ rfl rfl (hcp2 _ (fun _ => rfl) (fun _ => rfl) _ _) ?_)
  go_ret
  first | exact ⟨rfl, rfl⟩ | exact ⟨rfl, by rw [hW1]⟩

set_option maxHeartbeats 4000000 in
set_option maxRecDepth 100000 in
theorem insert_grow (b off n c i vb voff m vc : Nat) (cs vs : List Value) (w : World) (hi : i < n) (hm : 0 < m) (hnc : n ≤ c) (hroom : c < n + m) (hbig : (n + m) * 24 ≤ 140737488355328)
    (hcl : cs.length = n) (hvl : vs.length = m)
    (hcs : ∀ j v, cs[j]? = some v → w.cell? ⟨b, off + j, none⟩ = some v)
    (hvs : ∀ j v, vs[j]? = some v → w.cell? ⟨vb, voff + j, none⟩ = some v) (h1c : ∀ v ∈ cs, v.oneCell' = true) (h1v : ∀ v ∈ vs, v.oneCell' = true) :
    Calls Tryz.prog 161 #[.slice (some ⟨b, off, none⟩) n c, .int .i64 i, .slice (some ⟨vb, voff, none⟩) m vc] w fun e w' =>
      e = .returned (.slice (some ⟨w.heap.size, 0, none⟩) (n + m) (grownCap w (n + m) c 70)) ∧
      w' = (((w.alloc (.cells ((cs.take i).toArray ++ Builtin.zeroCells (Value.slice none 0 0).cells (n + m - i) ++ Builtin.zeroCells (Value.slice none 0 0).cells (grownCap w (n + m) c 70 - (n + m))) 70)).drew.setCells w.heap.size i vs).drew).setCells w.heap.size (i + m) (cs.drop i) := by
  have mixed : Tryz.prog.follows .mixedOrders = true := rfl
  obtain ⟨i0, hi0, hz0, hzs, hzb⟩ : ∃ i, Tryz.prog.info? 70 = some i ∧ i.zero = some (.slice none 0 0) ∧ i.size = 1 ∧ i.bytes = 24 := ⟨_, rfl, rfl, rfl, rfl⟩
  have hz1 : ¬ ((m : Int) = 0) := by omega
  have hz2 : ¬ ((i : Int) = (n : Int)) := by omega
  have hz3 : (c : Int) < (n : Int) + (m : Int) := by omega
  have hsz : (Tryz.prog.info? 70).map (·.size) = some 1 := by rw [hi0]; simp [hzs]
  have hbw : b < w.heap.size := block_lt_of_cell (hcs 0 _ (List.getElem?_eq_getElem (by omega)))
  have hvw : vb < w.heap.size := block_lt_of_cell (hvs 0 _ (List.getElem?_eq_getElem (by omega)))
  have hkk : (n : Int) + (m : Int) - (i : Int) = ((n + m - i : Nat) : Int) := by omega
  have hik : i + (n + m - i) = n + m := by omega
  have hold : (Builtin.firstCells i0.size i (.slice (some ⟨b, off, none⟩) i c)).run Tryz.prog w.drew = .ok (cs.take i).toArray w.drew := by
    rw [hzs]
    exact run_firstCells_some w.drew 1 i ⟨b, off, none⟩ i c (cs.take i) (by rw [List.length_take]; omega) (fun j v hj => by
      rw [Addr.add_lit]
      rw [List.getElem?_take] at hj
      split at hj
      · exact hcs j v hj
      · cases hj)
  have hrz : ∀ ty, (Builtin.append_ #[42, 3] ty #[.slice (some ⟨b, off, none⟩) i c, .int .i64 ((n : Int) + (m : Int) - (i : Int))]).run Tryz.prog w =
      .ok (.slice (some ⟨w.heap.size, 0, none⟩) (n + m) (grownCap w (n + m) c 70)) (w.drew.alloc (.cells ((cs.take i).toArray ++ Builtin.zeroCells (Value.slice none 0 0).cells (n + m - i) ++ Builtin.zeroCells (Value.slice none 0 0).cells (grownCap w (n + m) c 70 - (n + m))) 70)) := fun ty => by
    have h := Lib.run_append_grow_zeros w 42 3 ty 70 i0 _ .i64 .i64 (rfl : Tryz.prog.underlying 42 = some (.slice 70)) (rfl : Tryz.prog.underlying 3 = some (.int .i64)) hi0 hz0 (some ⟨b, off, none⟩) i c (cs.take i) hold (n + m - i) (by omega) (by omega) (by omega) (by omega) (by rw [hzb]; omega) (by rw [hzb, hik]; exact growslice_fits hroom hbig)
    rw [hik] at h
    rw [hkk]
    exact h
  obtain ⟨G, hG⟩ : ∃ G, G = grownCap w (n + m) c 70 := ⟨_, rfl⟩
  obtain ⟨ROW, hROW⟩ : ∃ ROW : Array Value, ROW = (cs.take i).toArray ++ Builtin.zeroCells (Value.slice none 0 0).cells (n + m - i) ++ Builtin.zeroCells (Value.slice none 0 0).cells (G - (n + m)) := ⟨_, rfl⟩
  rw [← hG] at hrz ⊢
  rw [← hROW] at hrz ⊢
  have hRl : n + m ≤ ROW.size := by
    rw [hROW]
    simp [Builtin.zeroCells, Value.cells]
    omega
  obtain ⟨W1, hW1⟩ : ∃ W1, W1 = w.drew.alloc (.cells ROW 70) := ⟨_, rfl⟩
  rw [← hW1] at hrz
  have hN : ∀ j, j < n + m → (W1.cell? ⟨w.heap.size, j, none⟩).isSome = true := fun j hj => by
    rw [hW1, World.cell?_alloc_at (w := w.drew) ROW _ w.heap.size j rfl, Array.getElem?_eq_getElem (by omega)]; rfl
  have hNf : ∀ j, W1.frozen? ⟨w.heap.size, j, none⟩ = false := fun j => by rw [hW1]; exact World.frozen?_alloc_at (w := w.drew) ROW _ w.heap.size j rfl
  have hOb : ∀ j v, w.cell? ⟨b, j, none⟩ = some v → W1.cell? ⟨b, j, none⟩ = some v := fun j v h => by rw [hW1, World.cell?_alloc_past (w := w.drew) _ b j hbw]; exact h
  have hOv : ∀ j v, w.cell? ⟨vb, j, none⟩ = some v → W1.cell? ⟨vb, j, none⟩ = some v := fun j v h => by rw [hW1, World.cell?_alloc_past (w := w.drew) _ vb j hvw]; exact h
  have hcpA : ∀ (W : World), (∀ x, W.cell? x = W1.cell? x) → (∀ x, W.frozen? x = W1.frozen? x) → ∀ ty dc, (Builtin.copy_ #[42, 42] ty #[.slice (some ⟨w.heap.size, i, none⟩) (n + m - i) dc, .slice (some ⟨vb, voff, none⟩) m vc]).run Tryz.prog W = .ok (goInt vs.length) (W.setCells w.heap.size i vs) := fun W hWc hWf ty dc =>
    run_copy_cells W _ _ ty 70 w.heap.size i (n + m - i) dc ⟨vb, voff, none⟩ m vc vs (rfl : Tryz.prog.underlying 42 = some (.slice 70)) hsz (by rw [hvl]; simp only [Nat.min_def]; split <;> omega)
      (fun j v hj => by rw [Addr.add_lit, hWc]; exact hOv _ v (hvs j v hj))
      (fun j hj => by rw [hWc]; exact hN _ (by omega)) (fun j hj => by rw [hWf]; exact hNf _) h1v
  have hGn : n + m ≤ G := by rw [hG]; exact grownCap_ge w _ _ _
  have hG63 : G ≤ 9223372036854775807 := by
    have := grownCap_le_maxLen w (n + m) c 70 (by unfold maxLen; omega)
    rw [← hG] at this
    unfold maxLen at this
    omega
  have hGi : ¬ (G = i) := by omega
  have hGim : ¬ (G = i + m) := by omega
  have hci : ¬ (c = i) := by omega
  have hbN : b ≠ w.heap.size := by omega
  have hdl : (cs.drop i).length = n - i := by rw [List.length_drop, hcl]
  have hcpB : ∀ (W : World), (∀ x, W.cell? x = (W1.setCells w.heap.size i vs).cell? x) → (∀ x, W.frozen? x = (W1.setCells w.heap.size i vs).frozen? x) → ∀ ty dc sc, (Builtin.copy_ #[42, 42] ty #[.slice (some ⟨w.heap.size, i + m, none⟩) (n + m - (i + m)) dc, .slice (some ⟨b, off + i, none⟩) (n - i) sc]).run Tryz.prog W = .ok (goInt (cs.drop i).length) (W.setCells w.heap.size (i + m) (cs.drop i)) := fun W hWc hWf ty dc sc =>
    run_copy_cells W _ _ ty 70 w.heap.size (i + m) (n + m - (i + m)) dc ⟨b, off + i, none⟩ (n - i) sc (cs.drop i) (rfl : Tryz.prog.underlying 42 = some (.slice 70)) hsz (by rw [hdl]; simp only [Nat.min_def]; split <;> omega)
      (fun j v hj => by
        rw [Addr.add_lit, hWc, World.cell?_setCells_out _ _ _ _ _ (fun h _ => absurd h hbN), Nat.add_assoc]
        exact hOb _ v (hcs (i + j) v (by rwa [List.getElem?_drop] at hj)))
      (fun j hj => by rw [hWc]; exact isSome_setCells _ _ _ _ (fun t ht => hN _ (by omega)) _ (hN _ (by omega)))
      (fun j hj => by rw [hWf, World.frozen?_setCells]; exact hNf _) (fun v hv => h1c v (List.mem_of_mem_drop hv))
  subst hW1
  have hE1 : ∀ x, ((w.alloc (.cells ROW 70)).drew).cell? x = (w.drew.alloc (.cells ROW 70)).cell? x := fun x => rfl
  have hE2 : ∀ x, ((w.alloc (.cells ROW 70)).drew).frozen? x = (w.drew.alloc (.cells ROW 70)).frozen? x := fun x => rfl
  have hF1 : ∀ x, (((w.alloc (.cells ROW 70)).drew.setCells w.heap.size i vs).drew).cell? x = ((w.drew.alloc (.cells ROW 70)).setCells w.heap.size i vs).cell? x := fun x => rfl
  have hF2 : ∀ x, (((w.alloc (.cells ROW 70)).drew.setCells w.heap.size i vs).drew).frozen? x = ((w.drew.alloc (.cells ROW 70)).setCells w.heap.size i vs).frozen? x := fun x => rfl
  have hw1 : IntKind.i64.wrap ((i : Int) + (m : Int)) = (i : Int) + (m : Int) := by rw [IntKind.wrap_i64]; omega
  have hb1 : (0 : Int) ≤ (i : Int) + (m : Int) := by omega
  have hin : i ≤ n := by omega
  have htn : ((i : Int) + (m : Int)).toNat = i + m := by omega
  have hb3 : (i : Int) ≤ (n : Int) := by omega
  clear hkk hik hold hROW hG hRl
  go_enter Tryz.func161, Tryz.ntmps161
  go_wp2_with (first
    | (at_builtin; refine Lib.wpList_append_run _ rfl _ _ _ _ rfl _ _ rfl rfl _ _ (hrz _) ?_)
    | (at_builtin; refine wpList_copy_runI _ rfl _ _ 42 42 rfl _ _ rfl rfl (hcpA _ hE1 hE2 _ _) ?_)
    | (at_builtin; refine wpList_copy_runI _ rfl _ _ 42 42 rfl _ _ rfl rfl (hcpB _ (fun _ => rfl) (fun _ => rfl) _ _ _) ?_))
  go_region_law (refine step_copy_runI rfl _ _ 42 42 rfl (.slice (some ⟨w.heap.size, i + m, none⟩) (n + m - (i + m)) (G - (i + m))) (.slice (some ⟨b, off + i, none⟩) (n - i) (c - i)) (by simp [Act.eval, Act.put]) (by simp [Act.eval, Act.put]) (hcpB _ hF1 hF2 3 (G - (i + m)) (c - i)) ?_)
  go_wp2
  go_ret
  exact ⟨rfl, rfl⟩

end Go.Proofs.YtijbnccphmfdkaaGreat
end

section
set_option linter.unusedSimpArgs false
set_option linter.unusedVariables false
set_option maxRecDepth 1000000
namespace Go.Proofs.YtijbnccphmfdkaaGreat.Den
open Go.RowKit Go.Lib

theorem Step.setCells {nm : Name → Prop} {σ : Sig} {I : Imm} {n : Name} {p : Place} (hp : σ n = some p) : ∀ (xs : List AV) (us : List Value) (H : AHeap) (w : World) (row : List AV) (off : Nat), ARel σ I H w → H n = some row → VRels σ I xs us → off + xs.length ≤ row.length →
    Step nm σ I H w σ I (upd H n (some (setMany row off xs))) (w.setCells p.b (p.o + off) us) := by
  intro xs
  induction xs with
  | nil =>
    intro us H w row off hr hn hv _
    cases hv
    have e : upd H n (some (setMany row off [])) = H := by
      funext k
      by_cases hk : k = n
      · subst hk; rw [upd_same, setMany, hn]
      · rw [upd_ne _ _ hk]
    rw [e]
    exact Step.refl _ hr
  | cons x xs ih =>
    intro us H w row off hr hn hv hle
    cases hv with
    | @cons _ u _ us hx ht =>
      rw [List.length_cons] at hle
      have s1 := Step.set1 (nm := nm) hr hn hp (off := off) (by omega) hx
      have s2 := ih us _ _ (row.set off x) (off + 1) s1.rel (upd_same _ _ _) ht (by simp; omega)
      have e : upd (upd H n (some (row.set off x))) n (some (setMany (row.set off x) (off + 1) xs)) = upd H n (some (setMany row off (x :: xs))) := by
        funext k
        by_cases hk : k = n
        · subst hk; rw [upd_same, upd_same]; rfl
        · rw [upd_ne _ _ hk, upd_ne _ _ hk, upd_ne _ _ hk]
      rw [e] at s2
      exact s1.trans s2

theorem cell_of_heap {w : World} {b : Nat} {c : Array Value} {el : TypeId} {fr : Nat × Nat} (hb : w.heap[b]? = some (.cells c el fr)) (k : Nat) : w.cell? ⟨b, k, none⟩ = c[k]? := by
  simp [World.cell?, hb]
theorem frozen_of_heap {w : World} {b : Nat} {c : Array Value} {el : TypeId} {fr : Nat × Nat} (hb : w.heap[b]? = some (.cells c el fr)) (hf : fr.1 = fr.2) (k : Nat) : w.frozen? ⟨b, k, none⟩ = false := by
  simp [World.frozen?, hb]; omega
theorem shape_of_heap {w : World} {b : Nat} {c : Array Value} {el : TypeId} {fr : Nat × Nat} (hb : w.heap[b]? = some (.cells c el fr)) : w.shape? b = some (el, c.size) := by
  simp [World.shape?, hb]

theorem setMany_at (new : List AV) : ∀ (l tail : List AV), setMany (l ++ tail) l.length new = l ++ setMany tail 0 new := by
  have gen : ∀ (new : List AV) (l tail : List AV) (k : Nat), setMany (l ++ tail) (l.length + k) new = l ++ setMany tail k new := by
    intro new
    induction new with
    | nil => intro l tail k; rfl
    | cons x new ih =>
      intro l tail k
      simp only [setMany]
      rw [List.set_append_right _ _ (by omega), show l.length + k - l.length = k by omega, Nat.add_assoc, ih]
  intro l tail
  exact gen new l tail 0
theorem setMany_all : ∀ (new junk tail : List AV), junk.length = new.length → setMany (junk ++ tail) 0 new = new ++ tail := by
  intro new junk tail h
  have gen : ∀ (new pre junk tail : List AV), junk.length = new.length → setMany (pre ++ (junk ++ tail)) pre.length new = pre ++ (new ++ tail) := by
    intro new
    induction new with
    | nil => intro pre junk tail h; cases junk with
      | nil => rfl
      | cons a l => simp at h
    | cons x new ih =>
      intro pre junk tail h
      cases junk with
      | nil => simp at h
      | cons a junk =>
        simp only [setMany]
        rw [List.set_append_right _ _ (Nat.le_refl _), Nat.sub_self, List.cons_append, List.set_cons_zero]
        have := ih (pre ++ [x]) junk tail (by simpa using h)
        simp only [List.length_append, List.length_singleton, List.append_assoc, List.singleton_append] at this
        simpa using this
  exact gen new [] junk tail h

/-- Insert, at the front. -/
def oins : List SV → Mem → SRes
  | [.sl n off len sz, .int .i64 (.lit (.ofNat 0)), .sl n' off' m sz'], h =>
    bif Nat.beq sz 1 && Nat.beq sz' 1 && !Nat.beq n n' && !Nat.beq len 0 && !Nat.beq m 0 && Nat.ble ((len + m) * 24) 140737488355328 then
      (h.get n).bind fun row => (sseg off len row).bind fun c => (h.get n').bind fun row' => (sseg off' m row').bind fun d =>
        bif c.all SV.one && d.all SV.one then some (.sl h.next 0 (len + m) 1, (h.drop n).push (d ++ c)) else none
    else none
  | _, _ => none

theorem ins_go : isGo Tryz.prog 161 = true := rfl

theorem oins_ok (ρ : Vals) {args : List SV} {h h' : Mem} {r : SV} (hr : oins args h = some (r, h')) : isGo Tryz.prog 161 = true ∧ ∀ (ν : Nat → Option Name) (H : AHeap) (nm : Name) (xs : List AV), MRel ρ ν h H → Fre ν nm → SRels ρ ν args xs →
      ∃ z H', Sim Tryz.prog 161 xs nm H z H' ∧ Out ρ ν nm r h' z H' := by
  refine ⟨ins_go, fun ν H nm xs hm hfre hxs => ?_⟩
  unfold oins at hr
  split at hr
  · rename_i n off len sz n' off' m sz'
    cases hc : (Nat.beq sz 1 && Nat.beq sz' 1 && !Nat.beq n n' && !Nat.beq len 0 && !Nat.beq m 0 && Nat.ble ((len + m) * 24) 140737488355328) with
    | false => rw [hc] at hr; cases hr
    | true =>
      rw [hc] at hr
      simp only [cond_true, Option.bind_eq_some_iff] at hr
      obtain ⟨row, h1, c, h2, row', h3, d, h4, hr⟩ := hr
      cases hcd : (c.all SV.one && d.all SV.one) with
      | false => rw [hcd] at hr; cases hr
      | true =>
        rw [hcd] at hr
        simp only [cond_true, Option.some.injEq, Prod.mk.injEq] at hr
        obtain ⟨rfl, rfl⟩ := hr
        simp only [Bool.and_eq_true, Bool.not_eq_true'] at hc hcd
        obtain ⟨⟨⟨⟨⟨c1, c2⟩, c3⟩, c4⟩, c5⟩, c6⟩ := hc
        have c1 := Nat.eq_of_beq_eq_true c1
        have c2 := Nat.eq_of_beq_eq_true c2
        subst c1 c2
        have c3 : n ≠ n' := by rintro rfl; simp at c3
        have c4 : len ≠ 0 := by rintro rfl; simp at c4
        have c5 : m ≠ 0 := by rintro rfl; simp at c5
        have c6 := Nat.le_of_ble_eq_true c6
        cases hxs with
        | cons hx1 ht =>
          cases ht with
          | cons hx2 ht =>
            cases ht with
            | cons hx3 ht =>
              cases ht
              cases hx1 with
              | @sl _ _ _ _ a ha =>
                cases hx2
                cases hx3 with
                | @sl _ _ _ _ a' ha' =>
                  obtain ⟨ma, rw1, e1, e2, e3⟩ := hm.rows n row h1
                  rw [ha] at e1; cases e1
                  obtain ⟨mb, rw2, f1, f2, f3⟩ := hm.rows n' row' h3
                  rw [ha'] at f1; cases f1
                  obtain ⟨g1, g2⟩ := e3.seg h2
                  obtain ⟨g3, g4⟩ := f3.seg h4
                  have hne : a ≠ a' := fun e => c3 (hm.inj n n' a ha (by rw [e]; exact ha'))
                  refine ⟨.sl nm 0 (len + m) 1, upd (upd H a none) nm (some ((rw2.drop off').take m ++ (rw1.drop off).take len)), ?_, .push (h := h.drop n) (hm.drop ha) hfre (g3.append g1) fun ν' hn => .sl hn⟩
                  intro σ I w vs hfr hv har
                  have hσn : σ nm = none := hfr []
                  generalize hL : vs.toList = L at hv
                  cases hv with
                  | cons hv1 ht =>
                    cases ht with
                    | cons hv2 ht =>
                      cases ht with
                      | cons hv3 ht =>
                        cases ht
                        cases hv2
                        cases hv1 with
                        | @sl _ _ _ _ cap p hp hl hcap =>
                          cases hv3 with
                          | @sl _ _ _ _ cap' p' hp' hl' hcap' =>
                            have hvs : vs = #[.slice (some ⟨p.b, p.o + off, none⟩) len cap, .int .i64 (0 : Nat), .slice (some ⟨p'.b, p'.o + off', none⟩) m cap'] := Array.ext' hL
                            rw [hvs]
                            obtain ⟨q, C, el, fr, q1, q2, q3, q4, q5⟩ := har.rows a rw1 e2
                            rw [hp] at q1; cases q1
                            obtain ⟨q', C', el', fr', r1, r2, r3, r4, r5⟩ := har.rows a' rw2 f2
                            rw [hp'] at r1; cases r1
                            have hbb : p'.b ≠ p.b := fun e => hne (har.inj a a' p p' (by rw [e2]; simp) (by rw [f2]; simp) hp hp' e.symm)
                            have l1 := q5.length
                            have l2 := r5.length
                            rw [seg_length] at l1 l2
                            have hcs : VRels σ I ((rw1.drop off).take len) (seg C (p.o + off) len) := by
                              have := (q5.drop off).take len
                              rwa [show ((seg C p.o rw1.length).drop off).take len = seg C (p.o + off) len by
                                simp only [seg, List.drop_take, List.drop_drop, List.take_take]
                                congr 1
                                omega] at this
                            have hds : VRels σ I ((rw2.drop off').take m) (seg C' (p'.o + off') m) := by
                              have := (r5.drop off').take m
                              rwa [show ((seg C' p'.o rw2.length).drop off').take m = seg C' (p'.o + off') m by
                                simp only [seg, List.drop_take, List.drop_drop, List.take_take]
                                congr 1
                                omega] at this
                            have hcl : ((rw1.drop off).take len).length = len := by simp; omega
                            have hdl : ((rw2.drop off').take m).length = m := by simp; omega
                            have hcl' : (seg C (p.o + off) len).length = len := by rw [← hcs.length, hcl]
                            have hdl' : (seg C' (p'.o + off') m).length = m := by rw [← hds.length, hdl]
                            have k1 : ∀ j v, (seg C (p.o + off) len)[j]? = some v → w.cell? ⟨p.b, p.o + off + j, none⟩ = some v := by
                              intro j v hj
                              have hjl := (List.getElem?_eq_some_iff.1 hj).1
                              rw [seg_get _ _ _ _ (by omega)] at hj
                              rw [cell_of_heap q2]; exact hj
                            have k2 : ∀ j v, (seg C' (p'.o + off') m)[j]? = some v → w.cell? ⟨p'.b, p'.o + off' + j, none⟩ = some v := by
                              intro j v hj
                              have hjl := (List.getElem?_eq_some_iff.1 hj).1
                              rw [seg_get _ _ _ _ (by omega)] at hj
                              rw [cell_of_heap r2]; exact hj
                            have o1 := all_oneV hcs (sall_one g1 hcd.1)
                            have o2 := all_oneV hds (sall_one g3 hcd.2)
                            have hann : nm ≠ a := by rintro rfl; rw [hσn] at hp; cases hp
                            have hs0 : Step (Under nm) σ I H w σ I H w.drew := Step.drawn har rfl rfl rfl rfl
                            by_cases hroom : len + m ≤ cap
                            · -- there is room
                              refine (insert_room p.b (p.o + off) len cap 0 p'.b (p'.o + off') m cap' (seg C (p.o + off) len) (seg C' (p'.o + off') m) w (by omega) (by omega) hroom c6 hbb hcl' hdl' k1
                                (fun j hj => by rw [cell_of_heap q2, Array.getElem?_eq_getElem (by omega)]; rfl) (fun j hj => frozen_of_heap q2 q4 _) k2 o1 o2 el' el C'.size C.size (shape_of_heap r2) (shape_of_heap q2) (by omega) (frozen_of_heap r2 r4 _) (frozen_of_heap r2 r4 _)).mono ?_
                              rintro e w' ⟨rfl, rfl⟩
                              let junk : List AV := (seg C (p.o + off) (len + m)).map .val
                              have hjl : junk.length = len + m := by simp only [junk, List.length_map, seg_length]; omega
                              have s1 := Step.rename (nm := Under nm) (row' := junk) (o := p.o + off) hs0.rel e2 hp hσn ⟨[], rfl⟩ (fun C2 el2 fr2 hb2 => by
                                have hb2' : w.heap[p.b]? = some (.cells C2 el2 fr2) := hb2
                                rw [q2] at hb2'; cases hb2'
                                rw [hjl]
                                exact VRels.vals _)
                              have hpn : upd σ nm (some (⟨p.b, p.o + off, p.tot⟩ : Place)) nm = some ⟨p.b, p.o + off, p.tot⟩ := upd_same _ _ _
                              have s2 := Step.setCells (nm := Under nm) hpn ((rw1.drop off).take len) (seg C (p.o + off) len) _ w.drew junk (0 + m) s1.rel (upd_same _ _ _) (hcs.mono s1.sig s1.imm) (by omega)
                              have s3 := Step.setCells (nm := Under nm) hpn ((rw2.drop off').take m) (seg C' (p'.o + off') m) _ _ _ 0 s2.rel (upd_same _ _ _) (hds.mono s1.sig s1.imm) (by rw [setMany_length]; omega)
                              have hrow : setMany (setMany junk (0 + m) ((rw1.drop off).take len)) 0 ((rw2.drop off').take m) = (rw2.drop off').take m ++ (rw1.drop off).take len := by
                                have hj : junk = junk.take m ++ (junk.drop m ++ []) := by simp
                                have hjm : (junk.take m).length = m := by simp; omega
                                have e1 : setMany junk (0 + m) ((rw1.drop off).take len) = junk.take m ++ ((rw1.drop off).take len ++ []) := by
                                  rw [Nat.zero_add]
                                  conv => lhs; rw [hj]
                                  have := setMany_at ((rw1.drop off).take len) (junk.take m) (junk.drop m ++ [])
                                  rw [hjm] at this
                                  rw [this, setMany_all _ _ _ (by simp; omega)]
                                rw [e1, setMany_all _ _ _ (by rw [hjm, hdl]), List.append_nil]
                              have st := ((hs0.trans s1).trans s2).trans s3
                              rw [hrow] at st
                              have hH : upd (upd (upd (upd H a none) nm (some junk)) nm (some (setMany junk (0 + m) ((rw1.drop off).take len)))) nm (some ((rw2.drop off').take m ++ (rw1.drop off).take len)) = upd (upd H a none) nm (some ((rw2.drop off').take m ++ (rw1.drop off).take len)) := by
                                funext k
                                by_cases hk : k = nm
                                · subst hk; rw [upd_same, upd_same]
                                · rw [upd_ne _ _ hk, upd_ne _ _ hk, upd_ne _ _ hk, upd_ne _ _ hk]
                              rw [hH] at st
                              have hz : (cs : List Value) → cs.drop 0 = cs := fun cs => rfl
                              refine ⟨_, _, _, rfl, st, ?_⟩
                              exact .sl (p := ⟨p.b, p.o + off, p.tot⟩) (upd_same _ _ _) hroom (by show p.o + off + 0 + cap * 1 ≤ p.tot; omega)
                            · -- there is none
                              refine (insert_grow p.b (p.o + off) len cap 0 p'.b (p'.o + off') m cap' (seg C (p.o + off) len) (seg C' (p'.o + off') m) w (by omega) (by omega) hl (by omega) c6 hcl' hdl' k1 k2 o1 o2).mono ?_
                              rintro e w' ⟨rfl, rfl⟩
                              have hG : len + m ≤ grownCap w (len + m) cap 70 := grownCap_ge w _ _ _
                              generalize grownCap w (len + m) cap 70 = G at hG ⊢
                              let R : Array Value := ((seg C (p.o + off) len).take 0).toArray ++ Builtin.zeroCells (Value.slice none 0 0).cells (len + m - 0) ++ Builtin.zeroCells (Value.slice none 0 0).cells (G - (len + m))
                              have hzc : ∀ k, (Builtin.zeroCells (Value.slice none 0 0).cells k).size = k := by intro k; simp [Builtin.zeroCells, Value.cells]
                              have hR : R.size = G := by
                                simp only [R, Array.size_append, hzc]
                                simp
                                omega
                              let junk : List AV := (seg R 0 (len + m)).map .val
                              have hjl : junk.length = len + m := by simp only [junk, List.length_map, seg_length, hR]; omega
                              have s1 := (Step.alloc (nm := Under nm) har hσn ⟨[], rfl⟩ (row := junk) (c := R) (el := 70) (fr := (0, 0)) rfl (by rw [hjl]; exact VRels.vals _)).1
                              have hpn : upd σ nm (some (⟨w.heap.size, 0, R.size⟩ : Place)) nm = some ⟨w.heap.size, 0, R.size⟩ := upd_same _ _ _
                              have s1' : Step (Under nm) σ I H w (upd σ nm (some ⟨w.heap.size, 0, R.size⟩)) I (upd H nm (some junk)) (w.alloc (.cells R 70)).drew := s1.trans (Step.drawn s1.rel rfl rfl rfl rfl)
                              have s2 := Step.setCells (nm := Under nm) hpn ((rw2.drop off').take m) (seg C' (p'.o + off') m) _ (w.alloc (.cells R 70)).drew junk 0 s1'.rel (upd_same _ _ _) (hds.mono s1.sig s1.imm) (by omega)
                              have s2' := s2.trans (Step.drawn (w' := ((w.alloc (.cells R 70)).drew.setCells w.heap.size (0 + 0) (seg C' (p'.o + off') m)).drew) s2.rel rfl rfl rfl rfl)
                              have s3 := Step.setCells (nm := Under nm) hpn ((rw1.drop off).take len) (seg C (p.o + off) len) _ _ _ (0 + m) s2'.rel (upd_same _ _ _) (hcs.mono s1.sig s1.imm) (by rw [setMany_length]; omega)
                              have hrow : setMany (setMany junk 0 ((rw2.drop off').take m)) (0 + m) ((rw1.drop off).take len) = (rw2.drop off').take m ++ (rw1.drop off).take len := by
                                have hj : junk = junk.take m ++ junk.drop m := by simp
                                have e1 : setMany junk 0 ((rw2.drop off').take m) = (rw2.drop off').take m ++ (junk.drop m ++ []) := by
                                  conv => lhs; rw [hj]
                                  rw [setMany_all _ _ _ (by simp; omega), List.append_nil]
                                rw [e1, Nat.zero_add]
                                have := setMany_at ((rw1.drop off).take len) ((rw2.drop off').take m) (junk.drop m ++ [])
                                rw [hdl] at this
                                rw [this, setMany_all _ _ _ (by simp; omega), List.append_nil]
                              have st := (s1'.trans s2').trans s3
                              rw [hrow] at st
                              have st' := st.trans (Step.forget st.rel (H' := upd (upd H a none) nm (some ((rw2.drop off').take m ++ (rw1.drop off).take len))) (fun k rr hk => by
                                by_cases hkn : k = nm
                                · subst hkn; rw [upd_same] at hk ⊢; exact hk
                                · rw [upd_ne _ _ hkn] at hk
                                  rw [upd_ne _ _ hkn, upd_ne _ _ hkn, upd_ne _ _ hkn]
                                  by_cases hka : k = a
                                  · subst hka; rw [upd_same] at hk; cases hk
                                  · rw [upd_ne _ _ hka] at hk; exact hk))
                              simp only [Nat.zero_add, Nat.add_zero] at st' ⊢
                              refine ⟨_, _, _, rfl, st', ?_⟩
                              exact .sl (p := ⟨w.heap.size, 0, R.size⟩) (upd_same _ _ _) hG (by show 0 + 0 + G * 1 ≤ R.size; rw [hR]; omega)
  · cases hr

end Go.Proofs.YtijbnccphmfdkaaGreat.Den
end
