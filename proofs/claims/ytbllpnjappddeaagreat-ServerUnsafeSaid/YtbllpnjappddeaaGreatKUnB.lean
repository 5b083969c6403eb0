/- ServerUnsafe: its run with a text of so many bytes, whatever the number of rounds. -/
import Derived.Test.YtbllpnjappddeaaGreatKUnA
import Derived.Test.YtbllpnjappddeaaGreatKSvE
import Derived.Lib.Hide
set_option linter.unusedVariables false
set_option linter.unusedSimpArgs false
section
set_option maxRecDepth 1000000
namespace Go.Proofs.YtbllpnjappddeaaGreat
open Go.RowKit
set_option maxHeartbeats 400000 in
theorem within19_any (a n : Int) (hn : 0 < n) (hn2 : n ≤ 9223372036854775807) (w : World) :
    Calls Tryz.prog 13 #[.int .i64 a, .int .i64 n] w fun e w' => e = .returned (.int .i64 (a % n)) ∧ w = w' := by
  have hn0 : n ≠ 0 := by omega
  by_cases h : a.tmod n < 0
  · have e := tmod_neg a n hn h
    have h0 := Int.emod_nonneg a hn0
    have h1 := Int.emod_lt_of_pos a hn
    have e2 : wrap64 (a.tmod n + n) = a % n := by rw [e]; exact wrap64_id _ (by omega) (by omega)
    have E := Lib.hid e2
    clear e e2 h0 h1
    go_enter Tryz.func13, Tryz.ntmps13
    go_wp2
    rw [E.out]
    go_ret
    exact ⟨rfl, rfl⟩
  · have h' : 0 ≤ a.tmod n := by omega
    have e := tmod_pos a n hn h'
    have E := Lib.hid e
    clear e
    go_enter Tryz.func13, Tryz.ntmps13
    go_wp2
    rw [E.out]
    go_ret
    exact ⟨rfl, rfl⟩
namespace Den
variable {ρ : Vals}
theorem within19_ok : FnOK Tryz.prog 13 withinS := within_fn (by kernel_rfl) within19_any
end Den
end Go.Proofs.YtbllpnjappddeaaGreat
end
section
set_option linter.unusedSimpArgs false
set_option linter.unusedVariables false
set_option maxRecDepth 1000000
namespace Go.Proofs.YtbllpnjappddeaaGreat.Den
open Go.RowKit
variable {ρ : Vals}
noncomputable def ovrUn : FuncId → Option (List SV → Mem → SRes) := orow 13 (owin [(1, 12, .var 5)]) (ovrSh callV0 [18] [sv0] ovrX0)
theorem ovrUn_ok (hρ : ρ.f = shaF) (h5 : ρ.i 5 = ρ.i 1 % 12) : OvrOK Tryz.prog ρ ovrUn := by
  refine orow_ok (fun hr => owin_ok within19_ok (fun p hp => ?_) hr) (ovrSh_ok (callV0_ok hρ) (l := [sv0]) (fun p hp => sv_fit hρ p (by
    simp only [List.mem_cons, List.not_mem_nil, or_false] at hp ⊢
    exact .inl hp)) (ovrX0_ok hρ))
  simp only [List.mem_singleton] at hp
  subst hp
  exact ⟨by decide, by decide, h5⟩
noncomputable def callUn : SCall := qcall [] ovrUn
theorem callUn_ok (hρ : ρ.f = shaF) (h5 : ρ.i 5 = ρ.i 1 % 12) : SCallOK Tryz.prog ρ callUn := qcall_ok FOk.nil (ovrUn_ok hρ h5)
def cAt : List Nat → Code → Code
  | [], c => c
  | 0 :: r, .seq a _ => cAt r a
  | 1 :: r, .seq _ b => cAt r b
  | 2 :: r, .block _ b => cAt r b
  | 3 :: r, .loop b => cAt r b
  | _ :: _, c => c
noncomputable def unBody : Code := Tryz.f5.body.getD .skip
noncomputable def unR : Code := cAt [0, 0] (tailC 7 unBody)
noncomputable def unX : Code := cAt [0, 1, 2, 3] (tailC 7 unBody)
noncomputable def unE : Code := cAt [1] (tailC 7 unBody)
theorem un_tail : tailC 7 unBody = .seq (.seq unR (.block 0 (.loop unX))) unE := by kernel_rfl
theorem un_fn : Tryz.prog.funcs[5]? = some Tryz.f5 := Tryz.func5
theorem un_body : Tryz.f5.body = some unBody := by kernel_rfl
theorem un_pc : PcOK (ptOf ptTab 5) Tryz.prog Tryz.f5.ntmps unBody := by
  refine ⟨all_pt _ _ _ ?_ un_body, ?_⟩
  · kernel_rfl
  · decide +kernel
noncomputable def unPt : PlanT := ptOf ptTab 5
noncomputable def unN : Nat := Tryz.f5.ntmps
noncomputable def unsRun (l : Nat) : Bool :=
  prunL unPt [] Tryz.prog callUn unN 1000000 (headC 7 unBody) (sargs 0 [.str (ubytes l 0), .int .i64 (.var 1)] .nil) ⟨0, .nil⟩ fun T h =>
    prunL unPt [] Tryz.prog callUn unN 1000000 [unR] T h fun T h => unRnds unPt Tryz.prog callUn unN 1000000 unX (prunE unPt [] Tryz.prog callUn unN 1000000 unE (retB 4 true)) 12 0 T h
theorem uns_of {l : Nat} (h : unsRun l = true) (s : ByteArray) (hs : s.size = l) (n : Int) : ∃ H', Sim Tryz.prog 5 [.val (.string s), .val (.int .i64 n)] [] (fun _ => none) (.val (.bool true)) H' := by
  let ρ : Vals := ⟨fun i => if i = 5 then n % 12 else n, fun k => s.data.toList.getD k 0, shaF⟩
  have e : s = strOf ρ (ubytes l 0) := by rw [← hs, strOf_ubytes s fun k _ => rfl]
  have h0 := Int.emod_nonneg n (by decide : (12 : Int) ≠ 0)
  have h1 := Int.emod_lt_of_pos n (by decide : (0 : Int) < 12)
  obtain ⟨m, hm⟩ : ∃ m : Nat, n % 12 = m := ⟨(n % 12).toNat, by omega⟩
  have h5 : ρ.i 5 = m := hm
  have hsc : SCallOK Tryz.prog ρ callUn := callUn_ok rfl rfl
  have hn : unN < 1000000 := by have : unN = 127 := by kernel_rfl
                                omega
  have hpc := un_pc
  have hx := prunL_ok (pt := unPt) (ρ := ρ) FOk.nil hsc hn (rest := tailC 7 unBody) (Q := fun e T' h' => e = .ret ∧ T'.get 4 = some (.bool true)) ?_ (headC 7 unBody) _ _ hpc.head h
  · rw [head_tail] at hx
    obtain ⟨e', T', h', ⟨rfl, ht⟩, hx⟩ := hx
    refine sim_of_x (ρ := ρ) (t := 4) (b := true) (by kernel_rfl) un_fn un_body (Nat.le_of_ble_eq_true (by kernel_rfl)) hn (by kernel_rfl) ?_ hx ht
    conv => rhs; rw [e]
    exact .cons (.str _) (.cons (.int _ _) .nil)
  · intro T hh hk
    have hpt := PcOK.tail (k := 7) hpc
    rw [un_tail] at hpt ⊢
    have hl : PcOK unPt Tryz.prog unN unX := ⟨hpt.seq1.seq2.1, hpt.seq1.seq2.2⟩
    have hy := prunL_ok (pt := unPt) (ρ := ρ) FOk.nil hsc hn (rest := .block 0 (.loop unX)) (Q := fun e T' h' => e = .normal ∧ prunE unPt [] Tryz.prog callUn unN 1000000 unE (retB 4 true) T' h' = true) ?_ [unR] T hh ?_ hk
    · obtain ⟨e1, T1, h1, ⟨rfl, hq⟩, hx1⟩ := hy
      obtain ⟨e2, T2, h2, hf, hx2⟩ := prunE_ok (ρ := ρ) FOk.nil hsc hn hpt.seq2 hq
      obtain ⟨rfl, ht⟩ := retB_ok hf
      exact ⟨.ret, T2, h2, ⟨rfl, ht⟩, XGoes.seq hx1 hx2⟩
    · intro T1 h1 hk1
      obtain ⟨r, T', h', g1, g2⟩ := unRnds_ok (ρ := ρ) hsc hn hl h5 12 0 T1 h1 hk1 (Nat.zero_le _) (by omega)
      exact ⟨.normal, T', h', ⟨rfl, g1⟩, XGoes.block (XGoes.loop g2) rfl⟩
    · intro x hx
      simp only [List.mem_singleton] at hx
      subst hx
      exact hpt.seq1.seq1
theorem uns_0 (s : ByteArray) (hs : s.size = 0) (n : Int) : ∃ H', Sim Tryz.prog 5 [.val (.string s), .val (.int .i64 n)] [] (fun _ => none) (.val (.bool true)) H' := by
  let ρ : Vals := ⟨fun i => if i = 5 then n % 12 else n, fun k => s.data.toList.getD k 0, shaF⟩
  have e : s = strOf ρ (ubytes 0 0) := by
    have := strOf_ubytes (ρ := ρ) s fun k _ => rfl
    rw [hs] at this; exact this.symm
  refine true_of_runs (ρ := ρ) (sc := callUn) (callUn_ok rfl rfl) (args := [.str (ubytes 0 0), .int .i64 (.var 1)]) ?_ (by decide +kernel)
  conv => rhs; rw [e]
  exact .cons (.str _) (.cons (.int _ _) .nil)
end Go.Proofs.YtbllpnjappddeaaGreat.Den
end
