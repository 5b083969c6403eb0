/- ServerSubs, run: what stands for its calls. -/
import Derived.Test.YtijbnccphmfdkaaGreatKPtF
import Derived.Test.YtijbnccphmfdkaaGreatKSbB
import Derived.Test.YtijbnccphmfdkaaGreatKSbC
import Derived.Test.YtijbnccphmfdkaaGreatKSbD
import Derived.Lib.Hide
set_option linter.unusedSimpArgs false
set_option maxRecDepth 1000000
namespace Go.Proofs.YtijbnccphmfdkaaGreat
open Go.RowKit

theorem wrap64_id (x : Int) (h : -9223372036854775808 ≤ x) (k : x ≤ 9223372036854775807) : wrap64 x = x := by simp only [wrap64]; omega

theorem tmod_neg (a n : Int) (hn : 0 < n) (h : a.tmod n < 0) : a.tmod n + n = a % n := by
    have h5 := Int.tmod_add_mul_tdiv a n
    have h6 : -n < a.tmod n := by have := Int.lt_tmod_of_pos a hn; omega
    have h7 : a % n = (a.tmod n) % n := by rw [← Int.add_mul_emod_self_left (a.tmod n) n (a.tdiv n), h5]
    rw [h7, ← Int.add_emod_right, Int.emod_eq_of_lt (by omega) (by omega)]

theorem tmod_pos (a n : Int) (hn : 0 < n) (h : 0 ≤ a.tmod n) : a.tmod n = a % n := by
  have h5 := Int.tmod_add_mul_tdiv a n
  have h8 := Int.tmod_lt_of_pos a hn
  have h7 : a % n = (a.tmod n) % n := by rw [← Int.add_mul_emod_self_left (a.tmod n) n (a.tdiv n), h5]
  rw [h7, Int.emod_eq_of_lt h h8]

set_option maxHeartbeats 400000 in
theorem within19_any (a n : Int) (hn : 0 < n) (hn2 : n ≤ 9223372036854775807) (w : World) :
    Calls Tryz.prog 12 #[.int .i64 a, .int .i64 n] w fun e w' => e = .returned (.int .i64 (a % n)) ∧ w = w' := by
  have hn0 : n ≠ 0 := by omega
  by_cases h : a.tmod n < 0
  · have e := tmod_neg a n hn h
    have h0 := Int.emod_nonneg a hn0
    have h1 := Int.emod_lt_of_pos a hn
    have e2 : wrap64 (a.tmod n + n) = a % n := by rw [e]; exact wrap64_id _ (by omega) (by omega)
    have E := Lib.hid e2
    clear e e2 h0 h1
    go_enter Tryz.func12, Tryz.ntmps12
    go_wp2
    rw [E.out]
    go_ret
    exact ⟨rfl, rfl⟩
  · have h' : 0 ≤ a.tmod n := by omega
    have e := tmod_pos a n hn h'
    have E := Lib.hid e
    clear e
    go_enter Tryz.func12, Tryz.ntmps12
    go_wp2
    rw [E.out]
    go_ret
    exact ⟨rfl, rfl⟩

namespace Den
/-- The number behind a law's argument is known. -/
def owithin (k : Nat) (m : Nat) (args : List SV) (h : Mem) : SRes :=
  match args with
  | [.int .i64 (.var 0), .int .i64 (.lit (.ofNat n))] => bif Nat.beq n m then some (.int .i64 (.lit (.ofNat k)), h) else none
  | _ => none

theorem owithin_ok {ρ : Vals} {k m : Nat} (hm : 0 < m) (hm2 : (m : Int) ≤ 9223372036854775807) (hk : ρ.i 0 % (m : Int) = k) {args : List SV} {h h' : Mem} {r : SV} (hr : owithin k m args h = some (r, h')) :
    isGo Tryz.prog 12 = true ∧ ∀ (ν : Nat → Option Name) (H : AHeap) (nm : Name) (xs : List AV), MRel ρ ν h H → Fre ν nm → SRels ρ ν args xs → ∃ z H', Sim Tryz.prog 12 xs nm H z H' ∧ Out ρ ν nm r h' z H' := by
  refine ⟨by kernel_rfl, fun ν H nm xs hmr hfre hxs => ?_⟩
  unfold owithin at hr
  split at hr
  · rename_i n
    cases hb : Nat.beq n m with
    | false => rw [hb] at hr; cases hr
    | true =>
      rw [hb] at hr
      obtain rfl := Nat.eq_of_beq_eq_true hb
      simp only [cond_true, Option.some.injEq, Prod.mk.injEq] at hr
      obtain ⟨rfl, rfl⟩ := hr
      cases hxs with
      | cons h1 t =>
        cases t with
        | cons h2 t =>
          cases t
          cases h1
          cases h2
          refine ⟨.val (.int .i64 k), H, ?_, Out.same hmr (.int .i64 (.lit (.ofNat k)))⟩
          refine Sim.below (vs := #[.int .i64 (ρ.i 0), .int .i64 (n : Int)]) (fun σ I us hu => ?_) (fun _ _ => .val _) fun w => ?_
          · cases hu with
            | cons a t => cases t with | cons b t => cases t; cases a; cases b; rfl
          · refine (within19_any (ρ.i 0) n (by omega) hm2 w).mono fun e w' ⟨h1, h2⟩ => ⟨?_, h2 ▸ Below.refl _ _⟩
            rw [h1, hk]
  · cases hr

noncomputable def ptsL : List PZ := [pzPair, sb0, sb1, sb2, sb3, sb4, sb5, sb6, sb7, sb8, sb9, sb10, sb11, sb12, sb13, sb14, sb15, sb16, sb17]
theorem ptsL_hold (ρ : Vals) : ∀ p ∈ ptsL, p.Holds Tryz.prog ρ := by
  unfold ptsL
  exact holds_cons (pair_holds ρ) (holds_cons (pz_holds sb0_ok (callP_ok ρ)) (holds_cons (pz_holds sb1_ok (callP_ok ρ)) (holds_cons (pz_holds sb2_ok (callP_ok ρ)) (holds_cons (pz_holds sb3_ok (callP_ok ρ)) (holds_cons (pz_holds sb4_ok (callP_ok ρ)) (holds_cons (pz_holds sb5_ok (callP_ok ρ)) (holds_cons (pz_holds sb6_ok (callP_ok ρ)) (holds_cons (pz_holds sb7_ok (callP_ok ρ)) (holds_cons (pz_holds sb8_ok (callP_ok ρ)) (holds_cons (pz_holds sb9_ok (callP_ok ρ)) (holds_cons (pz_holds sb10_ok (callP_ok ρ)) (holds_cons (pz_holds sb11_ok (callP_ok ρ)) (holds_cons (pz_holds sb12_ok (callP_ok ρ)) (holds_cons (pz_holds sb13_ok (callP_ok ρ)) (holds_cons (pz_holds sb14_ok (callP_ok ρ)) (holds_cons (pz_holds sb15_ok (callP_ok ρ)) (holds_cons (pz_holds sb16_ok (callP_ok ρ)) (holds_cons (pz_holds sb17_ok (callP_ok ρ)) (holds_nil)))))))))))))))))))

/-- What stands for calls in ServerSubs. -/
noncomputable def ovrL (k : Nat) (f : FuncId) : Option (List SV → Mem → SRes) :=
  bif Nat.beq f 12 then some (owithin k 6) else ovrZ callP [17, 18] ptsL ovrS f
theorem ovrL_ok {ρ : Vals} {k : Nat} (hk : ρ.i 0 % 6 = k) : OvrOK Tryz.prog ρ (ovrL k) := by
  intro f g hg args h r h' hr
  unfold ovrL at hg
  cases hf : Nat.beq f 12 with
  | true =>
    rw [hf] at hg
    simp only [cond_true, Option.some.injEq] at hg
    subst hg
    rw [Nat.eq_of_beq_eq_true hf]
    exact owithin_ok (by decide) (by decide) hk hr
  | false =>
    rw [hf] at hg
    exact ovrZ_ok (callP_ok ρ) (ptsL_hold ρ) (ovrS_ok ρ) f g hg args h r h' hr
noncomputable def callL (k : Nat) : SCall := hscall (fun _ => true) [] Tryz.prog 1000000 (ovrL k) 60
theorem callL_ok {ρ : Vals} {k : Nat} (hk : ρ.i 0 % 6 = k) : SCallOK Tryz.prog ρ (callL k) := by
  unfold callL
  rw [hscall_eq all_ok, gscall_eq]
  exact scall_ok FOk.nil (ovrL_ok hk) 60

def isTrue : SRes → Bool
  | some (.bool b, _) => b
  | _ => false
noncomputable def subsRun (k : Nat) : Bool := isTrue (callL k 4 [.int .i64 (.var 0)] ⟨0, .nil⟩)

/-- A law of one number that a run answered. -/
theorem true_of_run {ρ : Vals} {sc : SCall} (hsc : SCallOK Tryz.prog ρ sc) {f : FuncId} (h : isTrue (sc f [.int .i64 (.var 0)] ⟨0, .nil⟩) = true) :
    ∃ H', Sim Tryz.prog f [.val (.int .i64 (ρ.i 0))] [] (fun _ => none) (.val (.bool true)) H' := by
  cases hc : sc f [.int .i64 (.var 0)] ⟨0, .nil⟩ with
  | none => rw [hc] at h; cases h
  | some x =>
    obtain ⟨r, h'⟩ := x
    rw [hc] at h
    cases r with
    | bool b =>
      have hb : b = true := h
      subst hb
      obtain ⟨_, g⟩ := hsc _ _ _ _ _ hc
      obtain ⟨z, H', k1, ν', k2, k3, k4, k5⟩ := g (fun _ => none) (fun _ => none) [] [.val (.int .i64 (ρ.i 0))] ⟨fun n row hn => (by rw [show (⟨0, .nil⟩ : Mem).get n = none from nil_get n] at hn; cases hn), fun n k m hn => (by cases hn), fun n hn => absurd rfl hn⟩ (fun n s hn => (by cases hn)) (.cons (.int .i64 (.var 0)) .nil)
      cases k5
      exact ⟨H', k1⟩
    | _ => cases h

end Den
end Go.Proofs.YtijbnccphmfdkaaGreat
