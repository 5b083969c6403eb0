/- Rules as they are used: a region, and what stands behind it. -/
import Derived.Test.YtpgoddffacgcmaaDenK
namespace Go.Proofs.Ytpgoddffacgcmaa.Den
variable {P : Program} {p : Name} {n : Nat} {Q : Exit → Nat → Temps → AHeap → Prop} {c : Nat} {T : Temps} {H : AHeap}

def Ran (K : Nat → Temps → AHeap → Prop) (c : Nat) : Option (Temps × AHeap) → Prop
  | some (T, H) => K c T H
  | none => False

theorem Ran_some (K : Nat → Temps → AHeap → Prop) (c : Nat) (T : Temps) (H : AHeap) : Ran K c (some (T, H)) = K c T H := rfl

theorem AWP.region_last {call : CallF} (hcall : CallOK P call) {id : Nat} {ops : Array Oper} (hd : dstOk n ops = true)
    (h : ∀ K : Nat → Temps → AHeap → Prop, (∀ c T H, Q .normal c T H → K c T H) → Ran K (c + ops.size) (runList P call ops p c (List.range ops.size) T H)) : AWP P p n (.region id ops false) Q c T H := by
  have := h (Q .normal) fun _ _ _ h => h
  cases e : runList P call ops p c (List.range ops.size) T H with
  | none => rw [e] at this; exact this.elim
  | some x =>
    obtain ⟨T', H'⟩ := x
    rw [e] at this
    exact AWP.region hcall hd e this

theorem AWP.region_seq {call : CallF} (hcall : CallOK P call) {id : Nat} {ops : Array Oper} {y : Code} (hd : dstOk n ops = true)
    (h : ∀ K : Nat → Temps → AHeap → Prop, (∀ c T H, AWP P p n y Q c T H → K c T H) → Ran K (c + ops.size) (runList P call ops p c (List.range ops.size) T H)) : AWP P p n (.seq (.region id ops false) y) Q c T H :=
  AWP.seq (AWP.region_last hcall hd h)

theorem runList_nil {call : CallF} {ops : Array Oper} : runList P call ops p c [] T H = some (T, H) := rfl
theorem runList_cons {call : CallF} {ops : Array Oper} {i : Nat} {r : List Nat} {o : Oper} (ho : ops[i]? = some o) : runList P call ops p c (i :: r) T H =
    if awanted ops o T then (aop P call o (env T) ((c + i) :: p) H).elim none (fun x => runList P call ops p c r (tput T o.dst x.1) x.2) else runList P call ops p c r (tput T o.dst (.val undef)) H := by
  simp only [runList, ho]
  split
  · cases aop P call o (env T) ((c + i) :: p) H <;> rfl
  · rfl

end Go.Proofs.Ytpgoddffacgcmaa.Den
