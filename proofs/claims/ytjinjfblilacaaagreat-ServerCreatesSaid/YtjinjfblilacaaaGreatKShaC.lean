/- A piece taken to a sum: package sha's add is a chain of states. -/
import Derived.Test.YtjinjfblilacaaaGreatKShaB
import Derived.Test.YtjinjfblilacaaaGreatKSymS
import Derived.Test.YtjinjfblilacaaaGreatKRfC
set_option linter.unusedVariables false
set_option linter.unusedSimpArgs false
section
set_option linter.unusedSimpArgs false
set_option maxRecDepth 100000
namespace Go.Proofs.YtjinjfblilacaaaGreat.Den
open Go.RowKit
theorem grun_xg {P : Program} {ρ : Vals} {sc : SCall} (hsc : SCallOK P ρ sc) {n f : Nat} (hn : n < 1000000) {c : Code} {T T' : Tr SV} {h h' : Mem} {e : Exit} (hr : grun [] P sc n f c T h [] = some (e, T', h', [])) : XG (Code.wp P c) n ρ T h e ρ T' h' := by
  rw [grun_eq, frun_eq] at hr
  exact (srun_ok FOk.nil hsc hn f c T h [] e T' h' [] hr).xg
theorem grun_dom {P : Program} {sc : SCall} {n f : Nat} (hn : n < 1000000) {c : Code} {T T' : Tr SV} {h h' : Mem} {e : Exit} (hd : Dom n T) (hr : grun [] P sc n f c T h [] = some (e, T', h', [])) : Dom n T' := by
  rw [grun_eq, frun_eq] at hr
  exact srun_dom hn f c T h [] e T' h' [] hd hr
theorem putsT_dom {n : Nat} (hn : n < 1000000) : ∀ (l : List (Nat × SV)) (T : Tr SV), l.all (fun p => Nat.blt p.1 n) = true -> Dom n T -> Dom n (putsT l T)
  | [], _, _, h => h
  | (k, v) :: r, T, hl, h => by
    simp only [List.all_cons, Bool.and_eq_true] at hl
    exact putsT_dom hn r _ hl.2 (h.put hn (d := some k) (fun j hj => by cases hj; exact blt_lt hl.1) v)
theorem adT_dom (i : Nat) : Dom 113 (adT i) := by
  refine putsT_dom (by decide) (adTl i) .nil ?_ fun t _ => nil_get t
  cases i with
  | zero => rfl
  | succ i => rfl
theorem adM_above : Above adM := mkM_above _ _ above_nil
theorem rnd2_ok {T T' : Tr SV} {x : List IE} {h' : Mem} {q : List IE × List Nat × Tr SV × Mem} (h : rnd2 T x T' h' q = true) : ∃ θ R, okSub 113 (thOf θ) R T T' adM h' = true /\ okTh θ = true /\ θ.take 80 = x := by
  obtain ⟨θ, R, T1, h1⟩ := q
  simp only [rnd2, Bool.and_eq_true] at h
  exact ⟨θ, R, h.1.1, h.1.2, IE.beqs_eq h.2⟩
theorem rnd_step {i : Nat} (hi : i < 64) : ∃ θ, okTh θ = true /\ θ.take 80 = adRound (shaK.getD i 0) i /\ ∀ ρ : Vals, XG (Code.wp Tryz.prog adLoop) 113 ρ (adT i) adM .normal (ρ.sub (thOf θ)) (adT (i + 1)) adM := by
  have h := rnd_ok i hi
  unfold rnd at h
  split at h
  · rename_i T' h' hg
    obtain ⟨θ, R, h1, h2, h3⟩ := rnd2_ok h
    exact ⟨θ, h2, h3, fun ρ => (grun_xg (callN_ok ρ) (by decide) hg).sub (adT_dom (i + 1)) (grun_dom (by decide) (adT_dom i) hg) adM_above h1⟩
  · cases h
def adXs : Nat -> Nat -> List (List IE)
  | 0, _ => []
  | m + 1, i => adRound (shaK.getD i 0) i :: adXs m (i + 1)
def endLen : Nat -> List (List IE) -> Nat
  | m, [] => m
  | _, x :: X => endLen x.length X
theorem okTrack_append : ∀ (A X : List (List IE)) (m : Nat) (B Y : List (List IE)), okTrack m A X = true -> okTrack (endLen m X) B Y = true -> okTrack m (A ++ B) (X ++ Y) = true
  | [], [], _, _, _, _, h => h
  | θ :: A, x :: X, m, B, Y, h, h' => by
    simp only [okTrack, Bool.and_eq_true] at h
    simp only [List.cons_append, okTrack, Bool.and_eq_true]
    exact ⟨h.1, okTrack_append A X x.length B Y h.2 h'⟩
  | [], _ :: _, _, _, _, h, _ => by simp [okTrack] at h
  | _ :: _, [], _, _, _, h, _ => by simp [okTrack] at h
theorem adRound_length (k i : Nat) : (adRound k i).length = 80 := by simp [adRound, varsTo]
theorem adRound_vars {k i : Nat} (hi : i < 64) : (adRound k i).all (varsLt 80) = true := by
  have h1 : (varsTo 72).all (varsLt 80) = true := by decide
  have h2 : Nat.blt (8 + i) 80 = true := Nat.ble_eq_true_of_le (by omega)
  simp only [adRound, List.all_append, h1, Bool.true_and]
  simp [List.all_cons, adx, ady, sigE, rotE, b32, maskE, varsLt, h2]
theorem beqs_refl' (l : List IE) : IE.beqs l l = true := by
  have key : (∀ a : IE, IE.beq a a = true) := by
    intro a
    exact IE.rec (motive_1 := fun a => IE.beq a a = true) (motive_2 := fun l => IE.beqs l l = true) (fun n => by simp [IE.beq]) (fun i => by simp [IE.beq]) (fun i => by simp [IE.beq])
      (fun op k a b ha hb => by simp [IE.beq, ha, hb]) (fun k a ha => by simp [IE.beq, ha]) (fun f l i hl => by simp [IE.beq, hl]) (by simp [IE.beqs]) (fun a l ha hl => by simp [IE.beqs, ha, hl]) a
  induction l with
  | nil => rfl
  | cons a l ih => simp [IE.beqs, key, ih]
theorem rounds_go {Te : Tr SV} {he : Mem} (hend : ∀ ρ : Vals, XG (Code.wp Tryz.prog adLoop) 113 ρ (adT 64) adM (.exit 0) ρ Te he) : ∀ (m i : Nat), i + m = 64 -> ∃ Θ, Θ.all okTh = true /\ okTrack 80 Θ (adXs m i) = true /\
    ∀ ρ : Vals, XG (fun Q => Code.rounds Tryz.prog adLoop Q (m + 1)) 113 ρ (adT i) adM (.exit 0) (ρ.subs Θ) Te he := by
  intro m
  induction m with
  | zero =>
    intro i hi
    have : i = 64 := by omega
    subst this
    exact ⟨[], rfl, rfl, fun ρ => XG.round_out (by intro e; cases e) (hend ρ)⟩
  | succ m ih =>
    intro i hi
    obtain ⟨θ, h1, h2, h3⟩ := rnd_step (show i < 64 by omega)
    obtain ⟨Θ, g1, g2, g3⟩ := ih (i + 1) (by omega)
    refine ⟨θ :: Θ, by simp only [List.all_cons, h1, g1, Bool.and_self], ?_, fun ρ => XG.round (h3 ρ) (g3 _)⟩
    simp only [adXs, okTrack, adRound_length, h2, adRound_vars (show i < 64 by omega), beqs_refl', g2, Bool.and_self]
def adX : List (List IE) := [adFirst] ++ (adXs 64 0 ++ adEnd)
theorem adXs_end : ∀ (m i : Nat), endLen 80 (adXs m i) = 80 := by
  intro m
  induction m with
  | zero => intro i; rfl
  | succ m ih => intro i; simp only [adXs, endLen, adRound_length, ih]
/-- add, called: its names are those of the program of words. -/
theorem add_calls {ρ : Vals} (hS : SCallOK Tryz.prog ρ callS) : ∃ Θ, Θ.all okTh = true /\ okTrack 164 Θ adX = true /\ ∀ xs, SRels ρ noN [.agg (wordsS 8), .im true 64 pieceS] xs -> ∃ ν' ys, SRels (ρ.subs Θ) ν' adRes ys /\
    ∀ (I : Imm) (w : World) (vs : Array Value), VRels noS I xs vs.toList -> (∀ m b c, I m b = some c -> ∃ el fr, w.heap[b]? = some (.cells c el fr)) ->
      Calls Tryz.prog 368 vs w fun e w' => ∃ v σ' I', e = .returned v /\ Below w.heap.size w w' /\ VRel σ' I' (ares1 ys) v := by
  have hpre := pre_ok
  have hfin := fin_ok
  have hnt : (fnAt Tryz.prog 368).map (fun fn => (fn.ntmps, fn.body)) = some (113, some adBody) := rfl
  unfold fin at hfin
  split at hfin
  · rename_i Te he hge
    split at hfin
    · rename_i fn hfn
      rw [hfn] at hnt
      simp only [Option.map_some, Option.some.injEq, Prod.mk.injEq] at hnt
      obtain ⟨hnt, hbody⟩ := hnt
      unfold ychk2 at hfin
      split at hfin
      · rename_i e Tf hf' Θe hx
        cases he1 : isEnd e with
        | false => rw [he1] at hfin; cases hfin
        | true =>
          rw [he1] at hfin
          simp only [cond_true] at hfin
          cases hsr : sres Tryz.prog Tf hf' fn.results.toList with
          | none => rw [hsr] at hfin; cases hfin
          | some l =>
            rw [hsr] at hfin
            simp only [ychk3, endChk, Bool.and_eq_true] at hfin
            obtain ⟨⟨hl, hok⟩, htr⟩ := hfin
            have hl := SV.beqs_eq hl
            subst hl
            have hde := grun_dom (by decide) (adT_dom 64) hge
            obtain ⟨_, hrest⟩ := xrun_ok (fun _ => FOk.nil) callN_ok (by decide) 1000 adRest Te Tf he hf' e Θe hde hx
            obtain ⟨Θr, r1, r2, r3⟩ := rounds_go (fun ρ => grun_xg (callN_ok ρ) (by decide) hge) 64 0 rfl
            unfold pre at hpre
            split at hpre
            · rename_i T1 h1 q1
              split at hpre
              · rename_i T2 h2 q2
                split at hpre
                · rename_i T3 h3 q3
                  split at hpre
                  · rename_i T4 h4 q4
                    obtain ⟨θ, R, p1, p2, p3⟩ := rnd2_ok hpre
                    have d0 : Dom 113 (sargs 0 [.agg (wordsS 8), .im true 64 pieceS] .nil) := sargs_dom (by decide) (by decide)
                    have d1 := grun_dom (by decide) d0 q1
                    have d2 := grun_dom (by decide) d1 q2
                    have d3 := grun_dom (by decide) d2 q3
                    have d4 := grun_dom (by decide) d3 q4
                    have x4 := (grun_xg hS (by decide) q4).sub (adT_dom 0) d4 adM_above p1
                    have xl := XG.block (id := 0) (XG.loop (r3 (ρ.sub (thOf θ)))) rfl
                    have xb := XG.seq (grun_xg hS (by decide) q1) (XG.seq (grun_xg hS (by decide) q2) (XG.seq (grun_xg hS (by decide) q3) (XG.seq (XG.seq x4 xl) (hrest _))))
                    rw [<- adBody_is] at xb
                    refine ⟨[θ] ++ (Θr ++ Θe), ?_, ?_, fun xs hxs => ?_⟩
                    · simp only [List.all_append, List.all_cons, List.all_nil, p2, r1, hok, Bool.and_self]
                    · refine okTrack_append [θ] [adFirst] 164 _ _ ?_ (okTrack_append Θr (adXs 64 0) _ _ _ ?_ ?_)
                      · have f1 : adFirst.length = 80 := by decide
                        have f2 : adFirst.all (varsLt 164) = true := by decide
                        simp only [okTrack, f1, p3, beqs_refl', f2, Bool.and_self]
                      · have f1 : endLen 164 [adFirst] = 80 := by decide
                        rw [f1]; exact r2
                      · have f1 : endLen 164 [adFirst] = 80 := by decide
                        rw [f1, adXs_end]; exact htr
                    · have e1 : ρ.subs ([θ] ++ (Θr ++ Θe)) = ((ρ.sub (thOf θ)).subs Θr).subs Θe := by rw [subs_append, subs_append]; rfl
                      rw [e1]
                      rw [<- hnt] at xb
                      exact calls_of_xg hfn hbody (by rw [hnt]; decide) (by rw [hnt]; decide) xb (by cases e <;> first | exact .inl rfl | exact .inr rfl | cases he1) hsr hxs
                  · cases hpre
                · cases hpre
              · cases hpre
            · cases hpre
      · cases hfin
    · cases hfin
  · cases hfin
end Go.Proofs.YtjinjfblilacaaaGreat.Den
end
section
set_option linter.unusedSimpArgs false
set_option maxRecDepth 100000
namespace Go.Proofs.YtjinjfblilacaaaGreat.Den
def rotN (x r : Nat) : Nat := Nat.lor (Nat.mod (Nat.shiftLeft x (Nat.sub 32 r)) 4294967296) (Nat.shiftRight x r)
def addN (a b : Nat) : Nat := Nat.mod (Nat.add a b) 4294967296
def w4N (a b c d : Nat) : Nat := Nat.lor (Nat.lor (Nat.lor (Nat.mod (Nat.shiftLeft a 24) 4294967296) (Nat.mod (Nat.shiftLeft b 16) 4294967296)) (Nat.mod (Nat.shiftLeft c 8) 4294967296)) d
def wN (a b c d : Nat) : Nat := addN (addN (addN a (Nat.xor (Nat.xor (rotN b 7) (rotN b 18)) (Nat.shiftRight b 3))) c) (Nat.xor (Nat.xor (rotN d 17) (rotN d 19)) (Nat.shiftRight d 10))
def sigN (x a b c : Nat) : Nat := Nat.xor (Nat.xor (rotN x a) (rotN x b)) (rotN x c)
def xN (k w e f g h : Nat) : Nat := addN (addN (addN (addN h (sigN e 6 11 25)) (Nat.xor (Nat.land e f) (Nat.land (Nat.xor 4294967295 e) g))) k) w
def yN (a b c : Nat) : Nat := addN (sigN a 2 13 22) (Nat.xor (Nat.xor (Nat.land a b) (Nat.land a c)) (Nat.land b c))
theorem nden_adx (N B : Nat -> Nat) (k i : Nat) : nden N B (adx k i) = xN k (N (8 + i)) (N 76) (N 77) (N 78) (N 79) := rfl
theorem nden_ady (N B : Nat -> Nat) : nden N B ady = yN (N 72) (N 73) (N 74) := rfl
/-! ### the words of a piece -/
def grow (f : List Nat -> Nat) : Nat -> List Nat -> List Nat
  | 0, e => e
  | n + 1, e => grow f n (e ++ [f e])
def fB (B : Nat -> Nat) (e : List Nat) : Nat := w4N (B (4 * e.length)) (B (4 * e.length + 1)) (B (4 * e.length + 2)) (B (4 * e.length + 3))
def fW (e : List Nat) : Nat := wN (envOf e (e.length - 16)) (envOf e (e.length - 15)) (envOf e (e.length - 7)) (envOf e (e.length - 2))
theorem envOf_map (B : Nat -> Nat) (e t : List Nat) : ((varsTo e.length).map (nden (envOf (e ++ t)) B)) = e := by
  apply List.ext_getElem
  · simp [varsTo]
  · intro i h1 h2
    simp [varsTo, nden, envOf, List.getD_eq_getElem?_getD, List.getElem?_append_left h2, List.getElem?_eq_getElem h2]
theorem track_append (B : Nat -> Nat) : ∀ (X Y : List (List IE)) (e : List Nat), track B e (X ++ Y) = track B (track B e X) Y
  | [], _, _ => rfl
  | _ :: X, Y, _ => track_append B X Y _
theorem track_grow (B : Nat -> Nat) (E : Nat -> IE) (f : List Nat -> Nat) (hE : ∀ e, nden (envOf e) B (E e.length) = f e) : ∀ (n m : Nat) (e : List Nat), e.length = m -> track B e ((List.range n).map fun j => varsTo (m + j) ++ [E (m + j)]) = grow f n e := by
  intro n
  induction n with
  | zero => intro m e _; rfl
  | succ n ih =>
    intro m e hm
    rw [List.range_succ_eq_map, List.map_cons, List.map_map]
    have h0 : (varsTo (m + 0) ++ [E (m + 0)]).map (nden (envOf e) B) = e ++ [f e] := by
      rw [Nat.add_zero, List.map_append, <- hm]
      have := envOf_map B e []
      rw [List.append_nil] at this
      rw [this, List.map_cons, List.map_nil, hE]
    simp only [track, h0, grow]
    have := ih (m + 1) (e ++ [f e]) (by simp [hm])
    rw [<- this]
    congr 1
    apply List.map_congr_left
    intro j _
    simp only [Function.comp]
    rw [show m + Nat.succ j = m + 1 + j by omega]
theorem grow_length (f : List Nat -> Nat) : ∀ (n : Nat) (e : List Nat), (grow f n e).length = e.length + n
  | 0, e => rfl
  | n + 1, e => by simp only [grow, grow_length f n]; simp; omega
theorem sp_words (B : Nat -> Nat) : track B [] spX = grow fW 48 (grow (fB B) 16 []) := by
  unfold spX
  rw [track_append, track_append, track_append]
  have e1 : track B [] [[]] = [] := rfl
  rw [e1]
  have h1 := track_grow B spB (fB B) (fun e => rfl) 16 0 [] rfl
  simp only [Nat.zero_add] at h1
  rw [h1]
  have hl : (grow (fB B) 16 []).length = 16 := by rw [grow_length]; rfl
  have e2 : track B (grow (fB B) 16 []) [varsTo 16] = grow (fB B) 16 [] := by
    have := envOf_map B (grow (fB B) 16 []) []
    rw [List.append_nil, hl] at this
    exact this
  rw [e2]
  exact track_grow B spW fW (fun e => rfl) 48 16 _ hl
/-- The last word first. -/
def growR : Nat -> List Nat -> List Nat
  | 0, r => r
  | n + 1, r => forceN (wN (r.getD 15 0) (r.getD 14 0) (r.getD 6 0) (r.getD 1 0)) fun x => growR n (x :: r)
theorem growR_eq : ∀ (n : Nat) (e : List Nat), 16 <= e.length -> growR n e.reverse = (grow fW n e).reverse
  | 0, _, _ => rfl
  | n + 1, e, h => by
    have hx : wN (e.reverse.getD 15 0) (e.reverse.getD 14 0) (e.reverse.getD 6 0) (e.reverse.getD 1 0) = fW e := by
      simp only [fW, envOf, List.getD_eq_getElem?_getD]
      rw [List.getElem?_reverse (by omega), List.getElem?_reverse (by omega), List.getElem?_reverse (by omega), List.getElem?_reverse (by omega)]
      rw [show e.length - 1 - 15 = e.length - 16 by omega, show e.length - 1 - 14 = e.length - 15 by omega, show e.length - 1 - 6 = e.length - 7 by omega, show e.length - 1 - 1 = e.length - 2 by omega]
    simp only [growR, forceN_eq, hx, grow]
    have := growR_eq n (e ++ [fW e]) (by simp; omega)
    rw [List.reverse_append] at this
    exact this
/-- The first sixteen words, the last one first. -/
def words16 : List Nat -> List Nat -> List Nat
  | a :: b :: c :: d :: r, acc => forceN (w4N a b c d) fun x => words16 r (x :: acc)
  | _, acc => acc
theorem words16_eq (B : Nat -> Nat) : ∀ (n : Nat) (e l : List Nat), l.length = 4 * n -> (∀ j, j < 4 * n -> l.getD j 0 = B (4 * e.length + j)) -> words16 l e.reverse = (grow (fB B) n e).reverse := by
  intro n
  induction n with
  | zero => intro e l hl _; cases l with
    | nil => rfl
    | cons a l => simp at hl
  | succ n ih =>
    intro e l hl hB
    match l, hl with
    | a :: b :: c :: d :: r, hl =>
      simp only [words16, forceN_eq, grow]
      have h0 : w4N a b c d = fB B e := by
        have b0 := hB 0 (by omega)
        have b1 := hB 1 (by omega)
        have b2 := hB 2 (by omega)
        have b3 := hB 3 (by omega)
        simp at b0 b1 b2 b3
        simp only [fB, b0, b1, b2, b3]
      rw [h0]
      have := ih (e ++ [fB B e]) r (by simp at hl; omega) (by
        intro j hj
        have := hB (j + 4) (by omega)
        simp at this
        simp only [List.length_append, List.length_singleton]
        rw [show 4 * (e.length + 1) + j = 4 * e.length + (j + 4) by omega, <- this]
        simp [List.getD_eq_getElem?_getD])
      rw [List.reverse_append] at this
      exact this
/-- The words of a piece. -/
def wordsN (bs : List Nat) : List Nat := (growR 48 (words16 bs [])).reverse
theorem wordsN_eq {B : Nat -> Nat} {bs : List Nat} (hl : bs.length = 64) (hB : ∀ j, j < 64 -> bs.getD j 0 = B j) : wordsN bs = track B [] spX := by
  have h1 := words16_eq B 16 [] bs (by omega) (by intro j hj; simpa using hB j (by omega))
  simp only [List.reverse_nil] at h1
  rw [wordsN, h1, growR_eq 48 _ (by rw [grow_length]; exact Nat.le_add_left _ _), List.reverse_reverse, sp_words]
/-! ### the rounds -/
def stepN (k w : Nat) (s : W8) : W8 :=
  forceN (xN k w s.e s.f s.g s.h) fun x => forceN (addN x (yN s.a s.b s.c)) fun na => forceN (addN s.d x) fun ne => ⟨na, s.a, s.b, s.c, ne, s.e, s.f, s.g⟩
def roundsN : List Nat -> List Nat -> W8 -> W8
  | k :: ks, w :: ws, s => roundsN ks ws (stepN k w s)
  | _, _, s => s
def listN (s : W8) : List Nat := [s.a, s.b, s.c, s.d, s.e, s.f, s.g, s.h]
theorem env_get (s w t : List Nat) (hs : s.length = 8) (hw : w.length = 64) (j : Nat) : envOf (s ++ w ++ t) (72 + j) = t.getD j 0 := by
  simp only [envOf, List.getD_eq_getElem?_getD]
  rw [List.getElem?_append_right (by simp [hs, hw])]
  congr 2
  simp [hs, hw]
theorem env_w (s w t : List Nat) (hs : s.length = 8) (hw : w.length = 64) (i : Nat) (hi : i < 64) : envOf (s ++ w ++ t) (8 + i) = w.getD i 0 := by
  simp only [envOf, List.getD_eq_getElem?_getD]
  rw [List.getElem?_append_left (by simp [hs, hw]; omega), List.getElem?_append_right (by omega)]
  congr 2
  omega
theorem env_s (s w t : List Nat) (hs : s.length = 8) (i : Nat) (hi : i < 8) : envOf (s ++ w ++ t) i = s.getD i 0 := by
  simp only [envOf, List.getD_eq_getElem?_getD]
  rw [List.append_assoc, List.getElem?_append_left (by omega)]
theorem track_rounds (B : Nat -> Nat) {s w : List Nat} (hs : s.length = 8) (hw : w.length = 64) : ∀ (m i : Nat) (t : W8), i + m = 64 -> track B (s ++ w ++ listN t) (adXs m i) = s ++ w ++ listN (roundsN (shaK.drop i) (w.drop i) t) := by
  intro m
  induction m with
  | zero =>
    intro i t hi
    have : i = 64 := by omega
    subst this
    rw [List.drop_of_length_le (by omega : w.length <= 64)]
    simp only [adXs, track]
    cases shaK.drop 64 <;> rfl
  | succ m ih =>
    intro i t hi
    have hk : shaK.length = 64 := rfl
    have hki : i < shaK.length := by omega
    have hwi : i < w.length := by omega
    rw [List.drop_eq_getElem_cons hki, List.drop_eq_getElem_cons hwi]
    have hm : (adRound (shaK.getD i 0) i).map (nden (envOf (s ++ w ++ listN t)) B) = s ++ w ++ listN (stepN shaK[i] w[i] t) := by
      have h1 : (varsTo 72).map (nden (envOf (s ++ w ++ listN t)) B) = s ++ w := by
        have := envOf_map B (s ++ w) (listN t)
        rwa [show (s ++ w).length = 72 by simp [hs, hw]] at this
      have v0 : envOf (s ++ w ++ listN t) 72 = t.a := env_get s w (listN t) hs hw 0
      have v1 : envOf (s ++ w ++ listN t) 73 = t.b := env_get s w (listN t) hs hw 1
      have v2 : envOf (s ++ w ++ listN t) 74 = t.c := env_get s w (listN t) hs hw 2
      have v3 : envOf (s ++ w ++ listN t) 75 = t.d := env_get s w (listN t) hs hw 3
      have v4 : envOf (s ++ w ++ listN t) 76 = t.e := env_get s w (listN t) hs hw 4
      have v5 : envOf (s ++ w ++ listN t) 77 = t.f := env_get s w (listN t) hs hw 5
      have v6 : envOf (s ++ w ++ listN t) 78 = t.g := env_get s w (listN t) hs hw 6
      have v7 : envOf (s ++ w ++ listN t) 79 = t.h := env_get s w (listN t) hs hw 7
      have vw := env_w s w (listN t) hs hw i (by omega)
      have hk' : shaK.getD i 0 = shaK[i] := by simp [List.getD_eq_getElem?_getD, List.getElem?_eq_getElem hki]
      have hw' : w.getD i 0 = w[i] := by simp [List.getD_eq_getElem?_getD, List.getElem?_eq_getElem hwi]
      rw [adRound, List.map_append, h1, hk']
      congr 1
      simp only [List.map_cons, List.map_nil]
      have hx : nden (envOf (s ++ w ++ listN t)) B (adx shaK[i] i) = xN shaK[i] w[i] t.e t.f t.g t.h := by
        rw [nden_adx]
        rw [vw, hw', v4, v5, v6, v7]
      have hy : nden (envOf (s ++ w ++ listN t)) B ady = yN t.a t.b t.c := by
        rw [nden_ady]
        rw [v0, v1, v2]
      have ha : ∀ a b : IE, nden (envOf (s ++ w ++ listN t)) B (b32 .add a b) = addN (nden (envOf (s ++ w ++ listN t)) B a) (nden (envOf (s ++ w ++ listN t)) B b) := fun _ _ => rfl
      have hv : ∀ j, nden (envOf (s ++ w ++ listN t)) B (.var j) = envOf (s ++ w ++ listN t) j := fun _ => rfl
      simp only [ha, hx, hy, hv]
      simp only [v0, v1, v2, v3, v4, v5, v6]
      rfl
    simp only [adXs, track, hm, roundsN]
    exact ih (i + 1) _ (by omega)
end Go.Proofs.YtjinjfblilacaaaGreat.Den
end
section
set_option linter.unusedSimpArgs false
set_option maxRecDepth 100000
namespace Go.Proofs.YtjinjfblilacaaaGreat.Den
open Go.RowKit
/-! ### the end -/
theorem adLast_step (B : Nat -> Nat) {s w t : List Nat} (hs : s.length = 8) (hw : w.length = 64) (c : Nat) : (adLast c).map (nden (envOf (s ++ w ++ t)) B) = s ++ w ++ (List.range 8).map fun j => bif Nat.beq j c then addN (t.getD j 0) (s.getD j 0) else t.getD j 0 := by
  have h1 : (varsTo 72).map (nden (envOf (s ++ w ++ t)) B) = s ++ w := by
    have := envOf_map B (s ++ w) t
    rwa [show (s ++ w).length = 72 by simp [hs, hw]] at this
  rw [adLast, List.map_append, h1, List.map_map]
  congr 1
  apply List.map_congr_left
  intro j hj
  have hj := List.mem_range.1 hj
  simp only [Function.comp]
  cases Nat.beq j c with
  | true =>
    show addN (envOf (s ++ w ++ t) (72 + j)) (envOf (s ++ w ++ t) j) = _
    rw [env_get s w t hs hw, env_s s w t hs j hj]; rfl
  | false =>
    show envOf (s ++ w ++ t) (72 + j) = _
    rw [env_get s w t hs hw]; rfl
def addW (s t : W8) : List Nat := [addN t.a s.a, addN t.b s.b, addN t.c s.c, addN t.d s.d, addN t.e s.e, addN t.f s.f, addN t.g s.g, addN t.h s.h]
theorem track_end (B : Nat -> Nat) {w : List Nat} (hw : w.length = 64) (s t : W8) : track B (listN s ++ w ++ listN t) adEnd = listN s ++ w ++ addW s t := by
  have h0 : track B (listN s ++ w ++ listN t) [varsTo 80] = listN s ++ w ++ listN t := by
    have := envOf_map B (listN s ++ w ++ listN t) []
    rw [List.append_nil, show (listN s ++ w ++ listN t).length = 80 by simp [hw, listN]] at this
    exact this
  have hs : (listN s).length = 8 := rfl
  unfold adEnd
  rw [track_append, h0]
  show track B _ [adLast 0, adLast 1, adLast 2, adLast 3, adLast 4, adLast 5, adLast 6, adLast 7] = _
  simp only [track, adLast_step B hs hw]
  rfl
/-! ### as values -/
def vU (k : IntKind) (l : List Nat) : List Value := l.map fun (n : Nat) => Value.int k (Int.ofNat n)
theorem rel_var {ρ : Vals} {ν : Nat -> Option Name} (k : IntKind) (g N : Nat -> Nat) : ∀ l : List Nat, (∀ j ∈ l, ρ.i (g j) = (N j : Int)) -> SRels ρ ν (l.map fun j => .int k (.var (g j))) (vcells (vU k (l.map N)))
  | [], _ => .nil
  | j :: l, h => by
    have h0 := h j (by simp)
    refine .cons ?_ (rel_var k g N l fun i hi => h i (List.mem_cons_of_mem _ hi))
    show SRel ρ ν (.int k (.var (g j))) (.val (.int k (Int.ofNat (N j))))
    rw [show Int.ofNat (N j) = ρ.i (g j) from h0.symm]
    exact .int k (.var (g j))
theorem rel_byte {ρ : Vals} {ν : Nat -> Option Name} (k : IntKind) (N : Nat -> Nat) : ∀ l : List Nat, (∀ j ∈ l, (ρ.b j).toNat = N j) -> SRels ρ ν (l.map fun j => .int k (.byte j)) (vcells (vU k (l.map N)))
  | [], _ => .nil
  | j :: l, h => by
    have h0 := h j (by simp)
    refine .cons ?_ (rel_byte k N l fun i hi => h i (List.mem_cons_of_mem _ hi))
    show SRel ρ ν (.int k (.byte j)) (.val (.int k (Int.ofNat (N j))))
    rw [<- h0]
    exact .int k (.byte j)
/-! ### spread -/
/-- The words of a piece. -/
def spN (B : Nat -> Nat) : List Nat := track B [] spX
theorem spN_length (B : Nat -> Nat) : (spN B).length = 64 := by
  rw [spN, sp_words, grow_length, grow_length]; rfl
def bytesV (B : Nat -> Nat) : List Value := vU .u8 ((List.range 64).map B)
theorem piece_rel {ρ : Vals} {ν : Nat -> Option Name} {B : Nat -> Nat} (hB : ∀ j, (ρ.b j).toNat = B j) : SRels ρ ν pieceS (vcells (bytesV B)) :=
  rel_byte .u8 B (List.range 64) fun j _ => hB j
theorem map_envOf (l : List Nat) : (List.range l.length).map (envOf l) = l := by
  apply List.ext_getElem
  · simp
  · intro i h1 h2; simp [envOf, List.getD_eq_getElem?_getD, List.getElem?_eq_getElem h2]
theorem spread_pure (ρ : Vals) {B : Nat -> Nat} (hB : ∀ j, (ρ.b j).toNat = B j) : isGo Tryz.prog 409 = true /\ (∀ j, envOf (spN B) j < 4294967296) /\
    ∀ (I : Imm) (w : World) (vs : Array Value), VRels noS I [.im true 64 (vcells (bytesV B))] vs.toList -> (∀ m b c, I m b = some c -> ∃ el fr, w.heap[b]? = some (.cells c el fr)) ->
      Calls Tryz.prog 409 vs w fun e w' => ∃ v σ' I', e = .returned v /\ Below w.heap.size w w' /\ VRel σ' I' (.agg (vcells (vU .u32 (spN B)))) v := by
  let ρ₁ : Vals := ⟨fun _ => 0, ρ.b, ρ.f⟩
  obtain ⟨hgo, l, Θ, hc, hrun⟩ := ychk_ok (ρ := ρ₁) (callN_ok ρ₁) callN_ok sp_run
  simp only [spChk, Bool.and_eq_true] at hc
  obtain ⟨⟨hl, hok⟩, htr⟩ := hc
  have hl := SV.beqs_eq hl
  subst hl
  have hns : NS ρ₁ (fun _ => 0) B := ⟨fun j => ⟨rfl, by decide⟩, hB⟩
  have hsub := NS.subs Θ ρ₁ _ hns hok
  have htrk := track_ok (B := B) Θ spX 0 (fun _ => 0) [] htr rfl (fun j hj => by omega)
  have hlen : (track B [] spX).length = 64 := spN_length B
  have hlt : ∀ j, envOf (spN B) j < 4294967296 := by
    intro j
    by_cases hj : j < 64
    · have h1 := htrk j (by omega)
      have h2 := (hsub.i j).2
      rw [h1] at h2
      exact h2
    · have : envOf (spN B) j = 0 := by simp [envOf, List.getD_eq_getElem?_getD, List.getElem?_eq_none (show (spN B).length <= j by rw [spN_length]; omega)]
      rw [this]; decide
  refine ⟨hgo, hlt, fun I w vs hv hI => ?_⟩
  obtain ⟨ν', ys, h1, h2⟩ := hrun [.im true 64 (vcells (bytesV B))] (.cons (.im (piece_rel hB)) .nil)
  have hwords : SRels (ρ₁.subs Θ) ν' (wordsS 64) (vcells (vU .u32 (spN B))) := by
    have h3 := rel_var (ρ := ρ₁.subs Θ) (ν := ν') .u32 (fun j => j) (envOf (spN B)) (List.range 64) (fun j hj => by
      have hj := List.mem_range.1 hj
      have := (hsub.i j).1
      rw [htrk j (by omega)] at this
      exact this)
    have h4 : (List.range 64).map (envOf (spN B)) = spN B := by
      have := map_envOf (spN B)
      rwa [spN_length] at this
    rw [h4] at h3
    have h5 : wordsS 64 = (List.range 64).map fun j => SV.int .u32 (.var j) := by simp [wordsS, varsTo, List.map_map, Function.comp]
    rw [h5]
    exact h3
  have hys : ys = [.agg (vcells (vU .u32 (spN B)))] := SRels.one h1 (.cons (.agg hwords) .nil)
  rw [hys] at h2
  exact h2 I w vs hv hI
/-- A slice of plain bytes: it is as one that nobody writes. -/
theorem spread_sim (ρ : Vals) {B : Nat -> Nat} (hB : ∀ j, (ρ.b j).toNat = B j) (nm : Name) (H : AHeap) : Sim Tryz.prog 409 [.im true 64 (vcells (bytesV B))] nm H (.agg (vcells (vU .u32 (spN B)))) H := by
  intro σ I w vs _ hv hr
  have hv' : VRels noS (allI w) [.im true 64 (vcells (bytesV B))] vs.toList := by
    generalize vs.toList = l at hv
    cases hv with
    | cons h t =>
      cases t
      exact .cons (src_im hr h (k := 64) (sz := 1) (by decide) (by simp [srcCells, vcells, bytesV, vU]) (by simp [bytesV, vU]) (.inr ⟨_, _, _, rfl⟩)) .nil
  refine ((spread_pure ρ hB).2.2 (allI w) w vs hv' (allI_ok w)).mono ?_
  rintro e w' ⟨v, σ', I', rfl, hb, hr'⟩
  exact ⟨v, σ, I, rfl, Step.below hr hb, agg_any hr'⟩
theorem callS_ok (ρ : Vals) {B : Nat -> Nat} (hB : ∀ j, (ρ.b j).toNat = B j) (hi : ∀ j, j < 64 -> ρ.i (100 + j) = (envOf (spN B) j : Int)) : SCallOK Tryz.prog ρ callS := by
  intro f args h r h' hc
  unfold callS at hc
  cases hf : Nat.beq f 409 with
  | false => rw [hf] at hc; exact callN_ok ρ f args h r h' hc
  | true =>
    rw [hf] at hc
    have hf := Nat.eq_of_beq_eq_true hf
    subst hf
    simp only [cond_true, ospr] at hc
    cases ha : SV.beqs args [.im true 64 pieceS] with
    | false => rw [ha] at hc; cases hc
    | true =>
      rw [ha] at hc
      have ha := SV.beqs_eq ha
      subst ha
      simp only [cond_true, Option.some.injEq, Prod.mk.injEq] at hc
      obtain ⟨rfl, rfl⟩ := hc
      refine ⟨(spread_pure ρ hB).1, fun ν H nm xs hm hfre hxs => ?_⟩
      have hx : xs = [.im true 64 (vcells (bytesV B))] := SRels.one hxs (.cons (.im (piece_rel hB)) .nil)
      subst hx
      refine ⟨.agg (vcells (vU .u32 (spN B))), H, spread_sim ρ hB nm H, .same hm (.agg ?_)⟩
      have h3 := rel_var (ρ := ρ) (ν := ν) .u32 (fun j => 100 + j) (envOf (spN B)) (List.range 64) (fun j hj => hi j (List.mem_range.1 hj))
      have h4 : (List.range 64).map (envOf (spN B)) = spN B := by
        have := map_envOf (spN B)
        rwa [spN_length] at this
      rw [h4] at h3
      exact h3
/-! ### add -/
def addFast (s : List Nat) (bs : List Nat) : List Nat :=
  match s with
  | [a, b, c, d, e, f, g, h] => forceL (wordsN bs) fun w => addW ⟨a, b, c, d, e, f, g, h⟩ (roundsN shaK w ⟨a, b, c, d, e, f, g, h⟩)
  | _ => []
theorem forceL_eq {α : Type} : ∀ (l : List Nat) (k : List Nat -> α), forceL l k = k l
  | [], _ => rfl
  | x :: l, k => by simp only [forceL, forceN_eq, forceL_eq l]
theorem add_pure {s bs : List Nat} (hs : s.length = 8) (hs' : ∀ x ∈ s, x < 4294967296) (hb : bs.length = 64) (hb' : ∀ x ∈ bs, x < 256) (I : Imm) (w : World) (vs : Array Value)
    (hv : VRels noS I [.agg (vcells (vU .u32 s)), .im true 64 (vcells (vU .u8 bs))] vs.toList) (hI : ∀ m b c, I m b = some c -> ∃ el fr, w.heap[b]? = some (.cells c el fr)) :
    Calls Tryz.prog 368 vs w fun e w' => ∃ v σ' I', e = .returned v /\ Below w.heap.size w w' /\ VRel σ' I' (.agg (vcells (vU .u32 (addFast s bs)))) v := by
  match s, hs with
  | [a, b, c, d, e, f, g, h], _ =>
  let B : Nat -> Nat := fun j => bs.getD j 0
  have hBlt : ∀ j, B j < 256 := by
    intro j
    by_cases hj : j < bs.length
    · have : B j = bs[j] := by simp [B, List.getD_eq_getElem?_getD, List.getElem?_eq_getElem hj]
      rw [this]; exact hb' _ (List.getElem_mem hj)
    · have : B j = 0 := by simp [B, List.getD_eq_getElem?_getD, List.getElem?_eq_none (Nat.le_of_not_lt hj)]
      rw [this]; decide
  let N : Nat -> Nat := fun j => if j < 8 then [a, b, c, d, e, f, g, h].getD j 0 else if 100 <= j /\ j < 164 then envOf (spN B) (j - 100) else 0
  let ρ : Vals := ⟨fun j => (N j : Int), fun j => UInt8.ofNat (B j), fun _ _ _ => 0⟩
  have hB : ∀ j, (ρ.b j).toNat = B j := by
    intro j
    show (UInt8.ofNat (B j)).toNat = B j
    have := hBlt j
    simp [UInt8.toNat_ofNat']
    omega
  have hsp := spread_pure ρ hB
  have hN : NS ρ N B := ⟨fun j => ⟨rfl, by
    show N j < 4294967296
    simp only [N]
    split
    · rename_i hj
      have hj' : j < [a, b, c, d, e, f, g, h].length := hj
      rw [List.getD_eq_getElem?_getD, List.getElem?_eq_getElem hj', Option.getD_some]
      exact hs' _ (List.getElem_mem hj')
    · split
      · exact hsp.2.1 _
      · decide⟩, hB⟩
  have hS : SCallOK Tryz.prog ρ callS := callS_ok ρ hB fun j hj => by
    show (N (100 + j) : Int) = _
    simp only [N]
    rw [if_neg (by omega), if_pos ⟨by omega, by omega⟩]
    rw [show 100 + j - 100 = j by omega]
  obtain ⟨Θ, g1, g2, g3⟩ := add_calls hS
  have hbytes : (List.range 64).map B = bs := by
    have := map_envOf bs
    rw [hb] at this
    exact this
  have hbv : bytesV B = vU .u8 bs := by rw [bytesV, hbytes]
  have hw8 : SRels ρ noN (wordsS 8) (vcells (vU .u32 [a, b, c, d, e, f, g, h])) := by
    have h3 := rel_var (ρ := ρ) (ν := noN) .u32 (fun j => j) (fun j => [a, b, c, d, e, f, g, h].getD j 0) (List.range 8) (fun j hj => by
      have hj := List.mem_range.1 hj
      show (N j : Int) = _
      simp only [N]
      rw [if_pos hj])
    exact h3
  obtain ⟨ν', ys, y1, y2⟩ := g3 [.agg (vcells (vU .u32 [a, b, c, d, e, f, g, h])), .im true 64 (vcells (vU .u8 bs))] (.cons (.agg hw8) (.cons (.im (by rw [<- hbv]; exact piece_rel hB)) .nil))
  have hns := NS.subs Θ ρ N hN g1
  let env : List Nat := (List.range 164).map N
  have hel : env.length = 164 := by simp [env]
  have htrk := track_ok (B := B) Θ adX 164 N env g2 hel (fun j hj => by simp [env, envOf, List.getD_eq_getElem?_getD, List.getElem?_map, List.getElem?_range hj])
  have hspw : wordsN bs = spN B := wordsN_eq hb fun j _ => rfl
  have hfin : track B env adX = [a, b, c, d, e, f, g, h] ++ spN B ++ addFast [a, b, c, d, e, f, g, h] bs := by
    unfold adX
    rw [track_append, track_append]
    have h1 : track B env [adFirst] = listN ⟨a, b, c, d, e, f, g, h⟩ ++ spN B ++ listN ⟨a, b, c, d, e, f, g, h⟩ := by
      have key : ∀ j, j < 164 -> envOf env j = N j := fun j hj => by simp [env, envOf, List.getD_eq_getElem?_getD, List.getElem?_map, List.getElem?_range hj]
      have k8 : (varsTo 8).map (nden (envOf env) B) = [a, b, c, d, e, f, g, h] := by
        show [envOf env 0, envOf env 1, envOf env 2, envOf env 3, envOf env 4, envOf env 5, envOf env 6, envOf env 7] = _
        rw [key 0 (by decide), key 1 (by decide), key 2 (by decide), key 3 (by decide), key 4 (by decide), key 5 (by decide), key 6 (by decide), key 7 (by decide)]
        rfl
      have kw : ((List.range 64).map fun j => IE.var (100 + j)).map (nden (envOf env) B) = spN B := by
        rw [List.map_map]
        have hm := map_envOf (spN B)
        rw [spN_length] at hm
        rw [<- hm]
        apply List.map_congr_left
        intro j hj
        have hj := List.mem_range.1 hj
        show envOf env (100 + j) = _
        rw [key _ (by omega)]
        simp only [N]
        rw [if_neg (by omega), if_pos ⟨by omega, by omega⟩, show 100 + j - 100 = j by omega]
      simp only [track, adFirst, List.map_append, k8, kw, listN]
    rw [h1, track_rounds B (s := listN ⟨a, b, c, d, e, f, g, h⟩) rfl (spN_length B) 64 0 ⟨a, b, c, d, e, f, g, h⟩ rfl, track_end B (spN_length B)]
    simp only [List.drop_zero, addFast, forceL_eq, hspw]
    rfl
  have hres : SRels (ρ.subs Θ) ν' adRes [.agg (vcells (vU .u32 (addFast [a, b, c, d, e, f, g, h] bs)))] := by
    have hlen8 : (addFast [a, b, c, d, e, f, g, h] bs).length = 8 := by simp only [addFast, forceL_eq]; rfl
    have h3 := rel_var (ρ := ρ.subs Θ) (ν := ν') .u32 (fun j => 72 + j) (envOf (addFast [a, b, c, d, e, f, g, h] bs)) (List.range 8) (fun j hj => by
      have hj := List.mem_range.1 hj
      have := (hns.i (72 + j)).1
      rw [htrk (72 + j) (by rw [hfin]; simp [spN_length, hlen8]; omega), hfin, env_get _ _ _ rfl (spN_length B)] at this
      exact this)
    have h4 : (List.range 8).map (envOf (addFast [a, b, c, d, e, f, g, h] bs)) = addFast [a, b, c, d, e, f, g, h] bs := by
      have := map_envOf (addFast [a, b, c, d, e, f, g, h] bs)
      rwa [hlen8] at this
    rw [h4] at h3
    exact .cons (.agg h3) .nil
  have hys := SRels.one y1 hres
  subst hys
  exact y2 I w vs hv hI
end Go.Proofs.YtjinjfblilacaaaGreat.Den
end
section
set_option linter.unusedSimpArgs false
set_option linter.unusedVariables false
set_option maxRecDepth 100000
namespace Go.Proofs.YtjinjfblilacaaaGreat.Den
open Go.RowKit
attribute [local simp] runList aop abuiltin acall awanted ayielded env T0 tput tset Ran aload astore setMany upd binV aslice aindexAddr apart aindex alen acopy srcCells natOf boundOf aeq AV.nilEq convV appK fillA List.range List.range.loop onF isU8 rowOf
def ws (l : List Nat) : List AV := vcells (vU .u32 l)
@[simp] theorem ws_length (l : List Nat) : (ws l).length = l.length := by simp [ws, vcells, vU]
@[simp] theorem ws_getElem (l : List Nat) (n : Nat) (h : n < (ws l).length) : (ws l)[n] = .val (.int .u32 ((l[n]'(by simpa using h) : Nat) : Int)) := by simp [ws, vcells, vU]
theorem bs_vcells (l : List UInt8) : bs l = vcells (vU .u8 (l.map UInt8.toNat)) := by
  simp [bs, vcells, vU]
def begunL : List Nat := [1779033703, 3144134277, 1013904242, 2773480762, 1359893119, 2600822924, 528734635, 1541459225]
def begunS : Spec := fun args nm H =>
  match args with
  | [] => some (.agg (ws begunL), H)
  | _ => none
set_option maxHeartbeats 400000 in
theorem begun_ok : FnOK Tryz.prog 366 begunS := by
  refine ⟨by kernel_rfl, fun args nm H r H' h => ?_⟩
  have hcall := @noCall_ok Tryz.prog
  unfold begunS at h
  split at h
  · cases h
    refine sim_go Tryz.func366 rfl rfl (Nat.le_of_ble_eq_true rfl) fun hH => ?_
    (repeat refine AWP.seq ?_)
    refine AWP.region_last hcall rfl fun K hK => ?_
    simp
    apply hK; clear hK K; simp only [onNormal, onExit]
    (repeat refine AWP.seq ?_)
    refine AWP.region_last hcall rfl fun K hK => ?_
    simp [ws, begunL, vcells, vU]
    apply hK; clear hK K; simp only [onNormal, onExit]
    (try refine AWP.ret ?_); (try simp only [onNormal, onExit]); refine ⟨by simp, ⟨[_], by simp [ares, Tryz.results366, ws, begunL, vcells, vU], rfl⟩, fun k row hk => ?_⟩
    refine SubL.out ?_ k row hk; repeat (first | exact SubL.id | refine SubL.set ?_ | refine SubL.gone ?_ | (refine SubL.ex ?_ ?_; · simp; done) | refine SubL.fresh (hH [_]) ?_ | refine SubL.fresh (hH [_, _]) ?_ | (refine SubL.fresh (upd_none (hH [_]) ?_) ?_; · simp; done) | (refine SubL.fresh (upd_none (hH [_, _]) ?_) ?_; · simp; done))
  · cases h
def wordsA : List AV -> Option (List Nat)
  | [] => some []
  | .val (.int .u32 n) :: r => if 0 <= n /\ n < 4294967296 then (wordsA r).map (n.toNat :: ·) else none
  | _ => none
theorem wordsA_some : ∀ {c : List AV} {l : List Nat}, wordsA c = some l -> c = ws l /\ ∀ x ∈ l, x < 4294967296
  | [], l, h => by cases h; exact ⟨rfl, fun x hx => by cases hx⟩
  | a :: r, l, h => by
    unfold wordsA at h
    split at h
    · rename_i e; cases e
    · rename_i n r' e
      injection e with e1 e2
      subst e1 e2
      split at h
      · rename_i hn
        simp only [Option.map_eq_some_iff] at h
        obtain ⟨l', h1, rfl⟩ := h
        obtain ⟨h2, h3⟩ := wordsA_some h1
        obtain ⟨m, rfl⟩ := Int.eq_ofNat_of_zero_le hn.1
        refine ⟨?_, fun x hx => ?_⟩
        · rw [h2]; rfl
        · rcases List.mem_cons.1 hx with rfl | hx
          · omega
          · exact h3 x hx
      · cases h
    · cases h
theorem wordsA_ws : ∀ {l : List Nat}, (∀ x ∈ l, x < 4294967296) -> wordsA (ws l) = some l
  | [], _ => rfl
  | a :: l, h => by
    have h1 := h a (by simp)
    show (if 0 <= Int.ofNat a /\ Int.ofNat a < 4294967296 then (wordsA (ws l)).map ((Int.ofNat a).toNat :: ·) else none) = _
    rw [if_pos ⟨Int.natCast_nonneg _, by show (a : Int) < _; omega⟩, wordsA_ws fun x hx => h x (List.mem_cons_of_mem _ hx)]
    rfl
/-- One piece more. -/
def addS : Spec := fun args nm H =>
  match args with
  | [.agg s, x] =>
    match wordsA s, partC H 1 x with
    | some t, some (k, cells) => if t.length = 8 /\ k = 64 then (bytesA cells).map fun l => (.agg (ws (addFast t (l.map UInt8.toNat))), H) else none
    | _, _ => none
  | _ => none
theorem add_ok : FnOK Tryz.prog 368 addS := by
  refine ⟨by kernel_rfl, fun args nm H r H' h => ?_⟩
  unfold addS at h
  split at h
  · rename_i s x
    split at h
    · rename_i t k cells h1 h2
      split at h
      · rename_i hc
        obtain ⟨h3, rfl⟩ := hc
        simp only [Option.map_eq_some_iff] at h
        obtain ⟨l, h4, h5⟩ := h
        cases h5
        obtain ⟨rfl, h6⟩ := wordsA_some h1
        obtain rfl := bytesA_some h4
        have hll : l.length = 64 := by have := part_length h2; simpa using this
        intro σ I w vs _ hv har
        have hsrc : srcCells H 1 x = some (64, vcells (vU .u8 (l.map UInt8.toNat))) := by rw [<- bs_vcells]; exact part_src h2
        have hyk : (∃ n o len z, x = .sl n o len z) \/ ∃ m len c, x = .im m len c := by
          unfold partC at h2
          split at h2
          · cases h2
          · exact .inl ⟨_, _, _, _, rfl⟩
          · exact .inr ⟨_, _, _, rfl⟩
          · cases h2
        have hv' : VRels noS (allI w) [.agg (vcells (vU .u32 t)), .im true 64 (vcells (vU .u8 (l.map UInt8.toNat)))] vs.toList := by
          generalize vs.toList = l' at hv
          cases hv with
          | cons h1 t' =>
            cases t' with
            | cons h2 t' =>
              cases t'
              exact .cons (agg_any h1) (.cons (src_im har h2 (k := 64) (sz := 1) (by decide) hsrc (by simp [vU, hll]) hyk) .nil)
        refine (add_pure h3 h6 (by simpa using hll) (fun y hy => ?_) (allI w) w vs hv' (allI_ok w)).mono ?_
        · obtain ⟨b, _, rfl⟩ := List.mem_map.1 hy
          exact b.toNat_lt
        · rintro e w' ⟨v, σ', I', rfl, hb, hr'⟩
          exact ⟨v, σ, I, rfl, Step.below har hb, agg_any hr'⟩
      · cases h
    · cases h
  · cases h
theorem addFast_ok {t : List Nat} (ht : t.length = 8) (b : List Nat) : (addFast t b).length = 8 /\ ∀ x ∈ addFast t b, x < 4294967296 := by
  match t, ht with
  | [a, b', c, d, e, f, g, h], _ =>
    unfold addFast
    simp only [forceL_eq]
    refine ⟨rfl, fun x hx => ?_⟩
    simp only [addW, List.mem_cons, List.not_mem_nil, or_false] at hx
    have hlt : ∀ u v, addN u v < 4294967296 := fun u v => Nat.mod_lt _ (by decide)
    rcases hx with rfl | rfl | rfl | rfl | rfl | rfl | rfl | rfl <;> exact hlt _ _
/-! ### padding -/
def padZ (n : Nat) : Nat := (119 - n % 64) % 64
def be8 (n : Nat) : List UInt8 := (List.range 8).map fun i => UInt8.ofNat (n / 256 ^ (7 - i))
def padOf (l : List UInt8) : List UInt8 := l ++ [0x80] ++ List.replicate (padZ l.length) 0 ++ be8 (8 * l.length)
theorem padZ_spec (n : Nat) : (n + 1 + padZ n) % 64 = 56 := by unfold padZ; omega
theorem padZ_least (n i : Nat) (h : i < padZ n) : (n + 1 + i) % 64 ≠ 56 := by unfold padZ at h; omega
theorem padOf_length (l : List UInt8) : (padOf l).length = l.length + 1 + padZ l.length + 8 := by
  simp only [padOf, be8, List.length_append, List.length_map, List.length_range, List.length_replicate, List.length_singleton]
theorem be8_wrap (n i : Nat) (hn : n < 18446744073709551616) (hi : i < 8) : IntKind.u8.wrap (((n : Nat) : Int).fdiv (2 ^ min (56 - 8 * (i : Int)).toNat IntKind.u64.bits)) = ((UInt8.ofNat (n / 256 ^ (7 - i))).toNat : Int) := by
  have e0 : (56 - 8 * (i : Int)).toNat = 8 * (7 - i) := by omega
  have e1 : min (8 * (7 - i)) IntKind.u64.bits = 8 * (7 - i) := Nat.min_eq_left (by show 8 * (7 - i) <= 64; omega)
  have hd : ((n : Nat) : Int).fdiv (2 ^ min (56 - 8 * (i : Int)).toNat IntKind.u64.bits) = ((n / 256 ^ (7 - i) : Nat) : Int) := by
    rw [e0, e1, Int.fdiv_eq_ediv_of_nonneg _ (Int.le_of_lt (Int.pow_pos (by decide)))]
    push_cast
    congr 1
    rw [Int.pow_mul]; rfl
  rw [hd, lenB1]
def padS : Spec := fun args nm H =>
  match args with
  | [.sl q 0 n 1] =>
    match H q with
    | some row =>
      match bytesA row with
      | some l => if l.length = n /\ n <= 1099511627776 then some (.sl nm 0 (n + 1 + padZ n + 8) 1, upd (upd H q none) nm (some (bs (padOf l)))) else none
      | none => none
    | none => none
  | _ => none
def padI (l : List UInt8) (i : Nat) : List UInt8 := l ++ [0x80] ++ List.replicate i 0
theorem padI_length (l : List UInt8) (i : Nat) : (padI l i).length = l.length + 1 + i := by simp only [padI, List.length_append, List.length_singleton, List.length_replicate]
theorem padI_succ (l : List UInt8) (i : Nat) : bs (padI l (i + 1)) = bs (padI l i) ++ [.val (.int .u8 0)] := by
  rw [padI, List.replicate_succ', <- List.append_assoc, <- bs_append]; rfl
theorem padI_zero (l : List UInt8) : bs (padI l 0) = bs l ++ [.val (.int .u8 128)] := by
  rw [padI, List.replicate_zero, List.append_nil, <- bs_append]; rfl
def be8p (n i : Nat) : List UInt8 := (List.range i).map fun i => UInt8.ofNat (n / 256 ^ (7 - i))
theorem be8p_succ (n i : Nat) : bs (be8p n (i + 1)) = bs (be8p n i) ++ [.val (.int .u8 ((UInt8.ofNat (n / 256 ^ (7 - i))).toNat : Int))] := by
  rw [be8p, List.range_succ, List.map_append, <- bs_append]; rfl
theorem be8p_length (n i : Nat) : (be8p n i).length = i := by rw [be8p, List.length_map, List.length_range]
set_option maxHeartbeats 1000000 in
theorem padded_ok : FnOK Tryz.prog 367 padS := by
  refine ⟨by kernel_rfl, fun args nm H r H' h => ?_⟩
  have hcall := @noCall_ok Tryz.prog
  unfold padS at h
  split at h
  · rename_i q n
    split at h
    · rename_i row hq
      split at h
      · rename_i l hl
        split at h
        · rename_i hc
          cases h
          obtain ⟨rfl, hn⟩ := hc
          obtain rfl := bytesA_some hl
          have hB : ∀ k r, upd H q none k = some r -> H k = some r := fun k r hk => by
            by_cases e : k = q
            · subst e; rw [upd_same] at hk; cases hk
            · rwa [upd_ne _ _ e] at hk
          refine sim_rowB Tryz.func367 rfl rfl (Nat.le_of_ble_eq_true rfl) hB fun hH => ?_
          generalize hB0 : upd H q none = B at *
          have hBn : ∀ s, B (s ++ 0 :: nm) = none := fun s => by
            cases e : B (s ++ 0 :: nm) with
            | none => rfl
            | some r => have := hB _ _ e; rw [hH] at this; cases this
          obtain ⟨N, hN⟩ : ∃ N, N = 8 * l.length := ⟨_, rfl⟩
          have hpo : bs (padOf l) = bs (padI l (padZ l.length)) ++ bs (be8p N 8) := by
            rw [bs_append, hN]; rfl
          have hw7 : IntKind.u64.wrap (IntKind.u64.wrap (l.length : Int) * 8) = (N : Int) := by simp only [IntKind.wrap_u64]; omega
          rw [hpo]
          (repeat refine AWP.seq ?_)
          refine AWP.region_last hcall rfl fun K hK => ?_
          simp
          apply hK; clear hK K; simp only [onNormal, onExit]
          (repeat refine AWP.seq ?_)
          refine AWP.scope 0 (fun m c' T H2 => ∃ i q', i <= padZ l.length /\ m = padZ l.length - i /\ T 3 = .val (.int .u64 (N : Int)) /\ T 0 = .sl q' 0 (l.length + 1 + i) 1 /\ B q' = none /\ H2 q' = some (bs (padI l i)) /\ (∀ a r, B a = some r -> H2 a = some r)) rfl ?_ ?_
          · have hb1 : l.length + 1 <= 140737488355328 := by omega
            have htk : (bs l).take l.length = bs l := List.take_of_length_le (by rw [bs_length]; omega)
            have hq5 : q ≠ 7 :: 0 :: nm := by rintro rfl; have := hH [7]; simp only [List.singleton_append] at this; rw [hq] at this; cases this
            (repeat refine AWP.seq ?_)
            refine AWP.region_last hcall rfl fun K hK => ?_
            simp [hw7]
            apply hK; clear hK K; simp only [onNormal, onExit]
            (repeat refine AWP.seq ?_)
            refine AWP.region_last hcall rfl fun K hK => ?_
            simp [hq, htk, hb1, hq5]
            apply hK; clear hK K; simp only [onNormal, onExit]
            (repeat refine AWP.seq ?_)
            refine AWP.label ?_; simp only [onNormal]
            refine AWP.gen (fun c' T H2 => ∃ i q', i <= padZ l.length /\ T 3 = .val (.int .u64 (N : Int)) /\ T 0 = .sl q' 0 (l.length + 1 + i) 1 /\ B q' = none /\ H2 q' = some (bs (padI l i)) /\ (∀ a r, B a = some r -> H2 a = some r)) ?_ ?_
            · refine ⟨0, 8 :: 0 :: nm, by omega, by simp, by simp, hBn [_], by simp [padI_zero], ?_⟩
              refine SubL.out (SubL.fresh (hBn [_]) ?_)
              rw [<- hB0]
              exact SubL.gone (SubL.ex (by simp) (SubL.fresh (hH [_]) SubL.id))
            rintro c' T H2 ⟨i, q', hi, t3, t0, hq1, hq2, hsub⟩
            refine AWP.known_fresh fun hfr => ?_
            have hlen := padI_length l i
            have htk : (bs (padI l i)).take (l.length + 1 + i) = bs (padI l i) := List.take_of_length_le (by rw [bs_length]; omega)
            have hle : l.length + 1 + i <= (padI l i).length := by omega
            have hz64 : padZ l.length < 64 := by unfold padZ; omega
            by_cases hiz : i < padZ l.length
            · have hmod : ¬ (((l.length : Int) + 1 + (i : Int)).tmod 64 = 56) := by
                have := padZ_least _ _ hiz
                rw [Int.tmod_eq_emod_of_nonneg (by omega)]; omega
              have hb1 : l.length + 1 + i + 1 <= 140737488355328 := by omega
              have hqn := ne_fresh hfr hq2 (c' + 5) (by omega)
              (repeat refine AWP.seq ?_)
              refine AWP.region_last hcall rfl fun K hK => ?_
              simp [t0]
              apply hK; clear hK K; simp only [onNormal, onExit]
              (repeat refine AWP.seq ?_); refine AWP.cond (b := true) (by simp [hmod]) ?_; simp only [if_true, if_false, Bool.false_eq_true]
              (repeat refine AWP.seq ?_)
              refine AWP.region_last hcall rfl fun K hK => ?_
              simp [t0, hq2, htk, hle, hb1, hqn]
              apply hK; clear hK K; simp only [onNormal, onExit]
              refine AWP.goto ?_; simp only [onNormal, onGoto]
              refine ⟨by trivial, padZ l.length - (i + 1), i + 1, (c' + 4 + 2) :: 0 :: nm, by omega, rfl, by simp [t3], by simp [Nat.add_assoc], hBn [_], by simp [padI_succ], ?_⟩
              exact SubL.out (SubL.fresh (hBn [_]) (SubL.fresh hq1 (SubL.fresh (hBn [_]) fun a r _ ha => hsub a r ha)))
            · obtain rfl : i = padZ l.length := by omega
              have hmod : ((l.length : Int) + 1 + (padZ l.length : Int)).tmod 64 = 56 := by
                have := padZ_spec l.length
                rw [Int.tmod_eq_emod_of_nonneg (by omega)]; omega
              (repeat refine AWP.seq ?_)
              refine AWP.region_last hcall rfl fun K hK => ?_
              simp [t0]
              apply hK; clear hK K; simp only [onNormal, onExit]
              (repeat refine AWP.seq ?_); refine AWP.cond (b := false) (by simp [hmod]) ?_; simp only [if_true, if_false, Bool.false_eq_true]
              refine AWP.skip ?_; simp only [onNormal, onExit]
              (repeat refine AWP.seq ?_)
              refine AWP.region_last hcall rfl fun K hK => ?_
              simp
              apply hK; clear hK K; simp only [onNormal, onExit]
              (repeat refine AWP.seq ?_); refine AWP.block ?_
              refine AWP.loop (fun m c T H3 => ∃ j q3, j <= 8 /\ m = 8 - j /\ T 3 = .val (.int .u64 (N : Int)) /\ T 19 = vi j /\ T 0 = .sl q3 0 (l.length + 1 + padZ l.length + j) 1 /\ B q3 = none /\ H3 q3 = some (bs (padI l (padZ l.length)) ++ bs (be8p N j)) /\ (∀ a r, B a = some r -> H3 a = some r)) 8 ⟨0, q', by omega, rfl, by simp [t3], by simp, by simp [t0], hq1, by rw [hq2]; simp [be8p, bs], hsub⟩ ?_
              rintro _ c T H3 ⟨j, q3, hj, rfl, t3, t19, t0, hq31, hq32, hsub3⟩
              by_cases hj8 : j < 8
              · refine AWP.known_fresh fun hfr3 => ?_
                have hqn := ne_fresh hfr3 hq32 (c + 3 + 7) (by omega)
                have hw1 : IntKind.i64.wrap (8 * (j : Int)) = 8 * (j : Int) := by rw [IntKind.wrap_i64]; omega
                have hw2 : IntKind.i64.wrap (56 - 8 * (j : Int)) = 56 - 8 * (j : Int) := by rw [IntKind.wrap_i64]; omega
                have hw3 : IntKind.i64.wrap ((j : Int) + 1) = ((j + 1 : Nat) : Int) := by rw [IntKind.wrap_i64]; omega
                have hzz : 8 * (j : Int) <= 56 := by omega
                have hbw := be8_wrap N j (by omega) hj8
                have hrl : (bs (padI l (padZ l.length)) ++ bs (be8p N j)).length = l.length + 1 + padZ l.length + j := by
                  rw [List.length_append, bs_length, bs_length, padI_length, be8p_length]
                have hrs : bs (padI l (padZ l.length)) ++ bs (be8p N j) ++ [.val (.int .u8 ((UInt8.ofNat (N / 256 ^ (7 - j))).toNat : Int))] = bs (padI l (padZ l.length)) ++ bs (be8p N (j + 1)) := by
                  rw [List.append_assoc, be8p_succ]
                generalize hrow : bs (padI l (padZ l.length)) ++ bs (be8p N j) = row at *
                have htk3 : row.take (l.length + 1 + padZ l.length + j) = row := List.take_of_length_le (by omega)
                have hle3 : l.length + 1 + padZ l.length + j <= row.length := by omega
                have hb3 : l.length + 1 + padZ l.length + j + 1 <= 140737488355328 := by omega
                have hj8' : (j : Int) < 8 := by omega
                (repeat refine AWP.seq ?_)
                refine AWP.region_last hcall rfl fun K hK => ?_
                simp [t19, hj8']
                apply hK; clear hK K; simp only [onNormal, onExit]
                (repeat refine AWP.seq ?_); refine AWP.cond (b := true) (by simp [hj8']) ?_; simp only [if_true, if_false, Bool.false_eq_true]
                refine AWP.skip ?_; simp only [onNormal, onExit]
                (repeat refine AWP.seq ?_); refine AWP.block ?_
                (repeat refine AWP.seq ?_)
                refine AWP.region_last hcall rfl fun K hK => ?_
                simp [t19]
                apply hK; clear hK K; simp only [onNormal, onExit]
                (repeat refine AWP.seq ?_)
                refine AWP.region_last hcall rfl fun K hK => ?_
                simp [t3, t0, hw1, hw2, hzz, hbw, hq32, htk3, hle3, hb3, hqn]
                apply hK; clear hK K; simp only [onNormal, onExit]
                (repeat refine AWP.seq ?_)
                refine AWP.region_last hcall rfl fun K hK => ?_
                simp [t19, hw3]
                apply hK; clear hK K; simp only [onNormal, onExit]
                refine ⟨8 - (j + 1), by omega, j + 1, (c + 3 + 8) :: 0 :: nm, by omega, rfl, by simp [t3], by simp, by simp [Nat.add_assoc], hBn [_], by simp [<- hrs], ?_⟩
                exact SubL.out (SubL.fresh (hBn [_]) (SubL.fresh hq31 (SubL.fresh (hBn [_]) fun a r _ ha => hsub3 a r ha)))
              · obtain rfl : j = 8 := by omega
                (repeat refine AWP.seq ?_)
                refine AWP.region_last hcall rfl fun K hK => ?_
                simp [t19]
                apply hK; clear hK K; simp only [onNormal, onExit]
                (repeat refine AWP.seq ?_); refine AWP.cond (b := false) (by simp) ?_; simp only [if_true, if_false, Bool.false_eq_true]
                refine AWP.exit ?_; simp only [onNormal, onExit, if_true, reduceCtorEq, if_false]
                (repeat refine AWP.seq ?_)
                refine AWP.region_last hcall rfl fun K hK => ?_
                simp [t0]
                apply hK; clear hK K; simp only [onNormal, onExit]
                (try refine AWP.ret ?_); (try simp only [onNormal, onExit])
                exact ⟨.inr rfl, q3, rfl, hq31, hq32, hsub3⟩
          · rintro m c' T H2 ⟨i, q', hi, rfl, t3, t0, hq1, hq2, hsub⟩
            (repeat refine AWP.seq ?_)
            refine AWP.skip ?_; simp only [onNormal]
            refine AWP.known_fresh fun hfr => ?_
            have hlen := padI_length l i
            have htk : (bs (padI l i)).take (l.length + 1 + i) = bs (padI l i) := List.take_of_length_le (by rw [bs_length]; omega)
            have hle : l.length + 1 + i <= (padI l i).length := by omega
            have hz64 : padZ l.length < 64 := by unfold padZ; omega
            by_cases hiz : i < padZ l.length
            · have hmod : ¬ (((l.length : Int) + 1 + (i : Int)).tmod 64 = 56) := by
                have := padZ_least _ _ hiz
                rw [Int.tmod_eq_emod_of_nonneg (by omega)]; omega
              have hb1 : l.length + 1 + i + 1 <= 140737488355328 := by omega
              have hqn := ne_fresh hfr hq2 (c' + 5) (by omega)
              (repeat refine AWP.seq ?_)
              refine AWP.region_last hcall rfl fun K hK => ?_
              simp [t0]
              apply hK; clear hK K; simp only [onNormal, onExit]
              (repeat refine AWP.seq ?_); refine AWP.cond (b := true) (by simp [hmod]) ?_; simp only [if_true, if_false, Bool.false_eq_true]
              (repeat refine AWP.seq ?_)
              refine AWP.region_last hcall rfl fun K hK => ?_
              simp [t0, hq2, htk, hle, hb1, hqn]
              apply hK; clear hK K; simp only [onNormal, onExit]
              refine AWP.goto ?_; simp only [onNormal, onGoto]
              refine ⟨by trivial, padZ l.length - (i + 1), by omega, i + 1, (c' + 4 + 2) :: 0 :: nm, by omega, rfl, by simp [t3], by simp [Nat.add_assoc], hBn [_], by simp [padI_succ], ?_⟩
              exact SubL.out (SubL.fresh (hBn [_]) (SubL.fresh hq1 (SubL.fresh (hBn [_]) fun a r _ ha => hsub a r ha)))
            · obtain rfl : i = padZ l.length := by omega
              have hmod : ((l.length : Int) + 1 + (padZ l.length : Int)).tmod 64 = 56 := by
                have := padZ_spec l.length
                rw [Int.tmod_eq_emod_of_nonneg (by omega)]; omega
              (repeat refine AWP.seq ?_)
              refine AWP.region_last hcall rfl fun K hK => ?_
              simp [t0]
              apply hK; clear hK K; simp only [onNormal, onExit]
              (repeat refine AWP.seq ?_); refine AWP.cond (b := false) (by simp [hmod]) ?_; simp only [if_true, if_false, Bool.false_eq_true]
              refine AWP.skip ?_; simp only [onNormal, onExit]
              (repeat refine AWP.seq ?_)
              refine AWP.region_last hcall rfl fun K hK => ?_
              simp
              apply hK; clear hK K; simp only [onNormal, onExit]
              (repeat refine AWP.seq ?_); refine AWP.block ?_
              refine AWP.loop (fun m c T H3 => ∃ j q3, j <= 8 /\ m = 8 - j /\ T 3 = .val (.int .u64 (N : Int)) /\ T 19 = vi j /\ T 0 = .sl q3 0 (l.length + 1 + padZ l.length + j) 1 /\ B q3 = none /\ H3 q3 = some (bs (padI l (padZ l.length)) ++ bs (be8p N j)) /\ (∀ a r, B a = some r -> H3 a = some r)) 8 ⟨0, q', by omega, rfl, by simp [t3], by simp, by simp [t0], hq1, by rw [hq2]; simp [be8p, bs], hsub⟩ ?_
              rintro _ c T H3 ⟨j, q3, hj, rfl, t3, t19, t0, hq31, hq32, hsub3⟩
              by_cases hj8 : j < 8
              · refine AWP.known_fresh fun hfr3 => ?_
                have hqn := ne_fresh hfr3 hq32 (c + 3 + 7) (by omega)
                have hw1 : IntKind.i64.wrap (8 * (j : Int)) = 8 * (j : Int) := by rw [IntKind.wrap_i64]; omega
                have hw2 : IntKind.i64.wrap (56 - 8 * (j : Int)) = 56 - 8 * (j : Int) := by rw [IntKind.wrap_i64]; omega
                have hw3 : IntKind.i64.wrap ((j : Int) + 1) = ((j + 1 : Nat) : Int) := by rw [IntKind.wrap_i64]; omega
                have hzz : 8 * (j : Int) <= 56 := by omega
                have hbw := be8_wrap N j (by omega) hj8
                have hrl : (bs (padI l (padZ l.length)) ++ bs (be8p N j)).length = l.length + 1 + padZ l.length + j := by
                  rw [List.length_append, bs_length, bs_length, padI_length, be8p_length]
                have hrs : bs (padI l (padZ l.length)) ++ bs (be8p N j) ++ [.val (.int .u8 ((UInt8.ofNat (N / 256 ^ (7 - j))).toNat : Int))] = bs (padI l (padZ l.length)) ++ bs (be8p N (j + 1)) := by
                  rw [List.append_assoc, be8p_succ]
                generalize hrow : bs (padI l (padZ l.length)) ++ bs (be8p N j) = row at *
                have htk3 : row.take (l.length + 1 + padZ l.length + j) = row := List.take_of_length_le (by omega)
                have hle3 : l.length + 1 + padZ l.length + j <= row.length := by omega
                have hb3 : l.length + 1 + padZ l.length + j + 1 <= 140737488355328 := by omega
                have hj8' : (j : Int) < 8 := by omega
                (repeat refine AWP.seq ?_)
                refine AWP.region_last hcall rfl fun K hK => ?_
                simp [t19, hj8']
                apply hK; clear hK K; simp only [onNormal, onExit]
                (repeat refine AWP.seq ?_); refine AWP.cond (b := true) (by simp [hj8']) ?_; simp only [if_true, if_false, Bool.false_eq_true]
                refine AWP.skip ?_; simp only [onNormal, onExit]
                (repeat refine AWP.seq ?_); refine AWP.block ?_
                (repeat refine AWP.seq ?_)
                refine AWP.region_last hcall rfl fun K hK => ?_
                simp [t19]
                apply hK; clear hK K; simp only [onNormal, onExit]
                (repeat refine AWP.seq ?_)
                refine AWP.region_last hcall rfl fun K hK => ?_
                simp [t3, t0, hw1, hw2, hzz, hbw, hq32, htk3, hle3, hb3, hqn]
                apply hK; clear hK K; simp only [onNormal, onExit]
                (repeat refine AWP.seq ?_)
                refine AWP.region_last hcall rfl fun K hK => ?_
                simp [t19, hw3]
                apply hK; clear hK K; simp only [onNormal, onExit]
                refine ⟨8 - (j + 1), by omega, j + 1, (c + 3 + 8) :: 0 :: nm, by omega, rfl, by simp [t3], by simp, by simp [Nat.add_assoc], hBn [_], by simp [<- hrs], ?_⟩
                exact SubL.out (SubL.fresh (hBn [_]) (SubL.fresh hq31 (SubL.fresh (hBn [_]) fun a r _ ha => hsub3 a r ha)))
              · obtain rfl : j = 8 := by omega
                (repeat refine AWP.seq ?_)
                refine AWP.region_last hcall rfl fun K hK => ?_
                simp [t19]
                apply hK; clear hK K; simp only [onNormal, onExit]
                (repeat refine AWP.seq ?_); refine AWP.cond (b := false) (by simp) ?_; simp only [if_true, if_false, Bool.false_eq_true]
                refine AWP.exit ?_; simp only [onNormal, onExit, if_true, reduceCtorEq, if_false]
                (repeat refine AWP.seq ?_)
                refine AWP.region_last hcall rfl fun K hK => ?_
                simp [t0]
                apply hK; clear hK K; simp only [onNormal, onExit]
                (try refine AWP.ret ?_); (try simp only [onNormal, onExit])
                exact ⟨.inr rfl, q3, rfl, hq31, hq32, hsub3⟩
        · cases h
      · cases h
    · cases h
  · cases h
/-! ### sums -/
theorem setMany_full {row vs : List AV} (h : row.length = vs.length) : setMany row 0 vs = vs := setMany_append vs [] row h
theorem ws_one (l : List Nat) : (ws l).all AV.one = true := List.all_eq_true.2 fun a ha => by
  obtain ⟨b, hb, rfl⟩ := List.mem_map.1 ha
  obtain ⟨c, _, rfl⟩ := List.mem_map.1 hb
  rfl
def addAll (t : List Nat) : Nat -> List UInt8 -> List Nat
  | 0, _ => t
  | k + 1, l => addAll (addFast t ((l.take 64).map UInt8.toNat)) k (l.drop 64)
def sumW (l : List UInt8) : List Nat := addAll begunL ((l.length + 1 + padZ l.length + 8) / 64) (padOf l)
def outB (t : List Nat) (i : Nat) : UInt8 := UInt8.ofNat (t.getD (i / 4) 0 / 2 ^ (24 - 8 * (i % 4)))
def outP (t : List Nat) (i : Nat) : List UInt8 := (List.range i).map (outB t)
theorem outP_length (t : List Nat) (i : Nat) : (outP t i).length = i := by rw [outP, List.length_map, List.length_range]
theorem outP_succ (t : List Nat) (i : Nat) : outP t (i + 1) = outP t i ++ [outB t i] := by rw [outP, List.range_succ, List.map_append]; rfl
/-- SHA-256. -/
def shaSum (l : List UInt8) : List UInt8 := outP (sumW l) 32
theorem begunL_ok : begunL.length = 8 /\ ∀ x ∈ begunL, x < 4294967296 := ⟨rfl, by decide⟩
theorem sh24 (i : Nat) : IntKind.i64.wrap (24 - IntKind.i64.wrap (8 * (i : Int).tmod 4)) = ((24 - 8 * (i % 4) : Nat) : Int) := by
  have h : (i : Int).tmod 4 = ((i % 4 : Nat) : Int) := by rw [Int.tmod_eq_emod_of_nonneg (Int.natCast_nonneg _)]; rfl
  rw [h]
  have h4 : i % 4 < 4 := Nat.mod_lt _ (by decide)
  generalize i % 4 = k at *
  match k, h4 with
  | 0, _ => rfl
  | 1, _ => rfl
  | 2, _ => rfl
  | 3, _ => rfl
theorem outB_wrap (t : List Nat) (i : Nat) (h : i / 4 < t.length) : IntKind.u8.wrap (((t[i / 4]'h : Nat) : Int).fdiv (2 ^ min (24 - 8 * (i % 4)) IntKind.u32.bits)) = ((outB t i).toNat : Int) := by
  have e1 : min (24 - 8 * (i % 4)) IntKind.u32.bits = 24 - 8 * (i % 4) := Nat.min_eq_left (by show _ <= 32; omega)
  have hd : ((t[i / 4]'h : Nat) : Int).fdiv (2 ^ (24 - 8 * (i % 4))) = ((t[i / 4]'h / 2 ^ (24 - 8 * (i % 4)) : Nat) : Int) := by
    rw [Int.fdiv_eq_ediv_of_nonneg _ (Int.le_of_lt (Int.pow_pos (by decide)))]
    push_cast; rfl
  rw [e1, hd, lenB1, outB, List.getD_eq_getElem?_getD, List.getElem?_eq_getElem h]; rfl
theorem out_set (t : List Nat) (i : Nat) (hi : i < 32) : (bs (outP t i) ++ bz (32 - i)).set i (.val (.int .u8 ((outB t i).toNat : Int))) = bs (outP t (i + 1)) ++ bz (32 - (i + 1)) := by
  rw [show 32 - i = (32 - (i + 1)) + 1 by omega, bz, List.replicate_succ, List.set_append_right _ _ (by rw [bs_length, outP_length]; omega), bs_length, outP_length, Nat.sub_self, List.set_cons_zero, outP_succ, <- bs_append, List.append_assoc]
  rfl
def sumS : Spec := fun args nm H =>
  match args with
  | [p] =>
    match elems H 1 p with
    | some (m, ps) =>
      match partsC H 1 ps with
      | some (n, cells) =>
        match bytesA cells with
        | some l => if 0 < n /\ n <= 1099511627776 /\ m <= 1099511627776 then some (.agg (bs (shaSum l)), H) else none
        | none => none
      | none => none
    | none => none
  | _ => none
set_option maxHeartbeats 1000000 in
theorem sum_ok : FnOK Tryz.prog 294 sumS := by
  refine ⟨by kernel_rfl, fun args nm H r H' h => ?_⟩
  have hcall := onF_ok begun_ok (onF_ok concatB_ok (onF_ok padded_ok (onF_ok add_ok (@noCall_ok Tryz.prog))))
  unfold sumS at h
  split at h
  · rename_i p
    split at h
    · rename_i m ps hp
      split at h
      · rename_i n cells hn
        split at h
        · rename_i l hl
          split at h
          · rename_i hc
            cases h
            obtain ⟨h1, h2, h3⟩ := hc
            obtain rfl := bytesA_some hl
            have hln : l.length = n := by have := partsC_length hn; simpa using this
            have hcc : ∀ q H1, (∀ k r, H k = some r -> H1 k = some r) -> concatS 1 1 [p] q H1 = some (.sl q 0 n 1, upd H1 q (some (bs l))) := by
              intro q H1 hs
              simp only [concatS, elems_sub hs hp, partsC_sub hs hn]
              rw [if_pos ⟨bs_one l, by omega, by omega, by omega⟩, if_neg (by omega)]
            have hpad : ∀ q q1 H1, H1 q1 = some (bs l) -> padS [.sl q1 0 n 1] q H1 = some (.sl q 0 (n + 1 + padZ n + 8) 1, upd (upd H1 q1 none) q (some (bs (padOf l)))) := by
              intro q q1 H1 hq
              simp only [padS, hq, bytesA_bs]
              rw [if_pos ⟨hln, h2⟩]
            obtain ⟨Kp, hK⟩ : ∃ Kp, n + 1 + padZ n + 8 = 64 * Kp := ⟨(n + 1 + padZ n + 8) / 64, by have := padZ_spec n; omega⟩
            have hK0 : 0 < Kp := by omega
            have hKb : Kp < 1099511627776 := by unfold padZ at hK; omega
            have hsum : sumW l = addAll begunL Kp (padOf l) := by
              unfold sumW; rw [hln, hK, Nat.mul_div_cancel_left _ (by decide)]
            have hpl : (padOf l).length = 64 * Kp := by rw [padOf_length, hln, hK]
            refine sim_go Tryz.func294 rfl rfl (Nat.le_of_ble_eq_true rfl) fun hH => ?_
            have hcc2 : ∀ q o1 o2 o3, concatS 1 1 [p] q (upd (upd (upd H (0 :: nm) o1) (2 :: nm) o2) (2 :: nm) o3) = _ := fun q o1 o2 o3 => hcc q _ (SubL.out (SubL.fresh (hH [2]) (SubL.fresh (hH [2]) (SubL.fresh (hH [0]) SubL.id))))
            (repeat refine AWP.seq ?_)
            refine AWP.region_last hcall rfl fun K hK => ?_
            simp
            apply hK; clear hK K; simp only [onNormal, onExit]
            (repeat refine AWP.seq ?_)
            refine AWP.region_last hcall rfl fun K hK => ?_
            simp [begunS]
            apply hK; clear hK K; simp only [onNormal, onExit]
            (repeat refine AWP.seq ?_)
            refine AWP.region_last hcall rfl fun K hK => ?_
            simp [hcc2, hpad]
            apply hK; clear hK K; simp only [onNormal, onExit]
            refine AWP.gen (fun c T H2 => ∃ q, T 2 = .ptr (0 :: nm) 0 /\ T 3 = .ptr (2 :: nm) 0 /\ T 4 = .sl q 0 (n + 1 + padZ n + 8) 1 /\ H q = none /\ q ≠ 2 :: nm /\ q ≠ 0 :: nm /\ H2 q = some (bs (padOf l)) /\ H2 (2 :: nm) = some (ws begunL) /\ H2 (0 :: nm) = some (bz 32) /\ (∀ a r, H a = some r -> H2 a = some r)) ?_ ?_
            · refine ⟨6 :: nm, by simp, by simp, by simp, hH [6], by simp, by simp, by simp, by simp [ws, begunL, vcells, vU], by simp, ?_⟩
              exact SubL.out (SubL.fresh (hH [6]) (SubL.fresh (hH [5]) (SubL.fresh (hH [5]) (SubL.fresh (hH [2]) (SubL.fresh (hH [2]) (SubL.fresh (hH [0]) SubL.id))))))
            rintro c T H2 ⟨q, t2, t3, t4, hq, hqn2, hqn0, hr1, hr2, hr0, hsub⟩
            rw [hK] at t4
            (repeat refine AWP.seq ?_); refine AWP.block ?_
            refine AWP.loop (fun m c T H2 => ∃ k t, k <= Kp /\ m = Kp - k /\ T 2 = .ptr (0 :: nm) 0 /\ T 3 = .ptr (2 :: nm) 0 /\ T 4 = (if k = Kp then .im true 0 [] else .sl q (64 * k) (64 * Kp - 64 * k) 1) /\ H2 q = some (bs (padOf l)) /\ H2 (2 :: nm) = some (ws t) /\ H2 (0 :: nm) = some (bz 32) /\ (∀ a r, H a = some r -> H2 a = some r) /\ addAll t (Kp - k) ((padOf l).drop (64 * k)) = sumW l /\ t.length = 8 /\ ∀ x ∈ t, x < 4294967296) Kp ⟨0, begunL, by omega, rfl, t2, t3, by rw [if_neg (by omega)]; exact t4, hr1, hr2, hr0, hsub, hsum.symm, begunL_ok.1, begunL_ok.2⟩ ?_
            clear t2 t3 t4 hr1 hr2 hr0 hsub
            rintro _ c T H2 ⟨k, t, hk, rfl, t2, t3, t4, hr1, hr2, hr0, hsub, hadd, ht8, htb⟩
            by_cases hkK : k = Kp
            · subst hkK
              rw [if_pos rfl] at t4
              have ht : t = sumW l := by rw [<- hadd, Nat.sub_self]; rfl
              subst ht
              (repeat refine AWP.seq ?_)
              refine AWP.region_last hcall rfl fun K hK => ?_
              simp [t4]
              apply hK; clear hK K; simp only [onNormal, onExit]
              (repeat refine AWP.seq ?_); refine AWP.cond (b := false) (by simp) ?_; simp only [if_true, if_false, Bool.false_eq_true]
              refine AWP.exit ?_; simp only [onNormal, onExit, if_true, reduceCtorEq, if_false]
              refine AWP.known_fresh fun hfr => ?_
              have hq2 := ne_fresh hfr hr2 (c + 3) (by omega)
              have hq0 := ne_fresh hfr hr0 (c + 3) (by omega)
              have hwl : (ws (sumW l)).length = 8 := by rw [ws_length, ht8]
              (repeat refine AWP.seq ?_)
              refine AWP.region_last hcall rfl fun K hK => ?_
              simp
              apply hK; clear hK K; simp only [onNormal, onExit]
              (repeat refine AWP.seq ?_)
              refine AWP.region_last hcall rfl fun K hK => ?_
              simp
              apply hK; clear hK K; simp only [onNormal, onExit]
              (repeat refine AWP.seq ?_); refine AWP.block ?_
              refine AWP.loop (fun m c' T H3 => ∃ i, i <= 32 /\ m = 32 - i /\ T 2 = .ptr (0 :: nm) 0 /\ T 3 = .ptr (2 :: nm) 0 /\ T 5 = .ptr ((c + 3) :: nm) 0 /\ T 20 = vi i /\ H3 ((c + 3) :: nm) = some (bs (outP (sumW l) i) ++ bz (32 - i)) /\ H3 (2 :: nm) = some (ws (sumW l)) /\ H3 (0 :: nm) = some (bz 32) /\ (∀ a r, H a = some r -> H3 a = some r)) 32 ⟨0, by omega, rfl, by simp [t2], by simp [t3], ?_, by simp, ?_, ?_, ?_, ?_⟩ ?_
              · simp
              · simp [outP, bs]
              · rw [upd_ne _ _ hq2]; exact hr2
              · rw [upd_ne _ _ (ne_fresh hfr hr0 (c + 3) (by omega))]; exact hr0
              · exact SubL.out (SubL.fresh (hH [_]) fun a r _ ha => hsub a r ha)
              clear t2 t3 t4 hr0 hsub
              rintro _ c' T H3 ⟨i, hi, rfl, t2, t3, t5, t20, ho, hr2, hr0, hsub⟩
              by_cases hi32 : i < 32
              · have hii : (i : Int) < 32 := by omega
                have hw3 : IntKind.i64.wrap ((i : Int) + 1) = ((i + 1 : Nat) : Int) := by rw [IntKind.wrap_i64]; omega
                (repeat refine AWP.seq ?_)
                refine AWP.region_last hcall rfl fun K hK => ?_
                simp [t20, hii]
                apply hK; clear hK K; simp only [onNormal, onExit]
                (repeat refine AWP.seq ?_); refine AWP.cond (b := true) (by simp [hii]) ?_; simp only [if_true, if_false, Bool.false_eq_true]
                refine AWP.skip ?_; simp only [onNormal, onExit]
                (repeat refine AWP.seq ?_); refine AWP.block ?_
                (repeat refine AWP.seq ?_)
                refine AWP.region_last hcall rfl fun K hK => ?_
                simp [t20]
                apply hK; clear hK K; simp only [onNormal, onExit]
                have d1 : IntKind.i64.wrap ((i : Int) / 4) = (i : Int) / 4 := by rw [IntKind.wrap_i64]; omega
                have d2 : (0 : Int) <= (i : Int) / 4 := by omega
                have d3 : ((i : Int) / 4).toNat = i / 4 := by omega
                have d4 : i / 4 < 8 := by omega
                have d5 := sh24 i
                have d8 : (sumW l).length = 8 := ht8
                have d9 := outB_wrap (sumW l) i (by omega)
                have d10 : ((bs (outP (sumW l) i) ++ bz (32 - i)).length) = 32 := by
                  rw [List.length_append, bs_length, outP_length, bz, List.length_replicate]; omega
                have d11 := out_set (sumW l) i hi32
                have d12 : i + 1 <= 32 := by omega
                (repeat refine AWP.seq ?_)
                refine AWP.region_last hcall rfl fun K hK => ?_
                simp [t2, t3, t5, ho, hr2, d1, d2, d3, d4, d5, d8, d9, d10, d11, d12, hi32]
                apply hK; clear hK K; simp only [onNormal, onExit]
                (repeat refine AWP.seq ?_)
                refine AWP.region_last hcall rfl fun K hK => ?_
                simp [t20, hw3]
                apply hK; clear hK K; simp only [onNormal, onExit]
                refine ⟨32 - (i + 1), by omega, i + 1, by omega, rfl, by simp [t2], by simp [t3], by simp [t5], by simp, by simp, ?_, ?_, SubL.out (SubL.fresh (hH [_]) fun a r _ ha => hsub a r ha)⟩
                · rw [upd_ne _ _ hq2]; exact hr2
                · rw [upd_ne _ _ hq0]; exact hr0
              · obtain rfl : i = 32 := by omega
                have d1 : (outP (sumW l) 32).length = 32 := outP_length _ _
                have d2 : (bs (outP (sumW l) 32)).take 32 = bs (outP (sumW l) 32) := List.take_of_length_le (by rw [bs_length, d1]; omega)
                have d3 : bs (outP (sumW l) 32) ++ bz (32 - 32) = bs (outP (sumW l) 32) := by rw [Nat.sub_self]; exact List.append_nil _
                have d4 := bs_one (outP (sumW l) 32)
                have d5 : setMany (bz 32) 0 (bs (outP (sumW l) 32)) = bs (outP (sumW l) 32) := setMany_full (by rw [bs_length, d1]; rfl)
                have d6 : (bz 32).length = 32 := rfl
                rw [d3] at ho
                (repeat refine AWP.seq ?_)
                refine AWP.region_last hcall rfl fun K hK => ?_
                simp [t20]
                apply hK; clear hK K; simp only [onNormal, onExit]
                (repeat refine AWP.seq ?_); refine AWP.cond (b := false) (by simp) ?_; simp only [if_true, if_false, Bool.false_eq_true]
                refine AWP.exit ?_; simp only [onNormal, onExit, if_true, reduceCtorEq, if_false]
                (repeat refine AWP.seq ?_)
                refine AWP.region_last hcall rfl fun K hK => ?_
                simp [t2, t5, ho, hr0, d1, d2, d4, d5, d6]
                apply hK; clear hK K; simp only [onNormal, onExit]
                (try refine AWP.ret ?_); (try simp only [onNormal, onExit]); refine ⟨by simp, ⟨[_], by simp [ares, Tryz.results294, t2, d1, d2, shaSum], rfl⟩, fun k row hk => ?_⟩
                exact SubL.out (SubL.fresh (hH [0]) fun a r _ ha => hsub a r ha) k row hk
            · rw [if_neg hkK] at t4
              have hpos : 0 < 64 * Kp - 64 * k := by omega
              have hposi : (0 : Int) < ((64 * Kp - 64 * k : Nat) : Int) := by omega
              have h64 : 64 <= 64 * Kp - 64 * k := by omega
              have hdl : ((padOf l).drop (64 * k)).length = 64 * Kp - 64 * k := by rw [List.length_drop, hpl]
              have hseg : ((bs (padOf l)).drop (64 * k)).take 64 = bs (((padOf l).drop (64 * k)).take 64) := by rw [bs_drop, bs_take]
              have hle : 64 * k + 64 <= (padOf l).length := by omega
              have hadd2 : ∀ m H1, H1 q = some (bs (padOf l)) -> addS [.agg (ws t), .sl q (64 * k) 64 1] m H1 = some (.agg (ws (addFast t ((((padOf l).drop (64 * k)).take 64).map UInt8.toNat))), H1) := by
                intro m H1 hq1
                simp only [addS, wordsA_ws htb, partC_sl, hq1, Option.bind_some, if_true]
                rw [if_pos (by rw [bs_length]; omega)]
                simp only
                rw [if_pos ⟨ht8, by trivial⟩, Nat.mul_one, hseg, bytesA_bs]
                rfl
              obtain ⟨t', ht'⟩ : ∃ t', t' = addFast t ((((padOf l).drop (64 * k)).take 64).map UInt8.toNat) := ⟨_, rfl⟩
              rw [<- ht'] at hadd2
              have ht8' : t'.length = 8 := by rw [ht']; exact (addFast_ok ht8 _).1
              have hwl : (ws t).length = 8 := by rw [ws_length, ht8]
              have hwl' : (ws t').length = 8 := by rw [ws_length, ht8']
              have hwt : (ws t).take 8 = ws t := List.take_of_length_le (by omega)
              have hone := ws_one t'
              have hset : setMany (ws t) 0 (ws t') = ws t' := setMany_full (by omega)
              (repeat refine AWP.seq ?_)
              refine AWP.region_last hcall rfl fun K hK => ?_
              simp [t4, hpos]
              apply hK; clear hK K; simp only [onNormal, onExit]
              (repeat refine AWP.seq ?_); refine AWP.cond (b := true) (by simp [hposi]) ?_; simp only [if_true, if_false, Bool.false_eq_true]
              refine AWP.skip ?_; simp only [onNormal, onExit]
              (repeat refine AWP.seq ?_); refine AWP.block ?_
              (repeat refine AWP.seq ?_)
              refine AWP.draw_last rfl hcall [0, 0, 2, 7, 15] [⟨0, false, [0]⟩, ⟨1, false, []⟩, ⟨2, false, [0]⟩, ⟨3, true, []⟩, ⟨4, true, []⟩] rfl (by kernel_rfl) fun K hK => ?_
              simp [planW, chkW, t3, t4, hr2, h64, hadd2, hr1, hwl, hwl', hwt, hone, hset]
              apply hK; clear hK K; simp only [onNormal, onExit]
              have hsl : (if 64 = 64 * Kp - 64 * k then some (AV.im true 0 []) else some (.sl q (64 * k + 64) (64 * Kp - 64 * k - 64) 1)) = some (if k + 1 = Kp then .im true 0 [] else .sl q (64 * (k + 1)) (64 * Kp - 64 * (k + 1)) 1) := by
                by_cases e : k + 1 = Kp
                · rw [if_pos (by omega), if_pos e]
                · rw [if_neg (by omega), if_neg e, show 64 * k + 64 = 64 * (k + 1) by omega, show 64 * Kp - 64 * k - 64 = 64 * Kp - 64 * (k + 1) by omega]
              (repeat refine AWP.seq ?_)
              refine AWP.region_last hcall rfl fun K hK => ?_
              simp [t4, h64, hsl]
              apply hK; clear hK K; simp only [onNormal, onExit]
              have hr1' : upd H2 (2 :: nm) (some (ws t')) q = some (bs (padOf l)) := by rw [upd_ne _ _ hqn2]; exact hr1
              refine ⟨Kp - (k + 1), by omega, k + 1, t', by omega, rfl, by simp [t2], by simp [t3], by simp, hr1', by simp, by simp [hr0], SubL.out (SubL.fresh (hH [2]) fun a r _ ha => hsub a r ha), ?_, ht8', ?_⟩
              · rw [<- hadd, show Kp - k = Kp - (k + 1) + 1 by omega]
                show _ = addAll (addFast t ((((padOf l).drop (64 * k)).take 64).map UInt8.toNat)) (Kp - (k + 1)) (((padOf l).drop (64 * k)).drop 64)
                rw [<- ht', List.drop_drop, show 64 * k + 64 = 64 * (k + 1) by omega]
              · rw [ht']; exact (addFast_ok ht8 _).2
          · cases h
        · cases h
      · cases h
    · cases h
  · cases h
end Go.Proofs.YtjinjfblilacaaaGreat.Den
end
section
set_option linter.unusedSimpArgs false
set_option linter.unusedVariables false
set_option maxRecDepth 100000
namespace Go.Proofs.YtjinjfblilacaaaGreat.Den
open Go.RowKit
theorem i32 (a : Nat) (ha : a < 4294967296) : (BitVec.ofInt 32 (a : Int)).toNat = a := by
  rw [BitVec.toNat_ofInt]; omega
theorem b32_shr (a n : Nat) (k : IntKind) (hn : n <= 32) : binV .shr (.int .u32 (a : Int)) (.int k (n : Int)) = some (.int .u32 ((a >>> n : Nat) : Int)) := by
  show (if (0 : Int) <= (n : Int) then some (Value.int .u32 ((a : Int).fdiv (2 ^ min (n : Int).toNat 32))) else none) = _
  rw [if_pos (Int.natCast_nonneg _), Int.toNat_natCast, Nat.min_eq_left hn, Int.fdiv_eq_ediv_of_nonneg _ (Int.le_of_lt (Int.pow_pos (by decide))), Nat.shiftRight_eq_div_pow]
  push_cast; rfl
def w1 (b : List Nat) (j : Nat) : List Nat := grow (fB fun i => b.getD i 0) j []
def w2 (b : List Nat) (j : Nat) : List Nat := grow fW j (w1 b 16)
/-! ### rounds -/
theorem nx (a b : Nat) : Nat.xor a b = a ^^^ b := rfl
theorem na (a b : Nat) : Nat.land a b = a &&& b := rfl
end Go.Proofs.YtjinjfblilacaaaGreat.Den
end
section
set_option linter.unusedSimpArgs false
set_option linter.unusedVariables false
set_option maxRecDepth 100000
namespace Go.Proofs.YtjinjfblilacaaaGreat.Den
open Go.RowKit
attribute [local simp] runList aop abuiltin acall awanted ayielded env T0 tput tset Ran aload astore setMany upd binV aslice aindexAddr apart aindex alen acopy srcCells natOf boundOf aeq AV.nilEq convV appK fillA List.range List.range.loop onF isU8 rowOf
def w0 : W8 := ⟨1779033703, 3144134277, 1013904242, 2773480762, 1359893119, 2600822924, 528734635, 1541459225⟩
/-- What stays, but for the sum on its way. -/
structure SB (nm : Name) (x : AV) (H : AHeap) (s : List Nat) (T : Temps) (H2 : AHeap) : Prop where
  t0 : T 0 = x
  t2 : T 2 = .ptr (0 :: nm) 0
  t3 : T 3 = .ptr (2 :: nm) 0
  t4 : T 4 = .ptr (5 :: nm) 0
  r2 : H2 (0 :: nm) = some (bz 32)
  r3 : H2 (2 :: nm) = some (ws k256)
  r4 : H2 (5 :: nm) = some (ws s)
  sub : ∀ k r, H k = some r -> H2 k = some r
theorem SB.upd {nm : Name} {x : AV} {H : AHeap} {s : List Nat} {T : Temps} {H2 : AHeap} (b : SB nm x H s T H2) {m : Name} (o : Option (List AV)) (h0 : 0 :: nm ≠ m) (h2 : 2 :: nm ≠ m) (h5 : 5 :: nm ≠ m) (hm : H m = none) : SB nm x H s T (upd H2 m o) :=
  ⟨b.t0, b.t2, b.t3, b.t4, (upd_ne _ _ h0).trans b.r2, (upd_ne _ _ h2).trans b.r3, (upd_ne _ _ h5).trans b.r4, fun k r hk => by rw [upd_ne _ _ (by rintro rfl; rw [hm] at hk; cases hk)]; exact b.sub k r hk⟩
theorem SB.names {nm : Name} {x : AV} {H : AHeap} {s : List Nat} {T : Temps} {H2 : AHeap} (b : SB nm x H s T H2) {c : Nat} (h : ∀ j s, c <= j -> H2 (s ++ j :: nm) = none) (k : Nat) (hk : c <= k) : 0 :: nm ≠ k :: nm /\ 2 :: nm ≠ k :: nm /\ 5 :: nm ≠ k :: nm :=
  ⟨ne_fresh h b.r2 k hk, ne_fresh h b.r3 k hk, ne_fresh h b.r4 k hk⟩
def rsh (a n : Nat) : Nat := a >>> n
def an (a b : Nat) : Nat := a &&& b
theorem r3 (a : Nat) : binV .shr (.int .u32 (a : Int)) (.int .u64 3) = some (.int .u32 ((rsh a 3 : Nat) : Int)) := b32_shr a 3 .u64 (by decide)
end Go.Proofs.YtjinjfblilacaaaGreat.Den
end
section
set_option linter.unusedSimpArgs false
set_option linter.unusedVariables false
set_option maxRecDepth 100000
namespace Go.Proofs.YtjinjfblilacaaaGreat.Den
open Go.RowKit
attribute [local simp] runList aop abuiltin acall awanted ayielded env T0 tput tset Ran aload astore setMany upd binV aslice aindexAddr apart aindex alen acopy srcCells natOf boundOf aeq AV.nilEq convV appK fillA List.range List.range.loop onF isU8 rowOf
section
variable {P : Program} {call : CallF} {p : Name} {n : Nat} {ops : Array Oper} {Q : Exit -> Nat -> Temps -> AHeap -> Prop} {c : Nat} {T : Temps} {H : AHeap}
theorem op_at {ops ops' : Array Oper} (h : ops' = ops) (i : Nat) {o : Oper} (ho : ops[i]? = some o) : ops'[i]? = some o := h ▸ ho
theorem op_sz {ops ops' : Array Oper} (h : ops' = ops) {k : Nat} (ho : ops.size = k) : ops'.size = k := h ▸ ho
theorem planW_ex {ops' : Array Oper} {K : Nat -> Temps -> AHeap -> Prop} {x : Item} {r : List Item} {k : Nat} {Hs : List (Nat × AHeap)} {o : Oper} {d : Option Nat} (ho : ops'[x.i]? = some o) (hg : o.guard = none) (hd : o.dst = d)
    (h : ∃ y : AV × AHeap, aop P call o (env T) ((c + x.i) :: p) H = some y /\ chkW P call o (env T) ((c + x.i) :: p) y.1 Hs x.chk /\ planW P call ops' p c K (k + 1) r (tput T d y.1) (bif x.e then (k + 1, y.2) :: Hs else Hs) y.2) :
    planW P call ops' p c K k (x :: r) T Hs H := by
  obtain ⟨⟨v, H'⟩, h1, h2, h3⟩ := h
  subst hd
  have hw : awanted ops' o T = true := by unfold awanted; rw [hg]
  simp only [planW, ho, hw, if_true, h1]
  exact ⟨h2, h3⟩
theorem planW_end {ops' : Array Oper} {K : Nat -> Temps -> AHeap -> Prop} {k m : Nat} {Hs : List (Nat × AHeap)} (hs : ops'.size = m) (h : K (c + m) T H) : planW P call ops' p c K k [] T Hs H := by
  subst hs; exact h
/-- A region of many operations: they are known one by one. -/
theorem AWP.draw_ops (hm : P.follows .mixedOrders = true) (hcall : CallOK P call) (ms : List Nat) (pl : List Item) {id : Nat} (hd : dstOk n ops = true) (hp : planOK ops ms pl = true)
    (h : ∀ ops' : Array Oper, ops' = ops -> ∀ K : Nat -> Temps -> AHeap -> Prop, (∀ c T H, Q .normal c T H -> K c T H) -> planW P call ops' p c K 0 pl T [(0, H)] H) : AWP P p n (.region id ops true) Q c T H :=
  AWP.draw_last hm hcall ms pl hd hp (h ops rfl)
theorem AWP.region_ops (hcall : CallOK P call) {id : Nat} (hd : dstOk n ops = true)
    (h : ∀ ops' : Array Oper, ops' = ops -> ∀ K : Nat -> Temps -> AHeap -> Prop, (∀ c T H, Q .normal c T H -> K c T H) -> Ran K (c + ops'.size) (runList P call ops' p c (List.range ops'.size) T H)) : AWP P p n (.region id ops false) Q c T H :=
  AWP.region_last hcall hd (h ops rfl)
end
end Go.Proofs.YtjinjfblilacaaaGreat.Den
end
section
set_option linter.unusedSimpArgs false
set_option linter.unusedVariables false
set_option maxRecDepth 100000
namespace Go.Proofs.YtjinjfblilacaaaGreat.Den
open Go.RowKit
attribute [local simp] runList aop abuiltin acall awanted ayielded env T0 tput tset Ran aload astore setMany upd binV aslice aindexAddr apart aindex alen acopy srcCells natOf boundOf aeq AV.nilEq convV appK fillA List.range List.range.loop onF isU8 rowOf
end Go.Proofs.YtjinjfblilacaaaGreat.Den
end
section
set_option linter.unusedSimpArgs false
set_option linter.unusedVariables false
set_option maxRecDepth 100000
namespace Go.Proofs.YtjinjfblilacaaaGreat.Den
open Go.RowKit
attribute [local simp] runList aop abuiltin acall awanted ayielded env T0 tput tset Ran aload astore setMany upd binV aslice aindexAddr apart aindex alen acopy srcCells natOf boundOf aeq AV.nilEq convV appK fillA List.range List.range.loop onF isU8 rowOf
end Go.Proofs.YtjinjfblilacaaaGreat.Den
end
