/- Of this session: over the abstract machine. -/
import Derived.Test.YtlnlbncinjiinaaProg
import Derived.Test.YtlnlbncinjiinaaA
import Derived.Test.YtlnlbncinjiinaaB
import Derived.Test.YtlnlbncinjiinaaD
import Derived.Test.YtlnlbncinjiinaaT
import Derived.Test.YtlnlbncinjiinaaO
import Derived.Test.YtlnlbncinjiinaaOT
namespace Go.Proofs.Ytlnlbncinjiinaa.A
open Go Go.RowKit
set_option linter.unusedVariables false
set_option linter.unusedSimpArgs false
set_option maxRecDepth 100000
set_option maxHeartbeats 1000000
theorem S_below {n c : Int} {h : AHeap} {Q : KA} (hq : Q (bl (decide (0 ≤ n ∧ n < c))) h) : @clM Try.prog 53 [i64 n, i64 c] h ⟨Q⟩ := by
  refine cl_of fn_impl_below (D_impl_below_of ?_)
  unfold D_impl_below
  refine jn_ex ?_
  simp [↓go]
  repeat' (first | apply And.intro | intro _)
  · refine wk_ret ?_; simpa [*] using hq
  · refine wk_ret ?_; rw [decide_eq_false (by omega)] at hq; exact hq
def goes (op : Int) : Bool := decide (op = 25) || decide (op = 26) || decide (op = 27)
theorem S_l5Goes {op : Int} {h : AHeap} {Q : KA} (hq : Q (bl (goes op)) h) : @clM Try.prog 50 [i64 op] h ⟨Q⟩ := by
  refine cl_of fn_spec_l5Goes (D_spec_l5Goes_of ?_)
  unfold D_spec_l5Goes
  refine jn_ex ?_
  simp [↓go]
  repeat' (first | apply And.intro | intro _)
  all_goals (refine wk_ret ?_; simpa [goes, *] using hq)
theorem S_names {x : MInstr} {h : AHeap} {Q : KA} (hq : Q (bl (goes x.op)) h) : @clM Try.prog 52 [.fp (encInstr x)] h ⟨Q⟩ := by
  refine cl_of fn_impl_names (D_impl_names_of ?_)
  unfold D_impl_names
  refine jn_ex ?_
  simp [↓go]
  repeat' (first | apply And.intro | intro _)
  all_goals (refine wk_ret ?_; simpa [goes, *] using hq)
def fits (n : Nat) (x : MInstr) : Bool := !goes x.op || decide (0 ≤ x.c ∧ x.c < n)
def good (l : List MInstr) : Bool := decide (1 ≤ l.length) && decide (l.length ≤ 1024) && l.all (fits l.length)
/-- the first value, as a number -/
def nat0 (s : List AVal) : Nat := match nthA s 0 with | .v (.int _ n) => n.toNat | _ => 0
@[simp] theorem nat0_eq (n : Int) (l : List AVal) : nat0 (.v (.int .i64 n) :: l) = n.toNat := rfl
theorem S_l5Good {l : List MInstr} {h : AHeap} {Q : KA} (hq : Q (bl (good l)) h) : @clM Try.prog 49 [.sl (l.map encInstr)] h ⟨Q⟩ := by
  refine cl_of fn_spec_l5Good (D_spec_l5Good_of ?_)
  unfold D_spec_l5Good
  simp [↓go]
  refine jn_cut (fun s h' => h = h' ∧ s = [i64 l.length, .sl (l.map encInstr), bl (!decide (1 ≤ (l.length : Int) ∧ (l.length : Int) ≤ 1024))]) ?_ ?_
  · simp [↓go]
    repeat' (first | apply And.intro | intro _)
    · refine wk_ex ?_; refine ⟨rfl, ?_⟩
      rw [decide_eq_false (by omega)]; rfl
    · refine wk_ex ?_; refine ⟨rfl, ?_⟩
      rw [bl_iff (b := decide (1024 < (l.length : Int)))]
      simp only [Bool.not_eq_true', decide_eq_true_eq, decide_eq_false_iff_not]; omega
  rintro _ _ ⟨rfl, rfl⟩
  simp [↓go]
  refine ⟨fun h1 => retW_ex ?_, fun h1 h2 => ?_⟩
  · rw [show good l = false by unfold good; rw [Bool.eq_false_iff]; simp; omega] at hq; exact hq
  refine lp_inv (fun s h' => h = h' ∧ ∃ i : Nat, i ≤ l.length ∧ s = [i64 i, i64 l.length, .sl (l.map encInstr)] ∧ ∀ j < i, fits l.length (l.getD j zInstr) = true) (fun s _ => l.length - nat0 s) (Wk.refl ⟨rfl, 0, by omega, rfl, fun _ h => by omega⟩) ?_
  rintro _ _ ⟨rfl, i, hi, rfl, hf⟩
  simp [↓go]
  refine ⟨fun hlt => ?_, fun hge => ?_⟩
  · have e := map_getD encInstr zInstr hlt
    refine jn_cut (fun s h2 => h = h2 ∧ s = [i64 l.length, .sl (l.map encInstr), i64 i, bl (!fits l.length (l.getD i zInstr))]) ?_ ?_
    · simp [↓go, hlt, e]
      refine S_l5Goes ?_
      simp [↓go, hlt]
      repeat' (first | apply And.intro | intro _)
      all_goals (refine wk_ex ?_; refine ⟨rfl, ?_⟩; simp [fits, *] <;> (try (rw [Bool.eq_iff_iff]; simp)))
    · rintro _ _ ⟨rfl, rfl⟩
      simp [↓go]
      refine ⟨fun hb => retW_ex ?_, fun hb => wk_ex ⟨⟨rfl, i + 1, by omega, ?_, fun j hj => ?_⟩, ?_⟩⟩
      · rw [show good l = false by
          rw [Bool.eq_false_iff]; unfold good
          intro hg
          simp only [Bool.and_eq_true, List.all_eq_true] at hg
          have := hg.2 l[i] (List.getElem_mem _)
          simp [hlt] at hb
          rw [hb] at this; cases this] at hq
        exact hq
      · rw [w64 (by omega) (by omega)]; rfl
      · rcases Nat.lt_succ_iff_lt_or_eq.1 hj with h | rfl
        · exact hf j h
        · simpa using hb
      · rw [w64 (by omega) (by omega)]; simp; omega
  · refine retW_ex ?_
    rw [show good l = true by unfold good; simp; exact ⟨⟨by omega, by omega⟩, fun x hx => by obtain ⟨j, hj, rfl⟩ := List.getElem_of_mem hx; have := hf j (by omega); simpa [hj] using this⟩] at hq
    exact hq
/-! the plain law of BlocksOf -/
noncomputable def leadStep (l : List MInstr) (L : List Bool) (i : Nat) : List Bool :=
  let L1 := if goes (l.getD i zInstr).op = true then L.set (l.getD i zInstr).c.toNat true else L
  if goes (l.getD i zInstr).op = true ∨ (l.getD i zInstr).op = 29 then L1.set (i + 1) true else L1
noncomputable def leadUp (l : List MInstr) : Nat → List Bool
  | 0 => (List.replicate (l.length + 1) false).set 0 true
  | i + 1 => leadStep l (leadUp l i) i
theorem leadStep_len (l : List MInstr) (L : List Bool) (i : Nat) : (leadStep l L i).length = L.length := by
  unfold leadStep; dsimp only; split <;> split <;> simp
theorem leadUp_len (l : List MInstr) : ∀ i, (leadUp l i).length = l.length + 1
  | 0 => by simp [leadUp]
  | i + 1 => by unfold leadUp; rw [leadStep_len, leadUp_len l i]
theorem leadUp_zero (l : List MInstr) : ∀ i, (leadUp l i)[0]? = some true
  | 0 => by simp [leadUp]
  | i + 1 => by
    have h := leadUp_zero l i
    have hl := leadUp_len l i
    unfold leadUp leadStep
    dsimp only
    have hs : ∀ (L : List Bool) (j : Nat), L[0]? = some true → (L.set j true)[0]? = some true := fun L j hL => by
      rw [List.getElem?_set]
      split
      · next e => subst e; split <;> simp_all
      · exact hL
    split <;> split <;> first | exact hs _ _ (hs _ _ h) | exact hs _ _ h | exact h
/-- the last block ends at i -/
def setLast (out : List MBlock) (i : Int) : List MBlock := out.set (out.length - 1) { out.getD (out.length - 1) zBlock with last := i }
def p2 (L : List Bool) (s : List MBlock × List Int) (i : Nat) : List MBlock × List Int :=
  let out := if L.getD i false = true then s.1 ++ [⟨i, 0, []⟩] else s.1
  (setLast out i, s.2.set i ((out.length : Int) - 1))
def p2Up (L : List Bool) (n : Nat) : Nat → List MBlock × List Int
  | 0 => ([], List.replicate n 0)
  | i + 1 => p2 L (p2Up L n i) i
structure P2I (n i : Nat) (s : List MBlock × List Int) : Prop where
  ne : 0 < i → 0 < s.1.length
  len : s.2.length = n
  le : s.1.length ≤ i
  last : ∀ b, b < s.1.length → (s.1.getD b zBlock).nxt = [] ∧ 0 ≤ (s.1.getD b zBlock).last ∧ (s.1.getD b zBlock).last < i
  fin : 0 < s.1.length → (s.1.getD (s.1.length - 1) zBlock).last = (i : Int) - 1
  step : ∀ b, b + 1 < s.1.length → (s.1.getD b zBlock).last + 1 < i ∧ s.2.getD ((s.1.getD b zBlock).last + 1).toNat 0 = (b : Int) + 1
theorem getD_set {α : Type} (l : List α) (i j : Nat) (x z : α) (h : i < l.length) : (l.set i x).getD j z = if j = i then x else l.getD j z := by
  rw [List.getD_eq_getElem?_getD, List.getElem?_set, List.getD_eq_getElem?_getD]
  by_cases e : i = j
  · subst e; simp [h]
  · rw [if_neg e, if_neg (fun e2 => e e2.symm)]
theorem P2I_zero (n : Nat) (L : List Bool) : P2I n 0 (p2Up L n 0) := by
  refine ⟨fun h => by omega, by simp [p2Up], by simp [p2Up], fun b hb => by simp [p2Up] at hb, fun h => by simp [p2Up] at h, fun b hb => by simp [p2Up] at hb⟩
theorem P2I_step (n i : Nat) (L : List Bool) (s : List MBlock × List Int) (hi : i < n) (h : P2I n i s) (h0 : i = 0 → L.getD 0 false = true) : P2I n (i + 1) (p2 L s i) := by
  obtain ⟨ne, len, le, last, fin, step⟩ := h
  unfold p2
  by_cases hL : L.getD i false = true
  · rw [if_pos hL]
    dsimp only
    have e1 : setLast (s.1 ++ [⟨i, 0, []⟩]) i = s.1 ++ [⟨i, i, []⟩] := by
      unfold setLast
      have : (s.1 ++ [(⟨i, 0, []⟩ : MBlock)]).length - 1 = s.1.length := by simp
      rw [this, List.set_append_right _ _ (Nat.le_refl _), Nat.sub_self, List.set_cons_zero, List.getD_eq_getElem?_getD, List.getElem?_append_right (Nat.le_refl _)]
      simp
    rw [e1]
    have gL : ∀ b, b < s.1.length → (s.1 ++ [(⟨i, i, []⟩ : MBlock)]).getD b zBlock = s.1.getD b zBlock := fun b hb => by
      rw [List.getD_eq_getElem?_getD, List.getElem?_append_left hb, List.getD_eq_getElem?_getD]
    have gE : (s.1 ++ [(⟨i, i, []⟩ : MBlock)]).getD s.1.length zBlock = ⟨i, i, []⟩ := by
      rw [List.getD_eq_getElem?_getD, List.getElem?_append_right (Nat.le_refl _)]; simp
    have ln : (s.1 ++ [(⟨i, i, []⟩ : MBlock)]).length = s.1.length + 1 := by simp
    refine ⟨fun _ => by rw [ln]; omega, by simp [len], by rw [ln]; omega, fun b hb => ?_, fun _ => ?_, fun b hb => ?_⟩
    · rw [ln] at hb
      by_cases hb1 : b < s.1.length
      · rw [gL b hb1]; obtain ⟨q1, q2, q3⟩ := last b hb1; exact ⟨q1, q2, by omega⟩
      · obtain rfl : b = s.1.length := by omega
        rw [gE]; exact ⟨rfl, by show (0 : Int) ≤ (i : Int); omega, by show (i : Int) < ((i + 1 : Nat) : Int); omega⟩
    · rw [ln, Nat.add_sub_cancel, gE]; simp
    · rw [ln] at hb
      have hb1 : b < s.1.length := by omega
      rw [gL b hb1, getD_set _ _ _ _ _ (by omega)]
      by_cases hb2 : b + 1 < s.1.length
      · obtain ⟨q1, q2⟩ := step b hb2
        have q3 := (last b hb1).2.1
        rw [if_neg (by omega)]
        exact ⟨by omega, q2⟩
      · obtain rfl : b = s.1.length - 1 := by omega
        have q := fin (by omega)
        rw [q, if_pos (by omega)]
        exact ⟨by omega, by rw [List.length_append, List.length_singleton]; omega⟩
  · rw [if_neg hL]
    dsimp only
    have hp : 0 < s.1.length := ne (Nat.pos_of_ne_zero (fun e => by subst e; exact hL (h0 rfl)))
    have ln : (setLast s.1 i).length = s.1.length := by unfold setLast; simp
    have gS : ∀ b, (setLast s.1 i).getD b zBlock = if b = s.1.length - 1 then { s.1.getD (s.1.length - 1) zBlock with last := (i : Int) } else s.1.getD b zBlock := fun b => by
      unfold setLast; exact getD_set _ _ _ _ _ (by omega)
    refine ⟨fun _ => by rw [ln]; exact hp, by simp [len], by rw [ln]; omega, fun b hb => ?_, fun _ => ?_, fun b hb => ?_⟩
    · rw [ln] at hb
      rw [gS b]
      obtain ⟨q1, q2, q3⟩ := last b hb
      split
      · next e => subst e; exact ⟨q1, by show (0 : Int) ≤ (i : Int); omega, by show (i : Int) < ((i + 1 : Nat) : Int); omega⟩
      · exact ⟨q1, q2, by omega⟩
    · rw [ln, gS, if_pos rfl]; simp
    · rw [ln] at hb
      rw [gS b, if_neg (by omega), getD_set _ _ _ _ _ (by omega)]
      obtain ⟨q1, q2⟩ := step b hb
      have q3 := (last b (by omega)).2.1
      rw [if_neg (by omega)]
      exact ⟨by omega, q2⟩
theorem P2I_all (n : Nat) (L : List Bool) (h0 : L.getD 0 false = true) : ∀ i, i ≤ n → P2I n i (p2Up L n i)
  | 0, _ => P2I_zero n L
  | i + 1, h => P2I_step n i L _ (by omega) (P2I_all n L h0 i (by omega)) (fun _ => h0)
/-- where a block goes on -/
noncomputable def nextOf (x : MInstr) (fall : Bool) (f t : Int) : List Int :=
  let a := if x.op = 25 ∨ x.op = 29 then [] else if fall = true then [f] else []
  if goes x.op = true ∧ (a = [] ∨ a.getD 0 0 ≠ t) then a ++ [t] else a
noncomputable def nxt (l : List MInstr) (s : List MBlock × List Int) (b : Nat) : List Int :=
  let x := l.getD (s.1.getD b zBlock).last.toNat zInstr
  nextOf x (decide (b + 1 < s.1.length)) ((b : Int) + 1) (s.2.getD x.c.toNat 0)
def p3Up (f : Nat → List Int) (out : List MBlock) : Nat → List MBlock
  | 0 => out
  | b + 1 => (p3Up f out b).set b { out.getD b zBlock with nxt := f b }
theorem p3Up_len (f : Nat → List Int) (out : List MBlock) : ∀ b, (p3Up f out b).length = out.length
  | 0 => rfl
  | b + 1 => by unfold p3Up; rw [List.length_set]; exact p3Up_len f out b
theorem p3Up_at (f : Nat → List Int) (out : List MBlock) : ∀ b j, b ≤ j → (p3Up f out b).getD j zBlock = out.getD j zBlock
  | 0, _, _ => rfl
  | b + 1, j, h => by
    unfold p3Up
    rw [List.getD_eq_getElem?_getD, List.getElem?_set, if_neg (by omega), ← List.getD_eq_getElem?_getD]
    exact p3Up_at f out b j (by omega)
theorem nxt_spec {n : Nat} {s : List MBlock × List Int} (h : P2I n n s) (b : Nat) (hb : b < s.1.length) (fall : Bool) (hf : fall = decide ((s.1.getD b zBlock).last + 1 < (n : Int))) : fall = decide (b + 1 < s.1.length) ∧ (fall = true → s.2.getD ((s.1.getD b zBlock).last + 1).toNat 0 = (b : Int) + 1) := by
  subst hf
  by_cases h1 : b + 1 < s.1.length
  · obtain ⟨q1, q2⟩ := h.step b h1
    exact ⟨by rw [decide_eq_true q1, decide_eq_true h1], fun _ => q2⟩
  · obtain rfl : b = s.1.length - 1 := by omega
    have q := h.fin (by omega)
    have e : ¬ (s.1.getD (s.1.length - 1) zBlock).last + 1 < (n : Int) := by omega
    exact ⟨by simp only [decide_eq_false e, decide_eq_false h1], fun hh => absurd (of_decide_eq_true hh) e⟩
/-- the blocks of code -/
noncomputable def blocksOf (l : List MInstr) : List MBlock :=
  @ite _ (good l) (Classical.propDecidable _) (p3Up (nxt l (p2Up (leadUp l l.length) l.length l.length)) (p2Up (leadUp l l.length) l.length l.length).1 (p2Up (leadUp l l.length) l.length l.length).1.length) []
theorem blocksOf_bad {l : List MInstr} (h : ¬ good l) : blocksOf l = [] := by unfold blocksOf; exact if_neg h
theorem blocksOf_good {l : List MInstr} (h : good l) : blocksOf l = p3Up (nxt l (p2Up (leadUp l l.length) l.length l.length)) (p2Up (leadUp l l.length) l.length l.length).1 (p2Up (leadUp l l.length) l.length l.length).1.length := by unfold blocksOf; exact if_pos h
def encBlock2 (x : MBlock) : AVal := .agg [i64 x.first, i64 x.last, nilS]
@[simp] theorem frz_enc2 (r g : Nat) (xs : List AVal) (x : MBlock) : frz r g xs (encBlock2 x) = encBlock2 x := by simp [encBlock2, frz, frz.frzs]
theorem p3_take (f : Nat → List Int) (out : List MBlock) (b : Nat) (hb : b < out.length) : (p3Up f out (b + 1)).take (b + 1) = (p3Up f out b).take b ++ [{ out.getD b zBlock with nxt := f b }] := by
  have hl := p3Up_len f out b
  have e : p3Up f out (b + 1) = (p3Up f out b).set b { out.getD b zBlock with nxt := f b } := rfl
  rw [e, List.take_add_one, List.take_set_of_le (Nat.le_refl _), List.getElem?_set_self (by omega)]
  rfl
theorem good_len {l : List MInstr} (h : good l = true) : 1 ≤ l.length ∧ l.length ≤ 1024 := by
  unfold good at h; simp at h; omega
theorem good_fits {l : List MInstr} (h : good l = true) {i : Nat} (hi : i < l.length) (hg : goes l[i].op = true) : 0 ≤ l[i].c ∧ l[i].c < l.length := by
  unfold good at h
  simp only [Bool.and_eq_true, List.all_eq_true] at h
  have := h.2 l[i] (List.getElem_mem _)
  simpa [fits, hg] using this
theorem S_specBlocksOf {l : List MInstr} {h : AHeap} {Q : KA} (hq : Q (.sl ((blocksOf l).map encBlock)) h) : @clM Try.prog 24 [.sl (l.map encInstr)] h ⟨Q⟩ := by
  refine cl_of fn_spec_BlocksOf (D_spec_BlocksOf_of ?_)
  unfold D_spec_BlocksOf
  simp [↓go]
  intro g1
  refine S_l5Good ?_
  simp [↓go]
  refine ⟨fun hb => ?_, fun hg => ?_⟩
  · refine wk_of (Wk.fzL (p := 0) rfl (l' := []) trivial (Wk.refl ?_))
    rw [blocksOf_bad (by simp [hb])] at hq
    simpa [frz] using hq
  have hn := good_len hg
  rw [w64 (by omega) (by omega)]
  simp [↓go]
  refine ⟨by omega, by omega, by omega, fun g2 => ⟨by omega, ?_⟩⟩
  refine lp_inv (fun s h' => ∃ i : Nat, i ≤ l.length ∧ h' = h ++ [.row g1 3 [], .row g2 1 ((leadUp l i).map bl)] ∧ s = [.rf h.length g1 0 0, i64 l.length, .sl (l.map encInstr), .rf (h.length+1) g2 0 (l.length+1), i64 i]) (fun s _ => l.length - natA (nthA s 4)) (Wk.refl ⟨0, by omega, ?_, rfl⟩) ?_
  · simp [leadUp]
  rintro _ _ ⟨i, hi, rfl, rfl⟩
  simp [↓go]
  refine ⟨fun hlt => ?_, fun hge => ?_⟩
  · refine jn_cut (fun s h' => h' = h ++ [.row g1 3 [], .row g2 1 ((leadUp l (i + 1)).map bl)] ∧ s = [.rf h.length g1 0 0, i64 l.length, .sl (l.map encInstr), .rf (h.length+1) g2 0 (l.length+1), i64 i]) ?_ ?_
    · refine jn_cut (fun s h' => h' = h ++ [.row g1 3 [], .row g2 1 ((if goes l[i].op = true then (leadUp l i).set l[i].c.toNat true else leadUp l i).map bl)] ∧ s = [.rf h.length g1 0 0, i64 l.length, .sl (l.map encInstr), .rf (h.length+1) g2 0 (l.length+1), i64 i]) ?_ ?_
      · simp [↓go, hlt]
        refine S_l5Goes ?_
        simp [↓go, hlt]
        refine ⟨fun hgo => ?_, fun hgo => ?_⟩
        · have hf := good_fits hg hlt hgo
          refine ⟨by omega, by omega, by rw [leadUp_len]; omega, ?_⟩
          refine wk_ex ?_; exact ⟨by rw [if_pos hgo, set_tt], rfl⟩
        · refine wk_ex ?_; exact ⟨by rw [if_neg (by rw [hgo]; exact Bool.noConfusion)], rfl⟩
      · rintro _ _ ⟨rfl, rfl⟩
        have e2 : leadUp l (i + 1) = leadStep l (leadUp l i) i := rfl
        have hL : (if goes l[i].op = true then (leadUp l i).set l[i].c.toNat true else leadUp l i).length = l.length + 1 := by split <;> simp [leadUp_len]
        generalize hL1 : (if goes l[i].op = true then (leadUp l i).set l[i].c.toNat true else leadUp l i) = L1 at hL
        refine jn_cut (fun s h' => h' = h ++ [.row g1 3 [], .row g2 1 (L1.map bl)] ∧ s = [.rf h.length g1 0 0, i64 l.length, .sl (l.map encInstr), .rf (h.length+1) g2 0 (l.length+1), i64 i, bl (goes l[i].op || decide (l[i].op = 29))]) ?_ ?_
        · simp [↓go, hlt]
          refine S_l5Goes ?_
          simp [↓go, hlt]
          refine ⟨fun hgo => ?_, fun hgo => ?_⟩
          · refine wk_ex ?_; exact ⟨rfl, by rw [hgo]; rfl⟩
          · refine wk_ex ?_; exact ⟨rfl, by rw [hgo]; rfl⟩
        · rintro _ _ ⟨rfl, rfl⟩
          simp [↓go]
          rw [w64 (by omega) (by omega)]
          refine ⟨fun hgo => ?_, fun hgo => ?_⟩
          · refine ⟨by omega, by omega, by omega, ?_⟩
            refine wk_ex ?_; refine ⟨?_, rfl⟩
            rw [e2]; unfold leadStep
            simp [hlt]
            rw [if_pos hgo, hL1]; simp
          · intro hgo2
            refine wk_ex ?_; refine ⟨?_, rfl⟩
            rw [e2]; unfold leadStep
            simp [hlt]
            rw [if_neg (by simp [hgo, hgo2]), hL1]
    · rintro _ _ ⟨rfl, rfl⟩
      simp [↓go]
      rw [w64 (by omega) (by omega)]
      refine wk_ex ?_
      refine And.intro ⟨i + 1, by omega, rfl, rfl⟩ ?_
      simp; omega
  · obtain rfl : i = l.length := by omega
    refine ⟨by omega, by omega, fun g3 => ?_⟩
    refine lp_inv (fun s h' => ∃ (i g : Nat), i ≤ l.length ∧ h' = h ++ [.row g 3 ((p2Up (leadUp l l.length) l.length i).1.map encBlock2), .row g2 1 ((leadUp l l.length).map bl), .row g3 1 ((p2Up (leadUp l l.length) l.length i).2.map i64)] ∧ s = [.rf h.length g 0 (p2Up (leadUp l l.length) l.length i).1.length, .rf (h.length + 2) g3 0 l.length, i64 l.length, .sl (l.map encInstr), i64 i, .rf (h.length+1) g2 0 (l.length+1)]) (fun s _ => l.length - natA (nthA s 4)) (Wk.refl ⟨0, g1, by omega, ?_, rfl⟩) ?_
    · simp [p2Up]
    rintro _ _ ⟨i, g, hi, rfl, rfl⟩
    have hI := P2I_all l.length (leadUp l l.length) (by rw [List.getD_eq_getElem?_getD, leadUp_zero]; rfl) i hi
    have e2 : p2Up (leadUp l l.length) l.length (i + 1) = p2 (leadUp l l.length) (p2Up (leadUp l l.length) l.length i) i := rfl
    generalize hst : p2Up (leadUp l l.length) l.length i = st at hI e2 ⊢
    obtain ⟨out, num⟩ := st
    simp [↓go]
    refine ⟨fun hlt => ?_, fun hge => ?_⟩
    · refine jn_cut (fun s h' => ∃ g, ∃ out2, out2 = (if (leadUp l l.length).getD i false = true then out ++ [⟨i, 0, []⟩] else out) ∧ h' = h ++ [.row g 3 (out2.map encBlock2), .row g2 1 ((leadUp l l.length).map bl), .row g3 1 (num.map i64)] ∧ s = [.rf h.length g 0 out2.length, .rf (h.length + 2) g3 0 l.length, i64 l.length, .sl (l.map encInstr), .rf (h.length+1) g2 0 (l.length+1), i64 i]) ?_ ?_
      · obtain ⟨b, hb⟩ : ∃ b, (leadUp l l.length)[i]? = some b := ⟨_, List.getElem?_eq_getElem (by rw [leadUp_len]; omega)⟩
        simp [↓go, hlt, leadUp_len, hb]
        have hle : out.length ≤ i := hI.le
        refine ⟨by omega, by omega, fun hbt g4 => ⟨by omega, by unfold maxLen; omega, fun g5 => ?_⟩, fun hbf => ?_⟩
        · refine wk_pre (l := [_, _, _]) (m := [_]) ?_
          refine ⟨g5, out ++ [⟨i, 0, []⟩], by rw [if_pos (by simp [hb, hbt])], ?_, ?_⟩
          · simp [encBlock2, List.take_of_length_le]
          · simp
        · refine wk_ex ?_
          exact ⟨g, out, by rw [if_neg (by simp [hb, hbf])], rfl, rfl⟩
      · rintro _ _ ⟨g, out2, ho, rfl, rfl⟩
        have hp : 0 < out2.length := by
          rw [ho]
          split
          · simp
          · rename_i hL
            refine hI.ne (Nat.pos_of_ne_zero (fun e => ?_))
            subst e
            exact hL (by rw [List.getD_eq_getElem?_getD, leadUp_zero]; rfl)
        have hl2 : out2.length ≤ l.length := by
          have : out.length ≤ i := hI.le
          rw [ho]; split <;> simp <;> omega
        have hnl : num.length = l.length := hI.len
        simp [↓go, hlt, hnl]
        rw [w64 (by omega) (by omega), w64 (by omega) (by omega)]
        have ht : ((out2.length : Int) - 1).toNat = out2.length - 1 := by omega
        have hx : out2[((out2.length : Int) - 1).toNat]? = some (out2.getD (out2.length - 1) zBlock) := by
          rw [ht, List.getD_eq_getElem?_getD, List.getElem?_eq_getElem (by omega)]; rfl
        refine ⟨by omega, by omega, by omega, wk_ex ?_⟩
        refine And.intro ⟨i + 1, g, by omega, ?_, ?_⟩ ?_
        · rw [e2]; unfold p2
          simp only [← ho]
          rw [hx, set_i64]
          simp [setLast, encBlock2, List.map_set, ht]
        · rw [e2]; unfold p2
          simp only [← ho]
          simp [setLast]
        · simp; omega
    · obtain rfl : i = l.length := by omega
      have hnl : num.length = l.length := hI.len
      have hol : out.length ≤ l.length := hI.le
      have hbl : blocksOf l = p3Up (nxt l (out, num)) out out.length := by rw [blocksOf_good hg, hst]
      rw [hbl] at hq
      refine lp_inv (fun s h' => ∃ b, b ≤ out.length ∧ h' = h ++ [.row g 3 (((p3Up (nxt l (out, num)) out b).take b).map encBlock ++ (out.drop b).map encBlock2), .row g2 1 ((leadUp l l.length).map bl), .row g3 1 (num.map i64)] ∧ s = [.rf h.length g 0 out.length, i64 b, .rf (h.length + 2) g3 0 l.length, i64 l.length, .sl (l.map encInstr)]) (fun s _ => out.length - natA (nthA s 1)) (Wk.refl ⟨0, by omega, by simp, rfl⟩) ?_
      rintro _ _ ⟨b, hb, rfl, rfl⟩
      have hA : (((p3Up (nxt l (out, num)) out b).take b).map encBlock).length = b := by simp [p3Up_len]; omega
      have hA1 := fun hb => congrArg (List.map encBlock) (p3_take (nxt l (out, num)) out b hb)
      have hA2 : b = out.length → ((p3Up (nxt l (out, num)) out b).take b).map encBlock = (p3Up (nxt l (out, num)) out out.length).map encBlock := fun e => by subst e; rw [List.take_of_length_le (by rw [p3Up_len]; exact Nat.le_refl _)]
      have hAf : ∀ r g xs, (((p3Up (nxt l (out, num)) out b).take b).map encBlock).map (frz r g xs) = ((p3Up (nxt l (out, num)) out b).take b).map encBlock := fun r g xs => by simp [List.map_map, Function.comp_def]
      simp only [List.map_append] at hA1
      generalize ((p3Up (nxt l (out, num)) out b).take b).map encBlock = A at hA hA1 hA2 hAf ⊢
      rcases Nat.lt_or_ge b out.length with hbt | hbf
      · have hxl := hI.last b hbt
        have hns := nxt_spec hI b hbt
        have hA1 := hA1 hbt
        have hd : (out.drop b).map encBlock2 = encBlock2 (out.getD b zBlock) :: (out.drop (b + 1)).map encBlock2 := by
          rw [List.drop_eq_getElem_cons hbt, List.getD_eq_getElem?_getD, List.getElem?_eq_getElem hbt]; rfl
        rw [hd]
        have hxx : (out, num).1.getD b zBlock = out.getD b zBlock := rfl
        rw [hxx] at hxl hns
        have hnx : nxt l (out, num) b = nextOf (l.getD (out.getD b zBlock).last.toNat zInstr) (decide (b + 1 < out.length)) ((b : Int) + 1) (num.getD (l.getD (out.getD b zBlock).last.toNat zInstr).c.toNat 0) := rfl
        rw [hnx] at hA1
        generalize out.getD b zBlock = x at hxl hns hA1 hd ⊢
        obtain ⟨hx0, hx1, hx2⟩ := hxl
        have hins : l[x.last.toNat]? = some (l.getD x.last.toNat zInstr) := by
          rw [List.getD_eq_getElem?_getD, List.getElem?_eq_getElem (by omega)]; rfl
        have hgf : goes (l.getD x.last.toNat zInstr).op = true → 0 ≤ (l.getD x.last.toNat zInstr).c ∧ (l.getD x.last.toNat zInstr).c < l.length := by
          rw [List.getD_eq_getElem?_getD, List.getElem?_eq_getElem (by omega)]
          exact good_fits hg (by omega)
        generalize l.getD x.last.toNat zInstr = ins at hins hgf hA1 ⊢
        have hns := hns _ rfl
        have hn1 : decide (x.last + 1 < (l.length : Int)) = decide (b + 1 < out.length) := hns.1
        have hn2 : decide (x.last + 1 < (l.length : Int)) = true → num.getD (x.last + 1).toNat 0 = (b : Int) + 1 := hns.2
        have hw : IntKind.i64.wrap (x.last + 1) = x.last + 1 := w64 (by omega) (by omega)
        simp [↓go, hbt, hA, encBlock2, hins, hx1, hx2]
        intro g5 g6
        have ea : ∃ a, a = (if ins.op = 25 ∨ ins.op = 29 then [] else if b + 1 < out.length then [(b : Int) + 1] else []) := ⟨_, rfl⟩
        obtain ⟨a, ha⟩ := ea
        refine jn_cut (fun s h' => ∃ g7, h' = h ++ [.row g 3 (A ++ encBlock2 x :: (out.drop (b + 1)).map encBlock2), .row g2 1 ((leadUp l l.length).map bl), .row g3 1 (num.map i64), .row g5 4 [encInstr ins], .row g7 1 (a.map i64)] ∧ s = [.rf h.length g 0 out.length, .rf (h.length + 2) g3 0 l.length, i64 l.length, .sl (l.map encInstr), i64 b, .rf (h.length + 4) g7 0 a.length, .pt (h.length + 3) g5 0 0]) ?_ ?_
        · refine jn_cut (fun s h' => h' = h ++ [.row g 3 (A ++ encBlock2 x :: (out.drop (b + 1)).map encBlock2), .row g2 1 ((leadUp l l.length).map bl), .row g3 1 (num.map i64), .row g5 4 [encInstr ins], .row g6 1 []] ∧ s = [.rf h.length g 0 out.length, .rf (h.length + 2) g3 0 l.length, i64 l.length, .sl (l.map encInstr), i64 b, .rf (h.length + 4) g6 0 0, .pt (h.length + 3) g5 0 0, bl (!(decide (ins.op = 25) || decide (ins.op = 29)) && decide (x.last + 1 < (l.length : Int)))]) ?_ ?_
          · simp [↓go, encInstr, hbt, hA, encBlock2, hins, hw]
            refine ⟨fun q1 => ⟨fun q2 => ?_, fun q2 => ?_⟩, fun q1 => ?_⟩
            · refine wk_ex ?_; exact ⟨by simp [encInstr, encBlock2], by simp [q1, q2]⟩
            · refine wk_ex ?_; exact ⟨by simp [encInstr, encBlock2], by simp [q2]⟩
            · refine wk_ex ?_; exact ⟨by simp [encInstr, encBlock2], by simp [q1]⟩
          · rintro _ _ ⟨rfl, rfl⟩
            simp [↓go, hbt, hA, encBlock2, hins, hw, hnl]
            refine ⟨fun q1 q2 q3 => ?_, fun q1 => ?_⟩
            · have hnum := hn2 (decide_eq_true q3)
              have hlt3 : (x.last + 1).toNat < num.length := by omega
              have hnum : num[(x.last + 1).toNat]? = some ((b : Int) + 1) := by
                rw [← hnum, List.getD_eq_getElem?_getD, List.getElem?_eq_getElem hlt3]; rfl
              simp [hnum]
              have hbl : b + 1 < out.length := of_decide_eq_true (hn1.symm.trans (decide_eq_true q3))
              refine ⟨by omega, by omega, by omega, fun g8 => ⟨by unfold maxLen; omega, fun g9 => ?_⟩⟩
              refine wk_pre (l := [_, _, _, _, _]) (m := [_]) ?_
              have ha2 : a = [(b : Int) + 1] := by rw [ha, if_neg (by omega), if_pos hbl]
              subst ha2
              exact ⟨g9, by simp [encBlock2], rfl⟩
            · have ha2 : a = [] := by
                rw [ha]
                by_cases q2 : ins.op = 25 ∨ ins.op = 29
                · rw [if_pos q2]
                · rw [if_neg q2, if_neg]
                  intro q3
                  exact absurd (q1 (by omega) (by omega)) (by have := of_decide_eq_true (hn1.trans (decide_eq_true q3)); omega)
              subst ha2
              refine wk_ex ?_; exact ⟨g6, by simp [encBlock2], rfl⟩
        · rintro _ _ ⟨g7, rfl, rfl⟩
          have eN : nextOf ins (decide (b + 1 < out.length)) ((b : Int) + 1) (num.getD ins.c.toNat 0) = (if goes ins.op = true ∧ (a = [] ∨ a.getD 0 0 ≠ num.getD ins.c.toNat 0) then a ++ [num.getD ins.c.toNat 0] else a) := by
            unfold nextOf
            have : (if ins.op = 25 ∨ ins.op = 29 then [] else if decide (b + 1 < out.length) = true then [(b : Int) + 1] else []) = a := by rw [ha]; simp
            simp only [this]
          rw [eN] at hA1
          have ea : ∃ z, z = (if goes ins.op = true ∧ (a = [] ∨ a.getD 0 0 ≠ num.getD ins.c.toNat 0) then a ++ [num.getD ins.c.toNat 0] else a) := ⟨_, rfl⟩
          obtain ⟨z, hz⟩ := ea
          rw [← hz] at hA1
          have hal : a.length ≤ 1 := by rw [ha]; split <;> (try split) <;> simp
          refine jn_cut (fun s h' => ∃ g9, h' = h ++ [.row g 3 (A ++ encBlock2 x :: (out.drop (b + 1)).map encBlock2), .row g2 1 ((leadUp l l.length).map bl), .row g3 1 (num.map i64), .row g5 4 [encInstr ins], .row g9 1 (z.map i64)] ∧ s = [.rf h.length g 0 out.length, .rf (h.length + 2) g3 0 l.length, i64 l.length, .sl (l.map encInstr), i64 b, .rf (h.length + 4) g9 0 z.length]) ?_ ?_
          · refine jn_cut (fun s h' => h' = h ++ [.row g 3 (A ++ encBlock2 x :: (out.drop (b + 1)).map encBlock2), .row g2 1 ((leadUp l l.length).map bl), .row g3 1 (num.map i64), .row g5 4 [encInstr ins], .row g7 1 (a.map i64)] ∧ s = [.rf h.length g 0 out.length, .rf (h.length + 2) g3 0 l.length, i64 l.length, .sl (l.map encInstr), i64 b, .rf (h.length + 4) g7 0 a.length, .pt (h.length + 3) g5 0 0, bl (goes ins.op && (decide (a = []) || decide (a.getD 0 0 ≠ num.getD ins.c.toNat 0)))]) ?_ ?_
            · simp [↓go]
              refine S_l5Goes ?_
              simp [↓go, hnl, encInstr]
              refine ⟨fun q1 => ?_, fun q1 => ?_⟩
              · have hc := hgf q1
                obtain ⟨t, hci⟩ : ∃ t, num[ins.c.toNat]? = some t := ⟨_, List.getElem?_eq_getElem (by omega)⟩
                clear ha hz hA1 eN
                cases a with
                | nil => simp; refine wk_ex ?_; exact ⟨by simp [encInstr], by simp [q1]⟩
                | cons a0 ar =>
                  simp [↓go, hci]
                  refine ⟨by omega, by omega, by omega, ?_⟩
                  refine wk_ex ?_; exact ⟨by simp [encInstr], by simp [q1, hci]⟩
              · refine wk_ex ?_; exact ⟨by simp [encInstr], by simp [q1]⟩
            · rintro _ _ ⟨rfl, rfl⟩
              by_cases q1 : goes ins.op = true ∧ (a = [] ∨ a.getD 0 0 ≠ num.getD ins.c.toNat 0)
              · have hc := hgf q1.1
                obtain ⟨t, hci⟩ : ∃ t, num[ins.c.toNat]? = some t := ⟨_, List.getElem?_eq_getElem (by omega)⟩
                rw [if_pos q1] at hz
                clear ha hA1 eN
                simp [↓go, hnl, encInstr, hci] at q1 hz ⊢
                refine ⟨fun _ _ => ⟨by omega, by omega, by omega, fun g8 => ⟨by omega, by unfold maxLen; omega, fun g9 => ?_⟩⟩, fun hh => ?_⟩
                · refine wk_pre (l := [_, _, _, _, _]) (m := [_]) ?_
                  subst hz
                  exact ⟨g9, by simp [encInstr, List.take_of_length_le], by simp⟩
                · exfalso
                  have := hh q1.1
                  rcases q1.2 with q | q
                  · exact this.1 q
                  · exact q this.2
              · rw [if_neg q1] at hz
                subst hz
                clear ha hA1 eN
                simp [↓go, hnl, encInstr]
                refine ⟨fun p1 p3 => absurd ⟨p1, by simpa using p3⟩ q1, fun _ => ?_⟩
                · refine wk_ex ?_; exact ⟨g7, by simp [encInstr], rfl⟩
          · rintro _ _ ⟨g9, rfl, rfl⟩
            simp [↓go, hbt, hA, encBlock2]
            rw [w64 (by omega) (by omega)]
            refine wk_of (Wk.fzL (p := 4) (l' := [.row g 3 ((A ++ [encBlock ⟨x.first, x.last, z⟩]) ++ (out.drop (b + 1)).map encBlock2), .row g2 1 ((leadUp l l.length).map bl), .row g3 1 (num.map i64)]) rfl ⟨fz1_map _ _ ?_, fz1_same _, fz1_same _, trivial⟩ (Wk.refl ?_))
            · have et : z.map i64 = (z.map i64).take z.length := (List.take_of_length_le (by simp)).symm
              simp only [List.map_append, List.map_cons, hAf]
              simp [frz, frz.frzs, encBlock, Function.comp_def]
              exact et
            · refine And.intro ⟨b + 1, by omega, ?_, ?_⟩ ?_
              · rw [hA1]; rfl
              · simp [frz]
              · simp [frz]; omega
      · obtain rfl : b = out.length := by omega
        simp [↓go]
        refine wk_of (Wk.fzL (p := 0) rfl (l' := []) trivial (Wk.refl ?_))
        have e := hA2 rfl
        subst e
        simpa [frz, p3Up_len, List.take_of_length_le] using hq
theorem O_implBlocksOf {l : List MInstr} {h : AHeap} {Q : KA} (q : ∀ y k, Made h y (encL encBlock (blocksOf l)) k → Q y (h ++ k)) : @clM Try.prog 26 [encL encInstr l] h ⟨Q⟩ := by
  refine cl_of fn_impl_BlocksOf (D_impl_BlocksOf_of ?_)
  unfold D_impl_BlocksOf
  have hnil : ∀ k : AHeap, good l = false → retW nilS (h ++ k) Q := fun k e => by
    rw [blocksOf_bad (by rw [e]; simp)] at q
    exact wk_of (Wk.made (rs := []) (.nl .nil) (by simp) (fun l' hm => q _ _ hm))
  simp [↓go]
  refine jn_cut (fun s h' => h = h' ∧ s = [encL encInstr l, i64 l.length, bl (!decide (1 ≤ (l.length : Int) ∧ (l.length : Int) ≤ 1024))]) ?_ ?_
  · simp [↓go]
    repeat' (first | apply And.intro | intro _)
    · refine wk_ex ⟨rfl, ?_⟩
      rw [decide_eq_false (by omega)]; rfl
    · refine wk_ex ⟨rfl, ?_⟩
      rw [bl_iff (b := decide (1024 < (l.length : Int)))]
      simp only [Bool.not_eq_true', decide_eq_true_eq, decide_eq_false_iff_not]; omega
  rintro _ _ ⟨rfl, rfl⟩
  simp [↓go]
  refine ⟨fun h1 => ?_, fun h1 h2 => ?_⟩
  · have := hnil [] (by unfold good; rw [Bool.eq_false_iff]; simp; omega)
    simpa using this
  rw [w64 (by omega) (by omega)]
  simp [↓go]
  refine ⟨by omega, by omega, by omega, fun g1 => ⟨by omega, ?_⟩⟩
  refine lp_inv (fun s h' => ∃ i : Nat, i ≤ l.length ∧ (∀ j < i, fits l.length (l.getD j zInstr) = true) ∧ h' = h ++ [.row g1 1 ((leadUp l i).map bl)] ∧ s = [encL encInstr l, .rf h.length g1 0 (l.length+1), i64 l.length, i64 i, i64 l.length]) (fun s _ => l.length - natA (nthA s 3)) (Wk.refl ⟨0, by omega, fun j hj => by omega, ?_, rfl⟩) ?_
  · simp [leadUp]
  rintro _ _ ⟨i, hi, hfit, rfl, rfl⟩
  simp [↓go]
  refine ⟨fun hlt => ?_, fun hge => ?_⟩
  · have hli : l.getD i zInstr = l[i] := by simp [hlt]
    have hgi : l[i]? = some l[i] := List.getElem?_eq_getElem hlt
    generalize hx : l[i] = x at hli hgi
    refine jn_cut (fun s h' => ∃ (_ : fits l.length x = true), h' = h ++ [.row g1 1 ((leadUp l (i + 1)).map bl)] ∧ s = [encL encInstr l, .rf h.length g1 0 (l.length+1), i64 l.length, i64 l.length, i64 i]) ?_ ?_
    rotate_left
    · rintro _ _ ⟨hf, rfl, rfl⟩
      simp [↓go]
      rw [w64 (by omega) (by omega)]
      refine wk_ex (And.intro ⟨i + 1, by omega, fun j hj => ?_, rfl, rfl⟩ ?_)
      · rcases Nat.lt_succ_iff_lt_or_eq.1 hj with h | rfl
        · exact hfit j h
        · rw [hli]; exact hf
      · simp; omega
    simp [↓go, hgi, hlt, hx]
    refine jn_cut (fun s h' => ∃ (_ : fits l.length x = true), h' = h ++ [.row g1 1 ((if goes x.op = true then (leadUp l i).set x.c.toNat true else leadUp l i).map bl)] ∧ s = [encL encInstr l, .rf h.length g1 0 (l.length+1), i64 l.length, i64 l.length, i64 i, i64 i, .fp (encInstr x)]) ?_ ?_
    · have hgd : (List.map encInstr l).getD ((i : Int)).toNat AVal.dead = encInstr x := by simp [hlt, hx]
      rw [hgd]
      refine S_names ?_
      simp [↓go, encInstr]
      refine ⟨fun hgo => ?_, fun hgo => ?_⟩
      · refine S_below ?_
        have hff : fits l.length x = decide (0 ≤ x.c ∧ x.c < (l.length : Int)) := by unfold fits; rw [hgo]; simp
        generalize hfb : decide (0 ≤ x.c ∧ x.c < (l.length : Int)) = fb at hff
        cases fb with
        | false =>
          simp [↓go]
          refine hnil _ ?_
          rw [Bool.eq_false_iff]; unfold good
          intro hg
          simp only [Bool.and_eq_true, List.all_eq_true] at hg
          have := hg.2 l[i] (List.getElem_mem _)
          rw [hx, hff] at this; cases this
        | true =>
          have hc := of_decide_eq_true hfb
          simp [↓go]
          refine ⟨by omega, by omega, by rw [leadUp_len]; omega, ?_⟩
          refine wk_ex ⟨hff, ?_, rfl⟩
          rw [if_pos hgo, List.map_set]
      · refine wk_ex ⟨by unfold fits; rw [hgo]; rfl, by rw [if_neg (by rw [hgo]; simp)], rfl⟩
    · rintro _ _ ⟨hf, rfl, rfl⟩
      have e2 : leadUp l (i + 1) = leadStep l (leadUp l i) i := rfl
      unfold leadStep at e2
      rw [hli] at e2
      have hL : (if goes x.op = true then (leadUp l i).set x.c.toNat true else leadUp l i).length = l.length + 1 := by split <;> simp [leadUp_len]
      generalize (if goes x.op = true then (leadUp l i).set x.c.toNat true else leadUp l i) = L1 at hL e2
      refine jn_cut (fun s h' => h' = h ++ [.row g1 1 (L1.map bl)] ∧ s = [encL encInstr l, .rf h.length g1 0 (l.length+1), i64 l.length, i64 l.length, i64 i, i64 i, bl (goes x.op || decide (x.op = 29))]) ?_ ?_
      · refine S_names ?_
        simp [↓go, encInstr]
        refine ⟨fun hgo => ?_, fun hgo => ?_⟩
        · exact wk_ex ⟨rfl, by rw [hgo]; rfl⟩
        · exact wk_ex ⟨rfl, by rw [hgo]; rfl⟩
      · rintro _ _ ⟨rfl, rfl⟩
        simp [↓go]
        rw [w64 (by omega) (by omega)]
        refine ⟨fun hgo => ⟨by omega, by omega, by omega, ?_⟩, fun hgo hgo2 => ?_⟩
        · refine wk_ex ⟨hf, ?_, rfl⟩
          rw [e2]
          dsimp only
          rw [if_pos hgo, List.map_set, show ((i : Int) + 1).toNat = i + 1 by omega]
        · refine wk_ex ⟨hf, ?_, rfl⟩
          rw [e2]
          dsimp only
          rw [if_neg (by simp [hgo, hgo2])]
  · obtain rfl : i = l.length := by omega
    have hg : good l = true := by
      unfold good
      simp
      refine ⟨⟨by omega, by omega⟩, fun x hx => ?_⟩
      obtain ⟨j, hj, rfl⟩ := List.getElem_of_mem hx
      have := hfit j hj
      simpa [hj] using this
    clear hfit hnil
    intro g2
    refine ⟨by omega, by omega, fun g3 => ?_⟩
    refine lp_inv (fun s h' => ∃ (i g : Nat), i ≤ l.length ∧ h' = h ++ [.row g1 1 ((leadUp l l.length).map bl), .row g 3 ((p2Up (leadUp l l.length) l.length i).1.map encBlock2), .row g3 1 ((p2Up (leadUp l l.length) l.length i).2.map i64)] ∧ s = [.rf (h.length + 1) g 0 (p2Up (leadUp l l.length) l.length i).1.length, .rf (h.length + 2) g3 0 l.length, encL encInstr l, i64 i, .rf h.length g1 0 (l.length+1), i64 l.length]) (fun s _ => l.length - natA (nthA s 3)) (Wk.refl ⟨0, g2, by omega, ?_, rfl⟩) ?_
    · simp [p2Up]
    rintro _ _ ⟨i, g, hi, rfl, rfl⟩
    have hI := P2I_all l.length (leadUp l l.length) (by rw [List.getD_eq_getElem?_getD, leadUp_zero]; rfl) i hi
    have e2 : p2Up (leadUp l l.length) l.length (i + 1) = p2 (leadUp l l.length) (p2Up (leadUp l l.length) l.length i) i := rfl
    generalize hst : p2Up (leadUp l l.length) l.length i = st at hI e2 ⊢
    obtain ⟨out, num⟩ := st
    simp [↓go]
    refine ⟨fun hlt => ?_, fun hge => ?_⟩
    · refine jn_cut (fun s h' => ∃ g, ∃ out2, out2 = (if (leadUp l l.length).getD i false = true then out ++ [⟨i, 0, []⟩] else out) ∧ h' = h ++ [.row g1 1 ((leadUp l l.length).map bl), .row g 3 (out2.map encBlock2), .row g3 1 (num.map i64)] ∧ s = [.rf (h.length + 1) g 0 out2.length, .rf (h.length + 2) g3 0 l.length, encL encInstr l, .rf h.length g1 0 (l.length+1), i64 l.length, i64 i]) ?_ ?_
      · obtain ⟨b, hb⟩ : ∃ b, (leadUp l l.length)[i]? = some b := ⟨_, List.getElem?_eq_getElem (by rw [leadUp_len]; omega)⟩
        simp [↓go, hlt, leadUp_len, hb]
        have hle : out.length ≤ i := hI.le
        refine ⟨by omega, by omega, fun hbt g4 => ⟨by omega, by unfold maxLen; omega, fun g5 => ?_⟩, fun hbf => ?_⟩
        · refine wk_pre (l := [_, _, _]) (m := [_]) ?_
          refine ⟨g5, out ++ [⟨i, 0, []⟩], by rw [if_pos (by simp [hb, hbt])], ?_, ?_⟩
          · simp [encBlock2, List.take_of_length_le]
          · simp
        · refine wk_ex ?_
          exact ⟨g, out, by rw [if_neg (by simp [hb, hbf])], rfl, rfl⟩
      · rintro _ _ ⟨g, out2, ho, rfl, rfl⟩
        have hp : 0 < out2.length := by
          rw [ho]
          split
          · simp
          · rename_i hL
            refine hI.ne (Nat.pos_of_ne_zero (fun e => ?_))
            subst e
            exact hL (by rw [List.getD_eq_getElem?_getD, leadUp_zero]; rfl)
        have hl2 : out2.length ≤ l.length := by
          have : out.length ≤ i := hI.le
          rw [ho]; split <;> simp <;> omega
        have hnl : num.length = l.length := hI.len
        simp [↓go, hlt, hnl]
        rw [w64 (by omega) (by omega), w64 (by omega) (by omega)]
        have ht : ((out2.length : Int) - 1).toNat = out2.length - 1 := by omega
        have hx : out2[((out2.length : Int) - 1).toNat]? = some (out2.getD (out2.length - 1) zBlock) := by
          rw [ht, List.getD_eq_getElem?_getD, List.getElem?_eq_getElem (by omega)]; rfl
        refine ⟨by omega, by omega, by omega, wk_ex ?_⟩
        refine And.intro ⟨i + 1, g, by omega, ?_, ?_⟩ ?_
        · rw [e2]; unfold p2
          simp only [← ho]
          rw [hx, set_i64]
          simp [setLast, encBlock2, List.map_set, ht]
        · rw [e2]; unfold p2
          simp only [← ho]
          simp [setLast]
        · simp; omega
    · obtain rfl : i = l.length := by omega
      have hnl : num.length = l.length := hI.len
      have hol : out.length ≤ l.length := hI.le
      have hbl : blocksOf l = p3Up (nxt l (out, num)) out out.length := by rw [blocksOf_good hg, hst]
      rw [hbl] at q
      refine lp_inv (fun s h' => ∃ (b : Nat) (ys : List AVal) (k : AHeap) (rs : List Nat), b ≤ out.length ∧ ys.length = b ∧ h' = h ++ (.row g1 1 ((leadUp l l.length).map bl) :: .row g 3 (ys ++ (out.drop b).map encBlock2) :: .row g3 1 (num.map i64) :: k) ∧ Own h' ys (((p3Up (nxt l (out, num)) out b).take b).map encBlock) rs ∧ (∀ r ∈ rs, h.length + 3 ≤ r) ∧ s = [.rf (h.length + 1) g 0 out.length, i64 b, .rf (h.length + 2) g3 0 l.length, encL encInstr l, i64 out.length]) (fun s _ => out.length - natA (nthA s 1)) (Wk.refl ⟨0, [], [], [], by omega, rfl, by simp, .nil, by simp, rfl⟩) ?_
      rintro _ _ ⟨b, ys, k, rs, hb, hyl, rfl, ho, hrs, rfl⟩
      rcases Nat.lt_or_ge b out.length with hbt | hbf
      rotate_left
      · obtain rfl : b = out.length := by omega
        simp [↓go]
        rw [List.take_of_length_le (by rw [p3Up_len]; exact Nat.le_refl _), List.drop_length, List.map_nil, List.append_nil] at ho
        exact wk_of (Wk.made (rs := (h.length + 1) :: rs) (Own.rf_mk (s := 3) (ys := ys) (by simp) hyl ho (fun hm => by have := hrs _ hm; omega)) (fun r hr => by
          rcases List.mem_cons.1 hr with rfl | hr
          · omega
          · have := hrs r hr; omega) (fun l' hm => q _ _ hm))
      have hxl := hI.last b hbt
      have hd : (out.drop b).map encBlock2 = encBlock2 (out.getD b zBlock) :: (out.drop (b + 1)).map encBlock2 := by
        rw [List.drop_eq_getElem_cons hbt, List.getD_eq_getElem?_getD, List.getElem?_eq_getElem hbt]; rfl
      have hxx : (out, num).1.getD b zBlock = out.getD b zBlock := rfl
      have hnx : nxt l (out, num) b = nextOf (l.getD (out.getD b zBlock).last.toNat zInstr) (decide (b + 1 < out.length)) ((b : Int) + 1) (num.getD (l.getD (out.getD b zBlock).last.toNat zInstr).c.toNat 0) := rfl
      have hA1 := p3_take (nxt l (out, num)) out b hbt
      rw [hnx] at hA1
      rw [hd]
      rw [hxx] at hxl
      generalize out.getD b zBlock = x at hxl hA1 hd ⊢
      obtain ⟨hx0, hx1, hx2⟩ := hxl
      have hins : l[x.last.toNat]? = some (l.getD x.last.toNat zInstr) := by
        rw [List.getD_eq_getElem?_getD, List.getElem?_eq_getElem (by omega)]; rfl
      have hgf : goes (l.getD x.last.toNat zInstr).op = true → 0 ≤ (l.getD x.last.toNat zInstr).c ∧ (l.getD x.last.toNat zInstr).c < l.length := by
        rw [List.getD_eq_getElem?_getD, List.getElem?_eq_getElem (by omega)]
        exact good_fits hg (by omega)
      generalize l.getD x.last.toNat zInstr = ins at hins hgf hA1 ⊢
      obtain ⟨hil, hil2⟩ := List.getElem?_eq_some_iff.1 hins
      have hgd : (List.map encInstr l).getD x.last.toNat AVal.dead = encInstr ins := by simp [hil2, hil]
      obtain ⟨rest, hrest⟩ : ∃ rest, rest = (out.drop (b + 1)).map encBlock2 := ⟨_, rfl⟩
      rw [← hrest]
      have hrl : b + 1 + rest.length = out.length := by rw [hrest]; simp; omega
      simp [↓go, hbt, encBlock2, hyl, hx1, hx2, hil]
      obtain ⟨a, ha⟩ : ∃ a, a = (if ins.op = 25 ∨ ins.op = 29 then [] else if b + 1 < out.length then [(b : Int) + 1] else []) := ⟨_, rfl⟩
      have eN : nextOf ins (decide (b + 1 < out.length)) ((b : Int) + 1) (num.getD ins.c.toNat 0) = (if goes ins.op = true ∧ (a = [] ∨ a.getD 0 0 ≠ num.getD ins.c.toNat 0) then a ++ [num.getD ins.c.toNat 0] else a) := by
        unfold nextOf
        have : (if ins.op = 25 ∨ ins.op = 29 then [] else if decide (b + 1 < out.length) = true then [(b : Int) + 1] else []) = a := by rw [ha]; simp
        simp only [this]
      rw [eN] at hA1
      obtain ⟨z, hz⟩ : ∃ z, z = (if goes ins.op = true ∧ (a = [] ∨ a.getD 0 0 ≠ num.getD ins.c.toNat 0) then a ++ [num.getD ins.c.toNat 0] else a) := ⟨_, rfl⟩
      rw [← hz] at hA1
      have hLr : (leadUp l l.length).length = l.length + 1 := leadUp_len l _
      generalize leadUp l l.length = LL at *
      have hw : IntKind.i64.wrap ((b : Int) + 1) = (b : Int) + 1 := w64 (by omega) (by omega)
      refine jn_cut (fun s h' => ∃ (y : AVal) (k1 : AHeap) (r1 : List Nat), h' = h ++ (.row g1 1 (LL.map bl) :: .row g 3 (ys ++ .agg [i64 x.first, i64 x.last, y] :: rest) :: .row g3 1 (num.map i64) :: (k ++ k1)) ∧ Own h' [y] [encL i64 z] r1 ∧ (∀ r ∈ r1, h.length + 3 + k.length ≤ r) ∧ s = [.rf (h.length + 1) g 0 out.length, .rf (h.length + 2) g3 0 l.length, encL encInstr l, i64 out.length, i64 b]) ?_ ?_
      rotate_left
      · rintro _ _ ⟨y, k1, r1, rfl, oy, br, rfl⟩
        simp [↓go, hw]
        have oy2 : Own (h ++ ([.row g1 1 (LL.map bl), .row g 3 (ys ++ .agg [i64 x.first, i64 x.last, y] :: rest), .row g3 1 (num.map i64)] ++ k) ++ k1) [.agg [i64 x.first, i64 x.last, y]] [encBlock ⟨x.first, x.last, z⟩] r1 := by
          have e : h ++ (.row g1 1 (LL.map bl) :: .row g 3 (ys ++ .agg [i64 x.first, i64 x.last, y] :: rest) :: .row g3 1 (num.map i64) :: (k ++ k1)) = h ++ ([.row g1 1 (LL.map bl), .row g 3 (ys ++ .agg [i64 x.first, i64 x.last, y] :: rest), .row g3 1 (num.map i64)] ++ k) ++ k1 := by simp
          rw [e] at oy
          exact Own.agg_mk (.v rfl (.v rfl oy))
        obtain ⟨o3, b3⟩ := Own.more (h := h) (bx := [.row g1 1 (LL.map bl), .row g 3 (ys ++ (out.drop b).map encBlock2), .row g3 1 (num.map i64)]) (bx' := [.row g1 1 (LL.map bl), .row g 3 (ys ++ .agg [i64 x.first, i64 x.last, y] :: rest), .row g3 1 (num.map i64)]) (L := k) (l1 := k1) ⟨ho, hrs⟩ rfl oy2 (fun r hr => by have := br r hr; simp; omega)
        refine wk_ex (And.intro ⟨b + 1, ys ++ [.agg [i64 x.first, i64 x.last, y]], k ++ k1, rs ++ r1, by omega, by simp [hyl], ?_, ?_, b3, rfl⟩ ?_)
        · simp [hrest]
        · rw [hA1, List.map_append]
          simpa [hrest] using o3
        · simp; omega
      simp [↓go, hbt, encBlock2, hyl, hx1, hx2, hil]
      rw [hgd]
      refine jn_cut (fun s h' => ∃ (y : AVal) (k1 : AHeap), ((a = [] ∧ y = nilS ∧ k1 = []) ∨ ∃ g6 g7, a = [(b : Int) + 1] ∧ y = .rf (h.length + (k.length + 1 + 1 + 1 + 1)) g7 0 1 ∧ k1 = [.row g6 1 [i64 ((b : Int) + 1)], .row g7 1 [i64 ((b : Int) + 1)]]) ∧ h' = h ++ (.row g1 1 (LL.map bl) :: .row g 3 (ys ++ .agg [i64 x.first, i64 x.last, y] :: rest) :: .row g3 1 (num.map i64) :: (k ++ k1)) ∧ s = [.rf (h.length + 1) g 0 out.length, .rf (h.length + 2) g3 0 l.length, encL encInstr l, i64 out.length, i64 b, .fp (encInstr ins), i64 b]) ?_ ?_
      · refine jn_cut (fun s h' => h' = h ++ (.row g1 1 (LL.map bl) :: .row g 3 (ys ++ .agg [i64 x.first, i64 x.last, nilS] :: rest) :: .row g3 1 (num.map i64) :: k) ∧ s = [.rf (h.length + 1) g 0 out.length, .rf (h.length + 2) g3 0 l.length, encL encInstr l, i64 out.length, i64 b, .fp (encInstr ins), i64 b, bl (decide (ins.op ≠ 25 ∧ ins.op ≠ 29) && decide (b + 1 < out.length))]) ?_ ?_
        · simp [↓go, encInstr, hbt, hyl, hw]
          repeat' (first | apply And.intro | intro _)
          all_goals (refine wk_ex ⟨rfl, ?_⟩; simp [encInstr, *] <;> omega)
        · rintro _ _ ⟨rfl, rfl⟩
          simp [↓go, hbt, hyl, hw]
          refine ⟨fun p1 p2 p3 g6 => ⟨by unfold maxLen; omega, fun g7 => ?_⟩, fun p1 => ?_⟩
          · refine wk_ex ⟨_, _, .inr ⟨g6, g7, ?_, rfl, rfl⟩, by simp, rfl⟩
            rw [ha, if_neg (by omega), if_pos p3]
          · refine wk_ex ⟨nilS, [], .inl ⟨?_, rfl, rfl⟩, by simp, rfl⟩
            rw [ha]
            by_cases p2 : ins.op = 25 ∨ ins.op = 29
            · rw [if_pos p2]
            · rw [if_neg p2, if_neg (by have := p1 (fun e => p2 (.inl e)) (fun e => p2 (.inr e)); omega)]
      rintro _ _ ⟨y, k1, hyk, rfl, rfl⟩
      have hcN : goes ins.op = true → num[ins.c.toNat]? = some (num.getD ins.c.toNat 0) := fun e => by
        have := hgf e
        rw [List.getD_eq_getElem?_getD, List.getElem?_eq_getElem (by omega)]; rfl
      generalize num.getD ins.c.toNat 0 = t at hcN hz eN hA1
      clear ha
      rcases hyk with ⟨rfl, rfl, rfl⟩ | ⟨g6, g7, rfl, rfl, rfl⟩
      · refine jn_cut (fun s h' => h' = h ++ (.row g1 1 (LL.map bl) :: .row g 3 (ys ++ .agg [i64 x.first, i64 x.last, nilS] :: rest) :: .row g3 1 (num.map i64) :: k) ∧ s = [.rf (h.length + 1) g 0 out.length, .rf (h.length + 2) g3 0 l.length, encL encInstr l, i64 out.length, i64 b, .fp (encInstr ins), i64 b, bl (goes ins.op)]) ?_ ?_
        · simp [↓go]
          refine S_names ?_
          simp [↓go, hbt, hyl]
          refine ⟨fun e => ?_, fun e => ?_⟩
          · exact wk_ex ⟨rfl, by rw [e]⟩
          · exact wk_ex ⟨rfl, by rw [e]⟩
        · rintro _ _ ⟨rfl, rfl⟩
          simp [↓go, hbt, hyl, encInstr]
          refine ⟨fun e => ?_, fun e => ?_⟩
          · have hc := hgf e
            have ht := hcN e
            obtain ⟨htl, htt⟩ := List.getElem?_eq_some_iff.1 ht
            simp [↓go, hbt, hyl, ht, htt]
            refine ⟨by omega, by omega, by omega, fun g8 => ⟨by unfold maxLen; omega, fun g9 => ?_⟩⟩
            rw [if_pos ⟨e, .inl rfl⟩] at hz
            subst hz
            refine wk_ex ⟨.rf (h.length + (k.length + 1 + 1 + 1 + 1)) g9 0 1, [.row g8 1 [i64 t], .row g9 1 [i64 t]], [h.length + (k.length + 1 + 1 + 1 + 1)], by simp, Own.rf_mk (s := 1) (ys := [i64 t]) (by simp) rfl (.v rfl .nil) (by simp), by simp; omega, rfl⟩
          · rw [if_neg (by rw [e]; simp)] at hz
            subst hz
            refine wk_ex ⟨nilS, [], [], by simp, .nl .nil, by simp, rfl⟩
      · refine jn_cut (fun s h' => h' = h ++ (.row g1 1 (LL.map bl) :: .row g 3 (ys ++ .agg [i64 x.first, i64 x.last, .rf (h.length + (k.length + 1 + 1 + 1 + 1)) g7 0 1] :: rest) :: .row g3 1 (num.map i64) :: (k ++ [.row g6 1 [i64 ((b : Int) + 1)], .row g7 1 [i64 ((b : Int) + 1)]])) ∧ s = [.rf (h.length + 1) g 0 out.length, .rf (h.length + 2) g3 0 l.length, encL encInstr l, i64 out.length, i64 b, .fp (encInstr ins), i64 b, bl (goes ins.op && decide ((b : Int) + 1 ≠ t))]) ?_ ?_
        · simp [↓go]
          refine S_names ?_
          simp [↓go, hbt, hyl, encInstr]
          refine ⟨fun e => ?_, fun e => ?_⟩
          · have hc := hgf e
            have ht := hcN e
            obtain ⟨htl, htt⟩ := List.getElem?_eq_some_iff.1 ht
            simp [↓go, hbt, hyl, ht, htt]
            refine ⟨by omega, by omega, by omega, wk_ex ⟨by simp [encInstr], ?_⟩⟩
            simp [encInstr, e]
          · exact wk_ex ⟨rfl, by rw [e]; rfl⟩
        · rintro _ _ ⟨rfl, rfl⟩
          simp [↓go, hbt, hyl, encInstr]
          refine ⟨fun e e2 => ?_, fun e => ?_⟩
          · have hc := hgf e
            have ht := hcN e
            obtain ⟨htl, htt⟩ := List.getElem?_eq_some_iff.1 ht
            simp [↓go, hbt, hyl, ht, htt]
            refine ⟨by omega, by omega, by omega, fun g8 => ⟨by unfold maxLen; omega, fun g9 => ?_⟩⟩
            rw [if_pos ⟨e, .inr (by simpa using e2)⟩] at hz
            subst hz
            refine wk_ex ⟨.rf (h.length + (k.length + 1 + 1 + 1 + 1)) g9 0 2, [.row g6 1 [i64 ((b : Int) + 1)], .row g9 1 [i64 ((b : Int) + 1), i64 t], .row g8 1 [i64 t]], [h.length + (k.length + 1 + 1 + 1 + 1)], by simp, Own.rf_mk (s := 1) (ys := [i64 ((b : Int) + 1), i64 t]) (by simp) rfl (.v rfl (.v rfl .nil)) (by simp), by simp; omega, rfl⟩
          · rw [if_neg (fun hh => by have := e hh.1; simp at hh; exact hh.2 (by simpa using this))] at hz
            subst hz
            refine wk_ex ⟨.rf (h.length + (k.length + 1 + 1 + 1 + 1)) g7 0 1, [.row g6 1 [i64 ((b : Int) + 1)], .row g7 1 [i64 ((b : Int) + 1)]], [h.length + (k.length + 1 + 1 + 1 + 1)], by simp, Own.rf_mk (s := 1) (ys := [i64 ((b : Int) + 1)]) (by simp) rfl (.v rfl .nil) (by simp), by simp; omega, rfl⟩
end Go.Proofs.Ytlnlbncinjiinaa.A
