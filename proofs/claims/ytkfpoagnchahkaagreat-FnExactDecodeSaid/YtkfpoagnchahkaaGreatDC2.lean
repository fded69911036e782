/- Of this session: over the abstract machine. -/
import Derived.Test.YtkfpoagnchahkaaGreatProg
import Derived.Test.YtkfpoagnchahkaaGreatA
import Derived.Test.YtkfpoagnchahkaaGreatB
import Derived.Test.YtkfpoagnchahkaaGreatD
import Derived.Test.YtkfpoagnchahkaaGreatT
import Derived.Test.YtkfpoagnchahkaaGreatO
import Derived.Test.YtkfpoagnchahkaaGreatOT
import Derived.Test.YtkfpoagnchahkaaGreatP1
import Derived.Test.YtkfpoagnchahkaaGreatP2
import Derived.Test.YtkfpoagnchahkaaGreatP3
import Derived.Test.YtkfpoagnchahkaaGreatP4
import Derived.Test.YtkfpoagnchahkaaGreatP5
import Derived.Test.YtkfpoagnchahkaaGreatDC0
import Derived.Test.YtkfpoagnchahkaaGreatDC1
namespace Go.Proofs.YtkfpoagnchahkaaGreat.A
open Go Go.RowKit
set_option linter.unusedVariables false
set_option linter.unusedSimpArgs false
set_option maxRecDepth 100000
set_option maxHeartbeats 1000000
/-! ### the readers -/
theorem app_get {H l : AHeap} {k : Nat} {o : AObj} (h : H[k]? = some o) : (H ++ l)[k]? = some o := (List.getElem?_append_left (List.getElem?_eq_some_iff.1 h).1).trans h
def eE : AVal := .ifc 165 (.agg [])
def Pre (kr : Nat) (H H' : AHeap) : Prop := H.length ≤ H'.length ∧ ∀ r, r < H.length → r ≠ kr → H'[r]? = H[r]?
theorem Pre.refl (kr : Nat) (H : AHeap) : Pre kr H H := ⟨Nat.le_refl _, fun _ _ _ => rfl⟩
theorem Pre.app {kr : Nat} {H l : AHeap} : Pre kr H (H ++ l) := ⟨by simp, fun r hr _ => List.getElem?_append_left hr⟩
theorem Pre.set {kr : Nat} {H : AHeap} {o : AObj} : Pre kr H (H.set kr o) := ⟨by simp, fun r hr hne => List.getElem?_set_ne (fun e => hne e.symm)⟩
theorem Pre.trans {kr : Nat} {H H' H2 : AHeap} (h1 : Pre kr H H') (h2 : Pre kr H' H2) : Pre kr H H2 := ⟨Nat.le_trans h1.1 h2.1, fun r hr hne => (h2.2 r (Nat.lt_of_lt_of_le hr h1.1) hne).trans (h1.2 r hr hne)⟩
def rdR (gr : Nat) (bs : List Int) (a : Nat) : AObj := .row gr 2 [.agg [encL u8 bs, i64 a]]
theorem S_get [Pn : Pk] {bs : List Int} {a n kr gr : Nat} {H : AHeap} {Q : KA} (hl : bs.length ≤ 1099511627776) (hw : okB bs) (ha : a ≤ bs.length) (hn : 1 ≤ n ∧ n ≤ 8) (hr : H[kr]? = some (rdR gr bs a))
    (q : ∀ v, gtN n (bs.drop a) = some (v, bs.drop (a + n)) → a + n ≤ bs.length → Q (i64 v) (H.set kr (rdR gr bs (a + n))))
    (hp : gtN n (bs.drop a) = none → ∀ H', Pre kr H H' → Pn.f eE H') : @clM Tryz.prog 134 [.pt kr gr 0 0, i64 n] H ⟨Q⟩ := by
  refine cl_wk ?_
  refine cl_of fn_impl_reader_get (D_impl_reader_get_of ?_)
  unfold D_impl_reader_get
  have hk := (List.getElem?_eq_some_iff.1 hr).1
  unfold rdR at hr
  refine jn_cut (fun s h' => ∃ g, h' = H ++ [.row g 2 [numV (gtN n (bs.drop a))]] ∧ s = [.pt H.length g 0 0, i64 n, .pt kr gr 0 0]) ?_ ?_
  · have hc1 : ∃ b v, numV (gtN n (bs.drop a)) = .agg [bl b, i64 v] := by
      unfold numV
      split
      · exact ⟨_, _, rfl⟩
      · exact ⟨_, _, rfl⟩
    obtain ⟨b, v, hbv⟩ := hc1
    simp [↓go, hr]
    refine ⟨cl_lift (S_implGet hl hw ha hn ?_), fun g => cl_lift (S_implGet hl hw ha hn ?_)⟩
    · rw [hbv]
      simp [↓go]
      intro g
      exact wk_ex ⟨g, rfl, rfl⟩
    · rw [hbv]
      simp [↓go]
      exact wk_ex ⟨g, rfl, rfl⟩
  rintro _ _ ⟨g, rfl, rfl⟩
  by_cases hb : bs.length < a + n
  · rw [num_none ha hb] at hp ⊢
    refine jn_cut (fun _ _ => False) ?_ (fun _ _ h => h.elim)
    simp [↓go, numV]
    exact ⟨hp rfl _ Pre.app⟩
  · rw [num_eq (by omega)] at q ⊢
    have q := q _ rfl (by omega)
    unfold rdR at q
    refine jn_cut (fun s h' => h' = H ++ [.row g 2 [.agg [tt, i64 (IntKind.i64.wrap (leNum ((bs.drop a).take n)))]]] ∧ s = [.pt H.length g 0 0, i64 n, .pt kr gr 0 0]) ?_ ?_
    · simp [↓go, numV]
      exact wk_ex ⟨rfl, rfl⟩
    rintro _ _ ⟨rfl, rfl⟩
    have hra := app_get (l := [AObj.row g 2 [.agg [tt, i64 (IntKind.i64.wrap (leNum ((bs.drop a).take n)))]]]) hr
    have hset : ∀ o (l : AHeap), (H ++ l).set kr o = H.set kr o ++ l := fun o l => List.set_append_left _ _ hk
    have hget : ∀ o x, (H.set kr o ++ [x])[H.length]? = some x := fun o x => by rw [List.getElem?_append_right (by simp)]; simp
    simp [↓go, hra, hset, hget]
    rw [w64 (n := (a : Int) + n) (by omega) (by omega)]
    exact retW_ex (Wk.drop (Wk.refl q))
def sR (gr : Nat) (bs : List Int) (a : Nat) (b : Bool) : AObj := .row gr 3 [.agg [encL u8 bs, i64 a, bl b]]
theorem S_l3Get {bs : List Int} {a n kr gr : Nat} {b : Bool} {H : AHeap} {Q : KA} (hl : bs.length ≤ 1099511627776) (hw : okB bs) (ha : a ≤ bs.length) (hn : 1 ≤ n ∧ n ≤ 8) (hr : H[kr]? = some (sR gr bs a b))
    (q1 : b = false → ∀ v, gtN n (bs.drop a) = some (v, bs.drop (a + n)) → a + n ≤ bs.length → Q (i64 v) (H.set kr (sR gr bs (a + n) false)))
    (q2 : b = true ∨ gtN n (bs.drop a) = none → Q (i64 0) (H.set kr (sR gr bs a true))) : @clM Tryz.prog 102 [.pt kr gr 0 0, i64 n] H ⟨Q⟩ := by
  refine cl_wk ?_
  refine cl_of fn_spec_l3Get (D_spec_l3Get_of ?_)
  unfold D_spec_l3Get
  have hk := (List.getElem?_eq_some_iff.1 hr).1
  unfold sR at hr q1 q2
  have hset : ∀ o (l : AHeap), (H ++ l).set kr o = H.set kr o ++ l := fun o l => List.set_append_left _ _ hk
  have hget : ∀ o x, (H.set kr o ++ [x])[H.length]? = some x := fun o x => by rw [List.getElem?_append_right (by simp)]; simp
  obtain ⟨g0, v0, hbv, hgv⟩ : ∃ g0 v0, numV (gtN n (bs.drop a)) = .agg [bl g0, i64 v0] ∧ ((g0 = true ∧ a + n ≤ bs.length ∧ gtN n (bs.drop a) = some (v0, bs.drop (a + n))) ∨ (g0 = false ∧ gtN n (bs.drop a) = none)) := by
    by_cases hb : bs.length < a + n
    · exact ⟨false, 0, by rw [num_none ha hb]; rfl, .inr ⟨rfl, num_none ha hb⟩⟩
    · exact ⟨true, _, by rw [num_eq (by omega)]; rfl, .inl ⟨rfl, by omega, num_eq (by omega)⟩⟩
  refine jn_cut (fun s h' => ∃ g, h' = H ++ [.row g 2 [.agg [bl g0, i64 v0]]] ∧ s = [.pt H.length g 0 0, i64 n, .pt kr gr 0 0]) ?_ ?_
  · simp [↓go, hr]
    refine ⟨S_specGet hl hw ha hn ?_, fun g => S_specGet hl hw ha hn ?_⟩
    · rw [hbv]
      simp [↓go]
      intro g
      exact wk_ex ⟨g, rfl, rfl⟩
    · rw [hbv]
      simp [↓go]
      exact wk_ex ⟨g, rfl, rfl⟩
  rintro _ _ ⟨g, rfl, rfl⟩
  have hra := app_get (l := [AObj.row g 2 [.agg [bl g0, i64 v0]]]) hr
  refine jn_cut (fun s h' => h' = H ++ [.row g 2 [.agg [bl g0, i64 v0]]] ∧ s = [.pt H.length g 0 0, i64 n, .pt kr gr 0 0, bl (b || !g0)]) ?_ ?_
  · simp [↓go, hra]
    cases b with
    | true => simp; exact wk_ex ⟨rfl, rfl⟩
    | false => simp; exact wk_ex ⟨rfl, rfl⟩
  rintro _ _ ⟨rfl, rfl⟩
  cases hc : (b || !g0) with
  | true =>
    simp [↓go, hra, hset]
    refine retW_ex (Wk.drop (Wk.refl (q2 ?_)))
    rcases hgv with ⟨rfl, h1, h2⟩ | ⟨rfl, h2⟩
    · left; simpa using hc
    · exact .inr h2
  | false =>
    obtain ⟨rfl, rfl⟩ : b = false ∧ g0 = true := by simpa using hc
    rcases hgv with ⟨_, h1, h2⟩ | ⟨h3, h2⟩
    · simp [↓go, hra, hset, hget]
      rw [w64 (n := (a : Int) + n) (by omega) (by omega)]
      exact retW_ex (Wk.drop (Wk.refl (q1 rfl _ h2 h1)))
    · cases h3
end Go.Proofs.YtkfpoagnchahkaaGreat.A
