/- Of this session: over the abstract machine. -/
import Derived.Test.YtkfpoagnchahkaaGreatProg
import Derived.Test.YtkfpoagnchahkaaGreatA
import Derived.Test.YtkfpoagnchahkaaGreatB
import Derived.Test.YtkfpoagnchahkaaGreatD
import Derived.Test.YtkfpoagnchahkaaGreatT
import Derived.Test.YtkfpoagnchahkaaGreatO
import Derived.Test.YtkfpoagnchahkaaGreatOT
import Derived.Test.YtkfpoagnchahkaaGreatP1
import Derived.Test.YtkfpoagnchahkaaGreatP2
import Derived.Test.YtkfpoagnchahkaaGreatP3
import Derived.Test.YtkfpoagnchahkaaGreatP4
import Derived.Test.YtkfpoagnchahkaaGreatP5
import Derived.Test.YtkfpoagnchahkaaGreatO8
import Derived.Test.YtkfpoagnchahkaaGreatDC0
import Derived.Test.YtkfpoagnchahkaaGreatDC1
import Derived.Test.YtkfpoagnchahkaaGreatDC2
namespace Go.Proofs.YtkfpoagnchahkaaGreat.A
open Go Go.RowKit
set_option linter.unusedVariables false
set_option linter.unusedSimpArgs false
set_option maxRecDepth 100000
set_option maxHeartbeats 1000000
/-! ### lists off a reader -/
structure Upd (kr : Nat) (H H' : AHeap) (o : AObj) : Prop where
  len : H'.length = H.length
  oth : ∀ r, r ≠ kr → H'[r]? = H[r]?
  at_ : H'[kr]? = some o
theorem Upd.set {kr : Nat} {H : AHeap} {o : AObj} (hk : kr < H.length) : Upd kr H (H.set kr o) o := ⟨by simp, fun r hne => List.getElem?_set_ne (fun e => hne e.symm), by rw [List.getElem?_set_self hk]⟩
theorem Upd.refl {kr : Nat} {H : AHeap} {o : AObj} (h : H[kr]? = some o) : Upd kr H H o := ⟨rfl, fun _ _ => rfl, h⟩
theorem Upd.trans {kr : Nat} {H H' H2 : AHeap} {o o2 : AObj} (h1 : Upd kr H H' o) (h2 : Upd kr H' H2 o2) : Upd kr H H2 o2 := ⟨h2.len.trans h1.len, fun r hne => (h2.oth r hne).trans (h1.oth r hne), h2.at_⟩
theorem Upd.pre {kr : Nat} {H H' : AHeap} {o : AObj} (h : Upd kr H H' o) (l : AHeap) : Pre kr H (H' ++ l) := ⟨by simp [h.len], fun r hr hne => by rw [List.getElem?_append_left (by rw [h.len]; exact hr)]; exact h.oth r hne⟩
theorem get_midH {A R : AHeap} {x : AObj} {n : Nat} (h : A.length = n) : (A ++ x :: R)[n]? = some x := by subst h; simp
theorem set_midH {A R : AHeap} {x y : AObj} {n : Nat} (h : A.length = n) : (A ++ x :: R).set n y = A ++ y :: R := by subst h; simp
/-- what a reading of the specification tells -/
def Got {α : Type} (b' b : Bool) (o : Option (α × List Int)) (v : α) (r : List Int) : Prop := (b' = false → b = false ∧ o = some (v, r)) ∧ (b' = true → b = true ∨ o = none)
theorem S_l3GetA {bs : List Int} {a n kr gr : Nat} {b : Bool} {H l : AHeap} {Q : KA} (hl : bs.length ≤ 1099511627776) (hw : okB bs) (ha : a ≤ bs.length) (hn : 1 ≤ n ∧ n ≤ 8) (hr : H[kr]? = some (sR gr bs a b))
    (q : ∀ v a' b' H', Upd kr H H' (sR gr bs a' b') → a' ≤ bs.length → Got b' b (gtN n (bs.drop a)) v (bs.drop a') → Q (i64 v) (H' ++ l)) : @clM Tryz.prog 102 [.pt kr gr 0 0, i64 n] (H ++ l) ⟨Q⟩ := by
  have hk := (List.getElem?_eq_some_iff.1 hr).1
  refine S_l3Get hl hw ha hn (app_get hr) (fun hb v hv hle => ?_) (fun hb => ?_)
  · rw [List.set_append_left _ _ hk]
    exact q v (a + n) false _ (.set hk) hle ⟨fun _ => ⟨hb, hv⟩, fun h => (by cases h)⟩
  · rw [List.set_append_left _ _ hk]
    exact q 0 a true _ (.set hk) ha ⟨fun h => (by cases h), fun _ => hb⟩
theorem S_getA {Pn : Pk} {bs : List Int} {a n kr gr : Nat} {H l : AHeap} {Q : KA} (hl : bs.length ≤ 1099511627776) (hw : okB bs) (ha : a ≤ bs.length) (hn : 1 ≤ n ∧ n ≤ 8) (hr : H[kr]? = some (rdR gr bs a))
    (q : ∀ v a' H', Upd kr H H' (rdR gr bs a') → a' ≤ bs.length → gtN n (bs.drop a) = some (v, bs.drop a') → Q (i64 v) (H' ++ l))
    (hp : gtN n (bs.drop a) = none → ∀ H', Pre kr (H ++ l) H' → Pn.f eE H') : @clM Tryz.prog 134 [.pt kr gr 0 0, i64 n] (H ++ l) ⟨Q⟩ := by
  have hk := (List.getElem?_eq_some_iff.1 hr).1
  refine S_get hl hw ha hn (app_get hr) (fun v hv hle => ?_) hp
  rw [List.set_append_left _ _ hk]
  exact q v (a + n) _ (.set hk) hle hv
theorem gtN_range {n : Nat} {r r' : List Int} {v : Int} (hw : okB r) (hn : n ≤ 4) (h : gtN n r = some (v, r')) : 0 ≤ v ∧ v < 2 ^ (8 * n) := by
  unfold gtN at h
  split at h
  · cases h
    obtain ⟨m, h1, h2⟩ := leNum_nat (l := r.take n) (fun x hx => hw x (List.mem_of_mem_take hx))
    have hlen : (r.take n).length = n := by simp; omega
    rw [hlen] at h2
    have hp : 2 ^ (8 * n) ≤ 2 ^ 32 := Nat.pow_le_pow_right (by omega) (by omega)
    have hn2 : (2 ^ 32 : Nat) = 4294967296 := by decide
    rw [h1, w64 (by omega) (by omega)]
    have e : (2 : Int) ^ (8 * n) = ((2 ^ (8 * n) : Nat) : Int) := by simp
    rw [e]
    omega
  · cases h
theorem S_l3GetList {bs : List Int} {a kr gr : Nat} {b : Bool} {c : Int} {H l : AHeap} {Q : KA} (hl : bs.length ≤ 1099511627776) (hw : okB bs) (ha : a ≤ bs.length) (hc : c ≤ 70000) (hc0 : -9223372036854775808 ≤ c) (hr : H[kr]? = some (sR gr bs a b))
    (q : ∀ vs a' b' H', Upd kr H H' (sR gr bs a' b') → a' ≤ bs.length → Got b' b (gtMany (gtN 1) c.toNat (bs.drop a)) vs (bs.drop a') → Q (encL i64 vs) (H' ++ l)) : @clM Tryz.prog 101 [.pt kr gr 0 0, i64 c] (H ++ l) ⟨Q⟩ := by
  refine cl_wk ?_
  refine cl_of fn_spec_l3GetList (D_spec_l3GetList_of ?_)
  unfold D_spec_l3GetList
  simp [↓go]
  intro g0
  refine lp_inv (fun s h' => ∃ (acc : List Int) (g a1 : Nat) (b1 : Bool) (H1 : AHeap), (acc.length : Int) ≤ max c 0 ∧ Upd kr H H1 (sR gr bs a1 b1) ∧ a1 ≤ bs.length ∧ (b1 = false → b = false ∧ GtI (gtN 1) (gtMany (gtN 1) c.toNat (bs.drop a)) acc (c.toNat - acc.length) (bs.drop a1)) ∧ (b1 = true → b = true ∨ gtMany (gtN 1) c.toNat (bs.drop a) = none) ∧
    h' = H1 ++ (l ++ [.row g 1 (acc.map i64)]) ∧ s = [.rf (H.length + l.length) g 0 acc.length, i64 acc.length, .pt kr gr 0 0, i64 c]) (fun s _ => c.toNat - natA (nthA s 1)) (Wk.refl ⟨[], g0, a, b, H, by simp; omega, .refl hr, ha, ?_, ?_, ?_, ?_⟩) ?_
  · intro hb; exact ⟨hb, .start⟩
  · intro hb; exact .inl hb
  · simp
  · simp
  rintro _ _ ⟨acc, g, a1, b1, H1, hal, hu, ha1, hg1, hg2, rfl, rfl⟩
  have hap : ∀ l, (H1 ++ l)[kr]? = some (sR gr bs a1 b1) := fun l => app_get hu.at_
  have hen : (H1 ++ l).length = H.length + l.length := by rw [List.length_append, hu.len]
  have hfin : ∀ (bb : Bool), b1 = bb → (bb = false → c ≤ acc.length) → retW (.rf (H.length + l.length) g 0 acc.length) (H1 ++ (l ++ [AObj.row g 1 (acc.map i64)])) (fun y h1 => Wk [y] h1 fun s h2 => Q (nthA s 0) h2) := fun bb hb hle => by
    rw [← List.append_assoc, ← hen]
    refine retW_ex (Wk.own (xs := [_]) (ts := [encL i64 acc]) (rest := []) (rs := [(H1 ++ l).length]) (Own.rf_mk (s := 1) (ys := acc.map i64) (by simp) (by simp) (Own.map (fun x => .v rfl .nil) _) (by simp)) (by simp) ?_)
    refine q acc a1 b1 H1 hu ha1 (And.intro (fun h => ?_) hg2)
    obtain ⟨h1, h2⟩ := hg1 h
    have := hle (hb.symm.trans h)
    rw [show c.toNat - acc.length = 0 by omega] at h2
    exact ⟨h1, h2.fin⟩
  have hua := hu.at_
  unfold sR at hap
  simp [↓go, hap]
  refine ⟨fun hlt => ⟨fun hb => ?_, fun hb => hfin true hb (fun h => by cases h)⟩, fun hge => hfin b1 rfl (fun _ => hge)⟩
  obtain ⟨hb0, hgi⟩ := hg1 hb
  refine S_l3GetA (n := 1) hl hw ha1 (by omega) hua (fun v a2 b2 H2 hu2 ha2 hgot => ?_)
  have hu2' := hu.trans hu2
  have hen2 : (H2 ++ l).length = H.length + l.length := by rw [List.length_append, hu2'.len]
  have hg3 : ∀ (R : AHeap), (H2 ++ (l ++ AObj.row g 1 (acc.map i64) :: R))[H.length + l.length]? = some (.row g 1 (acc.map i64)) := fun R => by rw [← List.append_assoc]; exact get_midH hen2
  have hs3 : ∀ (R : AHeap) (y : AObj), (H2 ++ (l ++ AObj.row g 1 (acc.map i64) :: R)).set (H.length + l.length) y = H2 ++ (l ++ y :: R) := fun R y => by rw [← List.append_assoc, set_midH hen2, List.append_assoc]
  have hwr := w64 (n := (acc.length : Int) + 1) (by omega) (by omega)
  simp [↓go, hg3, hs3, hwr]
  intro g5
  refine ⟨by omega, by unfold maxLen; omega, fun g6 => ?_⟩
  rw [List.take_of_length_le (by simp)]
  have hsp : c.toNat - acc.length = (c.toNat - (acc ++ [v]).length) + 1 := by simp; omega
  rw [hsp] at hgi
  have e : H2 ++ (l ++ [AObj.row g6 1 (acc.map i64 ++ [i64 v]), AObj.row g5 1 [i64 v]]) = (H2 ++ (l ++ [AObj.row g6 1 ((acc ++ [v]).map i64)])) ++ ([] ++ [AObj.row g5 1 [i64 v]]) := by simp
  rw [e]
  refine wk_of (Wk.drop (Wk.refl ?_))
  refine ⟨⟨acc ++ [v], g6, a2, b2, H2, by simp; omega, hu2', ha2, fun h => ⟨hb0, hgi.step (hgot.1 h).2⟩, fun h => ?_, rfl, by simp⟩, by simp; omega⟩
  rcases hgot.2 h with h1 | h1
  · rw [hb] at h1; cases h1
  · exact .inr (hgi.bad h1)
theorem S_types {Pn : Pk} {bs : List Int} {a kr gr : Nat} {c : Int} {H l : AHeap} {Q : KA} (hl : bs.length ≤ 1099511627776) (hw : okB bs) (ha : a ≤ bs.length) (hc : c ≤ 70000) (hc0 : -9223372036854775808 ≤ c) (hr : H[kr]? = some (rdR gr bs a))
    (q : ∀ vs a' H' y l2, Upd kr H H' (rdR gr bs a') → a' ≤ bs.length → gtMany (gtN 1) c.toNat (bs.drop a) = some (vs, bs.drop a') → Made (H' ++ l) y (encL i64 vs) l2 → Q y (H' ++ l ++ l2))
    (hp : gtMany (gtN 1) c.toNat (bs.drop a) = none → ∀ H', Pre kr (H ++ l) H' → Pn.f eE H') : @clM Tryz.prog 133 [.pt kr gr 0 0, i64 c] (H ++ l) ⟨Q⟩ := by
  refine cl_of fn_impl_reader_types (D_impl_reader_types_of ?_)
  unfold D_impl_reader_types
  simp [↓go]
  intro g0
  refine lp_inv (fun s h' => ∃ (acc : List Int) (g a1 : Nat) (H1 : AHeap), (acc.length : Int) ≤ max c 0 ∧ Upd kr H H1 (rdR gr bs a1) ∧ a1 ≤ bs.length ∧ GtI (gtN 1) (gtMany (gtN 1) c.toNat (bs.drop a)) acc (c.toNat - acc.length) (bs.drop a1) ∧
    h' = H1 ++ (l ++ [.row g 1 (acc.map i64)]) ∧ s = [.rf (H.length + l.length) g 0 acc.length, i64 (c - acc.length), .pt kr gr 0 0]) (fun s _ => natA (nthA s 1)) (Wk.refl ⟨[], g0, a, H, by simp; omega, .refl hr, ha, .start, ?_, ?_⟩) ?_
  · simp
  · simp
  rintro _ _ ⟨acc, g, a1, H1, hal, hu, ha1, hgi, rfl, rfl⟩
  have hen : (H1 ++ l).length = H.length + l.length := by rw [List.length_append, hu.len]
  have hua := hu.at_
  simp [↓go]
  refine ⟨fun hlt => ?_, fun hge => ?_⟩
  · have hsp : c.toNat - acc.length = (c.toNat - (acc.length + 1)) + 1 := by omega
    rw [hsp] at hgi
    refine S_getA (n := 1) hl hw ha1 (by omega) hua (fun v a2 H2 hu2 ha2 hgot => ?_) (fun hnone H' hpre => hp (hgi.bad hnone) H' ?_)
    · have hu2' := hu.trans hu2
      have hen2 : (H2 ++ l).length = H.length + l.length := by rw [List.length_append, hu2'.len]
      have hg3 : ∀ (R : AHeap), (H2 ++ (l ++ AObj.row g 1 (acc.map i64) :: R))[H.length + l.length]? = some (.row g 1 (acc.map i64)) := fun R => by rw [← List.append_assoc]; exact get_midH hen2
      have hs3 : ∀ (R : AHeap) (y : AObj), (H2 ++ (l ++ AObj.row g 1 (acc.map i64) :: R)).set (H.length + l.length) y = H2 ++ (l ++ y :: R) := fun R y => by rw [← List.append_assoc, set_midH hen2, List.append_assoc]
      simp [↓go, hg3, hs3]
      intro g5
      refine ⟨by omega, by unfold maxLen; omega, fun g6 => ?_⟩
      rw [List.take_of_length_le (by simp), w64 (by omega) (by omega)]
      have e : H2 ++ (l ++ [AObj.row g6 1 (acc.map i64 ++ [i64 v]), AObj.row g5 1 [i64 v]]) = (H2 ++ (l ++ [AObj.row g6 1 ((acc ++ [v]).map i64)])) ++ ([] ++ [AObj.row g5 1 [i64 v]]) := by simp
      rw [e]
      refine wk_of (Wk.drop (Wk.refl ?_))
      have hst := hgi.step hgot
      refine ⟨⟨acc ++ [v], g6, a2, H2, by simp; omega, hu2', ha2, ?_, rfl, ?_⟩, by simp; omega⟩
      · rw [List.length_append]; exact hst
      · simp; omega
    · refine Pre.trans (H' := H1 ++ (l ++ [.row g 1 (acc.map i64)])) ?_ hpre
      rw [← List.append_assoc]
      refine Pre.trans (H' := H1 ++ l) ⟨by rw [List.length_append, List.length_append, hu.len]; omega, fun r hr' hne => ?_⟩ Pre.app
      by_cases hlr : r < H.length
      · rw [List.getElem?_append_left (by rw [hu.len]; exact hlr), List.getElem?_append_left hlr]; exact hu.oth r hne
      · rw [List.getElem?_append_right (by rw [hu.len]; omega), List.getElem?_append_right (by omega), hu.len]
  · rw [show c.toNat - acc.length = 0 by omega] at hgi
    rw [← List.append_assoc, ← hen]
    exact wk_of (Wk.made (rs := [(H1 ++ l).length]) (Own.rf_mk (s := 1) (ys := acc.map i64) (by simp) (by simp) (Own.map (fun x => .v rfl .nil) _) (by simp)) (by simp) (fun l' hm => q _ _ _ _ _ hu ha1 hgi.fin hm))
end Go.Proofs.YtkfpoagnchahkaaGreat.A
