/- Of this session: over the abstract machine. -/
import Derived.Test.YtlnlbncinjiinaaProg
import Derived.Test.YtlnlbncinjiinaaA
import Derived.Test.YtlnlbncinjiinaaB
import Derived.Test.YtlnlbncinjiinaaD
import Derived.Test.YtlnlbncinjiinaaT
import Derived.Test.YtlnlbncinjiinaaO
import Derived.Test.YtlnlbncinjiinaaOT
import Derived.Test.YtlnlbncinjiinaaBK
namespace Go.Proofs.Ytlnlbncinjiinaa.A
open Go Go.RowKit
set_option linter.unusedVariables false
set_option linter.unusedSimpArgs false
set_option maxRecDepth 100000
set_option maxHeartbeats 1000000
theorem szL_le {α : Type} {f : α → Nat} {c : Nat} : ∀ {xs : List α}, (∀ x ∈ xs, f x ≤ c) → szL f xs ≤ xs.length * (c + 1)
  | [], _ => by simp [szL]
  | x :: xs, h => by
    have h1 := szL_le (f := f) (c := c) (xs := xs) (fun y hy => h y (List.mem_cons_of_mem _ hy))
    have h2 := h x List.mem_cons_self
    have h3 : szL f (x :: xs) = szL f xs + 1 + f x := by unfold szL; simp; omega
    rw [h3, List.length_cons, Nat.add_mul]
    omega
theorem nextOf_len (x : MInstr) (fall : Bool) (f t : Int) : (nextOf x fall f t).length ≤ 2 := by
  unfold nextOf
  dsimp only
  split <;> split <;> (try split) <;> simp
theorem p3Up_nxt {f : Nat → List Int} {out : List MBlock} (hf : ∀ b, (f b).length ≤ 2) (ho : ∀ x ∈ out, x.nxt.length ≤ 2) : ∀ b, ∀ x ∈ p3Up f out b, x.nxt.length ≤ 2
  | 0 => ho
  | b + 1 => fun x hx => by
    unfold p3Up at hx
    rcases List.mem_or_eq_of_mem_set hx with h | rfl
    · exact p3Up_nxt hf ho b x h
    · exact hf b
theorem blocks_small (l : List MInstr) : szL szBlock (blocksOf l) ≤ 3072 := by
  by_cases hg : good l = true
  · have hn := good_len hg
    have hI := P2I_all l.length (leadUp l l.length) (by rw [List.getD_eq_getElem?_getD, leadUp_zero]; rfl) l.length (Nat.le_refl _)
    rw [blocksOf_good hg]
    generalize p2Up (leadUp l l.length) l.length l.length = st at hI
    have h1 := szL_le (f := szBlock) (c := 2) (xs := p3Up (nxt l st) st.1 st.1.length) (fun x hx => by
      have := p3Up_nxt (f := nxt l st) (out := st.1) (fun b => nextOf_len _ _ _ _) (fun x hx => by
        obtain ⟨j, hj, rfl⟩ := List.getElem_of_mem hx
        have := (hI.last j hj).1
        rw [List.getD_eq_getElem?_getD, List.getElem?_eq_getElem hj] at this
        have this : st.1[j].nxt = [] := this
        rw [this]; simp) _ x hx
      unfold szBlock
      rw [szL_zero]; exact this)
    have := hI.le
    rw [p3Up_len] at h1
    omega
  · rw [blocksOf_bad hg]; simp [szL]
theorem S_law_FnExactBlocksOf {l : List MInstr} {h : AHeap} {Q : KA} (ol : okL okInstr l) (q : Q tt h) : @clM Try.prog 8 [encL encInstr l] h ⟨Q⟩ := by
  refine cl_wk ?_
  refine cl_of fn_laws_FnExactBlocksOf (D_laws_FnExactBlocksOf_of ?_)
  unfold D_laws_FnExactBlocksOf
  refine S_szInstrS (by omega) ol ?_ (fun hp => ?_)
  · simp [↓go]
    exact retW_ex (Wk.refl q)
  have hp : szL (fun _ => 0) l ≤ 1048576 := by omega
  have hcs := blocks_small l
  have hcs2 : szL szBlock (blocksOf l) ≤ 1048576 := by omega
  have hmk : (markL true ((blocksOf l).map encBlock) 1).2 ≤ 4611686018427387904 := by
    have := mk_le (e := encBlock) (f := szBlock) mbBlock (blocksOf l) 1
    omega
  have hmp : (markL true (l.map encInstr) 1).2 ≤ 4611686018427387904 := by
    have := mk_le (e := encInstr) (f := fun _ => 0) mbInstr l 1; omega
  have hmp1 := markL_le true (l.map encInstr) 1
  simp [↓go]
  refine ⟨fun h1 => by omega, fun _ => ?_⟩
  refine S_toInstrS hp ?_
  refine S_specBlocksOf ?_
  refine O_toInstrS hp (fun y k hm => ?_)
  obtain ⟨ra, oa, ba, _⟩ := hm
  have hQ : ∀ H : AHeap, (∀ r, r < h.length → H[r]? = h[r]?) → retW tt H (fun y h1 => Wk [y] h1 (fun s h2 => Q (nthA s 0) h2)) := fun H hH => retW_ex (Wk.sub (h' := h) (fun r g z xs hr => by rw [hH r (List.getElem?_eq_some_iff.1 hr).1]; exact hr) (Wk.refl q))
  have hlen : h.length ≤ (h ++ k).length := by simp
  have hpre : ∀ r, r < h.length → (h ++ k)[r]? = h[r]? := fun r hr => List.getElem?_append_left hr
  generalize h ++ k = H at *
  refine cl_borrow1 (ts := [encL encInstr l]) (t := encL encBlock (blocksOf l)) rfl (bor1 (.inr ⟨ra, oa⟩)) (O_implBlocksOf (fun y l hm => ⟨l, rfl, hm⟩)) (fun y1 l1 m1 => ?_)
  obtain ⟨rb, ob, bb, _⟩ := m1
  have hbor : Bor (H ++ l1) y1 (encL encBlock (blocksOf l)) := .inr ⟨rb, ob⟩
  refine cl_borrow0 (.bool true) (ts := [encL encBlock (blocksOf l), encL encBlock (blocksOf l)]) rfl (bor2 hbor (.inl rfl)) (S_eqBlockS hcs2 ⟨rfl, rfl⟩) ?_
  simp [↓go]
  refine S_toInstrS hp ?_
  refine cl_borrow0 (.bool true) (ts := [encL encInstr l, encL encInstr l]) rfl (bor2 (.inr ⟨ra, oa.grow⟩) (.inl rfl)) (S_eqInstrS hp ⟨rfl, rfl⟩) ?_
  simp [↓go]
  refine M_markInstrS oa.grow (by omega) hmp (fun H2 om fm lm => ?_)
  have ob2 : Own H2 [y1] [encL encBlock (blocksOf l)] rb := by
    refine Own.frame ob (fun r hr => ?_)
    rw [fm r (fun hm => by have h1 := oa.lt r hm; have h2 := bb r hr; omega)]
  have hpre2 : ∀ r, r < h.length → H2[r]? = h[r]? := fun r hr => by
    rw [fm r (fun hm => by have h1 := ba r hm; omega), List.getElem?_append_left (by omega)]
    exact hpre r hr
  have hrb : ∀ r ∈ rb, h.length ≤ r := fun r hr => by have := bb r hr; omega
  clear fm ob hbor
  refine jn_cut (fun s h' => h' = H2 ∧ s = [y1, encL encBlock (blocksOf l), encL encInstr l, ff]) ?_ ?_
  · simp [↓go]
    refine ⟨fun hh => by omega, fun _ => ?_⟩
    refine cl_borrow0 (.bool true) (ts := [encL encBlock (blocksOf l), encL encBlock (blocksOf l)]) rfl (bor2 (.inr ⟨rb, ob2⟩) (.inl rfl)) (S_eqBlockS hcs2 ⟨rfl, rfl⟩) ?_
    simp [↓go]
    exact wk_ex ⟨rfl, rfl⟩
  rintro _ _ ⟨rfl, rfl⟩
  simp [↓go]
  refine M_markBlockS ob2 (by omega) hmk (fun H3 o3 f3 l3 => ?_)
  have hpre3 : ∀ r, r < h.length → H3[r]? = h[r]? := fun r hr => by
    rw [f3 r (fun hm => by have := hrb r hm; omega)]; exact hpre2 r hr
  have hm1 := markL_le true ((blocksOf l).map encBlock) 1
  refine cl_borrow0 (.int .i64 (markL true ((blocksOf l).map encBlock) 1).2) (ts := [.sl (markL true ((blocksOf l).map encBlock) 1).1, i64 1]) rfl (bor2 (.inr ⟨rb, o3⟩) (.inl rfl)) (F_heldBlockS (by omega) (Nat.le_trans hcs2 (by omega)) hmk ⟨rfl, rfl⟩) ?_
  simp [↓go]
  refine ⟨fun hh => by omega, fun _ => ?_⟩
  refine S_toInstrS hp ?_
  refine cl_frozen (t := encL encBlock (blocksOf l)) (O_implBlocksOf (fun y l hm => ⟨l, rfl, hm⟩)) ?_
  refine S_eqBlockS hcs2 ?_
  simp [↓go]
  refine cl_borrow0 (.int .i64 (markL true ((blocksOf l).map encBlock) 1).2) (ts := [.sl (markL true ((blocksOf l).map encBlock) 1).1, i64 1]) rfl (bor2 (.inr ⟨rb, o3⟩) (.inl rfl)) (F_heldBlockS (by omega) (Nat.le_trans hcs2 (by omega)) hmk ⟨rfl, rfl⟩) ?_
  simp [↓go]
  refine ⟨fun hh => by omega, fun _ => ?_⟩
  exact hQ H3 hpre3
end Go.Proofs.Ytlnlbncinjiinaa.A
