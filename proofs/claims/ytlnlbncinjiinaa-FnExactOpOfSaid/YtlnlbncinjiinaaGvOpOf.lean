/- Of this session: contracts of functions that the print does not take. -/
import Derived.Test.YtlnlbncinjiinaaM0
import Derived.Test.YtlnlbncinjiinaaGvOpRows
import Derived.Laws.EntriesVeiled
import Derived.Maps.OwnOps
import Derived.Maps.Views
namespace Go.Proofs.Ytlnlbncinjiinaa.M
open Go.RowKit Go.Proofs.YtlnlbncinjiinaaW.PrintWords Go.Proofs.YtlnlbncinjiinaaW.PrintLast Go.Proofs.YtlnlbncinjiinaaW.PrintMore
attribute [local go_sem] Go.Proofs.YtlnlbncinjiinaaZ.u32_signed Go.Proofs.YtlnlbncinjiinaaZ.u32_max
set_option linter.unusedVariables false
set_option linter.unusedSimpArgs false
open Go.Maps Go.WideMaps
theorem law_str : Keyed Try.prog 9 := string_keyed Try.underlying9
theorem zero_i64 (w : World) : (zeroValue 2).run Try.prog w = .ok (.int .i64 0) w := by kernel_rfl
def opName (k : Nat) : ByteArray := (([(⟨#[110, 111, 112]⟩ : ByteArray), (⟨#[99, 111, 110, 115, 116]⟩ : ByteArray), (⟨#[108, 111, 97, 100, 108, 111, 99, 97, 108]⟩ : ByteArray), (⟨#[115, 116, 111, 114, 101, 108, 111, 99, 97, 108]⟩ : ByteArray), (⟨#[108, 111, 97, 100]⟩ : ByteArray), (⟨#[115, 116, 111, 114, 101]⟩ : ByteArray), (⟨#[108, 111, 97, 100, 97, 116]⟩ : ByteArray), (⟨#[115, 116, 111, 114, 101, 97, 116]⟩ : ByteArray), (⟨#[97, 100, 100]⟩ : ByteArray), (⟨#[115, 117, 98]⟩ : ByteArray), (⟨#[109, 117, 108]⟩ : ByteArray), (⟨#[100, 105, 118]⟩ : ByteArray), (⟨#[109, 111, 100]⟩ : ByteArray), (⟨#[97, 110, 100]⟩ : ByteArray), (⟨#[111, 114]⟩ : ByteArray), (⟨#[120, 111, 114]⟩ : ByteArray), (⟨#[110, 111, 116]⟩ : ByteArray), (⟨#[115, 104, 108]⟩ : ByteArray), (⟨#[115, 104, 114]⟩ : ByteArray), (⟨#[110, 101, 103]⟩ : ByteArray), (⟨#[101, 113]⟩ : ByteArray), (⟨#[108, 101, 115, 115]⟩ : ByteArray), (⟨#[99, 111, 110, 118]⟩ : ByteArray), (⟨#[100, 117, 112]⟩ : ByteArray), (⟨#[100, 114, 111, 112]⟩ : ByteArray), (⟨#[106, 117, 109, 112]⟩ : ByteArray), (⟨#[106, 117, 109, 112, 122, 101, 114, 111]⟩ : ByteArray), (⟨#[103, 117, 97, 114, 100]⟩ : ByteArray), (⟨#[99, 97, 108, 108]⟩ : ByteArray), (⟨#[114, 101, 116, 117, 114, 110]⟩ : ByteArray)] : List ByteArray).getD k ByteArray.empty)
def opLit (k : Nat) : Lit := .string (opName k).data.toList
def opMap {H : Type} : Nat → DataW H
  | 0 => .map []
  | k + 1 => (opMap k).put (opLit k) (.lit (.int .i64 ((k : Int) + 1)))
theorem opName_size (k : Nat) : (opName k).size ≤ maxLen := by
  unfold opName maxLen
  by_cases h : k < 30
  · have : ∀ k, k < 30 → (([(⟨#[110, 111, 112]⟩ : ByteArray), (⟨#[99, 111, 110, 115, 116]⟩ : ByteArray), (⟨#[108, 111, 97, 100, 108, 111, 99, 97, 108]⟩ : ByteArray), (⟨#[115, 116, 111, 114, 101, 108, 111, 99, 97, 108]⟩ : ByteArray), (⟨#[108, 111, 97, 100]⟩ : ByteArray), (⟨#[115, 116, 111, 114, 101]⟩ : ByteArray), (⟨#[108, 111, 97, 100, 97, 116]⟩ : ByteArray), (⟨#[115, 116, 111, 114, 101, 97, 116]⟩ : ByteArray), (⟨#[97, 100, 100]⟩ : ByteArray), (⟨#[115, 117, 98]⟩ : ByteArray), (⟨#[109, 117, 108]⟩ : ByteArray), (⟨#[100, 105, 118]⟩ : ByteArray), (⟨#[109, 111, 100]⟩ : ByteArray), (⟨#[97, 110, 100]⟩ : ByteArray), (⟨#[111, 114]⟩ : ByteArray), (⟨#[120, 111, 114]⟩ : ByteArray), (⟨#[110, 111, 116]⟩ : ByteArray), (⟨#[115, 104, 108]⟩ : ByteArray), (⟨#[115, 104, 114]⟩ : ByteArray), (⟨#[110, 101, 103]⟩ : ByteArray), (⟨#[101, 113]⟩ : ByteArray), (⟨#[108, 101, 115, 115]⟩ : ByteArray), (⟨#[99, 111, 110, 118]⟩ : ByteArray), (⟨#[100, 117, 112]⟩ : ByteArray), (⟨#[100, 114, 111, 112]⟩ : ByteArray), (⟨#[106, 117, 109, 112]⟩ : ByteArray), (⟨#[106, 117, 109, 112, 122, 101, 114, 111]⟩ : ByteArray), (⟨#[103, 117, 97, 114, 100]⟩ : ByteArray), (⟨#[99, 97, 108, 108]⟩ : ByteArray), (⟨#[114, 101, 116, 117, 114, 110]⟩ : ByteArray)] : List ByteArray).getD k ByteArray.empty).size ≤ 9223372036854775807 := by decide
    exact this k h
  · rw [List.getD_eq_getElem?_getD, List.getElem?_eq_none (by simp; omega)]; exact Nat.zero_le _
theorem opKey (k : Nat) : keyOf Try.prog 9 (.string (opName k)) = some (opLit k) := keyOf_string_mk Try.underlying9 (opName_size k)
theorem opCell0 (b0 b1 b2 b3 b4 b5 : Nat) : ∀ k, k < 30 → (opArr b0 b1 b2 b3 b4 b5)[k * 4]? = some (.string (opName k)) := by
  intro k h
  match k, h with
  | 0, _ => rfl
  | 1, _ => rfl
  | 2, _ => rfl
  | 3, _ => rfl
  | 4, _ => rfl
  | 5, _ => rfl
  | 6, _ => rfl
  | 7, _ => rfl
  | 8, _ => rfl
  | 9, _ => rfl
  | 10, _ => rfl
  | 11, _ => rfl
  | 12, _ => rfl
  | 13, _ => rfl
  | 14, _ => rfl
  | 15, _ => rfl
  | 16, _ => rfl
  | 17, _ => rfl
  | 18, _ => rfl
  | 19, _ => rfl
  | 20, _ => rfl
  | 21, _ => rfl
  | 22, _ => rfl
  | 23, _ => rfl
  | 24, _ => rfl
  | 25, _ => rfl
  | 26, _ => rfl
  | 27, _ => rfl
  | 28, _ => rfl
  | 29, _ => rfl
  | k + 30, h => omega
theorem opCellsK (b0 b1 b2 b3 b4 b5 : Nat) : ∀ k, k < 30 → ∃ c f : Int, ∃ v : Value, (opArr b0 b1 b2 b3 b4 b5)[k * 4 + 1]? = some (.int .i64 c) ∧ (opArr b0 b1 b2 b3 b4 b5)[k * 4 + 2]? = some (.int .i64 f) ∧ (opArr b0 b1 b2 b3 b4 b5)[k * 4 + 3]? = some v ∧ v.oneCell' = true := by
  intro k h
  match k, h with
  | 0, _ => exact ⟨_, _, _, rfl, rfl, rfl, rfl⟩
  | 1, _ => exact ⟨_, _, _, rfl, rfl, rfl, rfl⟩
  | 2, _ => exact ⟨_, _, _, rfl, rfl, rfl, rfl⟩
  | 3, _ => exact ⟨_, _, _, rfl, rfl, rfl, rfl⟩
  | 4, _ => exact ⟨_, _, _, rfl, rfl, rfl, rfl⟩
  | 5, _ => exact ⟨_, _, _, rfl, rfl, rfl, rfl⟩
  | 6, _ => exact ⟨_, _, _, rfl, rfl, rfl, rfl⟩
  | 7, _ => exact ⟨_, _, _, rfl, rfl, rfl, rfl⟩
  | 8, _ => exact ⟨_, _, _, rfl, rfl, rfl, rfl⟩
  | 9, _ => exact ⟨_, _, _, rfl, rfl, rfl, rfl⟩
  | 10, _ => exact ⟨_, _, _, rfl, rfl, rfl, rfl⟩
  | 11, _ => exact ⟨_, _, _, rfl, rfl, rfl, rfl⟩
  | 12, _ => exact ⟨_, _, _, rfl, rfl, rfl, rfl⟩
  | 13, _ => exact ⟨_, _, _, rfl, rfl, rfl, rfl⟩
  | 14, _ => exact ⟨_, _, _, rfl, rfl, rfl, rfl⟩
  | 15, _ => exact ⟨_, _, _, rfl, rfl, rfl, rfl⟩
  | 16, _ => exact ⟨_, _, _, rfl, rfl, rfl, rfl⟩
  | 17, _ => exact ⟨_, _, _, rfl, rfl, rfl, rfl⟩
  | 18, _ => exact ⟨_, _, _, rfl, rfl, rfl, rfl⟩
  | 19, _ => exact ⟨_, _, _, rfl, rfl, rfl, rfl⟩
  | 20, _ => exact ⟨_, _, _, rfl, rfl, rfl, rfl⟩
  | 21, _ => exact ⟨_, _, _, rfl, rfl, rfl, rfl⟩
  | 22, _ => exact ⟨_, _, _, rfl, rfl, rfl, rfl⟩
  | 23, _ => exact ⟨_, _, _, rfl, rfl, rfl, rfl⟩
  | 24, _ => exact ⟨_, _, _, rfl, rfl, rfl, rfl⟩
  | 25, _ => exact ⟨_, _, _, rfl, rfl, rfl, rfl⟩
  | 26, _ => exact ⟨_, _, _, rfl, rfl, rfl, rfl⟩
  | 27, _ => exact ⟨_, _, _, rfl, rfl, rfl, rfl⟩
  | 28, _ => exact ⟨_, _, _, rfl, rfl, rfl, rfl⟩
  | 29, _ => exact ⟨_, _, _, rfl, rfl, rfl, rfl⟩
  | k + 30, h => omega
set_option maxHeartbeats 2000000 in
set_option maxRecDepth 100000 in
theorem opof_walk (s : ByteArray) (hs : s.size ≤ maxLen) (w : World) : Calls Try.prog 10 #[.string s] w fun e w' => ∃ c : Int, (opMap (H := Unit) 30).atKey (.string s.data.toList) (.lit (.int .i64 0)) = .lit (.int .i64 c) ∧ e = .returned (.int .i64 (wrap64 (c - 1))) ∧ Below w.heap.size w w' := by
  have hkey0 := keyOf_string_mk Try.underlying9 hs
  have HK0 := Aside0.mk hkey0
  clear hkey0
  have hmm := @run_makeMap Try.prog
  have HB := Aside0.mk (Below.refl w.heap.size w)
  go_enter Try.func10, Try.ntmps10
  go_wp2_with (first | (go_at_call 33; refine (opRows_calls _).mono ?_; rintro e w1 ⟨g, b0, b1, b2, b3, b4, b5, rfl, hg, hI, hb⟩; have HG := Aside0.mk hg; have HB0 := Aside0.mk hb; have HB1 := Aside0.mk (below_step (below_alloc HB.out _) hb); clear hg hI hb HB))
  have hmapB : w1.heap[w.heap.size]? = some (.map #[] 0) := ((HB0.out).block w.heap.size (by simp)).trans (heap_alloc_new _ _)
  have hBg : Aside0 (w.heap.size ≠ g) := Aside0.mk (by
    intro e0
    have e1 := HG.out
    rw [← e0, hmapB] at e1
    cases e1)
  have hm1 : w1.ownsMap (H := Unit) Try.prog 9 (plainElem Try.prog 2) w.heap.size 0 (.map []) := by
    obtain ⟨es, cl, h1, h2⟩ := World.ownsMap_made (H := Unit) w Try.prog 9 (plainElem Try.prog 2)
    exact ⟨es, cl, ((HB0.out).block w.heap.size (by simp)).trans h1, h2⟩
  clear hmapB
  go_loopw [9] (fun i wr => ∃ k : Nat, k ≤ 30 ∧ i = .int .i64 k ∧ wr.ownsMap Try.prog 9 (plainElem Try.prog 2) w.heap.size k (opMap (H := Unit) k) ∧ wr.heap[g]? = w1.heap[g]? ∧ Below w.heap.size w wr) (fun i _ => 30 - (intOf i).toNat)
  case atStart => exact ⟨0, by omega, rfl, hm1, rfl, HB1.out⟩
  case round =>
    obtain ⟨k, hk, rfl, hown, hgr, hbr⟩ := hrel
    have HO := Aside0.mk hown
    have HGr := Aside0.mk (hgr.trans HG.out)
    have HBr := Aside0.mk hbr
    clear hown hgr hbr hm1
    by_cases hlt : k < 30
    · obtain ⟨cc, ff, vv, e1, e2, e3, e4⟩ := opCellsK b0 b1 b2 b3 b4 b5 k hlt
      have c0 : wr.cell? ⟨g, k * 4, none⟩ = some (.string (opName k)) := (cell_of_row _ _ _ _ _ _ HGr.out).trans (opCell0 _ _ _ _ _ _ k hlt)
      have c1 : wr.cell? ⟨g, k * 4 + 1, none⟩ = some (.int .i64 cc) := (cell_of_row _ _ _ _ _ _ HGr.out).trans e1
      have c2 : wr.cell? ⟨g, k * 4 + 2, none⟩ = some (.int .i64 ff) := (cell_of_row _ _ _ _ _ _ HGr.out).trans e2
      have c3 : wr.cell? ⟨g, k * 4 + 3, none⟩ = some vv := (cell_of_row _ _ _ _ _ _ HGr.out).trans e3
      clear e1 e2 e3
      have hst := fun (a : Addr) m (W : World) => run_store (P := Try.prog) W a vv m e4
      go_wp2_with (first | (at_mapUpdate; refine wpList_mapUpdate_own _ rfl _ _ _ 57 rfl 9 2 law_str Try.underlying57 _ w.heap.size k _ rfl (HO.out.alloc _) (by unfold maxLen; omega) _ _ _ rfl rfl (opKey k) _ [] (plainElem_int Try.underlying2 (WalkArith.wf_i64 (by omega))) ?_; intro w2 hown2 hgrow2))
      have R1 : w2.ownsMap (H := Unit) Try.prog 9 (plainElem Try.prog 2) w.heap.size (k + 1) (opMap (k + 1)) := hown2
      have R2 := (hgrow2.block g (by have := blk_lt HGr.out; simp; omega) (by intro e0; cases e0; exact hBg.out rfl)).trans (heap_alloc_old _ _ (blk_lt HGr.out))
      have R3 := (below_alloc HBr.out _).grown hgrow2 (by have := HBr.out.size; simp; omega) (fun j hj => by cases hj; exact Nat.le_refl _)
      have R2' := R2.trans (HGr.out.trans HG.out.symm)
      clear hown2 hgrow2 R2
      have Q1 := Aside0.mk R1; have Q2 := Aside0.mk R2'; have Q3 := Aside0.mk R3
      clear R1 R2' R3 c0 c1 c2 c3 hst
      go_wp2
      go_roundw
      case rel => exact ⟨k + 1, by omega, by go_num, Q1.out, Q2.out, Q3.out⟩
      case measure => simp [intOf]; omega
    · obtain rfl : k = 30 := by omega
      go_wp2_with (first | (at_lookup; refine wpList_lookup_own_int _ rfl _ _ 57 rfl 9 2 .i64 law_str Try.underlying57 Try.underlying2 (zero_i64 _) w.heap.size 30 _ rfl HO.out _ _ rfl HK0.out ?_; intro c hat hwc))
      go_ret
      exact ⟨c, hat, rfl, HBr.out⟩
/-- the number behind which the last row of that name stands -/
def opIdx (s : ByteArray) : Nat → Int
  | 0 => 0
  | k + 1 => if opName k = s then (k : Int) + 1 else opIdx s k
theorem opMap_isMap : ∀ k, IsMap (opMap (H := Unit) k)
  | 0 => ⟨[], rfl⟩
  | k + 1 => by
    obtain ⟨es, e⟩ := opMap_isMap k
    refine ⟨DataW.insert (opLit k, .lit (.int .i64 ((k : Int) + 1))) (es.filter fun p => !p.1.sameKey (opLit k)), ?_⟩
    show (opMap k).put _ _ = _
    rw [e]; rfl
theorem opMap_at (s : ByteArray) : ∀ k, (opMap (H := Unit) k).atKey (.string s.data.toList) (.lit (.int .i64 0)) = .lit (.int .i64 (opIdx s k))
  | 0 => rfl
  | k + 1 => by
    show ((opMap k).put (opLit k) _).atKey _ _ = _
    unfold opIdx
    by_cases h : opName k = s
    · rw [if_pos h]
      have : opLit k = .string s.data.toList := by unfold opLit; rw [h]
      rw [this]
      exact atKey_put_same (opMap_isMap k) (by exact True.intro) _ _
    · rw [if_neg h, atKey_put_other (fun e => h ?_), opMap_at s k]
      unfold opLit at e
      injection e with e
      have e2 : (opName k).data = s.data := (Array.ext' e).symm
      calc opName k = ⟨(opName k).data⟩ := rfl
        _ = ⟨s.data⟩ := by rw [e2]
        _ = s := rfl
theorem opIdx_range (s : ByteArray) : ∀ k : Nat, 0 ≤ opIdx s k ∧ opIdx s k ≤ k
  | 0 => ⟨Int.le_refl _, Int.le_refl _⟩
  | k + 1 => by
    have := opIdx_range s k
    unfold opIdx
    split <;> omega
def impl_OpOf.f (a0 : ByteArray) : Option (Int) := if a0.size ≤ 9223372036854775807 then some (opIdx a0 30 - 1) else none
theorem impl_OpOf.calls (a0 : ByteArray) (r : Int) (w : World) (h : impl_OpOf.f a0 = some r) :
    Calls Try.prog 10 #[.string a0] w fun e w' => e = .returned (.int .i64 r) ∧ Below w.heap.size w w' := by
  unfold impl_OpOf.f at h
  by_cases hs : a0.size ≤ 9223372036854775807
  · rw [if_pos hs] at h
    have h := Option.some.inj h
    refine (opof_walk a0 (by unfold maxLen; exact hs) w).mono ?_
    rintro e w' ⟨c, hc, rfl, hb⟩
    rw [opMap_at] at hc
    injection hc with hc
    injection hc with _ hc
    have hr := opIdx_range a0 30
    refine ⟨?_, hb⟩
    rw [← h, ← hc]
    have : wrap64 (opIdx a0 30 - 1) = opIdx a0 30 - 1 := by unfold wrap64; omega
    rw [this]
  · rw [if_neg hs] at h; cases h
end Go.Proofs.Ytlnlbncinjiinaa.M
