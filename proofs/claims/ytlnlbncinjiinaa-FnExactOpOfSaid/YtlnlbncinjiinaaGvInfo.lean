/- Of this session: contracts of functions that the print does not take. -/
import Derived.Test.YtlnlbncinjiinaaM0
import Derived.Test.YtlnlbncinjiinaaGvOpRows
import Derived.Laws.EntriesVeiled
namespace Go.Proofs.Ytlnlbncinjiinaa.M
open Go.RowKit Go.Proofs.YtlnlbncinjiinaaW.PrintWords Go.Proofs.YtlnlbncinjiinaaW.PrintLast Go.Proofs.YtlnlbncinjiinaaW.PrintMore
attribute [local go_sem] Go.Proofs.YtlnlbncinjiinaaZ.u32_signed Go.Proofs.YtlnlbncinjiinaaZ.u32_max
set_option linter.unusedVariables false
set_option linter.unusedSimpArgs false
def infoT : Int → ByteArray × Int × Int := fun a =>
  if a = 0 then ((⟨#[110, 111, 112]⟩ : ByteArray), 1, 0) else
  if a = 1 then ((⟨#[99, 111, 110, 115, 116]⟩ : ByteArray), 1, 1) else
  if a = 2 then ((⟨#[108, 111, 97, 100, 108, 111, 99, 97, 108]⟩ : ByteArray), 1, 2) else
  if a = 3 then ((⟨#[115, 116, 111, 114, 101, 108, 111, 99, 97, 108]⟩ : ByteArray), 1, 2) else
  if a = 4 then ((⟨#[108, 111, 97, 100]⟩ : ByteArray), 2, 3) else
  if a = 5 then ((⟨#[115, 116, 111, 114, 101]⟩ : ByteArray), 2, 3) else
  if a = 6 then ((⟨#[108, 111, 97, 100, 97, 116]⟩ : ByteArray), 3, 4) else
  if a = 7 then ((⟨#[115, 116, 111, 114, 101, 97, 116]⟩ : ByteArray), 3, 4) else
  if a = 8 then ((⟨#[97, 100, 100]⟩ : ByteArray), 1, 5) else
  if a = 9 then ((⟨#[115, 117, 98]⟩ : ByteArray), 1, 5) else
  if a = 10 then ((⟨#[109, 117, 108]⟩ : ByteArray), 3, 5) else
  if a = 11 then ((⟨#[100, 105, 118]⟩ : ByteArray), 8, 5) else
  if a = 12 then ((⟨#[109, 111, 100]⟩ : ByteArray), 8, 5) else
  if a = 13 then ((⟨#[97, 110, 100]⟩ : ByteArray), 1, 6) else
  if a = 14 then ((⟨#[111, 114]⟩ : ByteArray), 1, 6) else
  if a = 15 then ((⟨#[120, 111, 114]⟩ : ByteArray), 1, 6) else
  if a = 16 then ((⟨#[110, 111, 116]⟩ : ByteArray), 1, 6) else
  if a = 17 then ((⟨#[115, 104, 108]⟩ : ByteArray), 1, 0) else
  if a = 18 then ((⟨#[115, 104, 114]⟩ : ByteArray), 1, 0) else
  if a = 19 then ((⟨#[110, 101, 103]⟩ : ByteArray), 1, 0) else
  if a = 20 then ((⟨#[101, 113]⟩ : ByteArray), 1, 7) else
  if a = 21 then ((⟨#[108, 101, 115, 115]⟩ : ByteArray), 1, 5) else
  if a = 22 then ((⟨#[99, 111, 110, 118]⟩ : ByteArray), 1, 8) else
  if a = 23 then ((⟨#[100, 117, 112]⟩ : ByteArray), 1, 0) else
  if a = 24 then ((⟨#[100, 114, 111, 112]⟩ : ByteArray), 1, 0) else
  if a = 25 then ((⟨#[106, 117, 109, 112]⟩ : ByteArray), 2, 9) else
  if a = 26 then ((⟨#[106, 117, 109, 112, 122, 101, 114, 111]⟩ : ByteArray), 2, 9) else
  if a = 27 then ((⟨#[103, 117, 97, 114, 100]⟩ : ByteArray), 2, 10) else
  if a = 28 then ((⟨#[99, 97, 108, 108]⟩ : ByteArray), 4, 11) else
  if a = 29 then ((⟨#[114, 101, 116, 117, 114, 110]⟩ : ByteArray), 2, 0) else
  ((⟨#[]⟩ : ByteArray), 0, 0)
def impl_Info.f (a0 : Int) : Option (ByteArray × Int × Int) := some (infoT a0)
theorem below_setRow2 {B g : Nat} {w0 w : World} (hb : Below B w0 w) (hBg : B ≤ g) (cs : Array Value) : Below B w0 (w.setRow g cs) :=
  hb.trans ⟨rfl, rfl, rfl, by simp [World.setRow], fun k hk => setRow_other w g k cs (by omega)⟩
set_option maxHeartbeats 1000000 in
theorem info_out (a0 : Int) (h : a0 < 0 ∨ 29 < a0) (w : World) : Calls Try.prog 12 #[.int .i64 a0] w fun e w' => e = .returned (.agg #[.string ⟨#[]⟩, .int .i64 0, .int .i64 0]) ∧ Below w.heap.size w w' := by
  have HB := Aside0.mk (Below.refl w.heap.size w)
  rcases h with h | h
  · have b1 : decide (a0 < 0) = true := decide_eq_true h
    go_enter Try.func12, Try.ntmps12
    go_wp2
    refine bodyPost_ret (v := .agg #[.string ⟨#[]⟩, .int .i64 0, .int .i64 0]) (by simp [results, Try.results12, go_sem]) rfl ⟨rfl, ?_⟩
    exact below_alloc HB.out _
  · have b1 : decide (a0 < 0) = false := decide_eq_false (by omega)
    have b2 : decide (29 < a0) = true := decide_eq_true h
    go_enter Try.func12, Try.ntmps12
    go_wp2
    refine bodyPost_ret (v := .agg #[.string ⟨#[]⟩, .int .i64 0, .int .i64 0]) (by simp [results, Try.results12, go_sem]) rfl ⟨rfl, ?_⟩
    exact below_alloc HB.out _
set_option maxHeartbeats 1000000 in
theorem info_0 (w : World) : Calls Try.prog 12 #[.int .i64 0] w fun e w' => e = .returned (.agg #[.string ⟨#[110, 111, 112]⟩, .int .i64 1, .int .i64 0]) ∧ Below w.heap.size w w' := by
  have HB := Aside0.mk (Below.refl w.heap.size w)
  go_enter Try.func12, Try.ntmps12
  go_wp2_with (first | (go_at_call 33; refine (opRows_calls _).mono ?_; rintro e w1 ⟨g, b0, b1, b2, b3, b4, b5, rfl, hg, hI, hb⟩; have hc0 : w1.cell? ⟨g, 0, none⟩ = some (.string ⟨#[110, 111, 112]⟩) := (cell_of_row _ _ _ _ _ _ hg).trans rfl; have hc1 : w1.cell? ⟨g, 1, none⟩ = some (.int .i64 1) := (cell_of_row _ _ _ _ _ _ hg).trans rfl; have hc2 : w1.cell? ⟨g, 2, none⟩ = some (.int .i64 0) := (cell_of_row _ _ _ _ _ _ hg).trans rfl; have HB1 := Aside0.mk (below_step (below_alloc HB.out _) hb); have HR := Aside0.mk ((hb.block w.heap.size (by simp)).trans (heap_alloc_new _ _)); have hr0 : w1.cell? ⟨w.heap.size, 0, none⟩ = some (.string ⟨#[]⟩) := (cell_of_row _ _ _ _ _ _ HR.out).trans rfl; have hr1 : w1.cell? ⟨w.heap.size, 1, none⟩ = some (.int .i64 0) := (cell_of_row _ _ _ _ _ _ HR.out).trans rfl; have hr2 : w1.cell? ⟨w.heap.size, 2, none⟩ = some (.int .i64 0) := (cell_of_row _ _ _ _ _ _ HR.out).trans rfl; have hf0 := blk_frozen HR.out 0; have hf1 := blk_frozen HR.out 1; have hf2 := blk_frozen HR.out 2; clear hg hI hb))
  refine bodyPost_ret (v := .agg #[.string ⟨#[110, 111, 112]⟩, .int .i64 1, .int .i64 0]) (by simp [results, Try.results12, go_sem, hr0, hr1, hr2]) rfl ⟨rfl, ?_⟩
  exact below_set (below_set (below_set HB1.out (Nat.le_refl _)) (Nat.le_refl _)) (Nat.le_refl _)
set_option maxHeartbeats 1000000 in
theorem info_1 (w : World) : Calls Try.prog 12 #[.int .i64 1] w fun e w' => e = .returned (.agg #[.string ⟨#[99, 111, 110, 115, 116]⟩, .int .i64 1, .int .i64 1]) ∧ Below w.heap.size w w' := by
  have HB := Aside0.mk (Below.refl w.heap.size w)
  go_enter Try.func12, Try.ntmps12
  go_wp2_with (first | (go_at_call 33; refine (opRows_calls _).mono ?_; rintro e w1 ⟨g, b0, b1, b2, b3, b4, b5, rfl, hg, hI, hb⟩; have hc0 : w1.cell? ⟨g, 4, none⟩ = some (.string ⟨#[99, 111, 110, 115, 116]⟩) := (cell_of_row _ _ _ _ _ _ hg).trans rfl; have hc1 : w1.cell? ⟨g, 5, none⟩ = some (.int .i64 1) := (cell_of_row _ _ _ _ _ _ hg).trans rfl; have hc2 : w1.cell? ⟨g, 6, none⟩ = some (.int .i64 1) := (cell_of_row _ _ _ _ _ _ hg).trans rfl; have HB1 := Aside0.mk (below_step (below_alloc HB.out _) hb); have HR := Aside0.mk ((hb.block w.heap.size (by simp)).trans (heap_alloc_new _ _)); have hr0 : w1.cell? ⟨w.heap.size, 0, none⟩ = some (.string ⟨#[]⟩) := (cell_of_row _ _ _ _ _ _ HR.out).trans rfl; have hr1 : w1.cell? ⟨w.heap.size, 1, none⟩ = some (.int .i64 0) := (cell_of_row _ _ _ _ _ _ HR.out).trans rfl; have hr2 : w1.cell? ⟨w.heap.size, 2, none⟩ = some (.int .i64 0) := (cell_of_row _ _ _ _ _ _ HR.out).trans rfl; have hf0 := blk_frozen HR.out 0; have hf1 := blk_frozen HR.out 1; have hf2 := blk_frozen HR.out 2; clear hg hI hb))
  refine bodyPost_ret (v := .agg #[.string ⟨#[99, 111, 110, 115, 116]⟩, .int .i64 1, .int .i64 1]) (by simp [results, Try.results12, go_sem, hr0, hr1, hr2]) rfl ⟨rfl, ?_⟩
  exact below_set (below_set (below_set HB1.out (Nat.le_refl _)) (Nat.le_refl _)) (Nat.le_refl _)
set_option maxHeartbeats 1000000 in
theorem info_2 (w : World) : Calls Try.prog 12 #[.int .i64 2] w fun e w' => e = .returned (.agg #[.string ⟨#[108, 111, 97, 100, 108, 111, 99, 97, 108]⟩, .int .i64 1, .int .i64 2]) ∧ Below w.heap.size w w' := by
  have HB := Aside0.mk (Below.refl w.heap.size w)
  go_enter Try.func12, Try.ntmps12
  go_wp2_with (first | (go_at_call 33; refine (opRows_calls _).mono ?_; rintro e w1 ⟨g, b0, b1, b2, b3, b4, b5, rfl, hg, hI, hb⟩; have hc0 : w1.cell? ⟨g, 8, none⟩ = some (.string ⟨#[108, 111, 97, 100, 108, 111, 99, 97, 108]⟩) := (cell_of_row _ _ _ _ _ _ hg).trans rfl; have hc1 : w1.cell? ⟨g, 9, none⟩ = some (.int .i64 1) := (cell_of_row _ _ _ _ _ _ hg).trans rfl; have hc2 : w1.cell? ⟨g, 10, none⟩ = some (.int .i64 2) := (cell_of_row _ _ _ _ _ _ hg).trans rfl; have HB1 := Aside0.mk (below_step (below_alloc HB.out _) hb); have HR := Aside0.mk ((hb.block w.heap.size (by simp)).trans (heap_alloc_new _ _)); have hr0 : w1.cell? ⟨w.heap.size, 0, none⟩ = some (.string ⟨#[]⟩) := (cell_of_row _ _ _ _ _ _ HR.out).trans rfl; have hr1 : w1.cell? ⟨w.heap.size, 1, none⟩ = some (.int .i64 0) := (cell_of_row _ _ _ _ _ _ HR.out).trans rfl; have hr2 : w1.cell? ⟨w.heap.size, 2, none⟩ = some (.int .i64 0) := (cell_of_row _ _ _ _ _ _ HR.out).trans rfl; have hf0 := blk_frozen HR.out 0; have hf1 := blk_frozen HR.out 1; have hf2 := blk_frozen HR.out 2; clear hg hI hb))
  refine bodyPost_ret (v := .agg #[.string ⟨#[108, 111, 97, 100, 108, 111, 99, 97, 108]⟩, .int .i64 1, .int .i64 2]) (by simp [results, Try.results12, go_sem, hr0, hr1, hr2]) rfl ⟨rfl, ?_⟩
  exact below_set (below_set (below_set HB1.out (Nat.le_refl _)) (Nat.le_refl _)) (Nat.le_refl _)
set_option maxHeartbeats 1000000 in
theorem info_3 (w : World) : Calls Try.prog 12 #[.int .i64 3] w fun e w' => e = .returned (.agg #[.string ⟨#[115, 116, 111, 114, 101, 108, 111, 99, 97, 108]⟩, .int .i64 1, .int .i64 2]) ∧ Below w.heap.size w w' := by
  have HB := Aside0.mk (Below.refl w.heap.size w)
  go_enter Try.func12, Try.ntmps12
  go_wp2_with (first | (go_at_call 33; refine (opRows_calls _).mono ?_; rintro e w1 ⟨g, b0, b1, b2, b3, b4, b5, rfl, hg, hI, hb⟩; have hc0 : w1.cell? ⟨g, 12, none⟩ = some (.string ⟨#[115, 116, 111, 114, 101, 108, 111, 99, 97, 108]⟩) := (cell_of_row _ _ _ _ _ _ hg).trans rfl; have hc1 : w1.cell? ⟨g, 13, none⟩ = some (.int .i64 1) := (cell_of_row _ _ _ _ _ _ hg).trans rfl; have hc2 : w1.cell? ⟨g, 14, none⟩ = some (.int .i64 2) := (cell_of_row _ _ _ _ _ _ hg).trans rfl; have HB1 := Aside0.mk (below_step (below_alloc HB.out _) hb); have HR := Aside0.mk ((hb.block w.heap.size (by simp)).trans (heap_alloc_new _ _)); have hr0 : w1.cell? ⟨w.heap.size, 0, none⟩ = some (.string ⟨#[]⟩) := (cell_of_row _ _ _ _ _ _ HR.out).trans rfl; have hr1 : w1.cell? ⟨w.heap.size, 1, none⟩ = some (.int .i64 0) := (cell_of_row _ _ _ _ _ _ HR.out).trans rfl; have hr2 : w1.cell? ⟨w.heap.size, 2, none⟩ = some (.int .i64 0) := (cell_of_row _ _ _ _ _ _ HR.out).trans rfl; have hf0 := blk_frozen HR.out 0; have hf1 := blk_frozen HR.out 1; have hf2 := blk_frozen HR.out 2; clear hg hI hb))
  refine bodyPost_ret (v := .agg #[.string ⟨#[115, 116, 111, 114, 101, 108, 111, 99, 97, 108]⟩, .int .i64 1, .int .i64 2]) (by simp [results, Try.results12, go_sem, hr0, hr1, hr2]) rfl ⟨rfl, ?_⟩
  exact below_set (below_set (below_set HB1.out (Nat.le_refl _)) (Nat.le_refl _)) (Nat.le_refl _)
set_option maxHeartbeats 1000000 in
theorem info_4 (w : World) : Calls Try.prog 12 #[.int .i64 4] w fun e w' => e = .returned (.agg #[.string ⟨#[108, 111, 97, 100]⟩, .int .i64 2, .int .i64 3]) ∧ Below w.heap.size w w' := by
  have HB := Aside0.mk (Below.refl w.heap.size w)
  go_enter Try.func12, Try.ntmps12
  go_wp2_with (first | (go_at_call 33; refine (opRows_calls _).mono ?_; rintro e w1 ⟨g, b0, b1, b2, b3, b4, b5, rfl, hg, hI, hb⟩; have hc0 : w1.cell? ⟨g, 16, none⟩ = some (.string ⟨#[108, 111, 97, 100]⟩) := (cell_of_row _ _ _ _ _ _ hg).trans rfl; have hc1 : w1.cell? ⟨g, 17, none⟩ = some (.int .i64 2) := (cell_of_row _ _ _ _ _ _ hg).trans rfl; have hc2 : w1.cell? ⟨g, 18, none⟩ = some (.int .i64 3) := (cell_of_row _ _ _ _ _ _ hg).trans rfl; have HB1 := Aside0.mk (below_step (below_alloc HB.out _) hb); have HR := Aside0.mk ((hb.block w.heap.size (by simp)).trans (heap_alloc_new _ _)); have hr0 : w1.cell? ⟨w.heap.size, 0, none⟩ = some (.string ⟨#[]⟩) := (cell_of_row _ _ _ _ _ _ HR.out).trans rfl; have hr1 : w1.cell? ⟨w.heap.size, 1, none⟩ = some (.int .i64 0) := (cell_of_row _ _ _ _ _ _ HR.out).trans rfl; have hr2 : w1.cell? ⟨w.heap.size, 2, none⟩ = some (.int .i64 0) := (cell_of_row _ _ _ _ _ _ HR.out).trans rfl; have hf0 := blk_frozen HR.out 0; have hf1 := blk_frozen HR.out 1; have hf2 := blk_frozen HR.out 2; clear hg hI hb))
  refine bodyPost_ret (v := .agg #[.string ⟨#[108, 111, 97, 100]⟩, .int .i64 2, .int .i64 3]) (by simp [results, Try.results12, go_sem, hr0, hr1, hr2]) rfl ⟨rfl, ?_⟩
  exact below_set (below_set (below_set HB1.out (Nat.le_refl _)) (Nat.le_refl _)) (Nat.le_refl _)
set_option maxHeartbeats 1000000 in
theorem info_5 (w : World) : Calls Try.prog 12 #[.int .i64 5] w fun e w' => e = .returned (.agg #[.string ⟨#[115, 116, 111, 114, 101]⟩, .int .i64 2, .int .i64 3]) ∧ Below w.heap.size w w' := by
  have HB := Aside0.mk (Below.refl w.heap.size w)
  go_enter Try.func12, Try.ntmps12
  go_wp2_with (first | (go_at_call 33; refine (opRows_calls _).mono ?_; rintro e w1 ⟨g, b0, b1, b2, b3, b4, b5, rfl, hg, hI, hb⟩; have hc0 : w1.cell? ⟨g, 20, none⟩ = some (.string ⟨#[115, 116, 111, 114, 101]⟩) := (cell_of_row _ _ _ _ _ _ hg).trans rfl; have hc1 : w1.cell? ⟨g, 21, none⟩ = some (.int .i64 2) := (cell_of_row _ _ _ _ _ _ hg).trans rfl; have hc2 : w1.cell? ⟨g, 22, none⟩ = some (.int .i64 3) := (cell_of_row _ _ _ _ _ _ hg).trans rfl; have HB1 := Aside0.mk (below_step (below_alloc HB.out _) hb); have HR := Aside0.mk ((hb.block w.heap.size (by simp)).trans (heap_alloc_new _ _)); have hr0 : w1.cell? ⟨w.heap.size, 0, none⟩ = some (.string ⟨#[]⟩) := (cell_of_row _ _ _ _ _ _ HR.out).trans rfl; have hr1 : w1.cell? ⟨w.heap.size, 1, none⟩ = some (.int .i64 0) := (cell_of_row _ _ _ _ _ _ HR.out).trans rfl; have hr2 : w1.cell? ⟨w.heap.size, 2, none⟩ = some (.int .i64 0) := (cell_of_row _ _ _ _ _ _ HR.out).trans rfl; have hf0 := blk_frozen HR.out 0; have hf1 := blk_frozen HR.out 1; have hf2 := blk_frozen HR.out 2; clear hg hI hb))
  refine bodyPost_ret (v := .agg #[.string ⟨#[115, 116, 111, 114, 101]⟩, .int .i64 2, .int .i64 3]) (by simp [results, Try.results12, go_sem, hr0, hr1, hr2]) rfl ⟨rfl, ?_⟩
  exact below_set (below_set (below_set HB1.out (Nat.le_refl _)) (Nat.le_refl _)) (Nat.le_refl _)
set_option maxHeartbeats 1000000 in
theorem info_6 (w : World) : Calls Try.prog 12 #[.int .i64 6] w fun e w' => e = .returned (.agg #[.string ⟨#[108, 111, 97, 100, 97, 116]⟩, .int .i64 3, .int .i64 4]) ∧ Below w.heap.size w w' := by
  have HB := Aside0.mk (Below.refl w.heap.size w)
  go_enter Try.func12, Try.ntmps12
  go_wp2_with (first | (go_at_call 33; refine (opRows_calls _).mono ?_; rintro e w1 ⟨g, b0, b1, b2, b3, b4, b5, rfl, hg, hI, hb⟩; have hc0 : w1.cell? ⟨g, 24, none⟩ = some (.string ⟨#[108, 111, 97, 100, 97, 116]⟩) := (cell_of_row _ _ _ _ _ _ hg).trans rfl; have hc1 : w1.cell? ⟨g, 25, none⟩ = some (.int .i64 3) := (cell_of_row _ _ _ _ _ _ hg).trans rfl; have hc2 : w1.cell? ⟨g, 26, none⟩ = some (.int .i64 4) := (cell_of_row _ _ _ _ _ _ hg).trans rfl; have HB1 := Aside0.mk (below_step (below_alloc HB.out _) hb); have HR := Aside0.mk ((hb.block w.heap.size (by simp)).trans (heap_alloc_new _ _)); have hr0 : w1.cell? ⟨w.heap.size, 0, none⟩ = some (.string ⟨#[]⟩) := (cell_of_row _ _ _ _ _ _ HR.out).trans rfl; have hr1 : w1.cell? ⟨w.heap.size, 1, none⟩ = some (.int .i64 0) := (cell_of_row _ _ _ _ _ _ HR.out).trans rfl; have hr2 : w1.cell? ⟨w.heap.size, 2, none⟩ = some (.int .i64 0) := (cell_of_row _ _ _ _ _ _ HR.out).trans rfl; have hf0 := blk_frozen HR.out 0; have hf1 := blk_frozen HR.out 1; have hf2 := blk_frozen HR.out 2; clear hg hI hb))
  refine bodyPost_ret (v := .agg #[.string ⟨#[108, 111, 97, 100, 97, 116]⟩, .int .i64 3, .int .i64 4]) (by simp [results, Try.results12, go_sem, hr0, hr1, hr2]) rfl ⟨rfl, ?_⟩
  exact below_set (below_set (below_set HB1.out (Nat.le_refl _)) (Nat.le_refl _)) (Nat.le_refl _)
set_option maxHeartbeats 1000000 in
theorem info_7 (w : World) : Calls Try.prog 12 #[.int .i64 7] w fun e w' => e = .returned (.agg #[.string ⟨#[115, 116, 111, 114, 101, 97, 116]⟩, .int .i64 3, .int .i64 4]) ∧ Below w.heap.size w w' := by
  have HB := Aside0.mk (Below.refl w.heap.size w)
  go_enter Try.func12, Try.ntmps12
  go_wp2_with (first | (go_at_call 33; refine (opRows_calls _).mono ?_; rintro e w1 ⟨g, b0, b1, b2, b3, b4, b5, rfl, hg, hI, hb⟩; have hc0 : w1.cell? ⟨g, 28, none⟩ = some (.string ⟨#[115, 116, 111, 114, 101, 97, 116]⟩) := (cell_of_row _ _ _ _ _ _ hg).trans rfl; have hc1 : w1.cell? ⟨g, 29, none⟩ = some (.int .i64 3) := (cell_of_row _ _ _ _ _ _ hg).trans rfl; have hc2 : w1.cell? ⟨g, 30, none⟩ = some (.int .i64 4) := (cell_of_row _ _ _ _ _ _ hg).trans rfl; have HB1 := Aside0.mk (below_step (below_alloc HB.out _) hb); have HR := Aside0.mk ((hb.block w.heap.size (by simp)).trans (heap_alloc_new _ _)); have hr0 : w1.cell? ⟨w.heap.size, 0, none⟩ = some (.string ⟨#[]⟩) := (cell_of_row _ _ _ _ _ _ HR.out).trans rfl; have hr1 : w1.cell? ⟨w.heap.size, 1, none⟩ = some (.int .i64 0) := (cell_of_row _ _ _ _ _ _ HR.out).trans rfl; have hr2 : w1.cell? ⟨w.heap.size, 2, none⟩ = some (.int .i64 0) := (cell_of_row _ _ _ _ _ _ HR.out).trans rfl; have hf0 := blk_frozen HR.out 0; have hf1 := blk_frozen HR.out 1; have hf2 := blk_frozen HR.out 2; clear hg hI hb))
  refine bodyPost_ret (v := .agg #[.string ⟨#[115, 116, 111, 114, 101, 97, 116]⟩, .int .i64 3, .int .i64 4]) (by simp [results, Try.results12, go_sem, hr0, hr1, hr2]) rfl ⟨rfl, ?_⟩
  exact below_set (below_set (below_set HB1.out (Nat.le_refl _)) (Nat.le_refl _)) (Nat.le_refl _)
set_option maxHeartbeats 1000000 in
theorem info_8 (w : World) : Calls Try.prog 12 #[.int .i64 8] w fun e w' => e = .returned (.agg #[.string ⟨#[97, 100, 100]⟩, .int .i64 1, .int .i64 5]) ∧ Below w.heap.size w w' := by
  have HB := Aside0.mk (Below.refl w.heap.size w)
  go_enter Try.func12, Try.ntmps12
  go_wp2_with (first | (go_at_call 33; refine (opRows_calls _).mono ?_; rintro e w1 ⟨g, b0, b1, b2, b3, b4, b5, rfl, hg, hI, hb⟩; have hc0 : w1.cell? ⟨g, 32, none⟩ = some (.string ⟨#[97, 100, 100]⟩) := (cell_of_row _ _ _ _ _ _ hg).trans rfl; have hc1 : w1.cell? ⟨g, 33, none⟩ = some (.int .i64 1) := (cell_of_row _ _ _ _ _ _ hg).trans rfl; have hc2 : w1.cell? ⟨g, 34, none⟩ = some (.int .i64 5) := (cell_of_row _ _ _ _ _ _ hg).trans rfl; have HB1 := Aside0.mk (below_step (below_alloc HB.out _) hb); have HR := Aside0.mk ((hb.block w.heap.size (by simp)).trans (heap_alloc_new _ _)); have hr0 : w1.cell? ⟨w.heap.size, 0, none⟩ = some (.string ⟨#[]⟩) := (cell_of_row _ _ _ _ _ _ HR.out).trans rfl; have hr1 : w1.cell? ⟨w.heap.size, 1, none⟩ = some (.int .i64 0) := (cell_of_row _ _ _ _ _ _ HR.out).trans rfl; have hr2 : w1.cell? ⟨w.heap.size, 2, none⟩ = some (.int .i64 0) := (cell_of_row _ _ _ _ _ _ HR.out).trans rfl; have hf0 := blk_frozen HR.out 0; have hf1 := blk_frozen HR.out 1; have hf2 := blk_frozen HR.out 2; clear hg hI hb))
  refine bodyPost_ret (v := .agg #[.string ⟨#[97, 100, 100]⟩, .int .i64 1, .int .i64 5]) (by simp [results, Try.results12, go_sem, hr0, hr1, hr2]) rfl ⟨rfl, ?_⟩
  exact below_set (below_set (below_set HB1.out (Nat.le_refl _)) (Nat.le_refl _)) (Nat.le_refl _)
set_option maxHeartbeats 1000000 in
theorem info_9 (w : World) : Calls Try.prog 12 #[.int .i64 9] w fun e w' => e = .returned (.agg #[.string ⟨#[115, 117, 98]⟩, .int .i64 1, .int .i64 5]) ∧ Below w.heap.size w w' := by
  have HB := Aside0.mk (Below.refl w.heap.size w)
  go_enter Try.func12, Try.ntmps12
  go_wp2_with (first | (go_at_call 33; refine (opRows_calls _).mono ?_; rintro e w1 ⟨g, b0, b1, b2, b3, b4, b5, rfl, hg, hI, hb⟩; have hc0 : w1.cell? ⟨g, 36, none⟩ = some (.string ⟨#[115, 117, 98]⟩) := (cell_of_row _ _ _ _ _ _ hg).trans rfl; have hc1 : w1.cell? ⟨g, 37, none⟩ = some (.int .i64 1) := (cell_of_row _ _ _ _ _ _ hg).trans rfl; have hc2 : w1.cell? ⟨g, 38, none⟩ = some (.int .i64 5) := (cell_of_row _ _ _ _ _ _ hg).trans rfl; have HB1 := Aside0.mk (below_step (below_alloc HB.out _) hb); have HR := Aside0.mk ((hb.block w.heap.size (by simp)).trans (heap_alloc_new _ _)); have hr0 : w1.cell? ⟨w.heap.size, 0, none⟩ = some (.string ⟨#[]⟩) := (cell_of_row _ _ _ _ _ _ HR.out).trans rfl; have hr1 : w1.cell? ⟨w.heap.size, 1, none⟩ = some (.int .i64 0) := (cell_of_row _ _ _ _ _ _ HR.out).trans rfl; have hr2 : w1.cell? ⟨w.heap.size, 2, none⟩ = some (.int .i64 0) := (cell_of_row _ _ _ _ _ _ HR.out).trans rfl; have hf0 := blk_frozen HR.out 0; have hf1 := blk_frozen HR.out 1; have hf2 := blk_frozen HR.out 2; clear hg hI hb))
  refine bodyPost_ret (v := .agg #[.string ⟨#[115, 117, 98]⟩, .int .i64 1, .int .i64 5]) (by simp [results, Try.results12, go_sem, hr0, hr1, hr2]) rfl ⟨rfl, ?_⟩
  exact below_set (below_set (below_set HB1.out (Nat.le_refl _)) (Nat.le_refl _)) (Nat.le_refl _)
set_option maxHeartbeats 1000000 in
theorem info_10 (w : World) : Calls Try.prog 12 #[.int .i64 10] w fun e w' => e = .returned (.agg #[.string ⟨#[109, 117, 108]⟩, .int .i64 3, .int .i64 5]) ∧ Below w.heap.size w w' := by
  have HB := Aside0.mk (Below.refl w.heap.size w)
  go_enter Try.func12, Try.ntmps12
  go_wp2_with (first | (go_at_call 33; refine (opRows_calls _).mono ?_; rintro e w1 ⟨g, b0, b1, b2, b3, b4, b5, rfl, hg, hI, hb⟩; have hc0 : w1.cell? ⟨g, 40, none⟩ = some (.string ⟨#[109, 117, 108]⟩) := (cell_of_row _ _ _ _ _ _ hg).trans rfl; have hc1 : w1.cell? ⟨g, 41, none⟩ = some (.int .i64 3) := (cell_of_row _ _ _ _ _ _ hg).trans rfl; have hc2 : w1.cell? ⟨g, 42, none⟩ = some (.int .i64 5) := (cell_of_row _ _ _ _ _ _ hg).trans rfl; have HB1 := Aside0.mk (below_step (below_alloc HB.out _) hb); have HR := Aside0.mk ((hb.block w.heap.size (by simp)).trans (heap_alloc_new _ _)); have hr0 : w1.cell? ⟨w.heap.size, 0, none⟩ = some (.string ⟨#[]⟩) := (cell_of_row _ _ _ _ _ _ HR.out).trans rfl; have hr1 : w1.cell? ⟨w.heap.size, 1, none⟩ = some (.int .i64 0) := (cell_of_row _ _ _ _ _ _ HR.out).trans rfl; have hr2 : w1.cell? ⟨w.heap.size, 2, none⟩ = some (.int .i64 0) := (cell_of_row _ _ _ _ _ _ HR.out).trans rfl; have hf0 := blk_frozen HR.out 0; have hf1 := blk_frozen HR.out 1; have hf2 := blk_frozen HR.out 2; clear hg hI hb))
  refine bodyPost_ret (v := .agg #[.string ⟨#[109, 117, 108]⟩, .int .i64 3, .int .i64 5]) (by simp [results, Try.results12, go_sem, hr0, hr1, hr2]) rfl ⟨rfl, ?_⟩
  exact below_set (below_set (below_set HB1.out (Nat.le_refl _)) (Nat.le_refl _)) (Nat.le_refl _)
set_option maxHeartbeats 1000000 in
theorem info_11 (w : World) : Calls Try.prog 12 #[.int .i64 11] w fun e w' => e = .returned (.agg #[.string ⟨#[100, 105, 118]⟩, .int .i64 8, .int .i64 5]) ∧ Below w.heap.size w w' := by
  have HB := Aside0.mk (Below.refl w.heap.size w)
  go_enter Try.func12, Try.ntmps12
  go_wp2_with (first | (go_at_call 33; refine (opRows_calls _).mono ?_; rintro e w1 ⟨g, b0, b1, b2, b3, b4, b5, rfl, hg, hI, hb⟩; have hc0 : w1.cell? ⟨g, 44, none⟩ = some (.string ⟨#[100, 105, 118]⟩) := (cell_of_row _ _ _ _ _ _ hg).trans rfl; have hc1 : w1.cell? ⟨g, 45, none⟩ = some (.int .i64 8) := (cell_of_row _ _ _ _ _ _ hg).trans rfl; have hc2 : w1.cell? ⟨g, 46, none⟩ = some (.int .i64 5) := (cell_of_row _ _ _ _ _ _ hg).trans rfl; have HB1 := Aside0.mk (below_step (below_alloc HB.out _) hb); have HR := Aside0.mk ((hb.block w.heap.size (by simp)).trans (heap_alloc_new _ _)); have hr0 : w1.cell? ⟨w.heap.size, 0, none⟩ = some (.string ⟨#[]⟩) := (cell_of_row _ _ _ _ _ _ HR.out).trans rfl; have hr1 : w1.cell? ⟨w.heap.size, 1, none⟩ = some (.int .i64 0) := (cell_of_row _ _ _ _ _ _ HR.out).trans rfl; have hr2 : w1.cell? ⟨w.heap.size, 2, none⟩ = some (.int .i64 0) := (cell_of_row _ _ _ _ _ _ HR.out).trans rfl; have hf0 := blk_frozen HR.out 0; have hf1 := blk_frozen HR.out 1; have hf2 := blk_frozen HR.out 2; clear hg hI hb))
  refine bodyPost_ret (v := .agg #[.string ⟨#[100, 105, 118]⟩, .int .i64 8, .int .i64 5]) (by simp [results, Try.results12, go_sem, hr0, hr1, hr2]) rfl ⟨rfl, ?_⟩
  exact below_set (below_set (below_set HB1.out (Nat.le_refl _)) (Nat.le_refl _)) (Nat.le_refl _)
set_option maxHeartbeats 1000000 in
theorem info_12 (w : World) : Calls Try.prog 12 #[.int .i64 12] w fun e w' => e = .returned (.agg #[.string ⟨#[109, 111, 100]⟩, .int .i64 8, .int .i64 5]) ∧ Below w.heap.size w w' := by
  have HB := Aside0.mk (Below.refl w.heap.size w)
  go_enter Try.func12, Try.ntmps12
  go_wp2_with (first | (go_at_call 33; refine (opRows_calls _).mono ?_; rintro e w1 ⟨g, b0, b1, b2, b3, b4, b5, rfl, hg, hI, hb⟩; have hc0 : w1.cell? ⟨g, 48, none⟩ = some (.string ⟨#[109, 111, 100]⟩) := (cell_of_row _ _ _ _ _ _ hg).trans rfl; have hc1 : w1.cell? ⟨g, 49, none⟩ = some (.int .i64 8) := (cell_of_row _ _ _ _ _ _ hg).trans rfl; have hc2 : w1.cell? ⟨g, 50, none⟩ = some (.int .i64 5) := (cell_of_row _ _ _ _ _ _ hg).trans rfl; have HB1 := Aside0.mk (below_step (below_alloc HB.out _) hb); have HR := Aside0.mk ((hb.block w.heap.size (by simp)).trans (heap_alloc_new _ _)); have hr0 : w1.cell? ⟨w.heap.size, 0, none⟩ = some (.string ⟨#[]⟩) := (cell_of_row _ _ _ _ _ _ HR.out).trans rfl; have hr1 : w1.cell? ⟨w.heap.size, 1, none⟩ = some (.int .i64 0) := (cell_of_row _ _ _ _ _ _ HR.out).trans rfl; have hr2 : w1.cell? ⟨w.heap.size, 2, none⟩ = some (.int .i64 0) := (cell_of_row _ _ _ _ _ _ HR.out).trans rfl; have hf0 := blk_frozen HR.out 0; have hf1 := blk_frozen HR.out 1; have hf2 := blk_frozen HR.out 2; clear hg hI hb))
  refine bodyPost_ret (v := .agg #[.string ⟨#[109, 111, 100]⟩, .int .i64 8, .int .i64 5]) (by simp [results, Try.results12, go_sem, hr0, hr1, hr2]) rfl ⟨rfl, ?_⟩
  exact below_set (below_set (below_set HB1.out (Nat.le_refl _)) (Nat.le_refl _)) (Nat.le_refl _)
set_option maxHeartbeats 1000000 in
theorem info_13 (w : World) : Calls Try.prog 12 #[.int .i64 13] w fun e w' => e = .returned (.agg #[.string ⟨#[97, 110, 100]⟩, .int .i64 1, .int .i64 6]) ∧ Below w.heap.size w w' := by
  have HB := Aside0.mk (Below.refl w.heap.size w)
  go_enter Try.func12, Try.ntmps12
  go_wp2_with (first | (go_at_call 33; refine (opRows_calls _).mono ?_; rintro e w1 ⟨g, b0, b1, b2, b3, b4, b5, rfl, hg, hI, hb⟩; have hc0 : w1.cell? ⟨g, 52, none⟩ = some (.string ⟨#[97, 110, 100]⟩) := (cell_of_row _ _ _ _ _ _ hg).trans rfl; have hc1 : w1.cell? ⟨g, 53, none⟩ = some (.int .i64 1) := (cell_of_row _ _ _ _ _ _ hg).trans rfl; have hc2 : w1.cell? ⟨g, 54, none⟩ = some (.int .i64 6) := (cell_of_row _ _ _ _ _ _ hg).trans rfl; have HB1 := Aside0.mk (below_step (below_alloc HB.out _) hb); have HR := Aside0.mk ((hb.block w.heap.size (by simp)).trans (heap_alloc_new _ _)); have hr0 : w1.cell? ⟨w.heap.size, 0, none⟩ = some (.string ⟨#[]⟩) := (cell_of_row _ _ _ _ _ _ HR.out).trans rfl; have hr1 : w1.cell? ⟨w.heap.size, 1, none⟩ = some (.int .i64 0) := (cell_of_row _ _ _ _ _ _ HR.out).trans rfl; have hr2 : w1.cell? ⟨w.heap.size, 2, none⟩ = some (.int .i64 0) := (cell_of_row _ _ _ _ _ _ HR.out).trans rfl; have hf0 := blk_frozen HR.out 0; have hf1 := blk_frozen HR.out 1; have hf2 := blk_frozen HR.out 2; clear hg hI hb))
  refine bodyPost_ret (v := .agg #[.string ⟨#[97, 110, 100]⟩, .int .i64 1, .int .i64 6]) (by simp [results, Try.results12, go_sem, hr0, hr1, hr2]) rfl ⟨rfl, ?_⟩
  exact below_set (below_set (below_set HB1.out (Nat.le_refl _)) (Nat.le_refl _)) (Nat.le_refl _)
set_option maxHeartbeats 1000000 in
theorem info_14 (w : World) : Calls Try.prog 12 #[.int .i64 14] w fun e w' => e = .returned (.agg #[.string ⟨#[111, 114]⟩, .int .i64 1, .int .i64 6]) ∧ Below w.heap.size w w' := by
  have HB := Aside0.mk (Below.refl w.heap.size w)
  go_enter Try.func12, Try.ntmps12
  go_wp2_with (first | (go_at_call 33; refine (opRows_calls _).mono ?_; rintro e w1 ⟨g, b0, b1, b2, b3, b4, b5, rfl, hg, hI, hb⟩; have hc0 : w1.cell? ⟨g, 56, none⟩ = some (.string ⟨#[111, 114]⟩) := (cell_of_row _ _ _ _ _ _ hg).trans rfl; have hc1 : w1.cell? ⟨g, 57, none⟩ = some (.int .i64 1) := (cell_of_row _ _ _ _ _ _ hg).trans rfl; have hc2 : w1.cell? ⟨g, 58, none⟩ = some (.int .i64 6) := (cell_of_row _ _ _ _ _ _ hg).trans rfl; have HB1 := Aside0.mk (below_step (below_alloc HB.out _) hb); have HR := Aside0.mk ((hb.block w.heap.size (by simp)).trans (heap_alloc_new _ _)); have hr0 : w1.cell? ⟨w.heap.size, 0, none⟩ = some (.string ⟨#[]⟩) := (cell_of_row _ _ _ _ _ _ HR.out).trans rfl; have hr1 : w1.cell? ⟨w.heap.size, 1, none⟩ = some (.int .i64 0) := (cell_of_row _ _ _ _ _ _ HR.out).trans rfl; have hr2 : w1.cell? ⟨w.heap.size, 2, none⟩ = some (.int .i64 0) := (cell_of_row _ _ _ _ _ _ HR.out).trans rfl; have hf0 := blk_frozen HR.out 0; have hf1 := blk_frozen HR.out 1; have hf2 := blk_frozen HR.out 2; clear hg hI hb))
  refine bodyPost_ret (v := .agg #[.string ⟨#[111, 114]⟩, .int .i64 1, .int .i64 6]) (by simp [results, Try.results12, go_sem, hr0, hr1, hr2]) rfl ⟨rfl, ?_⟩
  exact below_set (below_set (below_set HB1.out (Nat.le_refl _)) (Nat.le_refl _)) (Nat.le_refl _)
set_option maxHeartbeats 1000000 in
theorem info_15 (w : World) : Calls Try.prog 12 #[.int .i64 15] w fun e w' => e = .returned (.agg #[.string ⟨#[120, 111, 114]⟩, .int .i64 1, .int .i64 6]) ∧ Below w.heap.size w w' := by
  have HB := Aside0.mk (Below.refl w.heap.size w)
  go_enter Try.func12, Try.ntmps12
  go_wp2_with (first | (go_at_call 33; refine (opRows_calls _).mono ?_; rintro e w1 ⟨g, b0, b1, b2, b3, b4, b5, rfl, hg, hI, hb⟩; have hc0 : w1.cell? ⟨g, 60, none⟩ = some (.string ⟨#[120, 111, 114]⟩) := (cell_of_row _ _ _ _ _ _ hg).trans rfl; have hc1 : w1.cell? ⟨g, 61, none⟩ = some (.int .i64 1) := (cell_of_row _ _ _ _ _ _ hg).trans rfl; have hc2 : w1.cell? ⟨g, 62, none⟩ = some (.int .i64 6) := (cell_of_row _ _ _ _ _ _ hg).trans rfl; have HB1 := Aside0.mk (below_step (below_alloc HB.out _) hb); have HR := Aside0.mk ((hb.block w.heap.size (by simp)).trans (heap_alloc_new _ _)); have hr0 : w1.cell? ⟨w.heap.size, 0, none⟩ = some (.string ⟨#[]⟩) := (cell_of_row _ _ _ _ _ _ HR.out).trans rfl; have hr1 : w1.cell? ⟨w.heap.size, 1, none⟩ = some (.int .i64 0) := (cell_of_row _ _ _ _ _ _ HR.out).trans rfl; have hr2 : w1.cell? ⟨w.heap.size, 2, none⟩ = some (.int .i64 0) := (cell_of_row _ _ _ _ _ _ HR.out).trans rfl; have hf0 := blk_frozen HR.out 0; have hf1 := blk_frozen HR.out 1; have hf2 := blk_frozen HR.out 2; clear hg hI hb))
  refine bodyPost_ret (v := .agg #[.string ⟨#[120, 111, 114]⟩, .int .i64 1, .int .i64 6]) (by simp [results, Try.results12, go_sem, hr0, hr1, hr2]) rfl ⟨rfl, ?_⟩
  exact below_set (below_set (below_set HB1.out (Nat.le_refl _)) (Nat.le_refl _)) (Nat.le_refl _)
set_option maxHeartbeats 1000000 in
theorem info_16 (w : World) : Calls Try.prog 12 #[.int .i64 16] w fun e w' => e = .returned (.agg #[.string ⟨#[110, 111, 116]⟩, .int .i64 1, .int .i64 6]) ∧ Below w.heap.size w w' := by
  have HB := Aside0.mk (Below.refl w.heap.size w)
  go_enter Try.func12, Try.ntmps12
  go_wp2_with (first | (go_at_call 33; refine (opRows_calls _).mono ?_; rintro e w1 ⟨g, b0, b1, b2, b3, b4, b5, rfl, hg, hI, hb⟩; have hc0 : w1.cell? ⟨g, 64, none⟩ = some (.string ⟨#[110, 111, 116]⟩) := (cell_of_row _ _ _ _ _ _ hg).trans rfl; have hc1 : w1.cell? ⟨g, 65, none⟩ = some (.int .i64 1) := (cell_of_row _ _ _ _ _ _ hg).trans rfl; have hc2 : w1.cell? ⟨g, 66, none⟩ = some (.int .i64 6) := (cell_of_row _ _ _ _ _ _ hg).trans rfl; have HB1 := Aside0.mk (below_step (below_alloc HB.out _) hb); have HR := Aside0.mk ((hb.block w.heap.size (by simp)).trans (heap_alloc_new _ _)); have hr0 : w1.cell? ⟨w.heap.size, 0, none⟩ = some (.string ⟨#[]⟩) := (cell_of_row _ _ _ _ _ _ HR.out).trans rfl; have hr1 : w1.cell? ⟨w.heap.size, 1, none⟩ = some (.int .i64 0) := (cell_of_row _ _ _ _ _ _ HR.out).trans rfl; have hr2 : w1.cell? ⟨w.heap.size, 2, none⟩ = some (.int .i64 0) := (cell_of_row _ _ _ _ _ _ HR.out).trans rfl; have hf0 := blk_frozen HR.out 0; have hf1 := blk_frozen HR.out 1; have hf2 := blk_frozen HR.out 2; clear hg hI hb))
  refine bodyPost_ret (v := .agg #[.string ⟨#[110, 111, 116]⟩, .int .i64 1, .int .i64 6]) (by simp [results, Try.results12, go_sem, hr0, hr1, hr2]) rfl ⟨rfl, ?_⟩
  exact below_set (below_set (below_set HB1.out (Nat.le_refl _)) (Nat.le_refl _)) (Nat.le_refl _)
set_option maxHeartbeats 1000000 in
theorem info_17 (w : World) : Calls Try.prog 12 #[.int .i64 17] w fun e w' => e = .returned (.agg #[.string ⟨#[115, 104, 108]⟩, .int .i64 1, .int .i64 0]) ∧ Below w.heap.size w w' := by
  have HB := Aside0.mk (Below.refl w.heap.size w)
  go_enter Try.func12, Try.ntmps12
  go_wp2_with (first | (go_at_call 33; refine (opRows_calls _).mono ?_; rintro e w1 ⟨g, b0, b1, b2, b3, b4, b5, rfl, hg, hI, hb⟩; have hc0 : w1.cell? ⟨g, 68, none⟩ = some (.string ⟨#[115, 104, 108]⟩) := (cell_of_row _ _ _ _ _ _ hg).trans rfl; have hc1 : w1.cell? ⟨g, 69, none⟩ = some (.int .i64 1) := (cell_of_row _ _ _ _ _ _ hg).trans rfl; have hc2 : w1.cell? ⟨g, 70, none⟩ = some (.int .i64 0) := (cell_of_row _ _ _ _ _ _ hg).trans rfl; have HB1 := Aside0.mk (below_step (below_alloc HB.out _) hb); have HR := Aside0.mk ((hb.block w.heap.size (by simp)).trans (heap_alloc_new _ _)); have hr0 : w1.cell? ⟨w.heap.size, 0, none⟩ = some (.string ⟨#[]⟩) := (cell_of_row _ _ _ _ _ _ HR.out).trans rfl; have hr1 : w1.cell? ⟨w.heap.size, 1, none⟩ = some (.int .i64 0) := (cell_of_row _ _ _ _ _ _ HR.out).trans rfl; have hr2 : w1.cell? ⟨w.heap.size, 2, none⟩ = some (.int .i64 0) := (cell_of_row _ _ _ _ _ _ HR.out).trans rfl; have hf0 := blk_frozen HR.out 0; have hf1 := blk_frozen HR.out 1; have hf2 := blk_frozen HR.out 2; clear hg hI hb))
  refine bodyPost_ret (v := .agg #[.string ⟨#[115, 104, 108]⟩, .int .i64 1, .int .i64 0]) (by simp [results, Try.results12, go_sem, hr0, hr1, hr2]) rfl ⟨rfl, ?_⟩
  exact below_set (below_set (below_set HB1.out (Nat.le_refl _)) (Nat.le_refl _)) (Nat.le_refl _)
set_option maxHeartbeats 1000000 in
theorem info_18 (w : World) : Calls Try.prog 12 #[.int .i64 18] w fun e w' => e = .returned (.agg #[.string ⟨#[115, 104, 114]⟩, .int .i64 1, .int .i64 0]) ∧ Below w.heap.size w w' := by
  have HB := Aside0.mk (Below.refl w.heap.size w)
  go_enter Try.func12, Try.ntmps12
  go_wp2_with (first | (go_at_call 33; refine (opRows_calls _).mono ?_; rintro e w1 ⟨g, b0, b1, b2, b3, b4, b5, rfl, hg, hI, hb⟩; have hc0 : w1.cell? ⟨g, 72, none⟩ = some (.string ⟨#[115, 104, 114]⟩) := (cell_of_row _ _ _ _ _ _ hg).trans rfl; have hc1 : w1.cell? ⟨g, 73, none⟩ = some (.int .i64 1) := (cell_of_row _ _ _ _ _ _ hg).trans rfl; have hc2 : w1.cell? ⟨g, 74, none⟩ = some (.int .i64 0) := (cell_of_row _ _ _ _ _ _ hg).trans rfl; have HB1 := Aside0.mk (below_step (below_alloc HB.out _) hb); have HR := Aside0.mk ((hb.block w.heap.size (by simp)).trans (heap_alloc_new _ _)); have hr0 : w1.cell? ⟨w.heap.size, 0, none⟩ = some (.string ⟨#[]⟩) := (cell_of_row _ _ _ _ _ _ HR.out).trans rfl; have hr1 : w1.cell? ⟨w.heap.size, 1, none⟩ = some (.int .i64 0) := (cell_of_row _ _ _ _ _ _ HR.out).trans rfl; have hr2 : w1.cell? ⟨w.heap.size, 2, none⟩ = some (.int .i64 0) := (cell_of_row _ _ _ _ _ _ HR.out).trans rfl; have hf0 := blk_frozen HR.out 0; have hf1 := blk_frozen HR.out 1; have hf2 := blk_frozen HR.out 2; clear hg hI hb))
  refine bodyPost_ret (v := .agg #[.string ⟨#[115, 104, 114]⟩, .int .i64 1, .int .i64 0]) (by simp [results, Try.results12, go_sem, hr0, hr1, hr2]) rfl ⟨rfl, ?_⟩
  exact below_set (below_set (below_set HB1.out (Nat.le_refl _)) (Nat.le_refl _)) (Nat.le_refl _)
set_option maxHeartbeats 1000000 in
theorem info_19 (w : World) : Calls Try.prog 12 #[.int .i64 19] w fun e w' => e = .returned (.agg #[.string ⟨#[110, 101, 103]⟩, .int .i64 1, .int .i64 0]) ∧ Below w.heap.size w w' := by
  have HB := Aside0.mk (Below.refl w.heap.size w)
  go_enter Try.func12, Try.ntmps12
  go_wp2_with (first | (go_at_call 33; refine (opRows_calls _).mono ?_; rintro e w1 ⟨g, b0, b1, b2, b3, b4, b5, rfl, hg, hI, hb⟩; have hc0 : w1.cell? ⟨g, 76, none⟩ = some (.string ⟨#[110, 101, 103]⟩) := (cell_of_row _ _ _ _ _ _ hg).trans rfl; have hc1 : w1.cell? ⟨g, 77, none⟩ = some (.int .i64 1) := (cell_of_row _ _ _ _ _ _ hg).trans rfl; have hc2 : w1.cell? ⟨g, 78, none⟩ = some (.int .i64 0) := (cell_of_row _ _ _ _ _ _ hg).trans rfl; have HB1 := Aside0.mk (below_step (below_alloc HB.out _) hb); have HR := Aside0.mk ((hb.block w.heap.size (by simp)).trans (heap_alloc_new _ _)); have hr0 : w1.cell? ⟨w.heap.size, 0, none⟩ = some (.string ⟨#[]⟩) := (cell_of_row _ _ _ _ _ _ HR.out).trans rfl; have hr1 : w1.cell? ⟨w.heap.size, 1, none⟩ = some (.int .i64 0) := (cell_of_row _ _ _ _ _ _ HR.out).trans rfl; have hr2 : w1.cell? ⟨w.heap.size, 2, none⟩ = some (.int .i64 0) := (cell_of_row _ _ _ _ _ _ HR.out).trans rfl; have hf0 := blk_frozen HR.out 0; have hf1 := blk_frozen HR.out 1; have hf2 := blk_frozen HR.out 2; clear hg hI hb))
  refine bodyPost_ret (v := .agg #[.string ⟨#[110, 101, 103]⟩, .int .i64 1, .int .i64 0]) (by simp [results, Try.results12, go_sem, hr0, hr1, hr2]) rfl ⟨rfl, ?_⟩
  exact below_set (below_set (below_set HB1.out (Nat.le_refl _)) (Nat.le_refl _)) (Nat.le_refl _)
set_option maxHeartbeats 1000000 in
theorem info_20 (w : World) : Calls Try.prog 12 #[.int .i64 20] w fun e w' => e = .returned (.agg #[.string ⟨#[101, 113]⟩, .int .i64 1, .int .i64 7]) ∧ Below w.heap.size w w' := by
  have HB := Aside0.mk (Below.refl w.heap.size w)
  go_enter Try.func12, Try.ntmps12
  go_wp2_with (first | (go_at_call 33; refine (opRows_calls _).mono ?_; rintro e w1 ⟨g, b0, b1, b2, b3, b4, b5, rfl, hg, hI, hb⟩; have hc0 : w1.cell? ⟨g, 80, none⟩ = some (.string ⟨#[101, 113]⟩) := (cell_of_row _ _ _ _ _ _ hg).trans rfl; have hc1 : w1.cell? ⟨g, 81, none⟩ = some (.int .i64 1) := (cell_of_row _ _ _ _ _ _ hg).trans rfl; have hc2 : w1.cell? ⟨g, 82, none⟩ = some (.int .i64 7) := (cell_of_row _ _ _ _ _ _ hg).trans rfl; have HB1 := Aside0.mk (below_step (below_alloc HB.out _) hb); have HR := Aside0.mk ((hb.block w.heap.size (by simp)).trans (heap_alloc_new _ _)); have hr0 : w1.cell? ⟨w.heap.size, 0, none⟩ = some (.string ⟨#[]⟩) := (cell_of_row _ _ _ _ _ _ HR.out).trans rfl; have hr1 : w1.cell? ⟨w.heap.size, 1, none⟩ = some (.int .i64 0) := (cell_of_row _ _ _ _ _ _ HR.out).trans rfl; have hr2 : w1.cell? ⟨w.heap.size, 2, none⟩ = some (.int .i64 0) := (cell_of_row _ _ _ _ _ _ HR.out).trans rfl; have hf0 := blk_frozen HR.out 0; have hf1 := blk_frozen HR.out 1; have hf2 := blk_frozen HR.out 2; clear hg hI hb))
  refine bodyPost_ret (v := .agg #[.string ⟨#[101, 113]⟩, .int .i64 1, .int .i64 7]) (by simp [results, Try.results12, go_sem, hr0, hr1, hr2]) rfl ⟨rfl, ?_⟩
  exact below_set (below_set (below_set HB1.out (Nat.le_refl _)) (Nat.le_refl _)) (Nat.le_refl _)
set_option maxHeartbeats 1000000 in
theorem info_21 (w : World) : Calls Try.prog 12 #[.int .i64 21] w fun e w' => e = .returned (.agg #[.string ⟨#[108, 101, 115, 115]⟩, .int .i64 1, .int .i64 5]) ∧ Below w.heap.size w w' := by
  have HB := Aside0.mk (Below.refl w.heap.size w)
  go_enter Try.func12, Try.ntmps12
  go_wp2_with (first | (go_at_call 33; refine (opRows_calls _).mono ?_; rintro e w1 ⟨g, b0, b1, b2, b3, b4, b5, rfl, hg, hI, hb⟩; have hc0 : w1.cell? ⟨g, 84, none⟩ = some (.string ⟨#[108, 101, 115, 115]⟩) := (cell_of_row _ _ _ _ _ _ hg).trans rfl; have hc1 : w1.cell? ⟨g, 85, none⟩ = some (.int .i64 1) := (cell_of_row _ _ _ _ _ _ hg).trans rfl; have hc2 : w1.cell? ⟨g, 86, none⟩ = some (.int .i64 5) := (cell_of_row _ _ _ _ _ _ hg).trans rfl; have HB1 := Aside0.mk (below_step (below_alloc HB.out _) hb); have HR := Aside0.mk ((hb.block w.heap.size (by simp)).trans (heap_alloc_new _ _)); have hr0 : w1.cell? ⟨w.heap.size, 0, none⟩ = some (.string ⟨#[]⟩) := (cell_of_row _ _ _ _ _ _ HR.out).trans rfl; have hr1 : w1.cell? ⟨w.heap.size, 1, none⟩ = some (.int .i64 0) := (cell_of_row _ _ _ _ _ _ HR.out).trans rfl; have hr2 : w1.cell? ⟨w.heap.size, 2, none⟩ = some (.int .i64 0) := (cell_of_row _ _ _ _ _ _ HR.out).trans rfl; have hf0 := blk_frozen HR.out 0; have hf1 := blk_frozen HR.out 1; have hf2 := blk_frozen HR.out 2; clear hg hI hb))
  refine bodyPost_ret (v := .agg #[.string ⟨#[108, 101, 115, 115]⟩, .int .i64 1, .int .i64 5]) (by simp [results, Try.results12, go_sem, hr0, hr1, hr2]) rfl ⟨rfl, ?_⟩
  exact below_set (below_set (below_set HB1.out (Nat.le_refl _)) (Nat.le_refl _)) (Nat.le_refl _)
set_option maxHeartbeats 1000000 in
theorem info_22 (w : World) : Calls Try.prog 12 #[.int .i64 22] w fun e w' => e = .returned (.agg #[.string ⟨#[99, 111, 110, 118]⟩, .int .i64 1, .int .i64 8]) ∧ Below w.heap.size w w' := by
  have HB := Aside0.mk (Below.refl w.heap.size w)
  go_enter Try.func12, Try.ntmps12
  go_wp2_with (first | (go_at_call 33; refine (opRows_calls _).mono ?_; rintro e w1 ⟨g, b0, b1, b2, b3, b4, b5, rfl, hg, hI, hb⟩; have hc0 : w1.cell? ⟨g, 88, none⟩ = some (.string ⟨#[99, 111, 110, 118]⟩) := (cell_of_row _ _ _ _ _ _ hg).trans rfl; have hc1 : w1.cell? ⟨g, 89, none⟩ = some (.int .i64 1) := (cell_of_row _ _ _ _ _ _ hg).trans rfl; have hc2 : w1.cell? ⟨g, 90, none⟩ = some (.int .i64 8) := (cell_of_row _ _ _ _ _ _ hg).trans rfl; have HB1 := Aside0.mk (below_step (below_alloc HB.out _) hb); have HR := Aside0.mk ((hb.block w.heap.size (by simp)).trans (heap_alloc_new _ _)); have hr0 : w1.cell? ⟨w.heap.size, 0, none⟩ = some (.string ⟨#[]⟩) := (cell_of_row _ _ _ _ _ _ HR.out).trans rfl; have hr1 : w1.cell? ⟨w.heap.size, 1, none⟩ = some (.int .i64 0) := (cell_of_row _ _ _ _ _ _ HR.out).trans rfl; have hr2 : w1.cell? ⟨w.heap.size, 2, none⟩ = some (.int .i64 0) := (cell_of_row _ _ _ _ _ _ HR.out).trans rfl; have hf0 := blk_frozen HR.out 0; have hf1 := blk_frozen HR.out 1; have hf2 := blk_frozen HR.out 2; clear hg hI hb))
  refine bodyPost_ret (v := .agg #[.string ⟨#[99, 111, 110, 118]⟩, .int .i64 1, .int .i64 8]) (by simp [results, Try.results12, go_sem, hr0, hr1, hr2]) rfl ⟨rfl, ?_⟩
  exact below_set (below_set (below_set HB1.out (Nat.le_refl _)) (Nat.le_refl _)) (Nat.le_refl _)
set_option maxHeartbeats 1000000 in
theorem info_23 (w : World) : Calls Try.prog 12 #[.int .i64 23] w fun e w' => e = .returned (.agg #[.string ⟨#[100, 117, 112]⟩, .int .i64 1, .int .i64 0]) ∧ Below w.heap.size w w' := by
  have HB := Aside0.mk (Below.refl w.heap.size w)
  go_enter Try.func12, Try.ntmps12
  go_wp2_with (first | (go_at_call 33; refine (opRows_calls _).mono ?_; rintro e w1 ⟨g, b0, b1, b2, b3, b4, b5, rfl, hg, hI, hb⟩; have hc0 : w1.cell? ⟨g, 92, none⟩ = some (.string ⟨#[100, 117, 112]⟩) := (cell_of_row _ _ _ _ _ _ hg).trans rfl; have hc1 : w1.cell? ⟨g, 93, none⟩ = some (.int .i64 1) := (cell_of_row _ _ _ _ _ _ hg).trans rfl; have hc2 : w1.cell? ⟨g, 94, none⟩ = some (.int .i64 0) := (cell_of_row _ _ _ _ _ _ hg).trans rfl; have HB1 := Aside0.mk (below_step (below_alloc HB.out _) hb); have HR := Aside0.mk ((hb.block w.heap.size (by simp)).trans (heap_alloc_new _ _)); have hr0 : w1.cell? ⟨w.heap.size, 0, none⟩ = some (.string ⟨#[]⟩) := (cell_of_row _ _ _ _ _ _ HR.out).trans rfl; have hr1 : w1.cell? ⟨w.heap.size, 1, none⟩ = some (.int .i64 0) := (cell_of_row _ _ _ _ _ _ HR.out).trans rfl; have hr2 : w1.cell? ⟨w.heap.size, 2, none⟩ = some (.int .i64 0) := (cell_of_row _ _ _ _ _ _ HR.out).trans rfl; have hf0 := blk_frozen HR.out 0; have hf1 := blk_frozen HR.out 1; have hf2 := blk_frozen HR.out 2; clear hg hI hb))
  refine bodyPost_ret (v := .agg #[.string ⟨#[100, 117, 112]⟩, .int .i64 1, .int .i64 0]) (by simp [results, Try.results12, go_sem, hr0, hr1, hr2]) rfl ⟨rfl, ?_⟩
  exact below_set (below_set (below_set HB1.out (Nat.le_refl _)) (Nat.le_refl _)) (Nat.le_refl _)
set_option maxHeartbeats 1000000 in
theorem info_24 (w : World) : Calls Try.prog 12 #[.int .i64 24] w fun e w' => e = .returned (.agg #[.string ⟨#[100, 114, 111, 112]⟩, .int .i64 1, .int .i64 0]) ∧ Below w.heap.size w w' := by
  have HB := Aside0.mk (Below.refl w.heap.size w)
  go_enter Try.func12, Try.ntmps12
  go_wp2_with (first | (go_at_call 33; refine (opRows_calls _).mono ?_; rintro e w1 ⟨g, b0, b1, b2, b3, b4, b5, rfl, hg, hI, hb⟩; have hc0 : w1.cell? ⟨g, 96, none⟩ = some (.string ⟨#[100, 114, 111, 112]⟩) := (cell_of_row _ _ _ _ _ _ hg).trans rfl; have hc1 : w1.cell? ⟨g, 97, none⟩ = some (.int .i64 1) := (cell_of_row _ _ _ _ _ _ hg).trans rfl; have hc2 : w1.cell? ⟨g, 98, none⟩ = some (.int .i64 0) := (cell_of_row _ _ _ _ _ _ hg).trans rfl; have HB1 := Aside0.mk (below_step (below_alloc HB.out _) hb); have HR := Aside0.mk ((hb.block w.heap.size (by simp)).trans (heap_alloc_new _ _)); have hr0 : w1.cell? ⟨w.heap.size, 0, none⟩ = some (.string ⟨#[]⟩) := (cell_of_row _ _ _ _ _ _ HR.out).trans rfl; have hr1 : w1.cell? ⟨w.heap.size, 1, none⟩ = some (.int .i64 0) := (cell_of_row _ _ _ _ _ _ HR.out).trans rfl; have hr2 : w1.cell? ⟨w.heap.size, 2, none⟩ = some (.int .i64 0) := (cell_of_row _ _ _ _ _ _ HR.out).trans rfl; have hf0 := blk_frozen HR.out 0; have hf1 := blk_frozen HR.out 1; have hf2 := blk_frozen HR.out 2; clear hg hI hb))
  refine bodyPost_ret (v := .agg #[.string ⟨#[100, 114, 111, 112]⟩, .int .i64 1, .int .i64 0]) (by simp [results, Try.results12, go_sem, hr0, hr1, hr2]) rfl ⟨rfl, ?_⟩
  exact below_set (below_set (below_set HB1.out (Nat.le_refl _)) (Nat.le_refl _)) (Nat.le_refl _)
set_option maxHeartbeats 1000000 in
theorem info_25 (w : World) : Calls Try.prog 12 #[.int .i64 25] w fun e w' => e = .returned (.agg #[.string ⟨#[106, 117, 109, 112]⟩, .int .i64 2, .int .i64 9]) ∧ Below w.heap.size w w' := by
  have HB := Aside0.mk (Below.refl w.heap.size w)
  go_enter Try.func12, Try.ntmps12
  go_wp2_with (first | (go_at_call 33; refine (opRows_calls _).mono ?_; rintro e w1 ⟨g, b0, b1, b2, b3, b4, b5, rfl, hg, hI, hb⟩; have hc0 : w1.cell? ⟨g, 100, none⟩ = some (.string ⟨#[106, 117, 109, 112]⟩) := (cell_of_row _ _ _ _ _ _ hg).trans rfl; have hc1 : w1.cell? ⟨g, 101, none⟩ = some (.int .i64 2) := (cell_of_row _ _ _ _ _ _ hg).trans rfl; have hc2 : w1.cell? ⟨g, 102, none⟩ = some (.int .i64 9) := (cell_of_row _ _ _ _ _ _ hg).trans rfl; have HB1 := Aside0.mk (below_step (below_alloc HB.out _) hb); have HR := Aside0.mk ((hb.block w.heap.size (by simp)).trans (heap_alloc_new _ _)); have hr0 : w1.cell? ⟨w.heap.size, 0, none⟩ = some (.string ⟨#[]⟩) := (cell_of_row _ _ _ _ _ _ HR.out).trans rfl; have hr1 : w1.cell? ⟨w.heap.size, 1, none⟩ = some (.int .i64 0) := (cell_of_row _ _ _ _ _ _ HR.out).trans rfl; have hr2 : w1.cell? ⟨w.heap.size, 2, none⟩ = some (.int .i64 0) := (cell_of_row _ _ _ _ _ _ HR.out).trans rfl; have hf0 := blk_frozen HR.out 0; have hf1 := blk_frozen HR.out 1; have hf2 := blk_frozen HR.out 2; clear hg hI hb))
  refine bodyPost_ret (v := .agg #[.string ⟨#[106, 117, 109, 112]⟩, .int .i64 2, .int .i64 9]) (by simp [results, Try.results12, go_sem, hr0, hr1, hr2]) rfl ⟨rfl, ?_⟩
  exact below_set (below_set (below_set HB1.out (Nat.le_refl _)) (Nat.le_refl _)) (Nat.le_refl _)
set_option maxHeartbeats 1000000 in
theorem info_26 (w : World) : Calls Try.prog 12 #[.int .i64 26] w fun e w' => e = .returned (.agg #[.string ⟨#[106, 117, 109, 112, 122, 101, 114, 111]⟩, .int .i64 2, .int .i64 9]) ∧ Below w.heap.size w w' := by
  have HB := Aside0.mk (Below.refl w.heap.size w)
  go_enter Try.func12, Try.ntmps12
  go_wp2_with (first | (go_at_call 33; refine (opRows_calls _).mono ?_; rintro e w1 ⟨g, b0, b1, b2, b3, b4, b5, rfl, hg, hI, hb⟩; have hc0 : w1.cell? ⟨g, 104, none⟩ = some (.string ⟨#[106, 117, 109, 112, 122, 101, 114, 111]⟩) := (cell_of_row _ _ _ _ _ _ hg).trans rfl; have hc1 : w1.cell? ⟨g, 105, none⟩ = some (.int .i64 2) := (cell_of_row _ _ _ _ _ _ hg).trans rfl; have hc2 : w1.cell? ⟨g, 106, none⟩ = some (.int .i64 9) := (cell_of_row _ _ _ _ _ _ hg).trans rfl; have HB1 := Aside0.mk (below_step (below_alloc HB.out _) hb); have HR := Aside0.mk ((hb.block w.heap.size (by simp)).trans (heap_alloc_new _ _)); have hr0 : w1.cell? ⟨w.heap.size, 0, none⟩ = some (.string ⟨#[]⟩) := (cell_of_row _ _ _ _ _ _ HR.out).trans rfl; have hr1 : w1.cell? ⟨w.heap.size, 1, none⟩ = some (.int .i64 0) := (cell_of_row _ _ _ _ _ _ HR.out).trans rfl; have hr2 : w1.cell? ⟨w.heap.size, 2, none⟩ = some (.int .i64 0) := (cell_of_row _ _ _ _ _ _ HR.out).trans rfl; have hf0 := blk_frozen HR.out 0; have hf1 := blk_frozen HR.out 1; have hf2 := blk_frozen HR.out 2; clear hg hI hb))
  refine bodyPost_ret (v := .agg #[.string ⟨#[106, 117, 109, 112, 122, 101, 114, 111]⟩, .int .i64 2, .int .i64 9]) (by simp [results, Try.results12, go_sem, hr0, hr1, hr2]) rfl ⟨rfl, ?_⟩
  exact below_set (below_set (below_set HB1.out (Nat.le_refl _)) (Nat.le_refl _)) (Nat.le_refl _)
set_option maxHeartbeats 1000000 in
theorem info_27 (w : World) : Calls Try.prog 12 #[.int .i64 27] w fun e w' => e = .returned (.agg #[.string ⟨#[103, 117, 97, 114, 100]⟩, .int .i64 2, .int .i64 10]) ∧ Below w.heap.size w w' := by
  have HB := Aside0.mk (Below.refl w.heap.size w)
  go_enter Try.func12, Try.ntmps12
  go_wp2_with (first | (go_at_call 33; refine (opRows_calls _).mono ?_; rintro e w1 ⟨g, b0, b1, b2, b3, b4, b5, rfl, hg, hI, hb⟩; have hc0 : w1.cell? ⟨g, 108, none⟩ = some (.string ⟨#[103, 117, 97, 114, 100]⟩) := (cell_of_row _ _ _ _ _ _ hg).trans rfl; have hc1 : w1.cell? ⟨g, 109, none⟩ = some (.int .i64 2) := (cell_of_row _ _ _ _ _ _ hg).trans rfl; have hc2 : w1.cell? ⟨g, 110, none⟩ = some (.int .i64 10) := (cell_of_row _ _ _ _ _ _ hg).trans rfl; have HB1 := Aside0.mk (below_step (below_alloc HB.out _) hb); have HR := Aside0.mk ((hb.block w.heap.size (by simp)).trans (heap_alloc_new _ _)); have hr0 : w1.cell? ⟨w.heap.size, 0, none⟩ = some (.string ⟨#[]⟩) := (cell_of_row _ _ _ _ _ _ HR.out).trans rfl; have hr1 : w1.cell? ⟨w.heap.size, 1, none⟩ = some (.int .i64 0) := (cell_of_row _ _ _ _ _ _ HR.out).trans rfl; have hr2 : w1.cell? ⟨w.heap.size, 2, none⟩ = some (.int .i64 0) := (cell_of_row _ _ _ _ _ _ HR.out).trans rfl; have hf0 := blk_frozen HR.out 0; have hf1 := blk_frozen HR.out 1; have hf2 := blk_frozen HR.out 2; clear hg hI hb))
  refine bodyPost_ret (v := .agg #[.string ⟨#[103, 117, 97, 114, 100]⟩, .int .i64 2, .int .i64 10]) (by simp [results, Try.results12, go_sem, hr0, hr1, hr2]) rfl ⟨rfl, ?_⟩
  exact below_set (below_set (below_set HB1.out (Nat.le_refl _)) (Nat.le_refl _)) (Nat.le_refl _)
set_option maxHeartbeats 1000000 in
theorem info_28 (w : World) : Calls Try.prog 12 #[.int .i64 28] w fun e w' => e = .returned (.agg #[.string ⟨#[99, 97, 108, 108]⟩, .int .i64 4, .int .i64 11]) ∧ Below w.heap.size w w' := by
  have HB := Aside0.mk (Below.refl w.heap.size w)
  go_enter Try.func12, Try.ntmps12
  go_wp2_with (first | (go_at_call 33; refine (opRows_calls _).mono ?_; rintro e w1 ⟨g, b0, b1, b2, b3, b4, b5, rfl, hg, hI, hb⟩; have hc0 : w1.cell? ⟨g, 112, none⟩ = some (.string ⟨#[99, 97, 108, 108]⟩) := (cell_of_row _ _ _ _ _ _ hg).trans rfl; have hc1 : w1.cell? ⟨g, 113, none⟩ = some (.int .i64 4) := (cell_of_row _ _ _ _ _ _ hg).trans rfl; have hc2 : w1.cell? ⟨g, 114, none⟩ = some (.int .i64 11) := (cell_of_row _ _ _ _ _ _ hg).trans rfl; have HB1 := Aside0.mk (below_step (below_alloc HB.out _) hb); have HR := Aside0.mk ((hb.block w.heap.size (by simp)).trans (heap_alloc_new _ _)); have hr0 : w1.cell? ⟨w.heap.size, 0, none⟩ = some (.string ⟨#[]⟩) := (cell_of_row _ _ _ _ _ _ HR.out).trans rfl; have hr1 : w1.cell? ⟨w.heap.size, 1, none⟩ = some (.int .i64 0) := (cell_of_row _ _ _ _ _ _ HR.out).trans rfl; have hr2 : w1.cell? ⟨w.heap.size, 2, none⟩ = some (.int .i64 0) := (cell_of_row _ _ _ _ _ _ HR.out).trans rfl; have hf0 := blk_frozen HR.out 0; have hf1 := blk_frozen HR.out 1; have hf2 := blk_frozen HR.out 2; clear hg hI hb))
  refine bodyPost_ret (v := .agg #[.string ⟨#[99, 97, 108, 108]⟩, .int .i64 4, .int .i64 11]) (by simp [results, Try.results12, go_sem, hr0, hr1, hr2]) rfl ⟨rfl, ?_⟩
  exact below_set (below_set (below_set HB1.out (Nat.le_refl _)) (Nat.le_refl _)) (Nat.le_refl _)
set_option maxHeartbeats 1000000 in
theorem info_29 (w : World) : Calls Try.prog 12 #[.int .i64 29] w fun e w' => e = .returned (.agg #[.string ⟨#[114, 101, 116, 117, 114, 110]⟩, .int .i64 2, .int .i64 0]) ∧ Below w.heap.size w w' := by
  have HB := Aside0.mk (Below.refl w.heap.size w)
  go_enter Try.func12, Try.ntmps12
  go_wp2_with (first | (go_at_call 33; refine (opRows_calls _).mono ?_; rintro e w1 ⟨g, b0, b1, b2, b3, b4, b5, rfl, hg, hI, hb⟩; have hc0 : w1.cell? ⟨g, 116, none⟩ = some (.string ⟨#[114, 101, 116, 117, 114, 110]⟩) := (cell_of_row _ _ _ _ _ _ hg).trans rfl; have hc1 : w1.cell? ⟨g, 117, none⟩ = some (.int .i64 2) := (cell_of_row _ _ _ _ _ _ hg).trans rfl; have hc2 : w1.cell? ⟨g, 118, none⟩ = some (.int .i64 0) := (cell_of_row _ _ _ _ _ _ hg).trans rfl; have HB1 := Aside0.mk (below_step (below_alloc HB.out _) hb); have HR := Aside0.mk ((hb.block w.heap.size (by simp)).trans (heap_alloc_new _ _)); have hr0 : w1.cell? ⟨w.heap.size, 0, none⟩ = some (.string ⟨#[]⟩) := (cell_of_row _ _ _ _ _ _ HR.out).trans rfl; have hr1 : w1.cell? ⟨w.heap.size, 1, none⟩ = some (.int .i64 0) := (cell_of_row _ _ _ _ _ _ HR.out).trans rfl; have hr2 : w1.cell? ⟨w.heap.size, 2, none⟩ = some (.int .i64 0) := (cell_of_row _ _ _ _ _ _ HR.out).trans rfl; have hf0 := blk_frozen HR.out 0; have hf1 := blk_frozen HR.out 1; have hf2 := blk_frozen HR.out 2; clear hg hI hb))
  refine bodyPost_ret (v := .agg #[.string ⟨#[114, 101, 116, 117, 114, 110]⟩, .int .i64 2, .int .i64 0]) (by simp [results, Try.results12, go_sem, hr0, hr1, hr2]) rfl ⟨rfl, ?_⟩
  exact below_set (below_set (below_set HB1.out (Nat.le_refl _)) (Nat.le_refl _)) (Nat.le_refl _)
theorem impl_Info.calls (a0 : Int) (r1 : ByteArray) (r2 : Int) (r3 : Int) (w : World) (h : impl_Info.f a0 = some (r1, r2, r3)) :
    Calls Try.prog 12 #[.int .i64 a0] w fun e w' => e = .returned (.agg #[.string r1, .int .i64 r2, .int .i64 r3]) ∧ Below w.heap.size w w' := by
  have h' : infoT a0 = (r1, r2, r3) := Option.some.inj h
  clear h
  by_cases out : a0 < 0 ∨ 29 < a0
  · have e : infoT a0 = ((⟨#[]⟩ : ByteArray), 0, 0) := by
      unfold infoT
      repeat rw [if_neg (by omega)]
    rw [e] at h'
    injection h' with e1 e2
    injection e2 with e2 e3
    subst e1; subst e2; subst e3
    exact info_out a0 out w
  · have hc : a0 = 0 ∨ a0 = 1 ∨ a0 = 2 ∨ a0 = 3 ∨ a0 = 4 ∨ a0 = 5 ∨ a0 = 6 ∨ a0 = 7 ∨ a0 = 8 ∨ a0 = 9 ∨ a0 = 10 ∨ a0 = 11 ∨ a0 = 12 ∨ a0 = 13 ∨ a0 = 14 ∨ a0 = 15 ∨ a0 = 16 ∨ a0 = 17 ∨ a0 = 18 ∨ a0 = 19 ∨ a0 = 20 ∨ a0 = 21 ∨ a0 = 22 ∨ a0 = 23 ∨ a0 = 24 ∨ a0 = 25 ∨ a0 = 26 ∨ a0 = 27 ∨ a0 = 28 ∨ a0 = 29 := by omega
    rcases hc with rfl | rfl | rfl | rfl | rfl | rfl | rfl | rfl | rfl | rfl | rfl | rfl | rfl | rfl | rfl | rfl | rfl | rfl | rfl | rfl | rfl | rfl | rfl | rfl | rfl | rfl | rfl | rfl | rfl | rfl
    · injection h' with e1 e2; injection e2 with e2 e3; subst e1; subst e2; subst e3; exact info_0 w
    · injection h' with e1 e2; injection e2 with e2 e3; subst e1; subst e2; subst e3; exact info_1 w
    · injection h' with e1 e2; injection e2 with e2 e3; subst e1; subst e2; subst e3; exact info_2 w
    · injection h' with e1 e2; injection e2 with e2 e3; subst e1; subst e2; subst e3; exact info_3 w
    · injection h' with e1 e2; injection e2 with e2 e3; subst e1; subst e2; subst e3; exact info_4 w
    · injection h' with e1 e2; injection e2 with e2 e3; subst e1; subst e2; subst e3; exact info_5 w
    · injection h' with e1 e2; injection e2 with e2 e3; subst e1; subst e2; subst e3; exact info_6 w
    · injection h' with e1 e2; injection e2 with e2 e3; subst e1; subst e2; subst e3; exact info_7 w
    · injection h' with e1 e2; injection e2 with e2 e3; subst e1; subst e2; subst e3; exact info_8 w
    · injection h' with e1 e2; injection e2 with e2 e3; subst e1; subst e2; subst e3; exact info_9 w
    · injection h' with e1 e2; injection e2 with e2 e3; subst e1; subst e2; subst e3; exact info_10 w
    · injection h' with e1 e2; injection e2 with e2 e3; subst e1; subst e2; subst e3; exact info_11 w
    · injection h' with e1 e2; injection e2 with e2 e3; subst e1; subst e2; subst e3; exact info_12 w
    · injection h' with e1 e2; injection e2 with e2 e3; subst e1; subst e2; subst e3; exact info_13 w
    · injection h' with e1 e2; injection e2 with e2 e3; subst e1; subst e2; subst e3; exact info_14 w
    · injection h' with e1 e2; injection e2 with e2 e3; subst e1; subst e2; subst e3; exact info_15 w
    · injection h' with e1 e2; injection e2 with e2 e3; subst e1; subst e2; subst e3; exact info_16 w
    · injection h' with e1 e2; injection e2 with e2 e3; subst e1; subst e2; subst e3; exact info_17 w
    · injection h' with e1 e2; injection e2 with e2 e3; subst e1; subst e2; subst e3; exact info_18 w
    · injection h' with e1 e2; injection e2 with e2 e3; subst e1; subst e2; subst e3; exact info_19 w
    · injection h' with e1 e2; injection e2 with e2 e3; subst e1; subst e2; subst e3; exact info_20 w
    · injection h' with e1 e2; injection e2 with e2 e3; subst e1; subst e2; subst e3; exact info_21 w
    · injection h' with e1 e2; injection e2 with e2 e3; subst e1; subst e2; subst e3; exact info_22 w
    · injection h' with e1 e2; injection e2 with e2 e3; subst e1; subst e2; subst e3; exact info_23 w
    · injection h' with e1 e2; injection e2 with e2 e3; subst e1; subst e2; subst e3; exact info_24 w
    · injection h' with e1 e2; injection e2 with e2 e3; subst e1; subst e2; subst e3; exact info_25 w
    · injection h' with e1 e2; injection e2 with e2 e3; subst e1; subst e2; subst e3; exact info_26 w
    · injection h' with e1 e2; injection e2 with e2 e3; subst e1; subst e2; subst e3; exact info_27 w
    · injection h' with e1 e2; injection e2 with e2 e3; subst e1; subst e2; subst e3; exact info_28 w
    · injection h' with e1 e2; injection e2 with e2 e3; subst e1; subst e2; subst e3; exact info_29 w
end Go.Proofs.Ytlnlbncinjiinaa.M
