/- Of this session: made by a program (wip/mprint.py) out of the translation; Lean checks it. -/
import Derived.Test.YtlnlbncinjiinaaM0
import Derived.Test.YtlnlbncinjiinaaGvInfo
import Derived.Test.YtlnlbncinjiinaaGvOpOf
namespace Go.Proofs.Ytlnlbncinjiinaa.M
open Go.RowKit Go.Proofs.YtlnlbncinjiinaaW.PrintWords Go.Proofs.YtlnlbncinjiinaaW.PrintLast Go.Proofs.YtlnlbncinjiinaaW.PrintMore
attribute [local go_sem] max2_int min2_int max_two min_two max_three min_three max_four min_four   -- for this text's walks alone
attribute [local go_sem] Go.Proofs.YtlnlbncinjiinaaZ.u32_signed Go.Proofs.YtlnlbncinjiinaaZ.u32_max
set_option linter.unusedVariables false
set_option linter.unusedSimpArgs false

/-! ### spec_l2Infos: function 32 -/
def spec_l2Infos.f  : Option ((List (S25))) := some (([(⟨(⟨#[110, 111, 112]⟩ : ByteArray), 1, 0⟩ : S25), (⟨(⟨#[99, 111, 110, 115, 116]⟩ : ByteArray), 1, 1⟩ : S25), (⟨(⟨#[108, 111, 97, 100, 108, 111, 99, 97, 108]⟩ : ByteArray), 1, 2⟩ : S25), (⟨(⟨#[115, 116, 111, 114, 101, 108, 111, 99, 97, 108]⟩ : ByteArray), 1, 2⟩ : S25), (⟨(⟨#[108, 111, 97, 100]⟩ : ByteArray), 2, 3⟩ : S25), (⟨(⟨#[115, 116, 111, 114, 101]⟩ : ByteArray), 2, 3⟩ : S25), (⟨(⟨#[108, 111, 97, 100, 97, 116]⟩ : ByteArray), 3, 4⟩ : S25), (⟨(⟨#[115, 116, 111, 114, 101, 97, 116]⟩ : ByteArray), 3, 4⟩ : S25), (⟨(⟨#[97, 100, 100]⟩ : ByteArray), 1, 5⟩ : S25), (⟨(⟨#[115, 117, 98]⟩ : ByteArray), 1, 5⟩ : S25), (⟨(⟨#[109, 117, 108]⟩ : ByteArray), 3, 5⟩ : S25), (⟨(⟨#[100, 105, 118]⟩ : ByteArray), 8, 5⟩ : S25), (⟨(⟨#[109, 111, 100]⟩ : ByteArray), 8, 5⟩ : S25), (⟨(⟨#[97, 110, 100]⟩ : ByteArray), 1, 6⟩ : S25), (⟨(⟨#[111, 114]⟩ : ByteArray), 1, 6⟩ : S25), (⟨(⟨#[120, 111, 114]⟩ : ByteArray), 1, 6⟩ : S25), (⟨(⟨#[110, 111, 116]⟩ : ByteArray), 1, 6⟩ : S25), (⟨(⟨#[115, 104, 108]⟩ : ByteArray), 1, 0⟩ : S25), (⟨(⟨#[115, 104, 114]⟩ : ByteArray), 1, 0⟩ : S25), (⟨(⟨#[110, 101, 103]⟩ : ByteArray), 1, 0⟩ : S25), (⟨(⟨#[101, 113]⟩ : ByteArray), 1, 7⟩ : S25), (⟨(⟨#[108, 101, 115, 115]⟩ : ByteArray), 1, 5⟩ : S25), (⟨(⟨#[99, 111, 110, 118]⟩ : ByteArray), 1, 8⟩ : S25), (⟨(⟨#[100, 117, 112]⟩ : ByteArray), 1, 0⟩ : S25), (⟨(⟨#[100, 114, 111, 112]⟩ : ByteArray), 1, 0⟩ : S25), (⟨(⟨#[106, 117, 109, 112]⟩ : ByteArray), 2, 9⟩ : S25), (⟨(⟨#[106, 117, 109, 112, 122, 101, 114, 111]⟩ : ByteArray), 2, 9⟩ : S25), (⟨(⟨#[103, 117, 97, 114, 100]⟩ : ByteArray), 2, 10⟩ : S25), (⟨(⟨#[99, 97, 108, 108]⟩ : ByteArray), 4, 11⟩ : S25), (⟨(⟨#[114, 101, 116, 117, 114, 110]⟩ : ByteArray), 2, 0⟩ : S25)] : List (S25)))
set_option maxHeartbeats 8000000 in
set_option maxRecDepth 100000 in
theorem spec_l2Infos.calls  (r : List (S25)) (w : World) (h : spec_l2Infos.f  = some r) :
    Calls Try.prog 32 #[] w fun e w' => ∃ v0_ : Value, e = .returned (v0_) ∧ Kd.R k25 25 w' w.heap.size (fun _ => True) v0_ r ∧ Below w.heap.size w w' := by
  have hu25 := Try.underlying25
  have HB := Aside0.mk (Below.refl w.heap.size w)
  have H : (some (([(⟨(⟨#[110, 111, 112]⟩ : ByteArray), 1, 0⟩ : S25), (⟨(⟨#[99, 111, 110, 115, 116]⟩ : ByteArray), 1, 1⟩ : S25), (⟨(⟨#[108, 111, 97, 100, 108, 111, 99, 97, 108]⟩ : ByteArray), 1, 2⟩ : S25), (⟨(⟨#[115, 116, 111, 114, 101, 108, 111, 99, 97, 108]⟩ : ByteArray), 1, 2⟩ : S25), (⟨(⟨#[108, 111, 97, 100]⟩ : ByteArray), 2, 3⟩ : S25), (⟨(⟨#[115, 116, 111, 114, 101]⟩ : ByteArray), 2, 3⟩ : S25), (⟨(⟨#[108, 111, 97, 100, 97, 116]⟩ : ByteArray), 3, 4⟩ : S25), (⟨(⟨#[115, 116, 111, 114, 101, 97, 116]⟩ : ByteArray), 3, 4⟩ : S25), (⟨(⟨#[97, 100, 100]⟩ : ByteArray), 1, 5⟩ : S25), (⟨(⟨#[115, 117, 98]⟩ : ByteArray), 1, 5⟩ : S25), (⟨(⟨#[109, 117, 108]⟩ : ByteArray), 3, 5⟩ : S25), (⟨(⟨#[100, 105, 118]⟩ : ByteArray), 8, 5⟩ : S25), (⟨(⟨#[109, 111, 100]⟩ : ByteArray), 8, 5⟩ : S25), (⟨(⟨#[97, 110, 100]⟩ : ByteArray), 1, 6⟩ : S25), (⟨(⟨#[111, 114]⟩ : ByteArray), 1, 6⟩ : S25), (⟨(⟨#[120, 111, 114]⟩ : ByteArray), 1, 6⟩ : S25), (⟨(⟨#[110, 111, 116]⟩ : ByteArray), 1, 6⟩ : S25), (⟨(⟨#[115, 104, 108]⟩ : ByteArray), 1, 0⟩ : S25), (⟨(⟨#[115, 104, 114]⟩ : ByteArray), 1, 0⟩ : S25), (⟨(⟨#[110, 101, 103]⟩ : ByteArray), 1, 0⟩ : S25), (⟨(⟨#[101, 113]⟩ : ByteArray), 1, 7⟩ : S25), (⟨(⟨#[108, 101, 115, 115]⟩ : ByteArray), 1, 5⟩ : S25), (⟨(⟨#[99, 111, 110, 118]⟩ : ByteArray), 1, 8⟩ : S25), (⟨(⟨#[100, 117, 112]⟩ : ByteArray), 1, 0⟩ : S25), (⟨(⟨#[100, 114, 111, 112]⟩ : ByteArray), 1, 0⟩ : S25), (⟨(⟨#[106, 117, 109, 112]⟩ : ByteArray), 2, 9⟩ : S25), (⟨(⟨#[106, 117, 109, 112, 122, 101, 114, 111]⟩ : ByteArray), 2, 9⟩ : S25), (⟨(⟨#[103, 117, 97, 114, 100]⟩ : ByteArray), 2, 10⟩ : S25), (⟨(⟨#[99, 97, 108, 108]⟩ : ByteArray), 4, 11⟩ : S25), (⟨(⟨#[114, 101, 116, 117, 114, 110]⟩ : ByteArray), 2, 0⟩ : S25)] : List (S25)))) = some r := h
  clear h
  obtain ⟨y101, hy101⟩ : ∃ y_ : List (S25), y_ = (([(⟨(⟨#[110, 111, 112]⟩ : ByteArray), 1, 0⟩ : S25), (⟨(⟨#[99, 111, 110, 115, 116]⟩ : ByteArray), 1, 1⟩ : S25), (⟨(⟨#[108, 111, 97, 100, 108, 111, 99, 97, 108]⟩ : ByteArray), 1, 2⟩ : S25), (⟨(⟨#[115, 116, 111, 114, 101, 108, 111, 99, 97, 108]⟩ : ByteArray), 1, 2⟩ : S25), (⟨(⟨#[108, 111, 97, 100]⟩ : ByteArray), 2, 3⟩ : S25), (⟨(⟨#[115, 116, 111, 114, 101]⟩ : ByteArray), 2, 3⟩ : S25), (⟨(⟨#[108, 111, 97, 100, 97, 116]⟩ : ByteArray), 3, 4⟩ : S25), (⟨(⟨#[115, 116, 111, 114, 101, 97, 116]⟩ : ByteArray), 3, 4⟩ : S25), (⟨(⟨#[97, 100, 100]⟩ : ByteArray), 1, 5⟩ : S25), (⟨(⟨#[115, 117, 98]⟩ : ByteArray), 1, 5⟩ : S25), (⟨(⟨#[109, 117, 108]⟩ : ByteArray), 3, 5⟩ : S25), (⟨(⟨#[100, 105, 118]⟩ : ByteArray), 8, 5⟩ : S25), (⟨(⟨#[109, 111, 100]⟩ : ByteArray), 8, 5⟩ : S25), (⟨(⟨#[97, 110, 100]⟩ : ByteArray), 1, 6⟩ : S25), (⟨(⟨#[111, 114]⟩ : ByteArray), 1, 6⟩ : S25), (⟨(⟨#[120, 111, 114]⟩ : ByteArray), 1, 6⟩ : S25), (⟨(⟨#[110, 111, 116]⟩ : ByteArray), 1, 6⟩ : S25), (⟨(⟨#[115, 104, 108]⟩ : ByteArray), 1, 0⟩ : S25), (⟨(⟨#[115, 104, 114]⟩ : ByteArray), 1, 0⟩ : S25), (⟨(⟨#[110, 101, 103]⟩ : ByteArray), 1, 0⟩ : S25), (⟨(⟨#[101, 113]⟩ : ByteArray), 1, 7⟩ : S25), (⟨(⟨#[108, 101, 115, 115]⟩ : ByteArray), 1, 5⟩ : S25), (⟨(⟨#[99, 111, 110, 118]⟩ : ByteArray), 1, 8⟩ : S25), (⟨(⟨#[100, 117, 112]⟩ : ByteArray), 1, 0⟩ : S25), (⟨(⟨#[100, 114, 111, 112]⟩ : ByteArray), 1, 0⟩ : S25), (⟨(⟨#[106, 117, 109, 112]⟩ : ByteArray), 2, 9⟩ : S25), (⟨(⟨#[106, 117, 109, 112, 122, 101, 114, 111]⟩ : ByteArray), 2, 9⟩ : S25), (⟨(⟨#[103, 117, 97, 114, 100]⟩ : ByteArray), 2, 10⟩ : S25), (⟨(⟨#[99, 97, 108, 108]⟩ : ByteArray), 4, 11⟩ : S25), (⟨(⟨#[114, 101, 116, 117, 114, 110]⟩ : ByteArray), 2, 0⟩ : S25)] : List (S25))) := ⟨_, rfl⟩
  replace H : (some y101) = some r := by first | (rw [hy101]; with_reducible exact H) | (have H2_ := (Option.bind_some _ _).symm.trans H; rw [hy101]; with_reducible exact H2_) | (have H2_ := (Option.bind_some _ _).symm.trans H; with_reducible exact H2_) | with_reducible exact H | (rw [hy101]; exact H) | exact H
  have Ny101 := Aside0.mk hy101
  clear hy101
  obtain rfl := Option.some.inj H
  go_enter Try.func32, Try.ntmps32
  go_wp2_with (first | ((with_reducible refine gate_dst (N := 31) rfl ?_); refine Kd.R_lit k25 _ 25 ?hg (N := 31) ?hd (xs := ([(⟨(⟨#[110, 111, 112]⟩ : ByteArray), 1, 0⟩ : S25), (⟨(⟨#[99, 111, 110, 115, 116]⟩ : ByteArray), 1, 1⟩ : S25), (⟨(⟨#[108, 111, 97, 100, 108, 111, 99, 97, 108]⟩ : ByteArray), 1, 2⟩ : S25), (⟨(⟨#[115, 116, 111, 114, 101, 108, 111, 99, 97, 108]⟩ : ByteArray), 1, 2⟩ : S25), (⟨(⟨#[108, 111, 97, 100]⟩ : ByteArray), 2, 3⟩ : S25), (⟨(⟨#[115, 116, 111, 114, 101]⟩ : ByteArray), 2, 3⟩ : S25), (⟨(⟨#[108, 111, 97, 100, 97, 116]⟩ : ByteArray), 3, 4⟩ : S25), (⟨(⟨#[115, 116, 111, 114, 101, 97, 116]⟩ : ByteArray), 3, 4⟩ : S25), (⟨(⟨#[97, 100, 100]⟩ : ByteArray), 1, 5⟩ : S25), (⟨(⟨#[115, 117, 98]⟩ : ByteArray), 1, 5⟩ : S25), (⟨(⟨#[109, 117, 108]⟩ : ByteArray), 3, 5⟩ : S25), (⟨(⟨#[100, 105, 118]⟩ : ByteArray), 8, 5⟩ : S25), (⟨(⟨#[109, 111, 100]⟩ : ByteArray), 8, 5⟩ : S25), (⟨(⟨#[97, 110, 100]⟩ : ByteArray), 1, 6⟩ : S25), (⟨(⟨#[111, 114]⟩ : ByteArray), 1, 6⟩ : S25), (⟨(⟨#[120, 111, 114]⟩ : ByteArray), 1, 6⟩ : S25), (⟨(⟨#[110, 111, 116]⟩ : ByteArray), 1, 6⟩ : S25), (⟨(⟨#[115, 104, 108]⟩ : ByteArray), 1, 0⟩ : S25), (⟨(⟨#[115, 104, 114]⟩ : ByteArray), 1, 0⟩ : S25), (⟨(⟨#[110, 101, 103]⟩ : ByteArray), 1, 0⟩ : S25), (⟨(⟨#[101, 113]⟩ : ByteArray), 1, 7⟩ : S25), (⟨(⟨#[108, 101, 115, 115]⟩ : ByteArray), 1, 5⟩ : S25), (⟨(⟨#[99, 111, 110, 118]⟩ : ByteArray), 1, 8⟩ : S25), (⟨(⟨#[100, 117, 112]⟩ : ByteArray), 1, 0⟩ : S25), (⟨(⟨#[100, 114, 111, 112]⟩ : ByteArray), 1, 0⟩ : S25), (⟨(⟨#[106, 117, 109, 112]⟩ : ByteArray), 2, 9⟩ : S25), (⟨(⟨#[106, 117, 109, 112, 122, 101, 114, 111]⟩ : ByteArray), 2, 9⟩ : S25), (⟨(⟨#[103, 117, 97, 114, 100]⟩ : ByteArray), 2, 10⟩ : S25), (⟨(⟨#[99, 97, 108, 108]⟩ : ByteArray), 4, 11⟩ : S25), (⟨(⟨#[114, 101, 116, 117, 114, 110]⟩ : ByteArray), 2, 0⟩ : S25)] : List (S25))) (inner := [.string (⟨#[110, 111, 112]⟩ : ByteArray), .int .i64 1, .int .i64 0, .string (⟨#[99, 111, 110, 115, 116]⟩ : ByteArray), .int .i64 1, .int .i64 1, .string (⟨#[108, 111, 97, 100, 108, 111, 99, 97, 108]⟩ : ByteArray), .int .i64 1, .int .i64 2, .string (⟨#[115, 116, 111, 114, 101, 108, 111, 99, 97, 108]⟩ : ByteArray), .int .i64 1, .int .i64 2, .string (⟨#[108, 111, 97, 100]⟩ : ByteArray), .int .i64 2, .int .i64 3, .string (⟨#[115, 116, 111, 114, 101]⟩ : ByteArray), .int .i64 2, .int .i64 3, .string (⟨#[108, 111, 97, 100, 97, 116]⟩ : ByteArray), .int .i64 3, .int .i64 4, .string (⟨#[115, 116, 111, 114, 101, 97, 116]⟩ : ByteArray), .int .i64 3, .int .i64 4, .string (⟨#[97, 100, 100]⟩ : ByteArray), .int .i64 1, .int .i64 5, .string (⟨#[115, 117, 98]⟩ : ByteArray), .int .i64 1, .int .i64 5, .string (⟨#[109, 117, 108]⟩ : ByteArray), .int .i64 3, .int .i64 5, .string (⟨#[100, 105, 118]⟩ : ByteArray), .int .i64 8, .int .i64 5, .string (⟨#[109, 111, 100]⟩ : ByteArray), .int .i64 8, .int .i64 5, .string (⟨#[97, 110, 100]⟩ : ByteArray), .int .i64 1, .int .i64 6, .string (⟨#[111, 114]⟩ : ByteArray), .int .i64 1, .int .i64 6, .string (⟨#[120, 111, 114]⟩ : ByteArray), .int .i64 1, .int .i64 6, .string (⟨#[110, 111, 116]⟩ : ByteArray), .int .i64 1, .int .i64 6, .string (⟨#[115, 104, 108]⟩ : ByteArray), .int .i64 1, .int .i64 0, .string (⟨#[115, 104, 114]⟩ : ByteArray), .int .i64 1, .int .i64 0, .string (⟨#[110, 101, 103]⟩ : ByteArray), .int .i64 1, .int .i64 0, .string (⟨#[101, 113]⟩ : ByteArray), .int .i64 1, .int .i64 7, .string (⟨#[108, 101, 115, 115]⟩ : ByteArray), .int .i64 1, .int .i64 5, .string (⟨#[99, 111, 110, 118]⟩ : ByteArray), .int .i64 1, .int .i64 8, .string (⟨#[100, 117, 112]⟩ : ByteArray), .int .i64 1, .int .i64 0, .string (⟨#[100, 114, 111, 112]⟩ : ByteArray), .int .i64 1, .int .i64 0, .string (⟨#[106, 117, 109, 112]⟩ : ByteArray), .int .i64 2, .int .i64 9, .string (⟨#[106, 117, 109, 112, 122, 101, 114, 111]⟩ : ByteArray), .int .i64 2, .int .i64 9, .string (⟨#[103, 117, 97, 114, 100]⟩ : ByteArray), .int .i64 2, .int .i64 10, .string (⟨#[99, 97, 108, 108]⟩ : ByteArray), .int .i64 4, .int .i64 11, .string (⟨#[114, 101, 116, 117, 114, 110]⟩ : ByteArray), .int .i64 2, .int .i64 0]) (ok := fun _ => True) (okp := fun _ => True) ?hr ?hp (fun _ hk => hk) trivial (Below.refl _ _) (Nat.le_refl _) (by simp) ?_; (case hd => rfl); (case hg => rfl); (case hr => first | (go_simp; done) | (go_simp; rfl)); (case hp => exact (Reps.c3 (show Kd.M k25 _ _ _ (⟨(⟨#[110, 111, 112]⟩ : ByteArray), 1, 0⟩ : S25) [.string (⟨#[110, 111, 112]⟩ : ByteArray), .int .i64 1, .int .i64 0] from (k25_mkM _ _ _ (⟨(⟨#[110, 111, 112]⟩ : ByteArray), 1, 0⟩ : S25) )) (Reps.c3 (show Kd.M k25 _ _ _ (⟨(⟨#[99, 111, 110, 115, 116]⟩ : ByteArray), 1, 1⟩ : S25) [.string (⟨#[99, 111, 110, 115, 116]⟩ : ByteArray), .int .i64 1, .int .i64 1] from (k25_mkM _ _ _ (⟨(⟨#[99, 111, 110, 115, 116]⟩ : ByteArray), 1, 1⟩ : S25) )) (Reps.c3 (show Kd.M k25 _ _ _ (⟨(⟨#[108, 111, 97, 100, 108, 111, 99, 97, 108]⟩ : ByteArray), 1, 2⟩ : S25) [.string (⟨#[108, 111, 97, 100, 108, 111, 99, 97, 108]⟩ : ByteArray), .int .i64 1, .int .i64 2] from (k25_mkM _ _ _ (⟨(⟨#[108, 111, 97, 100, 108, 111, 99, 97, 108]⟩ : ByteArray), 1, 2⟩ : S25) )) (Reps.c3 (show Kd.M k25 _ _ _ (⟨(⟨#[115, 116, 111, 114, 101, 108, 111, 99, 97, 108]⟩ : ByteArray), 1, 2⟩ : S25) [.string (⟨#[115, 116, 111, 114, 101, 108, 111, 99, 97, 108]⟩ : ByteArray), .int .i64 1, .int .i64 2] from (k25_mkM _ _ _ (⟨(⟨#[115, 116, 111, 114, 101, 108, 111, 99, 97, 108]⟩ : ByteArray), 1, 2⟩ : S25) )) (Reps.c3 (show Kd.M k25 _ _ _ (⟨(⟨#[108, 111, 97, 100]⟩ : ByteArray), 2, 3⟩ : S25) [.string (⟨#[108, 111, 97, 100]⟩ : ByteArray), .int .i64 2, .int .i64 3] from (k25_mkM _ _ _ (⟨(⟨#[108, 111, 97, 100]⟩ : ByteArray), 2, 3⟩ : S25) )) (Reps.c3 (show Kd.M k25 _ _ _ (⟨(⟨#[115, 116, 111, 114, 101]⟩ : ByteArray), 2, 3⟩ : S25) [.string (⟨#[115, 116, 111, 114, 101]⟩ : ByteArray), .int .i64 2, .int .i64 3] from (k25_mkM _ _ _ (⟨(⟨#[115, 116, 111, 114, 101]⟩ : ByteArray), 2, 3⟩ : S25) )) (Reps.c3 (show Kd.M k25 _ _ _ (⟨(⟨#[108, 111, 97, 100, 97, 116]⟩ : ByteArray), 3, 4⟩ : S25) [.string (⟨#[108, 111, 97, 100, 97, 116]⟩ : ByteArray), .int .i64 3, .int .i64 4] from (k25_mkM _ _ _ (⟨(⟨#[108, 111, 97, 100, 97, 116]⟩ : ByteArray), 3, 4⟩ : S25) )) (Reps.c3 (show Kd.M k25 _ _ _ (⟨(⟨#[115, 116, 111, 114, 101, 97, 116]⟩ : ByteArray), 3, 4⟩ : S25) [.string (⟨#[115, 116, 111, 114, 101, 97, 116]⟩ : ByteArray), .int .i64 3, .int .i64 4] from (k25_mkM _ _ _ (⟨(⟨#[115, 116, 111, 114, 101, 97, 116]⟩ : ByteArray), 3, 4⟩ : S25) )) (Reps.c3 (show Kd.M k25 _ _ _ (⟨(⟨#[97, 100, 100]⟩ : ByteArray), 1, 5⟩ : S25) [.string (⟨#[97, 100, 100]⟩ : ByteArray), .int .i64 1, .int .i64 5] from (k25_mkM _ _ _ (⟨(⟨#[97, 100, 100]⟩ : ByteArray), 1, 5⟩ : S25) )) (Reps.c3 (show Kd.M k25 _ _ _ (⟨(⟨#[115, 117, 98]⟩ : ByteArray), 1, 5⟩ : S25) [.string (⟨#[115, 117, 98]⟩ : ByteArray), .int .i64 1, .int .i64 5] from (k25_mkM _ _ _ (⟨(⟨#[115, 117, 98]⟩ : ByteArray), 1, 5⟩ : S25) )) (Reps.c3 (show Kd.M k25 _ _ _ (⟨(⟨#[109, 117, 108]⟩ : ByteArray), 3, 5⟩ : S25) [.string (⟨#[109, 117, 108]⟩ : ByteArray), .int .i64 3, .int .i64 5] from (k25_mkM _ _ _ (⟨(⟨#[109, 117, 108]⟩ : ByteArray), 3, 5⟩ : S25) )) (Reps.c3 (show Kd.M k25 _ _ _ (⟨(⟨#[100, 105, 118]⟩ : ByteArray), 8, 5⟩ : S25) [.string (⟨#[100, 105, 118]⟩ : ByteArray), .int .i64 8, .int .i64 5] from (k25_mkM _ _ _ (⟨(⟨#[100, 105, 118]⟩ : ByteArray), 8, 5⟩ : S25) )) (Reps.c3 (show Kd.M k25 _ _ _ (⟨(⟨#[109, 111, 100]⟩ : ByteArray), 8, 5⟩ : S25) [.string (⟨#[109, 111, 100]⟩ : ByteArray), .int .i64 8, .int .i64 5] from (k25_mkM _ _ _ (⟨(⟨#[109, 111, 100]⟩ : ByteArray), 8, 5⟩ : S25) )) (Reps.c3 (show Kd.M k25 _ _ _ (⟨(⟨#[97, 110, 100]⟩ : ByteArray), 1, 6⟩ : S25) [.string (⟨#[97, 110, 100]⟩ : ByteArray), .int .i64 1, .int .i64 6] from (k25_mkM _ _ _ (⟨(⟨#[97, 110, 100]⟩ : ByteArray), 1, 6⟩ : S25) )) (Reps.c3 (show Kd.M k25 _ _ _ (⟨(⟨#[111, 114]⟩ : ByteArray), 1, 6⟩ : S25) [.string (⟨#[111, 114]⟩ : ByteArray), .int .i64 1, .int .i64 6] from (k25_mkM _ _ _ (⟨(⟨#[111, 114]⟩ : ByteArray), 1, 6⟩ : S25) )) (Reps.c3 (show Kd.M k25 _ _ _ (⟨(⟨#[120, 111, 114]⟩ : ByteArray), 1, 6⟩ : S25) [.string (⟨#[120, 111, 114]⟩ : ByteArray), .int .i64 1, .int .i64 6] from (k25_mkM _ _ _ (⟨(⟨#[120, 111, 114]⟩ : ByteArray), 1, 6⟩ : S25) )) (Reps.c3 (show Kd.M k25 _ _ _ (⟨(⟨#[110, 111, 116]⟩ : ByteArray), 1, 6⟩ : S25) [.string (⟨#[110, 111, 116]⟩ : ByteArray), .int .i64 1, .int .i64 6] from (k25_mkM _ _ _ (⟨(⟨#[110, 111, 116]⟩ : ByteArray), 1, 6⟩ : S25) )) (Reps.c3 (show Kd.M k25 _ _ _ (⟨(⟨#[115, 104, 108]⟩ : ByteArray), 1, 0⟩ : S25) [.string (⟨#[115, 104, 108]⟩ : ByteArray), .int .i64 1, .int .i64 0] from (k25_mkM _ _ _ (⟨(⟨#[115, 104, 108]⟩ : ByteArray), 1, 0⟩ : S25) )) (Reps.c3 (show Kd.M k25 _ _ _ (⟨(⟨#[115, 104, 114]⟩ : ByteArray), 1, 0⟩ : S25) [.string (⟨#[115, 104, 114]⟩ : ByteArray), .int .i64 1, .int .i64 0] from (k25_mkM _ _ _ (⟨(⟨#[115, 104, 114]⟩ : ByteArray), 1, 0⟩ : S25) )) (Reps.c3 (show Kd.M k25 _ _ _ (⟨(⟨#[110, 101, 103]⟩ : ByteArray), 1, 0⟩ : S25) [.string (⟨#[110, 101, 103]⟩ : ByteArray), .int .i64 1, .int .i64 0] from (k25_mkM _ _ _ (⟨(⟨#[110, 101, 103]⟩ : ByteArray), 1, 0⟩ : S25) )) (Reps.c3 (show Kd.M k25 _ _ _ (⟨(⟨#[101, 113]⟩ : ByteArray), 1, 7⟩ : S25) [.string (⟨#[101, 113]⟩ : ByteArray), .int .i64 1, .int .i64 7] from (k25_mkM _ _ _ (⟨(⟨#[101, 113]⟩ : ByteArray), 1, 7⟩ : S25) )) (Reps.c3 (show Kd.M k25 _ _ _ (⟨(⟨#[108, 101, 115, 115]⟩ : ByteArray), 1, 5⟩ : S25) [.string (⟨#[108, 101, 115, 115]⟩ : ByteArray), .int .i64 1, .int .i64 5] from (k25_mkM _ _ _ (⟨(⟨#[108, 101, 115, 115]⟩ : ByteArray), 1, 5⟩ : S25) )) (Reps.c3 (show Kd.M k25 _ _ _ (⟨(⟨#[99, 111, 110, 118]⟩ : ByteArray), 1, 8⟩ : S25) [.string (⟨#[99, 111, 110, 118]⟩ : ByteArray), .int .i64 1, .int .i64 8] from (k25_mkM _ _ _ (⟨(⟨#[99, 111, 110, 118]⟩ : ByteArray), 1, 8⟩ : S25) )) (Reps.c3 (show Kd.M k25 _ _ _ (⟨(⟨#[100, 117, 112]⟩ : ByteArray), 1, 0⟩ : S25) [.string (⟨#[100, 117, 112]⟩ : ByteArray), .int .i64 1, .int .i64 0] from (k25_mkM _ _ _ (⟨(⟨#[100, 117, 112]⟩ : ByteArray), 1, 0⟩ : S25) )) (Reps.c3 (show Kd.M k25 _ _ _ (⟨(⟨#[100, 114, 111, 112]⟩ : ByteArray), 1, 0⟩ : S25) [.string (⟨#[100, 114, 111, 112]⟩ : ByteArray), .int .i64 1, .int .i64 0] from (k25_mkM _ _ _ (⟨(⟨#[100, 114, 111, 112]⟩ : ByteArray), 1, 0⟩ : S25) )) (Reps.c3 (show Kd.M k25 _ _ _ (⟨(⟨#[106, 117, 109, 112]⟩ : ByteArray), 2, 9⟩ : S25) [.string (⟨#[106, 117, 109, 112]⟩ : ByteArray), .int .i64 2, .int .i64 9] from (k25_mkM _ _ _ (⟨(⟨#[106, 117, 109, 112]⟩ : ByteArray), 2, 9⟩ : S25) )) (Reps.c3 (show Kd.M k25 _ _ _ (⟨(⟨#[106, 117, 109, 112, 122, 101, 114, 111]⟩ : ByteArray), 2, 9⟩ : S25) [.string (⟨#[106, 117, 109, 112, 122, 101, 114, 111]⟩ : ByteArray), .int .i64 2, .int .i64 9] from (k25_mkM _ _ _ (⟨(⟨#[106, 117, 109, 112, 122, 101, 114, 111]⟩ : ByteArray), 2, 9⟩ : S25) )) (Reps.c3 (show Kd.M k25 _ _ _ (⟨(⟨#[103, 117, 97, 114, 100]⟩ : ByteArray), 2, 10⟩ : S25) [.string (⟨#[103, 117, 97, 114, 100]⟩ : ByteArray), .int .i64 2, .int .i64 10] from (k25_mkM _ _ _ (⟨(⟨#[103, 117, 97, 114, 100]⟩ : ByteArray), 2, 10⟩ : S25) )) (Reps.c3 (show Kd.M k25 _ _ _ (⟨(⟨#[99, 97, 108, 108]⟩ : ByteArray), 4, 11⟩ : S25) [.string (⟨#[99, 97, 108, 108]⟩ : ByteArray), .int .i64 4, .int .i64 11] from (k25_mkM _ _ _ (⟨(⟨#[99, 97, 108, 108]⟩ : ByteArray), 4, 11⟩ : S25) )) (Reps.c3 (show Kd.M k25 _ _ _ (⟨(⟨#[114, 101, 116, 117, 114, 110]⟩ : ByteArray), 2, 0⟩ : S25) [.string (⟨#[114, 101, 116, 117, 114, 110]⟩ : ByteArray), .int .i64 2, .int .i64 0] from (k25_mkM _ _ _ (⟨(⟨#[114, 101, 116, 117, 114, 110]⟩ : ByteArray), 2, 0⟩ : S25) )) (Reps.none _ _)))))))))))))))))))))))))))))))); intro v102 w1 ho2 hb hg_ hnew_; clear hg_ hnew_; (first | rw [← Ny101.out] at ho2 | (simp only [Int.reduceToNat] at ho2; rw [← Ny101.out] at ho2)); have n0_ := Aside0.mk (Kd.R_lower ho2 (below_size (by repeat (first | (with_reducible first | exact HB.out | apply below_alloc | apply pw_below_drewN | apply below_drew1) | exact HB.out)))); have n1_ := Aside0.mk (below_step (by repeat (first | (with_reducible first | exact HB.out | apply below_alloc | apply pw_below_drewN | apply below_drew1) | exact HB.out)) hb); clear HB; have HO103 := n0_; have HB := n1_; clear n0_ n1_; clear hb ho2))
  go_ret
  exact ⟨_, by first | rfl | (simp [errW_none, errW_some] <;> rfl) | (simp [*, errW_none, errW_some] <;> rfl), by (with_reducible repeat (first | apply Kd.R_alloc | apply Kd.R_drewN | apply Kd.R_drew)); exact HO103.out, by repeat (first | (with_reducible first | exact HB.out | apply below_alloc | apply pw_below_drewN | apply below_drew1) | exact HB.out)⟩

/-! ### spec_OpOf: function 9 -/
def spec_OpOf.l0 : Nat → ByteArray → List (S25) → Int → Option (Int)
  | 0, _, _, _ => none
  | k + 1, x0, x3, x4 => if x4 < (x3.length : Int) then (if 0 ≤ x4 then (if ((rd_T25 x3 x4).f0).toList = x0.toList then (some x4) else (spec_OpOf.l0 k x0 x3 (wrap64 (x4 + 1)))) else (none)) else (some (-1))
def spec_OpOf.f (k : Nat) (a0 : ByteArray) : Option (Int) := (spec_l2Infos.f).bind fun t104 => (spec_OpOf.l0 k a0 t104 0)
theorem spec_OpOf.mono_l : ∀ k, (∀ y0 y1 y2, LeO (spec_OpOf.l0 k y0 y1 y2) (spec_OpOf.l0 (k + 1) y0 y1 y2))
  | 0 => fun _ _ _ r h => by simp [spec_OpOf.l0] at h
  | k + 1 => by
    have ih0 := spec_OpOf.mono_l k
    · intro y0 y1 y2
      unfold spec_OpOf.l0
      repeat' first
      | (with_reducible exact ih0 _ _ _)
      | (with_reducible exact LeO.refl _)
      | (with_reducible exact LeO.none _)
      | (with_reducible refine LeO.ite ?_ ?_)
      | (with_reducible refine LeO.bind ?_ (fun _ => ?_))
      | exact ih0 _ _ _
      | exact LeO.none _
      | refine LeO.ite ?_ ?_
      | refine LeO.bind ?_ (fun _ => ?_)
theorem spec_OpOf.mono : ∀ a0 k, LeO (spec_OpOf.f k a0) (spec_OpOf.f (k + 1) a0) := by
  intro a0 k
  have ih0 := spec_OpOf.mono_l k
  unfold spec_OpOf.f
  repeat' first
      | (with_reducible exact ih0 _ _ _)
      | (with_reducible exact LeO.refl _)
      | (with_reducible exact LeO.none _)
      | (with_reducible refine LeO.ite ?_ ?_)
      | (with_reducible refine LeO.bind ?_ (fun _ => ?_))
      | exact ih0 _ _ _
      | exact LeO.none _
      | refine LeO.ite ?_ ?_
      | refine LeO.bind ?_ (fun _ => ?_)
set_option maxHeartbeats 8000000 in
set_option maxRecDepth 100000 in
theorem spec_OpOf.calls (k : Nat) (a0 : ByteArray) (r : Int) (w : World) (h : spec_OpOf.f k a0 = some r) :
    Calls Try.prog 9 #[.string a0] w fun e w' => e = .returned (.int .i64 r) ∧ Below w.heap.size w w' := by
  have HB := Aside0.mk (Below.refl w.heap.size w)
  have H : ((spec_l2Infos.f).bind fun t104 => (spec_OpOf.l0 k a0 t104 0)) = some r := h
  clear h
  replace H := Option.bind_eq_some_iff.mp H
  obtain ⟨t104, A20, H⟩ := H
  replace H : (spec_OpOf.l0 k a0 t104 0) = some r := H
  have A2 := Aside0.mk A20
  clear A20
  have H' := Aside0.mk H
  clear H
  go_enter Try.func9, Try.ntmps9
  go_wp2_with (first | ((with_reducible refine gate_callee (f := 32) rfl ?_); refine goesL_ (some 5) rfl rfl Try.func32 (by kernel_rfl) rfl #[] rfl (by (try simp only [List.map_toArray, List.map_cons, List.map_nil]); first | done | rfl | (simp only [List.length_drop, List.length_take]; rfl)) ?_; (with_reducible refine (spec_l2Infos.calls  t104 _ A2.out).mono ?_); rintro e w3 ⟨v105, rfl, ho0, hb⟩; refine ⟨_, rfl, ?_⟩; have n0_ := Aside0.mk (Kd.R_lower ho0 (below_size (by repeat (first | (with_reducible first | exact HB.out | apply below_alloc | apply pw_below_drewN | apply below_drew1) | exact HB.out)))); have n1_ := Aside0.mk (below_step (by repeat (first | (with_reducible first | exact HB.out | apply below_alloc | apply pw_below_drewN | apply below_drew1) | exact HB.out)) hb); clear HB; have HO106 := n0_; have HB := n1_; clear n0_ n1_; (try clear hb); (try clear hb2); (try clear hk); (try clear hi); (try clear ho0)))
  go_loopg [4] k (fun kq v4 w' => ∃ (x4_1 : Int), v4 = .int .i64 x4_1 ∧ Aside0 (spec_OpOf.l0 kq a0 t104 x4_1 = some r) ∧ Aside0 (kq ≤ k) ∧ Aside0 (Kd.R k25 25 w' w.heap.size (fun _ => True) v105 t104) ∧ Aside0 (Below w.heap.size w w'))
  case atStart => exact ⟨(0), (by first | rfl | (simp; done) | (simp [*]; done)), H', ⟨Nat.le_refl _⟩, ⟨by (with_reducible repeat (first | apply Kd.R_alloc | apply Kd.R_drewN | apply Kd.R_drew)); exact HO106.out⟩, ⟨by repeat (first | (with_reducible first | exact HB.out | apply below_alloc | apply pw_below_drewN | apply below_drew1) | exact HB.out)⟩⟩
  case round =>
    clear H'
    try clear p2
    try clear c3
    obtain ⟨x4_1, rfl, HA, HK1, HO_3, HB⟩ := hrel
    cases gk with
    | zero => exact absurd HA.out (by simp [spec_OpOf.l0])
    | succ k1 =>
      have H := HA.out
      clear HA
      simp only [spec_OpOf.l0] at H
      by_cases c4 : x4_1 < (t104.length : Int)
      · rw [if_pos c4] at H
        have c4b0 : decide (x4_1 < (t104.length : Int)) = true := decide_eq_true c4
        clear c4
        by_cases c5 : 0 ≤ x4_1
        · rw [if_pos c5] at H
          have c5b0 : decide (0 ≤ x4_1) = true := decide_eq_true c5
          clear c5
          by_cases c6 : ((rd_T25 t104 x4_1).f0).toList = a0.toList
          · rw [if_pos c6] at H
            have c6b0 : (((rd_T25 t104 x4_1).f0).toList == a0.toList) = true := beq_iff_eq.mpr c6
            have c6b1 : (((rd_T25 t104 x4_1).f0).toList != a0.toList) = false := bne_eq_false_iff_eq.mpr c6
            clear c6
            obtain rfl := Option.some.inj H
            obtain ⟨Ao7, co7, eo7⟩ := Kd.R_slice HO_3.out
            subst eo7
            have p107 : 0 ≤ (x4_1 : Int) := of_decide_eq_true (by first | (with_reducible assumption) | assumption)
            have q107 : x4_1 < (t104.length : Int) := of_decide_eq_true (by first | (with_reducible assumption) | assumption)
            obtain ⟨ad107, e107, hx107_0, hx107_1, hx107_2⟩ := at_T25 (Kd.R_reads' HO_3.out).2.2 x4_1 p107 q107
            cases e107
            replace p107 := eq_true p107
            replace q107 := eq_true q107
            go_wp2
            go_ret
            exact ⟨by first | rfl | (simp [errW_none, errW_some] <;> rfl) | (simp [*, errW_none, errW_some] <;> rfl), by repeat (first | (with_reducible first | exact HB.out | apply below_alloc | apply pw_below_drewN | apply below_drew1) | exact HB.out)⟩
          · rw [if_neg c6] at H
            have c6b0 : (((rd_T25 t104 x4_1).f0).toList == a0.toList) = false := beq_eq_false_iff_ne.mpr c6
            have c6b1 : (((rd_T25 t104 x4_1).f0).toList != a0.toList) = true := bne_iff_ne.mpr c6
            have H' := Aside0.mk H
            clear H
            obtain ⟨Ao8, co8, eo8⟩ := Kd.R_slice HO_3.out
            subst eo8
            have p107 : 0 ≤ (x4_1 : Int) := of_decide_eq_true (by first | (with_reducible assumption) | assumption)
            have q107 : x4_1 < (t104.length : Int) := of_decide_eq_true (by first | (with_reducible assumption) | assumption)
            obtain ⟨ad107, e107, hx107_0, hx107_1, hx107_2⟩ := at_T25 (Kd.R_reads' HO_3.out).2.2 x4_1 p107 q107
            cases e107
            replace p107 := eq_true p107
            replace q107 := eq_true q107
            go_wp2
            go_roundg k1
            case measure => have := HK1.out; omega
            case rel => exact ⟨(wrap64 (x4_1 + 1)), (by first | rfl | (simp; done) | (simp [*]; done)), H', ⟨by have := HK1.out; omega⟩, ⟨by (with_reducible repeat (first | apply Kd.R_alloc | apply Kd.R_drewN | apply Kd.R_drew)); exact HO_3.out⟩, ⟨by repeat (first | (with_reducible first | exact HB.out | apply below_alloc | apply pw_below_drewN | apply below_drew1) | exact HB.out)⟩⟩
        · rw [if_neg c5] at H
          exact absurd H (by simp)
      · rw [if_neg c4] at H
        have c4b0 : decide (x4_1 < (t104.length : Int)) = false := decide_eq_false c4
        clear c4
        obtain rfl := Option.some.inj H
        obtain ⟨Ao9, co9, eo9⟩ := Kd.R_slice HO_3.out
        subst eo9
        go_wp2
        go_ret
        exact ⟨by first | rfl | (simp [errW_none, errW_some] <;> rfl) | (simp [*, errW_none, errW_some] <;> rfl), by repeat (first | (with_reducible first | exact HB.out | apply below_alloc | apply pw_below_drewN | apply below_drew1) | exact HB.out)⟩

-- NOT PRINTED: function 60 (impl_onNumbers)

-- NOT PRINTED: function 81 (impl_numbers)

-- NOT PRINTED: function 64 (impl_divided)

-- NOT PRINTED: function 65 (impl_remainder)

-- NOT PRINTED: function 66 (impl_onBits)

/-! ### impl_flag: function 45 -/
def impl_flag.f (a0 : Bool) : Option (Int) := if a0 = true then (some 1) else (some 0)
set_option maxHeartbeats 8000000 in
set_option maxRecDepth 100000 in
theorem impl_flag.calls (a0 : Bool) (r : Int) (w : World) (h : impl_flag.f a0 = some r) :
    Calls Try.prog 45 #[.bool a0] w fun e w' => e = .returned (.int .u32 r) ∧ Drawn0 w w' := by
  have H : (if a0 = true then (some 1) else (some 0)) = some r := h
  clear h
  by_cases c2 : a0 = true
  · subst c2
    have H1 : (some 1) = some r := by rw [if_pos rfl] at H; exact H
    clear H
    have H := H1
    clear H1
    obtain rfl := Option.some.inj H
    go_enter Try.func45, Try.ntmps45
    go_wp2
    go_ret
    exact ⟨by first | rfl | (simp; done) | (simp [*]; done), by repeat (first | exact Drawn0.refl _ | apply Drawn0.step)⟩
  · replace c2 := Bool.eq_false_iff.mpr c2
    subst c2
    have H1 : (some 0) = some r := by rw [if_neg (show ¬ (false = true) by decide)] at H; exact H
    clear H
    have H := H1
    clear H1
    obtain rfl := Option.some.inj H
    go_enter Try.func45, Try.ntmps45
    go_wp2
    go_ret
    exact ⟨by first | rfl | (simp; done) | (simp [*]; done), by repeat (first | exact Drawn0.refl _ | apply Drawn0.step)⟩

/-! ### impl_turned: function 70 -/
def impl_turned.f (a0 : Int) (a1 : Int) (a2 : Int) : Option (Int) := if a0 = 1 then ((impl_flag.f (a1 == 0)).bind fun t108 => (some t108)) else (if a0 = 3 then (some (Go.bits .xor .u32 4294967295 a1)) else (some 0))
set_option maxHeartbeats 8000000 in
set_option maxRecDepth 100000 in
theorem impl_turned.calls (a0 : Int) (a1 : Int) (a2 : Int) (r : Int) (w : World) (h : impl_turned.f a0 a1 a2 = some r) :
    Calls Try.prog 70 #[.int .i64 a0, .int .u32 a1, .int .u32 a2] w fun e w' => e = .returned (.int .u32 r) ∧ Drawn0 w w' := by
  have H : (if a0 = 1 then ((impl_flag.f (a1 == 0)).bind fun t108 => (some t108)) else (if a0 = 3 then (some (Go.bits .xor .u32 4294967295 a1)) else (some 0))) = some r := h
  clear h
  by_cases c4 : a0 = 1
  · rw [if_pos c4] at H
    have c4b0 : (a0 == 1) = true := beq_iff_eq.mpr c4
    have c4b1 : (a0 != 1) = false := bne_eq_false_iff_eq.mpr c4
    clear c4
    replace H := Option.bind_eq_some_iff.mp H
    obtain ⟨t108, A50, H⟩ := H
    replace H : (some t108) = some r := H
    have A5 := Aside0.mk A50
    clear A50
    obtain rfl := Option.some.inj H
    go_enter Try.func70, Try.ntmps70
    go_wp2_with (first | ((with_reducible refine gate_callee (f := 45) rfl ?_); refine goesL_ (some 12) rfl rfl Try.func45 (by kernel_rfl) rfl #[.bool (a1 == 0)] rfl (by (try simp only [List.map_toArray, List.map_cons, List.map_nil]); first | done | rfl | (simp only [List.length_drop, List.length_take]; rfl)) ?_; (with_reducible refine (impl_flag.calls (a1 == 0) t108 _ A5.out).mono ?_); rintro e w' ⟨rfl, ⟨nd, rfl⟩⟩; refine ⟨_, rfl, ?_⟩))
    go_ret
    exact ⟨by first | rfl | (simp; done) | (simp [*]; done), by repeat (first | exact Drawn0.refl _ | apply Drawn0.step)⟩
  · rw [if_neg c4] at H
    have c4b0 : (a0 == 1) = false := beq_eq_false_iff_ne.mpr c4
    have c4b1 : (a0 != 1) = true := bne_iff_ne.mpr c4
    by_cases c6 : a0 = 3
    · rw [if_pos c6] at H
      have c6b0 : (a0 == 3) = true := beq_iff_eq.mpr c6
      have c6b1 : (a0 != 3) = false := bne_eq_false_iff_eq.mpr c6
      clear c6
      obtain rfl := Option.some.inj H
      go_enter Try.func70, Try.ntmps70
      go_wp2
      go_ret
      exact ⟨by first | rfl | (simp; done) | (simp [*]; done), by repeat (first | exact Drawn0.refl _ | apply Drawn0.step)⟩
    · rw [if_neg c6] at H
      have c6b0 : (a0 == 3) = false := beq_eq_false_iff_ne.mpr c6
      have c6b1 : (a0 != 3) = true := bne_iff_ne.mpr c6
      obtain rfl := Option.some.inj H
      go_enter Try.func70, Try.ntmps70
      go_wp2
      go_ret
      exact ⟨by first | rfl | (simp; done) | (simp [*]; done), by repeat (first | exact Drawn0.refl _ | apply Drawn0.step)⟩

/-! ### impl_isType: function 44 -/
def impl_isType.f (a0 : Int) : Option (Bool) := if a0 ≥ 1 then (some (decide (a0 ≤ 3))) else (some false)
set_option maxHeartbeats 8000000 in
set_option maxRecDepth 100000 in
theorem impl_isType.calls (a0 : Int) (r : Bool) (w : World) (h : impl_isType.f a0 = some r) :
    Calls Try.prog 44 #[.int .i64 a0] w fun e w' => e = .returned (.bool r) ∧ Drawn0 w w' := by
  have H : (if a0 ≥ 1 then (some (decide (a0 ≤ 3))) else (some false)) = some r := h
  clear h
  by_cases c2 : a0 ≥ 1
  · rw [if_pos c2] at H
    have c2b0 : decide (1 ≤ a0) = true := decide_eq_true c2
    clear c2
    obtain rfl := Option.some.inj H
    go_enter Try.func44, Try.ntmps44
    go_wp2
    go_ret
    exact ⟨by first | rfl | (simp; done) | (simp [*]; done), by repeat (first | exact Drawn0.refl _ | apply Drawn0.step)⟩
  · rw [if_neg c2] at H
    have c2b0 : decide (1 ≤ a0) = false := decide_eq_false c2
    clear c2
    obtain rfl := Option.some.inj H
    go_enter Try.func44, Try.ntmps44
    go_wp2
    go_ret
    exact ⟨by first | rfl | (simp; done) | (simp [*]; done), by repeat (first | exact Drawn0.refl _ | apply Drawn0.step)⟩

/-! ### impl_equal: function 74 -/
def impl_equal.f (a0 : Int) (a1 : Int) (a2 : Int) : Option (Int) := (impl_isType.f a0).bind fun t109 => (if t109 = true then ((impl_flag.f (a1 == a2)).bind fun t110 => (some t110)) else ((impl_flag.f false).bind fun t111 => (some t111)))
set_option maxHeartbeats 8000000 in
set_option maxRecDepth 100000 in
theorem impl_equal.calls (a0 : Int) (a1 : Int) (a2 : Int) (r : Int) (w : World) (h : impl_equal.f a0 a1 a2 = some r) :
    Calls Try.prog 74 #[.int .i64 a0, .int .u32 a1, .int .u32 a2] w fun e w' => e = .returned (.int .u32 r) ∧ Drawn0 w w' := by
  have H : ((impl_isType.f a0).bind fun t109 => (if t109 = true then ((impl_flag.f (a1 == a2)).bind fun t110 => (some t110)) else ((impl_flag.f false).bind fun t111 => (some t111)))) = some r := h
  clear h
  replace H := Option.bind_eq_some_iff.mp H
  obtain ⟨t109, A40, H⟩ := H
  replace H : (if t109 = true then ((impl_flag.f (a1 == a2)).bind fun t110 => (some t110)) else ((impl_flag.f false).bind fun t111 => (some t111))) = some r := H
  have A4 := Aside0.mk A40
  clear A40
  by_cases c5 : t109 = true
  · subst c5
    have H1 : ((impl_flag.f (a1 == a2)).bind fun t110 => (some t110)) = some r := by rw [if_pos rfl] at H; exact H
    clear H
    have H := H1
    clear H1
    replace H := Option.bind_eq_some_iff.mp H
    obtain ⟨t110, A60, H⟩ := H
    replace H : (some t110) = some r := H
    have A6 := Aside0.mk A60
    clear A60
    obtain rfl := Option.some.inj H
    go_enter Try.func74, Try.ntmps74
    go_wp2_with (first | ((with_reducible refine gate_callee (f := 44) rfl ?_); refine goesL_ (some 8) rfl rfl Try.func44 (by kernel_rfl) rfl #[.int .i64 a0] rfl (by (try simp only [List.map_toArray, List.map_cons, List.map_nil]); first | done | rfl | (simp only [List.length_drop, List.length_take]; rfl)) ?_; (with_reducible refine (impl_isType.calls a0 true _ A4.out).mono ?_); rintro e w' ⟨rfl, ⟨nd, rfl⟩⟩; refine ⟨_, rfl, ?_⟩) | ((with_reducible refine gate_callee (f := 45) rfl ?_); refine goesL_ (some 14) rfl rfl Try.func45 (by kernel_rfl) rfl #[.bool (a1 == a2)] rfl (by (try simp only [List.map_toArray, List.map_cons, List.map_nil]); first | done | rfl | (simp only [List.length_drop, List.length_take]; rfl)) ?_; (with_reducible refine (impl_flag.calls (a1 == a2) t110 _ A6.out).mono ?_); rintro e w' ⟨rfl, ⟨nd, rfl⟩⟩; refine ⟨_, rfl, ?_⟩))
    go_ret
    exact ⟨by first | rfl | (simp; done) | (simp [*]; done), by repeat (first | exact Drawn0.refl _ | apply Drawn0.step)⟩
  · replace c5 := Bool.eq_false_iff.mpr c5
    subst c5
    have H1 : ((impl_flag.f false).bind fun t111 => (some t111)) = some r := by rw [if_neg (show ¬ (false = true) by decide)] at H; exact H
    clear H
    have H := H1
    clear H1
    replace H := Option.bind_eq_some_iff.mp H
    obtain ⟨t111, A70, H⟩ := H
    replace H : (some t111) = some r := H
    have A7 := Aside0.mk A70
    clear A70
    obtain rfl := Option.some.inj H
    go_enter Try.func74, Try.ntmps74
    go_wp2_with (first | ((with_reducible refine gate_callee (f := 44) rfl ?_); refine goesL_ (some 8) rfl rfl Try.func44 (by kernel_rfl) rfl #[.int .i64 a0] rfl (by (try simp only [List.map_toArray, List.map_cons, List.map_nil]); first | done | rfl | (simp only [List.length_drop, List.length_take]; rfl)) ?_; (with_reducible refine (impl_isType.calls a0 false _ A4.out).mono ?_); rintro e w' ⟨rfl, ⟨nd, rfl⟩⟩; refine ⟨_, rfl, ?_⟩) | ((with_reducible refine gate_callee (f := 45) rfl ?_); refine goesL_ (some 14) rfl rfl Try.func45 (by kernel_rfl) rfl #[.bool false] rfl (by (try simp only [List.map_toArray, List.map_cons, List.map_nil]); first | done | rfl | (simp only [List.length_drop, List.length_take]; rfl)) ?_; (with_reducible refine (impl_flag.calls false t111 _ A7.out).mono ?_); rintro e w' ⟨rfl, ⟨nd, rfl⟩⟩; refine ⟨_, rfl, ?_⟩))
    go_ret
    exact ⟨by first | rfl | (simp; done) | (simp [*]; done), by repeat (first | exact Drawn0.refl _ | apply Drawn0.step)⟩

/-! ### impl_lesser: function 75 -/
def impl_lesser.f (a0 : Int) (a1 : Int) (a2 : Int) : Option (Int) := if a0 = 2 then ((impl_flag.f (decide ((wrap32 (a1)) < (wrap32 (a2))))).bind fun t112 => (some t112)) else (if a0 = 3 then ((impl_flag.f (decide (a1 < a2))).bind fun t113 => (some t113)) else (some 0))
set_option maxHeartbeats 8000000 in
set_option maxRecDepth 100000 in
theorem impl_lesser.calls (a0 : Int) (a1 : Int) (a2 : Int) (r : Int) (w : World) (h : impl_lesser.f a0 a1 a2 = some r) :
    Calls Try.prog 75 #[.int .i64 a0, .int .u32 a1, .int .u32 a2] w fun e w' => e = .returned (.int .u32 r) ∧ Drawn0 w w' := by
  have H : (if a0 = 2 then ((impl_flag.f (decide ((wrap32 (a1)) < (wrap32 (a2))))).bind fun t112 => (some t112)) else (if a0 = 3 then ((impl_flag.f (decide (a1 < a2))).bind fun t113 => (some t113)) else (some 0))) = some r := h
  clear h
  by_cases c4 : a0 = 2
  · rw [if_pos c4] at H
    have c4b0 : (a0 == 2) = true := beq_iff_eq.mpr c4
    have c4b1 : (a0 != 2) = false := bne_eq_false_iff_eq.mpr c4
    clear c4
    replace H := Option.bind_eq_some_iff.mp H
    obtain ⟨t112, A50, H⟩ := H
    replace H : (some t112) = some r := H
    have A5 := Aside0.mk A50
    clear A50
    obtain rfl := Option.some.inj H
    go_enter Try.func75, Try.ntmps75
    go_wp2_with (first | ((with_reducible refine gate_callee (f := 45) rfl ?_); refine goesL_ (some 15) rfl rfl Try.func45 (by kernel_rfl) rfl #[.bool (decide ((wrap32 (a1)) < (wrap32 (a2))))] rfl (by (try simp only [List.map_toArray, List.map_cons, List.map_nil]); first | done | rfl | (simp only [List.length_drop, List.length_take]; rfl)) ?_; (with_reducible refine (impl_flag.calls (decide ((wrap32 (a1)) < (wrap32 (a2)))) t112 _ A5.out).mono ?_); rintro e w' ⟨rfl, ⟨nd, rfl⟩⟩; refine ⟨_, rfl, ?_⟩))
    go_ret
    exact ⟨by first | rfl | (simp; done) | (simp [*]; done), by repeat (first | exact Drawn0.refl _ | apply Drawn0.step)⟩
  · rw [if_neg c4] at H
    have c4b0 : (a0 == 2) = false := beq_eq_false_iff_ne.mpr c4
    have c4b1 : (a0 != 2) = true := bne_iff_ne.mpr c4
    by_cases c6 : a0 = 3
    · rw [if_pos c6] at H
      have c6b0 : (a0 == 3) = true := beq_iff_eq.mpr c6
      have c6b1 : (a0 != 3) = false := bne_eq_false_iff_eq.mpr c6
      clear c6
      replace H := Option.bind_eq_some_iff.mp H
      obtain ⟨t113, A70, H⟩ := H
      replace H : (some t113) = some r := H
      have A7 := Aside0.mk A70
      clear A70
      obtain rfl := Option.some.inj H
      go_enter Try.func75, Try.ntmps75
      go_wp2_with (first | ((with_reducible refine gate_callee (f := 45) rfl ?_); refine goesL_ (some 21) rfl rfl Try.func45 (by kernel_rfl) rfl #[.bool (decide (a1 < a2))] rfl (by (try simp only [List.map_toArray, List.map_cons, List.map_nil]); first | done | rfl | (simp only [List.length_drop, List.length_take]; rfl)) ?_; (with_reducible refine (impl_flag.calls (decide (a1 < a2)) t113 _ A7.out).mono ?_); rintro e w' ⟨rfl, ⟨nd, rfl⟩⟩; refine ⟨_, rfl, ?_⟩))
      go_ret
      exact ⟨by first | rfl | (simp; done) | (simp [*]; done), by repeat (first | exact Drawn0.refl _ | apply Drawn0.step)⟩
    · rw [if_neg c6] at H
      have c6b0 : (a0 == 3) = false := beq_eq_false_iff_ne.mpr c6
      have c6b1 : (a0 != 3) = true := bne_iff_ne.mpr c6
      obtain rfl := Option.some.inj H
      go_enter Try.func75, Try.ntmps75
      go_wp2
      go_ret
      exact ⟨by first | rfl | (simp; done) | (simp [*]; done), by repeat (first | exact Drawn0.refl _ | apply Drawn0.step)⟩

-- NOT PRINTED: function 33 (impl_opRows)

-- GIVEN: function 10 (impl_OpOf)

/-! ### laws_FnExactOpOf: function 3 -/
def laws_FnExactOpOf.f (k : Nat) (a0 : ByteArray) : Option (Bool) := if (a0.size : Int) > 1048576 then (some true) else ((spec_OpOf.f k a0).bind fun t114 => ((impl_OpOf.f a0).bind fun t115 => (if t115 = t114 then (some true) else (some false))))
theorem laws_FnExactOpOf.mono : ∀ a0 k, LeO (laws_FnExactOpOf.f k a0) (laws_FnExactOpOf.f (k + 1) a0) := by
  intro a0 k
  unfold laws_FnExactOpOf.f
  repeat' first
      | (with_reducible exact spec_OpOf.mono _ _)
      | (with_reducible exact LeO.refl _)
      | (with_reducible exact LeO.none _)
      | (with_reducible refine LeO.ite ?_ ?_)
      | (with_reducible refine LeO.bind ?_ (fun _ => ?_))
      | exact spec_OpOf.mono _ _
      | exact LeO.none _
      | refine LeO.ite ?_ ?_
      | refine LeO.bind ?_ (fun _ => ?_)
set_option maxHeartbeats 8000000 in
set_option maxRecDepth 100000 in
theorem laws_FnExactOpOf.calls (k : Nat) (a0 : ByteArray) (r : Bool) (w : World) (h : laws_FnExactOpOf.f k a0 = some r) :
    Calls Try.prog 3 #[.string a0] w fun e w' => e = .returned (.bool r) ∧ Below w.heap.size w w' := by
  have HB := Aside0.mk (Below.refl w.heap.size w)
  have H : (if (a0.size : Int) > 1048576 then (some true) else ((spec_OpOf.f k a0).bind fun t114 => ((impl_OpOf.f a0).bind fun t115 => (if t115 = t114 then (some true) else (some false))))) = some r := h
  clear h
  by_cases c2 : (a0.size : Int) > 1048576
  · rw [if_pos c2] at H
    have c2b0 : decide (1048576 < (a0.size : Int)) = true := decide_eq_true c2
    have c2b1 : decide (1048576 < a0.size) = true := decide_eq_true (by omega)
    clear c2
    obtain rfl := Option.some.inj H
    go_enter Try.func3, Try.ntmps3
    go_wp2
    go_ret
    exact ⟨by first | rfl | (simp [errW_none, errW_some] <;> rfl) | (simp [*, errW_none, errW_some] <;> rfl), by repeat (first | (with_reducible first | exact HB.out | apply below_alloc | apply pw_below_drewN | apply below_drew1) | exact HB.out)⟩
  · rw [if_neg c2] at H
    have c2b0 : decide (1048576 < (a0.size : Int)) = false := decide_eq_false c2
    have c2b1 : decide (1048576 < a0.size) = false := decide_eq_false (by omega)
    clear c2
    replace H := Option.bind_eq_some_iff.mp H
    obtain ⟨t114, A30, H⟩ := H
    replace H : ((impl_OpOf.f a0).bind fun t115 => (if t115 = t114 then (some true) else (some false))) = some r := H
    have A3 := Aside0.mk A30
    clear A30
    replace H := Option.bind_eq_some_iff.mp H
    obtain ⟨t115, A40, H⟩ := H
    replace H : (if t115 = t114 then (some true) else (some false)) = some r := H
    have A4 := Aside0.mk A40
    clear A40
    by_cases c5 : t115 = t114
    · rw [if_pos c5] at H
      have c5b0 : (t115 == t114) = true := beq_iff_eq.mpr c5
      have c5b1 : (t115 != t114) = false := bne_eq_false_iff_eq.mpr c5
      clear c5
      obtain rfl := Option.some.inj H
      go_enter Try.func3, Try.ntmps3
      go_wp2_with (first | ((with_reducible refine gate_callee (f := 9) rfl ?_); refine goesL_ (some 9) rfl rfl Try.func9 (by kernel_rfl) rfl #[.string a0] rfl (by (try simp only [List.map_toArray, List.map_cons, List.map_nil]); first | done | rfl | (simp only [List.length_drop, List.length_take]; rfl)) ?_; (with_reducible refine (spec_OpOf.calls k a0 t114 _ A3.out).mono ?_); rintro e w6 ⟨rfl, hb⟩; refine ⟨_, rfl, ?_⟩; have n0_ := Aside0.mk (below_step (by repeat (first | (with_reducible first | exact HB.out | apply below_alloc | apply pw_below_drewN | apply below_drew1) | exact HB.out)) hb); clear HB; have HB := n0_; clear n0_; (try clear hb); (try clear hb2); (try clear hk); (try clear hi)) | ((with_reducible refine gate_callee (f := 10) rfl ?_); refine goesL_ (some 11) rfl rfl Try.func10 (by kernel_rfl) rfl #[.string a0] rfl (by (try simp only [List.map_toArray, List.map_cons, List.map_nil]); first | done | rfl | (simp only [List.length_drop, List.length_take]; rfl)) ?_; (with_reducible refine (impl_OpOf.calls a0 t115 _ A4.out).mono ?_); rintro e w7 ⟨rfl, hb⟩; refine ⟨_, rfl, ?_⟩; have n0_ := Aside0.mk (below_step (by repeat (first | (with_reducible first | exact HB.out | apply below_alloc | apply pw_below_drewN | apply below_drew1) | exact HB.out)) hb); clear HB; have HB := n0_; clear n0_; (try clear hb); (try clear hb2); (try clear hk); (try clear hi)))
      go_ret
      exact ⟨by first | rfl | (simp [errW_none, errW_some] <;> rfl) | (simp [*, errW_none, errW_some] <;> rfl), by repeat (first | (with_reducible first | exact HB.out | apply below_alloc | apply pw_below_drewN | apply below_drew1) | exact HB.out)⟩
    · rw [if_neg c5] at H
      have c5b0 : (t115 == t114) = false := beq_eq_false_iff_ne.mpr c5
      have c5b1 : (t115 != t114) = true := bne_iff_ne.mpr c5
      obtain rfl := Option.some.inj H
      go_enter Try.func3, Try.ntmps3
      go_wp2_with (first | ((with_reducible refine gate_callee (f := 9) rfl ?_); refine goesL_ (some 9) rfl rfl Try.func9 (by kernel_rfl) rfl #[.string a0] rfl (by (try simp only [List.map_toArray, List.map_cons, List.map_nil]); first | done | rfl | (simp only [List.length_drop, List.length_take]; rfl)) ?_; (with_reducible refine (spec_OpOf.calls k a0 t114 _ A3.out).mono ?_); rintro e w8 ⟨rfl, hb⟩; refine ⟨_, rfl, ?_⟩; have n0_ := Aside0.mk (below_step (by repeat (first | (with_reducible first | exact HB.out | apply below_alloc | apply pw_below_drewN | apply below_drew1) | exact HB.out)) hb); clear HB; have HB := n0_; clear n0_; (try clear hb); (try clear hb2); (try clear hk); (try clear hi)) | ((with_reducible refine gate_callee (f := 10) rfl ?_); refine goesL_ (some 11) rfl rfl Try.func10 (by kernel_rfl) rfl #[.string a0] rfl (by (try simp only [List.map_toArray, List.map_cons, List.map_nil]); first | done | rfl | (simp only [List.length_drop, List.length_take]; rfl)) ?_; (with_reducible refine (impl_OpOf.calls a0 t115 _ A4.out).mono ?_); rintro e w9 ⟨rfl, hb⟩; refine ⟨_, rfl, ?_⟩; have n0_ := Aside0.mk (below_step (by repeat (first | (with_reducible first | exact HB.out | apply below_alloc | apply pw_below_drewN | apply below_drew1) | exact HB.out)) hb); clear HB; have HB := n0_; clear n0_; (try clear hb); (try clear hb2); (try clear hk); (try clear hi)))
      go_ret
      exact ⟨by first | rfl | (simp [errW_none, errW_some] <;> rfl) | (simp [*, errW_none, errW_some] <;> rfl), by repeat (first | (with_reducible first | exact HB.out | apply below_alloc | apply pw_below_drewN | apply below_drew1) | exact HB.out)⟩

/-- THE ONE PURE STATEMENT of laws_FnExactOpOf: yours. -/
def laws_FnExactOpOf.Pure : Prop := ∀ (a0 : ByteArray), a0.size ≤ 140737488351232 → ∃ k, laws_FnExactOpOf.f k a0 = some true
theorem laws_FnExactOpOf.walk (P : laws_FnExactOpOf.Pure) (a0 : ByteArray) (w : World) (w0 : a0.size ≤ 140737488351232) :
    Calls Try.prog 3 #[.string a0] w fun e w' => e = .returned (.bool true) ∧ Below w.heap.size w w' := by
  obtain ⟨k, h⟩ := P a0 w0
  refine (laws_FnExactOpOf.calls k a0 true w h).mono ?_
  rintro e w' ⟨rfl, hd⟩
  exact ⟨rfl, hd⟩

/-! ### spec_Info: function 11 -/
def spec_Info.f (a0 : Int) : Option (ByteArray × Int × Int) := if a0 < 0 then (some ((⟨#[]⟩ : ByteArray), 0, 0)) else (if a0 > 29 then (some ((⟨#[]⟩ : ByteArray), 0, 0)) else ((spec_l2Infos.f).bind fun t117 => (if 0 ≤ a0 then (if a0 < (t117.length : Int) then (some ((rd_T25 t117 a0).f0, (rd_T25 t117 a0).f1, (rd_T25 t117 a0).f2)) else (none)) else (none))))
set_option maxHeartbeats 8000000 in
set_option maxRecDepth 100000 in
theorem spec_Info.calls (a0 : Int) (r1 : ByteArray) (r2 : Int) (r3 : Int) (w : World) (h : spec_Info.f a0 = some (r1, r2, r3)) :
    Calls Try.prog 11 #[.int .i64 a0] w fun e w' => e = .returned (.agg #[.string r1, .int .i64 r2, .int .i64 r3]) ∧ Below w.heap.size w w' := by
  have hu25 := Try.underlying25
  have HB := Aside0.mk (Below.refl w.heap.size w)
  have H : (if a0 < 0 then (some ((⟨#[]⟩ : ByteArray), 0, 0)) else (if a0 > 29 then (some ((⟨#[]⟩ : ByteArray), 0, 0)) else ((spec_l2Infos.f).bind fun t117 => (if 0 ≤ a0 then (if a0 < (t117.length : Int) then (some ((rd_T25 t117 a0).f0, (rd_T25 t117 a0).f1, (rd_T25 t117 a0).f2)) else (none)) else (none))))) = some (r1, r2, r3) := h
  clear h
  by_cases c2 : a0 < 0
  · rw [if_pos c2] at H
    have c2b0 : decide (a0 < 0) = true := decide_eq_true c2
    clear c2
    simp only [Option.some.injEq, Prod.mk.injEq] at H
    obtain ⟨rfl, rfl, rfl⟩ := H
    go_enter Try.func11, Try.ntmps11
    go_wp2_with (first | ((with_reducible refine gate_dst (N := 2) rfl ?_); refine box_event ?hg (N := 2) ?hd (cs := #[.string (⟨#[]⟩ : ByteArray), .int .i64 0, .int .i64 0]) (t := 25) ?hr ?_; (case hd => rfl); (case hg => rfl); (case hr => first | (go_simp; done) | (go_simp; rfl)); intro gb116 hg w3 hbox hb; have n0_ := Aside0.mk (below_step (by repeat (first | (with_reducible first | exact HB.out | apply below_alloc | apply pw_below_drewN | apply below_drew1) | exact HB.out)) hb); have n1_ := Aside0.mk (hbox); have n2_ := Aside0.mk ((by rw [hg]; exact (below_size (by repeat (first | (with_reducible first | exact HB.out | apply below_alloc | apply pw_below_drewN | apply below_drew1) | exact HB.out))) : w.heap.size ≤ gb116)); have n3_ := Aside0.mk ((by rw [hg]; exact (below_size (by repeat (first | (with_reducible first | exact HB.out | apply below_alloc | apply pw_below_drewN | apply below_drew1) | exact HB.out))) : w.heap.size ≤ gb116)); clear HB; have HB := n0_; have BK116 := n1_; have GW116 := n2_; have GE116 := n3_; clear n0_ n1_ n2_ n3_; clear hb hbox hg; have hcz4_0 : w3.cell? ⟨gb116, 0, none⟩ = some (.string (⟨#[]⟩ : ByteArray)) := (blk_cell BK116.out 0).trans rfl; have hcz4_1 : w3.cell? ⟨gb116, 1, none⟩ = some (.int .i64 0) := (blk_cell BK116.out 1).trans rfl; have hcz4_2 : w3.cell? ⟨gb116, 2, none⟩ = some (.int .i64 0) := (blk_cell BK116.out 2).trans rfl; have hfz4_0 := blk_frozen BK116.out 0; have hfz4_1 := blk_frozen BK116.out 1; have hfz4_2 := blk_frozen BK116.out 2))
    refine bodyPost_ret (results_cell_row rfl _ _ gb116 25 #[.string (⟨#[]⟩ : ByteArray), .int .i64 0, .int .i64 0] (0, 0) _ rfl (by (with_reducible repeat (first | refine blk_drewN ?_ _ | refine blk_drew ?_ | refine blk_alloc ?_ _)); refine blk_put (cs := #[.string (⟨#[]⟩ : ByteArray), .int .i64 0, .int .i64 0]) ?_ 2 _ rfl; (with_reducible repeat (first | refine blk_drewN ?_ _ | refine blk_drew ?_ | refine blk_alloc ?_ _)); refine blk_put (cs := #[.string (⟨#[]⟩ : ByteArray), .int .i64 0, .int .i64 0]) ?_ 1 _ rfl; (with_reducible repeat (first | refine blk_drewN ?_ _ | refine blk_drew ?_ | refine blk_alloc ?_ _)); refine blk_put (cs := #[.string (⟨#[]⟩ : ByteArray), .int .i64 0, .int .i64 0]) ?_ 0 _ rfl; (with_reducible repeat (first | refine blk_drewN ?_ _ | refine blk_drew ?_ | refine blk_alloc ?_ _)); exact BK116.out) Try.underlying25 rfl (by kernel_rfl)) rfl ?_
    exact ⟨by first | rfl | (simp [errW_none, errW_some] <;> rfl) | (simp [*, errW_none, errW_some] <;> rfl), by repeat (first | (with_reducible first | exact HB.out | apply below_alloc | apply pw_below_drewN | apply below_drew1 | refine below_set ?_ GE116.out) | exact HB.out)⟩
  · rw [if_neg c2] at H
    have c2b0 : decide (a0 < 0) = false := decide_eq_false c2
    clear c2
    by_cases c5 : a0 > 29
    · rw [if_pos c5] at H
      have c5b0 : decide (29 < a0) = true := decide_eq_true c5
      clear c5
      simp only [Option.some.injEq, Prod.mk.injEq] at H
      obtain ⟨rfl, rfl, rfl⟩ := H
      go_enter Try.func11, Try.ntmps11
      go_wp2_with (first | ((with_reducible refine gate_dst (N := 2) rfl ?_); refine box_event ?hg (N := 2) ?hd (cs := #[.string (⟨#[]⟩ : ByteArray), .int .i64 0, .int .i64 0]) (t := 25) ?hr ?_; (case hd => rfl); (case hg => rfl); (case hr => first | (go_simp; done) | (go_simp; rfl)); intro gb116 hg w6 hbox hb; have n0_ := Aside0.mk (below_step (by repeat (first | (with_reducible first | exact HB.out | apply below_alloc | apply pw_below_drewN | apply below_drew1) | exact HB.out)) hb); have n1_ := Aside0.mk (hbox); have n2_ := Aside0.mk ((by rw [hg]; exact (below_size (by repeat (first | (with_reducible first | exact HB.out | apply below_alloc | apply pw_below_drewN | apply below_drew1) | exact HB.out))) : w.heap.size ≤ gb116)); have n3_ := Aside0.mk ((by rw [hg]; exact (below_size (by repeat (first | (with_reducible first | exact HB.out | apply below_alloc | apply pw_below_drewN | apply below_drew1) | exact HB.out))) : w.heap.size ≤ gb116)); clear HB; have HB := n0_; have BK116 := n1_; have GW116 := n2_; have GE116 := n3_; clear n0_ n1_ n2_ n3_; clear hb hbox hg; have hcz7_0 : w6.cell? ⟨gb116, 0, none⟩ = some (.string (⟨#[]⟩ : ByteArray)) := (blk_cell BK116.out 0).trans rfl; have hcz7_1 : w6.cell? ⟨gb116, 1, none⟩ = some (.int .i64 0) := (blk_cell BK116.out 1).trans rfl; have hcz7_2 : w6.cell? ⟨gb116, 2, none⟩ = some (.int .i64 0) := (blk_cell BK116.out 2).trans rfl; have hfz7_0 := blk_frozen BK116.out 0; have hfz7_1 := blk_frozen BK116.out 1; have hfz7_2 := blk_frozen BK116.out 2))
      refine bodyPost_ret (results_cell_row rfl _ _ gb116 25 #[.string (⟨#[]⟩ : ByteArray), .int .i64 0, .int .i64 0] (0, 0) _ rfl (by (with_reducible repeat (first | refine blk_drewN ?_ _ | refine blk_drew ?_ | refine blk_alloc ?_ _)); refine blk_put (cs := #[.string (⟨#[]⟩ : ByteArray), .int .i64 0, .int .i64 0]) ?_ 2 _ rfl; (with_reducible repeat (first | refine blk_drewN ?_ _ | refine blk_drew ?_ | refine blk_alloc ?_ _)); refine blk_put (cs := #[.string (⟨#[]⟩ : ByteArray), .int .i64 0, .int .i64 0]) ?_ 1 _ rfl; (with_reducible repeat (first | refine blk_drewN ?_ _ | refine blk_drew ?_ | refine blk_alloc ?_ _)); refine blk_put (cs := #[.string (⟨#[]⟩ : ByteArray), .int .i64 0, .int .i64 0]) ?_ 0 _ rfl; (with_reducible repeat (first | refine blk_drewN ?_ _ | refine blk_drew ?_ | refine blk_alloc ?_ _)); exact BK116.out) Try.underlying25 rfl (by kernel_rfl)) rfl ?_
      exact ⟨by first | rfl | (simp [errW_none, errW_some] <;> rfl) | (simp [*, errW_none, errW_some] <;> rfl), by repeat (first | (with_reducible first | exact HB.out | apply below_alloc | apply pw_below_drewN | apply below_drew1 | refine below_set ?_ GE116.out) | exact HB.out)⟩
    · rw [if_neg c5] at H
      have c5b0 : decide (29 < a0) = false := decide_eq_false c5
      clear c5
      replace H := Option.bind_eq_some_iff.mp H
      obtain ⟨t117, A80, H⟩ := H
      replace H : (if 0 ≤ a0 then (if a0 < (t117.length : Int) then (some ((rd_T25 t117 a0).f0, (rd_T25 t117 a0).f1, (rd_T25 t117 a0).f2)) else (none)) else (none)) = some (r1, r2, r3) := H
      have A8 := Aside0.mk A80
      clear A80
      by_cases c9 : 0 ≤ a0
      · rw [if_pos c9] at H
        have c9b0 : decide (0 ≤ a0) = true := decide_eq_true c9
        clear c9
        by_cases c10 : a0 < (t117.length : Int)
        · rw [if_pos c10] at H
          have c10b0 : decide (a0 < (t117.length : Int)) = true := decide_eq_true c10
          clear c10
          simp only [Option.some.injEq, Prod.mk.injEq] at H
          obtain ⟨rfl, rfl, rfl⟩ := H
          go_enter Try.func11, Try.ntmps11
          go_wp2_with (first | ((with_reducible refine gate_dst (N := 2) rfl ?_); refine box_event ?hg (N := 2) ?hd (cs := #[.string (⟨#[]⟩ : ByteArray), .int .i64 0, .int .i64 0]) (t := 25) ?hr ?_; (case hd => rfl); (case hg => rfl); (case hr => first | (go_simp; done) | (go_simp; rfl)); intro gb116 hg w11 hbox hb; have n0_ := Aside0.mk (below_step (by repeat (first | (with_reducible first | exact HB.out | apply below_alloc | apply pw_below_drewN | apply below_drew1) | exact HB.out)) hb); have n1_ := Aside0.mk (hbox); have n2_ := Aside0.mk ((by rw [hg]; exact (below_size (by repeat (first | (with_reducible first | exact HB.out | apply below_alloc | apply pw_below_drewN | apply below_drew1) | exact HB.out))) : w.heap.size ≤ gb116)); have n3_ := Aside0.mk ((by rw [hg]; exact (below_size (by repeat (first | (with_reducible first | exact HB.out | apply below_alloc | apply pw_below_drewN | apply below_drew1) | exact HB.out))) : w.heap.size ≤ gb116)); clear HB; have HB := n0_; have BK116 := n1_; have GW116 := n2_; have GE116 := n3_; clear n0_ n1_ n2_ n3_; clear hb hbox hg) | ((with_reducible refine gate_callee (f := 32) rfl ?_); refine goesL_ (some 10) rfl rfl Try.func32 (by kernel_rfl) rfl #[] rfl (by (try simp only [List.map_toArray, List.map_cons, List.map_nil]); first | done | rfl | (simp only [List.length_drop, List.length_take]; rfl)) ?_; (with_reducible refine (spec_l2Infos.calls  t117 _ A8.out).mono ?_); rintro e w12 ⟨v118, rfl, ho0, hb⟩; refine ⟨_, rfl, ?_⟩; have n0_ := Aside0.mk (Kd.R_lower (Kd.R_newB ho0 (g := gb116) (o := .cells #[.string (⟨#[]⟩ : ByteArray), .int .i64 0, .int .i64 0] 25 (0, 0)) (by (with_reducible repeat (first | refine blk_drewN ?_ _ | refine blk_drew ?_ | refine blk_alloc ?_ _)); exact BK116.out)) (below_size (by repeat (first | (with_reducible first | exact HB.out | apply below_alloc | apply pw_below_drewN | apply below_drew1 | refine below_set ?_ GE116.out) | exact HB.out)))); have n1_ := Aside0.mk (blk_below (g := gb116) (o := .cells #[.string (⟨#[]⟩ : ByteArray), .int .i64 0, .int .i64 0] 25 (0, 0)) (by (with_reducible repeat (first | refine blk_drewN ?_ _ | refine blk_drew ?_ | refine blk_alloc ?_ _)); exact BK116.out) hb); have n2_ := Aside0.mk (below_step (by repeat (first | (with_reducible first | exact HB.out | apply below_alloc | apply pw_below_drewN | apply below_drew1 | refine below_set ?_ GE116.out) | exact HB.out)) hb); clear BK116; clear HB; have HO119 := n0_; have BK116 := n1_; have HB := n2_; clear n0_ n1_ n2_; (try clear hb); (try clear hb2); (try clear hk); (try clear hi); (try clear ho0); obtain ⟨Ao13, co13, eo13⟩ := Kd.R_slice HO119.out; subst eo13; have p120 : 0 ≤ (a0 : Int) := of_decide_eq_true (by first | (with_reducible assumption) | assumption); have q120 : a0 < (t117.length : Int) := of_decide_eq_true (by first | (with_reducible assumption) | assumption); obtain ⟨ad120, e120, hx120_0, hx120_1, hx120_2⟩ := at_T25 (Kd.R_reads' HO119.out).2.2 a0 p120 q120; cases e120; replace p120 := eq_true p120; replace q120 := eq_true q120; have hcz14_0 : w12.cell? ⟨gb116, 0, none⟩ = some (.string (⟨#[]⟩ : ByteArray)) := (blk_cell BK116.out 0).trans rfl; have hcz14_1 : w12.cell? ⟨gb116, 1, none⟩ = some (.int .i64 0) := (blk_cell BK116.out 1).trans rfl; have hcz14_2 : w12.cell? ⟨gb116, 2, none⟩ = some (.int .i64 0) := (blk_cell BK116.out 2).trans rfl; have hfz14_0 := blk_frozen BK116.out 0; have hfz14_1 := blk_frozen BK116.out 1; have hfz14_2 := blk_frozen BK116.out 2))
          refine bodyPost_ret (results_cell_row rfl _ _ gb116 25 #[.string ((rd_T25 t117 a0).f0), .int .i64 ((rd_T25 t117 a0).f1), .int .i64 ((rd_T25 t117 a0).f2)] (0, 0) _ rfl (by (with_reducible repeat (first | refine blk_drewN ?_ _ | refine blk_drew ?_ | refine blk_alloc ?_ _)); refine blk_put (cs := #[.string ((rd_T25 t117 a0).f0), .int .i64 ((rd_T25 t117 a0).f1), .int .i64 0]) ?_ 2 _ rfl; (with_reducible repeat (first | refine blk_drewN ?_ _ | refine blk_drew ?_ | refine blk_alloc ?_ _)); refine blk_put (cs := #[.string ((rd_T25 t117 a0).f0), .int .i64 0, .int .i64 0]) ?_ 1 _ rfl; (with_reducible repeat (first | refine blk_drewN ?_ _ | refine blk_drew ?_ | refine blk_alloc ?_ _)); refine blk_put (cs := #[.string (⟨#[]⟩ : ByteArray), .int .i64 0, .int .i64 0]) ?_ 0 _ rfl; (with_reducible repeat (first | refine blk_drewN ?_ _ | refine blk_drew ?_ | refine blk_alloc ?_ _)); exact BK116.out) Try.underlying25 rfl (by kernel_rfl)) rfl ?_
          exact ⟨by first | rfl | (simp [errW_none, errW_some] <;> rfl) | (simp [*, errW_none, errW_some] <;> rfl), by repeat (first | (with_reducible first | exact HB.out | apply below_alloc | apply pw_below_drewN | apply below_drew1 | refine below_set ?_ GE116.out) | exact HB.out)⟩
        · rw [if_neg c10] at H
          exact absurd H (by simp)
      · rw [if_neg c9] at H
        exact absurd H (by simp)

-- GIVEN: function 12 (impl_Info)

/-! ### laws_eqOpInfo: function 13 -/
def laws_eqOpInfo.f (a0_0 : ByteArray) (a0_1 : Int) (a0_2 : Int) (a1_0 : ByteArray) (a1_1 : Int) (a1_2 : Int) : Option (Bool) := if a0_0.toList = a1_0.toList then (if a0_1 = a1_1 then (if a0_2 = a1_2 then (some true) else (some false)) else (some false)) else (some false)
set_option maxHeartbeats 8000000 in
set_option maxRecDepth 100000 in
theorem laws_eqOpInfo.calls (a0_0 : ByteArray) (a0_1 : Int) (a0_2 : Int) (a1_0 : ByteArray) (a1_1 : Int) (a1_2 : Int) (r : Bool) (w : World) (h : laws_eqOpInfo.f a0_0 a0_1 a0_2 a1_0 a1_1 a1_2 = some r) :
    Calls Try.prog 13 #[.agg #[.string a0_0, .int .i64 a0_1, .int .i64 a0_2], .agg #[.string a1_0, .int .i64 a1_1, .int .i64 a1_2]] w fun e w' => e = .returned (.bool r) ∧ Below w.heap.size w w' := by
  have hu25 := Try.underlying25
  have HB := Aside0.mk (Below.refl w.heap.size w)
  have H : (if a0_0.toList = a1_0.toList then (if a0_1 = a1_1 then (if a0_2 = a1_2 then (some true) else (some false)) else (some false)) else (some false)) = some r := h
  clear h
  by_cases c3 : a0_0.toList = a1_0.toList
  · rw [if_pos c3] at H
    have c3b0 : (a0_0.toList == a1_0.toList) = true := beq_iff_eq.mpr c3
    have c3b1 : (a0_0.toList != a1_0.toList) = false := bne_eq_false_iff_eq.mpr c3
    clear c3
    by_cases c4 : a0_1 = a1_1
    · rw [if_pos c4] at H
      have c4b0 : (a0_1 == a1_1) = true := beq_iff_eq.mpr c4
      have c4b1 : (a0_1 != a1_1) = false := bne_eq_false_iff_eq.mpr c4
      clear c4
      by_cases c5 : a0_2 = a1_2
      · rw [if_pos c5] at H
        have c5b0 : (a0_2 == a1_2) = true := beq_iff_eq.mpr c5
        have c5b1 : (a0_2 != a1_2) = false := bne_eq_false_iff_eq.mpr c5
        clear c5
        obtain rfl := Option.some.inj H
        go_enter Try.func13, Try.ntmps13
        go_wp2_with (first | ((with_reducible refine gate_dst (N := 2) rfl ?_); refine box_event ?hg (N := 2) ?hd (cs := #[.string a0_0, .int .i64 a0_1, .int .i64 a0_2]) (t := 25) ?hr ?_; (case hd => rfl); (case hg => rfl); (case hr => first | (go_simp; done) | (go_simp; rfl)); intro gb121 hg w6 hbox hb; have n0_ := Aside0.mk (below_step (by repeat (first | (with_reducible first | exact HB.out | apply below_alloc | apply pw_below_drewN | apply below_drew1) | exact HB.out)) hb); have n1_ := Aside0.mk (hbox); have n2_ := Aside0.mk ((by rw [hg]; exact (below_size (by repeat (first | (with_reducible first | exact HB.out | apply below_alloc | apply pw_below_drewN | apply below_drew1) | exact HB.out))) : w.heap.size ≤ gb121)); have n3_ := Aside0.mk ((by rw [hg]; exact (below_size (by repeat (first | (with_reducible first | exact HB.out | apply below_alloc | apply pw_below_drewN | apply below_drew1) | exact HB.out))) : w.heap.size ≤ gb121)); clear HB; have HB := n0_; have BK121 := n1_; have GW121 := n2_; have GE121 := n3_; clear n0_ n1_ n2_ n3_; clear hb hbox hg) | ((with_reducible refine gate_dst (N := 3) rfl ?_); refine box_event ?hg (N := 3) ?hd (cs := #[.string a1_0, .int .i64 a1_1, .int .i64 a1_2]) (t := 25) ?hr ?_; (case hd => rfl); (case hg => rfl); (case hr => first | (go_simp; done) | (go_simp; rfl)); intro gb122 hg w7 hbox hb; have n0_ := Aside0.mk (blk_below (g := gb121) (o := .cells #[.string a0_0, .int .i64 a0_1, .int .i64 a0_2] 25 (0, 0)) (by (with_reducible repeat (first | refine blk_drewN ?_ _ | refine blk_drew ?_ | refine blk_alloc ?_ _)); exact BK121.out) hb); have n1_ := Aside0.mk (below_step (by repeat (first | (with_reducible first | exact HB.out | apply below_alloc | apply pw_below_drewN | apply below_drew1 | refine below_set ?_ GE121.out) | exact HB.out)) hb); have n2_ := Aside0.mk (hbox); have n3_ := Aside0.mk ((by rw [hg]; exact (below_size (by repeat (first | (with_reducible first | exact HB.out | apply below_alloc | apply pw_below_drewN | apply below_drew1 | refine below_set ?_ GE121.out) | exact HB.out))) : w.heap.size ≤ gb122)); have n4_ := Aside0.mk ((by rw [hg]; exact (below_size (by repeat (first | (with_reducible first | exact HB.out | apply below_alloc | apply pw_below_drewN | apply below_drew1 | refine below_set ?_ GE121.out) | exact HB.out))) : w.heap.size ≤ gb122)); have n5_ := Aside0.mk ((by rw [hg]; exact Nat.ne_of_lt (blk_lt (g := gb121) (o := .cells #[.string a0_0, .int .i64 a0_1, .int .i64 a0_2] 25 (0, 0)) (by (with_reducible repeat (first | refine blk_drewN ?_ _ | refine blk_drew ?_ | refine blk_alloc ?_ _)); exact BK121.out)) : gb121 ≠ gb122)); have n6_ := Aside0.mk ((by rw [hg]; exact Nat.ne_of_gt (blk_lt (g := gb121) (o := .cells #[.string a0_0, .int .i64 a0_1, .int .i64 a0_2] 25 (0, 0)) (by (with_reducible repeat (first | refine blk_drewN ?_ _ | refine blk_drew ?_ | refine blk_alloc ?_ _)); exact BK121.out)) : gb122 ≠ gb121)); clear BK121; clear HB; have BK121 := n0_; have HB := n1_; have BK122 := n2_; have GW122 := n3_; have GE122 := n4_; have NB121_122 := n5_; have NB122_121 := n6_; clear n0_ n1_ n2_ n3_ n4_ n5_ n6_; clear hb hbox hg; have hnb8 := NB121_122.out; have hnc8 := NB122_121.out; have hcz9_0 : w7.cell? ⟨gb121, 0, none⟩ = some (.string a0_0) := (blk_cell BK121.out 0).trans rfl; have hcz9_1 : w7.cell? ⟨gb121, 1, none⟩ = some (.int .i64 a0_1) := (blk_cell BK121.out 1).trans rfl; have hcz9_2 : w7.cell? ⟨gb121, 2, none⟩ = some (.int .i64 a0_2) := (blk_cell BK121.out 2).trans rfl; have hfz9_0 := blk_frozen BK121.out 0; have hfz9_1 := blk_frozen BK121.out 1; have hfz9_2 := blk_frozen BK121.out 2; have hcz10_0 : w7.cell? ⟨gb122, 0, none⟩ = some (.string a1_0) := (blk_cell BK122.out 0).trans rfl; have hcz10_1 : w7.cell? ⟨gb122, 1, none⟩ = some (.int .i64 a1_1) := (blk_cell BK122.out 1).trans rfl; have hcz10_2 : w7.cell? ⟨gb122, 2, none⟩ = some (.int .i64 a1_2) := (blk_cell BK122.out 2).trans rfl; have hfz10_0 := blk_frozen BK122.out 0; have hfz10_1 := blk_frozen BK122.out 1; have hfz10_2 := blk_frozen BK122.out 2))
        go_ret
        exact ⟨by first | rfl | (simp [errW_none, errW_some] <;> rfl) | (simp [*, errW_none, errW_some] <;> rfl), by repeat (first | (with_reducible first | exact HB.out | apply below_alloc | apply pw_below_drewN | apply below_drew1 | refine below_set ?_ GE121.out | refine below_set ?_ GE122.out) | exact HB.out)⟩
      · rw [if_neg c5] at H
        have c5b0 : (a0_2 == a1_2) = false := beq_eq_false_iff_ne.mpr c5
        have c5b1 : (a0_2 != a1_2) = true := bne_iff_ne.mpr c5
        obtain rfl := Option.some.inj H
        go_enter Try.func13, Try.ntmps13
        go_wp2_with (first | ((with_reducible refine gate_dst (N := 2) rfl ?_); refine box_event ?hg (N := 2) ?hd (cs := #[.string a0_0, .int .i64 a0_1, .int .i64 a0_2]) (t := 25) ?hr ?_; (case hd => rfl); (case hg => rfl); (case hr => first | (go_simp; done) | (go_simp; rfl)); intro gb121 hg w11 hbox hb; have n0_ := Aside0.mk (below_step (by repeat (first | (with_reducible first | exact HB.out | apply below_alloc | apply pw_below_drewN | apply below_drew1) | exact HB.out)) hb); have n1_ := Aside0.mk (hbox); have n2_ := Aside0.mk ((by rw [hg]; exact (below_size (by repeat (first | (with_reducible first | exact HB.out | apply below_alloc | apply pw_below_drewN | apply below_drew1) | exact HB.out))) : w.heap.size ≤ gb121)); have n3_ := Aside0.mk ((by rw [hg]; exact (below_size (by repeat (first | (with_reducible first | exact HB.out | apply below_alloc | apply pw_below_drewN | apply below_drew1) | exact HB.out))) : w.heap.size ≤ gb121)); clear HB; have HB := n0_; have BK121 := n1_; have GW121 := n2_; have GE121 := n3_; clear n0_ n1_ n2_ n3_; clear hb hbox hg) | ((with_reducible refine gate_dst (N := 3) rfl ?_); refine box_event ?hg (N := 3) ?hd (cs := #[.string a1_0, .int .i64 a1_1, .int .i64 a1_2]) (t := 25) ?hr ?_; (case hd => rfl); (case hg => rfl); (case hr => first | (go_simp; done) | (go_simp; rfl)); intro gb122 hg w12 hbox hb; have n0_ := Aside0.mk (blk_below (g := gb121) (o := .cells #[.string a0_0, .int .i64 a0_1, .int .i64 a0_2] 25 (0, 0)) (by (with_reducible repeat (first | refine blk_drewN ?_ _ | refine blk_drew ?_ | refine blk_alloc ?_ _)); exact BK121.out) hb); have n1_ := Aside0.mk (below_step (by repeat (first | (with_reducible first | exact HB.out | apply below_alloc | apply pw_below_drewN | apply below_drew1 | refine below_set ?_ GE121.out) | exact HB.out)) hb); have n2_ := Aside0.mk (hbox); have n3_ := Aside0.mk ((by rw [hg]; exact (below_size (by repeat (first | (with_reducible first | exact HB.out | apply below_alloc | apply pw_below_drewN | apply below_drew1 | refine below_set ?_ GE121.out) | exact HB.out))) : w.heap.size ≤ gb122)); have n4_ := Aside0.mk ((by rw [hg]; exact (below_size (by repeat (first | (with_reducible first | exact HB.out | apply below_alloc | apply pw_below_drewN | apply below_drew1 | refine below_set ?_ GE121.out) | exact HB.out))) : w.heap.size ≤ gb122)); have n5_ := Aside0.mk ((by rw [hg]; exact Nat.ne_of_lt (blk_lt (g := gb121) (o := .cells #[.string a0_0, .int .i64 a0_1, .int .i64 a0_2] 25 (0, 0)) (by (with_reducible repeat (first | refine blk_drewN ?_ _ | refine blk_drew ?_ | refine blk_alloc ?_ _)); exact BK121.out)) : gb121 ≠ gb122)); have n6_ := Aside0.mk ((by rw [hg]; exact Nat.ne_of_gt (blk_lt (g := gb121) (o := .cells #[.string a0_0, .int .i64 a0_1, .int .i64 a0_2] 25 (0, 0)) (by (with_reducible repeat (first | refine blk_drewN ?_ _ | refine blk_drew ?_ | refine blk_alloc ?_ _)); exact BK121.out)) : gb122 ≠ gb121)); clear BK121; clear HB; have BK121 := n0_; have HB := n1_; have BK122 := n2_; have GW122 := n3_; have GE122 := n4_; have NB121_122 := n5_; have NB122_121 := n6_; clear n0_ n1_ n2_ n3_ n4_ n5_ n6_; clear hb hbox hg; have hnb13 := NB121_122.out; have hnc13 := NB122_121.out; have hcz14_0 : w12.cell? ⟨gb121, 0, none⟩ = some (.string a0_0) := (blk_cell BK121.out 0).trans rfl; have hcz14_1 : w12.cell? ⟨gb121, 1, none⟩ = some (.int .i64 a0_1) := (blk_cell BK121.out 1).trans rfl; have hcz14_2 : w12.cell? ⟨gb121, 2, none⟩ = some (.int .i64 a0_2) := (blk_cell BK121.out 2).trans rfl; have hfz14_0 := blk_frozen BK121.out 0; have hfz14_1 := blk_frozen BK121.out 1; have hfz14_2 := blk_frozen BK121.out 2; have hcz15_0 : w12.cell? ⟨gb122, 0, none⟩ = some (.string a1_0) := (blk_cell BK122.out 0).trans rfl; have hcz15_1 : w12.cell? ⟨gb122, 1, none⟩ = some (.int .i64 a1_1) := (blk_cell BK122.out 1).trans rfl; have hcz15_2 : w12.cell? ⟨gb122, 2, none⟩ = some (.int .i64 a1_2) := (blk_cell BK122.out 2).trans rfl; have hfz15_0 := blk_frozen BK122.out 0; have hfz15_1 := blk_frozen BK122.out 1; have hfz15_2 := blk_frozen BK122.out 2))
        go_ret
        exact ⟨by first | rfl | (simp [errW_none, errW_some] <;> rfl) | (simp [*, errW_none, errW_some] <;> rfl), by repeat (first | (with_reducible first | exact HB.out | apply below_alloc | apply pw_below_drewN | apply below_drew1 | refine below_set ?_ GE121.out | refine below_set ?_ GE122.out) | exact HB.out)⟩
    · rw [if_neg c4] at H
      have c4b0 : (a0_1 == a1_1) = false := beq_eq_false_iff_ne.mpr c4
      have c4b1 : (a0_1 != a1_1) = true := bne_iff_ne.mpr c4
      obtain rfl := Option.some.inj H
      go_enter Try.func13, Try.ntmps13
      go_wp2_with (first | ((with_reducible refine gate_dst (N := 2) rfl ?_); refine box_event ?hg (N := 2) ?hd (cs := #[.string a0_0, .int .i64 a0_1, .int .i64 a0_2]) (t := 25) ?hr ?_; (case hd => rfl); (case hg => rfl); (case hr => first | (go_simp; done) | (go_simp; rfl)); intro gb121 hg w16 hbox hb; have n0_ := Aside0.mk (below_step (by repeat (first | (with_reducible first | exact HB.out | apply below_alloc | apply pw_below_drewN | apply below_drew1) | exact HB.out)) hb); have n1_ := Aside0.mk (hbox); have n2_ := Aside0.mk ((by rw [hg]; exact (below_size (by repeat (first | (with_reducible first | exact HB.out | apply below_alloc | apply pw_below_drewN | apply below_drew1) | exact HB.out))) : w.heap.size ≤ gb121)); have n3_ := Aside0.mk ((by rw [hg]; exact (below_size (by repeat (first | (with_reducible first | exact HB.out | apply below_alloc | apply pw_below_drewN | apply below_drew1) | exact HB.out))) : w.heap.size ≤ gb121)); clear HB; have HB := n0_; have BK121 := n1_; have GW121 := n2_; have GE121 := n3_; clear n0_ n1_ n2_ n3_; clear hb hbox hg) | ((with_reducible refine gate_dst (N := 3) rfl ?_); refine box_event ?hg (N := 3) ?hd (cs := #[.string a1_0, .int .i64 a1_1, .int .i64 a1_2]) (t := 25) ?hr ?_; (case hd => rfl); (case hg => rfl); (case hr => first | (go_simp; done) | (go_simp; rfl)); intro gb122 hg w17 hbox hb; have n0_ := Aside0.mk (blk_below (g := gb121) (o := .cells #[.string a0_0, .int .i64 a0_1, .int .i64 a0_2] 25 (0, 0)) (by (with_reducible repeat (first | refine blk_drewN ?_ _ | refine blk_drew ?_ | refine blk_alloc ?_ _)); exact BK121.out) hb); have n1_ := Aside0.mk (below_step (by repeat (first | (with_reducible first | exact HB.out | apply below_alloc | apply pw_below_drewN | apply below_drew1 | refine below_set ?_ GE121.out) | exact HB.out)) hb); have n2_ := Aside0.mk (hbox); have n3_ := Aside0.mk ((by rw [hg]; exact (below_size (by repeat (first | (with_reducible first | exact HB.out | apply below_alloc | apply pw_below_drewN | apply below_drew1 | refine below_set ?_ GE121.out) | exact HB.out))) : w.heap.size ≤ gb122)); have n4_ := Aside0.mk ((by rw [hg]; exact (below_size (by repeat (first | (with_reducible first | exact HB.out | apply below_alloc | apply pw_below_drewN | apply below_drew1 | refine below_set ?_ GE121.out) | exact HB.out))) : w.heap.size ≤ gb122)); have n5_ := Aside0.mk ((by rw [hg]; exact Nat.ne_of_lt (blk_lt (g := gb121) (o := .cells #[.string a0_0, .int .i64 a0_1, .int .i64 a0_2] 25 (0, 0)) (by (with_reducible repeat (first | refine blk_drewN ?_ _ | refine blk_drew ?_ | refine blk_alloc ?_ _)); exact BK121.out)) : gb121 ≠ gb122)); have n6_ := Aside0.mk ((by rw [hg]; exact Nat.ne_of_gt (blk_lt (g := gb121) (o := .cells #[.string a0_0, .int .i64 a0_1, .int .i64 a0_2] 25 (0, 0)) (by (with_reducible repeat (first | refine blk_drewN ?_ _ | refine blk_drew ?_ | refine blk_alloc ?_ _)); exact BK121.out)) : gb122 ≠ gb121)); clear BK121; clear HB; have BK121 := n0_; have HB := n1_; have BK122 := n2_; have GW122 := n3_; have GE122 := n4_; have NB121_122 := n5_; have NB122_121 := n6_; clear n0_ n1_ n2_ n3_ n4_ n5_ n6_; clear hb hbox hg; have hnb18 := NB121_122.out; have hnc18 := NB122_121.out; have hcz19_0 : w17.cell? ⟨gb121, 0, none⟩ = some (.string a0_0) := (blk_cell BK121.out 0).trans rfl; have hcz19_1 : w17.cell? ⟨gb121, 1, none⟩ = some (.int .i64 a0_1) := (blk_cell BK121.out 1).trans rfl; have hcz19_2 : w17.cell? ⟨gb121, 2, none⟩ = some (.int .i64 a0_2) := (blk_cell BK121.out 2).trans rfl; have hfz19_0 := blk_frozen BK121.out 0; have hfz19_1 := blk_frozen BK121.out 1; have hfz19_2 := blk_frozen BK121.out 2; have hcz20_0 : w17.cell? ⟨gb122, 0, none⟩ = some (.string a1_0) := (blk_cell BK122.out 0).trans rfl; have hcz20_1 : w17.cell? ⟨gb122, 1, none⟩ = some (.int .i64 a1_1) := (blk_cell BK122.out 1).trans rfl; have hcz20_2 : w17.cell? ⟨gb122, 2, none⟩ = some (.int .i64 a1_2) := (blk_cell BK122.out 2).trans rfl; have hfz20_0 := blk_frozen BK122.out 0; have hfz20_1 := blk_frozen BK122.out 1; have hfz20_2 := blk_frozen BK122.out 2))
      go_ret
      exact ⟨by first | rfl | (simp [errW_none, errW_some] <;> rfl) | (simp [*, errW_none, errW_some] <;> rfl), by repeat (first | (with_reducible first | exact HB.out | apply below_alloc | apply pw_below_drewN | apply below_drew1 | refine below_set ?_ GE121.out | refine below_set ?_ GE122.out) | exact HB.out)⟩
  · rw [if_neg c3] at H
    have c3b0 : (a0_0.toList == a1_0.toList) = false := beq_eq_false_iff_ne.mpr c3
    have c3b1 : (a0_0.toList != a1_0.toList) = true := bne_iff_ne.mpr c3
    obtain rfl := Option.some.inj H
    go_enter Try.func13, Try.ntmps13
    go_wp2_with (first | ((with_reducible refine gate_dst (N := 2) rfl ?_); refine box_event ?hg (N := 2) ?hd (cs := #[.string a0_0, .int .i64 a0_1, .int .i64 a0_2]) (t := 25) ?hr ?_; (case hd => rfl); (case hg => rfl); (case hr => first | (go_simp; done) | (go_simp; rfl)); intro gb121 hg w21 hbox hb; have n0_ := Aside0.mk (below_step (by repeat (first | (with_reducible first | exact HB.out | apply below_alloc | apply pw_below_drewN | apply below_drew1) | exact HB.out)) hb); have n1_ := Aside0.mk (hbox); have n2_ := Aside0.mk ((by rw [hg]; exact (below_size (by repeat (first | (with_reducible first | exact HB.out | apply below_alloc | apply pw_below_drewN | apply below_drew1) | exact HB.out))) : w.heap.size ≤ gb121)); have n3_ := Aside0.mk ((by rw [hg]; exact (below_size (by repeat (first | (with_reducible first | exact HB.out | apply below_alloc | apply pw_below_drewN | apply below_drew1) | exact HB.out))) : w.heap.size ≤ gb121)); clear HB; have HB := n0_; have BK121 := n1_; have GW121 := n2_; have GE121 := n3_; clear n0_ n1_ n2_ n3_; clear hb hbox hg) | ((with_reducible refine gate_dst (N := 3) rfl ?_); refine box_event ?hg (N := 3) ?hd (cs := #[.string a1_0, .int .i64 a1_1, .int .i64 a1_2]) (t := 25) ?hr ?_; (case hd => rfl); (case hg => rfl); (case hr => first | (go_simp; done) | (go_simp; rfl)); intro gb122 hg w22 hbox hb; have n0_ := Aside0.mk (blk_below (g := gb121) (o := .cells #[.string a0_0, .int .i64 a0_1, .int .i64 a0_2] 25 (0, 0)) (by (with_reducible repeat (first | refine blk_drewN ?_ _ | refine blk_drew ?_ | refine blk_alloc ?_ _)); exact BK121.out) hb); have n1_ := Aside0.mk (below_step (by repeat (first | (with_reducible first | exact HB.out | apply below_alloc | apply pw_below_drewN | apply below_drew1 | refine below_set ?_ GE121.out) | exact HB.out)) hb); have n2_ := Aside0.mk (hbox); have n3_ := Aside0.mk ((by rw [hg]; exact (below_size (by repeat (first | (with_reducible first | exact HB.out | apply below_alloc | apply pw_below_drewN | apply below_drew1 | refine below_set ?_ GE121.out) | exact HB.out))) : w.heap.size ≤ gb122)); have n4_ := Aside0.mk ((by rw [hg]; exact (below_size (by repeat (first | (with_reducible first | exact HB.out | apply below_alloc | apply pw_below_drewN | apply below_drew1 | refine below_set ?_ GE121.out) | exact HB.out))) : w.heap.size ≤ gb122)); have n5_ := Aside0.mk ((by rw [hg]; exact Nat.ne_of_lt (blk_lt (g := gb121) (o := .cells #[.string a0_0, .int .i64 a0_1, .int .i64 a0_2] 25 (0, 0)) (by (with_reducible repeat (first | refine blk_drewN ?_ _ | refine blk_drew ?_ | refine blk_alloc ?_ _)); exact BK121.out)) : gb121 ≠ gb122)); have n6_ := Aside0.mk ((by rw [hg]; exact Nat.ne_of_gt (blk_lt (g := gb121) (o := .cells #[.string a0_0, .int .i64 a0_1, .int .i64 a0_2] 25 (0, 0)) (by (with_reducible repeat (first | refine blk_drewN ?_ _ | refine blk_drew ?_ | refine blk_alloc ?_ _)); exact BK121.out)) : gb122 ≠ gb121)); clear BK121; clear HB; have BK121 := n0_; have HB := n1_; have BK122 := n2_; have GW122 := n3_; have GE122 := n4_; have NB121_122 := n5_; have NB122_121 := n6_; clear n0_ n1_ n2_ n3_ n4_ n5_ n6_; clear hb hbox hg; have hnb23 := NB121_122.out; have hnc23 := NB122_121.out; have hcz24_0 : w22.cell? ⟨gb121, 0, none⟩ = some (.string a0_0) := (blk_cell BK121.out 0).trans rfl; have hcz24_1 : w22.cell? ⟨gb121, 1, none⟩ = some (.int .i64 a0_1) := (blk_cell BK121.out 1).trans rfl; have hcz24_2 : w22.cell? ⟨gb121, 2, none⟩ = some (.int .i64 a0_2) := (blk_cell BK121.out 2).trans rfl; have hfz24_0 := blk_frozen BK121.out 0; have hfz24_1 := blk_frozen BK121.out 1; have hfz24_2 := blk_frozen BK121.out 2; have hcz25_0 : w22.cell? ⟨gb122, 0, none⟩ = some (.string a1_0) := (blk_cell BK122.out 0).trans rfl; have hcz25_1 : w22.cell? ⟨gb122, 1, none⟩ = some (.int .i64 a1_1) := (blk_cell BK122.out 1).trans rfl; have hcz25_2 : w22.cell? ⟨gb122, 2, none⟩ = some (.int .i64 a1_2) := (blk_cell BK122.out 2).trans rfl; have hfz25_0 := blk_frozen BK122.out 0; have hfz25_1 := blk_frozen BK122.out 1; have hfz25_2 := blk_frozen BK122.out 2))
    go_ret
    exact ⟨by first | rfl | (simp [errW_none, errW_some] <;> rfl) | (simp [*, errW_none, errW_some] <;> rfl), by repeat (first | (with_reducible first | exact HB.out | apply below_alloc | apply pw_below_drewN | apply below_drew1 | refine below_set ?_ GE121.out | refine below_set ?_ GE122.out) | exact HB.out)⟩

/-! ### laws_FnExactInfo: function 4 -/
def laws_FnExactInfo.f (a0 : Int) : Option (Bool) := (spec_Info.f a0).bind fun bt123 => ((impl_Info.f a0).bind fun bt127 => ((laws_eqOpInfo.f bt127.1 bt127.2.1 bt127.2.2 bt123.1 bt123.2.1 bt123.2.2).bind fun t131 => (if t131 = true then (some true) else (some false))))
set_option maxHeartbeats 8000000 in
set_option maxRecDepth 100000 in
theorem laws_FnExactInfo.calls (a0 : Int) (r : Bool) (w : World) (h : laws_FnExactInfo.f a0 = some r) :
    Calls Try.prog 4 #[.int .i64 a0] w fun e w' => e = .returned (.bool r) ∧ Below w.heap.size w w' := by
  have hu25 := Try.underlying25
  have HB := Aside0.mk (Below.refl w.heap.size w)
  have H : ((spec_Info.f a0).bind fun bt123 => ((impl_Info.f a0).bind fun bt127 => ((laws_eqOpInfo.f bt127.1 bt127.2.1 bt127.2.2 bt123.1 bt123.2.1 bt123.2.2).bind fun t131 => (if t131 = true then (some true) else (some false))))) = some r := h
  clear h
  replace H := Option.bind_eq_some_iff.mp H
  obtain ⟨⟨t123, t124, t125⟩, A20, H⟩ := H
  replace H : ((impl_Info.f a0).bind fun bt127 => ((laws_eqOpInfo.f bt127.1 bt127.2.1 bt127.2.2 t123 t124 t125).bind fun t131 => (if t131 = true then (some true) else (some false)))) = some r := H
  have A2 := Aside0.mk A20
  clear A20
  replace H := Option.bind_eq_some_iff.mp H
  obtain ⟨⟨t127, t128, t129⟩, A30, H⟩ := H
  replace H : ((laws_eqOpInfo.f t127 t128 t129 t123 t124 t125).bind fun t131 => (if t131 = true then (some true) else (some false))) = some r := H
  have A3 := Aside0.mk A30
  clear A30
  replace H := Option.bind_eq_some_iff.mp H
  obtain ⟨t131, A40, H⟩ := H
  replace H : (if t131 = true then (some true) else (some false)) = some r := H
  have A4 := Aside0.mk A40
  clear A40
  by_cases c5 : t131 = true
  · subst c5
    have H1 : (some true) = some r := by rw [if_pos rfl] at H; exact H
    clear H
    have H := H1
    clear H1
    obtain rfl := Option.some.inj H
    go_enter Try.func4, Try.ntmps4
    go_wp2_with (first | ((with_reducible refine gate_callee (f := 11) rfl ?_); refine goesL_ (some 6) rfl rfl Try.func11 (by kernel_rfl) rfl #[.int .i64 a0] rfl (by (try simp only [List.map_toArray, List.map_cons, List.map_nil]); first | done | rfl | (simp only [List.length_drop, List.length_take]; rfl)) ?_; (with_reducible refine (spec_Info.calls a0 t123 t124 t125 _ A2.out).mono ?_); rintro e w6 ⟨rfl, hb⟩; refine ⟨_, rfl, ?_⟩; have n0_ := Aside0.mk (below_step (by repeat (first | (with_reducible first | exact HB.out | apply below_alloc | apply pw_below_drewN | apply below_drew1) | exact HB.out)) hb); clear HB; have HB := n0_; clear n0_; (try clear hb); (try clear hb2); (try clear hk); (try clear hi)) | ((with_reducible refine gate_dst (N := 3) rfl ?_); refine box_event ?hg (N := 3) ?hd (cs := #[.string (⟨#[]⟩ : ByteArray), .int .i64 0, .int .i64 0]) (t := 25) ?hr ?_; (case hd => rfl); (case hg => rfl); (case hr => first | (go_simp; done) | (go_simp; rfl)); intro gb126 hg w7 hbox hb; have n0_ := Aside0.mk (below_step (by repeat (first | (with_reducible first | exact HB.out | apply below_alloc | apply pw_below_drewN | apply below_drew1) | exact HB.out)) hb); have n1_ := Aside0.mk (hbox); have n2_ := Aside0.mk ((by rw [hg]; exact (below_size (by repeat (first | (with_reducible first | exact HB.out | apply below_alloc | apply pw_below_drewN | apply below_drew1) | exact HB.out))) : w.heap.size ≤ gb126)); have n3_ := Aside0.mk ((by rw [hg]; exact (below_size (by repeat (first | (with_reducible first | exact HB.out | apply below_alloc | apply pw_below_drewN | apply below_drew1) | exact HB.out))) : w.heap.size ≤ gb126)); clear HB; have HB := n0_; have BK126 := n1_; have GW126 := n2_; have GE126 := n3_; clear n0_ n1_ n2_ n3_; clear hb hbox hg; have hcz8_0 : w7.cell? ⟨gb126, 0, none⟩ = some (.string (⟨#[]⟩ : ByteArray)) := (blk_cell BK126.out 0).trans rfl; have hcz8_1 : w7.cell? ⟨gb126, 1, none⟩ = some (.int .i64 0) := (blk_cell BK126.out 1).trans rfl; have hcz8_2 : w7.cell? ⟨gb126, 2, none⟩ = some (.int .i64 0) := (blk_cell BK126.out 2).trans rfl; have hfz8_0 := blk_frozen BK126.out 0; have hfz8_1 := blk_frozen BK126.out 1; have hfz8_2 := blk_frozen BK126.out 2) | ((with_reducible refine gate_callee (f := 12) rfl ?_); refine goesL_ (some 8) rfl rfl Try.func12 (by kernel_rfl) rfl #[.int .i64 a0] rfl (by (try simp only [List.map_toArray, List.map_cons, List.map_nil]); first | done | rfl | (simp only [List.length_drop, List.length_take]; rfl)) ?_; (with_reducible refine (impl_Info.calls a0 t127 t128 t129 _ A3.out).mono ?_); rintro e w9 ⟨rfl, hb⟩; refine ⟨_, rfl, ?_⟩; have n0_ := Aside0.mk (blk_below (g := gb126) (o := .cells #[.string t123, .int .i64 t124, .int .i64 t125] 25 (0, 0)) (by (with_reducible repeat (first | refine blk_drewN ?_ _ | refine blk_drew ?_ | refine blk_alloc ?_ _)); refine blk_put (cs := #[.string t123, .int .i64 t124, .int .i64 0]) ?_ 2 _ rfl; (with_reducible repeat (first | refine blk_drewN ?_ _ | refine blk_drew ?_ | refine blk_alloc ?_ _)); refine blk_put (cs := #[.string t123, .int .i64 0, .int .i64 0]) ?_ 1 _ rfl; (with_reducible repeat (first | refine blk_drewN ?_ _ | refine blk_drew ?_ | refine blk_alloc ?_ _)); refine blk_put (cs := #[.string (⟨#[]⟩ : ByteArray), .int .i64 0, .int .i64 0]) ?_ 0 _ rfl; (with_reducible repeat (first | refine blk_drewN ?_ _ | refine blk_drew ?_ | refine blk_alloc ?_ _)); exact BK126.out) hb); have n1_ := Aside0.mk (below_step (by repeat (first | (with_reducible first | exact HB.out | apply below_alloc | apply pw_below_drewN | apply below_drew1 | refine below_set ?_ GE126.out) | exact HB.out)) hb); clear BK126; clear HB; have BK126 := n0_; have HB := n1_; clear n0_ n1_; (try clear hb); (try clear hb2); (try clear hk); (try clear hi)) | ((with_reducible refine gate_dst (N := 4) rfl ?_); refine box_event ?hg (N := 4) ?hd (cs := #[.string (⟨#[]⟩ : ByteArray), .int .i64 0, .int .i64 0]) (t := 25) ?hr ?_; (case hd => rfl); (case hg => rfl); (case hr => first | (go_simp; done) | (go_simp; rfl)); intro gb130 hg w10 hbox hb; have n0_ := Aside0.mk (blk_below (g := gb126) (o := .cells #[.string t123, .int .i64 t124, .int .i64 t125] 25 (0, 0)) (by (with_reducible repeat (first | refine blk_drewN ?_ _ | refine blk_drew ?_ | refine blk_alloc ?_ _)); exact BK126.out) hb); have n1_ := Aside0.mk (below_step (by repeat (first | (with_reducible first | exact HB.out | apply below_alloc | apply pw_below_drewN | apply below_drew1 | refine below_set ?_ GE126.out) | exact HB.out)) hb); have n2_ := Aside0.mk (hbox); have n3_ := Aside0.mk ((by rw [hg]; exact (below_size (by repeat (first | (with_reducible first | exact HB.out | apply below_alloc | apply pw_below_drewN | apply below_drew1 | refine below_set ?_ GE126.out) | exact HB.out))) : w.heap.size ≤ gb130)); have n4_ := Aside0.mk ((by rw [hg]; exact (below_size (by repeat (first | (with_reducible first | exact HB.out | apply below_alloc | apply pw_below_drewN | apply below_drew1 | refine below_set ?_ GE126.out) | exact HB.out))) : w.heap.size ≤ gb130)); have n5_ := Aside0.mk ((by rw [hg]; exact Nat.ne_of_lt (blk_lt (g := gb126) (o := .cells #[.string t123, .int .i64 t124, .int .i64 t125] 25 (0, 0)) (by (with_reducible repeat (first | refine blk_drewN ?_ _ | refine blk_drew ?_ | refine blk_alloc ?_ _)); exact BK126.out)) : gb126 ≠ gb130)); have n6_ := Aside0.mk ((by rw [hg]; exact Nat.ne_of_gt (blk_lt (g := gb126) (o := .cells #[.string t123, .int .i64 t124, .int .i64 t125] 25 (0, 0)) (by (with_reducible repeat (first | refine blk_drewN ?_ _ | refine blk_drew ?_ | refine blk_alloc ?_ _)); exact BK126.out)) : gb130 ≠ gb126)); clear BK126; clear HB; have BK126 := n0_; have HB := n1_; have BK130 := n2_; have GW130 := n3_; have GE130 := n4_; have NB126_130 := n5_; have NB130_126 := n6_; clear n0_ n1_ n2_ n3_ n4_ n5_ n6_; clear hb hbox hg; have hnb11 := NB130_126.out; have hnc11 := NB126_130.out; have hcz12_0 : w10.cell? ⟨gb130, 0, none⟩ = some (.string (⟨#[]⟩ : ByteArray)) := (blk_cell BK130.out 0).trans rfl; have hcz12_1 : w10.cell? ⟨gb130, 1, none⟩ = some (.int .i64 0) := (blk_cell BK130.out 1).trans rfl; have hcz12_2 : w10.cell? ⟨gb130, 2, none⟩ = some (.int .i64 0) := (blk_cell BK130.out 2).trans rfl; have hfz12_0 := blk_frozen BK130.out 0; have hfz12_1 := blk_frozen BK130.out 1; have hfz12_2 := blk_frozen BK130.out 2; have hcz13_0 : w10.cell? ⟨gb126, 0, none⟩ = some (.string t123) := (blk_cell BK126.out 0).trans rfl; have hcz13_1 : w10.cell? ⟨gb126, 1, none⟩ = some (.int .i64 t124) := (blk_cell BK126.out 1).trans rfl; have hcz13_2 : w10.cell? ⟨gb126, 2, none⟩ = some (.int .i64 t125) := (blk_cell BK126.out 2).trans rfl; have hfz13_0 := blk_frozen BK126.out 0; have hfz13_1 := blk_frozen BK126.out 1; have hfz13_2 := blk_frozen BK126.out 2) | ((with_reducible refine gate_callee (f := 13) rfl ?_); refine goesL_ (some 11) rfl rfl Try.func13 (by kernel_rfl) rfl #[.agg #[.string t127, .int .i64 t128, .int .i64 t129], .agg #[.string t123, .int .i64 t124, .int .i64 t125]] rfl (by (try simp only [List.map_toArray, List.map_cons, List.map_nil]); first | done | rfl | (simp only [List.length_drop, List.length_take]; rfl)) ?_; (with_reducible refine (laws_eqOpInfo.calls t127 t128 t129 t123 t124 t125 true _ A4.out).mono ?_); rintro e w14 ⟨rfl, hb⟩; refine ⟨_, rfl, ?_⟩; have n0_ := Aside0.mk (blk_below (g := gb126) (o := .cells #[.string t123, .int .i64 t124, .int .i64 t125] 25 (0, 0)) (by (with_reducible repeat (first | refine blk_drewN ?_ _ | refine blk_drew ?_ | refine blk_alloc ?_ _)); refine blk_far ?_ NB126_130.out _; (with_reducible repeat (first | refine blk_drewN ?_ _ | refine blk_drew ?_ | refine blk_alloc ?_ _)); refine blk_far ?_ NB126_130.out _; (with_reducible repeat (first | refine blk_drewN ?_ _ | refine blk_drew ?_ | refine blk_alloc ?_ _)); refine blk_far ?_ NB126_130.out _; (with_reducible repeat (first | refine blk_drewN ?_ _ | refine blk_drew ?_ | refine blk_alloc ?_ _)); exact BK126.out) hb); have n1_ := Aside0.mk (blk_below (g := gb130) (o := .cells #[.string t127, .int .i64 t128, .int .i64 t129] 25 (0, 0)) (by (with_reducible repeat (first | refine blk_drewN ?_ _ | refine blk_drew ?_ | refine blk_alloc ?_ _)); refine blk_put (cs := #[.string t127, .int .i64 t128, .int .i64 0]) ?_ 2 _ rfl; (with_reducible repeat (first | refine blk_drewN ?_ _ | refine blk_drew ?_ | refine blk_alloc ?_ _)); refine blk_put (cs := #[.string t127, .int .i64 0, .int .i64 0]) ?_ 1 _ rfl; (with_reducible repeat (first | refine blk_drewN ?_ _ | refine blk_drew ?_ | refine blk_alloc ?_ _)); refine blk_put (cs := #[.string (⟨#[]⟩ : ByteArray), .int .i64 0, .int .i64 0]) ?_ 0 _ rfl; (with_reducible repeat (first | refine blk_drewN ?_ _ | refine blk_drew ?_ | refine blk_alloc ?_ _)); exact BK130.out) hb); have n2_ := Aside0.mk (below_step (by repeat (first | (with_reducible first | exact HB.out | apply below_alloc | apply pw_below_drewN | apply below_drew1 | refine below_set ?_ GE126.out | refine below_set ?_ GE130.out) | exact HB.out)) hb); clear BK126; clear BK130; clear HB; have BK126 := n0_; have BK130 := n1_; have HB := n2_; clear n0_ n1_ n2_; (try clear hb); (try clear hb2); (try clear hk); (try clear hi)))
    go_ret
    exact ⟨by first | rfl | (simp [errW_none, errW_some] <;> rfl) | (simp [*, errW_none, errW_some] <;> rfl), by repeat (first | (with_reducible first | exact HB.out | apply below_alloc | apply pw_below_drewN | apply below_drew1 | refine below_set ?_ GE126.out | refine below_set ?_ GE130.out) | exact HB.out)⟩
  · replace c5 := Bool.eq_false_iff.mpr c5
    subst c5
    have H1 : (some false) = some r := by rw [if_neg (show ¬ (false = true) by decide)] at H; exact H
    clear H
    have H := H1
    clear H1
    obtain rfl := Option.some.inj H
    go_enter Try.func4, Try.ntmps4
    go_wp2_with (first | ((with_reducible refine gate_callee (f := 11) rfl ?_); refine goesL_ (some 6) rfl rfl Try.func11 (by kernel_rfl) rfl #[.int .i64 a0] rfl (by (try simp only [List.map_toArray, List.map_cons, List.map_nil]); first | done | rfl | (simp only [List.length_drop, List.length_take]; rfl)) ?_; (with_reducible refine (spec_Info.calls a0 t123 t124 t125 _ A2.out).mono ?_); rintro e w15 ⟨rfl, hb⟩; refine ⟨_, rfl, ?_⟩; have n0_ := Aside0.mk (below_step (by repeat (first | (with_reducible first | exact HB.out | apply below_alloc | apply pw_below_drewN | apply below_drew1) | exact HB.out)) hb); clear HB; have HB := n0_; clear n0_; (try clear hb); (try clear hb2); (try clear hk); (try clear hi)) | ((with_reducible refine gate_dst (N := 3) rfl ?_); refine box_event ?hg (N := 3) ?hd (cs := #[.string (⟨#[]⟩ : ByteArray), .int .i64 0, .int .i64 0]) (t := 25) ?hr ?_; (case hd => rfl); (case hg => rfl); (case hr => first | (go_simp; done) | (go_simp; rfl)); intro gb126 hg w16 hbox hb; have n0_ := Aside0.mk (below_step (by repeat (first | (with_reducible first | exact HB.out | apply below_alloc | apply pw_below_drewN | apply below_drew1) | exact HB.out)) hb); have n1_ := Aside0.mk (hbox); have n2_ := Aside0.mk ((by rw [hg]; exact (below_size (by repeat (first | (with_reducible first | exact HB.out | apply below_alloc | apply pw_below_drewN | apply below_drew1) | exact HB.out))) : w.heap.size ≤ gb126)); have n3_ := Aside0.mk ((by rw [hg]; exact (below_size (by repeat (first | (with_reducible first | exact HB.out | apply below_alloc | apply pw_below_drewN | apply below_drew1) | exact HB.out))) : w.heap.size ≤ gb126)); clear HB; have HB := n0_; have BK126 := n1_; have GW126 := n2_; have GE126 := n3_; clear n0_ n1_ n2_ n3_; clear hb hbox hg; have hcz17_0 : w16.cell? ⟨gb126, 0, none⟩ = some (.string (⟨#[]⟩ : ByteArray)) := (blk_cell BK126.out 0).trans rfl; have hcz17_1 : w16.cell? ⟨gb126, 1, none⟩ = some (.int .i64 0) := (blk_cell BK126.out 1).trans rfl; have hcz17_2 : w16.cell? ⟨gb126, 2, none⟩ = some (.int .i64 0) := (blk_cell BK126.out 2).trans rfl; have hfz17_0 := blk_frozen BK126.out 0; have hfz17_1 := blk_frozen BK126.out 1; have hfz17_2 := blk_frozen BK126.out 2) | ((with_reducible refine gate_callee (f := 12) rfl ?_); refine goesL_ (some 8) rfl rfl Try.func12 (by kernel_rfl) rfl #[.int .i64 a0] rfl (by (try simp only [List.map_toArray, List.map_cons, List.map_nil]); first | done | rfl | (simp only [List.length_drop, List.length_take]; rfl)) ?_; (with_reducible refine (impl_Info.calls a0 t127 t128 t129 _ A3.out).mono ?_); rintro e w18 ⟨rfl, hb⟩; refine ⟨_, rfl, ?_⟩; have n0_ := Aside0.mk (blk_below (g := gb126) (o := .cells #[.string t123, .int .i64 t124, .int .i64 t125] 25 (0, 0)) (by (with_reducible repeat (first | refine blk_drewN ?_ _ | refine blk_drew ?_ | refine blk_alloc ?_ _)); refine blk_put (cs := #[.string t123, .int .i64 t124, .int .i64 0]) ?_ 2 _ rfl; (with_reducible repeat (first | refine blk_drewN ?_ _ | refine blk_drew ?_ | refine blk_alloc ?_ _)); refine blk_put (cs := #[.string t123, .int .i64 0, .int .i64 0]) ?_ 1 _ rfl; (with_reducible repeat (first | refine blk_drewN ?_ _ | refine blk_drew ?_ | refine blk_alloc ?_ _)); refine blk_put (cs := #[.string (⟨#[]⟩ : ByteArray), .int .i64 0, .int .i64 0]) ?_ 0 _ rfl; (with_reducible repeat (first | refine blk_drewN ?_ _ | refine blk_drew ?_ | refine blk_alloc ?_ _)); exact BK126.out) hb); have n1_ := Aside0.mk (below_step (by repeat (first | (with_reducible first | exact HB.out | apply below_alloc | apply pw_below_drewN | apply below_drew1 | refine below_set ?_ GE126.out) | exact HB.out)) hb); clear BK126; clear HB; have BK126 := n0_; have HB := n1_; clear n0_ n1_; (try clear hb); (try clear hb2); (try clear hk); (try clear hi)) | ((with_reducible refine gate_dst (N := 4) rfl ?_); refine box_event ?hg (N := 4) ?hd (cs := #[.string (⟨#[]⟩ : ByteArray), .int .i64 0, .int .i64 0]) (t := 25) ?hr ?_; (case hd => rfl); (case hg => rfl); (case hr => first | (go_simp; done) | (go_simp; rfl)); intro gb130 hg w19 hbox hb; have n0_ := Aside0.mk (blk_below (g := gb126) (o := .cells #[.string t123, .int .i64 t124, .int .i64 t125] 25 (0, 0)) (by (with_reducible repeat (first | refine blk_drewN ?_ _ | refine blk_drew ?_ | refine blk_alloc ?_ _)); exact BK126.out) hb); have n1_ := Aside0.mk (below_step (by repeat (first | (with_reducible first | exact HB.out | apply below_alloc | apply pw_below_drewN | apply below_drew1 | refine below_set ?_ GE126.out) | exact HB.out)) hb); have n2_ := Aside0.mk (hbox); have n3_ := Aside0.mk ((by rw [hg]; exact (below_size (by repeat (first | (with_reducible first | exact HB.out | apply below_alloc | apply pw_below_drewN | apply below_drew1 | refine below_set ?_ GE126.out) | exact HB.out))) : w.heap.size ≤ gb130)); have n4_ := Aside0.mk ((by rw [hg]; exact (below_size (by repeat (first | (with_reducible first | exact HB.out | apply below_alloc | apply pw_below_drewN | apply below_drew1 | refine below_set ?_ GE126.out) | exact HB.out))) : w.heap.size ≤ gb130)); have n5_ := Aside0.mk ((by rw [hg]; exact Nat.ne_of_lt (blk_lt (g := gb126) (o := .cells #[.string t123, .int .i64 t124, .int .i64 t125] 25 (0, 0)) (by (with_reducible repeat (first | refine blk_drewN ?_ _ | refine blk_drew ?_ | refine blk_alloc ?_ _)); exact BK126.out)) : gb126 ≠ gb130)); have n6_ := Aside0.mk ((by rw [hg]; exact Nat.ne_of_gt (blk_lt (g := gb126) (o := .cells #[.string t123, .int .i64 t124, .int .i64 t125] 25 (0, 0)) (by (with_reducible repeat (first | refine blk_drewN ?_ _ | refine blk_drew ?_ | refine blk_alloc ?_ _)); exact BK126.out)) : gb130 ≠ gb126)); clear BK126; clear HB; have BK126 := n0_; have HB := n1_; have BK130 := n2_; have GW130 := n3_; have GE130 := n4_; have NB126_130 := n5_; have NB130_126 := n6_; clear n0_ n1_ n2_ n3_ n4_ n5_ n6_; clear hb hbox hg; have hnb20 := NB130_126.out; have hnc20 := NB126_130.out; have hcz21_0 : w19.cell? ⟨gb130, 0, none⟩ = some (.string (⟨#[]⟩ : ByteArray)) := (blk_cell BK130.out 0).trans rfl; have hcz21_1 : w19.cell? ⟨gb130, 1, none⟩ = some (.int .i64 0) := (blk_cell BK130.out 1).trans rfl; have hcz21_2 : w19.cell? ⟨gb130, 2, none⟩ = some (.int .i64 0) := (blk_cell BK130.out 2).trans rfl; have hfz21_0 := blk_frozen BK130.out 0; have hfz21_1 := blk_frozen BK130.out 1; have hfz21_2 := blk_frozen BK130.out 2; have hcz22_0 : w19.cell? ⟨gb126, 0, none⟩ = some (.string t123) := (blk_cell BK126.out 0).trans rfl; have hcz22_1 : w19.cell? ⟨gb126, 1, none⟩ = some (.int .i64 t124) := (blk_cell BK126.out 1).trans rfl; have hcz22_2 : w19.cell? ⟨gb126, 2, none⟩ = some (.int .i64 t125) := (blk_cell BK126.out 2).trans rfl; have hfz22_0 := blk_frozen BK126.out 0; have hfz22_1 := blk_frozen BK126.out 1; have hfz22_2 := blk_frozen BK126.out 2) | ((with_reducible refine gate_callee (f := 13) rfl ?_); refine goesL_ (some 11) rfl rfl Try.func13 (by kernel_rfl) rfl #[.agg #[.string t127, .int .i64 t128, .int .i64 t129], .agg #[.string t123, .int .i64 t124, .int .i64 t125]] rfl (by (try simp only [List.map_toArray, List.map_cons, List.map_nil]); first | done | rfl | (simp only [List.length_drop, List.length_take]; rfl)) ?_; (with_reducible refine (laws_eqOpInfo.calls t127 t128 t129 t123 t124 t125 false _ A4.out).mono ?_); rintro e w23 ⟨rfl, hb⟩; refine ⟨_, rfl, ?_⟩; have n0_ := Aside0.mk (blk_below (g := gb126) (o := .cells #[.string t123, .int .i64 t124, .int .i64 t125] 25 (0, 0)) (by (with_reducible repeat (first | refine blk_drewN ?_ _ | refine blk_drew ?_ | refine blk_alloc ?_ _)); refine blk_far ?_ NB126_130.out _; (with_reducible repeat (first | refine blk_drewN ?_ _ | refine blk_drew ?_ | refine blk_alloc ?_ _)); refine blk_far ?_ NB126_130.out _; (with_reducible repeat (first | refine blk_drewN ?_ _ | refine blk_drew ?_ | refine blk_alloc ?_ _)); refine blk_far ?_ NB126_130.out _; (with_reducible repeat (first | refine blk_drewN ?_ _ | refine blk_drew ?_ | refine blk_alloc ?_ _)); exact BK126.out) hb); have n1_ := Aside0.mk (blk_below (g := gb130) (o := .cells #[.string t127, .int .i64 t128, .int .i64 t129] 25 (0, 0)) (by (with_reducible repeat (first | refine blk_drewN ?_ _ | refine blk_drew ?_ | refine blk_alloc ?_ _)); refine blk_put (cs := #[.string t127, .int .i64 t128, .int .i64 0]) ?_ 2 _ rfl; (with_reducible repeat (first | refine blk_drewN ?_ _ | refine blk_drew ?_ | refine blk_alloc ?_ _)); refine blk_put (cs := #[.string t127, .int .i64 0, .int .i64 0]) ?_ 1 _ rfl; (with_reducible repeat (first | refine blk_drewN ?_ _ | refine blk_drew ?_ | refine blk_alloc ?_ _)); refine blk_put (cs := #[.string (⟨#[]⟩ : ByteArray), .int .i64 0, .int .i64 0]) ?_ 0 _ rfl; (with_reducible repeat (first | refine blk_drewN ?_ _ | refine blk_drew ?_ | refine blk_alloc ?_ _)); exact BK130.out) hb); have n2_ := Aside0.mk (below_step (by repeat (first | (with_reducible first | exact HB.out | apply below_alloc | apply pw_below_drewN | apply below_drew1 | refine below_set ?_ GE126.out | refine below_set ?_ GE130.out) | exact HB.out)) hb); clear BK126; clear BK130; clear HB; have BK126 := n0_; have BK130 := n1_; have HB := n2_; clear n0_ n1_ n2_; (try clear hb); (try clear hb2); (try clear hk); (try clear hi)))
    go_ret
    exact ⟨by first | rfl | (simp [errW_none, errW_some] <;> rfl) | (simp [*, errW_none, errW_some] <;> rfl), by repeat (first | (with_reducible first | exact HB.out | apply below_alloc | apply pw_below_drewN | apply below_drew1 | refine below_set ?_ GE126.out | refine below_set ?_ GE130.out) | exact HB.out)⟩

/-- THE ONE PURE STATEMENT of laws_FnExactInfo: yours. -/
def laws_FnExactInfo.Pure : Prop := ∀ (a0 : Int), (Lit.int .i64 a0).wf = true → laws_FnExactInfo.f a0 = some true
theorem laws_FnExactInfo.walk (P : laws_FnExactInfo.Pure) (a0 : Int) (w : World) (w0 : (Lit.int .i64 a0).wf = true) :
    Calls Try.prog 4 #[.int .i64 a0] w fun e w' => e = .returned (.bool true) ∧ Below w.heap.size w w' := by
  have h := P a0 w0
  refine (laws_FnExactInfo.calls a0 true w h).mono ?_
  rintro e w' ⟨rfl, hd⟩
  exact ⟨rfl, hd⟩

-- GIVEN: function 20 (impl_Compute)

/-! ### spec_l2Type: function 77 -/
def spec_l2Type.f (a0 : Int) : Option (Bool) := if a0 ≥ 1 then (some (decide (a0 ≤ 3))) else (some false)
set_option maxHeartbeats 8000000 in
set_option maxRecDepth 100000 in
theorem spec_l2Type.calls (a0 : Int) (r : Bool) (w : World) (h : spec_l2Type.f a0 = some r) :
    Calls Try.prog 77 #[.int .i64 a0] w fun e w' => e = .returned (.bool r) ∧ Drawn0 w w' := by
  have H : (if a0 ≥ 1 then (some (decide (a0 ≤ 3))) else (some false)) = some r := h
  clear h
  by_cases c2 : a0 ≥ 1
  · rw [if_pos c2] at H
    have c2b0 : decide (1 ≤ a0) = true := decide_eq_true c2
    clear c2
    obtain rfl := Option.some.inj H
    go_enter Try.func77, Try.ntmps77
    go_wp2
    go_ret
    exact ⟨by first | rfl | (simp; done) | (simp [*]; done), by repeat (first | exact Drawn0.refl _ | apply Drawn0.step)⟩
  · rw [if_neg c2] at H
    have c2b0 : decide (1 ≤ a0) = false := decide_eq_false c2
    clear c2
    obtain rfl := Option.some.inj H
    go_enter Try.func77, Try.ntmps77
    go_wp2
    go_ret
    exact ⟨by first | rfl | (simp; done) | (simp [*]; done), by repeat (first | exact Drawn0.refl _ | apply Drawn0.step)⟩

/-! ### spec_l2Takes: function 46 -/
def spec_l2Takes.f (a0 : Int) (a1 : Int) : Option (Bool) := if a0 = 5 then (if a1 = 2 then (some true) else (some (a1 == 3))) else (if a0 = 6 then (if a1 = 1 then (some true) else (some (a1 == 3))) else (if a0 = 7 then ((spec_l2Type.f a1).bind fun t132 => (some t132)) else (some false)))
set_option maxHeartbeats 8000000 in
set_option maxRecDepth 100000 in
theorem spec_l2Takes.calls (a0 : Int) (a1 : Int) (r : Bool) (w : World) (h : spec_l2Takes.f a0 a1 = some r) :
    Calls Try.prog 46 #[.int .i64 a0, .int .i64 a1] w fun e w' => e = .returned (.bool r) ∧ Drawn0 w w' := by
  have H : (if a0 = 5 then (if a1 = 2 then (some true) else (some (a1 == 3))) else (if a0 = 6 then (if a1 = 1 then (some true) else (some (a1 == 3))) else (if a0 = 7 then ((spec_l2Type.f a1).bind fun t132 => (some t132)) else (some false)))) = some r := h
  clear h
  by_cases c3 : a0 = 5
  · rw [if_pos c3] at H
    have c3b0 : (a0 == 5) = true := beq_iff_eq.mpr c3
    have c3b1 : (a0 != 5) = false := bne_eq_false_iff_eq.mpr c3
    clear c3
    by_cases c4 : a1 = 2
    · rw [if_pos c4] at H
      have c4b0 : (a1 == 2) = true := beq_iff_eq.mpr c4
      have c4b1 : (a1 != 2) = false := bne_eq_false_iff_eq.mpr c4
      clear c4
      obtain rfl := Option.some.inj H
      go_enter Try.func46, Try.ntmps46
      go_wp2
      go_ret
      exact ⟨by first | rfl | (simp; done) | (simp [*]; done), by repeat (first | exact Drawn0.refl _ | apply Drawn0.step)⟩
    · rw [if_neg c4] at H
      have c4b0 : (a1 == 2) = false := beq_eq_false_iff_ne.mpr c4
      have c4b1 : (a1 != 2) = true := bne_iff_ne.mpr c4
      obtain rfl := Option.some.inj H
      go_enter Try.func46, Try.ntmps46
      go_wp2
      go_ret
      exact ⟨by first | rfl | (simp; done) | (simp [*]; done), by repeat (first | exact Drawn0.refl _ | apply Drawn0.step)⟩
  · rw [if_neg c3] at H
    have c3b0 : (a0 == 5) = false := beq_eq_false_iff_ne.mpr c3
    have c3b1 : (a0 != 5) = true := bne_iff_ne.mpr c3
    by_cases c5 : a0 = 6
    · rw [if_pos c5] at H
      have c5b0 : (a0 == 6) = true := beq_iff_eq.mpr c5
      have c5b1 : (a0 != 6) = false := bne_eq_false_iff_eq.mpr c5
      clear c5
      by_cases c6 : a1 = 1
      · rw [if_pos c6] at H
        have c6b0 : (a1 == 1) = true := beq_iff_eq.mpr c6
        have c6b1 : (a1 != 1) = false := bne_eq_false_iff_eq.mpr c6
        clear c6
        obtain rfl := Option.some.inj H
        go_enter Try.func46, Try.ntmps46
        go_wp2
        go_ret
        exact ⟨by first | rfl | (simp; done) | (simp [*]; done), by repeat (first | exact Drawn0.refl _ | apply Drawn0.step)⟩
      · rw [if_neg c6] at H
        have c6b0 : (a1 == 1) = false := beq_eq_false_iff_ne.mpr c6
        have c6b1 : (a1 != 1) = true := bne_iff_ne.mpr c6
        obtain rfl := Option.some.inj H
        go_enter Try.func46, Try.ntmps46
        go_wp2
        go_ret
        exact ⟨by first | rfl | (simp; done) | (simp [*]; done), by repeat (first | exact Drawn0.refl _ | apply Drawn0.step)⟩
    · rw [if_neg c5] at H
      have c5b0 : (a0 == 6) = false := beq_eq_false_iff_ne.mpr c5
      have c5b1 : (a0 != 6) = true := bne_iff_ne.mpr c5
      by_cases c7 : a0 = 7
      · rw [if_pos c7] at H
        have c7b0 : (a0 == 7) = true := beq_iff_eq.mpr c7
        have c7b1 : (a0 != 7) = false := bne_eq_false_iff_eq.mpr c7
        clear c7
        replace H := Option.bind_eq_some_iff.mp H
        obtain ⟨t132, A80, H⟩ := H
        replace H : (some t132) = some r := H
        have A8 := Aside0.mk A80
        clear A80
        obtain rfl := Option.some.inj H
        go_enter Try.func46, Try.ntmps46
        go_wp2_with (first | ((with_reducible refine gate_callee (f := 77) rfl ?_); refine goesL_ (some 25) rfl rfl Try.func77 (by kernel_rfl) rfl #[.int .i64 a1] rfl (by (try simp only [List.map_toArray, List.map_cons, List.map_nil]); first | done | rfl | (simp only [List.length_drop, List.length_take]; rfl)) ?_; (with_reducible refine (spec_l2Type.calls a1 t132 _ A8.out).mono ?_); rintro e w' ⟨rfl, ⟨nd, rfl⟩⟩; refine ⟨_, rfl, ?_⟩))
        go_ret
        exact ⟨by first | rfl | (simp; done) | (simp [*]; done), by repeat (first | exact Drawn0.refl _ | apply Drawn0.step)⟩
      · rw [if_neg c7] at H
        have c7b0 : (a0 == 7) = false := beq_eq_false_iff_ne.mpr c7
        have c7b1 : (a0 != 7) = true := bne_iff_ne.mpr c7
        obtain rfl := Option.some.inj H
        go_enter Try.func46, Try.ntmps46
        go_wp2
        go_ret
        exact ⟨by first | rfl | (simp; done) | (simp [*]; done), by repeat (first | exact Drawn0.refl _ | apply Drawn0.step)⟩

/-! ### spec_l2Div: function 47 -/
def spec_l2Div.f (a0 : Int) (a1 : Int) (a2 : Int) : Option (Int × Int) := if a2 = 0 then (some (0, 0)) else (if a0 = 3 then (some ((Int.tdiv a1 a2) % 4294967296, Int.tmod a1 a2)) else (if (wrap64 (wrap32 (a2))) = 0 then (none) else (some ((wrap64 (Int.tdiv (wrap64 (wrap32 (a1))) (wrap64 (wrap32 (a2))))) % 4294967296, (Int.tmod (wrap64 (wrap32 (a1))) (wrap64 (wrap32 (a2)))) % 4294967296))))
set_option maxHeartbeats 8000000 in
set_option maxRecDepth 100000 in
theorem spec_l2Div.calls (a0 : Int) (a1 : Int) (a2 : Int) (r1 : Int) (r2 : Int) (w : World) (h : spec_l2Div.f a0 a1 a2 = some (r1, r2)) :
    Calls Try.prog 47 #[.int .i64 a0, .int .u32 a1, .int .u32 a2] w fun e w' => e = .returned (.tuple #[.int .u32 r1, .int .u32 r2]) ∧ Drawn0 w w' := by
  have H : (if a2 = 0 then (some (0, 0)) else (if a0 = 3 then (some ((Int.tdiv a1 a2) % 4294967296, Int.tmod a1 a2)) else (if (wrap64 (wrap32 (a2))) = 0 then (none) else (some ((wrap64 (Int.tdiv (wrap64 (wrap32 (a1))) (wrap64 (wrap32 (a2))))) % 4294967296, (Int.tmod (wrap64 (wrap32 (a1))) (wrap64 (wrap32 (a2)))) % 4294967296))))) = some (r1, r2) := h
  clear h
  by_cases c4 : a2 = 0
  · rw [if_pos c4] at H
    have c4b0 : (a2 == 0) = true := beq_iff_eq.mpr c4
    have c4b1 : (a2 != 0) = false := bne_eq_false_iff_eq.mpr c4
    clear c4
    simp only [Option.some.injEq, Prod.mk.injEq] at H
    obtain ⟨rfl, rfl⟩ := H
    go_enter Try.func47, Try.ntmps47
    go_wp2
    repeat (go_quiet (fail); try go_wp2)
    go_ret2
    exact ⟨by first | rfl | (simp; done) | (simp [*]; done), by repeat (first | exact Drawn0.refl _ | apply Drawn0.step)⟩
  · rw [if_neg c4] at H
    have c4b0 : (a2 == 0) = false := beq_eq_false_iff_ne.mpr c4
    have c4b1 : (a2 != 0) = true := bne_iff_ne.mpr c4
    by_cases c5 : a0 = 3
    · rw [if_pos c5] at H
      have c5b0 : (a0 == 3) = true := beq_iff_eq.mpr c5
      have c5b1 : (a0 != 3) = false := bne_eq_false_iff_eq.mpr c5
      clear c5
      simp only [Option.some.injEq, Prod.mk.injEq] at H
      obtain ⟨rfl, rfl⟩ := H
      go_enter Try.func47, Try.ntmps47
      go_wp2
      repeat (go_quiet (fail); try go_wp2)
      go_ret2
      exact ⟨by first | rfl | (simp; done) | (simp [*]; done), by repeat (first | exact Drawn0.refl _ | apply Drawn0.step)⟩
    · rw [if_neg c5] at H
      have c5b0 : (a0 == 3) = false := beq_eq_false_iff_ne.mpr c5
      have c5b1 : (a0 != 3) = true := bne_iff_ne.mpr c5
      by_cases c6 : (wrap64 (wrap32 (a2))) = 0
      · rw [if_pos c6] at H
        exact absurd H (by simp)
      · rw [if_neg c6] at H
        have c6b0 : ((wrap64 (wrap32 (a2))) == 0) = false := beq_eq_false_iff_ne.mpr c6
        have c6b1 : ((wrap64 (wrap32 (a2))) != 0) = true := bne_iff_ne.mpr c6
        simp only [Option.some.injEq, Prod.mk.injEq] at H
        obtain ⟨rfl, rfl⟩ := H
        go_enter Try.func47, Try.ntmps47
        go_wp2
        repeat (go_quiet (fail); try go_wp2)
        go_ret2
        exact ⟨by first | rfl | (simp; done) | (simp [*]; done), by repeat (first | exact Drawn0.refl _ | apply Drawn0.step)⟩

/-! ### spec_l2Truth: function 48 -/
def spec_l2Truth.f (a0 : Bool) : Option (Int) := if a0 = true then (some 1) else (some 0)
set_option maxHeartbeats 8000000 in
set_option maxRecDepth 100000 in
theorem spec_l2Truth.calls (a0 : Bool) (r : Int) (w : World) (h : spec_l2Truth.f a0 = some r) :
    Calls Try.prog 48 #[.bool a0] w fun e w' => e = .returned (.int .u32 r) ∧ Drawn0 w w' := by
  have H : (if a0 = true then (some 1) else (some 0)) = some r := h
  clear h
  by_cases c2 : a0 = true
  · subst c2
    have H1 : (some 1) = some r := by rw [if_pos rfl] at H; exact H
    clear H
    have H := H1
    clear H1
    obtain rfl := Option.some.inj H
    go_enter Try.func48, Try.ntmps48
    go_wp2
    go_ret
    exact ⟨by first | rfl | (simp; done) | (simp [*]; done), by repeat (first | exact Drawn0.refl _ | apply Drawn0.step)⟩
  · replace c2 := Bool.eq_false_iff.mpr c2
    subst c2
    have H1 : (some 0) = some r := by rw [if_neg (show ¬ (false = true) by decide)] at H; exact H
    clear H
    have H := H1
    clear H1
    obtain rfl := Option.some.inj H
    go_enter Try.func48, Try.ntmps48
    go_wp2
    go_ret
    exact ⟨by first | rfl | (simp; done) | (simp [*]; done), by repeat (first | exact Drawn0.refl _ | apply Drawn0.step)⟩

end Go.Proofs.Ytlnlbncinjiinaa.M
