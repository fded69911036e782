/- Of this session: contracts of functions that the print does not take. -/
import Derived.Test.YtlnlbncinjiinaaM0
import Derived.Laws.EntriesVeiled
namespace Go.Proofs.Ytlnlbncinjiinaa.M
open Go.RowKit Go.Proofs.YtlnlbncinjiinaaW.PrintWords Go.Proofs.YtlnlbncinjiinaaW.PrintLast Go.Proofs.YtlnlbncinjiinaaW.PrintMore
attribute [local go_sem] Go.Proofs.YtlnlbncinjiinaaZ.u32_signed Go.Proofs.YtlnlbncinjiinaaZ.u32_max
set_option linter.unusedVariables false
set_option linter.unusedSimpArgs false
/-! the rows of instructions: what each closure makes -/
theorem plain_calls (s : ByteArray) (c f : Int) (w : World) : Calls Try.prog 58 #[.string s, .int .i64 c, .int .i64 f] w fun e w' => e = .returned (.agg #[.string s, .int .i64 c, .int .i64 f, .nilFunc]) ∧ Below w.heap.size w w' := by
  have HB := Aside0.mk (Below.refl w.heap.size w)
  go_enter Try.func58, Try.ntmps58
  go_wp2
  refine bodyPost_ret (v := .agg #[.string s, .int .i64 c, .int .i64 f, .nilFunc]) (by simp [results, Try.results58, go_sem]) rfl ⟨rfl, ?_⟩
  exact below_alloc HB.out _
theorem row_calls (s : ByteArray) (c f : Int) (g : Fn) (cap : Array Value) (w : World) : Calls Try.prog 59 #[.string s, .int .i64 c, .int .i64 f, .func g #[] cap] w fun e w' => e = .returned (.agg #[.string s, .int .i64 c, .int .i64 f, .func g #[] cap]) ∧ Below w.heap.size w w' := by
  have HB := Aside0.mk (Below.refl w.heap.size w)
  go_enter Try.func59, Try.ntmps59
  go_wp2
  refine bodyPost_ret (v := .agg #[.string s, .int .i64 c, .int .i64 f, .func g #[] cap]) (by simp [results, Try.results59, go_sem]) rfl ⟨rfl, ?_⟩
  exact below_alloc HB.out _
theorem onNum_calls (n : Nat) (w : World) : Calls Try.prog 60 #[.func (.func n) #[] #[]] w fun e w' => e = .returned (.func (.func 79) #[] #[.pointer (some ⟨w.heap.size, 0, none⟩)]) ∧ w' = w.alloc (.cells #[.func (.func n) #[] #[]] 101) := by
  go_enter Try.func60, Try.ntmps60
  go_wp2
  go_ret
  exact ⟨rfl, rfl⟩
theorem onBits_calls (n : Nat) (w : World) : Calls Try.prog 66 #[.func (.func n) #[] #[]] w fun e w' => e = .returned (.func (.func 86) #[] #[.pointer (some ⟨w.heap.size, 0, none⟩)]) ∧ w' = w.alloc (.cells #[.func (.func n) #[] #[]] 101) := by
  go_enter Try.func66, Try.ntmps66
  go_wp2
  go_ret
  exact ⟨rfl, rfl⟩
def opCells (b0 b1 b2 b3 b4 b5 : Nat) : List (List Value) := [[.string (⟨#[110, 111, 112]⟩ : ByteArray), .int .i64 1, .int .i64 0, .nilFunc],
  [.string (⟨#[99, 111, 110, 115, 116]⟩ : ByteArray), .int .i64 1, .int .i64 1, .nilFunc],
  [.string (⟨#[108, 111, 97, 100, 108, 111, 99, 97, 108]⟩ : ByteArray), .int .i64 1, .int .i64 2, .nilFunc],
  [.string (⟨#[115, 116, 111, 114, 101, 108, 111, 99, 97, 108]⟩ : ByteArray), .int .i64 1, .int .i64 2, .nilFunc],
  [.string (⟨#[108, 111, 97, 100]⟩ : ByteArray), .int .i64 2, .int .i64 3, .nilFunc],
  [.string (⟨#[115, 116, 111, 114, 101]⟩ : ByteArray), .int .i64 2, .int .i64 3, .nilFunc],
  [.string (⟨#[108, 111, 97, 100, 97, 116]⟩ : ByteArray), .int .i64 3, .int .i64 4, .nilFunc],
  [.string (⟨#[115, 116, 111, 114, 101, 97, 116]⟩ : ByteArray), .int .i64 3, .int .i64 4, .nilFunc],
  [.string (⟨#[97, 100, 100]⟩ : ByteArray), .int .i64 1, .int .i64 5, .func (.func 79) #[] #[.pointer (some ⟨b0, 0, none⟩)]],
  [.string (⟨#[115, 117, 98]⟩ : ByteArray), .int .i64 1, .int .i64 5, .func (.func 79) #[] #[.pointer (some ⟨b1, 0, none⟩)]],
  [.string (⟨#[109, 117, 108]⟩ : ByteArray), .int .i64 3, .int .i64 5, .func (.func 79) #[] #[.pointer (some ⟨b2, 0, none⟩)]],
  [.string (⟨#[100, 105, 118]⟩ : ByteArray), .int .i64 8, .int .i64 5, .func (.func 64) #[] #[]],
  [.string (⟨#[109, 111, 100]⟩ : ByteArray), .int .i64 8, .int .i64 5, .func (.func 65) #[] #[]],
  [.string (⟨#[97, 110, 100]⟩ : ByteArray), .int .i64 1, .int .i64 6, .func (.func 86) #[] #[.pointer (some ⟨b3, 0, none⟩)]],
  [.string (⟨#[111, 114]⟩ : ByteArray), .int .i64 1, .int .i64 6, .func (.func 86) #[] #[.pointer (some ⟨b4, 0, none⟩)]],
  [.string (⟨#[120, 111, 114]⟩ : ByteArray), .int .i64 1, .int .i64 6, .func (.func 86) #[] #[.pointer (some ⟨b5, 0, none⟩)]],
  [.string (⟨#[110, 111, 116]⟩ : ByteArray), .int .i64 1, .int .i64 6, .func (.func 70) #[] #[]],
  [.string (⟨#[115, 104, 108]⟩ : ByteArray), .int .i64 1, .int .i64 0, .func (.func 71) #[] #[]],
  [.string (⟨#[115, 104, 114]⟩ : ByteArray), .int .i64 1, .int .i64 0, .func (.func 72) #[] #[]],
  [.string (⟨#[110, 101, 103]⟩ : ByteArray), .int .i64 1, .int .i64 0, .func (.func 73) #[] #[]],
  [.string (⟨#[101, 113]⟩ : ByteArray), .int .i64 1, .int .i64 7, .func (.func 74) #[] #[]],
  [.string (⟨#[108, 101, 115, 115]⟩ : ByteArray), .int .i64 1, .int .i64 5, .func (.func 75) #[] #[]],
  [.string (⟨#[99, 111, 110, 118]⟩ : ByteArray), .int .i64 1, .int .i64 8, .nilFunc],
  [.string (⟨#[100, 117, 112]⟩ : ByteArray), .int .i64 1, .int .i64 0, .nilFunc],
  [.string (⟨#[100, 114, 111, 112]⟩ : ByteArray), .int .i64 1, .int .i64 0, .nilFunc],
  [.string (⟨#[106, 117, 109, 112]⟩ : ByteArray), .int .i64 2, .int .i64 9, .nilFunc],
  [.string (⟨#[106, 117, 109, 112, 122, 101, 114, 111]⟩ : ByteArray), .int .i64 2, .int .i64 9, .nilFunc],
  [.string (⟨#[103, 117, 97, 114, 100]⟩ : ByteArray), .int .i64 2, .int .i64 10, .nilFunc],
  [.string (⟨#[99, 97, 108, 108]⟩ : ByteArray), .int .i64 4, .int .i64 11, .nilFunc],
  [.string (⟨#[114, 101, 116, 117, 114, 110]⟩ : ByteArray), .int .i64 2, .int .i64 0, .nilFunc]]
def opArr (b0 b1 b2 b3 b4 b5 : Nat) : Array Value := #[.string (⟨#[110, 111, 112]⟩ : ByteArray), .int .i64 1, .int .i64 0, .nilFunc,
  .string (⟨#[99, 111, 110, 115, 116]⟩ : ByteArray), .int .i64 1, .int .i64 1, .nilFunc,
  .string (⟨#[108, 111, 97, 100, 108, 111, 99, 97, 108]⟩ : ByteArray), .int .i64 1, .int .i64 2, .nilFunc,
  .string (⟨#[115, 116, 111, 114, 101, 108, 111, 99, 97, 108]⟩ : ByteArray), .int .i64 1, .int .i64 2, .nilFunc,
  .string (⟨#[108, 111, 97, 100]⟩ : ByteArray), .int .i64 2, .int .i64 3, .nilFunc,
  .string (⟨#[115, 116, 111, 114, 101]⟩ : ByteArray), .int .i64 2, .int .i64 3, .nilFunc,
  .string (⟨#[108, 111, 97, 100, 97, 116]⟩ : ByteArray), .int .i64 3, .int .i64 4, .nilFunc,
  .string (⟨#[115, 116, 111, 114, 101, 97, 116]⟩ : ByteArray), .int .i64 3, .int .i64 4, .nilFunc,
  .string (⟨#[97, 100, 100]⟩ : ByteArray), .int .i64 1, .int .i64 5, .func (.func 79) #[] #[.pointer (some ⟨b0, 0, none⟩)],
  .string (⟨#[115, 117, 98]⟩ : ByteArray), .int .i64 1, .int .i64 5, .func (.func 79) #[] #[.pointer (some ⟨b1, 0, none⟩)],
  .string (⟨#[109, 117, 108]⟩ : ByteArray), .int .i64 3, .int .i64 5, .func (.func 79) #[] #[.pointer (some ⟨b2, 0, none⟩)],
  .string (⟨#[100, 105, 118]⟩ : ByteArray), .int .i64 8, .int .i64 5, .func (.func 64) #[] #[],
  .string (⟨#[109, 111, 100]⟩ : ByteArray), .int .i64 8, .int .i64 5, .func (.func 65) #[] #[],
  .string (⟨#[97, 110, 100]⟩ : ByteArray), .int .i64 1, .int .i64 6, .func (.func 86) #[] #[.pointer (some ⟨b3, 0, none⟩)],
  .string (⟨#[111, 114]⟩ : ByteArray), .int .i64 1, .int .i64 6, .func (.func 86) #[] #[.pointer (some ⟨b4, 0, none⟩)],
  .string (⟨#[120, 111, 114]⟩ : ByteArray), .int .i64 1, .int .i64 6, .func (.func 86) #[] #[.pointer (some ⟨b5, 0, none⟩)],
  .string (⟨#[110, 111, 116]⟩ : ByteArray), .int .i64 1, .int .i64 6, .func (.func 70) #[] #[],
  .string (⟨#[115, 104, 108]⟩ : ByteArray), .int .i64 1, .int .i64 0, .func (.func 71) #[] #[],
  .string (⟨#[115, 104, 114]⟩ : ByteArray), .int .i64 1, .int .i64 0, .func (.func 72) #[] #[],
  .string (⟨#[110, 101, 103]⟩ : ByteArray), .int .i64 1, .int .i64 0, .func (.func 73) #[] #[],
  .string (⟨#[101, 113]⟩ : ByteArray), .int .i64 1, .int .i64 7, .func (.func 74) #[] #[],
  .string (⟨#[108, 101, 115, 115]⟩ : ByteArray), .int .i64 1, .int .i64 5, .func (.func 75) #[] #[],
  .string (⟨#[99, 111, 110, 118]⟩ : ByteArray), .int .i64 1, .int .i64 8, .nilFunc,
  .string (⟨#[100, 117, 112]⟩ : ByteArray), .int .i64 1, .int .i64 0, .nilFunc,
  .string (⟨#[100, 114, 111, 112]⟩ : ByteArray), .int .i64 1, .int .i64 0, .nilFunc,
  .string (⟨#[106, 117, 109, 112]⟩ : ByteArray), .int .i64 2, .int .i64 9, .nilFunc,
  .string (⟨#[106, 117, 109, 112, 122, 101, 114, 111]⟩ : ByteArray), .int .i64 2, .int .i64 9, .nilFunc,
  .string (⟨#[103, 117, 97, 114, 100]⟩ : ByteArray), .int .i64 2, .int .i64 10, .nilFunc,
  .string (⟨#[99, 97, 108, 108]⟩ : ByteArray), .int .i64 4, .int .i64 11, .nilFunc,
  .string (⟨#[114, 101, 116, 117, 114, 110]⟩ : ByteArray), .int .i64 2, .int .i64 0, .nilFunc]
/-- blocks of one cell that hold a function -/
def BoxInv (w : World) (L : List (Nat × Nat)) : Prop := ∀ x ∈ L, w.heap[x.1]? = some (.cells #[.func (.func x.2) #[] #[]] 101 (0, 0))
theorem BoxInv.nil (w : World) : BoxInv w [] := fun x hx => by cases hx
theorem BoxInv.below {w w1 : World} {L : List (Nat × Nat)} (h : BoxInv w L) (hb : Below w.heap.size w w1) : BoxInv w1 L := fun x hx => (hb.block _ (blk_lt (h x hx))).trans (h x hx)
theorem BoxInv.add {w : World} {L : List (Nat × Nat)} (h : BoxInv w L) (n : Nat) : BoxInv (w.alloc (.cells #[.func (.func n) #[] #[]] 101)) ((w.heap.size, n) :: L) := by
  intro x hx
  rcases List.mem_cons.1 hx with rfl | hx
  · exact heap_alloc_new _ _
  · exact (h.below (below_alloc (Below.refl _ _) _)) x hx
theorem box_step {w w1 : World} {n : Nat} {L : List (Nat × Nat)} (hw : w1 = w.alloc (.cells #[.func (.func n) #[] #[]] 101)) (h : BoxInv w L) : BoxInv w1 ((w.heap.size, n) :: L) := by rw [hw]; exact h.add n
theorem box_below {w0 w w1 : World} {o : Obj} (hw : w1 = w.alloc o) (h : Below w0.heap.size w0 w) : Below w0.heap.size w0 w1 := by rw [hw]; exact below_alloc h o
set_option maxHeartbeats 4000000 in
set_option maxRecDepth 100000 in
theorem opRows_calls (w : World) : Calls Try.prog 33 #[] w fun e w' => ∃ g b0 b1 b2 b3 b4 b5 : Nat, e = .returned (.slice (some ⟨g, 0, none⟩) 30 30) ∧ w'.heap[g]? = some (.cells (opArr b0 b1 b2 b3 b4 b5) 62 (0, 0)) ∧ BoxInv w' [(b5, 69), (b4, 68), (b3, 67), (b2, 63), (b1, 62), (b0, 61)] ∧ Below w.heap.size w w' := by
  have HB := Aside0.mk (Below.refl w.heap.size w)
  have HI := Aside0.mk (BoxInv.nil w)
  go_enter Try.func33, Try.ntmps33
  go_wp2_with (first | (go_at_call 58; refine (plain_calls _ _ _ _).mono ?_; rintro e w' ⟨rfl, hb⟩; have n_ := Aside0.mk (below_step HB.out hb); have m_ := Aside0.mk (HI.out.below hb); clear HB HI hb; have HB := n_; have HI := m_; clear n_ m_) | (go_at_call 59; refine (row_calls _ _ _ _ _ _).mono ?_; rintro e w' ⟨rfl, hb⟩; have n_ := Aside0.mk (below_step HB.out hb); have m_ := Aside0.mk (HI.out.below hb); clear HB HI hb; have HB := n_; have HI := m_; clear n_ m_) | (go_at_call 60; refine (onNum_calls _ _).mono ?_; rintro e w' ⟨rfl, hw⟩; have n_ := Aside0.mk (box_below hw HB.out); have m_ := Aside0.mk (box_step hw HI.out); clear HB HI hw; have HB := n_; have HI := m_; clear n_ m_) | (go_at_call 66; refine (onBits_calls _ _).mono ?_; rintro e w' ⟨rfl, hw⟩; have n_ := Aside0.mk (box_below hw HB.out); have m_ := Aside0.mk (box_step hw HI.out); clear HB HI hw; have HB := n_; have HI := m_; clear n_ m_))
  go_ret
  exact ⟨_, _, _, _, _, _, _, rfl, heap_alloc_new _ _, HI.out.below (below_alloc (Below.refl _ _) _), below_alloc HB.out _⟩
end Go.Proofs.Ytlnlbncinjiinaa.M
