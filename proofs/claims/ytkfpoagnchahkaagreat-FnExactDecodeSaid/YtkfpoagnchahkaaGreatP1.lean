/- Of this session: over the abstract machine. -/
import Derived.Test.YtkfpoagnchahkaaGreatProg
import Derived.Test.YtkfpoagnchahkaaGreatA
import Derived.Test.YtkfpoagnchahkaaGreatB
import Derived.Test.YtkfpoagnchahkaaGreatD
import Derived.Test.YtkfpoagnchahkaaGreatT
namespace Go.Proofs.YtkfpoagnchahkaaGreat.A
open Go Go.RowKit
set_option linter.unusedVariables false
set_option linter.unusedSimpArgs false
set_option maxRecDepth 100000
set_option maxHeartbeats 1000000
/-! ### instructions' table -/
def isTy (t : Int) : Bool := decide (1 ≤ t ∧ t ≤ 3)
def formL : List Int := [0,1,2,2,3,3,4,4,5,5,5,5,5,6,6,6,6,0,0,0,7,5,8,0,0,9,9,10,11,0]
def costL : List Int := [1,1,1,1,2,2,3,3,1,1,3,8,8,1,1,1,1,1,1,1,1,1,1,1,1,2,2,2,4,2]
def nameL : List (List UInt8) := [[110, 111, 112], [99, 111, 110, 115, 116], [108, 111, 97, 100, 108, 111, 99, 97, 108], [115, 116, 111, 114, 101, 108, 111, 99, 97, 108], [108, 111, 97, 100], [115, 116, 111, 114, 101], [108, 111, 97, 100, 97, 116], [115, 116, 111, 114, 101, 97, 116], [97, 100, 100], [115, 117, 98], [109, 117, 108], [100, 105, 118], [109, 111, 100], [97, 110, 100], [111, 114], [120, 111, 114], [110, 111, 116], [115, 104, 108], [115, 104, 114], [110, 101, 103], [101, 113], [108, 101, 115, 115], [99, 111, 110, 118], [100, 117, 112], [100, 114, 111, 112], [106, 117, 109, 112], [106, 117, 109, 112, 122, 101, 114, 111], [103, 117, 97, 114, 100], [99, 97, 108, 108], [114, 101, 116, 117, 114, 110]]
def formOf (op : Int) : Int := if 0 ≤ op ∧ op ≤ 29 then formL.getD op.toNat 0 else 0
def costOf (op : Int) : Int := if 0 ≤ op ∧ op ≤ 29 then costL.getD op.toNat 0 else 0
def nameOf (op : Int) : ByteArray := if 0 ≤ op ∧ op ≤ 29 then ⟨(nameL.getD op.toNat []).toArray⟩ else ⟨#[]⟩
def encInfo (op : Int) : AVal := .agg [.v (.string (nameOf op)), i64 (costOf op), i64 (formOf op)]
@[simp] theorem encInfo_flat (op : Int) : (encInfo op).flat = [.v (.string (nameOf op)), i64 (costOf op), i64 (formOf op)] := rfl
@[simp] theorem encInfo_agg (op : Int) : (encInfo op).isAgg = true := rfl
def infoRows : List AVal := (List.range 30).map fun n : Nat => encInfo (n : Int)
theorem infoRows_get {op : Int} (h0 : 0 ≤ op) (h1 : op ≤ 29) : infoRows[op.toNat]? = some (encInfo op) := by
  unfold infoRows
  rw [List.getElem?_map, List.getElem?_range (by omega)]
  simp [Int.toNat_of_nonneg h0]
theorem S_specInfos {h : AHeap} {Q : KA} (hq : Q (.sl infoRows) h) : @clM Tryz.prog 139 [] h ⟨Q⟩ := by
  refine cl_of fn_spec_l2Infos (D_spec_l2Infos_of ?_)
  unfold D_spec_l2Infos
  simp [↓go]
  intro g1
  refine wk_of (Wk.fzL (p := 0) rfl (l' := []) trivial (Wk.refl ?_))
  simp [frz]
  refine Eq.mp (congrArg (fun z => Q (.sl z) h) ?_) hq
  kernel_rfl
theorem S_specInfo {op : Int} {h : AHeap} {Q : KA} (hq : Q (encInfo op) h) : @clM Tryz.prog 119 [i64 op] h ⟨Q⟩ := by
  refine cl_of fn_spec_Info (D_spec_Info_of ?_)
  unfold D_spec_Info
  simp [↓go]
  intro g1
  refine jn_cut (fun s h' => h' = h ++ [.row g1 3 [.agg [.v (.string ⟨#[]⟩), i64 0, i64 0]]] ∧ s = [.pt h.length g1 0 0, i64 op, bl (!decide (0 ≤ op ∧ op ≤ 29))]) ?_ ?_
  · simp [↓go]
    refine ⟨fun h1 => ?_, fun h1 => ?_⟩
    all_goals (refine wk_ex ?_; simp; try omega)
    rw [Bool.eq_iff_iff]; simp; omega
  rintro _ _ ⟨rfl, rfl⟩
  simp [↓go]
  refine ⟨fun hb => ?_, fun h0 h1 => ?_⟩
  · refine wk_of (Wk.drop (Wk.refl ?_))
    have hn : ¬ (0 ≤ op ∧ op ≤ 29) := by omega
    have e : encInfo op = .agg [.v (.string ⟨#[]⟩), i64 0, i64 0] := by unfold encInfo nameOf costOf formOf; rw [if_neg hn, if_neg hn, if_neg hn]
    rw [e] at hq; exact hq
  · refine S_specInfos ?_
    have hg := infoRows_get h0 h1
    have hl : infoRows.length = 30 := by kernel_rfl
    simp [↓go, hg, hl]
    refine ⟨by omega, by omega, ?_⟩
    refine wk_of (Wk.drop (Wk.refl ?_))
    exact hq
theorem S_plain {s : ByteArray} {c f : Int} {h : AHeap} {Q : KA} (hq : Q (.agg [.v (.string s), i64 c, i64 f, .v .nilFunc]) h) : @clM Tryz.prog 147 [.v (.string s), i64 c, i64 f] h ⟨Q⟩ := by
  refine cl_of fn_impl_opRows_1 (D_impl_opRows_1_of ?_)
  unfold D_impl_opRows_1
  simp [↓go]
  intro g1
  refine wk_of (Wk.drop (Wk.refl ?_))
  exact hq
theorem S_row {s : ByteArray} {c f : Int} {g : FuncId} {m l : List AVal} {h : AHeap} {Q : KA} (hq : Q (.agg [.v (.string s), i64 c, i64 f, .fn g m l]) h) : @clM Tryz.prog 148 [.v (.string s), i64 c, i64 f, .fn g m l] h ⟨Q⟩ := by
  refine cl_of fn_impl_opRows_2 (D_impl_opRows_2_of ?_)
  unfold D_impl_opRows_2
  simp [↓go]
  intro g1
  refine wk_of (Wk.drop (Wk.refl ?_))
  exact hq
theorem S_onNumbers {g : FuncId} {h : AHeap} {Q : KA} (hq : Q (.fn 165 [] [.fp (.fn g [] [])]) h) : @clM Tryz.prog 149 [.fn g [] []] h ⟨Q⟩ := by
  refine cl_of fn_impl_onNumbers (D_impl_onNumbers_of ?_)
  unfold D_impl_onNumbers
  simp [↓go]
  exact retW_ex hq
theorem S_onBits {g : FuncId} {h : AHeap} {Q : KA} (hq : Q (.fn 171 [] [.fp (.fn g [] [])]) h) : @clM Tryz.prog 155 [.fn g [] []] h ⟨Q⟩ := by
  refine cl_of fn_impl_onBits (D_impl_onBits_of ?_)
  unfold D_impl_onBits
  simp [↓go]
  exact retW_ex hq
/-- the functions of the table -/
def rowFn (n : Nat) : AVal := ([] ++ List.replicate 8 (.v .nilFunc) ++ [.fn 165 [] [.fp (.fn 150 [] [])], .fn 165 [] [.fp (.fn 151 [] [])], .fn 165 [] [.fp (.fn 152 [] [])], .fn 153 [] [], .fn 154 [] [],
  .fn 171 [] [.fp (.fn 156 [] [])], .fn 171 [] [.fp (.fn 157 [] [])], .fn 171 [] [.fp (.fn 158 [] [])], .fn 159 [] [], .fn 160 [] [], .fn 161 [] [], .fn 162 [] [], .fn 163 [] [], .fn 164 [] []] : List AVal).getD n (.v .nilFunc)
def opRow (n : Nat) : AVal := .agg [.v (.string (nameOf n)), i64 (costOf n), i64 (formOf n), rowFn n]
def opRowsL : List AVal := (List.range 30).map opRow
@[simp] theorem opRow_flat (n : Nat) : (opRow n).flat = [.v (.string (nameOf n)), i64 (costOf n), i64 (formOf n), rowFn n] := rfl
@[simp] theorem opRow_agg (n : Nat) : (opRow n).isAgg = true := rfl
theorem opRows_get {op : Int} (h0 : 0 ≤ op) (h1 : op ≤ 29) : opRowsL[op.toNat]? = some (opRow op.toNat) := by
  unfold opRowsL
  rw [List.getElem?_map, List.getElem?_range (by omega)]; rfl
theorem S_opRows {h : AHeap} {Q : KA} (hq : Q (.sl opRowsL) h) : @clM Tryz.prog 146 [] h ⟨Q⟩ := by
  refine cl_of fn_impl_opRows (D_impl_opRows_of ?_)
  unfold D_impl_opRows
  repeat (first | refine S_plain ?_ | refine S_row ?_ | refine S_onNumbers ?_ | refine S_onBits ?_)
  simp [↓go]
  intro g1
  refine wk_of (Wk.fzL (p := 0) rfl (l' := []) trivial (Wk.refl ?_))
  simp [frz]
  refine Eq.mp (congrArg (fun z => Q (.sl z) h) ?_) hq
  kernel_rfl
theorem S_implInfo {op : Int} {h : AHeap} {Q : KA} (hq : Q (encInfo op) h) : @clM Tryz.prog 141 [i64 op] h ⟨Q⟩ := by
  refine cl_of fn_impl_Info (D_impl_Info_of ?_)
  unfold D_impl_Info
  simp [↓go]
  intro g1
  refine jn_cut (fun s h' => h' = h ++ [.row g1 3 [.agg [.v (.string ⟨#[]⟩), i64 0, i64 0]]] ∧ s = [.pt h.length g1 0 0, i64 op, bl (!decide (0 ≤ op ∧ op ≤ 29))]) ?_ ?_
  · simp [↓go]
    refine ⟨fun h1 => ?_, fun h1 => ?_⟩
    all_goals (refine wk_ex ?_; simp; try omega)
    rw [Bool.eq_iff_iff]; simp; omega
  rintro _ _ ⟨rfl, rfl⟩
  simp [↓go]
  refine ⟨fun hb => ?_, fun h0 h1 => ?_⟩
  · refine wk_of (Wk.drop (Wk.refl ?_))
    have hn : ¬ (0 ≤ op ∧ op ≤ 29) := by omega
    have e : encInfo op = .agg [.v (.string ⟨#[]⟩), i64 0, i64 0] := by unfold encInfo nameOf costOf formOf; rw [if_neg hn, if_neg hn, if_neg hn]
    rw [e] at hq; exact hq
  · refine S_opRows ?_
    have hg := opRows_get h0 h1
    have hl : opRowsL.length = 30 := by kernel_rfl
    simp [↓go, hg, hl]
    refine ⟨by omega, by omega, ?_⟩
    refine wk_of (Wk.drop (Wk.refl ?_))
    rw [show max op 0 = op by omega]
    exact hq
/-! ### what is asked of a program -/
def allN : Nat → (Nat → Bool) → Bool
  | 0, _ => true
  | n + 1, P => allN n P && P n
theorem allN_succ (n : Nat) (P : Nat → Bool) : allN (n + 1) P = (allN n P && P n) := rfl
theorem allN_iff {P : Nat → Bool} : ∀ {n : Nat}, allN n P = true ↔ ∀ i, i < n → P i = true
  | 0 => ⟨fun _ i h => by omega, fun _ => rfl⟩
  | n + 1 => by
    rw [allN_succ, Bool.and_eq_true, allN_iff (n := n)]
    constructor
    · rintro ⟨h1, h2⟩ i hi
      rcases Nat.lt_succ_iff_lt_or_eq.1 hi with h | rfl
      · exact h1 i h
      · exact h2
    · exact fun h => ⟨fun i hi => h i (by omega), h n (by omega)⟩
theorem allN_false {P : Nat → Bool} {n i : Nat} (hi : i < n) (h : P i = false) : allN n P = false := by
  cases hq : allN n P with
  | false => rfl
  | true => have := allN_iff.1 hq i hi; rw [h] at this; cases this
theorem allN_step {P : Nat → Bool} {n : Nat} (h1 : allN n P = true) (h2 : P n = true) : allN (n + 1) P = true := by rw [allN_succ, h1, h2]; rfl
def allTy (l : List Int) : Bool := allN l.length (fun i => isTy (l.getD i 0))
theorem getD_of {α : Type} {l : List α} {i : Nat} {x d : α} (h : l[i]? = some x) : l.getD i d = x := by rw [List.getD_eq_getElem?_getD, h]; rfl
theorem S_l2Type {t : Int} {h : AHeap} {Q : KA} (hq : Q (bl (isTy t)) h) : @clM Tryz.prog 118 [i64 t] h ⟨Q⟩ := by
  refine cl_of fn_spec_l2Type (D_spec_l2Type_of ?_)
  unfold D_spec_l2Type
  refine jn_ex ?_
  simp [↓go]
  repeat' (first | apply And.intro | intro _)
  all_goals (refine wk_ret (bl_dec hq ?_); simp; try omega)
theorem S_isType {t : Int} {h : AHeap} {Q : KA} (hq : Q (bl (isTy t)) h) : @clM Tryz.prog 126 [i64 t] h ⟨Q⟩ := by
  refine cl_of fn_impl_isType (D_impl_isType_of ?_)
  unfold D_impl_isType
  refine jn_ex ?_
  simp [↓go]
  repeat' (first | apply And.intro | intro _)
  all_goals (refine wk_ret (bl_dec hq ?_); simp; try omega)
def isNum (t : Int) : Bool := decide (t = 2 ∨ t = 3)
def isBit (t : Int) : Bool := decide (t = 1 ∨ t = 3)
theorem S_isNumber {t : Int} {h : AHeap} {Q : KA} (hq : Q (bl (isNum t)) h) : @clM Tryz.prog 143 [i64 t] h ⟨Q⟩ := by
  refine cl_of fn_impl_isNumber (D_impl_isNumber_of ?_)
  unfold D_impl_isNumber
  refine jn_ex ?_
  simp [↓go]
  repeat' (first | apply And.intro | intro _)
  all_goals (refine wk_ret (bl_dec hq ?_); simp; try omega)
theorem S_isBits {t : Int} {h : AHeap} {Q : KA} (hq : Q (bl (isBit t)) h) : @clM Tryz.prog 144 [i64 t] h ⟨Q⟩ := by
  refine cl_of fn_impl_isBits (D_impl_isBits_of ?_)
  unfold D_impl_isBits
  refine jn_ex ?_
  simp [↓go]
  repeat' (first | apply And.intro | intro _)
  all_goals (refine wk_ret (bl_dec hq ?_); simp; try omega)
def takes (form t : Int) : Bool := if form = 5 then isNum t else if form = 6 then isBit t else if form = 7 then isTy t else false
theorem S_l2Takes {fm t : Int} {h : AHeap} {Q : KA} (hq : Q (bl (takes fm t)) h) : @clM Tryz.prog 123 [i64 fm, i64 t] h ⟨Q⟩ := by
  refine cl_of fn_spec_l2Takes (D_spec_l2Takes_of ?_)
  unfold D_spec_l2Takes
  unfold takes at hq
  simp [↓go]
  refine ⟨fun h5 => jn_ex ?_, fun h5 => ⟨fun h6 => jn_ex ?_, fun h6 => ⟨fun h7 => jn_ex ?_, fun h7 => jn_ex ?_⟩⟩⟩
  · rw [if_pos h5] at hq
    simp [↓go]
    repeat' (first | apply And.intro | intro _)
    all_goals (refine wk_ret (bl_dec hq ?_); simp; try omega)
  · rw [if_neg h5, if_pos h6] at hq
    simp [↓go]
    repeat' (first | apply And.intro | intro _)
    all_goals (refine wk_ret (bl_dec hq ?_); simp; try omega)
  · rw [if_neg h5, if_neg h6, if_pos h7] at hq
    exact S_l2Type (wk_ret hq)
  · rw [if_neg h5, if_neg h6, if_neg h7] at hq
    exact wk_ret hq
theorem S_below {n c : Int} {h : AHeap} {Q : KA} (hq : Q (bl (decide (0 ≤ n ∧ n < c))) h) : @clM Tryz.prog 129 [i64 n, i64 c] h ⟨Q⟩ := by
  refine cl_of fn_impl_below (D_impl_below_of ?_)
  unfold D_impl_below
  refine jn_ex ?_
  simp [↓go]
  repeat' (first | apply And.intro | intro _)
  all_goals (refine wk_ret (bl_dec hq ?_); simp; try omega)
theorem S_l3Types {xs : List Int} {h : AHeap} {Q : KA} (hs : xs.length ≤ 1048576) (hq : Q (bl (allTy xs)) h) : @clM Tryz.prog 79 [encL i64 xs] h ⟨Q⟩ := by
  refine cl_of fn_spec_l3Types (D_spec_l3Types_of ?_)
  unfold D_spec_l3Types
  refine lp_inv (fun s h' => h = h' ∧ ∃ i : Nat, i ≤ xs.length ∧ allN i (fun i => isTy (xs.getD i 0)) = true ∧ s = [i64 i, encL i64 xs]) (fun s _ => xs.length - natA (nthA s 0)) (Wk.refl ⟨rfl, 0, by omega, rfl, rfl⟩) ?_
  rintro _ _ ⟨rfl, i, hi, ha, rfl⟩
  simp [↓go]
  refine ⟨fun hlt => ?_, fun hge => ?_⟩
  · obtain ⟨x, hx⟩ : ∃ x, xs[i]? = some x := ⟨_, List.getElem?_eq_getElem hlt⟩
    obtain ⟨_, hxl⟩ := List.getElem?_eq_some_iff.1 hx
    simp [↓go, hx, hlt, hxl]
    refine S_l2Type ?_
    simp [↓go]
    refine ⟨fun hb => retW_ex ?_, fun hb => ?_⟩
    · rw [show allTy xs = false from allN_false hlt (by rw [getD_of hx]; exact hb)] at hq; exact hq
    · rw [w64 (by omega) (by omega)]
      refine wk_ex ?_
      refine And.intro ⟨rfl, i + 1, by omega, allN_step ha (by rw [getD_of hx]; exact hb), rfl⟩ ?_
      simp; omega
  · obtain rfl : i = xs.length := by omega
    exact retW_ex (by rw [show allTy xs = true from ha] at hq; exact hq)
theorem S_allTypes {xs : List Int} {h : AHeap} {Q : KA} (hs : xs.length ≤ 1048576) (hq : Q (bl (allTy xs)) h) : @clM Tryz.prog 125 [encL i64 xs] h ⟨Q⟩ := by
  refine cl_of fn_impl_allTypes (D_impl_allTypes_of ?_)
  unfold D_impl_allTypes
  simp [↓go]
  refine lp_inv (fun s h' => h = h' ∧ ∃ i : Nat, i ≤ xs.length ∧ allN i (fun i => isTy (xs.getD i 0)) = true ∧ s = [i64 i, encL i64 xs, i64 xs.length]) (fun s _ => xs.length - natA (nthA s 0)) (Wk.refl ⟨rfl, 0, by omega, rfl, rfl⟩) ?_
  rintro _ _ ⟨rfl, i, hi, ha, rfl⟩
  simp [↓go]
  refine ⟨fun hlt => ?_, fun hge => ?_⟩
  · obtain ⟨x, hx⟩ : ∃ x, xs[i]? = some x := ⟨_, List.getElem?_eq_getElem hlt⟩
    obtain ⟨_, hxl⟩ := List.getElem?_eq_some_iff.1 hx
    simp [↓go, hx, hlt, hxl]
    refine S_isType ?_
    simp [↓go]
    refine ⟨fun hb => retW_ex ?_, fun hb => ?_⟩
    · rw [show allTy xs = false from allN_false hlt (by rw [getD_of hx]; exact hb)] at hq; exact hq
    · rw [w64 (by omega) (by omega)]
      refine wk_ex ?_
      refine And.intro ⟨rfl, i + 1, by omega, allN_step ha (by rw [getD_of hx]; exact hb), rfl⟩ ?_
      simp; omega
  · obtain rfl : i = xs.length := by omega
    exact retW_ex (by rw [show allTy xs = true from ha] at hq; exact hq)
def localTy (f : MFunc) (k : Int) : Int := if 0 ≤ k ∧ k < f.params.length then f.params.getD k.toNat 0 else if f.params.length ≤ k ∧ k < f.params.length + f.locals.length then f.locals.getD (k - f.params.length).toNat 0 else 0
theorem S_locals {f : MFunc} {h : AHeap} {Q : KA} (hs : szFunc f ≤ 1048576) (hq : Q (i64 ((f.params.length : Int) + f.locals.length)) h) : @clM Tryz.prog 127 [.fp (encFunc f)] h ⟨Q⟩ := by
  refine cl_of fn_impl_Func_locals (D_impl_Func_locals_of ?_)
  unfold D_impl_Func_locals
  unfold szFunc at hs
  rw [szL_zero, szL_zero] at hs
  simp [↓go]
  rw [w64 (by omega) (by omega)]
  exact retW_ex hq
theorem S_localType {f : MFunc} {k : Int} {h : AHeap} {Q : KA} (hs : szFunc f ≤ 1048576) (h0 : 0 ≤ k) (h1 : k < f.params.length + f.locals.length) (hq : Q (i64 (localTy f k)) h) : @clM Tryz.prog 130 [.fp (encFunc f), i64 k] h ⟨Q⟩ := by
  refine cl_of fn_impl_Func_localType (D_impl_Func_localType_of ?_)
  unfold D_impl_Func_localType
  unfold localTy at hq
  unfold szFunc at hs
  rw [szL_zero, szL_zero] at hs
  simp [↓go]
  refine ⟨fun hlt => ?_, fun hge => ?_⟩
  · obtain ⟨x, hx⟩ : ∃ x, f.params[k.toNat]? = some x := ⟨_, List.getElem?_eq_getElem (by omega)⟩
    simp [↓go, hx]
    rw [if_pos ⟨h0, hlt⟩, getD_of hx] at hq
    exact ⟨by omega, by omega, retW_ex hq⟩
  · rw [w64 (by omega) (by omega)]
    obtain ⟨x, hx⟩ : ∃ x, f.locals[(k - f.params.length).toNat]? = some x := ⟨_, List.getElem?_eq_getElem (by omega)⟩
    have hx' : f.locals[k.toNat - f.params.length]? = some x := by rw [← hx]; congr 1; omega
    simp [↓go, hx, hx']
    rw [if_neg (by omega), if_pos ⟨hge, h1⟩, getD_of hx] at hq
    exact ⟨by omega, by omega, retW_ex hq⟩
theorem S_l3Local {f : MFunc} {k : Int} {h : AHeap} {Q : KA} (hs : szFunc f ≤ 1048576) (hq : Q (i64 (localTy f k)) h) : @clM Tryz.prog 120 [encFunc f, i64 k] h ⟨Q⟩ := by
  refine cl_of fn_spec_l3Local (D_spec_l3Local_of ?_)
  unfold D_spec_l3Local
  unfold localTy at hq
  unfold szFunc at hs
  rw [szL_zero, szL_zero] at hs
  simp [↓go]
  refine jn_cut (fun s h' => h = h' ∧ s = [i64 f.params.length, i64 k, .fp (encFunc f), bl (decide (0 ≤ k ∧ k < f.params.length))]) ?_ ?_
  · simp [↓go]
    repeat' (first | apply And.intro | intro _)
    all_goals (refine wk_ex ?_; simp [*]; try omega)
  rintro _ _ ⟨rfl, rfl⟩
  simp [↓go]
  refine ⟨fun h0 hlt => ?_, fun hge => ?_⟩
  · obtain ⟨x, hx⟩ : ∃ x, f.params[k.toNat]? = some x := ⟨_, List.getElem?_eq_getElem (by omega)⟩
    simp [↓go, hx]
    rw [if_pos ⟨h0, hlt⟩, getD_of hx] at hq
    exact ⟨by omega, by omega, retW_ex hq⟩
  · rw [if_neg (by omega)] at hq
    refine jn_cut (fun s h' => h = h' ∧ s = [i64 f.params.length, i64 k, .fp (encFunc f), bl (decide (f.params.length ≤ k ∧ k < f.params.length + f.locals.length))]) ?_ ?_
    · simp [↓go]
      refine ⟨fun h1 => ?_, fun h1 => ?_⟩
      · rw [w64 (by omega) (by omega)]; refine wk_ex ?_; simp [h1]
      · refine wk_ex ?_; simp; omega
    rintro _ _ ⟨rfl, rfl⟩
    simp [↓go]
    refine ⟨fun h1 h2 => ?_, fun h1 => ?_⟩
    · rw [w64 (by omega) (by omega)]
      obtain ⟨x, hx⟩ : ∃ x, f.locals[(k - f.params.length).toNat]? = some x := ⟨_, List.getElem?_eq_getElem (by omega)⟩
      have hx' : f.locals[k.toNat - f.params.length]? = some x := by rw [← hx]; congr 1; omega
      simp [↓go, hx, hx']
      rw [if_pos ⟨h1, h2⟩, getD_of hx] at hq
      exact ⟨by omega, by omega, retW_ex hq⟩
    · rw [if_neg (by omega)] at hq
      exact retW_ex hq
def cellTy (p : MProgram) (r c : Int) : Int := if 0 ≤ r ∧ r ≤ 2 ∧ 0 ≤ c ∧ c < (p.regions.getD r.toNat []).length then (p.regions.getD r.toNat []).getD c.toNat 0 else 0
theorem S_l3Cell {p : MProgram} {r c : Int} {h : AHeap} {Q : KA} (h3 : p.regions.length = 3) (hq : Q (i64 (cellTy p r c)) h) : @clM Tryz.prog 121 [encProgram p, i64 r, i64 c] h ⟨Q⟩ := by
  refine cl_of fn_spec_l3Cell (D_spec_l3Cell_of ?_)
  unfold D_spec_l3Cell
  unfold cellTy at hq
  simp [↓go]
  refine jn_cut (fun s h' => h = h' ∧ s = [i64 c, i64 r, .fp (encProgram p), bl (!decide (0 ≤ r ∧ r ≤ 2 ∧ 0 ≤ c ∧ c < (p.regions.getD r.toNat []).length))]) ?_ ?_
  · simp [↓go]
    refine ⟨fun h1 => ?_, fun h1 => ⟨fun h2 => ?_, fun h2 => ⟨fun h4 => ?_, fun h4 => ?_⟩⟩⟩
    · refine wk_ex ?_; simp; omega
    · refine wk_ex ?_; simp; omega
    · refine wk_ex ?_; simp; omega
    · obtain ⟨x, hx⟩ : ∃ x, p.regions[r.toNat]? = some x := ⟨_, List.getElem?_eq_getElem (by omega)⟩
      simp [↓go, hx]
      refine ⟨by omega, by omega, wk_ex ?_⟩
      simp [h1, h2, h4]
      rw [Bool.eq_iff_iff]; simp [hx]
  rintro _ _ ⟨rfl, rfl⟩
  simp only [nthA_z, nthA_s]
  by_cases hin : 0 ≤ r ∧ r ≤ 2 ∧ 0 ≤ c ∧ c < (p.regions.getD r.toNat []).length
  · rw [if_pos hin] at hq
    obtain ⟨x, hx⟩ : ∃ x, p.regions[r.toNat]? = some x := ⟨_, List.getElem?_eq_getElem (by omega)⟩
    rw [getD_of hx] at hq hin
    obtain ⟨y, hy⟩ : ∃ y, x[c.toNat]? = some y := ⟨_, List.getElem?_eq_getElem (by omega)⟩
    rw [getD_of hy] at hq
    obtain ⟨_, hyl⟩ := List.getElem?_eq_some_iff.1 hy
    simp [↓go, hx, hin, hy, hyl]
    exact ⟨by omega, retW_ex hq⟩
  · rw [if_neg hin] at hq
    rw [decide_eq_false hin]
    simp [↓go]
    exact retW_ex hq
def reg (p : MProgram) (a : Int) : List Int := p.regions.getD a.toNat []
def maskOK (p : MProgram) (x : MInstr) : Bool := decide (0 ≤ x.c ∧ x.c < 256 ∧ andI .i64 x.c (x.c + 1) = 0) && allN (x.c.toNat + 1) (fun k => decide (cellTy p x.a x.b ≠ 0 ∧ cellTy p x.a (x.b + k) = cellTy p x.a x.b))
theorem small_reg {p : MProgram} (hs : szProgram p ≤ 1048576) (a : Int) : (reg p a).length ≤ 1048576 := by
  unfold reg
  rw [List.getD_eq_getElem?_getD]
  cases h : p.regions[a.toNat]? with
  | none => simp
  | some r =>
    have := szL_get (f := szL (fun _ => 0)) h
    have h2 := szL_len (fun _ => 0) r
    unfold szProgram at hs
    simp only [Option.getD_some]; omega
theorem cellTy_in {p : MProgram} {r c : Int} (h : cellTy p r c ≠ 0) : 0 ≤ r ∧ r ≤ 2 ∧ 0 ≤ c ∧ c < (reg p r).length := by
  unfold cellTy at h
  split at h
  · assumption
  · exact absurd rfl h
theorem S_l3Mask {p : MProgram} {x : MInstr} {h : AHeap} {Q : KA} (hs : szProgram p ≤ 1048576) (h3 : p.regions.length = 3) (hq : Q (bl (maskOK p x)) h) : @clM Tryz.prog 122 [encProgram p, encInstr x] h ⟨Q⟩ := by
  refine cl_of fn_spec_l3Mask (D_spec_l3Mask_of ?_)
  unfold D_spec_l3Mask
  unfold maskOK at hq
  simp [↓go]
  refine jn_cut (fun s h' => h = h' ∧ s = [.fp (encInstr x), .fp (encProgram p), bl (!decide (0 ≤ x.c ∧ x.c < 256 ∧ andI .i64 x.c (x.c + 1) = 0))]) ?_ ?_
  · simp [↓go]
    refine ⟨fun h1 => ?_, fun h1 => ⟨fun h2 => ?_, fun h2 => ?_⟩⟩
    · refine wk_ex ?_; simp; omega
    · refine wk_ex ?_; simp; omega
    · rw [w64 (by omega) (by omega)]; refine wk_ex ?_; simp [h1, h2]
  rintro _ _ ⟨rfl, rfl⟩
  simp only [nthA_z, nthA_s]
  by_cases hc : 0 ≤ x.c ∧ x.c < 256 ∧ andI .i64 x.c (x.c + 1) = 0
  · rw [decide_eq_true hc] at hq ⊢
    rw [Bool.true_and] at hq
    simp [↓go]
    refine S_l3Cell h3 ?_
    generalize ht : cellTy p x.a x.b = t at hq
    refine lp_inv (fun s h' => h = h' ∧ ∃ k : Nat, (k : Int) ≤ x.c + 1 ∧ allN k (fun k => decide (t ≠ 0 ∧ cellTy p x.a (x.b + k) = t)) = true ∧ s = [i64 k, i64 t, .fp (encInstr x), .fp (encProgram p)]) (fun s _ => x.c.toNat + 1 - natA (nthA s 0)) (Wk.refl ⟨rfl, 0, by omega, rfl, rfl⟩) ?_
    rintro _ _ ⟨rfl, k, hk, ha, rfl⟩
    simp [↓go]
    refine ⟨fun hle => ?_, fun hgt => ?_⟩
    · refine jn_cut (fun s h' => h = h' ∧ s = [i64 t, .fp (encInstr x), .fp (encProgram p), i64 k, bl (!decide (t ≠ 0 ∧ cellTy p x.a (x.b + k) = t))]) ?_ ?_
      · simp [↓go]
        refine ⟨fun ht0 => ?_, fun ht0 => ?_⟩
        · refine wk_ex ?_; simp [ht0]
        · have hin := cellTy_in (p := p) (r := x.a) (c := x.b) (by rw [ht]; exact ht0)
          have hl := small_reg hs x.a
          rw [w64 (by omega) (by omega)]
          refine S_l3Cell h3 ?_
          simp [↓go]
          refine wk_ex ?_; simp [ht0]
      rintro _ _ ⟨rfl, rfl⟩
      simp only [nthA_z, nthA_s]
      cases hb : decide (t ≠ 0 ∧ cellTy p x.a (x.b + k) = t) with
      | true =>
        simp [↓go]
        rw [w64 (by omega) (by omega)]
        refine wk_ex ?_
        refine And.intro ⟨rfl, k + 1, by omega, allN_step ha hb, rfl⟩ ?_
        simp; omega
      | false =>
        simp [↓go]
        refine retW_ex ?_
        rw [allN_false (i := k) (by omega) hb] at hq; exact hq
    · refine retW_ex ?_
      have e : x.c.toNat + 1 = k := by omega
      rw [e, ha] at hq; exact hq
  · rw [decide_eq_false hc] at hq ⊢
    simp [↓go]
    exact retW_ex hq
def cellsOK (p : MProgram) (x : MInstr) : Bool :=
  decide (0 ≤ x.a ∧ x.a < 3 ∧ 0 ≤ x.b ∧ x.b < (reg p x.a).length) && (!decide ((x.op = 5 ∨ x.op = 7) ∧ x.a = 0) && (decide (0 ≤ x.c ∧ x.c < 256 ∧ andI .i64 x.c (x.c + 1) = 0 ∧ x.b + x.c < (reg p x.a).length) &&
    allN (x.c.toNat + 1) (fun k => decide ((reg p x.a).getD (x.b.toNat + k) 0 = (reg p x.a).getD x.b.toNat 0))))
theorem S_cellsAre {p : MProgram} {x : MInstr} {h : AHeap} {Q : KA} (hs : szProgram p ≤ 1048576) (h3 : p.regions.length = 3) (hq : Q (bl (cellsOK p x)) h) : @clM Tryz.prog 142 [.fp (encProgram p), .fp (encInstr x)] h ⟨Q⟩ := by
  refine cl_of fn_impl_Program_cellsAre (D_impl_Program_cellsAre_of ?_)
  unfold D_impl_Program_cellsAre
  unfold cellsOK at hq
  have hl := small_reg hs x.a
  refine jn_cut (fun s h' => h = h' ∧ s = [.fp (encInstr x), .fp (encProgram p), bl (!decide (0 ≤ x.a ∧ x.a < 3 ∧ 0 ≤ x.b ∧ x.b < (reg p x.a).length))]) ?_ ?_
  · simp [↓go]
    refine S_below ?_
    simp [↓go]
    refine ⟨fun h1 => ?_, fun h1 h2 => ?_⟩
    · refine wk_ex ?_; simp; omega
    · obtain ⟨r, hr⟩ : ∃ r, p.regions[x.a.toNat]? = some r := ⟨_, List.getElem?_eq_getElem (by omega)⟩
      simp [↓go, hr]
      refine ⟨by omega, by omega, S_below ?_⟩
      simp [↓go]
      refine wk_ex ?_
      have e : reg p x.a = r := getD_of hr
      simp [h1, h2, e]
  rintro _ _ ⟨rfl, rfl⟩
  simp only [nthA_z, nthA_s]
  by_cases hA : 0 ≤ x.a ∧ x.a < 3 ∧ 0 ≤ x.b ∧ x.b < (reg p x.a).length
  rotate_left
  · rw [decide_eq_false hA] at hq ⊢
    simp [↓go]
    exact retW_ex hq
  rw [decide_eq_true hA] at hq ⊢
  rw [Bool.true_and] at hq
  obtain ⟨r, hr⟩ : ∃ r, p.regions[x.a.toNat]? = some r := ⟨_, List.getElem?_eq_getElem (by omega)⟩
  have e : reg p x.a = r := getD_of hr
  rw [e] at hq hA hl
  simp [↓go]
  refine jn_cut (fun s h' => h = h' ∧ s = [.fp (encInstr x), .fp (encProgram p), bl (decide ((x.op = 5 ∨ x.op = 7) ∧ x.a = 0))]) ?_ ?_
  · simp [↓go]
    repeat' (first | apply And.intro | intro _)
    all_goals (refine wk_ex ?_; simp [*])
  rintro _ _ ⟨rfl, rfl⟩
  simp only [nthA_z, nthA_s]
  cases hS : decide ((x.op = 5 ∨ x.op = 7) ∧ x.a = 0) with
  | true =>
    rw [hS] at hq
    simp [↓go]
    exact retW_ex hq
  | false =>
  rw [hS] at hq
  simp only [Bool.not_false, Bool.true_and] at hq
  simp [↓go, hr]
  refine ⟨by omega, by omega, ?_⟩
  refine jn_cut (fun s h' => h = h' ∧ s = [.fp (encInstr x), encL i64 r, bl (!decide (0 ≤ x.c ∧ x.c < 256 ∧ andI .i64 x.c (x.c + 1) = 0 ∧ x.b + x.c < r.length))]) ?_ ?_
  · simp [↓go, hr]
    refine ⟨fun h1 => ?_, fun h1 => ⟨fun h2 => ?_, fun h2 => ?_⟩⟩
    · refine wk_ex ?_; simp; intros; omega
    · refine wk_ex ?_; simp; intros; omega
    · rw [w64 (n := x.c + 1) (by omega) (by omega), w64 (n := x.b + x.c) (by omega) (by omega)]
      refine ⟨fun h4 => ?_, fun h4 => ?_⟩
      · refine wk_ex ?_; simp [h1, h2, h4]
      · refine S_below ?_
        simp [↓go]
        refine wk_ex ?_; simp [h1, h2, h4, hr]; omega
  rintro _ _ ⟨rfl, rfl⟩
  simp only [nthA_z, nthA_s]
  by_cases hC : 0 ≤ x.c ∧ x.c < 256 ∧ andI .i64 x.c (x.c + 1) = 0 ∧ x.b + x.c < r.length
  rotate_left
  · rw [decide_eq_false hC] at hq ⊢
    simp [↓go]
    exact retW_ex hq
  rw [decide_eq_true hC] at hq ⊢
  rw [Bool.true_and] at hq
  simp [↓go]
  rw [w64 (n := x.b + x.c) (by omega) (by omega), w64 (by omega) (by omega)]
  refine ⟨by omega, by omega, by omega, ?_⟩
  obtain ⟨y, hy⟩ : ∃ y, r[x.b.toNat]? = some y := ⟨_, List.getElem?_eq_getElem (by omega)⟩
  have e1 : (x.b + x.c + 1).toNat - x.b.toNat = x.c.toNat + 1 := by omega
  have e2 : min (x.c.toNat + 1) (r.length - x.b.toNat) = x.c.toNat + 1 := by omega
  rw [e1, e2]
  have hseg : ∀ k, k < x.c.toNat + 1 → ((r.drop x.b.toNat).take (x.c.toNat + 1))[k]? = r[x.b.toNat + k]? := fun k hk => by
    rw [List.getElem?_take_of_lt hk, List.getElem?_drop]
  have hsl : ((r.drop x.b.toNat).take (x.c.toNat + 1)).length = x.c.toNat + 1 := by rw [List.length_take, List.length_drop]; omega
  rw [← List.map_drop, ← List.map_take]
  generalize (r.drop x.b.toNat).take (x.c.toNat + 1) = seg at hseg hsl
  refine lp_inv (fun s h' => h = h' ∧ ∃ k : Nat, k ≤ x.c.toNat + 1 ∧ allN k (fun k => decide (r.getD (x.b.toNat + k) 0 = r.getD x.b.toNat 0)) = true ∧ s = [i64 k, .fp (encInstr x), encL i64 r, encL i64 seg, i64 (x.c.toNat + 1 : Nat)]) (fun s _ => x.c.toNat + 1 - natA (nthA s 0)) (Wk.refl ⟨rfl, 0, by omega, rfl, rfl⟩) ?_
  rintro _ _ ⟨rfl, k, hk, ha, rfl⟩
  simp [↓go]
  refine ⟨fun hlt => ?_, fun hge => ?_⟩
  · obtain ⟨z, hz⟩ : ∃ z, seg[k]? = some z := ⟨_, List.getElem?_eq_getElem (by omega)⟩
    have hz2 := hseg k (by omega)
    rw [hz] at hz2
    obtain ⟨_, hyl⟩ := List.getElem?_eq_some_iff.1 hy
    obtain ⟨_, hzl⟩ := List.getElem?_eq_some_iff.1 hz
    simp [↓go, hz, hzl, hy, hyl, hsl]
    rw [w64 (by omega) (by omega)]
    refine ⟨by omega, by omega, by omega, fun hne => retW_ex ?_, fun heq => ?_⟩
    · rw [allN_false (i := k) (by omega) (by rw [getD_of hz2.symm, getD_of hy]; simp [hne])] at hq; exact hq
    · refine wk_ex ?_
      refine And.intro ⟨rfl, k + 1, by omega, allN_step ha (by rw [getD_of hz2.symm, getD_of hy]; simp [heq]), by simp⟩ ?_
      simp; omega
  · have e : x.c.toNat + 1 = k := by omega
    rw [e, ha] at hq
    exact retW_ex hq
end Go.Proofs.YtkfpoagnchahkaaGreat.A
