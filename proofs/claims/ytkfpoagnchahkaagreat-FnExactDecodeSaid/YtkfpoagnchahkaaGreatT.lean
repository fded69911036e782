/- Of this session: over the abstract machine. -/
import Derived.Test.YtkfpoagnchahkaaGreatProg
import Derived.Test.YtkfpoagnchahkaaGreatA
import Derived.Test.YtkfpoagnchahkaaGreatB
import Derived.Test.YtkfpoagnchahkaaGreatD
namespace Go.Proofs.YtkfpoagnchahkaaGreat.A
open Go Go.RowKit
set_option linter.unusedVariables false
set_option linter.unusedSimpArgs false
set_option maxRecDepth 100000
set_option maxHeartbeats 1000000
theorem S_szInt64S {xs : List Int} {n : Int} {h : AHeap} {Q : KA} (hn : 0 ≤ n ∧ n ≤ 1048576) (ho : okL (wfI .i64) xs) (q1 : Q (i64 (-1)) h) (q2 : (szL (fun _ => 0) xs : Int) ≤ n → Q (i64 (n - szL (fun _ => 0) xs)) h) : @clM Tryz.prog 77 [encL i64 xs, i64 n] h ⟨Q⟩ := by
  refine cl_of fn_laws_szInt64S (D_laws_szInt64S_of ?_)
  unfold D_laws_szInt64S
  have hl := ho.1
  unfold maxLen at hl
  rw [szL_zero] at q2
  simp [↓go]
  rw [w64 (by omega) (by omega)]
  exact ⟨fun h1 => retW_ex q1, fun h1 => retW_ex (q2 (by omega))⟩
theorem S_toInt64S {xs : List Int} {h : AHeap} {Q : KA} (hs : szL (fun _ => 0) xs ≤ 1048576) (q : Q (encL i64 xs) h) : @clM Tryz.prog 84 [encL i64 xs] h ⟨Q⟩ := by
  refine cl_of fn_laws_toInt64S (D_laws_toInt64S_of ?_)
  unfold D_laws_toInt64S
  have hcl := szL_len (fun _ => 0) xs
  simp [↓go]
  refine ⟨by omega, by omega, fun g1 => ?_⟩
  refine lp_inv (fun s h' => ∃ i : Nat, i ≤ xs.length ∧ h' = h ++ [.row g1 1 ((xs.map i64).take i ++ List.replicate (xs.length - i) (i64 0))] ∧ s = [.rf h.length g1 0 xs.length, i64 i, encL i64 xs]) (fun s _ => xs.length - natA (nthA s 1)) (Wk.refl ⟨0, by omega, by simp, by simp⟩) ?_
  rintro _ _ ⟨i, hi, rfl, rfl⟩
  simp [↓go]
  refine ⟨fun hlt => ?_, fun hge => ?_⟩
  · obtain ⟨x, hx⟩ : ∃ x, xs[i]? = some x := ⟨_, List.getElem?_eq_getElem hlt⟩
    obtain ⟨_, hxl⟩ := List.getElem?_eq_some_iff.1 hx
    have hms := fill_set i64 xs hx (i64 0)
    have hml := fill_len i64 xs hi (i64 0)
    have hma := fill_at i64 xs hlt (i64 0)
    generalize (xs.map i64).take i ++ List.replicate (xs.length - i) (i64 0) = row at hms hml hma ⊢
    simp [↓go, hx, hlt, hxl, hml, hma]
    rw [w64 (by omega) (by omega)]
    first | refine wk_ex ?_ | refine ⟨by omega, wk_ex ?_⟩ | refine ⟨by omega, by omega, wk_ex ?_⟩ | fail
    refine And.intro ⟨i + 1, by omega, ?_, rfl⟩ ?_
    · have hmx : row[i] = i64 0 := (List.getElem?_eq_some_iff.1 hma).2; (try rw [hmx]); first | (simp [hms]; done) | exact congrArg (fun z => h ++ [AObj.row g1 _ z]) hms | fail
    · simp; omega
  · obtain rfl : i = xs.length := by omega
    simp
    refine wk_of (Wk.fzL (p := 0) rfl (l' := []) trivial (Wk.refl ?_))
    simpa [frz, Function.comp_def, List.take_of_length_le] using q
theorem S_eqInt64S {xs : List Int} {h : AHeap} {Q : KA} (hs : szL (fun _ => 0) xs ≤ 1048576) (q : Q tt h) : @clM Tryz.prog 95 [encL i64 xs, encL i64 xs] h ⟨Q⟩ := by
  refine cl_of fn_laws_eqInt64S (D_laws_eqInt64S_of ?_)
  unfold D_laws_eqInt64S
  have hcl := szL_len (fun _ => 0) xs
  simp [↓go]
  refine lp_inv (fun s h' => h = h' ∧ ∃ i : Nat, i ≤ xs.length ∧ s = [i64 i, encL i64 xs, encL i64 xs]) (fun s _ => xs.length - natA (nthA s 0)) (Wk.refl ⟨rfl, 0, by omega, rfl⟩) ?_
  rintro _ _ ⟨rfl, i, hi, rfl⟩
  simp [↓go]
  refine ⟨fun hlt => ?_, fun hge => retW_ex q⟩
  obtain ⟨x, hx⟩ : ∃ x, xs[i]? = some x := ⟨_, List.getElem?_eq_getElem hlt⟩
  obtain ⟨_, hxl⟩ := List.getElem?_eq_some_iff.1 hx
  simp [↓go, hx, hlt, hxl]
  rw [w64 (by omega) (by omega)]
  refine wk_ex ?_
  refine And.intro ⟨rfl, i + 1, by omega, rfl⟩ ?_
  simp; omega
theorem S_szInt64SS {xs : List (List Int)} {n : Int} {h : AHeap} {Q : KA} (hn : 0 ≤ n ∧ n ≤ 1048576) (ho : okL (okL (wfI .i64)) xs) (q1 : Q (i64 (-1)) h) (q2 : (szL (szL (fun _ => 0)) xs : Int) ≤ n → Q (i64 (n - szL (szL (fun _ => 0)) xs)) h) : @clM Tryz.prog 30 [encL (encL i64) xs, i64 n] h ⟨Q⟩ := by
  refine cl_of fn_laws_szInt64SS (D_laws_szInt64SS_of ?_)
  unfold D_laws_szInt64SS
  have hl := ho.1
  unfold maxLen at hl
  simp [↓go]
  rw [w64 (by omega) (by omega)]
  refine ⟨fun h1 => retW_ex q1, fun h1 => ?_⟩
  refine lp_inv (fun s h' => h = h' ∧ ∃ i : Nat, i ≤ xs.length ∧ (szP (szL (fun _ => 0)) xs i : Int) + xs.length ≤ n ∧ s = [i64 (n - xs.length - szP (szL (fun _ => 0)) xs i), i64 i, encL (encL i64) xs]) (fun s _ => xs.length - natA (nthA s 1)) (Wk.refl ⟨rfl, 0, by omega, by rw [szP_zero]; omega, by simp [szP_zero]⟩) ?_
  rintro _ _ ⟨rfl, i, hi, hs, rfl⟩
  simp [↓go]
  refine ⟨fun hlt => ?_, fun hge => ?_⟩
  · obtain ⟨x, hx⟩ : ∃ x, xs[i]? = some x := ⟨_, List.getElem?_eq_getElem hlt⟩
    obtain ⟨_, hxl⟩ := List.getElem?_eq_some_iff.1 hx
    have hp := szP_succ (f := (szL (fun _ => 0))) hx
    simp [↓go, hx, hlt, hxl]
    refine S_szInt64S (by omega) (okL_get ho hx) ?_ (fun hb => ?_)
    · simp [↓go]
      exact retW_ex q1
    simp [↓go]
    refine ⟨fun hneg => by omega, fun _ => ?_⟩
    rw [w64 (by omega) (by omega)]
    refine wk_ex ?_
    refine And.intro ⟨rfl, i + 1, by omega, by omega, ?_⟩ ?_
    · rw [hp]
      simp
      omega
    · simp; omega
  · obtain rfl : i = xs.length := by omega
    have ha := szP_all (szL (fun _ => 0)) xs
    have := q2 (by omega)
    rw [show n - (xs.length : Int) - (szP (szL (fun _ => 0)) xs xs.length : Int) = n - szL (szL (fun _ => 0)) xs by omega]
    exact retW_ex this
theorem S_toInt64SS {xs : List (List Int)} {h : AHeap} {Q : KA} (hs : szL (szL (fun _ => 0)) xs ≤ 1048576) (q : Q (encL (encL i64) xs) h) : @clM Tryz.prog 38 [encL (encL i64) xs] h ⟨Q⟩ := by
  refine cl_of fn_laws_toInt64SS (D_laws_toInt64SS_of ?_)
  unfold D_laws_toInt64SS
  have hcl := szL_len (szL (fun _ => 0)) xs
  simp [↓go]
  refine ⟨by omega, by omega, fun g1 => ?_⟩
  refine lp_inv (fun s h' => ∃ i : Nat, i ≤ xs.length ∧ h' = h ++ [.row g1 1 ((xs.map (encL i64)).take i ++ List.replicate (xs.length - i) (nilS))] ∧ s = [.rf h.length g1 0 xs.length, i64 i, encL (encL i64) xs]) (fun s _ => xs.length - natA (nthA s 1)) (Wk.refl ⟨0, by omega, by simp, by simp⟩) ?_
  rintro _ _ ⟨i, hi, rfl, rfl⟩
  simp [↓go]
  refine ⟨fun hlt => ?_, fun hge => ?_⟩
  · obtain ⟨x, hx⟩ : ∃ x, xs[i]? = some x := ⟨_, List.getElem?_eq_getElem hlt⟩
    obtain ⟨_, hxl⟩ := List.getElem?_eq_some_iff.1 hx
    have hms := fill_set (encL i64) xs hx (nilS)
    have hml := fill_len (encL i64) xs hi (nilS)
    have hma := fill_at (encL i64) xs hlt (nilS)
    generalize (xs.map (encL i64)).take i ++ List.replicate (xs.length - i) (nilS) = row at hms hml hma ⊢
    simp [↓go, hx, hlt, hxl, hml, hma]
    refine S_toInt64S (Nat.le_trans (szL_get hx) hs) ?_
    simp [↓go, hml, hma]
    rw [w64 (by omega) (by omega)]
    first | refine wk_ex ?_ | refine ⟨by omega, wk_ex ?_⟩ | refine ⟨by omega, by omega, wk_ex ?_⟩ | fail
    refine And.intro ⟨i + 1, by omega, ?_, rfl⟩ ?_
    · have hmx : row[i] = nilS := (List.getElem?_eq_some_iff.1 hma).2; (try rw [hmx]); first | (simp [hms]; done) | exact congrArg (fun z => h ++ [AObj.row g1 _ z]) hms | fail
    · simp; omega
  · obtain rfl : i = xs.length := by omega
    simp
    refine wk_of (Wk.fzL (p := 0) rfl (l' := []) trivial (Wk.refl ?_))
    simpa [frz, Function.comp_def, List.take_of_length_le] using q
theorem S_eqInt64SS {xs : List (List Int)} {h : AHeap} {Q : KA} (hs : szL (szL (fun _ => 0)) xs ≤ 1048576) (q : Q tt h) : @clM Tryz.prog 46 [encL (encL i64) xs, encL (encL i64) xs] h ⟨Q⟩ := by
  refine cl_of fn_laws_eqInt64SS (D_laws_eqInt64SS_of ?_)
  unfold D_laws_eqInt64SS
  have hcl := szL_len (szL (fun _ => 0)) xs
  simp [↓go]
  refine lp_inv (fun s h' => h = h' ∧ ∃ i : Nat, i ≤ xs.length ∧ s = [i64 i, encL (encL i64) xs, encL (encL i64) xs]) (fun s _ => xs.length - natA (nthA s 0)) (Wk.refl ⟨rfl, 0, by omega, rfl⟩) ?_
  rintro _ _ ⟨rfl, i, hi, rfl⟩
  simp [↓go]
  refine ⟨fun hlt => ?_, fun hge => retW_ex q⟩
  obtain ⟨x, hx⟩ : ∃ x, xs[i]? = some x := ⟨_, List.getElem?_eq_getElem hlt⟩
  obtain ⟨_, hxl⟩ := List.getElem?_eq_some_iff.1 hx
  simp [↓go, hx, hlt, hxl]
  refine S_eqInt64S (Nat.le_trans (szL_get hx) hs) ?_
  simp [↓go]
  rw [w64 (by omega) (by omega)]
  refine wk_ex ?_
  refine And.intro ⟨rfl, i + 1, by omega, rfl⟩ ?_
  simp; omega
structure MConst where
  ty : Int
  word : Int
theorem MConst_ext {x y : MConst} (h0 : x.ty = y.ty) (h1 : x.word = y.word) : x = y := by cases x; cases y; simp_all
def zConst : MConst := ⟨0, 0⟩
def encConst (x : MConst) : AVal := .agg [i64 x.ty, u32 x.word]
@[simp] theorem encConst_flat (x : MConst) : (encConst x).flat = [i64 x.ty, u32 x.word] := rfl
@[simp] theorem encConst_agg (x : MConst) : (encConst x).isAgg = true := rfl
@[simp] theorem frz_encConst (r g : Nat) (xs : List AVal) (x : MConst) : frz r g xs (encConst x) = encConst x := by simp [encConst, frz, frz.frzs]
theorem encConst_eq (x : MConst) : encConst x = .agg [i64 x.ty, u32 x.word] := rfl
def okConst (x : MConst) : Prop := (wfI .i64) x.ty ∧ (wfI .u32) x.word
theorem rdConst (W : World) (N : Nat) : RdN N Tryz.prog W 149 encConst okConst := by
  intro H enc fuel cs y hN h
  obtain ⟨ys, m, hm, _, hl, hn, hf⟩ := DataW.trod_struct Tryz.underlying149 h
  have hl : cs.length = 2 := hl.trans (by kernel_rfl)
  have hn : ys.length = 2 := hn
  match cs, hl, ys, hn with
  | [c0, c1], _, [y0, y1], _ =>
    obtain ⟨x0, k0, o0⟩ := (show RdN N Tryz.prog W 2 i64 (wfI .i64) from (RdN.int .i64 Tryz.underlying2)) enc m [c0] y0 (by omega) ((congrArg _ (by kernel_rfl)).trans (hf 0 _ rfl))
    obtain ⟨x1, k1, o1⟩ := (show RdN N Tryz.prog W 74 u32 (wfI .u32) from (RdN.int .u32 Tryz.underlying74)) enc m [c1] y1 (by omega) ((congrArg _ (by kernel_rfl)).trans (hf 1 _ rfl))
    exact ⟨⟨x0, x1⟩, (RVL.app k0 k1), ⟨o0, o1⟩⟩
theorem S_toConst {x : MConst} {h : AHeap} {Q : KA} (q : Q (encConst x) h) : @clM Tryz.prog 85 [encConst x] h ⟨Q⟩ := by
  refine cl_of fn_laws_toConst (D_laws_toConst_of ?_)
  unfold D_laws_toConst
  simp [↓go]
  intro g2 g3
  refine wk_of (Wk.drop (Wk.refl ?_))
  exact q
theorem S_eqConst {x : MConst} {h : AHeap} {Q : KA} (q : Q tt h) : @clM Tryz.prog 96 [encConst x, encConst x] h ⟨Q⟩ := by
  refine cl_of fn_laws_eqConst (D_laws_eqConst_of ?_)
  unfold D_laws_eqConst
  simp [↓go]
  exact retW_ex q
theorem S_szConstS {xs : List MConst} {n : Int} {h : AHeap} {Q : KA} (hn : 0 ≤ n ∧ n ≤ 1048576) (ho : okL okConst xs) (q1 : Q (i64 (-1)) h) (q2 : (szL (fun _ => 0) xs : Int) ≤ n → Q (i64 (n - szL (fun _ => 0) xs)) h) : @clM Tryz.prog 31 [encL encConst xs, i64 n] h ⟨Q⟩ := by
  refine cl_of fn_laws_szConstS (D_laws_szConstS_of ?_)
  unfold D_laws_szConstS
  have hl := ho.1
  unfold maxLen at hl
  rw [szL_zero] at q2
  simp [↓go]
  rw [w64 (by omega) (by omega)]
  exact ⟨fun h1 => retW_ex q1, fun h1 => retW_ex (q2 (by omega))⟩
theorem S_toConstS {xs : List MConst} {h : AHeap} {Q : KA} (hs : szL (fun _ => 0) xs ≤ 1048576) (q : Q (encL encConst xs) h) : @clM Tryz.prog 39 [encL encConst xs] h ⟨Q⟩ := by
  refine cl_of fn_laws_toConstS (D_laws_toConstS_of ?_)
  unfold D_laws_toConstS
  have hcl := szL_len (fun _ => 0) xs
  simp [↓go]
  refine ⟨by omega, by omega, fun g1 => ?_⟩
  refine lp_inv (fun s h' => ∃ i : Nat, i ≤ xs.length ∧ h' = h ++ [.row g1 2 ((xs.map encConst).take i ++ List.replicate (xs.length - i) (.agg [i64 0, u32 0]))] ∧ s = [.rf h.length g1 0 xs.length, i64 i, encL encConst xs]) (fun s _ => xs.length - natA (nthA s 1)) (Wk.refl ⟨0, by omega, by simp, by simp⟩) ?_
  rintro _ _ ⟨i, hi, rfl, rfl⟩
  simp [↓go]
  refine ⟨fun hlt => ?_, fun hge => ?_⟩
  · obtain ⟨x, hx⟩ : ∃ x, xs[i]? = some x := ⟨_, List.getElem?_eq_getElem hlt⟩
    obtain ⟨_, hxl⟩ := List.getElem?_eq_some_iff.1 hx
    have hms := fill_set encConst xs hx (.agg [i64 0, u32 0])
    have hml := fill_len encConst xs hi (.agg [i64 0, u32 0])
    have hma := fill_at encConst xs hlt (.agg [i64 0, u32 0])
    generalize (xs.map encConst).take i ++ List.replicate (xs.length - i) (.agg [i64 0, u32 0]) = row at hms hml hma ⊢
    simp [↓go, hx, hlt, hxl, hml, hma]
    refine S_toConst  ?_
    simp [↓go, hml, hma]
    rw [w64 (by omega) (by omega)]
    first | refine wk_ex ?_ | refine ⟨by omega, wk_ex ?_⟩ | refine ⟨by omega, by omega, wk_ex ?_⟩ | fail
    refine And.intro ⟨i + 1, by omega, ?_, rfl⟩ ?_
    · rw [encConst_eq] at hms; first | (simp [hms]; done) | exact congrArg (fun z => h ++ [AObj.row g1 _ z]) hms | fail
    · simp; omega
  · obtain rfl : i = xs.length := by omega
    simp
    refine wk_of (Wk.fzL (p := 0) rfl (l' := []) trivial (Wk.refl ?_))
    simpa [frz, Function.comp_def, List.take_of_length_le] using q
theorem S_eqConstS {xs : List MConst} {h : AHeap} {Q : KA} (hs : szL (fun _ => 0) xs ≤ 1048576) (q : Q tt h) : @clM Tryz.prog 47 [encL encConst xs, encL encConst xs] h ⟨Q⟩ := by
  refine cl_of fn_laws_eqConstS (D_laws_eqConstS_of ?_)
  unfold D_laws_eqConstS
  have hcl := szL_len (fun _ => 0) xs
  simp [↓go]
  refine lp_inv (fun s h' => h = h' ∧ ∃ i : Nat, i ≤ xs.length ∧ s = [i64 i, encL encConst xs, encL encConst xs]) (fun s _ => xs.length - natA (nthA s 0)) (Wk.refl ⟨rfl, 0, by omega, rfl⟩) ?_
  rintro _ _ ⟨rfl, i, hi, rfl⟩
  simp [↓go]
  refine ⟨fun hlt => ?_, fun hge => retW_ex q⟩
  obtain ⟨x, hx⟩ : ∃ x, xs[i]? = some x := ⟨_, List.getElem?_eq_getElem hlt⟩
  obtain ⟨_, hxl⟩ := List.getElem?_eq_some_iff.1 hx
  simp [↓go, hx, hlt, hxl]
  refine S_eqConst  ?_
  simp [↓go]
  rw [w64 (by omega) (by omega)]
  refine wk_ex ?_
  refine And.intro ⟨rfl, i + 1, by omega, rfl⟩ ?_
  simp; omega
structure MInstr where
  op : Int
  a : Int
  b : Int
  c : Int
theorem MInstr_ext {x y : MInstr} (h0 : x.op = y.op) (h1 : x.a = y.a) (h2 : x.b = y.b) (h3 : x.c = y.c) : x = y := by cases x; cases y; simp_all
def zInstr : MInstr := ⟨0, 0, 0, 0⟩
def encInstr (x : MInstr) : AVal := .agg [i64 x.op, i64 x.a, i64 x.b, i64 x.c]
@[simp] theorem encInstr_flat (x : MInstr) : (encInstr x).flat = [i64 x.op, i64 x.a, i64 x.b, i64 x.c] := rfl
@[simp] theorem encInstr_agg (x : MInstr) : (encInstr x).isAgg = true := rfl
@[simp] theorem frz_encInstr (r g : Nat) (xs : List AVal) (x : MInstr) : frz r g xs (encInstr x) = encInstr x := by simp [encInstr, frz, frz.frzs]
theorem encInstr_eq (x : MInstr) : encInstr x = .agg [i64 x.op, i64 x.a, i64 x.b, i64 x.c] := rfl
def okInstr (x : MInstr) : Prop := (wfI .i64) x.op ∧ (wfI .i64) x.a ∧ (wfI .i64) x.b ∧ (wfI .i64) x.c
theorem rdInstr (W : World) (N : Nat) : RdN N Tryz.prog W 208 encInstr okInstr := by
  intro H enc fuel cs y hN h
  obtain ⟨ys, m, hm, _, hl, hn, hf⟩ := DataW.trod_struct Tryz.underlying208 h
  have hl : cs.length = 4 := hl.trans (by kernel_rfl)
  have hn : ys.length = 4 := hn
  match cs, hl, ys, hn with
  | [c0, c1, c2, c3], _, [y0, y1, y2, y3], _ =>
    obtain ⟨x0, k0, o0⟩ := (show RdN N Tryz.prog W 2 i64 (wfI .i64) from (RdN.int .i64 Tryz.underlying2)) enc m [c0] y0 (by omega) ((congrArg _ (by kernel_rfl)).trans (hf 0 _ rfl))
    obtain ⟨x1, k1, o1⟩ := (show RdN N Tryz.prog W 2 i64 (wfI .i64) from (RdN.int .i64 Tryz.underlying2)) enc m [c1] y1 (by omega) ((congrArg _ (by kernel_rfl)).trans (hf 1 _ rfl))
    obtain ⟨x2, k2, o2⟩ := (show RdN N Tryz.prog W 2 i64 (wfI .i64) from (RdN.int .i64 Tryz.underlying2)) enc m [c2] y2 (by omega) ((congrArg _ (by kernel_rfl)).trans (hf 2 _ rfl))
    obtain ⟨x3, k3, o3⟩ := (show RdN N Tryz.prog W 2 i64 (wfI .i64) from (RdN.int .i64 Tryz.underlying2)) enc m [c3] y3 (by omega) ((congrArg _ (by kernel_rfl)).trans (hf 3 _ rfl))
    exact ⟨⟨x0, x1, x2, x3⟩, (RVL.app k0 (RVL.app k1 (RVL.app k2 k3))), ⟨o0, o1, o2, o3⟩⟩
theorem S_toInstr {x : MInstr} {h : AHeap} {Q : KA} (q : Q (encInstr x) h) : @clM Tryz.prog 140 [encInstr x] h ⟨Q⟩ := by
  refine cl_of fn_laws_toInstr (D_laws_toInstr_of ?_)
  unfold D_laws_toInstr
  simp [↓go]
  intro g2 g3
  refine wk_of (Wk.drop (Wk.refl ?_))
  exact q
theorem S_eqInstr {x : MInstr} {h : AHeap} {Q : KA} (q : Q tt h) : @clM Tryz.prog 145 [encInstr x, encInstr x] h ⟨Q⟩ := by
  refine cl_of fn_laws_eqInstr (D_laws_eqInstr_of ?_)
  unfold D_laws_eqInstr
  simp [↓go]
  exact retW_ex q
theorem S_szInstrS {xs : List MInstr} {n : Int} {h : AHeap} {Q : KA} (hn : 0 ≤ n ∧ n ≤ 1048576) (ho : okL okInstr xs) (q1 : Q (i64 (-1)) h) (q2 : (szL (fun _ => 0) xs : Int) ≤ n → Q (i64 (n - szL (fun _ => 0) xs)) h) : @clM Tryz.prog 117 [encL encInstr xs, i64 n] h ⟨Q⟩ := by
  refine cl_of fn_laws_szInstrS (D_laws_szInstrS_of ?_)
  unfold D_laws_szInstrS
  have hl := ho.1
  unfold maxLen at hl
  rw [szL_zero] at q2
  simp [↓go]
  rw [w64 (by omega) (by omega)]
  exact ⟨fun h1 => retW_ex q1, fun h1 => retW_ex (q2 (by omega))⟩
theorem S_toInstrS {xs : List MInstr} {h : AHeap} {Q : KA} (hs : szL (fun _ => 0) xs ≤ 1048576) (q : Q (encL encInstr xs) h) : @clM Tryz.prog 124 [encL encInstr xs] h ⟨Q⟩ := by
  refine cl_of fn_laws_toInstrS (D_laws_toInstrS_of ?_)
  unfold D_laws_toInstrS
  have hcl := szL_len (fun _ => 0) xs
  simp [↓go]
  refine ⟨by omega, by omega, fun g1 => ?_⟩
  refine lp_inv (fun s h' => ∃ i : Nat, i ≤ xs.length ∧ h' = h ++ [.row g1 4 ((xs.map encInstr).take i ++ List.replicate (xs.length - i) (.agg [i64 0, i64 0, i64 0, i64 0]))] ∧ s = [.rf h.length g1 0 xs.length, i64 i, encL encInstr xs]) (fun s _ => xs.length - natA (nthA s 1)) (Wk.refl ⟨0, by omega, by simp, by simp⟩) ?_
  rintro _ _ ⟨i, hi, rfl, rfl⟩
  simp [↓go]
  refine ⟨fun hlt => ?_, fun hge => ?_⟩
  · obtain ⟨x, hx⟩ : ∃ x, xs[i]? = some x := ⟨_, List.getElem?_eq_getElem hlt⟩
    obtain ⟨_, hxl⟩ := List.getElem?_eq_some_iff.1 hx
    have hms := fill_set encInstr xs hx (.agg [i64 0, i64 0, i64 0, i64 0])
    have hml := fill_len encInstr xs hi (.agg [i64 0, i64 0, i64 0, i64 0])
    have hma := fill_at encInstr xs hlt (.agg [i64 0, i64 0, i64 0, i64 0])
    generalize (xs.map encInstr).take i ++ List.replicate (xs.length - i) (.agg [i64 0, i64 0, i64 0, i64 0]) = row at hms hml hma ⊢
    simp [↓go, hx, hlt, hxl, hml, hma]
    refine S_toInstr  ?_
    simp [↓go, hml, hma]
    rw [w64 (by omega) (by omega)]
    first | refine wk_ex ?_ | refine ⟨by omega, wk_ex ?_⟩ | refine ⟨by omega, by omega, wk_ex ?_⟩ | fail
    refine And.intro ⟨i + 1, by omega, ?_, rfl⟩ ?_
    · rw [encInstr_eq] at hms; first | (simp [hms]; done) | exact congrArg (fun z => h ++ [AObj.row g1 _ z]) hms | fail
    · simp; omega
  · obtain rfl : i = xs.length := by omega
    simp
    refine wk_of (Wk.fzL (p := 0) rfl (l' := []) trivial (Wk.refl ?_))
    simpa [frz, Function.comp_def, List.take_of_length_le] using q
theorem S_eqInstrS {xs : List MInstr} {h : AHeap} {Q : KA} (hs : szL (fun _ => 0) xs ≤ 1048576) (q : Q tt h) : @clM Tryz.prog 132 [encL encInstr xs, encL encInstr xs] h ⟨Q⟩ := by
  refine cl_of fn_laws_eqInstrS (D_laws_eqInstrS_of ?_)
  unfold D_laws_eqInstrS
  have hcl := szL_len (fun _ => 0) xs
  simp [↓go]
  refine lp_inv (fun s h' => h = h' ∧ ∃ i : Nat, i ≤ xs.length ∧ s = [i64 i, encL encInstr xs, encL encInstr xs]) (fun s _ => xs.length - natA (nthA s 0)) (Wk.refl ⟨rfl, 0, by omega, rfl⟩) ?_
  rintro _ _ ⟨rfl, i, hi, rfl⟩
  simp [↓go]
  refine ⟨fun hlt => ?_, fun hge => retW_ex q⟩
  obtain ⟨x, hx⟩ : ∃ x, xs[i]? = some x := ⟨_, List.getElem?_eq_getElem hlt⟩
  obtain ⟨_, hxl⟩ := List.getElem?_eq_some_iff.1 hx
  simp [↓go, hx, hlt, hxl]
  refine S_eqInstr  ?_
  simp [↓go]
  rw [w64 (by omega) (by omega)]
  refine wk_ex ?_
  refine And.intro ⟨rfl, i + 1, by omega, rfl⟩ ?_
  simp; omega
structure MFunc where
  params : List Int
  result : Int
  locals : List Int
  code : List MInstr
theorem MFunc_ext {x y : MFunc} (h0 : x.params = y.params) (h1 : x.result = y.result) (h2 : x.locals = y.locals) (h3 : x.code = y.code) : x = y := by cases x; cases y; simp_all
def zFunc : MFunc := ⟨[], 0, [], []⟩
def encFunc (x : MFunc) : AVal := .agg [(encL i64) x.params, i64 x.result, (encL i64) x.locals, (encL encInstr) x.code]
@[simp] theorem encFunc_flat (x : MFunc) : (encFunc x).flat = [(encL i64) x.params, i64 x.result, (encL i64) x.locals, (encL encInstr) x.code] := rfl
@[simp] theorem encFunc_agg (x : MFunc) : (encFunc x).isAgg = true := rfl
@[simp] theorem frz_encFunc (r g : Nat) (xs : List AVal) (x : MFunc) : frz r g xs (encFunc x) = encFunc x := by simp [encFunc, frz, frz.frzs]
theorem encFunc_eq (x : MFunc) : encFunc x = .agg [(encL i64) x.params, i64 x.result, (encL i64) x.locals, (encL encInstr) x.code] := rfl
def okFunc (x : MFunc) : Prop := (okL (wfI .i64)) x.params ∧ (wfI .i64) x.result ∧ (okL (wfI .i64)) x.locals ∧ (okL okInstr) x.code
def szFunc (x : MFunc) : Nat := (szL (fun _ => 0)) x.params + (szL (fun _ => 0)) x.locals + (szL (fun _ => 0)) x.code
theorem rdFunc (W : World) (N : Nat) : RdN N Tryz.prog W 140 encFunc okFunc := by
  intro H enc fuel cs y hN h
  obtain ⟨ys, m, hm, _, hl, hn, hf⟩ := DataW.trod_struct Tryz.underlying140 h
  have hl : cs.length = 4 := hl.trans (by kernel_rfl)
  have hn : ys.length = 4 := hn
  match cs, hl, ys, hn with
  | [c0, c1, c2, c3], _, [y0, y1, y2, y3], _ =>
    obtain ⟨x0, k0, o0⟩ := (show RdN N Tryz.prog W 72 (encL i64) (okL (wfI .i64)) from (RdN.slice Tryz.underlying72 (s := 1) (by kernel_rfl) (by omega) (fun x => by first | rfl | simp) (RdN.int .i64 Tryz.underlying2))) enc m [c0] y0 (by omega) ((congrArg _ (by kernel_rfl)).trans (hf 0 _ rfl))
    obtain ⟨x1, k1, o1⟩ := (show RdN N Tryz.prog W 2 i64 (wfI .i64) from (RdN.int .i64 Tryz.underlying2)) enc m [c1] y1 (by omega) ((congrArg _ (by kernel_rfl)).trans (hf 1 _ rfl))
    obtain ⟨x2, k2, o2⟩ := (show RdN N Tryz.prog W 72 (encL i64) (okL (wfI .i64)) from (RdN.slice Tryz.underlying72 (s := 1) (by kernel_rfl) (by omega) (fun x => by first | rfl | simp) (RdN.int .i64 Tryz.underlying2))) enc m [c2] y2 (by omega) ((congrArg _ (by kernel_rfl)).trans (hf 2 _ rfl))
    obtain ⟨x3, k3, o3⟩ := (show RdN N Tryz.prog W 138 (encL encInstr) (okL okInstr) from (RdN.slice Tryz.underlying138 (s := 4) (by kernel_rfl) (by omega) (fun x => by first | rfl | simp) (rdInstr W _))) enc m [c3] y3 (by omega) ((congrArg _ (by kernel_rfl)).trans (hf 3 _ rfl))
    exact ⟨⟨x0, x1, x2, x3⟩, (RVL.app k0 (RVL.app k1 (RVL.app k2 k3))), ⟨o0, o1, o2, o3⟩⟩
theorem S_szFunc {x : MFunc} {n : Int} {h : AHeap} {Q : KA} (hn : 0 ≤ n ∧ n ≤ 1048576) (ho : okFunc x) (q1 : Q (i64 (-1)) h) (q2 : (szFunc x : Int) ≤ n → Q (i64 (n - szFunc x)) h) : @clM Tryz.prog 78 [encFunc x, i64 n] h ⟨Q⟩ := by
  obtain ⟨o0, o1, o2, o3⟩ := ho
  refine cl_of fn_laws_szFunc (D_laws_szFunc_of ?_)
  unfold D_laws_szFunc
  unfold szFunc at q2
  simp [↓go]
  refine S_szInt64S (by omega) o0 ?_ (fun h0 => ?_)
  · simp [↓go]
    exact retW_ex q1
  simp [↓go]
  refine ⟨fun hh => by omega, fun _ => ?_⟩
  refine S_szInt64S (by omega) o2 ?_ (fun h2 => ?_)
  · simp [↓go]
    exact retW_ex q1
  simp [↓go]
  refine ⟨fun hh => by omega, fun _ => ?_⟩
  refine S_szInstrS (by omega) o3 ?_ (fun h3 => ?_)
  · simp [↓go]
    exact retW_ex q1
  simp [↓go]
  refine ⟨fun hh => by omega, fun _ => ?_⟩
  refine retW_ex ?_
  have := q2 (by omega)
  refine Eq.mp (congrArg (fun z => Q (i64 z) h) ?_) this
  omega
theorem S_toFunc {x : MFunc} {h : AHeap} {Q : KA} (hs : szFunc x ≤ 1048576) (q : Q (encFunc x) h) : @clM Tryz.prog 86 [encFunc x] h ⟨Q⟩ := by
  refine cl_of fn_laws_toFunc (D_laws_toFunc_of ?_)
  unfold D_laws_toFunc
  unfold szFunc at hs
  simp [↓go]
  intro g2 g3
  refine S_toInt64S (by omega) ?_
  simp [↓go]
  refine S_toInt64S (by omega) ?_
  simp [↓go]
  refine S_toInstrS (by omega) ?_
  simp [↓go]
  refine wk_of (Wk.drop (Wk.refl ?_))
  exact q
theorem S_eqFunc {x : MFunc} {h : AHeap} {Q : KA} (hs : szFunc x ≤ 1048576) (q : Q tt h) : @clM Tryz.prog 97 [encFunc x, encFunc x] h ⟨Q⟩ := by
  refine cl_of fn_laws_eqFunc (D_laws_eqFunc_of ?_)
  unfold D_laws_eqFunc
  unfold szFunc at hs
  simp [↓go]
  refine S_eqInt64S (by omega) ?_
  simp [↓go]
  refine S_eqInt64S (by omega) ?_
  simp [↓go]
  refine S_eqInstrS (by omega) ?_
  simp [↓go]
  exact retW_ex q
theorem S_szFuncS {xs : List MFunc} {n : Int} {h : AHeap} {Q : KA} (hn : 0 ≤ n ∧ n ≤ 1048576) (ho : okL okFunc xs) (q1 : Q (i64 (-1)) h) (q2 : (szL szFunc xs : Int) ≤ n → Q (i64 (n - szL szFunc xs)) h) : @clM Tryz.prog 32 [encL encFunc xs, i64 n] h ⟨Q⟩ := by
  refine cl_of fn_laws_szFuncS (D_laws_szFuncS_of ?_)
  unfold D_laws_szFuncS
  have hl := ho.1
  unfold maxLen at hl
  simp [↓go]
  rw [w64 (by omega) (by omega)]
  refine ⟨fun h1 => retW_ex q1, fun h1 => ?_⟩
  refine lp_inv (fun s h' => h = h' ∧ ∃ i : Nat, i ≤ xs.length ∧ (szP szFunc xs i : Int) + xs.length ≤ n ∧ s = [i64 (n - xs.length - szP szFunc xs i), i64 i, encL encFunc xs]) (fun s _ => xs.length - natA (nthA s 1)) (Wk.refl ⟨rfl, 0, by omega, by rw [szP_zero]; omega, by simp [szP_zero]⟩) ?_
  rintro _ _ ⟨rfl, i, hi, hs, rfl⟩
  simp [↓go]
  refine ⟨fun hlt => ?_, fun hge => ?_⟩
  · obtain ⟨x, hx⟩ : ∃ x, xs[i]? = some x := ⟨_, List.getElem?_eq_getElem hlt⟩
    obtain ⟨_, hxl⟩ := List.getElem?_eq_some_iff.1 hx
    have hp := szP_succ (f := szFunc) hx
    simp [↓go, hx, hlt, hxl]
    refine S_szFunc (by omega) (okL_get ho hx) ?_ (fun hb => ?_)
    · simp [↓go]
      exact retW_ex q1
    simp [↓go]
    refine ⟨fun hneg => by omega, fun _ => ?_⟩
    rw [w64 (by omega) (by omega)]
    refine wk_ex ?_
    refine And.intro ⟨rfl, i + 1, by omega, by omega, ?_⟩ ?_
    · rw [hp]
      simp
      omega
    · simp; omega
  · obtain rfl : i = xs.length := by omega
    have ha := szP_all szFunc xs
    have := q2 (by omega)
    rw [show n - (xs.length : Int) - (szP szFunc xs xs.length : Int) = n - szL szFunc xs by omega]
    exact retW_ex this
theorem S_toFuncS {xs : List MFunc} {h : AHeap} {Q : KA} (hs : szL szFunc xs ≤ 1048576) (q : Q (encL encFunc xs) h) : @clM Tryz.prog 40 [encL encFunc xs] h ⟨Q⟩ := by
  refine cl_of fn_laws_toFuncS (D_laws_toFuncS_of ?_)
  unfold D_laws_toFuncS
  have hcl := szL_len szFunc xs
  simp [↓go]
  refine ⟨by omega, by omega, fun g1 => ?_⟩
  refine lp_inv (fun s h' => ∃ i : Nat, i ≤ xs.length ∧ h' = h ++ [.row g1 4 ((xs.map encFunc).take i ++ List.replicate (xs.length - i) (.agg [nilS, i64 0, nilS, nilS]))] ∧ s = [.rf h.length g1 0 xs.length, i64 i, encL encFunc xs]) (fun s _ => xs.length - natA (nthA s 1)) (Wk.refl ⟨0, by omega, by simp, by simp⟩) ?_
  rintro _ _ ⟨i, hi, rfl, rfl⟩
  simp [↓go]
  refine ⟨fun hlt => ?_, fun hge => ?_⟩
  · obtain ⟨x, hx⟩ : ∃ x, xs[i]? = some x := ⟨_, List.getElem?_eq_getElem hlt⟩
    obtain ⟨_, hxl⟩ := List.getElem?_eq_some_iff.1 hx
    have hms := fill_set encFunc xs hx (.agg [nilS, i64 0, nilS, nilS])
    have hml := fill_len encFunc xs hi (.agg [nilS, i64 0, nilS, nilS])
    have hma := fill_at encFunc xs hlt (.agg [nilS, i64 0, nilS, nilS])
    generalize (xs.map encFunc).take i ++ List.replicate (xs.length - i) (.agg [nilS, i64 0, nilS, nilS]) = row at hms hml hma ⊢
    simp [↓go, hx, hlt, hxl, hml, hma]
    refine S_toFunc (Nat.le_trans (szL_get hx) hs) ?_
    simp [↓go, hml, hma]
    rw [w64 (by omega) (by omega)]
    first | refine wk_ex ?_ | refine ⟨by omega, wk_ex ?_⟩ | refine ⟨by omega, by omega, wk_ex ?_⟩ | fail
    refine And.intro ⟨i + 1, by omega, ?_, rfl⟩ ?_
    · rw [encFunc_eq] at hms; first | (simp [hms]; done) | exact congrArg (fun z => h ++ [AObj.row g1 _ z]) hms | fail
    · simp; omega
  · obtain rfl : i = xs.length := by omega
    simp
    refine wk_of (Wk.fzL (p := 0) rfl (l' := []) trivial (Wk.refl ?_))
    simpa [frz, Function.comp_def, List.take_of_length_le] using q
theorem S_eqFuncS {xs : List MFunc} {h : AHeap} {Q : KA} (hs : szL szFunc xs ≤ 1048576) (q : Q tt h) : @clM Tryz.prog 48 [encL encFunc xs, encL encFunc xs] h ⟨Q⟩ := by
  refine cl_of fn_laws_eqFuncS (D_laws_eqFuncS_of ?_)
  unfold D_laws_eqFuncS
  have hcl := szL_len szFunc xs
  simp [↓go]
  refine lp_inv (fun s h' => h = h' ∧ ∃ i : Nat, i ≤ xs.length ∧ s = [i64 i, encL encFunc xs, encL encFunc xs]) (fun s _ => xs.length - natA (nthA s 0)) (Wk.refl ⟨rfl, 0, by omega, rfl⟩) ?_
  rintro _ _ ⟨rfl, i, hi, rfl⟩
  simp [↓go]
  refine ⟨fun hlt => ?_, fun hge => retW_ex q⟩
  obtain ⟨x, hx⟩ : ∃ x, xs[i]? = some x := ⟨_, List.getElem?_eq_getElem hlt⟩
  obtain ⟨_, hxl⟩ := List.getElem?_eq_some_iff.1 hx
  simp [↓go, hx, hlt, hxl]
  refine S_eqFunc (Nat.le_trans (szL_get hx) hs) ?_
  simp [↓go]
  rw [w64 (by omega) (by omega)]
  refine wk_ex ?_
  refine And.intro ⟨rfl, i + 1, by omega, rfl⟩ ?_
  simp; omega
structure MCert where
  func : Int
  head : Int
  counter : Int
  init : Int
theorem MCert_ext {x y : MCert} (h0 : x.func = y.func) (h1 : x.head = y.head) (h2 : x.counter = y.counter) (h3 : x.init = y.init) : x = y := by cases x; cases y; simp_all
def zCert : MCert := ⟨0, 0, 0, 0⟩
def encCert (x : MCert) : AVal := .agg [i64 x.func, i64 x.head, i64 x.counter, u32 x.init]
@[simp] theorem encCert_flat (x : MCert) : (encCert x).flat = [i64 x.func, i64 x.head, i64 x.counter, u32 x.init] := rfl
@[simp] theorem encCert_agg (x : MCert) : (encCert x).isAgg = true := rfl
@[simp] theorem frz_encCert (r g : Nat) (xs : List AVal) (x : MCert) : frz r g xs (encCert x) = encCert x := by simp [encCert, frz, frz.frzs]
theorem encCert_eq (x : MCert) : encCert x = .agg [i64 x.func, i64 x.head, i64 x.counter, u32 x.init] := rfl
def okCert (x : MCert) : Prop := (wfI .i64) x.func ∧ (wfI .i64) x.head ∧ (wfI .i64) x.counter ∧ (wfI .u32) x.init
theorem rdCert (W : World) (N : Nat) : RdN N Tryz.prog W 152 encCert okCert := by
  intro H enc fuel cs y hN h
  obtain ⟨ys, m, hm, _, hl, hn, hf⟩ := DataW.trod_struct Tryz.underlying152 h
  have hl : cs.length = 4 := hl.trans (by kernel_rfl)
  have hn : ys.length = 4 := hn
  match cs, hl, ys, hn with
  | [c0, c1, c2, c3], _, [y0, y1, y2, y3], _ =>
    obtain ⟨x0, k0, o0⟩ := (show RdN N Tryz.prog W 2 i64 (wfI .i64) from (RdN.int .i64 Tryz.underlying2)) enc m [c0] y0 (by omega) ((congrArg _ (by kernel_rfl)).trans (hf 0 _ rfl))
    obtain ⟨x1, k1, o1⟩ := (show RdN N Tryz.prog W 2 i64 (wfI .i64) from (RdN.int .i64 Tryz.underlying2)) enc m [c1] y1 (by omega) ((congrArg _ (by kernel_rfl)).trans (hf 1 _ rfl))
    obtain ⟨x2, k2, o2⟩ := (show RdN N Tryz.prog W 2 i64 (wfI .i64) from (RdN.int .i64 Tryz.underlying2)) enc m [c2] y2 (by omega) ((congrArg _ (by kernel_rfl)).trans (hf 2 _ rfl))
    obtain ⟨x3, k3, o3⟩ := (show RdN N Tryz.prog W 74 u32 (wfI .u32) from (RdN.int .u32 Tryz.underlying74)) enc m [c3] y3 (by omega) ((congrArg _ (by kernel_rfl)).trans (hf 3 _ rfl))
    exact ⟨⟨x0, x1, x2, x3⟩, (RVL.app k0 (RVL.app k1 (RVL.app k2 k3))), ⟨o0, o1, o2, o3⟩⟩
theorem S_toCert {x : MCert} {h : AHeap} {Q : KA} (q : Q (encCert x) h) : @clM Tryz.prog 87 [encCert x] h ⟨Q⟩ := by
  refine cl_of fn_laws_toCert (D_laws_toCert_of ?_)
  unfold D_laws_toCert
  simp [↓go]
  intro g2 g3
  refine wk_of (Wk.drop (Wk.refl ?_))
  exact q
theorem S_eqCert {x : MCert} {h : AHeap} {Q : KA} (q : Q tt h) : @clM Tryz.prog 98 [encCert x, encCert x] h ⟨Q⟩ := by
  refine cl_of fn_laws_eqCert (D_laws_eqCert_of ?_)
  unfold D_laws_eqCert
  simp [↓go]
  exact retW_ex q
theorem S_szCertS {xs : List MCert} {n : Int} {h : AHeap} {Q : KA} (hn : 0 ≤ n ∧ n ≤ 1048576) (ho : okL okCert xs) (q1 : Q (i64 (-1)) h) (q2 : (szL (fun _ => 0) xs : Int) ≤ n → Q (i64 (n - szL (fun _ => 0) xs)) h) : @clM Tryz.prog 33 [encL encCert xs, i64 n] h ⟨Q⟩ := by
  refine cl_of fn_laws_szCertS (D_laws_szCertS_of ?_)
  unfold D_laws_szCertS
  have hl := ho.1
  unfold maxLen at hl
  rw [szL_zero] at q2
  simp [↓go]
  rw [w64 (by omega) (by omega)]
  exact ⟨fun h1 => retW_ex q1, fun h1 => retW_ex (q2 (by omega))⟩
theorem S_toCertS {xs : List MCert} {h : AHeap} {Q : KA} (hs : szL (fun _ => 0) xs ≤ 1048576) (q : Q (encL encCert xs) h) : @clM Tryz.prog 41 [encL encCert xs] h ⟨Q⟩ := by
  refine cl_of fn_laws_toCertS (D_laws_toCertS_of ?_)
  unfold D_laws_toCertS
  have hcl := szL_len (fun _ => 0) xs
  simp [↓go]
  refine ⟨by omega, by omega, fun g1 => ?_⟩
  refine lp_inv (fun s h' => ∃ i : Nat, i ≤ xs.length ∧ h' = h ++ [.row g1 4 ((xs.map encCert).take i ++ List.replicate (xs.length - i) (.agg [i64 0, i64 0, i64 0, u32 0]))] ∧ s = [.rf h.length g1 0 xs.length, i64 i, encL encCert xs]) (fun s _ => xs.length - natA (nthA s 1)) (Wk.refl ⟨0, by omega, by simp, by simp⟩) ?_
  rintro _ _ ⟨i, hi, rfl, rfl⟩
  simp [↓go]
  refine ⟨fun hlt => ?_, fun hge => ?_⟩
  · obtain ⟨x, hx⟩ : ∃ x, xs[i]? = some x := ⟨_, List.getElem?_eq_getElem hlt⟩
    obtain ⟨_, hxl⟩ := List.getElem?_eq_some_iff.1 hx
    have hms := fill_set encCert xs hx (.agg [i64 0, i64 0, i64 0, u32 0])
    have hml := fill_len encCert xs hi (.agg [i64 0, i64 0, i64 0, u32 0])
    have hma := fill_at encCert xs hlt (.agg [i64 0, i64 0, i64 0, u32 0])
    generalize (xs.map encCert).take i ++ List.replicate (xs.length - i) (.agg [i64 0, i64 0, i64 0, u32 0]) = row at hms hml hma ⊢
    simp [↓go, hx, hlt, hxl, hml, hma]
    refine S_toCert  ?_
    simp [↓go, hml, hma]
    rw [w64 (by omega) (by omega)]
    first | refine wk_ex ?_ | refine ⟨by omega, wk_ex ?_⟩ | refine ⟨by omega, by omega, wk_ex ?_⟩ | fail
    refine And.intro ⟨i + 1, by omega, ?_, rfl⟩ ?_
    · rw [encCert_eq] at hms; first | (simp [hms]; done) | exact congrArg (fun z => h ++ [AObj.row g1 _ z]) hms | fail
    · simp; omega
  · obtain rfl : i = xs.length := by omega
    simp
    refine wk_of (Wk.fzL (p := 0) rfl (l' := []) trivial (Wk.refl ?_))
    simpa [frz, Function.comp_def, List.take_of_length_le] using q
theorem S_eqCertS {xs : List MCert} {h : AHeap} {Q : KA} (hs : szL (fun _ => 0) xs ≤ 1048576) (q : Q tt h) : @clM Tryz.prog 49 [encL encCert xs, encL encCert xs] h ⟨Q⟩ := by
  refine cl_of fn_laws_eqCertS (D_laws_eqCertS_of ?_)
  unfold D_laws_eqCertS
  have hcl := szL_len (fun _ => 0) xs
  simp [↓go]
  refine lp_inv (fun s h' => h = h' ∧ ∃ i : Nat, i ≤ xs.length ∧ s = [i64 i, encL encCert xs, encL encCert xs]) (fun s _ => xs.length - natA (nthA s 0)) (Wk.refl ⟨rfl, 0, by omega, rfl⟩) ?_
  rintro _ _ ⟨rfl, i, hi, rfl⟩
  simp [↓go]
  refine ⟨fun hlt => ?_, fun hge => retW_ex q⟩
  obtain ⟨x, hx⟩ : ∃ x, xs[i]? = some x := ⟨_, List.getElem?_eq_getElem hlt⟩
  obtain ⟨_, hxl⟩ := List.getElem?_eq_some_iff.1 hx
  simp [↓go, hx, hlt, hxl]
  refine S_eqCert  ?_
  simp [↓go]
  rw [w64 (by omega) (by omega)]
  refine wk_ex ?_
  refine And.intro ⟨rfl, i + 1, by omega, rfl⟩ ?_
  simp; omega
structure MProgram where
  regions : List (List Int)
  consts : List MConst
  funcs : List MFunc
  certs : List MCert
theorem MProgram_ext {x y : MProgram} (h0 : x.regions = y.regions) (h1 : x.consts = y.consts) (h2 : x.funcs = y.funcs) (h3 : x.certs = y.certs) : x = y := by cases x; cases y; simp_all
def zProgram : MProgram := ⟨[], [], [], []⟩
def encProgram (x : MProgram) : AVal := .agg [(encL (encL i64)) x.regions, (encL encConst) x.consts, (encL encFunc) x.funcs, (encL encCert) x.certs]
@[simp] theorem encProgram_flat (x : MProgram) : (encProgram x).flat = [(encL (encL i64)) x.regions, (encL encConst) x.consts, (encL encFunc) x.funcs, (encL encCert) x.certs] := rfl
@[simp] theorem encProgram_agg (x : MProgram) : (encProgram x).isAgg = true := rfl
@[simp] theorem frz_encProgram (r g : Nat) (xs : List AVal) (x : MProgram) : frz r g xs (encProgram x) = encProgram x := by simp [encProgram, frz, frz.frzs]
theorem encProgram_eq (x : MProgram) : encProgram x = .agg [(encL (encL i64)) x.regions, (encL encConst) x.consts, (encL encFunc) x.funcs, (encL encCert) x.certs] := rfl
def okProgram (x : MProgram) : Prop := (okL (okL (wfI .i64))) x.regions ∧ (okL okConst) x.consts ∧ (okL okFunc) x.funcs ∧ (okL okCert) x.certs
def szProgram (x : MProgram) : Nat := (szL (szL (fun _ => 0))) x.regions + (szL (fun _ => 0)) x.consts + (szL szFunc) x.funcs + (szL (fun _ => 0)) x.certs
theorem rdProgram (W : World) (N : Nat) : RdN N Tryz.prog W 27 encProgram okProgram := by
  intro H enc fuel cs y hN h
  obtain ⟨ys, m, hm, _, hl, hn, hf⟩ := DataW.trod_struct Tryz.underlying27 h
  have hl : cs.length = 4 := hl.trans (by kernel_rfl)
  have hn : ys.length = 4 := hn
  match cs, hl, ys, hn with
  | [c0, c1, c2, c3], _, [y0, y1, y2, y3], _ =>
    obtain ⟨x0, k0, o0⟩ := (show RdN N Tryz.prog W 22 (encL (encL i64)) (okL (okL (wfI .i64))) from (RdN.slice Tryz.underlying22 (s := 1) (by kernel_rfl) (by omega) (fun x => by first | rfl | simp) (RdN.slice Tryz.underlying72 (s := 1) (by kernel_rfl) (by omega) (fun x => by first | rfl | simp) (RdN.int .i64 Tryz.underlying2)))) enc m [c0] y0 (by omega) ((congrArg _ (by kernel_rfl)).trans (hf 0 _ rfl))
    obtain ⟨x1, k1, o1⟩ := (show RdN N Tryz.prog W 23 (encL encConst) (okL okConst) from (RdN.slice Tryz.underlying23 (s := 2) (by kernel_rfl) (by omega) (fun x => by first | rfl | simp) (rdConst W _))) enc m [c1] y1 (by omega) ((congrArg _ (by kernel_rfl)).trans (hf 1 _ rfl))
    obtain ⟨x2, k2, o2⟩ := (show RdN N Tryz.prog W 24 (encL encFunc) (okL okFunc) from (RdN.slice Tryz.underlying24 (s := 4) (by kernel_rfl) (by omega) (fun x => by first | rfl | simp) (rdFunc W _))) enc m [c2] y2 (by omega) ((congrArg _ (by kernel_rfl)).trans (hf 2 _ rfl))
    obtain ⟨x3, k3, o3⟩ := (show RdN N Tryz.prog W 25 (encL encCert) (okL okCert) from (RdN.slice Tryz.underlying25 (s := 4) (by kernel_rfl) (by omega) (fun x => by first | rfl | simp) (rdCert W _))) enc m [c3] y3 (by omega) ((congrArg _ (by kernel_rfl)).trans (hf 3 _ rfl))
    exact ⟨⟨x0, x1, x2, x3⟩, (RVL.app k0 (RVL.app k1 (RVL.app k2 k3))), ⟨o0, o1, o2, o3⟩⟩
theorem S_szProgram {x : MProgram} {n : Int} {h : AHeap} {Q : KA} (hn : 0 ≤ n ∧ n ≤ 1048576) (ho : okProgram x) (q1 : Q (i64 (-1)) h) (q2 : (szProgram x : Int) ≤ n → Q (i64 (n - szProgram x)) h) : @clM Tryz.prog 6 [encProgram x, i64 n] h ⟨Q⟩ := by
  obtain ⟨o0, o1, o2, o3⟩ := ho
  refine cl_of fn_laws_szProgram (D_laws_szProgram_of ?_)
  unfold D_laws_szProgram
  unfold szProgram at q2
  simp [↓go]
  refine S_szInt64SS (by omega) o0 ?_ (fun h0 => ?_)
  · simp [↓go]
    exact retW_ex q1
  simp [↓go]
  refine ⟨fun hh => by omega, fun _ => ?_⟩
  refine S_szConstS (by omega) o1 ?_ (fun h1 => ?_)
  · simp [↓go]
    exact retW_ex q1
  simp [↓go]
  refine ⟨fun hh => by omega, fun _ => ?_⟩
  refine S_szFuncS (by omega) o2 ?_ (fun h2 => ?_)
  · simp [↓go]
    exact retW_ex q1
  simp [↓go]
  refine ⟨fun hh => by omega, fun _ => ?_⟩
  refine S_szCertS (by omega) o3 ?_ (fun h3 => ?_)
  · simp [↓go]
    exact retW_ex q1
  simp [↓go]
  refine ⟨fun hh => by omega, fun _ => ?_⟩
  refine retW_ex ?_
  have := q2 (by omega)
  refine Eq.mp (congrArg (fun z => Q (i64 z) h) ?_) this
  omega
theorem S_toProgram {x : MProgram} {h : AHeap} {Q : KA} (hs : szProgram x ≤ 1048576) (q : Q (encProgram x) h) : @clM Tryz.prog 8 [encProgram x] h ⟨Q⟩ := by
  refine cl_of fn_laws_toProgram (D_laws_toProgram_of ?_)
  unfold D_laws_toProgram
  unfold szProgram at hs
  simp [↓go]
  intro g2 g3
  refine S_toInt64SS (by omega) ?_
  simp [↓go]
  refine S_toConstS (by omega) ?_
  simp [↓go]
  refine S_toFuncS (by omega) ?_
  simp [↓go]
  refine S_toCertS (by omega) ?_
  simp [↓go]
  refine wk_of (Wk.drop (Wk.refl ?_))
  exact q
theorem S_eqProgram {x : MProgram} {h : AHeap} {Q : KA} (hs : szProgram x ≤ 1048576) (q : Q tt h) : @clM Tryz.prog 11 [encProgram x, encProgram x] h ⟨Q⟩ := by
  refine cl_of fn_laws_eqProgram (D_laws_eqProgram_of ?_)
  unfold D_laws_eqProgram
  unfold szProgram at hs
  simp [↓go]
  refine S_eqInt64SS (by omega) ?_
  simp [↓go]
  refine S_eqConstS (by omega) ?_
  simp [↓go]
  refine S_eqFuncS (by omega) ?_
  simp [↓go]
  refine S_eqCertS (by omega) ?_
  simp [↓go]
  exact retW_ex q
theorem S_toByteS {xs : List Int} {h : AHeap} {Q : KA} (hs : szL (fun _ => 0) xs ≤ 1048576) (q : Q (encL u8 xs) h) : @clM Tryz.prog 16 [encL u8 xs] h ⟨Q⟩ := by
  refine cl_of fn_laws_toByteS (D_laws_toByteS_of ?_)
  unfold D_laws_toByteS
  have hcl := szL_len (fun _ => 0) xs
  simp [↓go]
  refine ⟨by omega, by omega, fun g1 => ?_⟩
  refine lp_inv (fun s h' => ∃ i : Nat, i ≤ xs.length ∧ h' = h ++ [.row g1 1 ((xs.map u8).take i ++ List.replicate (xs.length - i) (u8 0))] ∧ s = [.rf h.length g1 0 xs.length, i64 i, encL u8 xs]) (fun s _ => xs.length - natA (nthA s 1)) (Wk.refl ⟨0, by omega, by simp, by simp⟩) ?_
  rintro _ _ ⟨i, hi, rfl, rfl⟩
  simp [↓go]
  refine ⟨fun hlt => ?_, fun hge => ?_⟩
  · obtain ⟨x, hx⟩ : ∃ x, xs[i]? = some x := ⟨_, List.getElem?_eq_getElem hlt⟩
    obtain ⟨_, hxl⟩ := List.getElem?_eq_some_iff.1 hx
    have hms := fill_set u8 xs hx (u8 0)
    have hml := fill_len u8 xs hi (u8 0)
    have hma := fill_at u8 xs hlt (u8 0)
    generalize (xs.map u8).take i ++ List.replicate (xs.length - i) (u8 0) = row at hms hml hma ⊢
    simp [↓go, hx, hlt, hxl, hml, hma]
    rw [w64 (by omega) (by omega)]
    first | refine wk_ex ?_ | refine ⟨by omega, wk_ex ?_⟩ | refine ⟨by omega, by omega, wk_ex ?_⟩ | fail
    refine And.intro ⟨i + 1, by omega, ?_, rfl⟩ ?_
    · have hmx : row[i] = u8 0 := (List.getElem?_eq_some_iff.1 hma).2; (try rw [hmx]); first | (simp [hms]; done) | exact congrArg (fun z => h ++ [AObj.row g1 _ z]) hms | fail
    · simp; omega
  · obtain rfl : i = xs.length := by omega
    simp
    refine wk_of (Wk.fzL (p := 0) rfl (l' := []) trivial (Wk.refl ?_))
    simpa [frz, Function.comp_def, List.take_of_length_le] using q
theorem S_eqByteS {xs : List Int} {h : AHeap} {Q : KA} (hs : szL (fun _ => 0) xs ≤ 1048576) (q : Q tt h) : @clM Tryz.prog 10 [encL u8 xs, encL u8 xs] h ⟨Q⟩ := by
  refine cl_of fn_laws_eqByteS (D_laws_eqByteS_of ?_)
  unfold D_laws_eqByteS
  have hcl := szL_len (fun _ => 0) xs
  simp [↓go]
  refine lp_inv (fun s h' => h = h' ∧ ∃ i : Nat, i ≤ xs.length ∧ s = [i64 i, encL u8 xs, encL u8 xs]) (fun s _ => xs.length - natA (nthA s 0)) (Wk.refl ⟨rfl, 0, by omega, rfl⟩) ?_
  rintro _ _ ⟨rfl, i, hi, rfl⟩
  simp [↓go]
  refine ⟨fun hlt => ?_, fun hge => retW_ex q⟩
  obtain ⟨x, hx⟩ : ∃ x, xs[i]? = some x := ⟨_, List.getElem?_eq_getElem hlt⟩
  obtain ⟨_, hxl⟩ := List.getElem?_eq_some_iff.1 hx
  simp [↓go, hx, hlt, hxl]
  rw [w64 (by omega) (by omega)]
  refine wk_ex ?_
  refine And.intro ⟨rfl, i + 1, by omega, rfl⟩ ?_
  simp; omega
end Go.Proofs.YtkfpoagnchahkaaGreat.A
