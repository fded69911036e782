/- Of this session: over the abstract machine. -/
import Derived.Test.YtkfpoagnchahkaaGreatProg
import Derived.Test.YtkfpoagnchahkaaGreatA
import Derived.Test.YtkfpoagnchahkaaGreatB
import Derived.Test.YtkfpoagnchahkaaGreatD
import Derived.Test.YtkfpoagnchahkaaGreatT
import Derived.Test.YtkfpoagnchahkaaGreatO
namespace Go.Proofs.YtkfpoagnchahkaaGreat.A
open Go Go.RowKit
set_option linter.unusedVariables false
set_option linter.unusedSimpArgs false
set_option maxRecDepth 100000
set_option maxHeartbeats 1000000
theorem mk_le {α : Type} {e : α → AVal} {f : α → Nat} (hx : ∀ (x : α) (k : Int), (markT true (e x) k).2 ≤ k + 16 * (1 + (f x : Int))) : ∀ (xs : List α) (k : Int), (markL true (xs.map e) k).2 ≤ k + 16 * (szL f xs : Int)
  | [], k => by simp [markL, szL]
  | x :: xs, k => by
    have h1 := hx x k
    have h2 := mk_le hx xs (markT true (e x) k).2
    have h3 : szL f (x :: xs) = szL f xs + 1 + f x := by unfold szL; simp; omega
    rw [h3]
    simp only [List.map_cons, markL]
    omega
theorem mbI64 (x : Int) (k : Int) : (markT true (i64 x) k).2 ≤ k + 16 * (1 + ((0 : Nat) : Int)) := by simp [markT, markV]
theorem mbU32 (x : Int) (k : Int) : (markT true (u32 x) k).2 ≤ k + 16 * (1 + ((0 : Nat) : Int)) := by simp [markT, markV]
theorem mbU8 (x : Int) (k : Int) : (markT true (u8 x) k).2 ≤ k + 16 * (1 + ((0 : Nat) : Int)) := by simp [markT, markV]
theorem mbBl (x : Bool) (k : Int) : (markT true (bl x) k).2 ≤ k + 16 * (1 + ((0 : Nat) : Int)) := by simp [markT, markV]
theorem mbInt64S (x : List Int) (k : Int) : (markT true (encL i64 x) k).2 ≤ k + 16 * (1 + (szL (fun _ => 0) x : Int)) := by
  have := mk_le (e := i64) (f := (fun _ => 0)) mbI64 x k
  simp only [markT]
  omega
theorem mbInt64SS (x : List (List Int)) (k : Int) : (markT true (encL (encL i64) x) k).2 ≤ k + 16 * (1 + (szL (szL (fun _ => 0)) x : Int)) := by
  have := mk_le (e := (encL i64)) (f := (szL (fun _ => 0))) mbInt64S x k
  simp only [markT]
  omega
theorem mbConst (x : MConst) (k : Int) : (markT true (encConst x) k).2 ≤ k + 16 * (1 + (((0 : Nat) : Int) : Int)) := by
  rw [encConst_eq]
  simp only [markT, markL, markV]
  omega
theorem mbConstS (x : List MConst) (k : Int) : (markT true (encL encConst x) k).2 ≤ k + 16 * (1 + (szL (fun _ => 0) x : Int)) := by
  have := mk_le (e := encConst) (f := (fun _ => 0)) mbConst x k
  simp only [markT]
  omega
theorem mbInstr (x : MInstr) (k : Int) : (markT true (encInstr x) k).2 ≤ k + 16 * (1 + (((0 : Nat) : Int) : Int)) := by
  rw [encInstr_eq]
  simp only [markT, markL, markV]
  omega
theorem mbInstrS (x : List MInstr) (k : Int) : (markT true (encL encInstr x) k).2 ≤ k + 16 * (1 + (szL (fun _ => 0) x : Int)) := by
  have := mk_le (e := encInstr) (f := (fun _ => 0)) mbInstr x k
  simp only [markT]
  omega
theorem mbFunc (x : MFunc) (k : Int) : (markT true (encFunc x) k).2 ≤ k + 16 * (1 + (szFunc x : Int)) := by
  rw [encFunc_eq]
  simp only [markT, markL, markV]
  have h0 := mk_le (e := i64) (f := (fun _ => 0)) mbI64 x.params k
  have h2 := mk_le (e := i64) (f := (fun _ => 0)) mbI64 x.locals ((markL true (x.params.map i64) k).2 + 1)
  have h3 := mk_le (e := encInstr) (f := (fun _ => 0)) mbInstr x.code ((markL true (x.locals.map i64) ((markL true (x.params.map i64) k).2 + 1)).2)
  unfold szFunc
  omega
theorem mvFunc (x : MFunc) (k : Int) : (markT false (encFunc x) k).2 ≤ k + 16 * (szFunc x : Int) := by
  rw [encFunc_eq]
  simp only [markT, markL, markV]
  unfold szFunc
  have h0 := mk_le (e := i64) (f := (fun _ => 0)) mbI64 x.params k
  have h2 := mk_le (e := i64) (f := (fun _ => 0)) mbI64 x.locals ((markL true (x.params.map i64) k).2)
  have h3 := mk_le (e := encInstr) (f := (fun _ => 0)) mbInstr x.code ((markL true (x.locals.map i64) ((markL true (x.params.map i64) k).2)).2)
  omega
theorem mbFuncS (x : List MFunc) (k : Int) : (markT true (encL encFunc x) k).2 ≤ k + 16 * (1 + (szL szFunc x : Int)) := by
  have := mk_le (e := encFunc) (f := szFunc) mbFunc x k
  simp only [markT]
  omega
theorem mbCert (x : MCert) (k : Int) : (markT true (encCert x) k).2 ≤ k + 16 * (1 + (((0 : Nat) : Int) : Int)) := by
  rw [encCert_eq]
  simp only [markT, markL, markV]
  omega
theorem mbCertS (x : List MCert) (k : Int) : (markT true (encL encCert x) k).2 ≤ k + 16 * (1 + (szL (fun _ => 0) x : Int)) := by
  have := mk_le (e := encCert) (f := (fun _ => 0)) mbCert x k
  simp only [markT]
  omega
theorem mbProgram (x : MProgram) (k : Int) : (markT true (encProgram x) k).2 ≤ k + 16 * (1 + (szProgram x : Int)) := by
  rw [encProgram_eq]
  simp only [markT, markL, markV]
  have h0 := mk_le (e := (encL i64)) (f := (szL (fun _ => 0))) mbInt64S x.regions k
  have h1 := mk_le (e := encConst) (f := (fun _ => 0)) mbConst x.consts ((markL true (x.regions.map (encL i64)) k).2)
  have h2 := mk_le (e := encFunc) (f := szFunc) mbFunc x.funcs ((markL true (x.consts.map encConst) ((markL true (x.regions.map (encL i64)) k).2)).2)
  have h3 := mk_le (e := encCert) (f := (fun _ => 0)) mbCert x.certs ((markL true (x.funcs.map encFunc) ((markL true (x.consts.map encConst) ((markL true (x.regions.map (encL i64)) k).2)).2)).2)
  unfold szProgram
  omega
theorem mvProgram (x : MProgram) (k : Int) : (markT false (encProgram x) k).2 ≤ k + 16 * (szProgram x : Int) := by
  rw [encProgram_eq]
  simp only [markT, markL, markV]
  unfold szProgram
  have h0 := mk_le (e := (encL i64)) (f := (szL (fun _ => 0))) mbInt64S x.regions k
  have h1 := mk_le (e := encConst) (f := (fun _ => 0)) mbConst x.consts ((markL true (x.regions.map (encL i64)) k).2)
  have h2 := mk_le (e := encFunc) (f := szFunc) mbFunc x.funcs ((markL true (x.consts.map encConst) ((markL true (x.regions.map (encL i64)) k).2)).2)
  have h3 := mk_le (e := encCert) (f := (fun _ => 0)) mbCert x.certs ((markL true (x.funcs.map encFunc) ((markL true (x.consts.map encConst) ((markL true (x.regions.map (encL i64)) k).2)).2)).2)
  omega
theorem mbByteS (x : List Int) (k : Int) : (markT true (encL u8 x) k).2 ≤ k + 16 * (1 + (szL (fun _ => 0) x : Int)) := by
  have := mk_le (e := u8) (f := (fun _ => 0)) mbU8 x k
  simp only [markT]
  omega
theorem O_toInt64S {xs : List Int} {h : AHeap} {Q : KA} (hs : szL (fun _ => 0) xs ≤ 1048576) (q : ∀ y l, Made h y (encL i64 xs) l → Q y (h ++ l)) : @clM Tryz.prog 84 [encL i64 xs] h ⟨Q⟩ := by
  refine cl_of fn_laws_toInt64S (D_laws_toInt64S_of ?_)
  unfold D_laws_toInt64S
  have hcl := szL_len (fun _ => 0) xs
  simp [↓go]
  refine ⟨by omega, by omega, fun g1 => ?_⟩
  refine lp_inv (fun s h' => ∃ i : Nat, i ≤ xs.length ∧ h' = h ++ [.row g1 1 ((xs.map i64).take i ++ List.replicate (xs.length - i) (i64 0))] ∧ s = [.rf h.length g1 0 xs.length, i64 i, encL i64 xs]) (fun s _ => xs.length - natA (nthA s 1)) (Wk.refl ⟨0, by omega, by simp, by simp⟩) ?_
  rintro _ _ ⟨i, hi, rfl, rfl⟩
  simp [↓go]
  refine ⟨fun hlt => ?_, fun hge => ?_⟩
  · obtain ⟨x, hx⟩ : ∃ x, xs[i]? = some x := ⟨_, List.getElem?_eq_getElem hlt⟩
    obtain ⟨_, hxl⟩ := List.getElem?_eq_some_iff.1 hx
    have hms := fill_set i64 xs hx (i64 0)
    have hml := fill_len i64 xs hi (i64 0)
    have hma := fill_at i64 xs hlt (i64 0)
    generalize (xs.map i64).take i ++ List.replicate (xs.length - i) (i64 0) = row at hms hml hma ⊢
    simp [↓go, hx, hlt, hxl, hml, hma]
    rw [w64 (by omega) (by omega)]
    first | refine wk_ex ?_ | refine ⟨by omega, wk_ex ?_⟩ | refine ⟨by omega, by omega, wk_ex ?_⟩ | fail
    refine And.intro ⟨i + 1, by omega, ?_, rfl⟩ ?_
    · have hmx : row[i] = i64 0 := (List.getElem?_eq_some_iff.1 hma).2; (try rw [hmx]); first | (simp [hms]; done) | exact congrArg (fun z => h ++ [AObj.row g1 _ z]) hms | fail
    · simp; omega
  · obtain rfl : i = xs.length := by omega
    simp
    refine wk_of (Wk.made (rs := [h.length]) (Own.rf_mk (g := g1) (s := 1) (ys := xs.map i64) (by simp [List.take_of_length_le]) (by simp) (Own.map (fun x => .v rfl .nil) xs) (by simp)) (by simp) (fun l' hm => q _ _ hm))
theorem O_toInt64SS {xs : List (List Int)} {h : AHeap} {Q : KA} (hs : szL (szL (fun _ => 0)) xs ≤ 1048576) (q : ∀ y l, Made h y (encL (encL i64) xs) l → Q y (h ++ l)) : @clM Tryz.prog 38 [encL (encL i64) xs] h ⟨Q⟩ := by
  refine cl_of fn_laws_toInt64SS (D_laws_toInt64SS_of ?_)
  unfold D_laws_toInt64SS
  have hcl := szL_len (szL (fun _ => 0)) xs
  simp [↓go]
  refine ⟨by omega, by omega, fun g1 => ?_⟩
  refine lp_inv (fun s h' => ∃ (i : Nat) (ys : List AVal) (l : AHeap) (rs : List Nat), i ≤ xs.length ∧ h' = h ++ (.row g1 1 (ys ++ List.replicate (xs.length - i) (nilS)) :: l) ∧ ys.length = i ∧ Own h' ys ((xs.take i).map (encL i64)) rs ∧ (∀ r ∈ rs, h.length + 1 ≤ r) ∧ s = [.rf h.length g1 0 xs.length, i64 i, encL (encL i64) xs]) (fun s _ => xs.length - natA (nthA s 1)) (Wk.refl ⟨0, [], [], [], by omega, by simp, rfl, .nil, by simp, by simp⟩) ?_
  rintro _ _ ⟨i, ys, l, rs, hi, rfl, hyl, ho, hrs, rfl⟩
  simp [↓go]
  refine ⟨fun hlt => ?_, fun hge => ?_⟩
  · obtain ⟨x, hx⟩ : ∃ x, xs[i]? = some x := ⟨_, List.getElem?_eq_getElem hlt⟩
    obtain ⟨_, hxl⟩ := List.getElem?_eq_some_iff.1 hx
    simp [↓go, hx, hlt, hxl]
    refine O_toInt64S (Nat.le_trans (szL_get hx) hs) (fun y l1 hm => ?_)
    obtain ⟨r1, o1, b1, _⟩ := hm
    obtain ⟨k, hk⟩ : ∃ k, xs.length - i = k + 1 := ⟨xs.length - i - 1, by omega⟩
    obtain ⟨f1, c1, a1⟩ := o1.sl_cell
    simp [↓go, f1, c1, a1, hk, hyl, List.replicate_succ]
    rw [w64 (by omega) (by omega)]
    first | refine wk_ex ?_ | refine ⟨by omega, wk_ex ?_⟩ | refine ⟨by omega, by omega, wk_ex ?_⟩ | fail
    obtain ⟨e1, e2⟩ := Own.fill (R' := .row g1 1 (ys ++ y :: List.replicate k (nilS))) ho hrs o1 b1
    refine And.intro ⟨i + 1, ys ++ [y], l ++ l1, rs ++ r1, by omega, ?_, by simp [hyl], ?_, e2, rfl⟩ ?_
    · simp [show xs.length - (i + 1) = k by omega]
    · rw [List.take_add_one, hx, List.map_append]; exact e1
    · simp; omega
  · obtain rfl : i = xs.length := by omega
    simp [List.take_of_length_le] at ho ⊢
    exact wk_of (Wk.made_row hyl ho hrs (fun l' hm => q _ _ hm))
theorem owConst (h : AHeap) (x : MConst) : Own h [encConst x] [encConst x] [] := .ag (.v rfl (.v rfl .nil)) .nil (by simp)
theorem O_toConstS {xs : List MConst} {h : AHeap} {Q : KA} (hs : szL (fun _ => 0) xs ≤ 1048576) (q : ∀ y l, Made h y (encL encConst xs) l → Q y (h ++ l)) : @clM Tryz.prog 39 [encL encConst xs] h ⟨Q⟩ := by
  refine cl_of fn_laws_toConstS (D_laws_toConstS_of ?_)
  unfold D_laws_toConstS
  have hcl := szL_len (fun _ => 0) xs
  simp [↓go]
  refine ⟨by omega, by omega, fun g1 => ?_⟩
  refine lp_inv (fun s h' => ∃ i : Nat, i ≤ xs.length ∧ h' = h ++ [.row g1 2 ((xs.map encConst).take i ++ List.replicate (xs.length - i) (.agg [i64 0, u32 0]))] ∧ s = [.rf h.length g1 0 xs.length, i64 i, encL encConst xs]) (fun s _ => xs.length - natA (nthA s 1)) (Wk.refl ⟨0, by omega, by simp, by simp⟩) ?_
  rintro _ _ ⟨i, hi, rfl, rfl⟩
  simp [↓go]
  refine ⟨fun hlt => ?_, fun hge => ?_⟩
  · obtain ⟨x, hx⟩ : ∃ x, xs[i]? = some x := ⟨_, List.getElem?_eq_getElem hlt⟩
    obtain ⟨_, hxl⟩ := List.getElem?_eq_some_iff.1 hx
    have hms := fill_set encConst xs hx (.agg [i64 0, u32 0])
    have hml := fill_len encConst xs hi (.agg [i64 0, u32 0])
    have hma := fill_at encConst xs hlt (.agg [i64 0, u32 0])
    generalize (xs.map encConst).take i ++ List.replicate (xs.length - i) (.agg [i64 0, u32 0]) = row at hms hml hma ⊢
    simp [↓go, hx, hlt, hxl, hml, hma]
    refine S_toConst ?_
    simp [↓go, hml, hma]
    rw [w64 (by omega) (by omega)]
    first | refine wk_ex ?_ | refine ⟨by omega, wk_ex ?_⟩ | refine ⟨by omega, by omega, wk_ex ?_⟩ | fail
    refine And.intro ⟨i + 1, by omega, ?_, rfl⟩ ?_
    · rw [encConst_eq] at hms; first | (simp [hms]; done) | exact congrArg (fun z => h ++ [AObj.row g1 _ z]) hms | fail
    · simp; omega
  · obtain rfl : i = xs.length := by omega
    simp
    refine wk_of (Wk.made (rs := [h.length]) (Own.rf_mk (g := g1) (s := 2) (ys := xs.map encConst) (by simp [List.take_of_length_le]) (by simp) (Own.map (fun x => owConst _ x) xs) (by simp)) (by simp) (fun l' hm => q _ _ hm))
theorem owInstr (h : AHeap) (x : MInstr) : Own h [encInstr x] [encInstr x] [] := .ag (.v rfl (.v rfl (.v rfl (.v rfl .nil)))) .nil (by simp)
theorem O_toInstrS {xs : List MInstr} {h : AHeap} {Q : KA} (hs : szL (fun _ => 0) xs ≤ 1048576) (q : ∀ y l, Made h y (encL encInstr xs) l → Q y (h ++ l)) : @clM Tryz.prog 124 [encL encInstr xs] h ⟨Q⟩ := by
  refine cl_of fn_laws_toInstrS (D_laws_toInstrS_of ?_)
  unfold D_laws_toInstrS
  have hcl := szL_len (fun _ => 0) xs
  simp [↓go]
  refine ⟨by omega, by omega, fun g1 => ?_⟩
  refine lp_inv (fun s h' => ∃ i : Nat, i ≤ xs.length ∧ h' = h ++ [.row g1 4 ((xs.map encInstr).take i ++ List.replicate (xs.length - i) (.agg [i64 0, i64 0, i64 0, i64 0]))] ∧ s = [.rf h.length g1 0 xs.length, i64 i, encL encInstr xs]) (fun s _ => xs.length - natA (nthA s 1)) (Wk.refl ⟨0, by omega, by simp, by simp⟩) ?_
  rintro _ _ ⟨i, hi, rfl, rfl⟩
  simp [↓go]
  refine ⟨fun hlt => ?_, fun hge => ?_⟩
  · obtain ⟨x, hx⟩ : ∃ x, xs[i]? = some x := ⟨_, List.getElem?_eq_getElem hlt⟩
    obtain ⟨_, hxl⟩ := List.getElem?_eq_some_iff.1 hx
    have hms := fill_set encInstr xs hx (.agg [i64 0, i64 0, i64 0, i64 0])
    have hml := fill_len encInstr xs hi (.agg [i64 0, i64 0, i64 0, i64 0])
    have hma := fill_at encInstr xs hlt (.agg [i64 0, i64 0, i64 0, i64 0])
    generalize (xs.map encInstr).take i ++ List.replicate (xs.length - i) (.agg [i64 0, i64 0, i64 0, i64 0]) = row at hms hml hma ⊢
    simp [↓go, hx, hlt, hxl, hml, hma]
    refine S_toInstr ?_
    simp [↓go, hml, hma]
    rw [w64 (by omega) (by omega)]
    first | refine wk_ex ?_ | refine ⟨by omega, wk_ex ?_⟩ | refine ⟨by omega, by omega, wk_ex ?_⟩ | fail
    refine And.intro ⟨i + 1, by omega, ?_, rfl⟩ ?_
    · rw [encInstr_eq] at hms; first | (simp [hms]; done) | exact congrArg (fun z => h ++ [AObj.row g1 _ z]) hms | fail
    · simp; omega
  · obtain rfl : i = xs.length := by omega
    simp
    refine wk_of (Wk.made (rs := [h.length]) (Own.rf_mk (g := g1) (s := 4) (ys := xs.map encInstr) (by simp [List.take_of_length_le]) (by simp) (Own.map (fun x => owInstr _ x) xs) (by simp)) (by simp) (fun l' hm => q _ _ hm))
theorem O_toFunc {x : MFunc} {h : AHeap} {Q : KA} (hs : szFunc x ≤ 1048576) (q : ∀ y l, Made h y (encFunc x) l → Q y (h ++ l)) : @clM Tryz.prog 86 [encFunc x] h ⟨Q⟩ := by
  refine cl_of fn_laws_toFunc (D_laws_toFunc_of ?_)
  unfold D_laws_toFunc
  unfold szFunc at hs
  simp [↓go]
  intro g2 g3
  refine O_toInt64S (by omega) (fun y0 l0 m0 => ?_)
  obtain ⟨s0, o0, b0, _⟩ := m0
  obtain ⟨f0, c0, a0⟩ := o0.sl_cell
  simp [↓go, f0, c0, a0]
  refine O_toInt64S (by omega) (fun y2 l2 m2 => ?_)
  obtain ⟨s2, o2, b2, _⟩ := m2
  obtain ⟨f2, c2, a2⟩ := o2.sl_cell
  simp [↓go, f0, c0, a0, f2, c2, a2]
  refine O_toInstrS (by omega) (fun y3 l3 m3 => ?_)
  obtain ⟨s3, o3, b3, _⟩ := m3
  obtain ⟨f3, c3, a3⟩ := o3.sl_cell
  simp [↓go, f0, c0, a0, f2, c2, a2, f3, c3, a3]
  have e0 := Own.start h [.row g2 4 [.agg [nilS, i64 0, nilS, nilS]], .row g3 4 [.agg [nilS, i64 0, nilS, nilS]]]
  have e1 := Own.more (bx' := [.row g2 4 [.agg [nilS, i64 0, nilS, nilS]], .row g3 4 [.agg [nilS, i64 0, nilS, nilS]]]) e0 rfl (by simpa using o0) (by simpa using b0)
  have e2 := Own.snocv (.int .i64 x.result) rfl e1
  have e3 := Own.more (bx' := [.row g2 4 [.agg [nilS, i64 0, nilS, nilS]], .row g3 4 [.agg [y0, i64 x.result, nilS, nilS]]]) e2 rfl (by simpa using o2) (by simpa using b2)
  have e4 := Own.more (bx' := [.row g2 4 [.agg [nilS, i64 0, nilS, nilS]], .row g3 4 [.agg [y0, i64 x.result, y2, nilS]]]) e3 rfl (by simpa using o3) (by simpa using b3)
  refine wk_of ?_
  have := Wk.made_agg (J := fun s h' => Q (nthA s 0) h') (bx' := [.row g2 4 [.agg [y0, i64 x.result, y2, y3]], .row g3 4 [.agg [y0, i64 x.result, y2, y3]]]) e4 rfl (fun l' hm => q _ _ hm)
  simpa using this
theorem O_toFuncS {xs : List MFunc} {h : AHeap} {Q : KA} (hs : szL szFunc xs ≤ 1048576) (q : ∀ y l, Made h y (encL encFunc xs) l → Q y (h ++ l)) : @clM Tryz.prog 40 [encL encFunc xs] h ⟨Q⟩ := by
  refine cl_of fn_laws_toFuncS (D_laws_toFuncS_of ?_)
  unfold D_laws_toFuncS
  have hcl := szL_len szFunc xs
  simp [↓go]
  refine ⟨by omega, by omega, fun g1 => ?_⟩
  refine lp_inv (fun s h' => ∃ (i : Nat) (ys : List AVal) (l : AHeap) (rs : List Nat), i ≤ xs.length ∧ h' = h ++ (.row g1 4 (ys ++ List.replicate (xs.length - i) (.agg [nilS, i64 0, nilS, nilS])) :: l) ∧ ys.length = i ∧ Own h' ys ((xs.take i).map encFunc) rs ∧ (∀ r ∈ rs, h.length + 1 ≤ r) ∧ s = [.rf h.length g1 0 xs.length, i64 i, encL encFunc xs]) (fun s _ => xs.length - natA (nthA s 1)) (Wk.refl ⟨0, [], [], [], by omega, by simp, rfl, .nil, by simp, by simp⟩) ?_
  rintro _ _ ⟨i, ys, l, rs, hi, rfl, hyl, ho, hrs, rfl⟩
  simp [↓go]
  refine ⟨fun hlt => ?_, fun hge => ?_⟩
  · obtain ⟨x, hx⟩ : ∃ x, xs[i]? = some x := ⟨_, List.getElem?_eq_getElem hlt⟩
    obtain ⟨_, hxl⟩ := List.getElem?_eq_some_iff.1 hx
    simp [↓go, hx, hlt, hxl]
    refine O_toFunc (Nat.le_trans (szL_get hx) hs) (fun y l1 hm => ?_)
    obtain ⟨r1, o1, b1, _⟩ := hm
    obtain ⟨k, hk⟩ : ∃ k, xs.length - i = k + 1 := ⟨xs.length - i - 1, by omega⟩
    rw [encFunc_eq] at o1
    obtain ⟨cs, rfl, oc⟩ := o1.agg_inv2
    obtain ⟨c0, _, _, rfl, oc0⟩ := oc.cons_ex
    obtain ⟨c1, _, _, rfl, oc1⟩ := oc0.cons_ex
    obtain ⟨c2, _, _, rfl, oc2⟩ := oc1.cons_ex
    obtain ⟨c3, _, _, rfl, oc3⟩ := oc2.cons_ex
    obtain ⟨rfl, -⟩ := oc3.nil_inv
    obtain ⟨f0, a0, g0⟩ : c0.flat = [c0] ∧ c0.c1 = true ∧ c0.isAgg = false := by
      obtain ⟨t, qs, e, o, _⟩ := oc.at (i := 0) rfl
      cases e
      exact o.sl_cell
    have ev1 : c1 = i64 x.result := by
      obtain ⟨t, qs, e, o, _⟩ := oc.at (i := 1) rfl
      cases e
      exact o.v_inv.1
    subst ev1
    obtain ⟨f2, a2, g2⟩ : c2.flat = [c2] ∧ c2.c1 = true ∧ c2.isAgg = false := by
      obtain ⟨t, qs, e, o, _⟩ := oc.at (i := 2) rfl
      cases e
      exact o.sl_cell
    obtain ⟨f3, a3, g3⟩ : c3.flat = [c3] ∧ c3.c1 = true ∧ c3.isAgg = false := by
      obtain ⟨t, qs, e, o, _⟩ := oc.at (i := 3) rfl
      cases e
      exact o.sl_cell
    simp [↓go, f0, a0, g0, f2, a2, g2, f3, a3, g3, hk, hyl, List.replicate_succ]
    rw [w64 (by omega) (by omega)]
    first | refine wk_ex ?_ | refine ⟨by omega, wk_ex ?_⟩ | refine ⟨by omega, by omega, wk_ex ?_⟩ | fail
    obtain ⟨e1, e2⟩ := Own.fill (R' := .row g1 4 (ys ++ .agg [c0, i64 x.result, c2, c3] :: List.replicate k (.agg [nilS, i64 0, nilS, nilS]))) ho hrs o1 b1
    refine And.intro ⟨i + 1, ys ++ [.agg [c0, i64 x.result, c2, c3]], l ++ l1, rs ++ r1, by omega, ?_, by simp [hyl], ?_, e2, rfl⟩ ?_
    · simp [show xs.length - (i + 1) = k by omega]
    · rw [List.take_add_one, hx, List.map_append]; exact e1
    · simp; omega
  · obtain rfl : i = xs.length := by omega
    simp [List.take_of_length_le] at ho ⊢
    exact wk_of (Wk.made_row hyl ho hrs (fun l' hm => q _ _ hm))
theorem owCert (h : AHeap) (x : MCert) : Own h [encCert x] [encCert x] [] := .ag (.v rfl (.v rfl (.v rfl (.v rfl .nil)))) .nil (by simp)
theorem O_toCertS {xs : List MCert} {h : AHeap} {Q : KA} (hs : szL (fun _ => 0) xs ≤ 1048576) (q : ∀ y l, Made h y (encL encCert xs) l → Q y (h ++ l)) : @clM Tryz.prog 41 [encL encCert xs] h ⟨Q⟩ := by
  refine cl_of fn_laws_toCertS (D_laws_toCertS_of ?_)
  unfold D_laws_toCertS
  have hcl := szL_len (fun _ => 0) xs
  simp [↓go]
  refine ⟨by omega, by omega, fun g1 => ?_⟩
  refine lp_inv (fun s h' => ∃ i : Nat, i ≤ xs.length ∧ h' = h ++ [.row g1 4 ((xs.map encCert).take i ++ List.replicate (xs.length - i) (.agg [i64 0, i64 0, i64 0, u32 0]))] ∧ s = [.rf h.length g1 0 xs.length, i64 i, encL encCert xs]) (fun s _ => xs.length - natA (nthA s 1)) (Wk.refl ⟨0, by omega, by simp, by simp⟩) ?_
  rintro _ _ ⟨i, hi, rfl, rfl⟩
  simp [↓go]
  refine ⟨fun hlt => ?_, fun hge => ?_⟩
  · obtain ⟨x, hx⟩ : ∃ x, xs[i]? = some x := ⟨_, List.getElem?_eq_getElem hlt⟩
    obtain ⟨_, hxl⟩ := List.getElem?_eq_some_iff.1 hx
    have hms := fill_set encCert xs hx (.agg [i64 0, i64 0, i64 0, u32 0])
    have hml := fill_len encCert xs hi (.agg [i64 0, i64 0, i64 0, u32 0])
    have hma := fill_at encCert xs hlt (.agg [i64 0, i64 0, i64 0, u32 0])
    generalize (xs.map encCert).take i ++ List.replicate (xs.length - i) (.agg [i64 0, i64 0, i64 0, u32 0]) = row at hms hml hma ⊢
    simp [↓go, hx, hlt, hxl, hml, hma]
    refine S_toCert ?_
    simp [↓go, hml, hma]
    rw [w64 (by omega) (by omega)]
    first | refine wk_ex ?_ | refine ⟨by omega, wk_ex ?_⟩ | refine ⟨by omega, by omega, wk_ex ?_⟩ | fail
    refine And.intro ⟨i + 1, by omega, ?_, rfl⟩ ?_
    · rw [encCert_eq] at hms; first | (simp [hms]; done) | exact congrArg (fun z => h ++ [AObj.row g1 _ z]) hms | fail
    · simp; omega
  · obtain rfl : i = xs.length := by omega
    simp
    refine wk_of (Wk.made (rs := [h.length]) (Own.rf_mk (g := g1) (s := 4) (ys := xs.map encCert) (by simp [List.take_of_length_le]) (by simp) (Own.map (fun x => owCert _ x) xs) (by simp)) (by simp) (fun l' hm => q _ _ hm))
theorem O_toProgram {x : MProgram} {h : AHeap} {Q : KA} (hs : szProgram x ≤ 1048576) (q : ∀ y l, Made h y (encProgram x) l → Q y (h ++ l)) : @clM Tryz.prog 8 [encProgram x] h ⟨Q⟩ := by
  refine cl_of fn_laws_toProgram (D_laws_toProgram_of ?_)
  unfold D_laws_toProgram
  unfold szProgram at hs
  simp [↓go]
  intro g2 g3
  refine O_toInt64SS (by omega) (fun y0 l0 m0 => ?_)
  obtain ⟨s0, o0, b0, _⟩ := m0
  obtain ⟨f0, c0, a0⟩ := o0.sl_cell
  simp [↓go, f0, c0, a0]
  refine O_toConstS (by omega) (fun y1 l1 m1 => ?_)
  obtain ⟨s1, o1, b1, _⟩ := m1
  obtain ⟨f1, c1, a1⟩ := o1.sl_cell
  simp [↓go, f0, c0, a0, f1, c1, a1]
  refine O_toFuncS (by omega) (fun y2 l2 m2 => ?_)
  obtain ⟨s2, o2, b2, _⟩ := m2
  obtain ⟨f2, c2, a2⟩ := o2.sl_cell
  simp [↓go, f0, c0, a0, f1, c1, a1, f2, c2, a2]
  refine O_toCertS (by omega) (fun y3 l3 m3 => ?_)
  obtain ⟨s3, o3, b3, _⟩ := m3
  obtain ⟨f3, c3, a3⟩ := o3.sl_cell
  simp [↓go, f0, c0, a0, f1, c1, a1, f2, c2, a2, f3, c3, a3]
  have e0 := Own.start h [.row g2 4 [.agg [nilS, nilS, nilS, nilS]], .row g3 4 [.agg [nilS, nilS, nilS, nilS]]]
  have e1 := Own.more (bx' := [.row g2 4 [.agg [nilS, nilS, nilS, nilS]], .row g3 4 [.agg [nilS, nilS, nilS, nilS]]]) e0 rfl (by simpa using o0) (by simpa using b0)
  have e2 := Own.more (bx' := [.row g2 4 [.agg [nilS, nilS, nilS, nilS]], .row g3 4 [.agg [y0, nilS, nilS, nilS]]]) e1 rfl (by simpa using o1) (by simpa using b1)
  have e3 := Own.more (bx' := [.row g2 4 [.agg [nilS, nilS, nilS, nilS]], .row g3 4 [.agg [y0, y1, nilS, nilS]]]) e2 rfl (by simpa using o2) (by simpa using b2)
  have e4 := Own.more (bx' := [.row g2 4 [.agg [nilS, nilS, nilS, nilS]], .row g3 4 [.agg [y0, y1, y2, nilS]]]) e3 rfl (by simpa using o3) (by simpa using b3)
  refine wk_of ?_
  have := Wk.made_agg (J := fun s h' => Q (nthA s 0) h') (bx' := [.row g2 4 [.agg [y0, y1, y2, y3]], .row g3 4 [.agg [y0, y1, y2, y3]]]) e4 rfl (fun l' hm => q _ _ hm)
  simpa using this
theorem O_toByteS {xs : List Int} {h : AHeap} {Q : KA} (hs : szL (fun _ => 0) xs ≤ 1048576) (q : ∀ y l, Made h y (encL u8 xs) l → Q y (h ++ l)) : @clM Tryz.prog 16 [encL u8 xs] h ⟨Q⟩ := by
  refine cl_of fn_laws_toByteS (D_laws_toByteS_of ?_)
  unfold D_laws_toByteS
  have hcl := szL_len (fun _ => 0) xs
  simp [↓go]
  refine ⟨by omega, by omega, fun g1 => ?_⟩
  refine lp_inv (fun s h' => ∃ i : Nat, i ≤ xs.length ∧ h' = h ++ [.row g1 1 ((xs.map u8).take i ++ List.replicate (xs.length - i) (u8 0))] ∧ s = [.rf h.length g1 0 xs.length, i64 i, encL u8 xs]) (fun s _ => xs.length - natA (nthA s 1)) (Wk.refl ⟨0, by omega, by simp, by simp⟩) ?_
  rintro _ _ ⟨i, hi, rfl, rfl⟩
  simp [↓go]
  refine ⟨fun hlt => ?_, fun hge => ?_⟩
  · obtain ⟨x, hx⟩ : ∃ x, xs[i]? = some x := ⟨_, List.getElem?_eq_getElem hlt⟩
    obtain ⟨_, hxl⟩ := List.getElem?_eq_some_iff.1 hx
    have hms := fill_set u8 xs hx (u8 0)
    have hml := fill_len u8 xs hi (u8 0)
    have hma := fill_at u8 xs hlt (u8 0)
    generalize (xs.map u8).take i ++ List.replicate (xs.length - i) (u8 0) = row at hms hml hma ⊢
    simp [↓go, hx, hlt, hxl, hml, hma]
    rw [w64 (by omega) (by omega)]
    first | refine wk_ex ?_ | refine ⟨by omega, wk_ex ?_⟩ | refine ⟨by omega, by omega, wk_ex ?_⟩ | fail
    refine And.intro ⟨i + 1, by omega, ?_, rfl⟩ ?_
    · have hmx : row[i] = u8 0 := (List.getElem?_eq_some_iff.1 hma).2; (try rw [hmx]); first | (simp [hms]; done) | exact congrArg (fun z => h ++ [AObj.row g1 _ z]) hms | fail
    · simp; omega
  · obtain rfl : i = xs.length := by omega
    simp
    refine wk_of (Wk.made (rs := [h.length]) (Own.rf_mk (g := g1) (s := 1) (ys := xs.map u8) (by simp [List.take_of_length_le]) (by simp) (Own.map (fun x => .v rfl .nil) xs) (by simp)) (by simp) (fun l' hm => q _ _ hm))
theorem M_markInt64S {xs : List Int} {y : AVal} {k : Int} {h : AHeap} {rs : List Nat} {Q : KA} (ho : Own h [y] [encL i64 xs] rs) (hk : 0 ≤ k) (hb : (markL true (xs.map i64) k).2 ≤ 4611686018427387904)
    (hq : ∀ h', Own h' [y] [.sl (markL true (xs.map i64) k).1] rs → (∀ q, q ∉ rs → h'[q]? = h[q]?) → h'.length = h.length → Q (i64 (markL true (xs.map i64) k).2) h') : @clM Tryz.prog 99 [y, i64 k] h ⟨Q⟩ := by
  refine cl_fit fn_laws_markInt64S (fun hfit => D_laws_markInt64S_of ?_)
  unfold D_laws_markInt64S
  unfold encL at ho
  have hc := ho
  rcases ho.sl_inv with ⟨rfl, e0, rfl⟩ | ⟨r, g, s, n, ys, r1, rfl, rfl, _⟩
  · rw [e0] at hc hb hq
    refine lp_inv (fun s h' => h = h' ∧ s = [i64 k, i64 0, nilS]) (fun _ _ => 0) (Wk.refl ⟨rfl, rfl⟩) ?_
    rintro _ _ ⟨rfl, rfl⟩
    simp [↓go, nilS]
    exact retW_ex (hq _ hc (fun _ _ => rfl) rfl)
  obtain ⟨s0, ys0, r1', e1, m0⟩ := MI.start (k := k) hc hfit
  cases e1
  refine lp_inv (fun s h' => ∃ (i : Nat) (ys : List AVal), i ≤ n ∧ MI h r g s0 n (xs.map i64) k r1 i h' ys ∧ s = [i64 (markL true ((xs.map i64).take i) k).2, i64 i, .rf r g 0 n]) (fun s _ => n - natA (nthA s 1)) (Wk.refl ⟨0, ys0, by omega, m0, by simp [markL]⟩) ?_
  rintro _ h1 ⟨i, ys, hi, hm, rfl⟩
  have hnl : xs.length = n := by simpa using hm.zlen
  have hr := hm.row
  have hl := hm.len
  have hkb := markL_bnd (b := true) (zs := xs.map i64) (k := k) i
  have hk0 := markL_le true ((xs.map i64).take i) k
  have hnb := hm.big
  unfold maxLen at hnb
  simp [↓go]
  refine ⟨fun hlt => ?_, fun hge => ?_⟩
  · obtain ⟨x, hx⟩ : ∃ x, xs[i]? = some x := ⟨_, List.getElem?_eq_getElem (by omega)⟩
    have hz : (xs.map i64)[i]? = some (i64 x) := by rw [List.getElem?_map, hx]; rfl
    obtain ⟨z, qs, hy, oz, hnq, hzs, hst⟩ := hm.step hz
    have hkn := markL_take (b := true) hz k
    have hkb' := markL_bnd (b := true) (zs := xs.map i64) (k := k) (i + 1)
    rw [hkn] at hkb'
    generalize (markL true ((xs.map i64).take i) k).2 = ki at *
    clear hz
    have hyl := (List.getElem?_eq_some_iff.1 hy).2
    have hrl : r < h1.length := (List.getElem?_eq_some_iff.1 hr).1
    have hset : ∀ v, (h1.set r v)[r]? = some v := fun v => by simp [hrl]
    have wi := w64 (n := (i : Int) + 1) (by omega) (by omega)
    obtain ⟨rfl, rfl⟩ := oz.v_inv
    simp at hzs
    subst hzs
    have w0 := w64 (n := ki) (by omega) (by omega)
    have w1 := w64 (n := ki + 1) (by omega) (by omega)
    have e := hst (h1.set r (.row g _ (ys.set i (.v (markV _ ki).1)))) _ (.v rfl .nil) (hset _) (fun q hq _ => by rw [List.getElem?_set_ne (fun e => hq e.symm)]) (by simp)
    simp [markT, markV, w0, w1] at e hkn hkb'
    simp [↓go, hr, hl, hy, hlt, hyl, hset, w0, w1, wi] at e ⊢
    refine wk_ex (And.intro ⟨i + 1, _, by omega, e, ?_⟩ ?_)
    · first | (rw [hkn]; done) | (rw [hkn]; rfl) | (rw [hkn]; simp)
    · simp; omega
  · obtain rfl : i = n := by omega
    rw [List.take_of_length_le (by simp; omega)]
    exact retW_ex (hq _ hm.fin hm.fr hm.hl)
theorem M_markInt64SS {xs : List (List Int)} {y : AVal} {k : Int} {h : AHeap} {rs : List Nat} {Q : KA} (ho : Own h [y] [encL (encL i64) xs] rs) (hk : 0 ≤ k) (hb : (markL true (xs.map (encL i64)) k).2 ≤ 4611686018427387904)
    (hq : ∀ h', Own h' [y] [.sl (markL true (xs.map (encL i64)) k).1] rs → (∀ q, q ∉ rs → h'[q]? = h[q]?) → h'.length = h.length → Q (i64 (markL true (xs.map (encL i64)) k).2) h') : @clM Tryz.prog 50 [y, i64 k] h ⟨Q⟩ := by
  refine cl_fit fn_laws_markInt64SS (fun hfit => D_laws_markInt64SS_of ?_)
  unfold D_laws_markInt64SS
  unfold encL at ho
  have hc := ho
  rcases ho.sl_inv with ⟨rfl, e0, rfl⟩ | ⟨r, g, s, n, ys, r1, rfl, rfl, _⟩
  · rw [e0] at hc hb hq
    refine lp_inv (fun s h' => h = h' ∧ s = [i64 k, i64 0, nilS]) (fun _ _ => 0) (Wk.refl ⟨rfl, rfl⟩) ?_
    rintro _ _ ⟨rfl, rfl⟩
    simp [↓go, nilS]
    exact retW_ex (hq _ hc (fun _ _ => rfl) rfl)
  obtain ⟨s0, ys0, r1', e1, m0⟩ := MI.start (k := k) hc hfit
  cases e1
  refine lp_inv (fun s h' => ∃ (i : Nat) (ys : List AVal), i ≤ n ∧ MI h r g s0 n (xs.map (encL i64)) k r1 i h' ys ∧ s = [i64 (markL true ((xs.map (encL i64)).take i) k).2, i64 i, .rf r g 0 n]) (fun s _ => n - natA (nthA s 1)) (Wk.refl ⟨0, ys0, by omega, m0, by simp [markL]⟩) ?_
  rintro _ h1 ⟨i, ys, hi, hm, rfl⟩
  have hnl : xs.length = n := by simpa using hm.zlen
  have hr := hm.row
  have hl := hm.len
  have hkb := markL_bnd (b := true) (zs := xs.map (encL i64)) (k := k) i
  have hk0 := markL_le true ((xs.map (encL i64)).take i) k
  have hnb := hm.big
  unfold maxLen at hnb
  simp [↓go]
  refine ⟨fun hlt => ?_, fun hge => ?_⟩
  · obtain ⟨x, hx⟩ : ∃ x, xs[i]? = some x := ⟨_, List.getElem?_eq_getElem (by omega)⟩
    have hz : (xs.map (encL i64))[i]? = some ((encL i64) x) := by rw [List.getElem?_map, hx]; rfl
    obtain ⟨z, qs, hy, oz, hnq, hzs, hst⟩ := hm.step hz
    have hkn := markL_take (b := true) hz k
    have hkb' := markL_bnd (b := true) (zs := xs.map (encL i64)) (k := k) (i + 1)
    rw [hkn] at hkb'
    generalize (markL true ((xs.map (encL i64)).take i) k).2 = ki at *
    clear hz
    have hyl := (List.getElem?_eq_some_iff.1 hy).2
    have hrl : r < h1.length := (List.getElem?_eq_some_iff.1 hr).1
    have hset : ∀ v, (h1.set r v)[r]? = some v := fun v => by simp [hrl]
    have wi := w64 (n := (i : Int) + 1) (by omega) (by omega)
    simp only [markT] at hst hkn hkb'
    obtain ⟨f0, c0, a0⟩ := oz.sl_cell
    rw [f0] at hzs
    simp at hzs
    subst hzs
    have hy2 := hy
    simp [↓go, hr, hl, hy, hlt, hyl, f0, c0, a0]
    refine M_markInt64S oz (by omega) (by omega) (fun h2 o2 f2 l2 => ?_)
    have e := hst h2 z o2 (by rw [f2 _ hnq, hr, ← hyl, List.set_getElem_self]) (fun q _ hn => f2 q hn) l2
    rw [← hyl, List.set_getElem_self] at e
    simp [↓go, wi]
    refine wk_ex (And.intro ⟨i + 1, _, by omega, e, ?_⟩ ?_)
    · first | (rw [hkn]; done) | (rw [hkn]; rfl) | (rw [hkn]; simp)
    · simp; omega
  · obtain rfl : i = n := by omega
    rw [List.take_of_length_le (by simp; omega)]
    exact retW_ex (hq _ hm.fin hm.fr hm.hl)
theorem M_markConstS {xs : List MConst} {y : AVal} {k : Int} {h : AHeap} {rs : List Nat} {Q : KA} (ho : Own h [y] [encL encConst xs] rs) (hk : 0 ≤ k) (hb : (markL true (xs.map encConst) k).2 ≤ 4611686018427387904)
    (hq : ∀ h', Own h' [y] [.sl (markL true (xs.map encConst) k).1] rs → (∀ q, q ∉ rs → h'[q]? = h[q]?) → h'.length = h.length → Q (i64 (markL true (xs.map encConst) k).2) h') : @clM Tryz.prog 51 [y, i64 k] h ⟨Q⟩ := by
  refine cl_fit fn_laws_markConstS (fun hfit => D_laws_markConstS_of ?_)
  unfold D_laws_markConstS
  unfold encL at ho
  have hc := ho
  rcases ho.sl_inv with ⟨rfl, e0, rfl⟩ | ⟨r, g, s, n, ys, r1, rfl, rfl, _⟩
  · rw [e0] at hc hb hq
    refine lp_inv (fun s h' => h = h' ∧ s = [i64 k, i64 0, nilS]) (fun _ _ => 0) (Wk.refl ⟨rfl, rfl⟩) ?_
    rintro _ _ ⟨rfl, rfl⟩
    simp [↓go, nilS]
    exact retW_ex (hq _ hc (fun _ _ => rfl) rfl)
  obtain ⟨s0, ys0, r1', e1, m0⟩ := MI.start (k := k) hc hfit
  cases e1
  refine lp_inv (fun s h' => ∃ (i : Nat) (ys : List AVal), i ≤ n ∧ MI h r g s0 n (xs.map encConst) k r1 i h' ys ∧ s = [i64 (markL true ((xs.map encConst).take i) k).2, i64 i, .rf r g 0 n]) (fun s _ => n - natA (nthA s 1)) (Wk.refl ⟨0, ys0, by omega, m0, by simp [markL]⟩) ?_
  rintro _ h1 ⟨i, ys, hi, hm, rfl⟩
  have hnl : xs.length = n := by simpa using hm.zlen
  have hr := hm.row
  have hl := hm.len
  have hkb := markL_bnd (b := true) (zs := xs.map encConst) (k := k) i
  have hk0 := markL_le true ((xs.map encConst).take i) k
  have hnb := hm.big
  unfold maxLen at hnb
  simp [↓go]
  refine ⟨fun hlt => ?_, fun hge => ?_⟩
  · obtain ⟨x, hx⟩ : ∃ x, xs[i]? = some x := ⟨_, List.getElem?_eq_getElem (by omega)⟩
    have hz : (xs.map encConst)[i]? = some (encConst x) := by rw [List.getElem?_map, hx]; rfl
    obtain ⟨z, qs, hy, oz, hnq, hzs, hst⟩ := hm.step hz
    have hkn := markL_take (b := true) hz k
    have hkb' := markL_bnd (b := true) (zs := xs.map encConst) (k := k) (i + 1)
    rw [hkn] at hkb'
    generalize (markL true ((xs.map encConst).take i) k).2 = ki at *
    clear hz
    have hyl := (List.getElem?_eq_some_iff.1 hy).2
    have hrl : r < h1.length := (List.getElem?_eq_some_iff.1 hr).1
    have hset : ∀ v, (h1.set r v)[r]? = some v := fun v => by simp [hrl]
    have wi := w64 (n := (i : Int) + 1) (by omega) (by omega)
    rw [encConst_eq] at oz hst hkn hkb'
    obtain ⟨cs, rfl, oc⟩ := oz.agg_inv2
    obtain ⟨c0, _, _, rfl, oc0⟩ := oc.cons_ex
    obtain ⟨c1, _, _, rfl, oc1⟩ := oc0.cons_ex
    obtain ⟨rfl, -⟩ := oc1.nil_inv
    simp at hzs
    subst hzs
    simp only [markL, markT, markV] at hkb'
    have w0 := w64 (n := ki) (by omega) (by omega)
    have w1 := w64 (n := ki + 1) (by omega) (by omega)
    have w2 := w64 (n := ki + 1 + 1) (by omega) (by omega)
    have m0 := ME.start (k := ki) hr hy oz hnq
    have m1 := m0.scal rfl rfl
    have m2 := m1.scal rfl rfl
    have e := hst _ _ (m2.fin rfl) m2.row m2.fr m2.hl
    try simp [markL, markT, markV, w0, w1, w2, List.set] at e
    try simp only [markT, markL, markV, w0, w1, w2, AVal.flat] at hkn
    simp [↓go, hr, hl, hy, hlt, hyl, hset, w0, w1, w2, wi]
    refine wk_ex (And.intro ⟨i + 1, _, by omega, e, ?_⟩ ?_)
    · first | (rw [hkn]; done) | (rw [hkn]; rfl) | (rw [hkn]; simp)
    · simp; omega
  · obtain rfl : i = n := by omega
    rw [List.take_of_length_le (by simp; omega)]
    exact retW_ex (hq _ hm.fin hm.fr hm.hl)
theorem M_markInstrS {xs : List MInstr} {y : AVal} {k : Int} {h : AHeap} {rs : List Nat} {Q : KA} (ho : Own h [y] [encL encInstr xs] rs) (hk : 0 ≤ k) (hb : (markL true (xs.map encInstr) k).2 ≤ 4611686018427387904)
    (hq : ∀ h', Own h' [y] [.sl (markL true (xs.map encInstr) k).1] rs → (∀ q, q ∉ rs → h'[q]? = h[q]?) → h'.length = h.length → Q (i64 (markL true (xs.map encInstr) k).2) h') : @clM Tryz.prog 100 [y, i64 k] h ⟨Q⟩ := by
  refine cl_fit fn_laws_markInstrS (fun hfit => D_laws_markInstrS_of ?_)
  unfold D_laws_markInstrS
  unfold encL at ho
  have hc := ho
  rcases ho.sl_inv with ⟨rfl, e0, rfl⟩ | ⟨r, g, s, n, ys, r1, rfl, rfl, _⟩
  · rw [e0] at hc hb hq
    refine lp_inv (fun s h' => h = h' ∧ s = [i64 k, i64 0, nilS]) (fun _ _ => 0) (Wk.refl ⟨rfl, rfl⟩) ?_
    rintro _ _ ⟨rfl, rfl⟩
    simp [↓go, nilS]
    exact retW_ex (hq _ hc (fun _ _ => rfl) rfl)
  obtain ⟨s0, ys0, r1', e1, m0⟩ := MI.start (k := k) hc hfit
  cases e1
  refine lp_inv (fun s h' => ∃ (i : Nat) (ys : List AVal), i ≤ n ∧ MI h r g s0 n (xs.map encInstr) k r1 i h' ys ∧ s = [i64 (markL true ((xs.map encInstr).take i) k).2, i64 i, .rf r g 0 n]) (fun s _ => n - natA (nthA s 1)) (Wk.refl ⟨0, ys0, by omega, m0, by simp [markL]⟩) ?_
  rintro _ h1 ⟨i, ys, hi, hm, rfl⟩
  have hnl : xs.length = n := by simpa using hm.zlen
  have hr := hm.row
  have hl := hm.len
  have hkb := markL_bnd (b := true) (zs := xs.map encInstr) (k := k) i
  have hk0 := markL_le true ((xs.map encInstr).take i) k
  have hnb := hm.big
  unfold maxLen at hnb
  simp [↓go]
  refine ⟨fun hlt => ?_, fun hge => ?_⟩
  · obtain ⟨x, hx⟩ : ∃ x, xs[i]? = some x := ⟨_, List.getElem?_eq_getElem (by omega)⟩
    have hz : (xs.map encInstr)[i]? = some (encInstr x) := by rw [List.getElem?_map, hx]; rfl
    obtain ⟨z, qs, hy, oz, hnq, hzs, hst⟩ := hm.step hz
    have hkn := markL_take (b := true) hz k
    have hkb' := markL_bnd (b := true) (zs := xs.map encInstr) (k := k) (i + 1)
    rw [hkn] at hkb'
    generalize (markL true ((xs.map encInstr).take i) k).2 = ki at *
    clear hz
    have hyl := (List.getElem?_eq_some_iff.1 hy).2
    have hrl : r < h1.length := (List.getElem?_eq_some_iff.1 hr).1
    have hset : ∀ v, (h1.set r v)[r]? = some v := fun v => by simp [hrl]
    have wi := w64 (n := (i : Int) + 1) (by omega) (by omega)
    rw [encInstr_eq] at oz hst hkn hkb'
    obtain ⟨cs, rfl, oc⟩ := oz.agg_inv2
    obtain ⟨c0, _, _, rfl, oc0⟩ := oc.cons_ex
    obtain ⟨c1, _, _, rfl, oc1⟩ := oc0.cons_ex
    obtain ⟨c2, _, _, rfl, oc2⟩ := oc1.cons_ex
    obtain ⟨c3, _, _, rfl, oc3⟩ := oc2.cons_ex
    obtain ⟨rfl, -⟩ := oc3.nil_inv
    simp at hzs
    subst hzs
    simp only [markL, markT, markV] at hkb'
    have w0 := w64 (n := ki) (by omega) (by omega)
    have w1 := w64 (n := ki + 1) (by omega) (by omega)
    have w2 := w64 (n := ki + 1 + 1) (by omega) (by omega)
    have w3 := w64 (n := ki + 1 + 1 + 1) (by omega) (by omega)
    have w4 := w64 (n := ki + 1 + 1 + 1 + 1) (by omega) (by omega)
    have m0 := ME.start (k := ki) hr hy oz hnq
    have m1 := m0.scal rfl rfl
    have m2 := m1.scal rfl rfl
    have m3 := m2.scal rfl rfl
    have m4 := m3.scal rfl rfl
    have e := hst _ _ (m4.fin rfl) m4.row m4.fr m4.hl
    try simp [markL, markT, markV, w0, w1, w2, w3, w4, List.set] at e
    try simp only [markT, markL, markV, w0, w1, w2, w3, w4, AVal.flat] at hkn
    simp [↓go, hr, hl, hy, hlt, hyl, hset, w0, w1, w2, w3, w4, wi]
    refine wk_ex (And.intro ⟨i + 1, _, by omega, e, ?_⟩ ?_)
    · first | (rw [hkn]; done) | (rw [hkn]; rfl) | (rw [hkn]; simp)
    · simp; omega
  · obtain rfl : i = n := by omega
    rw [List.take_of_length_le (by simp; omega)]
    exact retW_ex (hq _ hm.fin hm.fr hm.hl)
theorem M_markFuncS {xs : List MFunc} {y : AVal} {k : Int} {h : AHeap} {rs : List Nat} {Q : KA} (ho : Own h [y] [encL encFunc xs] rs) (hk : 0 ≤ k) (hb : (markL true (xs.map encFunc) k).2 ≤ 4611686018427387904)
    (hq : ∀ h', Own h' [y] [.sl (markL true (xs.map encFunc) k).1] rs → (∀ q, q ∉ rs → h'[q]? = h[q]?) → h'.length = h.length → Q (i64 (markL true (xs.map encFunc) k).2) h') : @clM Tryz.prog 52 [y, i64 k] h ⟨Q⟩ := by
  refine cl_fit fn_laws_markFuncS (fun hfit => D_laws_markFuncS_of ?_)
  unfold D_laws_markFuncS
  unfold encL at ho
  have hc := ho
  rcases ho.sl_inv with ⟨rfl, e0, rfl⟩ | ⟨r, g, s, n, ys, r1, rfl, rfl, _⟩
  · rw [e0] at hc hb hq
    refine lp_inv (fun s h' => h = h' ∧ s = [i64 k, i64 0, nilS]) (fun _ _ => 0) (Wk.refl ⟨rfl, rfl⟩) ?_
    rintro _ _ ⟨rfl, rfl⟩
    simp [↓go, nilS]
    exact retW_ex (hq _ hc (fun _ _ => rfl) rfl)
  obtain ⟨s0, ys0, r1', e1, m0⟩ := MI.start (k := k) hc hfit
  cases e1
  refine lp_inv (fun s h' => ∃ (i : Nat) (ys : List AVal), i ≤ n ∧ MI h r g s0 n (xs.map encFunc) k r1 i h' ys ∧ s = [i64 (markL true ((xs.map encFunc).take i) k).2, i64 i, .rf r g 0 n]) (fun s _ => n - natA (nthA s 1)) (Wk.refl ⟨0, ys0, by omega, m0, by simp [markL]⟩) ?_
  rintro _ h1 ⟨i, ys, hi, hm, rfl⟩
  have hnl : xs.length = n := by simpa using hm.zlen
  have hr := hm.row
  have hl := hm.len
  have hkb := markL_bnd (b := true) (zs := xs.map encFunc) (k := k) i
  have hk0 := markL_le true ((xs.map encFunc).take i) k
  have hnb := hm.big
  unfold maxLen at hnb
  simp [↓go]
  refine ⟨fun hlt => ?_, fun hge => ?_⟩
  · obtain ⟨x, hx⟩ : ∃ x, xs[i]? = some x := ⟨_, List.getElem?_eq_getElem (by omega)⟩
    have hz : (xs.map encFunc)[i]? = some (encFunc x) := by rw [List.getElem?_map, hx]; rfl
    obtain ⟨z, qs, hy, oz, hnq, hzs, hst⟩ := hm.step hz
    have hkn := markL_take (b := true) hz k
    have hkb' := markL_bnd (b := true) (zs := xs.map encFunc) (k := k) (i + 1)
    rw [hkn] at hkb'
    generalize (markL true ((xs.map encFunc).take i) k).2 = ki at *
    clear hz
    have hyl := (List.getElem?_eq_some_iff.1 hy).2
    have hrl : r < h1.length := (List.getElem?_eq_some_iff.1 hr).1
    have hset : ∀ v, (h1.set r v)[r]? = some v := fun v => by simp [hrl]
    have wi := w64 (n := (i : Int) + 1) (by omega) (by omega)
    rw [encFunc_eq] at oz hst hkn hkb'
    obtain ⟨cs, rfl, oc⟩ := oz.agg_inv2
    obtain ⟨c0, _, _, rfl, oc0⟩ := oc.cons_ex
    obtain ⟨c1, _, _, rfl, oc1⟩ := oc0.cons_ex
    obtain ⟨c2, _, _, rfl, oc2⟩ := oc1.cons_ex
    obtain ⟨c3, _, _, rfl, oc3⟩ := oc2.cons_ex
    obtain ⟨rfl, -⟩ := oc3.nil_inv
    simp at hzs
    subst hzs
    simp only [markL, markT, markV] at hkb'
    have hle0 := markL_le true (x.params.map i64) ki
    have hle2 := markL_le true (x.locals.map i64) ((markL true (x.params.map i64) ki).2 + 1)
    have hle3 := markL_le true (x.code.map encInstr) ((markL true (x.locals.map i64) ((markL true (x.params.map i64) ki).2 + 1)).2)
    have w0 := w64 (n := (markL true (x.params.map i64) ki).2) (by omega) (by omega)
    have w1 := w64 (n := (markL true (x.params.map i64) ki).2 + 1) (by omega) (by omega)
    have m0 := ME.start (k := ki) hr hy oz hnq
    skip
    obtain ⟨d0, qj0, hc0, oj0, hj0⟩ := m0.call (j := 0) rfl
    have ec : d0 = c0 := by simpa using hc0.symm
    subst ec
    try simp only [List.take, markL, markT, markV, w0, w1, AVal.flat] at hj0 oj0
    obtain ⟨f0, a0, g0⟩ := oj0.sl_cell
    have hrw0 := m0.row
    have hil0 := m0.il
    simp [↓go, hr, hrw0, hl, hy, hlt, hyl, hset, f0, a0, g0, w0, w1, wi]
    first | refine M_markInt64S oj0 (by omega) (by omega) (fun h2 o0 f0' l0 => ?_) | refine ⟨by omega, M_markInt64S oj0 (by omega) (by omega) (fun h2 o0 f0' l0 => ?_)⟩
    have m1 := hj0 h2 o0 f0' l0
    clear hset hr
    have hr := m1.row
    have hrl : r < h2.length := (List.getElem?_eq_some_iff.1 hr).1
    have hset : ∀ v, (h2.set r v)[r]? = some v := fun v => by simp [hrl]
    have m2 := m1.scal rfl rfl
    try simp only [List.take, List.set, List.set_set, markL, markT, markV, w0, w1, AVal.flat] at m2
    obtain ⟨d2, qj2, hc2, oj2, hj2⟩ := m2.call (j := 2) rfl
    have ec : d2 = c2 := by simpa using hc2.symm
    subst ec
    try simp only [List.take, markL, markT, markV, w0, w1, AVal.flat] at hj2 oj2
    obtain ⟨f2, a2, g2⟩ := oj2.sl_cell
    have hrw2 := m2.row
    have hil2 := m2.il
    simp [↓go, hr, hrw2, hl, hy, hlt, hyl, hset, f0, a0, g0, f2, a2, g2, w0, w1, wi]
    first | refine M_markInt64S oj2 (by omega) (by omega) (fun h4 o2 f2' l2 => ?_) | refine ⟨by omega, M_markInt64S oj2 (by omega) (by omega) (fun h4 o2 f2' l2 => ?_)⟩
    have m3 := hj2 h4 o2 f2' l2
    clear hset hr
    have hr := m3.row
    have hrl : r < h4.length := (List.getElem?_eq_some_iff.1 hr).1
    have hset : ∀ v, (h4.set r v)[r]? = some v := fun v => by simp [hrl]
    try simp only [List.take, List.set, List.set_set, markL, markT, markV, w0, w1, AVal.flat] at m3
    obtain ⟨d3, qj3, hc3, oj3, hj3⟩ := m3.call (j := 3) rfl
    have ec : d3 = c3 := by simpa using hc3.symm
    subst ec
    try simp only [List.take, markL, markT, markV, w0, w1, AVal.flat] at hj3 oj3
    obtain ⟨f3, a3, g3⟩ := oj3.sl_cell
    have hrw3 := m3.row
    have hil3 := m3.il
    simp [↓go, hr, hrw3, hl, hy, hlt, hyl, hset, f0, a0, g0, f2, a2, g2, f3, a3, g3, w0, w1, wi]
    first | refine M_markInstrS oj3 (by omega) (by omega) (fun h5 o3 f3' l3 => ?_) | refine ⟨by omega, M_markInstrS oj3 (by omega) (by omega) (fun h5 o3 f3' l3 => ?_)⟩
    have m4 := hj3 h5 o3 f3' l3
    clear hset hr
    have hr := m4.row
    have hrl : r < h5.length := (List.getElem?_eq_some_iff.1 hr).1
    have hset : ∀ v, (h5.set r v)[r]? = some v := fun v => by simp [hrl]
    have e := hst _ _ (m4.fin rfl) m4.row m4.fr m4.hl
    try simp [markL, markT, markV, w0, w1, List.set] at e
    try simp only [markT, markL, markV, w0, w1, AVal.flat] at hkn
    simp [↓go, hr, hl, hy, hlt, hyl, hset, f0, a0, g0, f2, a2, g2, f3, a3, g3, w0, w1, wi]
    refine wk_ex (And.intro ⟨i + 1, _, by omega, e, ?_⟩ ?_)
    · first | (rw [hkn]; done) | (rw [hkn]; rfl) | (rw [hkn]; simp)
    · simp; omega
  · obtain rfl : i = n := by omega
    rw [List.take_of_length_le (by simp; omega)]
    exact retW_ex (hq _ hm.fin hm.fr hm.hl)
theorem M_markCertS {xs : List MCert} {y : AVal} {k : Int} {h : AHeap} {rs : List Nat} {Q : KA} (ho : Own h [y] [encL encCert xs] rs) (hk : 0 ≤ k) (hb : (markL true (xs.map encCert) k).2 ≤ 4611686018427387904)
    (hq : ∀ h', Own h' [y] [.sl (markL true (xs.map encCert) k).1] rs → (∀ q, q ∉ rs → h'[q]? = h[q]?) → h'.length = h.length → Q (i64 (markL true (xs.map encCert) k).2) h') : @clM Tryz.prog 53 [y, i64 k] h ⟨Q⟩ := by
  refine cl_fit fn_laws_markCertS (fun hfit => D_laws_markCertS_of ?_)
  unfold D_laws_markCertS
  unfold encL at ho
  have hc := ho
  rcases ho.sl_inv with ⟨rfl, e0, rfl⟩ | ⟨r, g, s, n, ys, r1, rfl, rfl, _⟩
  · rw [e0] at hc hb hq
    refine lp_inv (fun s h' => h = h' ∧ s = [i64 k, i64 0, nilS]) (fun _ _ => 0) (Wk.refl ⟨rfl, rfl⟩) ?_
    rintro _ _ ⟨rfl, rfl⟩
    simp [↓go, nilS]
    exact retW_ex (hq _ hc (fun _ _ => rfl) rfl)
  obtain ⟨s0, ys0, r1', e1, m0⟩ := MI.start (k := k) hc hfit
  cases e1
  refine lp_inv (fun s h' => ∃ (i : Nat) (ys : List AVal), i ≤ n ∧ MI h r g s0 n (xs.map encCert) k r1 i h' ys ∧ s = [i64 (markL true ((xs.map encCert).take i) k).2, i64 i, .rf r g 0 n]) (fun s _ => n - natA (nthA s 1)) (Wk.refl ⟨0, ys0, by omega, m0, by simp [markL]⟩) ?_
  rintro _ h1 ⟨i, ys, hi, hm, rfl⟩
  have hnl : xs.length = n := by simpa using hm.zlen
  have hr := hm.row
  have hl := hm.len
  have hkb := markL_bnd (b := true) (zs := xs.map encCert) (k := k) i
  have hk0 := markL_le true ((xs.map encCert).take i) k
  have hnb := hm.big
  unfold maxLen at hnb
  simp [↓go]
  refine ⟨fun hlt => ?_, fun hge => ?_⟩
  · obtain ⟨x, hx⟩ : ∃ x, xs[i]? = some x := ⟨_, List.getElem?_eq_getElem (by omega)⟩
    have hz : (xs.map encCert)[i]? = some (encCert x) := by rw [List.getElem?_map, hx]; rfl
    obtain ⟨z, qs, hy, oz, hnq, hzs, hst⟩ := hm.step hz
    have hkn := markL_take (b := true) hz k
    have hkb' := markL_bnd (b := true) (zs := xs.map encCert) (k := k) (i + 1)
    rw [hkn] at hkb'
    generalize (markL true ((xs.map encCert).take i) k).2 = ki at *
    clear hz
    have hyl := (List.getElem?_eq_some_iff.1 hy).2
    have hrl : r < h1.length := (List.getElem?_eq_some_iff.1 hr).1
    have hset : ∀ v, (h1.set r v)[r]? = some v := fun v => by simp [hrl]
    have wi := w64 (n := (i : Int) + 1) (by omega) (by omega)
    rw [encCert_eq] at oz hst hkn hkb'
    obtain ⟨cs, rfl, oc⟩ := oz.agg_inv2
    obtain ⟨c0, _, _, rfl, oc0⟩ := oc.cons_ex
    obtain ⟨c1, _, _, rfl, oc1⟩ := oc0.cons_ex
    obtain ⟨c2, _, _, rfl, oc2⟩ := oc1.cons_ex
    obtain ⟨c3, _, _, rfl, oc3⟩ := oc2.cons_ex
    obtain ⟨rfl, -⟩ := oc3.nil_inv
    simp at hzs
    subst hzs
    simp only [markL, markT, markV] at hkb'
    have w0 := w64 (n := ki) (by omega) (by omega)
    have w1 := w64 (n := ki + 1) (by omega) (by omega)
    have w2 := w64 (n := ki + 1 + 1) (by omega) (by omega)
    have w3 := w64 (n := ki + 1 + 1 + 1) (by omega) (by omega)
    have w4 := w64 (n := ki + 1 + 1 + 1 + 1) (by omega) (by omega)
    have m0 := ME.start (k := ki) hr hy oz hnq
    have m1 := m0.scal rfl rfl
    have m2 := m1.scal rfl rfl
    have m3 := m2.scal rfl rfl
    have m4 := m3.scal rfl rfl
    have e := hst _ _ (m4.fin rfl) m4.row m4.fr m4.hl
    try simp [markL, markT, markV, w0, w1, w2, w3, w4, List.set] at e
    try simp only [markT, markL, markV, w0, w1, w2, w3, w4, AVal.flat] at hkn
    simp [↓go, hr, hl, hy, hlt, hyl, hset, w0, w1, w2, w3, w4, wi]
    refine wk_ex (And.intro ⟨i + 1, _, by omega, e, ?_⟩ ?_)
    · first | (rw [hkn]; done) | (rw [hkn]; rfl) | (rw [hkn]; simp)
    · simp; omega
  · obtain rfl : i = n := by omega
    rw [List.take_of_length_le (by simp; omega)]
    exact retW_ex (hq _ hm.fin hm.fr hm.hl)
theorem M_markProgram {x : MProgram} {y : AVal} {k : Int} {h : AHeap} {rs : List Nat} {Q : KA} (ho : Own h [y] [encProgram x] rs) (hk : 0 ≤ k) (hb : (markT false (encProgram x) k).2 ≤ 4611686018427387904)
    (hq : ∀ h', Own h' [y] [(markT false (encProgram x) k).1] rs → (∀ q, q ∉ rs → h'[q]? = h[q]?) → h'.length = h.length → Q (i64 (markT false (encProgram x) k).2) h') : @clM Tryz.prog 12 [y, i64 k] h ⟨Q⟩ := by
  refine cl_of fn_laws_markProgram (D_laws_markProgram_of ?_)
  unfold D_laws_markProgram
  rw [encProgram_eq] at ho hb hq
  obtain ⟨cs, rfl, oc⟩ := ho.agg_inv2
  obtain ⟨c0, _, _, rfl, oc0⟩ := oc.cons_ex
  obtain ⟨c1, _, _, rfl, oc1⟩ := oc0.cons_ex
  obtain ⟨c2, _, _, rfl, oc2⟩ := oc1.cons_ex
  obtain ⟨c3, _, _, rfl, oc3⟩ := oc2.cons_ex
  obtain ⟨rfl, -⟩ := oc3.nil_inv
  have m0 := MR.start (k := k) oc
  simp only [markL, markT] at hb
  obtain ⟨f0, a0, g0⟩ : c0.flat = [c0] ∧ c0.c1 = true ∧ c0.isAgg = false := by
    obtain ⟨t, qs, e, o, _⟩ := oc.at (i := 0) rfl
    cases e
    exact o.sl_cell
  have hle0 := markL_le true (x.regions.map (encL i64)) k
  obtain ⟨f1, a1, g1⟩ : c1.flat = [c1] ∧ c1.c1 = true ∧ c1.isAgg = false := by
    obtain ⟨t, qs, e, o, _⟩ := oc.at (i := 1) rfl
    cases e
    exact o.sl_cell
  have hle1 := markL_le true (x.consts.map encConst) ((markL true (x.regions.map (encL i64)) k).2)
  obtain ⟨f2, a2, g2⟩ : c2.flat = [c2] ∧ c2.c1 = true ∧ c2.isAgg = false := by
    obtain ⟨t, qs, e, o, _⟩ := oc.at (i := 2) rfl
    cases e
    exact o.sl_cell
  have hle2 := markL_le true (x.funcs.map encFunc) ((markL true (x.consts.map encConst) ((markL true (x.regions.map (encL i64)) k).2)).2)
  obtain ⟨f3, a3, g3⟩ : c3.flat = [c3] ∧ c3.c1 = true ∧ c3.isAgg = false := by
    obtain ⟨t, qs, e, o, _⟩ := oc.at (i := 3) rfl
    cases e
    exact o.sl_cell
  have hle3 := markL_le true (x.certs.map encCert) ((markL true (x.funcs.map encFunc) ((markL true (x.consts.map encConst) ((markL true (x.regions.map (encL i64)) k).2)).2)).2)
  obtain ⟨d0, qj0, hc0, oj0, hj0⟩ := m0.call (j := 0) rfl
  have ec : d0 = c0 := by simpa using hc0.symm
  subst ec
  try simp only [List.take, markL, markT] at hj0 oj0
  simp [↓go, f0, a0, g0, f1, a1, g1, f2, a2, g2, f3, a3, g3]
  refine M_markInt64SS oj0 (by omega) (by omega) (fun h2 o0 f0' l0 => ?_)
  have m1 := hj0 h2 o0 f0' l0
  obtain ⟨d1, qj1, hc1, oj1, hj1⟩ := m1.call (j := 1) rfl
  have ec : d1 = c1 := by simpa using hc1.symm
  subst ec
  try simp only [List.take, markL, markT] at hj1 oj1
  simp [↓go, f0, a0, g0, f1, a1, g1, f2, a2, g2, f3, a3, g3]
  refine M_markConstS oj1 (by omega) (by omega) (fun h3 o1 f1' l1 => ?_)
  have m2 := hj1 h3 o1 f1' l1
  obtain ⟨d2, qj2, hc2, oj2, hj2⟩ := m2.call (j := 2) rfl
  have ec : d2 = c2 := by simpa using hc2.symm
  subst ec
  try simp only [List.take, markL, markT] at hj2 oj2
  simp [↓go, f0, a0, g0, f1, a1, g1, f2, a2, g2, f3, a3, g3]
  refine M_markFuncS oj2 (by omega) (by omega) (fun h4 o2 f2' l2 => ?_)
  have m3 := hj2 h4 o2 f2' l2
  obtain ⟨d3, qj3, hc3, oj3, hj3⟩ := m3.call (j := 3) rfl
  have ec : d3 = c3 := by simpa using hc3.symm
  subst ec
  try simp only [List.take, markL, markT] at hj3 oj3
  simp [↓go, f0, a0, g0, f1, a1, g1, f2, a2, g2, f3, a3, g3]
  refine M_markCertS oj3 (by omega) (by omega) (fun h5 o3 f3' l3 => ?_)
  have m4 := hj3 h5 o3 f3' l3
  try simp [↓go]
  exact retW_ex (hq _ (m4.fin rfl) m4.fr m4.hl)
theorem M_markByteS {xs : List Int} {y : AVal} {k : Int} {h : AHeap} {rs : List Nat} {Q : KA} (ho : Own h [y] [encL u8 xs] rs) (hk : 0 ≤ k) (hb : (markL true (xs.map u8) k).2 ≤ 4611686018427387904)
    (hq : ∀ h', Own h' [y] [.sl (markL true (xs.map u8) k).1] rs → (∀ q, q ∉ rs → h'[q]? = h[q]?) → h'.length = h.length → Q (i64 (markL true (xs.map u8) k).2) h') : @clM Tryz.prog 13 [y, i64 k] h ⟨Q⟩ := by
  refine cl_fit fn_laws_markByteS (fun hfit => D_laws_markByteS_of ?_)
  unfold D_laws_markByteS
  unfold encL at ho
  have hc := ho
  rcases ho.sl_inv with ⟨rfl, e0, rfl⟩ | ⟨r, g, s, n, ys, r1, rfl, rfl, _⟩
  · rw [e0] at hc hb hq
    refine lp_inv (fun s h' => h = h' ∧ s = [i64 k, i64 0, nilS]) (fun _ _ => 0) (Wk.refl ⟨rfl, rfl⟩) ?_
    rintro _ _ ⟨rfl, rfl⟩
    simp [↓go, nilS]
    exact retW_ex (hq _ hc (fun _ _ => rfl) rfl)
  obtain ⟨s0, ys0, r1', e1, m0⟩ := MI.start (k := k) hc hfit
  cases e1
  refine lp_inv (fun s h' => ∃ (i : Nat) (ys : List AVal), i ≤ n ∧ MI h r g s0 n (xs.map u8) k r1 i h' ys ∧ s = [i64 (markL true ((xs.map u8).take i) k).2, i64 i, .rf r g 0 n]) (fun s _ => n - natA (nthA s 1)) (Wk.refl ⟨0, ys0, by omega, m0, by simp [markL]⟩) ?_
  rintro _ h1 ⟨i, ys, hi, hm, rfl⟩
  have hnl : xs.length = n := by simpa using hm.zlen
  have hr := hm.row
  have hl := hm.len
  have hkb := markL_bnd (b := true) (zs := xs.map u8) (k := k) i
  have hk0 := markL_le true ((xs.map u8).take i) k
  have hnb := hm.big
  unfold maxLen at hnb
  simp [↓go]
  refine ⟨fun hlt => ?_, fun hge => ?_⟩
  · obtain ⟨x, hx⟩ : ∃ x, xs[i]? = some x := ⟨_, List.getElem?_eq_getElem (by omega)⟩
    have hz : (xs.map u8)[i]? = some (u8 x) := by rw [List.getElem?_map, hx]; rfl
    obtain ⟨z, qs, hy, oz, hnq, hzs, hst⟩ := hm.step hz
    have hkn := markL_take (b := true) hz k
    have hkb' := markL_bnd (b := true) (zs := xs.map u8) (k := k) (i + 1)
    rw [hkn] at hkb'
    generalize (markL true ((xs.map u8).take i) k).2 = ki at *
    clear hz
    have hyl := (List.getElem?_eq_some_iff.1 hy).2
    have hrl : r < h1.length := (List.getElem?_eq_some_iff.1 hr).1
    have hset : ∀ v, (h1.set r v)[r]? = some v := fun v => by simp [hrl]
    have wi := w64 (n := (i : Int) + 1) (by omega) (by omega)
    obtain ⟨rfl, rfl⟩ := oz.v_inv
    simp at hzs
    subst hzs
    have w1 := w64 (n := ki + 1) (by omega) (by omega)
    have e := hst (h1.set r (.row g _ (ys.set i (.v (markV _ ki).1)))) _ (.v rfl .nil) (hset _) (fun q hq _ => by rw [List.getElem?_set_ne (fun e => hq e.symm)]) (by simp)
    simp [markT, markV, w1] at e hkn hkb'
    simp [↓go, hr, hl, hy, hlt, hyl, hset, w1, wi] at e ⊢
    refine wk_ex (And.intro ⟨i + 1, _, by omega, e, ?_⟩ ?_)
    · first | (rw [hkn]; done) | (rw [hkn]; rfl) | (rw [hkn]; simp)
    · simp; omega
  · obtain rfl : i = n := by omega
    rw [List.take_of_length_le (by simp; omega)]
    exact retW_ex (hq _ hm.fin hm.fr hm.hl)
theorem F_heldInt64S {xs : List Int} {k : Int} {h : AHeap} {Q : KA} (hk : 0 ≤ k) (hs : szL (fun _ => 0) xs ≤ 1099511627776) (hb : (markL true (xs.map i64) k).2 ≤ 4611686018427387904)
    (hq : Q (i64 (markL true (xs.map i64) k).2) h) : @clM Tryz.prog 136 [.sl (markL true (xs.map i64) k).1, i64 k] h ⟨Q⟩ := by
  refine cl_of fn_laws_heldInt64S (D_laws_heldInt64S_of ?_)
  unfold D_laws_heldInt64S
  have hlen := szL_len (fun _ => 0) xs
  have hll := markL_len true (xs.map i64) k
  rw [List.length_map] at hll
  refine lp_inv (fun s h' => h = h' ∧ ∃ i : Nat, i ≤ xs.length ∧ s = [i64 (markL true ((xs.map i64).take i) k).2, i64 i, .sl (markL true (xs.map i64) k).1]) (fun s _ => xs.length - natA (nthA s 1)) (Wk.refl ⟨rfl, 0, by omega, by simp [markL]⟩) ?_
  rintro _ _ ⟨rfl, i, hi, rfl⟩
  have hkb := markL_bnd (b := true) (zs := xs.map i64) (k := k) i
  have hk0 := markL_le true ((xs.map i64).take i) k
  simp [↓go, hll]
  refine ⟨fun hlt => ?_, fun hge => ?_⟩
  · obtain ⟨x, hx⟩ : ∃ x, xs[i]? = some x := ⟨_, List.getElem?_eq_getElem (by omega)⟩
    have hz : (xs.map i64)[i]? = some (i64 x) := by rw [List.getElem?_map, hx]; rfl
    have hg := markL_get (b := true) hz k
    have hkn := markL_take (b := true) hz k
    have hkb' := markL_bnd (b := true) (zs := xs.map i64) (k := k) (i + 1)
    rw [hkn] at hkb'
    generalize (markL true ((xs.map i64).take i) k).2 = ki at *
    generalize (markL true (xs.map i64) k).1 = zs' at *
    clear hz
    have wi := w64 (n := (i : Int) + 1) (by omega) (by omega)
    simp only [markL, markT, markV] at hg hkn hkb'
    have w0 := w64 (n := ki) (by omega) (by omega)
    have w1 := w64 (n := ki + 1) (by omega) (by omega)
    try simp only [w0, w1, AVal.flat] at hg hkn
    have hgl := (List.getElem?_eq_some_iff.1 hg).2
    simp [↓go, hll, hg, hgl, hlt, w0, w1, wi]
    refine wk_ex (And.intro ⟨rfl, i + 1, by omega, ?_⟩ ?_)
    · first | (rw [hkn]; done) | (rw [hkn]; rfl) | (rw [hkn]; simp)
    · simp; omega
  · obtain rfl : i = xs.length := by omega
    rw [List.take_of_length_le (by simp)]
    exact retW_ex hq
theorem F_heldInt64SS {xs : List (List Int)} {k : Int} {h : AHeap} {Q : KA} (hk : 0 ≤ k) (hs : szL (szL (fun _ => 0)) xs ≤ 1099511627776) (hb : (markL true (xs.map (encL i64)) k).2 ≤ 4611686018427387904)
    (hq : Q (i64 (markL true (xs.map (encL i64)) k).2) h) : @clM Tryz.prog 106 [.sl (markL true (xs.map (encL i64)) k).1, i64 k] h ⟨Q⟩ := by
  refine cl_of fn_laws_heldInt64SS (D_laws_heldInt64SS_of ?_)
  unfold D_laws_heldInt64SS
  have hlen := szL_len (szL (fun _ => 0)) xs
  have hll := markL_len true (xs.map (encL i64)) k
  rw [List.length_map] at hll
  refine lp_inv (fun s h' => h = h' ∧ ∃ i : Nat, i ≤ xs.length ∧ s = [i64 (markL true ((xs.map (encL i64)).take i) k).2, i64 i, .sl (markL true (xs.map (encL i64)) k).1]) (fun s _ => xs.length - natA (nthA s 1)) (Wk.refl ⟨rfl, 0, by omega, by simp [markL]⟩) ?_
  rintro _ _ ⟨rfl, i, hi, rfl⟩
  have hkb := markL_bnd (b := true) (zs := xs.map (encL i64)) (k := k) i
  have hk0 := markL_le true ((xs.map (encL i64)).take i) k
  simp [↓go, hll]
  refine ⟨fun hlt => ?_, fun hge => ?_⟩
  · obtain ⟨x, hx⟩ : ∃ x, xs[i]? = some x := ⟨_, List.getElem?_eq_getElem (by omega)⟩
    have hz : (xs.map (encL i64))[i]? = some ((encL i64) x) := by rw [List.getElem?_map, hx]; rfl
    have hg := markL_get (b := true) hz k
    have hkn := markL_take (b := true) hz k
    have hkb' := markL_bnd (b := true) (zs := xs.map (encL i64)) (k := k) (i + 1)
    rw [hkn] at hkb'
    generalize (markL true ((xs.map (encL i64)).take i) k).2 = ki at *
    generalize (markL true (xs.map (encL i64)) k).1 = zs' at *
    clear hz
    have wi := w64 (n := (i : Int) + 1) (by omega) (by omega)
    simp only [markT] at hg hkn hkb'
    have hgl := (List.getElem?_eq_some_iff.1 hg).2
    have hle := markL_le true (x.map i64) ki
    simp [↓go, hll, hg, hgl, hlt]
    refine F_heldInt64S (by omega) (Nat.le_trans (szL_get hx) hs) (by omega) ?_
    simp [↓go, wi]
    refine ⟨fun hh => by omega, fun _ => ?_⟩
    refine wk_ex (And.intro ⟨rfl, i + 1, by omega, ?_⟩ ?_)
    · first | (rw [hkn]; done) | (rw [hkn]; rfl) | (rw [hkn]; simp)
    · simp; omega
  · obtain rfl : i = xs.length := by omega
    rw [List.take_of_length_le (by simp)]
    exact retW_ex hq
theorem F_heldConstS {xs : List MConst} {k : Int} {h : AHeap} {Q : KA} (hk : 0 ≤ k) (hs : szL (fun _ => 0) xs ≤ 1099511627776) (hb : (markL true (xs.map encConst) k).2 ≤ 4611686018427387904)
    (hq : Q (i64 (markL true (xs.map encConst) k).2) h) : @clM Tryz.prog 107 [.sl (markL true (xs.map encConst) k).1, i64 k] h ⟨Q⟩ := by
  refine cl_of fn_laws_heldConstS (D_laws_heldConstS_of ?_)
  unfold D_laws_heldConstS
  have hlen := szL_len (fun _ => 0) xs
  have hll := markL_len true (xs.map encConst) k
  rw [List.length_map] at hll
  refine lp_inv (fun s h' => h = h' ∧ ∃ i : Nat, i ≤ xs.length ∧ s = [i64 (markL true ((xs.map encConst).take i) k).2, i64 i, .sl (markL true (xs.map encConst) k).1]) (fun s _ => xs.length - natA (nthA s 1)) (Wk.refl ⟨rfl, 0, by omega, by simp [markL]⟩) ?_
  rintro _ _ ⟨rfl, i, hi, rfl⟩
  have hkb := markL_bnd (b := true) (zs := xs.map encConst) (k := k) i
  have hk0 := markL_le true ((xs.map encConst).take i) k
  simp [↓go, hll]
  refine ⟨fun hlt => ?_, fun hge => ?_⟩
  · obtain ⟨x, hx⟩ : ∃ x, xs[i]? = some x := ⟨_, List.getElem?_eq_getElem (by omega)⟩
    have hz : (xs.map encConst)[i]? = some (encConst x) := by rw [List.getElem?_map, hx]; rfl
    have hg := markL_get (b := true) hz k
    have hkn := markL_take (b := true) hz k
    have hkb' := markL_bnd (b := true) (zs := xs.map encConst) (k := k) (i + 1)
    rw [hkn] at hkb'
    generalize (markL true ((xs.map encConst).take i) k).2 = ki at *
    generalize (markL true (xs.map encConst) k).1 = zs' at *
    clear hz
    have wi := w64 (n := (i : Int) + 1) (by omega) (by omega)
    rw [encConst_eq] at hg hkn hkb'
    simp only [markL, markT, markV] at hg hkn hkb'
    have w0 := w64 (n := ki) (by omega) (by omega)
    have w1 := w64 (n := ki + 1) (by omega) (by omega)
    have w2 := w64 (n := ki + 1 + 1) (by omega) (by omega)
    try simp only [w0, w1, w2, AVal.flat] at hg hkn
    have hgl := (List.getElem?_eq_some_iff.1 hg).2
    simp [↓go, hll, hg, hgl, hlt, w0, w1, w2, wi]
    refine wk_ex (And.intro ⟨rfl, i + 1, by omega, ?_⟩ ?_)
    · first | (rw [hkn]; done) | (rw [hkn]; rfl) | (rw [hkn]; simp)
    · simp; omega
  · obtain rfl : i = xs.length := by omega
    rw [List.take_of_length_le (by simp)]
    exact retW_ex hq
theorem F_heldInstrS {xs : List MInstr} {k : Int} {h : AHeap} {Q : KA} (hk : 0 ≤ k) (hs : szL (fun _ => 0) xs ≤ 1099511627776) (hb : (markL true (xs.map encInstr) k).2 ≤ 4611686018427387904)
    (hq : Q (i64 (markL true (xs.map encInstr) k).2) h) : @clM Tryz.prog 137 [.sl (markL true (xs.map encInstr) k).1, i64 k] h ⟨Q⟩ := by
  refine cl_of fn_laws_heldInstrS (D_laws_heldInstrS_of ?_)
  unfold D_laws_heldInstrS
  have hlen := szL_len (fun _ => 0) xs
  have hll := markL_len true (xs.map encInstr) k
  rw [List.length_map] at hll
  refine lp_inv (fun s h' => h = h' ∧ ∃ i : Nat, i ≤ xs.length ∧ s = [i64 (markL true ((xs.map encInstr).take i) k).2, i64 i, .sl (markL true (xs.map encInstr) k).1]) (fun s _ => xs.length - natA (nthA s 1)) (Wk.refl ⟨rfl, 0, by omega, by simp [markL]⟩) ?_
  rintro _ _ ⟨rfl, i, hi, rfl⟩
  have hkb := markL_bnd (b := true) (zs := xs.map encInstr) (k := k) i
  have hk0 := markL_le true ((xs.map encInstr).take i) k
  simp [↓go, hll]
  refine ⟨fun hlt => ?_, fun hge => ?_⟩
  · obtain ⟨x, hx⟩ : ∃ x, xs[i]? = some x := ⟨_, List.getElem?_eq_getElem (by omega)⟩
    have hz : (xs.map encInstr)[i]? = some (encInstr x) := by rw [List.getElem?_map, hx]; rfl
    have hg := markL_get (b := true) hz k
    have hkn := markL_take (b := true) hz k
    have hkb' := markL_bnd (b := true) (zs := xs.map encInstr) (k := k) (i + 1)
    rw [hkn] at hkb'
    generalize (markL true ((xs.map encInstr).take i) k).2 = ki at *
    generalize (markL true (xs.map encInstr) k).1 = zs' at *
    clear hz
    have wi := w64 (n := (i : Int) + 1) (by omega) (by omega)
    rw [encInstr_eq] at hg hkn hkb'
    simp only [markL, markT, markV] at hg hkn hkb'
    have w0 := w64 (n := ki) (by omega) (by omega)
    have w1 := w64 (n := ki + 1) (by omega) (by omega)
    have w2 := w64 (n := ki + 1 + 1) (by omega) (by omega)
    have w3 := w64 (n := ki + 1 + 1 + 1) (by omega) (by omega)
    have w4 := w64 (n := ki + 1 + 1 + 1 + 1) (by omega) (by omega)
    try simp only [w0, w1, w2, w3, w4, AVal.flat] at hg hkn
    have hgl := (List.getElem?_eq_some_iff.1 hg).2
    simp [↓go, hll, hg, hgl, hlt, w0, w1, w2, w3, w4, wi]
    refine wk_ex (And.intro ⟨rfl, i + 1, by omega, ?_⟩ ?_)
    · first | (rw [hkn]; done) | (rw [hkn]; rfl) | (rw [hkn]; simp)
    · simp; omega
  · obtain rfl : i = xs.length := by omega
    rw [List.take_of_length_le (by simp)]
    exact retW_ex hq
theorem F_heldFuncS {xs : List MFunc} {k : Int} {h : AHeap} {Q : KA} (hk : 0 ≤ k) (hs : szL szFunc xs ≤ 1099511627776) (hb : (markL true (xs.map encFunc) k).2 ≤ 4611686018427387904)
    (hq : Q (i64 (markL true (xs.map encFunc) k).2) h) : @clM Tryz.prog 108 [.sl (markL true (xs.map encFunc) k).1, i64 k] h ⟨Q⟩ := by
  refine cl_of fn_laws_heldFuncS (D_laws_heldFuncS_of ?_)
  unfold D_laws_heldFuncS
  have hlen := szL_len szFunc xs
  have hll := markL_len true (xs.map encFunc) k
  rw [List.length_map] at hll
  refine lp_inv (fun s h' => h = h' ∧ ∃ i : Nat, i ≤ xs.length ∧ s = [i64 (markL true ((xs.map encFunc).take i) k).2, i64 i, .sl (markL true (xs.map encFunc) k).1]) (fun s _ => xs.length - natA (nthA s 1)) (Wk.refl ⟨rfl, 0, by omega, by simp [markL]⟩) ?_
  rintro _ _ ⟨rfl, i, hi, rfl⟩
  have hkb := markL_bnd (b := true) (zs := xs.map encFunc) (k := k) i
  have hk0 := markL_le true ((xs.map encFunc).take i) k
  simp [↓go, hll]
  refine ⟨fun hlt => ?_, fun hge => ?_⟩
  · obtain ⟨x, hx⟩ : ∃ x, xs[i]? = some x := ⟨_, List.getElem?_eq_getElem (by omega)⟩
    have hz : (xs.map encFunc)[i]? = some (encFunc x) := by rw [List.getElem?_map, hx]; rfl
    have hg := markL_get (b := true) hz k
    have hkn := markL_take (b := true) hz k
    have hkb' := markL_bnd (b := true) (zs := xs.map encFunc) (k := k) (i + 1)
    rw [hkn] at hkb'
    generalize (markL true ((xs.map encFunc).take i) k).2 = ki at *
    generalize (markL true (xs.map encFunc) k).1 = zs' at *
    clear hz
    have wi := w64 (n := (i : Int) + 1) (by omega) (by omega)
    rw [encFunc_eq] at hg hkn hkb'
    simp only [markL, markT, markV] at hg hkn hkb'
    have hle0 := markL_le true (x.params.map i64) ki
    have hle2 := markL_le true (x.locals.map i64) ((markL true (x.params.map i64) ki).2 + 1)
    have hle3 := markL_le true (x.code.map encInstr) ((markL true (x.locals.map i64) ((markL true (x.params.map i64) ki).2 + 1)).2)
    have w0 := w64 (n := (markL true (x.params.map i64) ki).2) (by omega) (by omega)
    have w1 := w64 (n := (markL true (x.params.map i64) ki).2 + 1) (by omega) (by omega)
    try simp only [w0, w1, AVal.flat] at hg hkn
    have hgl := (List.getElem?_eq_some_iff.1 hg).2
    simp [↓go, hll, hg, hgl, hlt, w0, w1, wi]
    have hsx : szFunc x ≤ 1099511627776 := Nat.le_trans (szL_get hx) hs
    unfold szFunc at hsx
    refine F_heldInt64S (by omega) (by omega) (by omega) ?_
    simp [↓go, hll, hg, hgl, hlt, w0, w1, wi]
    refine ⟨fun hh => by omega, fun _ => ?_⟩
    refine F_heldInt64S (by omega) (by omega) (by omega) ?_
    simp [↓go, hll, hg, hgl, hlt, w0, w1, wi]
    refine ⟨fun hh => by omega, fun _ => ?_⟩
    refine F_heldInstrS (by omega) (by omega) (by omega) ?_
    simp [↓go, hll, hg, hgl, hlt, w0, w1, wi]
    refine ⟨fun hh => by omega, fun _ => ?_⟩
    refine wk_ex (And.intro ⟨rfl, i + 1, by omega, ?_⟩ ?_)
    · first | (rw [hkn]; done) | (rw [hkn]; rfl) | (rw [hkn]; simp)
    · simp; omega
  · obtain rfl : i = xs.length := by omega
    rw [List.take_of_length_le (by simp)]
    exact retW_ex hq
theorem F_heldCertS {xs : List MCert} {k : Int} {h : AHeap} {Q : KA} (hk : 0 ≤ k) (hs : szL (fun _ => 0) xs ≤ 1099511627776) (hb : (markL true (xs.map encCert) k).2 ≤ 4611686018427387904)
    (hq : Q (i64 (markL true (xs.map encCert) k).2) h) : @clM Tryz.prog 109 [.sl (markL true (xs.map encCert) k).1, i64 k] h ⟨Q⟩ := by
  refine cl_of fn_laws_heldCertS (D_laws_heldCertS_of ?_)
  unfold D_laws_heldCertS
  have hlen := szL_len (fun _ => 0) xs
  have hll := markL_len true (xs.map encCert) k
  rw [List.length_map] at hll
  refine lp_inv (fun s h' => h = h' ∧ ∃ i : Nat, i ≤ xs.length ∧ s = [i64 (markL true ((xs.map encCert).take i) k).2, i64 i, .sl (markL true (xs.map encCert) k).1]) (fun s _ => xs.length - natA (nthA s 1)) (Wk.refl ⟨rfl, 0, by omega, by simp [markL]⟩) ?_
  rintro _ _ ⟨rfl, i, hi, rfl⟩
  have hkb := markL_bnd (b := true) (zs := xs.map encCert) (k := k) i
  have hk0 := markL_le true ((xs.map encCert).take i) k
  simp [↓go, hll]
  refine ⟨fun hlt => ?_, fun hge => ?_⟩
  · obtain ⟨x, hx⟩ : ∃ x, xs[i]? = some x := ⟨_, List.getElem?_eq_getElem (by omega)⟩
    have hz : (xs.map encCert)[i]? = some (encCert x) := by rw [List.getElem?_map, hx]; rfl
    have hg := markL_get (b := true) hz k
    have hkn := markL_take (b := true) hz k
    have hkb' := markL_bnd (b := true) (zs := xs.map encCert) (k := k) (i + 1)
    rw [hkn] at hkb'
    generalize (markL true ((xs.map encCert).take i) k).2 = ki at *
    generalize (markL true (xs.map encCert) k).1 = zs' at *
    clear hz
    have wi := w64 (n := (i : Int) + 1) (by omega) (by omega)
    rw [encCert_eq] at hg hkn hkb'
    simp only [markL, markT, markV] at hg hkn hkb'
    have w0 := w64 (n := ki) (by omega) (by omega)
    have w1 := w64 (n := ki + 1) (by omega) (by omega)
    have w2 := w64 (n := ki + 1 + 1) (by omega) (by omega)
    have w3 := w64 (n := ki + 1 + 1 + 1) (by omega) (by omega)
    have w4 := w64 (n := ki + 1 + 1 + 1 + 1) (by omega) (by omega)
    try simp only [w0, w1, w2, w3, w4, AVal.flat] at hg hkn
    have hgl := (List.getElem?_eq_some_iff.1 hg).2
    simp [↓go, hll, hg, hgl, hlt, w0, w1, w2, w3, w4, wi]
    refine wk_ex (And.intro ⟨rfl, i + 1, by omega, ?_⟩ ?_)
    · first | (rw [hkn]; done) | (rw [hkn]; rfl) | (rw [hkn]; simp)
    · simp; omega
  · obtain rfl : i = xs.length := by omega
    rw [List.take_of_length_le (by simp)]
    exact retW_ex hq
theorem F_heldProgram {x : MProgram} {k : Int} {h : AHeap} {Q : KA} (hk : 0 ≤ k) (hs : szProgram x ≤ 1099511627776) (hb : (markT false (encProgram x) k).2 ≤ 4611686018427387904)
    (hq : Q (i64 (markT false (encProgram x) k).2) h) : @clM Tryz.prog 58 [(markT false (encProgram x) k).1, i64 k] h ⟨Q⟩ := by
  refine cl_of fn_laws_heldProgram (D_laws_heldProgram_of ?_)
  unfold D_laws_heldProgram
  rw [encProgram_eq] at hb hq ⊢
  simp only [markL, markT] at hb hq ⊢
  have hle0 := markL_le true (x.regions.map (encL i64)) k
  have hle1 := markL_le true (x.consts.map encConst) ((markL true (x.regions.map (encL i64)) k).2)
  have hle2 := markL_le true (x.funcs.map encFunc) ((markL true (x.consts.map encConst) ((markL true (x.regions.map (encL i64)) k).2)).2)
  have hle3 := markL_le true (x.certs.map encCert) ((markL true (x.funcs.map encFunc) ((markL true (x.consts.map encConst) ((markL true (x.regions.map (encL i64)) k).2)).2)).2)
  unfold szProgram at hs
  simp [↓go]
  refine F_heldInt64SS (by omega) (by omega) (by omega) ?_
  simp [↓go]
  refine ⟨fun hh => by omega, fun _ => ?_⟩
  refine F_heldConstS (by omega) (by omega) (by omega) ?_
  simp [↓go]
  refine ⟨fun hh => by omega, fun _ => ?_⟩
  refine F_heldFuncS (by omega) (by omega) (by omega) ?_
  simp [↓go]
  refine ⟨fun hh => by omega, fun _ => ?_⟩
  refine F_heldCertS (by omega) (by omega) (by omega) ?_
  simp [↓go]
  refine ⟨fun hh => by omega, fun _ => ?_⟩
  exact retW_ex hq
theorem F_heldByteS {xs : List Int} {k : Int} {h : AHeap} {Q : KA} (hk : 0 ≤ k) (hs : szL (fun _ => 0) xs ≤ 1099511627776) (hb : (markL true (xs.map u8) k).2 ≤ 4611686018427387904)
    (hq : Q (i64 (markL true (xs.map u8) k).2) h) : @clM Tryz.prog 14 [.sl (markL true (xs.map u8) k).1, i64 k] h ⟨Q⟩ := by
  refine cl_of fn_laws_heldByteS (D_laws_heldByteS_of ?_)
  unfold D_laws_heldByteS
  have hlen := szL_len (fun _ => 0) xs
  have hll := markL_len true (xs.map u8) k
  rw [List.length_map] at hll
  refine lp_inv (fun s h' => h = h' ∧ ∃ i : Nat, i ≤ xs.length ∧ s = [i64 (markL true ((xs.map u8).take i) k).2, i64 i, .sl (markL true (xs.map u8) k).1]) (fun s _ => xs.length - natA (nthA s 1)) (Wk.refl ⟨rfl, 0, by omega, by simp [markL]⟩) ?_
  rintro _ _ ⟨rfl, i, hi, rfl⟩
  have hkb := markL_bnd (b := true) (zs := xs.map u8) (k := k) i
  have hk0 := markL_le true ((xs.map u8).take i) k
  simp [↓go, hll]
  refine ⟨fun hlt => ?_, fun hge => ?_⟩
  · obtain ⟨x, hx⟩ : ∃ x, xs[i]? = some x := ⟨_, List.getElem?_eq_getElem (by omega)⟩
    have hz : (xs.map u8)[i]? = some (u8 x) := by rw [List.getElem?_map, hx]; rfl
    have hg := markL_get (b := true) hz k
    have hkn := markL_take (b := true) hz k
    have hkb' := markL_bnd (b := true) (zs := xs.map u8) (k := k) (i + 1)
    rw [hkn] at hkb'
    generalize (markL true ((xs.map u8).take i) k).2 = ki at *
    generalize (markL true (xs.map u8) k).1 = zs' at *
    clear hz
    have wi := w64 (n := (i : Int) + 1) (by omega) (by omega)
    simp only [markL, markT, markV] at hg hkn hkb'
    have w0 := w64 (n := ki + 1) (by omega) (by omega)
    try simp only [w0, AVal.flat] at hg hkn
    have hgl := (List.getElem?_eq_some_iff.1 hg).2
    simp [↓go, hll, hg, hgl, hlt, w0, wi]
    refine wk_ex (And.intro ⟨rfl, i + 1, by omega, ?_⟩ ?_)
    · first | (rw [hkn]; done) | (rw [hkn]; rfl) | (rw [hkn]; simp)
    · simp; omega
  · obtain rfl : i = xs.length := by omega
    rw [List.take_of_length_le (by simp)]
    exact retW_ex hq
end Go.Proofs.YtkfpoagnchahkaaGreat.A
