/- Of this session: over the abstract machine. -/
import Derived.Test.YtlnlbncinjiinaaProg
import Derived.Test.YtlnlbncinjiinaaA
import Derived.Test.YtlnlbncinjiinaaB
import Derived.Test.YtlnlbncinjiinaaD
namespace Go.Proofs.Ytlnlbncinjiinaa.A
open Go Go.RowKit
set_option linter.unusedVariables false
set_option linter.unusedSimpArgs false
set_option maxRecDepth 100000
set_option maxHeartbeats 1000000
structure MInstr where
  op : Int
  a : Int
  b : Int
  c : Int
theorem MInstr_ext {x y : MInstr} (h0 : x.op = y.op) (h1 : x.a = y.a) (h2 : x.b = y.b) (h3 : x.c = y.c) : x = y := by cases x; cases y; simp_all
def zInstr : MInstr := ⟨0, 0, 0, 0⟩
def encInstr (x : MInstr) : AVal := .agg [i64 x.op, i64 x.a, i64 x.b, i64 x.c]
@[simp] theorem encInstr_flat (x : MInstr) : (encInstr x).flat = [i64 x.op, i64 x.a, i64 x.b, i64 x.c] := rfl
@[simp] theorem encInstr_agg (x : MInstr) : (encInstr x).isAgg = true := rfl
@[simp] theorem frz_encInstr (r g : Nat) (xs : List AVal) (x : MInstr) : frz r g xs (encInstr x) = encInstr x := by simp [encInstr, frz, frz.frzs]
theorem encInstr_eq (x : MInstr) : encInstr x = .agg [i64 x.op, i64 x.a, i64 x.b, i64 x.c] := rfl
def okInstr (x : MInstr) : Prop := (wfI .i64) x.op ∧ (wfI .i64) x.a ∧ (wfI .i64) x.b ∧ (wfI .i64) x.c
theorem rdInstr (W : World) (N : Nat) : RdN N Try.prog W 91 encInstr okInstr := by
  intro H enc fuel cs y hN h
  obtain ⟨ys, m, hm, _, hl, hn, hf⟩ := DataW.trod_struct Try.underlying91 h
  have hl : cs.length = 4 := hl.trans (by kernel_rfl)
  have hn : ys.length = 4 := hn
  match cs, hl, ys, hn with
  | [c0, c1, c2, c3], _, [y0, y1, y2, y3], _ =>
    obtain ⟨x0, k0, o0⟩ := (show RdN N Try.prog W 2 i64 (wfI .i64) from (RdN.int .i64 Try.underlying2)) enc m [c0] y0 (by omega) ((congrArg _ (by kernel_rfl)).trans (hf 0 _ rfl))
    obtain ⟨x1, k1, o1⟩ := (show RdN N Try.prog W 2 i64 (wfI .i64) from (RdN.int .i64 Try.underlying2)) enc m [c1] y1 (by omega) ((congrArg _ (by kernel_rfl)).trans (hf 1 _ rfl))
    obtain ⟨x2, k2, o2⟩ := (show RdN N Try.prog W 2 i64 (wfI .i64) from (RdN.int .i64 Try.underlying2)) enc m [c2] y2 (by omega) ((congrArg _ (by kernel_rfl)).trans (hf 2 _ rfl))
    obtain ⟨x3, k3, o3⟩ := (show RdN N Try.prog W 2 i64 (wfI .i64) from (RdN.int .i64 Try.underlying2)) enc m [c3] y3 (by omega) ((congrArg _ (by kernel_rfl)).trans (hf 3 _ rfl))
    exact ⟨⟨x0, x1, x2, x3⟩, (RVL.app k0 (RVL.app k1 (RVL.app k2 k3))), ⟨o0, o1, o2, o3⟩⟩
theorem S_toInstr {x : MInstr} {h : AHeap} {Q : KA} (q : Q (encInstr x) h) : @clM Try.prog 51 [encInstr x] h ⟨Q⟩ := by
  refine cl_of fn_laws_toInstr (D_laws_toInstr_of ?_)
  unfold D_laws_toInstr
  simp [↓go]
  intro g2 g3
  refine wk_of (Wk.drop (Wk.refl ?_))
  exact q
theorem S_eqInstr {x : MInstr} {h : AHeap} {Q : KA} (q : Q tt h) : @clM Try.prog 55 [encInstr x, encInstr x] h ⟨Q⟩ := by
  refine cl_of fn_laws_eqInstr (D_laws_eqInstr_of ?_)
  unfold D_laws_eqInstr
  simp [↓go]
  exact retW_ex q
theorem S_szInstrS {xs : List MInstr} {n : Int} {h : AHeap} {Q : KA} (hn : 0 ≤ n ∧ n ≤ 1048576) (ho : okL okInstr xs) (q1 : Q (i64 (-1)) h) (q2 : (szL (fun _ => 0) xs : Int) ≤ n → Q (i64 (n - szL (fun _ => 0) xs)) h) : @clM Try.prog 23 [encL encInstr xs, i64 n] h ⟨Q⟩ := by
  refine cl_of fn_laws_szInstrS (D_laws_szInstrS_of ?_)
  unfold D_laws_szInstrS
  have hl := ho.1
  unfold maxLen at hl
  rw [szL_zero] at q2
  simp [↓go]
  rw [w64 (by omega) (by omega)]
  exact ⟨fun h1 => retW_ex q1, fun h1 => retW_ex (q2 (by omega))⟩
theorem S_toInstrS {xs : List MInstr} {h : AHeap} {Q : KA} (hs : szL (fun _ => 0) xs ≤ 1048576) (q : Q (encL encInstr xs) h) : @clM Try.prog 25 [encL encInstr xs] h ⟨Q⟩ := by
  refine cl_of fn_laws_toInstrS (D_laws_toInstrS_of ?_)
  unfold D_laws_toInstrS
  have hcl := szL_len (fun _ => 0) xs
  simp [↓go]
  refine ⟨by omega, by omega, fun g1 => ?_⟩
  refine lp_inv (fun s h' => ∃ i : Nat, i ≤ xs.length ∧ h' = h ++ [.row g1 4 ((xs.map encInstr).take i ++ List.replicate (xs.length - i) (.agg [i64 0, i64 0, i64 0, i64 0]))] ∧ s = [.rf h.length g1 0 xs.length, i64 i, encL encInstr xs]) (fun s _ => xs.length - natA (nthA s 1)) (Wk.refl ⟨0, by omega, by simp, by simp⟩) ?_
  rintro _ _ ⟨i, hi, rfl, rfl⟩
  simp [↓go]
  refine ⟨fun hlt => ?_, fun hge => ?_⟩
  · obtain ⟨x, hx⟩ : ∃ x, xs[i]? = some x := ⟨_, List.getElem?_eq_getElem hlt⟩
    obtain ⟨_, hxl⟩ := List.getElem?_eq_some_iff.1 hx
    have hms := fill_set encInstr xs hx (.agg [i64 0, i64 0, i64 0, i64 0])
    have hml := fill_len encInstr xs hi (.agg [i64 0, i64 0, i64 0, i64 0])
    have hma := fill_at encInstr xs hlt (.agg [i64 0, i64 0, i64 0, i64 0])
    generalize (xs.map encInstr).take i ++ List.replicate (xs.length - i) (.agg [i64 0, i64 0, i64 0, i64 0]) = row at hms hml hma ⊢
    simp [↓go, hx, hlt, hxl, hml, hma]
    refine S_toInstr  ?_
    simp [↓go, hml, hma]
    rw [w64 (by omega) (by omega)]
    first | refine wk_ex ?_ | refine ⟨by omega, wk_ex ?_⟩ | refine ⟨by omega, by omega, wk_ex ?_⟩ | fail
    refine And.intro ⟨i + 1, by omega, ?_, rfl⟩ ?_
    · rw [encInstr_eq] at hms; first | (simp [hms]; done) | exact congrArg (fun z => h ++ [AObj.row g1 _ z]) hms | fail
    · simp; omega
  · obtain rfl : i = xs.length := by omega
    simp
    refine wk_of (Wk.fzL (p := 0) rfl (l' := []) trivial (Wk.refl ?_))
    simpa [frz, Function.comp_def, List.take_of_length_le] using q
theorem S_eqInstrS {xs : List MInstr} {h : AHeap} {Q : KA} (hs : szL (fun _ => 0) xs ≤ 1048576) (q : Q tt h) : @clM Try.prog 28 [encL encInstr xs, encL encInstr xs] h ⟨Q⟩ := by
  refine cl_of fn_laws_eqInstrS (D_laws_eqInstrS_of ?_)
  unfold D_laws_eqInstrS
  have hcl := szL_len (fun _ => 0) xs
  simp [↓go]
  refine lp_inv (fun s h' => h = h' ∧ ∃ i : Nat, i ≤ xs.length ∧ s = [i64 i, encL encInstr xs, encL encInstr xs]) (fun s _ => xs.length - natA (nthA s 0)) (Wk.refl ⟨rfl, 0, by omega, rfl⟩) ?_
  rintro _ _ ⟨rfl, i, hi, rfl⟩
  simp [↓go]
  refine ⟨fun hlt => ?_, fun hge => retW_ex q⟩
  obtain ⟨x, hx⟩ : ∃ x, xs[i]? = some x := ⟨_, List.getElem?_eq_getElem hlt⟩
  obtain ⟨_, hxl⟩ := List.getElem?_eq_some_iff.1 hx
  simp [↓go, hx, hlt, hxl]
  refine S_eqInstr  ?_
  simp [↓go]
  rw [w64 (by omega) (by omega)]
  refine wk_ex ?_
  refine And.intro ⟨rfl, i + 1, by omega, rfl⟩ ?_
  simp; omega
theorem S_eqInt64S {xs : List Int} {h : AHeap} {Q : KA} (hs : szL (fun _ => 0) xs ≤ 1048576) (q : Q tt h) : @clM Try.prog 78 [encL i64 xs, encL i64 xs] h ⟨Q⟩ := by
  refine cl_of fn_laws_eqInt64S (D_laws_eqInt64S_of ?_)
  unfold D_laws_eqInt64S
  have hcl := szL_len (fun _ => 0) xs
  simp [↓go]
  refine lp_inv (fun s h' => h = h' ∧ ∃ i : Nat, i ≤ xs.length ∧ s = [i64 i, encL i64 xs, encL i64 xs]) (fun s _ => xs.length - natA (nthA s 0)) (Wk.refl ⟨rfl, 0, by omega, rfl⟩) ?_
  rintro _ _ ⟨rfl, i, hi, rfl⟩
  simp [↓go]
  refine ⟨fun hlt => ?_, fun hge => retW_ex q⟩
  obtain ⟨x, hx⟩ : ∃ x, xs[i]? = some x := ⟨_, List.getElem?_eq_getElem hlt⟩
  obtain ⟨_, hxl⟩ := List.getElem?_eq_some_iff.1 hx
  simp [↓go, hx, hlt, hxl]
  rw [w64 (by omega) (by omega)]
  refine wk_ex ?_
  refine And.intro ⟨rfl, i + 1, by omega, rfl⟩ ?_
  simp; omega
structure MBlock where
  first : Int
  last : Int
  nxt : List Int
theorem MBlock_ext {x y : MBlock} (h0 : x.first = y.first) (h1 : x.last = y.last) (h2 : x.nxt = y.nxt) : x = y := by cases x; cases y; simp_all
def zBlock : MBlock := ⟨0, 0, []⟩
def encBlock (x : MBlock) : AVal := .agg [i64 x.first, i64 x.last, (encL i64) x.nxt]
@[simp] theorem encBlock_flat (x : MBlock) : (encBlock x).flat = [i64 x.first, i64 x.last, (encL i64) x.nxt] := rfl
@[simp] theorem encBlock_agg (x : MBlock) : (encBlock x).isAgg = true := rfl
@[simp] theorem frz_encBlock (r g : Nat) (xs : List AVal) (x : MBlock) : frz r g xs (encBlock x) = encBlock x := by simp [encBlock, frz, frz.frzs]
theorem encBlock_eq (x : MBlock) : encBlock x = .agg [i64 x.first, i64 x.last, (encL i64) x.nxt] := rfl
def okBlock (x : MBlock) : Prop := (wfI .i64) x.first ∧ (wfI .i64) x.last ∧ (okL (wfI .i64)) x.nxt
def szBlock (x : MBlock) : Nat := (szL (fun _ => 0)) x.nxt
theorem S_eqBlock {x : MBlock} {h : AHeap} {Q : KA} (hs : szBlock x ≤ 1048576) (q : Q tt h) : @clM Try.prog 54 [encBlock x, encBlock x] h ⟨Q⟩ := by
  refine cl_of fn_laws_eqBlock (D_laws_eqBlock_of ?_)
  unfold D_laws_eqBlock
  unfold szBlock at hs
  simp [↓go]
  refine S_eqInt64S (by omega) ?_
  simp [↓go]
  exact retW_ex q
theorem S_eqBlockS {xs : List MBlock} {h : AHeap} {Q : KA} (hs : szL szBlock xs ≤ 1048576) (q : Q tt h) : @clM Try.prog 27 [encL encBlock xs, encL encBlock xs] h ⟨Q⟩ := by
  refine cl_of fn_laws_eqBlockS (D_laws_eqBlockS_of ?_)
  unfold D_laws_eqBlockS
  have hcl := szL_len szBlock xs
  simp [↓go]
  refine lp_inv (fun s h' => h = h' ∧ ∃ i : Nat, i ≤ xs.length ∧ s = [i64 i, encL encBlock xs, encL encBlock xs]) (fun s _ => xs.length - natA (nthA s 0)) (Wk.refl ⟨rfl, 0, by omega, rfl⟩) ?_
  rintro _ _ ⟨rfl, i, hi, rfl⟩
  simp [↓go]
  refine ⟨fun hlt => ?_, fun hge => retW_ex q⟩
  obtain ⟨x, hx⟩ : ∃ x, xs[i]? = some x := ⟨_, List.getElem?_eq_getElem hlt⟩
  obtain ⟨_, hxl⟩ := List.getElem?_eq_some_iff.1 hx
  simp [↓go, hx, hlt, hxl]
  refine S_eqBlock (Nat.le_trans (szL_get hx) hs) ?_
  simp [↓go]
  rw [w64 (by omega) (by omega)]
  refine wk_ex ?_
  refine And.intro ⟨rfl, i + 1, by omega, rfl⟩ ?_
  simp; omega
end Go.Proofs.Ytlnlbncinjiinaa.A
