/- Of this session: over the abstract machine. -/
import Derived.Test.YtlnlbncinjiinaaProg
import Derived.Test.YtlnlbncinjiinaaA
import Derived.Test.YtlnlbncinjiinaaB
import Derived.Test.YtlnlbncinjiinaaD
import Derived.Test.YtlnlbncinjiinaaT
import Derived.Test.YtlnlbncinjiinaaO
namespace Go.Proofs.Ytlnlbncinjiinaa.A
open Go Go.RowKit
set_option linter.unusedVariables false
set_option linter.unusedSimpArgs false
set_option maxRecDepth 100000
set_option maxHeartbeats 1000000
theorem mk_le {α : Type} {e : α → AVal} {f : α → Nat} (hx : ∀ (x : α) (k : Int), (markT true (e x) k).2 ≤ k + 16 * (1 + (f x : Int))) : ∀ (xs : List α) (k : Int), (markL true (xs.map e) k).2 ≤ k + 16 * (szL f xs : Int)
  | [], k => by simp [markL, szL]
  | x :: xs, k => by
    have h1 := hx x k
    have h2 := mk_le hx xs (markT true (e x) k).2
    have h3 : szL f (x :: xs) = szL f xs + 1 + f x := by unfold szL; simp; omega
    rw [h3]
    simp only [List.map_cons, markL]
    omega
theorem mbI64 (x : Int) (k : Int) : (markT true (i64 x) k).2 ≤ k + 16 * (1 + ((0 : Nat) : Int)) := by simp [markT, markV]
theorem mbU32 (x : Int) (k : Int) : (markT true (u32 x) k).2 ≤ k + 16 * (1 + ((0 : Nat) : Int)) := by simp [markT, markV]
theorem mbU8 (x : Int) (k : Int) : (markT true (u8 x) k).2 ≤ k + 16 * (1 + ((0 : Nat) : Int)) := by simp [markT, markV]
theorem mbBl (x : Bool) (k : Int) : (markT true (bl x) k).2 ≤ k + 16 * (1 + ((0 : Nat) : Int)) := by simp [markT, markV]
theorem mbInstr (x : MInstr) (k : Int) : (markT true (encInstr x) k).2 ≤ k + 16 * (1 + (((0 : Nat) : Int) : Int)) := by
  rw [encInstr_eq]
  simp only [markT, markL, markV]
  omega
theorem mbInstrS (x : List MInstr) (k : Int) : (markT true (encL encInstr x) k).2 ≤ k + 16 * (1 + (szL (fun _ => 0) x : Int)) := by
  have := mk_le (e := encInstr) (f := (fun _ => 0)) mbInstr x k
  simp only [markT]
  omega
theorem mbInt64S (x : List Int) (k : Int) : (markT true (encL i64 x) k).2 ≤ k + 16 * (1 + (szL (fun _ => 0) x : Int)) := by
  have := mk_le (e := i64) (f := (fun _ => 0)) mbI64 x k
  simp only [markT]
  omega
theorem mbBlock (x : MBlock) (k : Int) : (markT true (encBlock x) k).2 ≤ k + 16 * (1 + (szBlock x : Int)) := by
  rw [encBlock_eq]
  simp only [markT, markL, markV]
  have h2 := mk_le (e := i64) (f := (fun _ => 0)) mbI64 x.nxt (k + 1 + 1)
  unfold szBlock
  omega
theorem mvBlock (x : MBlock) (k : Int) : (markT false (encBlock x) k).2 ≤ k + 16 * (szBlock x : Int) := by
  rw [encBlock_eq]
  simp only [markT, markL, markV]
  unfold szBlock
  have h2 := mk_le (e := i64) (f := (fun _ => 0)) mbI64 x.nxt k
  omega
theorem mbBlockS (x : List MBlock) (k : Int) : (markT true (encL encBlock x) k).2 ≤ k + 16 * (1 + (szL szBlock x : Int)) := by
  have := mk_le (e := encBlock) (f := szBlock) mbBlock x k
  simp only [markT]
  omega
theorem owInstr (h : AHeap) (x : MInstr) : Own h [encInstr x] [encInstr x] [] := .ag (.v rfl (.v rfl (.v rfl (.v rfl .nil)))) .nil (by simp)
theorem O_toInstrS {xs : List MInstr} {h : AHeap} {Q : KA} (hs : szL (fun _ => 0) xs ≤ 1048576) (q : ∀ y l, Made h y (encL encInstr xs) l → Q y (h ++ l)) : @clM Try.prog 25 [encL encInstr xs] h ⟨Q⟩ := by
  refine cl_of fn_laws_toInstrS (D_laws_toInstrS_of ?_)
  unfold D_laws_toInstrS
  have hcl := szL_len (fun _ => 0) xs
  simp [↓go]
  refine ⟨by omega, by omega, fun g1 => ?_⟩
  refine lp_inv (fun s h' => ∃ i : Nat, i ≤ xs.length ∧ h' = h ++ [.row g1 4 ((xs.map encInstr).take i ++ List.replicate (xs.length - i) (.agg [i64 0, i64 0, i64 0, i64 0]))] ∧ s = [.rf h.length g1 0 xs.length, i64 i, encL encInstr xs]) (fun s _ => xs.length - natA (nthA s 1)) (Wk.refl ⟨0, by omega, by simp, by simp⟩) ?_
  rintro _ _ ⟨i, hi, rfl, rfl⟩
  simp [↓go]
  refine ⟨fun hlt => ?_, fun hge => ?_⟩
  · obtain ⟨x, hx⟩ : ∃ x, xs[i]? = some x := ⟨_, List.getElem?_eq_getElem hlt⟩
    obtain ⟨_, hxl⟩ := List.getElem?_eq_some_iff.1 hx
    have hms := fill_set encInstr xs hx (.agg [i64 0, i64 0, i64 0, i64 0])
    have hml := fill_len encInstr xs hi (.agg [i64 0, i64 0, i64 0, i64 0])
    have hma := fill_at encInstr xs hlt (.agg [i64 0, i64 0, i64 0, i64 0])
    generalize (xs.map encInstr).take i ++ List.replicate (xs.length - i) (.agg [i64 0, i64 0, i64 0, i64 0]) = row at hms hml hma ⊢
    simp [↓go, hx, hlt, hxl, hml, hma]
    refine S_toInstr ?_
    simp [↓go, hml, hma]
    rw [w64 (by omega) (by omega)]
    first | refine wk_ex ?_ | refine ⟨by omega, wk_ex ?_⟩ | refine ⟨by omega, by omega, wk_ex ?_⟩ | fail
    refine And.intro ⟨i + 1, by omega, ?_, rfl⟩ ?_
    · rw [encInstr_eq] at hms; first | (simp [hms]; done) | exact congrArg (fun z => h ++ [AObj.row g1 _ z]) hms | fail
    · simp; omega
  · obtain rfl : i = xs.length := by omega
    simp
    refine wk_of (Wk.made (rs := [h.length]) (Own.rf_mk (g := g1) (s := 4) (ys := xs.map encInstr) (by simp [List.take_of_length_le]) (by simp) (Own.map (fun x => owInstr _ x) xs) (by simp)) (by simp) (fun l' hm => q _ _ hm))
theorem M_markInstrS {xs : List MInstr} {y : AVal} {k : Int} {h : AHeap} {rs : List Nat} {Q : KA} (ho : Own h [y] [encL encInstr xs] rs) (hk : 0 ≤ k) (hb : (markL true (xs.map encInstr) k).2 ≤ 4611686018427387904)
    (hq : ∀ h', Own h' [y] [.sl (markL true (xs.map encInstr) k).1] rs → (∀ q, q ∉ rs → h'[q]? = h[q]?) → h'.length = h.length → Q (i64 (markL true (xs.map encInstr) k).2) h') : @clM Try.prog 29 [y, i64 k] h ⟨Q⟩ := by
  refine cl_fit fn_laws_markInstrS (fun hfit => D_laws_markInstrS_of ?_)
  unfold D_laws_markInstrS
  unfold encL at ho
  have hc := ho
  rcases ho.sl_inv with ⟨rfl, e0, rfl⟩ | ⟨r, g, s, n, ys, r1, rfl, rfl, _⟩
  · rw [e0] at hc hb hq
    refine lp_inv (fun s h' => h = h' ∧ s = [i64 k, i64 0, nilS]) (fun _ _ => 0) (Wk.refl ⟨rfl, rfl⟩) ?_
    rintro _ _ ⟨rfl, rfl⟩
    simp [↓go, nilS]
    exact retW_ex (hq _ hc (fun _ _ => rfl) rfl)
  obtain ⟨s0, ys0, r1', e1, m0⟩ := MI.start (k := k) hc hfit
  cases e1
  refine lp_inv (fun s h' => ∃ (i : Nat) (ys : List AVal), i ≤ n ∧ MI h r g s0 n (xs.map encInstr) k r1 i h' ys ∧ s = [i64 (markL true ((xs.map encInstr).take i) k).2, i64 i, .rf r g 0 n]) (fun s _ => n - natA (nthA s 1)) (Wk.refl ⟨0, ys0, by omega, m0, by simp [markL]⟩) ?_
  rintro _ h1 ⟨i, ys, hi, hm, rfl⟩
  have hnl : xs.length = n := by simpa using hm.zlen
  have hr := hm.row
  have hl := hm.len
  have hkb := markL_bnd (b := true) (zs := xs.map encInstr) (k := k) i
  have hk0 := markL_le true ((xs.map encInstr).take i) k
  have hnb := hm.big
  unfold maxLen at hnb
  simp [↓go]
  refine ⟨fun hlt => ?_, fun hge => ?_⟩
  · obtain ⟨x, hx⟩ : ∃ x, xs[i]? = some x := ⟨_, List.getElem?_eq_getElem (by omega)⟩
    have hz : (xs.map encInstr)[i]? = some (encInstr x) := by rw [List.getElem?_map, hx]; rfl
    obtain ⟨z, qs, hy, oz, hnq, hzs, hst⟩ := hm.step hz
    have hkn := markL_take (b := true) hz k
    have hkb' := markL_bnd (b := true) (zs := xs.map encInstr) (k := k) (i + 1)
    rw [hkn] at hkb'
    generalize (markL true ((xs.map encInstr).take i) k).2 = ki at *
    clear hz
    have hyl := (List.getElem?_eq_some_iff.1 hy).2
    have hrl : r < h1.length := (List.getElem?_eq_some_iff.1 hr).1
    have hset : ∀ v, (h1.set r v)[r]? = some v := fun v => by simp [hrl]
    have wi := w64 (n := (i : Int) + 1) (by omega) (by omega)
    rw [encInstr_eq] at oz hst hkn hkb'
    obtain ⟨cs, rfl, oc⟩ := oz.agg_inv2
    obtain ⟨c0, _, _, rfl, oc0⟩ := oc.cons_ex
    obtain ⟨c1, _, _, rfl, oc1⟩ := oc0.cons_ex
    obtain ⟨c2, _, _, rfl, oc2⟩ := oc1.cons_ex
    obtain ⟨c3, _, _, rfl, oc3⟩ := oc2.cons_ex
    obtain ⟨rfl, -⟩ := oc3.nil_inv
    simp at hzs
    subst hzs
    simp only [markL, markT, markV] at hkb'
    have w0 := w64 (n := ki) (by omega) (by omega)
    have w1 := w64 (n := ki + 1) (by omega) (by omega)
    have w2 := w64 (n := ki + 1 + 1) (by omega) (by omega)
    have w3 := w64 (n := ki + 1 + 1 + 1) (by omega) (by omega)
    have w4 := w64 (n := ki + 1 + 1 + 1 + 1) (by omega) (by omega)
    have m0 := ME.start (k := ki) hr hy oz hnq
    have m1 := m0.scal rfl rfl
    have m2 := m1.scal rfl rfl
    have m3 := m2.scal rfl rfl
    have m4 := m3.scal rfl rfl
    have e := hst _ _ (m4.fin rfl) m4.row m4.fr m4.hl
    try simp [markL, markT, markV, w0, w1, w2, w3, w4, List.set] at e
    try simp only [markT, markL, markV, w0, w1, w2, w3, w4, AVal.flat] at hkn
    simp [↓go, hr, hl, hy, hlt, hyl, hset, w0, w1, w2, w3, w4, wi]
    refine wk_ex (And.intro ⟨i + 1, _, by omega, e, ?_⟩ ?_)
    · first | (rw [hkn]; done) | (rw [hkn]; rfl) | (rw [hkn]; simp)
    · simp; omega
  · obtain rfl : i = n := by omega
    rw [List.take_of_length_le (by simp; omega)]
    exact retW_ex (hq _ hm.fin hm.fr hm.hl)
theorem M_markInt64S {xs : List Int} {y : AVal} {k : Int} {h : AHeap} {rs : List Nat} {Q : KA} (ho : Own h [y] [encL i64 xs] rs) (hk : 0 ≤ k) (hb : (markL true (xs.map i64) k).2 ≤ 4611686018427387904)
    (hq : ∀ h', Own h' [y] [.sl (markL true (xs.map i64) k).1] rs → (∀ q, q ∉ rs → h'[q]? = h[q]?) → h'.length = h.length → Q (i64 (markL true (xs.map i64) k).2) h') : @clM Try.prog 56 [y, i64 k] h ⟨Q⟩ := by
  refine cl_fit fn_laws_markInt64S (fun hfit => D_laws_markInt64S_of ?_)
  unfold D_laws_markInt64S
  unfold encL at ho
  have hc := ho
  rcases ho.sl_inv with ⟨rfl, e0, rfl⟩ | ⟨r, g, s, n, ys, r1, rfl, rfl, _⟩
  · rw [e0] at hc hb hq
    refine lp_inv (fun s h' => h = h' ∧ s = [i64 k, i64 0, nilS]) (fun _ _ => 0) (Wk.refl ⟨rfl, rfl⟩) ?_
    rintro _ _ ⟨rfl, rfl⟩
    simp [↓go, nilS]
    exact retW_ex (hq _ hc (fun _ _ => rfl) rfl)
  obtain ⟨s0, ys0, r1', e1, m0⟩ := MI.start (k := k) hc hfit
  cases e1
  refine lp_inv (fun s h' => ∃ (i : Nat) (ys : List AVal), i ≤ n ∧ MI h r g s0 n (xs.map i64) k r1 i h' ys ∧ s = [i64 (markL true ((xs.map i64).take i) k).2, i64 i, .rf r g 0 n]) (fun s _ => n - natA (nthA s 1)) (Wk.refl ⟨0, ys0, by omega, m0, by simp [markL]⟩) ?_
  rintro _ h1 ⟨i, ys, hi, hm, rfl⟩
  have hnl : xs.length = n := by simpa using hm.zlen
  have hr := hm.row
  have hl := hm.len
  have hkb := markL_bnd (b := true) (zs := xs.map i64) (k := k) i
  have hk0 := markL_le true ((xs.map i64).take i) k
  have hnb := hm.big
  unfold maxLen at hnb
  simp [↓go]
  refine ⟨fun hlt => ?_, fun hge => ?_⟩
  · obtain ⟨x, hx⟩ : ∃ x, xs[i]? = some x := ⟨_, List.getElem?_eq_getElem (by omega)⟩
    have hz : (xs.map i64)[i]? = some (i64 x) := by rw [List.getElem?_map, hx]; rfl
    obtain ⟨z, qs, hy, oz, hnq, hzs, hst⟩ := hm.step hz
    have hkn := markL_take (b := true) hz k
    have hkb' := markL_bnd (b := true) (zs := xs.map i64) (k := k) (i + 1)
    rw [hkn] at hkb'
    generalize (markL true ((xs.map i64).take i) k).2 = ki at *
    clear hz
    have hyl := (List.getElem?_eq_some_iff.1 hy).2
    have hrl : r < h1.length := (List.getElem?_eq_some_iff.1 hr).1
    have hset : ∀ v, (h1.set r v)[r]? = some v := fun v => by simp [hrl]
    have wi := w64 (n := (i : Int) + 1) (by omega) (by omega)
    obtain ⟨rfl, rfl⟩ := oz.v_inv
    simp at hzs
    subst hzs
    have w0 := w64 (n := ki) (by omega) (by omega)
    have w1 := w64 (n := ki + 1) (by omega) (by omega)
    have e := hst (h1.set r (.row g _ (ys.set i (.v (markV _ ki).1)))) _ (.v rfl .nil) (hset _) (fun q hq _ => by rw [List.getElem?_set_ne (fun e => hq e.symm)]) (by simp)
    simp [markT, markV, w0, w1] at e hkn hkb'
    simp [↓go, hr, hl, hy, hlt, hyl, hset, w0, w1, wi] at e ⊢
    refine wk_ex (And.intro ⟨i + 1, _, by omega, e, ?_⟩ ?_)
    · first | (rw [hkn]; done) | (rw [hkn]; rfl) | (rw [hkn]; simp)
    · simp; omega
  · obtain rfl : i = n := by omega
    rw [List.take_of_length_le (by simp; omega)]
    exact retW_ex (hq _ hm.fin hm.fr hm.hl)
theorem M_markBlockS {xs : List MBlock} {y : AVal} {k : Int} {h : AHeap} {rs : List Nat} {Q : KA} (ho : Own h [y] [encL encBlock xs] rs) (hk : 0 ≤ k) (hb : (markL true (xs.map encBlock) k).2 ≤ 4611686018427387904)
    (hq : ∀ h', Own h' [y] [.sl (markL true (xs.map encBlock) k).1] rs → (∀ q, q ∉ rs → h'[q]? = h[q]?) → h'.length = h.length → Q (i64 (markL true (xs.map encBlock) k).2) h') : @clM Try.prog 30 [y, i64 k] h ⟨Q⟩ := by
  refine cl_fit fn_laws_markBlockS (fun hfit => D_laws_markBlockS_of ?_)
  unfold D_laws_markBlockS
  unfold encL at ho
  have hc := ho
  rcases ho.sl_inv with ⟨rfl, e0, rfl⟩ | ⟨r, g, s, n, ys, r1, rfl, rfl, _⟩
  · rw [e0] at hc hb hq
    refine lp_inv (fun s h' => h = h' ∧ s = [i64 k, i64 0, nilS]) (fun _ _ => 0) (Wk.refl ⟨rfl, rfl⟩) ?_
    rintro _ _ ⟨rfl, rfl⟩
    simp [↓go, nilS]
    exact retW_ex (hq _ hc (fun _ _ => rfl) rfl)
  obtain ⟨s0, ys0, r1', e1, m0⟩ := MI.start (k := k) hc hfit
  cases e1
  refine lp_inv (fun s h' => ∃ (i : Nat) (ys : List AVal), i ≤ n ∧ MI h r g s0 n (xs.map encBlock) k r1 i h' ys ∧ s = [i64 (markL true ((xs.map encBlock).take i) k).2, i64 i, .rf r g 0 n]) (fun s _ => n - natA (nthA s 1)) (Wk.refl ⟨0, ys0, by omega, m0, by simp [markL]⟩) ?_
  rintro _ h1 ⟨i, ys, hi, hm, rfl⟩
  have hnl : xs.length = n := by simpa using hm.zlen
  have hr := hm.row
  have hl := hm.len
  have hkb := markL_bnd (b := true) (zs := xs.map encBlock) (k := k) i
  have hk0 := markL_le true ((xs.map encBlock).take i) k
  have hnb := hm.big
  unfold maxLen at hnb
  simp [↓go]
  refine ⟨fun hlt => ?_, fun hge => ?_⟩
  · obtain ⟨x, hx⟩ : ∃ x, xs[i]? = some x := ⟨_, List.getElem?_eq_getElem (by omega)⟩
    have hz : (xs.map encBlock)[i]? = some (encBlock x) := by rw [List.getElem?_map, hx]; rfl
    obtain ⟨z, qs, hy, oz, hnq, hzs, hst⟩ := hm.step hz
    have hkn := markL_take (b := true) hz k
    have hkb' := markL_bnd (b := true) (zs := xs.map encBlock) (k := k) (i + 1)
    rw [hkn] at hkb'
    generalize (markL true ((xs.map encBlock).take i) k).2 = ki at *
    clear hz
    have hyl := (List.getElem?_eq_some_iff.1 hy).2
    have hrl : r < h1.length := (List.getElem?_eq_some_iff.1 hr).1
    have hset : ∀ v, (h1.set r v)[r]? = some v := fun v => by simp [hrl]
    have wi := w64 (n := (i : Int) + 1) (by omega) (by omega)
    rw [encBlock_eq] at oz hst hkn hkb'
    obtain ⟨cs, rfl, oc⟩ := oz.agg_inv2
    obtain ⟨c0, _, _, rfl, oc0⟩ := oc.cons_ex
    obtain ⟨c1, _, _, rfl, oc1⟩ := oc0.cons_ex
    obtain ⟨c2, _, _, rfl, oc2⟩ := oc1.cons_ex
    obtain ⟨rfl, -⟩ := oc2.nil_inv
    simp at hzs
    subst hzs
    simp only [markL, markT, markV] at hkb'
    have hle2 := markL_le true (x.nxt.map i64) (ki + 1 + 1)
    have w0 := w64 (n := ki) (by omega) (by omega)
    have w1 := w64 (n := ki + 1) (by omega) (by omega)
    have w2 := w64 (n := ki + 1 + 1) (by omega) (by omega)
    have m0 := ME.start (k := ki) hr hy oz hnq
    have m1 := m0.scal rfl rfl
    have m2 := m1.scal rfl rfl
    try simp only [List.take, List.set, List.set_set, markL, markT, markV, w0, w1, w2, AVal.flat] at m2
    obtain ⟨d2, qj2, hc2, oj2, hj2⟩ := m2.call (j := 2) rfl
    have ec : d2 = c2 := by simpa using hc2.symm
    subst ec
    try simp only [List.take, markL, markT, markV, w0, w1, w2, AVal.flat] at hj2 oj2
    obtain ⟨f2, a2, g2⟩ := oj2.sl_cell
    have hrw2 := m2.row
    have hil2 := m2.il
    simp [↓go, hr, hrw2, hl, hy, hlt, hyl, hset, f2, a2, g2, w0, w1, w2, wi]
    first | refine M_markInt64S oj2 (by omega) (by omega) (fun h4 o2 f2' l2 => ?_) | refine ⟨by omega, M_markInt64S oj2 (by omega) (by omega) (fun h4 o2 f2' l2 => ?_)⟩
    have m3 := hj2 h4 o2 f2' l2
    clear hset hr
    have hr := m3.row
    have hrl : r < h4.length := (List.getElem?_eq_some_iff.1 hr).1
    have hset : ∀ v, (h4.set r v)[r]? = some v := fun v => by simp [hrl]
    have e := hst _ _ (m3.fin rfl) m3.row m3.fr m3.hl
    try simp [markL, markT, markV, w0, w1, w2, List.set] at e
    try simp only [markT, markL, markV, w0, w1, w2, AVal.flat] at hkn
    simp [↓go, hr, hl, hy, hlt, hyl, hset, f2, a2, g2, w0, w1, w2, wi]
    refine wk_ex (And.intro ⟨i + 1, _, by omega, e, ?_⟩ ?_)
    · first | (rw [hkn]; done) | (rw [hkn]; rfl) | (rw [hkn]; simp)
    · simp; omega
  · obtain rfl : i = n := by omega
    rw [List.take_of_length_le (by simp; omega)]
    exact retW_ex (hq _ hm.fin hm.fr hm.hl)
theorem F_heldInt64S {xs : List Int} {k : Int} {h : AHeap} {Q : KA} (hk : 0 ≤ k) (hs : szL (fun _ => 0) xs ≤ 1099511627776) (hb : (markL true (xs.map i64) k).2 ≤ 4611686018427387904)
    (hq : Q (i64 (markL true (xs.map i64) k).2) h) : @clM Try.prog 57 [.sl (markL true (xs.map i64) k).1, i64 k] h ⟨Q⟩ := by
  refine cl_of fn_laws_heldInt64S (D_laws_heldInt64S_of ?_)
  unfold D_laws_heldInt64S
  have hlen := szL_len (fun _ => 0) xs
  have hll := markL_len true (xs.map i64) k
  rw [List.length_map] at hll
  refine lp_inv (fun s h' => h = h' ∧ ∃ i : Nat, i ≤ xs.length ∧ s = [i64 (markL true ((xs.map i64).take i) k).2, i64 i, .sl (markL true (xs.map i64) k).1]) (fun s _ => xs.length - natA (nthA s 1)) (Wk.refl ⟨rfl, 0, by omega, by simp [markL]⟩) ?_
  rintro _ _ ⟨rfl, i, hi, rfl⟩
  have hkb := markL_bnd (b := true) (zs := xs.map i64) (k := k) i
  have hk0 := markL_le true ((xs.map i64).take i) k
  simp [↓go, hll]
  refine ⟨fun hlt => ?_, fun hge => ?_⟩
  · obtain ⟨x, hx⟩ : ∃ x, xs[i]? = some x := ⟨_, List.getElem?_eq_getElem (by omega)⟩
    have hz : (xs.map i64)[i]? = some (i64 x) := by rw [List.getElem?_map, hx]; rfl
    have hg := markL_get (b := true) hz k
    have hkn := markL_take (b := true) hz k
    have hkb' := markL_bnd (b := true) (zs := xs.map i64) (k := k) (i + 1)
    rw [hkn] at hkb'
    generalize (markL true ((xs.map i64).take i) k).2 = ki at *
    generalize (markL true (xs.map i64) k).1 = zs' at *
    clear hz
    have wi := w64 (n := (i : Int) + 1) (by omega) (by omega)
    simp only [markL, markT, markV] at hg hkn hkb'
    have w0 := w64 (n := ki) (by omega) (by omega)
    have w1 := w64 (n := ki + 1) (by omega) (by omega)
    try simp only [w0, w1, AVal.flat] at hg hkn
    have hgl := (List.getElem?_eq_some_iff.1 hg).2
    simp [↓go, hll, hg, hgl, hlt, w0, w1, wi]
    refine wk_ex (And.intro ⟨rfl, i + 1, by omega, ?_⟩ ?_)
    · first | (rw [hkn]; done) | (rw [hkn]; rfl) | (rw [hkn]; simp)
    · simp; omega
  · obtain rfl : i = xs.length := by omega
    rw [List.take_of_length_le (by simp)]
    exact retW_ex hq
theorem F_heldBlockS {xs : List MBlock} {k : Int} {h : AHeap} {Q : KA} (hk : 0 ≤ k) (hs : szL szBlock xs ≤ 1099511627776) (hb : (markL true (xs.map encBlock) k).2 ≤ 4611686018427387904)
    (hq : Q (i64 (markL true (xs.map encBlock) k).2) h) : @clM Try.prog 31 [.sl (markL true (xs.map encBlock) k).1, i64 k] h ⟨Q⟩ := by
  refine cl_of fn_laws_heldBlockS (D_laws_heldBlockS_of ?_)
  unfold D_laws_heldBlockS
  have hlen := szL_len szBlock xs
  have hll := markL_len true (xs.map encBlock) k
  rw [List.length_map] at hll
  refine lp_inv (fun s h' => h = h' ∧ ∃ i : Nat, i ≤ xs.length ∧ s = [i64 (markL true ((xs.map encBlock).take i) k).2, i64 i, .sl (markL true (xs.map encBlock) k).1]) (fun s _ => xs.length - natA (nthA s 1)) (Wk.refl ⟨rfl, 0, by omega, by simp [markL]⟩) ?_
  rintro _ _ ⟨rfl, i, hi, rfl⟩
  have hkb := markL_bnd (b := true) (zs := xs.map encBlock) (k := k) i
  have hk0 := markL_le true ((xs.map encBlock).take i) k
  simp [↓go, hll]
  refine ⟨fun hlt => ?_, fun hge => ?_⟩
  · obtain ⟨x, hx⟩ : ∃ x, xs[i]? = some x := ⟨_, List.getElem?_eq_getElem (by omega)⟩
    have hz : (xs.map encBlock)[i]? = some (encBlock x) := by rw [List.getElem?_map, hx]; rfl
    have hg := markL_get (b := true) hz k
    have hkn := markL_take (b := true) hz k
    have hkb' := markL_bnd (b := true) (zs := xs.map encBlock) (k := k) (i + 1)
    rw [hkn] at hkb'
    generalize (markL true ((xs.map encBlock).take i) k).2 = ki at *
    generalize (markL true (xs.map encBlock) k).1 = zs' at *
    clear hz
    have wi := w64 (n := (i : Int) + 1) (by omega) (by omega)
    rw [encBlock_eq] at hg hkn hkb'
    simp only [markL, markT, markV] at hg hkn hkb'
    have hle2 := markL_le true (x.nxt.map i64) (ki + 1 + 1)
    have w0 := w64 (n := ki) (by omega) (by omega)
    have w1 := w64 (n := ki + 1) (by omega) (by omega)
    have w2 := w64 (n := ki + 1 + 1) (by omega) (by omega)
    try simp only [w0, w1, w2, AVal.flat] at hg hkn
    have hgl := (List.getElem?_eq_some_iff.1 hg).2
    simp [↓go, hll, hg, hgl, hlt, w0, w1, w2, wi]
    have hsx : szBlock x ≤ 1099511627776 := Nat.le_trans (szL_get hx) hs
    unfold szBlock at hsx
    refine F_heldInt64S (by omega) (by omega) (by omega) ?_
    simp [↓go, hll, hg, hgl, hlt, w0, w1, w2, wi]
    refine ⟨fun hh => by omega, fun _ => ?_⟩
    refine wk_ex (And.intro ⟨rfl, i + 1, by omega, ?_⟩ ?_)
    · first | (rw [hkn]; done) | (rw [hkn]; rfl) | (rw [hkn]; simp)
    · simp; omega
  · obtain rfl : i = xs.length := by omega
    rw [List.take_of_length_le (by simp)]
    exact retW_ex hq
end Go.Proofs.Ytlnlbncinjiinaa.A
