/- Of this session: over the abstract machine. -/
import Derived.Test.YtkfpoagnchahkaaGreatProg
import Derived.Test.YtkfpoagnchahkaaGreatA
import Derived.Test.YtkfpoagnchahkaaGreatB
import Derived.Test.YtkfpoagnchahkaaGreatD
import Derived.Test.YtkfpoagnchahkaaGreatT
import Derived.Test.YtkfpoagnchahkaaGreatO
import Derived.Test.YtkfpoagnchahkaaGreatOT
import Derived.Test.YtkfpoagnchahkaaGreatP1
import Derived.Test.YtkfpoagnchahkaaGreatP2
import Derived.Test.YtkfpoagnchahkaaGreatP3
import Derived.Test.YtkfpoagnchahkaaGreatP4
import Derived.Test.YtkfpoagnchahkaaGreatP5
import Derived.Test.YtkfpoagnchahkaaGreatO8
import Derived.Test.YtkfpoagnchahkaaGreatDC0
import Derived.Test.YtkfpoagnchahkaaGreatDC1
import Derived.Test.YtkfpoagnchahkaaGreatDC2
import Derived.Test.YtkfpoagnchahkaaGreatDC3
namespace Go.Proofs.YtkfpoagnchahkaaGreat.A
open Go Go.RowKit
set_option linter.unusedVariables false
set_option linter.unusedSimpArgs false
set_option maxRecDepth 100000
set_option maxHeartbeats 1000000
/-! ### a record that is built in a box, while a reader moves on -/
theorem rowSz_fr2 {H H' : AHeap} {C : AVal} {t : AVal} {rs : List Nat} {s : Nat} (ho : Own H [C] [t] rs) (hz : rowSz H C s) (hf : ∀ r ∈ rs, H'[r]? = H[r]?) : rowSz H' C s := by
  unfold rowSz at *
  cases ho with
  | rf hr hn h1 ht hd hnr =>
    obtain ⟨g, ys, h2⟩ := hz
    exact ⟨g, ys, (hf _ (List.mem_cons_self)).trans h2⟩
  | _ => trivial
structure BX (kr n0 : Nat) (H0 H : AHeap) (ro : AObj) (k1 : Nat) (o1 : AObj) (kb gb sb : Nat) (cs ts : List AVal) (rs : List Nat) : Prop where
  pre : ∀ r, r < n0 → r ≠ kr → H[r]? = H0[r]?
  rd : H[kr]? = some ro
  one : H[k1]? = some o1
  box : H[kb]? = some (.row gb sb [.agg cs])
  own : Own H cs ts rs
  lo : ∀ r ∈ rs, n0 ≤ r ∧ r ≠ kb ∧ r ≠ k1
  kk : kr < n0 ∧ n0 ≤ k1 ∧ k1 < kb
theorem BX.len {kr n0 : Nat} {H0 H : AHeap} {ro o1 : AObj} {k1 kb gb sb : Nat} {cs ts : List AVal} {rs : List Nat} (b : BX kr n0 H0 H ro k1 o1 kb gb sb cs ts rs) : kb < H.length := (List.getElem?_eq_some_iff.1 b.box).1
/-- all that the record tells of is kept -/
theorem BX.fr {kr n0 : Nat} {H0 H H' : AHeap} {ro ro' o1 : AObj} {k1 kb gb sb : Nat} {cs ts : List AVal} {rs : List Nat} (b : BX kr n0 H0 H ro k1 o1 kb gb sb cs ts rs) (hr : H'[kr]? = some ro') (hf : ∀ r, (r ≤ kb ∨ r ∈ rs) → r ≠ kr → H'[r]? = H[r]?) : BX kr n0 H0 H' ro' k1 o1 kb gb sb cs ts rs := by
  obtain ⟨h1, h2, h3⟩ := b.kk
  refine ⟨fun r hr2 hne => (hf r (.inl (by omega)) hne).trans (b.pre r hr2 hne), hr, (hf k1 (.inl (by omega)) (by omega)).trans b.one, (hf kb (.inl (by omega)) (by omega)).trans b.box, b.own.frame (fun r hr2 => hf r (.inr hr2) (by have := b.lo r hr2; omega)), b.lo, b.kk⟩
theorem BX.upd {kr n0 : Nat} {H0 H H' : AHeap} {ro ro' o1 : AObj} {k1 kb gb sb : Nat} {cs ts : List AVal} {rs : List Nat} (b : BX kr n0 H0 H ro k1 o1 kb gb sb cs ts rs) (u : Upd kr H H' ro') : BX kr n0 H0 H' ro' k1 o1 kb gb sb cs ts rs := b.fr u.at_ (fun r _ hne => u.oth r hne)
theorem BX.grow {kr n0 : Nat} {H0 H l : AHeap} {ro o1 : AObj} {k1 kb gb sb : Nat} {cs ts : List AVal} {rs : List Nat} (b : BX kr n0 H0 H ro k1 o1 kb gb sb cs ts rs) : BX kr n0 H0 (H ++ l) ro k1 o1 kb gb sb cs ts rs := by
  have hl := b.len
  obtain ⟨h1, h2, h3⟩ := b.kk
  refine b.fr (by rw [List.getElem?_append_left (by omega)]; exact b.rd) (fun r hr _ => List.getElem?_append_left ?_)
  rcases hr with hr | hr
  · omega
  · exact b.own.lt r hr
theorem BX.setx {kr n0 : Nat} {H0 H : AHeap} {ro o1 o : AObj} {k1 kb gb sb kx : Nat} {cs ts : List AVal} {rs : List Nat} (b : BX kr n0 H0 H ro k1 o1 kb gb sb cs ts rs) (hx : kb < kx) (hxr : kx ∉ rs) : BX kr n0 H0 (H.set kx o) ro k1 o1 kb gb sb cs ts rs := by
  obtain ⟨h1, h2, h3⟩ := b.kk
  refine b.fr (by rw [List.getElem?_set_ne (by omega)]; exact b.rd) (fun r hr _ => List.getElem?_set_ne (fun e => ?_))
  subst e
  rcases hr with hr | hr
  · omega
  · exact hxr hr
/-- a field is written -/
theorem BX.put {kr n0 : Nat} {H0 H : AHeap} {ro o1 : AObj} {k1 kb gb sb i : Nat} {cs ts : List AVal} {rs : List Nat} {y0 : AVal} (b : BX kr n0 H0 H ro k1 o1 kb gb sb cs ts rs) (hi : cs[i]? = some y0) :
    ∃ t0 q0, ts[i]? = some t0 ∧ Own H [y0] [t0] q0 ∧ (∀ r ∈ q0, r ∈ rs) ∧ ∀ (H4 : AHeap) (y t : AVal) (qs : List Nat), Own H4 [y] [t] qs → (∀ r, r < H.length → r ∉ q0 → H4[r]? = H[r]?) → (∀ r ∈ qs, r ∈ q0 ∨ (kb < r ∧ r ∉ rs)) →
      ∃ rs', BX kr n0 H0 (H4.set kb (.row gb sb [.agg (cs.set i y)])) ro k1 o1 kb gb sb (cs.set i y) (ts.set i t) rs' ∧ ∀ r ∈ rs', r ∈ rs ∨ r ∈ qs := by
  obtain ⟨t0, q0, e0, ow, sub, rep⟩ := b.own.at2 hi
  obtain ⟨h1, h2, h3⟩ := b.kk
  have hl := b.len
  refine ⟨t0, q0, e0, ow, sub, fun H4 y t qs oy hf hq => ?_⟩
  have hkb : kb ∉ q0 := fun hm => by have := b.lo _ (sub _ hm); omega
  have hl4 : kb < H4.length := by
    have h5 := hf kb hl hkb
    rw [b.box] at h5
    exact (List.getElem?_eq_some_iff.1 h5).1
  have keep : ∀ r, r < H.length → r ∉ q0 → r ≠ kb → (H4.set kb (.row gb sb [.agg (cs.set i y)]))[r]? = H[r]? := fun r h1 h2 h3 => by
    rw [List.getElem?_set_ne (fun e => h3 e.symm)]; exact hf r h1 h2
  have hqk : ∀ r ∈ qs, n0 ≤ r ∧ r ≠ kb ∧ r ≠ k1 := fun r hr => by
    rcases hq r hr with h | h
    · exact b.lo r (sub r h)
    · omega
  obtain ⟨rs', o', hs'⟩ := rep (H4.set kb (.row gb sb [.agg (cs.set i y)])) y t qs (oy.frame (fun r hr => List.getElem?_set_ne (fun e => by have := hqk r hr; omega))) (fun r hr hn => keep r (b.own.lt r hr) hn (fun e => by have := b.lo r hr; omega))
    (fun r hr => (hq r hr).imp id (·.2))
  have hlow : ∀ r, r < n0 → r ∉ q0 := fun r hr hm => by have := b.lo _ (sub _ hm); omega
  have hk1 : k1 ∉ q0 := fun hm => by have := b.lo _ (sub _ hm); omega
  refine ⟨rs', ⟨fun r hr hne => (keep r (by omega) (hlow r (by omega)) (by omega)).trans (b.pre r hr hne), (keep kr (by omega) (hlow kr (by omega)) (by omega)).trans b.rd, (keep k1 (by omega) hk1 (by omega)).trans b.one, by rw [List.getElem?_set_self hl4], o', fun r hr => ?_, b.kk⟩, hs'⟩
  rcases hs' r hr with h | h
  · exact b.lo r h
  · exact hqk r h
/-- a field is written: what it is given was made behind -/
theorem BX.put1 {kr n0 : Nat} {H0 H l : AHeap} {ro o1 : AObj} {k1 kb gb sb : Nat} (i : Nat) {cs ts : List AVal} {rs qs : List Nat} {y t : AVal} (b : BX kr n0 H0 H ro k1 o1 kb gb sb cs ts rs) (hi : i < cs.length) (oy : Own (H ++ l) [y] [t] qs) (hb : ∀ r ∈ qs, H.length ≤ r) :
    ∃ rs', BX kr n0 H0 ((H ++ l).set kb (.row gb sb [.agg (cs.set i y)])) ro k1 o1 kb gb sb (cs.set i y) (ts.set i t) rs' := by
  obtain ⟨y0, hy0⟩ : ∃ y0, cs[i]? = some y0 := ⟨_, List.getElem?_eq_getElem hi⟩
  have hl := b.len
  obtain ⟨t0, q0, e0, ow, sub, rep⟩ := (b.grow (l := l)).put hy0
  obtain ⟨rs', bx', _⟩ := rep (H ++ l) y t qs oy (fun _ _ _ => rfl) (fun r hr => .inr ⟨by have := hb r hr; omega, fun hm => by have := hb r hr; have := b.own.lt r hm; omega⟩)
  exact ⟨rs', bx'⟩
theorem BX.putv {kr n0 : Nat} {H0 H : AHeap} {ro o1 : AObj} {k1 kb gb sb : Nat} (i : Nat) {cs ts : List AVal} {rs : List Nat} {x : Value} (b : BX kr n0 H0 H ro k1 o1 kb gb sb cs ts rs) (hi : i < cs.length) (hx : scalV x = true) :
    ∃ rs', BX kr n0 H0 (H.set kb (.row gb sb [.agg (cs.set i (.v x))])) ro k1 o1 kb gb sb (cs.set i (.v x)) (ts.set i (.v x)) rs' := by
  have h := b.put1 (l := []) i hi (y := .v x) (t := .v x) (qs := []) (.v hx .nil) (by simp)
  rw [List.append_nil] at h; exact h
theorem BX.sz {kr n0 : Nat} {H0 H H' : AHeap} {ro o1 : AObj} {k1 kb gb sb s : Nat} (i : Nat) {cs ts : List AVal} {rs : List Nat} {C : AVal} (b : BX kr n0 H0 H ro k1 o1 kb gb sb cs ts rs) (hC : cs[i]? = some C) (hz : rowSz H C s) (hf : ∀ r ∈ rs, H'[r]? = H[r]?) : rowSz H' C s := by
  obtain ⟨t0, q0, e0, ow, sub, rep⟩ := b.put hC
  exact rowSz_fr2 ow hz (fun r hr => hf r (sub r hr))
theorem BX.nkr {kr n0 : Nat} {H0 H : AHeap} {ro o1 : AObj} {k1 kb gb sb : Nat} {cs ts : List AVal} {rs : List Nat} (b : BX kr n0 H0 H ro k1 o1 kb gb sb cs ts rs) : ∀ r ∈ rs, r ≠ kr := fun r hr e => by have := b.lo r hr; have := b.kk; omega
theorem fin_split {kr n0 : Nat} {H0 Hf : AHeap} {ro : AObj} (hn : H0.length = n0) (hpre : ∀ r, r < n0 → r ≠ kr → Hf[r]? = H0[r]?) (hrd : Hf[kr]? = some ro) (hk : kr < n0) (hl : n0 ≤ Hf.length) : ∃ H' l, Hf = H' ++ l ∧ H'.length = n0 ∧ Upd kr H0 H' ro := by
  refine ⟨Hf.take n0, Hf.drop n0, (List.take_append_drop n0 Hf).symm, by simp; omega, ⟨by simp; omega, fun r hne => ?_, by rw [List.getElem?_take, if_pos hk]; exact hrd⟩⟩
  rw [List.getElem?_take]
  by_cases hr : r < n0
  · rw [if_pos hr]; exact hpre r hr hne
  · rw [if_neg hr, List.getElem?_eq_none (by omega)]
theorem S_getU {Pn : Pk} {bs : List Int} {a n kr gr : Nat} {H : AHeap} {Q : KA} (hl : bs.length ≤ 1099511627776) (hw : okB bs) (ha : a ≤ bs.length) (hn : 1 ≤ n ∧ n ≤ 8) (hr : H[kr]? = some (rdR gr bs a))
    (hp : gtN n (bs.drop a) = none → ∀ H', Pre kr H H' → Pn.f eE H')
    (q : ∀ v a' H', Upd kr H H' (rdR gr bs a') → a' ≤ bs.length → gtN n (bs.drop a) = some (v, bs.drop a') → Q (i64 v) H') : @clM Tryz.prog 134 [.pt kr gr 0 0, i64 n] H ⟨Q⟩ := by
  have h := S_getA (Pn := Pn) (l := []) (Q := Q) hl hw ha hn hr (fun v a' H' hu h1 h2 => by rw [List.append_nil]; exact q v a' H' hu h1 h2) (fun h1 H' h2 => hp h1 H' (by rw [List.append_nil] at h2; exact h2))
  rw [List.append_nil] at h; exact h
theorem S_typesU {Pn : Pk} {bs : List Int} {a kr gr : Nat} {c : Int} {H : AHeap} {Q : KA} (hl : bs.length ≤ 1099511627776) (hw : okB bs) (ha : a ≤ bs.length) (hc : c ≤ 70000) (hc0 : -9223372036854775808 ≤ c) (hr : H[kr]? = some (rdR gr bs a))
    (hp : gtMany (gtN 1) c.toNat (bs.drop a) = none → ∀ H', Pre kr H H' → Pn.f eE H')
    (q : ∀ vs a' H' y l2, Upd kr H H' (rdR gr bs a') → a' ≤ bs.length → gtMany (gtN 1) c.toNat (bs.drop a) = some (vs, bs.drop a') → Made H' y (encL i64 vs) l2 → Q y (H' ++ l2)) : @clM Tryz.prog 133 [.pt kr gr 0 0, i64 c] H ⟨Q⟩ := by
  have h := S_types (Pn := Pn) (l := []) (Q := Q) hl hw ha hc hc0 hr (fun vs a' H' y l2 hu h1 h2 hm => by rw [List.append_nil] at hm ⊢; exact q vs a' H' y l2 hu h1 h2 hm) (fun h1 H' h2 => hp h1 H' (by rw [List.append_nil] at h2; exact h2))
  rw [List.append_nil] at h; exact h
theorem Upd.toPre {kr : Nat} {H H' : AHeap} {o : AObj} (h : Upd kr H H' o) : Pre kr H H' := ⟨by rw [h.len]; omega, fun r _ hne => h.oth r hne⟩
theorem Pre.setn {kr k : Nat} {H1 H : AHeap} {o : AObj} (h : Pre kr H1 H) (hk : H1.length ≤ k) : Pre kr H1 (H.set k o) := ⟨by rw [List.length_set]; exact h.1, fun r hr hne => by rw [List.getElem?_set_ne (by omega)]; exact h.2 r hr hne⟩
theorem BX.toPre {kr : Nat} {H0 H : AHeap} {ro o1 : AObj} {k1 kb gb sb : Nat} {cs ts : List AVal} {rs : List Nat} (b : BX kr H0.length H0 H ro k1 o1 kb gb sb cs ts rs) : Pre kr H0 H := ⟨by have := b.len; have := b.kk; omega, b.pre⟩
theorem S_function {Pn : Pk} {bs : List Int} {a kr gr : Nat} {H : AHeap} {Q : KA} (hl : bs.length ≤ 1099511627776) (hw : okB bs) (ha : a ≤ bs.length) (hr : H[kr]? = some (rdR gr bs a))
    (hp : gtFunc (bs.drop a) = none → ∀ H', Pre kr H H' → Pn.f eE H')
    (q : ∀ f a' H' y l2, Upd kr H H' (rdR gr bs a') → a' ≤ bs.length → gtFunc (bs.drop a) = some (f, bs.drop a') → Made H' y (encFunc f) l2 → Q y (H' ++ l2)) : @clM Tryz.prog 135 [.pt kr gr 0 0] H ⟨Q⟩ := by
  refine cl_of fn_impl_reader_function (D_impl_reader_function_of ?_)
  unfold D_impl_reader_function
  have hok : ∀ k, okB (bs.drop k) := fun k x hx => hw x (List.mem_of_mem_drop hx)
  have hk := (List.getElem?_eq_some_iff.1 hr).1
  simp [↓go]
  intro g1 g3
  have bx : BX kr H.length H (H ++ [.row g1 4 [.agg [nilS, i64 0, nilS, nilS]], .row g3 4 [.agg [nilS, i64 0, nilS, nilS]]]) (rdR gr bs a) H.length (.row g1 4 [.agg [nilS, i64 0, nilS, nilS]]) (H.length + 1) g3 4 [nilS, i64 0, nilS, nilS] [.sl [], i64 0, .sl [], .sl []] [] :=
    ⟨fun r hr _ => List.getElem?_append_left hr, app_get hr, by simp, by simp, .nl (.v rfl (.nl (.nl .nil))), by simp, ⟨hk, by omega, by omega⟩⟩
  generalize H ++ [.row g1 4 [.agg [nilS, i64 0, nilS, nilS]], .row g3 4 [.agg [nilS, i64 0, nilS, nilS]]] = H1 at bx ⊢
  unfold gtFunc gtTypes at hp q
  refine S_getU (n := 1) hl hw ha (by omega) bx.rd (fun hn H' hpre => hp (by rw [hn]; rfl) H' (bx.toPre.trans hpre)) (fun c1 a1 H2 hu ha1 hg1 => ?_)
  rw [hg1] at hp q
  simp only [Option.bind_some] at hp q
  replace bx := bx.upd hu
  clear hu
  obtain ⟨hc0, hc1⟩ := gtN_range (hok a) (by omega) hg1
  refine S_typesU hl hw ha1 (by omega) (by omega) bx.rd (fun hn H' hpre => hp (by rw [hn]; rfl) H' (bx.toPre.trans hpre)) (fun ps a2 H3 y1 l1 hu ha2 hg2 hm => ?_)
  rw [hg2] at hp q
  simp only [Option.bind_some] at hp q
  replace bx := bx.upd hu
  clear hu
  obtain ⟨r1, oy, hb, -⟩ := hm
  have hfl := oy.sl_cell
  have hbx := (bx.grow (l := l1)).box
  simp [↓go, hbx, hfl.1, hfl.2.1, hfl.2.2]
  obtain ⟨rs1, bx1⟩ := bx.put1 0 (by simp) oy hb
  replace bx := bx1
  simp only [List.set_cons_zero, List.set_cons_succ] at bx
  generalize (H3 ++ l1).set (H.length + 1) _ = H4 at bx ⊢
  refine S_getU (n := 1) hl hw ha2 (by omega) bx.rd (fun hn H' hpre => hp (by rw [hn]; rfl) H' (bx.toPre.trans hpre)) (fun res a3 H5 hu ha3 hg3 => ?_)
  rw [hg3] at hp q
  simp only [Option.bind_some] at hp q
  replace bx := bx.upd hu
  have hbx := bx.box
  simp [↓go, hbx]
  obtain ⟨rs2, bx1⟩ := bx.putv (x := .int .i64 res) 1 (by simp) rfl
  replace bx := bx1
  simp only [List.set_cons_zero, List.set_cons_succ] at bx
  generalize H5.set (H.length + 1) _ = H6 at bx ⊢
  refine S_getU (n := 1) hl hw ha3 (by omega) bx.rd (fun hn H' hpre => hp (by rw [hn]; rfl) H' (bx.toPre.trans hpre)) (fun c2 a4 H7 hu ha4 hg4 => ?_)
  rw [hg4] at hp q
  simp only [Option.bind_some] at hp q
  replace bx := bx.upd hu
  obtain ⟨hc2, hc3⟩ := gtN_range (hok a3) (by omega) hg4
  refine S_typesU hl hw ha4 (by omega) (by omega) bx.rd (fun hn H' hpre => hp (by rw [hn]; rfl) H' (bx.toPre.trans hpre)) (fun ls a5 H8 y2 l2 hu ha5 hg5 hm => ?_)
  rw [hg5] at hp q
  simp only [Option.bind_some] at hp q
  replace bx := bx.upd hu
  obtain ⟨r2, oy2, hb2, -⟩ := hm
  have hfl2 := oy2.sl_cell
  have hbx := (bx.grow (l := l2)).box
  simp [↓go, hbx, hfl.1, hfl.2.1, hfl.2.2, hfl2.1, hfl2.2.1, hfl2.2.2]
  obtain ⟨rs3, bx1⟩ := bx.put1 2 (by simp) oy2 hb2
  replace bx := bx1
  simp only [List.set_cons_zero, List.set_cons_succ] at bx
  generalize (H8 ++ l2).set (H.length + 1) _ = H9 at bx ⊢
  refine S_getU (n := 2) hl hw ha5 (by omega) bx.rd (fun hn H' hpre => hp (by rw [hn]; rfl) H' (bx.toPre.trans hpre)) (fun c4 a6 H10 hu ha6 hg6 => ?_)
  rw [hg6] at hp q
  simp only [Option.bind_some] at hp q
  replace bx := bx.upd hu
  obtain ⟨hc4, hc5⟩ := gtN_range (hok a5) (by omega) hg6
  clear hu hg1 hg2 hg3 hg4 hg5 hg6 oy oy2 hb hb2 hbx bx1
  refine lp_inv (fun s h' => ∃ (acc : List MInstr) (C : AVal) (a1 : Nat) (rs : List Nat), (acc.length : Int) ≤ c4 ∧ BX kr H.length H h' (rdR gr bs a1) H.length (.row g1 4 [.agg [nilS, i64 0, nilS, nilS]]) (H.length + 1) g3 4 [y1, i64 res, y2, C] [encL i64 ps, i64 res, encL i64 ls, encL encInstr acc] rs ∧ rowSz h' C 4 ∧
    (C.flat = [C] ∧ C.c1 = true ∧ C.isAgg = false) ∧ a1 ≤ bs.length ∧ GtI gtInstr (gtMany gtInstr c4.toNat (bs.drop a6)) acc (c4.toNat - acc.length) (bs.drop a1) ∧
    s = [.pt H.length g1 0 0, .pt (H.length + 1) g3 0 0, i64 (c4 - acc.length), .pt kr gr 0 0]) (fun s _ => natA (nthA s 2)) (Wk.refl ⟨[], nilS, a6, _, by simp; omega, bx, trivial, ⟨rfl, rfl, rfl⟩, ha6, .start, by simp⟩) ?_
  clear bx
  rintro _ H1 ⟨acc, C, a7, rs, hal, bx, hsz, hCf, ha7, hgi, rfl⟩
  simp [↓go]
  refine ⟨fun hlt => ?_, fun hge => ?_⟩
  · have hsp : c4.toNat - acc.length = (c4.toNat - (acc.length + 1)) + 1 := by omega
    rw [hsp] at hgi
    have hbad : gtInstr (bs.drop a7) = none → ∀ H', Pre kr H1 H' → Pn.f eE H' := fun hn H' hpre => hp (by rw [hgi.bad hn]; rfl) H' (bx.toPre.trans hpre)
    have hgood : ∀ x a', gtInstr (bs.drop a7) = some (x, bs.drop a') → GtI gtInstr (gtMany gtInstr c4.toNat (bs.drop a6)) (acc ++ [x]) (c4.toNat - (acc.length + 1)) (bs.drop a') := fun x a' hx => hgi.step hx
    unfold gtInstr at hbad
    clear hgi
    refine S_getU (n := 1) hl hw ha7 (by omega) bx.rd (fun hn H' hpre => hbad (by rw [hn]; rfl) H' hpre) (fun v1 b1 H2 hu hb1 hv1 => ?_)
    rw [hv1] at hbad
    simp only [Option.bind_some] at hbad
    replace hsz := bx.sz 3 rfl hsz (fun r hr => hu.oth r (bx.nkr r hr))
    replace bx := bx.upd hu
    have hpre0 : Pre kr H1 H2 := hu.toPre
    have hlen := bx.len
    have hnx : H2.length ∉ rs := fun hm => by have := bx.own.lt _ hm; omega
    have hxr : H2.length ≠ kr := by have := bx.kk; omega
    simp [↓go]
    intro gx
    have hx : (H2 ++ [AObj.row gx 4 [.agg [i64 v1, i64 0, i64 0, i64 0]]])[H2.length]? = some (.row gx 4 [.agg [i64 v1, i64 0, i64 0, i64 0]]) := by simp
    replace hsz := bx.sz 3 rfl hsz (H' := H2 ++ [AObj.row gx 4 [.agg [i64 v1, i64 0, i64 0, i64 0]]]) (fun r hr => List.getElem?_append_left (bx.own.lt r hr))
    replace bx := bx.grow (l := [AObj.row gx 4 [.agg [i64 v1, i64 0, i64 0, i64 0]]])
    replace hpre0 := hpre0.trans (Pre.app (l := [AObj.row gx 4 [.agg [i64 v1, i64 0, i64 0, i64 0]]]))
    generalize H2 ++ [AObj.row gx 4 [.agg [i64 v1, i64 0, i64 0, i64 0]]] = H3 at *
    have hx0 : H1.length ≤ H2.length := by rw [hu.len]; omega
    generalize H2.length = kx at *
    clear hu
    refine S_getU (n := 1) hl hw hb1 (by omega) bx.rd (fun hn H' hpre => hbad (by rw [hn]; rfl) H' (hpre0.trans hpre)) (fun v2 b2 H4 hu hb2 hv2 => ?_)
    rw [hv2] at hbad
    simp only [Option.bind_some] at hbad
    replace hsz := bx.sz 3 rfl hsz (fun r hr => hu.oth r (bx.nkr r hr))
    replace bx := bx.upd hu
    replace hpre0 := hpre0.trans hu.toPre
    replace hx := (hu.oth _ hxr).trans hx
    have hxl := (List.getElem?_eq_some_iff.1 hx).1
    simp [↓go, hx]
    replace hsz := bx.sz 3 rfl hsz (H' := H4.set kx (.row gx 4 [.agg [i64 v1, i64 v2, i64 0, i64 0]])) (fun r hr => List.getElem?_set_ne (fun e => hnx (by rw [e]; exact hr)))
    replace bx := bx.setx (o := .row gx 4 [.agg [i64 v1, i64 v2, i64 0, i64 0]]) hlen hnx
    replace hpre0 := hpre0.setn (k := kx) (o := .row gx 4 [.agg [i64 v1, i64 v2, i64 0, i64 0]]) hx0
    replace hx : (H4.set kx (.row gx 4 [.agg [i64 v1, i64 v2, i64 0, i64 0]]))[kx]? = some (.row gx 4 [.agg [i64 v1, i64 v2, i64 0, i64 0]]) := List.getElem?_set_self hxl
    clear hu hxl
    generalize H4.set kx (.row gx 4 [.agg [i64 v1, i64 v2, i64 0, i64 0]]) = H5 at bx hx hsz hpre0 ⊢
    refine S_getU (n := 2) hl hw hb2 (by omega) bx.rd (fun hn H' hpre => hbad (by rw [hn]; rfl) H' (hpre0.trans hpre)) (fun v3 b3 H6 hu hb3 hv3 => ?_)
    rw [hv3] at hbad
    simp only [Option.bind_some] at hbad
    replace hsz := bx.sz 3 rfl hsz (fun r hr => hu.oth r (bx.nkr r hr))
    replace bx := bx.upd hu
    replace hpre0 := hpre0.trans hu.toPre
    replace hx := (hu.oth _ hxr).trans hx
    have hxl := (List.getElem?_eq_some_iff.1 hx).1
    simp [↓go, hx]
    replace hsz := bx.sz 3 rfl hsz (H' := H6.set kx (.row gx 4 [.agg [i64 v1, i64 v2, i64 v3, i64 0]])) (fun r hr => List.getElem?_set_ne (fun e => hnx (by rw [e]; exact hr)))
    replace bx := bx.setx (o := .row gx 4 [.agg [i64 v1, i64 v2, i64 v3, i64 0]]) hlen hnx
    replace hpre0 := hpre0.setn (k := kx) (o := .row gx 4 [.agg [i64 v1, i64 v2, i64 v3, i64 0]]) hx0
    replace hx : (H6.set kx (.row gx 4 [.agg [i64 v1, i64 v2, i64 v3, i64 0]]))[kx]? = some (.row gx 4 [.agg [i64 v1, i64 v2, i64 v3, i64 0]]) := List.getElem?_set_self hxl
    clear hu hxl
    generalize H6.set kx (.row gx 4 [.agg [i64 v1, i64 v2, i64 v3, i64 0]]) = H7 at bx hx hsz hpre0 ⊢
    refine S_getU (n := 4) hl hw hb3 (by omega) bx.rd (fun hn H' hpre => hbad (by rw [hn]; rfl) H' (hpre0.trans hpre)) (fun v4 b4 H8 hu hb4 hv4 => ?_)
    rw [hv4] at hbad
    simp only [Option.bind_some] at hbad
    replace hsz := bx.sz 3 rfl hsz (fun r hr => hu.oth r (bx.nkr r hr))
    replace bx := bx.upd hu
    replace hpre0 := hpre0.trans hu.toPre
    replace hx := (hu.oth _ hxr).trans hx
    have hxl := (List.getElem?_eq_some_iff.1 hx).1
    simp [↓go, hx]
    replace hsz := bx.sz 3 rfl hsz (H' := H8.set kx (.row gx 4 [.agg [i64 v1, i64 v2, i64 v3, i64 v4]])) (fun r hr => List.getElem?_set_ne (fun e => hnx (by rw [e]; exact hr)))
    replace bx := bx.setx (o := .row gx 4 [.agg [i64 v1, i64 v2, i64 v3, i64 v4]]) hlen hnx
    replace hpre0 := hpre0.setn (k := kx) (o := .row gx 4 [.agg [i64 v1, i64 v2, i64 v3, i64 v4]]) hx0
    replace hx : (H8.set kx (.row gx 4 [.agg [i64 v1, i64 v2, i64 v3, i64 v4]]))[kx]? = some (.row gx 4 [.agg [i64 v1, i64 v2, i64 v3, i64 v4]]) := List.getElem?_set_self hxl
    clear hu hxl
    have hll : (H8.set kx (.row gx 4 [.agg [i64 v1, i64 v2, i64 v3, i64 v4]])).length = H8.length := by simp
    generalize H8.set kx (.row gx 4 [.agg [i64 v1, i64 v2, i64 v3, i64 v4]]) = H9 at bx hx hsz hpre0 hll ⊢
    have hbx := bx.box
    have hxl := (List.getElem?_eq_some_iff.1 hx).1
    simp [↓go, hbx, hx, hCf.1, hCf.2.1, hCf.2.2]
    intro gq
    have hgi2 := hgood ⟨v1, v2, v3, v4⟩ b4 (by unfold gtInstr; rw [hv1]; simp only [Option.bind_some]; rw [hv2]; simp only [Option.bind_some]; rw [hv3]; simp only [Option.bind_some]; rw [hv4]; rfl)
    have hl9 := bx.len
    have hszX := bx.sz 3 rfl hsz (H' := H9 ++ [AObj.row gq 4 [encInstr ⟨v1, v2, v3, v4⟩]]) (fun r hr => List.getElem?_append_left (bx.own.lt r hr))
    have bxX := bx.grow (l := [AObj.row gq 4 [encInstr ⟨v1, v2, v3, v4⟩]])
    obtain ⟨t0, q0, e0, ow, sub, rep⟩ := bxX.put (i := 3) rfl
    cases e0
    refine appendM_own (e := 81) (s := 4) (zs := acc.map encInstr) (y := encInstr ⟨v1, v2, v3, v4⟩) (ty := encInstr ⟨v1, v2, v3, v4⟩) (ry := []) (by simp) (by simp) (by simp) (by omega) (by simp) (by simp; omega) (by simp [maxLen]; omega) ow hszX (get_midH hll) rfl rfl (owInstr _ _) (by simp) (fun C' H' rs' o' sz' b' fr' hl' kk => ?_)
    have hbk : (H9 ++ [AObj.row gq 4 [encInstr ⟨v1, v2, v3, v4⟩]])[H.length + 1]? = _ := bxX.box
    have hb' : H'[H.length + 1]? = some (.row g3 4 [.agg [y1, i64 res, y2, C]]) := (fr' (H.length + 1) (by simp; omega) (fun hm => by have := bxX.lo _ (sub _ hm); omega)).trans hbk
    simp [↓go, hb', kk.1, kk.2.1, kk.2.2]
    rw [w64 (by omega) (by omega)]
    have hq' : ∀ r ∈ rs', r ∈ q0 ∨ (H.length + 1 < r ∧ r ∉ rs) := fun r hr => by
      rcases b' r hr with h1 | h1 | h1
      · exact .inl h1
      · cases h1
      · subst h1
        exact .inr ⟨by simp; omega, fun hm => by have := bx.own.lt _ hm; simp at this; omega⟩
    obtain ⟨rs4, bx4, -⟩ := rep H' C' (.sl (acc.map encInstr ++ [encInstr ⟨v1, v2, v3, v4⟩])) rs' o' fr' hq'
    have hkb : ∀ r ∈ rs', r ≠ H.length + 1 := fun r hr e => by
      rcases hq' r hr with h1 | h1
      · have := bxX.lo _ (sub _ h1); omega
      · omega
    have hsz4 : rowSz (H'.set (H.length + 1) (.row g3 4 [.agg [y1, i64 res, y2, C']])) C' 4 := rowSz_fr2 o' sz' (fun r hr => List.getElem?_set_ne (fun e => hkb r hr e.symm))
    simp only [List.set_cons_zero, List.set_cons_succ] at bx4
    refine wk_ex ⟨⟨acc ++ [⟨v1, v2, v3, v4⟩], C', b4, rs4, by simp; omega, ?_, hsz4, kk, hb4, ?_, ?_⟩, by simp; omega⟩
    · have e : encL encInstr (acc ++ [⟨v1, v2, v3, v4⟩]) = .sl (acc.map encInstr ++ [encInstr ⟨v1, v2, v3, v4⟩]) := by simp
      rw [e]; exact bx4
    · rw [List.length_append]; exact hgi2
    · simp; omega
  · have hbx := bx.box
    have hone := bx.one
    have hkl := bx.len
    have hkk := bx.kk
    have hself : ∀ o : AObj, (H1.set H.length o)[H.length]? = some o := fun o => List.getElem?_set_self (by omega)
    simp [↓go, hbx, hone, hself, hfl.1, hfl.2.1, hfl.2.2, hfl2.1, hfl2.2.1, hfl2.2.2, hCf.1, hCf.2.1, hCf.2.2]
    have hfin : gtMany gtInstr c4.toNat (bs.drop a6) = some (acc, bs.drop a7) := by
      rw [show c4.toNat - acc.length = 0 by omega] at hgi
      exact hgi.fin
    have o1 : Own (H1.set H.length (.row g1 4 [.agg [y1, i64 res, y2, C]])) [.agg [y1, i64 res, y2, C]] [encFunc ⟨ps, res, ls, acc⟩] rs :=
      Own.agg_mk (bx.own.frame (fun r hr => List.getElem?_set_ne (fun e => by have := bx.lo r hr; omega)))
    obtain ⟨H', l, e, hlen, hupd⟩ := fin_split (kr := kr) (n0 := H.length) (H0 := H) (Hf := H1.set H.length (.row g1 4 [.agg [y1, i64 res, y2, C]])) (ro := rdR gr bs a7) rfl (fun r hr hne => by rw [List.getElem?_set_ne (by omega)]; exact bx.pre r hr hne) (by rw [List.getElem?_set_ne (by omega)]; exact bx.rd) hkk.1 (by simp; omega)
    rw [e] at o1 ⊢
    exact wk_of (Wk.made o1 (fun r hr => by have := bx.lo r hr; omega) (fun l' hm => q ⟨ps, res, ls, acc⟩ a7 H' _ l' hupd ha7 (by rw [hfin]; rfl) hm))
end Go.Proofs.YtkfpoagnchahkaaGreat.A
