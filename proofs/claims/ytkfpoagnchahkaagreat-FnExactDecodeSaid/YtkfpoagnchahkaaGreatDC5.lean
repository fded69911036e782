/- Of this session: over the abstract machine. -/
import Derived.Test.YtkfpoagnchahkaaGreatProg
import Derived.Test.YtkfpoagnchahkaaGreatA
import Derived.Test.YtkfpoagnchahkaaGreatB
import Derived.Test.YtkfpoagnchahkaaGreatD
import Derived.Test.YtkfpoagnchahkaaGreatT
import Derived.Test.YtkfpoagnchahkaaGreatO
import Derived.Test.YtkfpoagnchahkaaGreatOT
import Derived.Test.YtkfpoagnchahkaaGreatP1
import Derived.Test.YtkfpoagnchahkaaGreatP2
import Derived.Test.YtkfpoagnchahkaaGreatP3
import Derived.Test.YtkfpoagnchahkaaGreatP4
import Derived.Test.YtkfpoagnchahkaaGreatP5
import Derived.Test.YtkfpoagnchahkaaGreatO8
import Derived.Test.YtkfpoagnchahkaaGreatDC0
import Derived.Test.YtkfpoagnchahkaaGreatDC1
import Derived.Test.YtkfpoagnchahkaaGreatDC2
import Derived.Test.YtkfpoagnchahkaaGreatDC3
import Derived.Test.YtkfpoagnchahkaaGreatDC4
namespace Go.Proofs.YtkfpoagnchahkaaGreat.A
open Go Go.RowKit
set_option linter.unusedVariables false
set_option linter.unusedSimpArgs false
set_option maxRecDepth 100000
set_option maxHeartbeats 1000000
theorem own_func {H : AHeap} {y : AVal} {x : MFunc} {rs : List Nat} (o : Own H [y] [encFunc x] rs) : ∃ p0 p1 p2, y = .agg [p0, i64 x.result, p1, p2] ∧ (p0.flat = [p0] ∧ p0.c1 = true ∧ p0.isAgg = false) ∧ (p1.flat = [p1] ∧ p1.c1 = true ∧ p1.isAgg = false) ∧ (p2.flat = [p2] ∧ p2.c1 = true ∧ p2.isAgg = false) := by
  obtain ⟨cs, rfl, oc⟩ := Own.agg_inv2 (ds := [encL i64 x.params, i64 x.result, encL i64 x.locals, encL encInstr x.code]) o
  obtain ⟨c0, _, _, rfl, oc0⟩ := oc.cons_ex
  obtain ⟨c1, _, _, rfl, oc1⟩ := oc0.cons_ex
  obtain ⟨c2, _, _, rfl, oc2⟩ := oc1.cons_ex
  obtain ⟨c3, _, _, rfl, oc3⟩ := oc2.cons_ex
  obtain ⟨rfl, -⟩ := oc3.nil_inv
  obtain ⟨t0, q0', e0, w0, _⟩ := oc.at (i := 0) rfl
  cases e0
  obtain ⟨t1, q1', e1, w1, _⟩ := oc.at (i := 1) rfl
  cases e1
  obtain ⟨t2, q2', e2, w2, _⟩ := oc.at (i := 2) rfl
  cases e2
  obtain ⟨t3, q3', e3, w3, _⟩ := oc.at (i := 3) rfl
  cases e3
  obtain rfl := w1.v_inv.1
  exact ⟨c0, c2, c3, rfl, w0.sl_cell, w2.sl_cell, w3.sl_cell⟩
theorem encL_snoc {α : Type} (e : α → AVal) (acc : List α) (x : α) : encL e (acc ++ [x]) = .sl (acc.map e ++ [e x]) := by simp
/-- a list in a field of the record grows by one -/
theorem BX.app {P : Program} {t e s : Nat} {kr n0 : Nat} {H0 H : AHeap} {ro o1 : AObj} {k1 kb gb sb : Nat} (i : Nat) {cs ts : List AVal} {rs : List Nat} {K : KA} {C y ty : AVal} {zs : List AVal} {ry : List Nat} {q gq : Nat}
    (b : BX kr n0 H0 H ro k1 o1 kb gb sb cs ts rs) (hi : cs[i]? = some C) (hti : ts[i]? = some (.sl zs)) (hC : rowSz H C s)
    (he : slT P t = some e) (hok : okT P e = true) (hs : szT P e = s) (hs0 : 0 < s) (hz : zokT P e = true) (hb : (zs.length + 1) * byT P e ≤ 140737488355328) (hml : zs.length + 1 ≤ maxLen)
    (hq : H[q]? = some (.row gq s [y])) (hy : y.flat.length = s) (hw : y.whole = true) (oy : Own H [y] [ty] ry) (hry : ∀ r ∈ ry, kb < r ∧ r ∉ rs)
    (hK : ∀ C' H' rs', H'[kb]? = some (.row gb sb [.agg cs]) → (C'.flat = [C'] ∧ C'.c1 = true ∧ C'.isAgg = false) → BX kr n0 H0 (H'.set kb (.row gb sb [.agg (cs.set i C')])) ro k1 o1 kb gb sb (cs.set i C') (ts.set i (.sl (zs ++ [ty]))) rs' →
      rowSz (H'.set kb (.row gb sb [.agg (cs.set i C')])) C' s → K C' H') : appendM P t t C (.rf q gq 0 1) H K := by
  obtain ⟨t0, q0, e0, ow, sub, rep⟩ := b.put hi
  rw [hti] at e0
  cases e0
  have hl := b.len
  refine appendM_own he hok hs hs0 hz hb hml ow hC hq hy hw oy (fun r hr hm => (hry r hr).2 (sub r hm)) (fun C' H' rs' o' sz' b' fr' hl' kk => ?_)
  have hq' : ∀ r ∈ rs', r ∈ q0 ∨ (kb < r ∧ r ∉ rs) := fun r hr => by
    rcases b' r hr with h1 | h1 | h1
    · exact .inl h1
    · exact .inr (hry r h1)
    · subst h1
      exact .inr ⟨hl, fun hm => by have := b.own.lt _ hm; omega⟩
  obtain ⟨rs4, bx4, -⟩ := rep H' C' _ rs' o' fr' hq'
  have hkb : ∀ r ∈ rs', r ≠ kb := fun r hr e => by
    rcases hq' r hr with h1 | h1
    · have := b.lo _ (sub _ h1); omega
    · omega
  exact hK C' H' rs4 ((fr' kb hl (fun hm => by have := b.lo _ (sub _ hm); omega)).trans b.box) kk bx4 (rowSz_fr2 o' sz' (fun r hr => List.getElem?_set_ne (fun e => hkb r hr e.symm)))
theorem S_program {Pn : Pk} {bs : List Int} {a kr gr : Nat} {H : AHeap} {Q : KA} (hl : bs.length ≤ 1099511627776) (hw : okB bs) (ha : a ≤ bs.length) (hr : H[kr]? = some (rdR gr bs a))
    (hp : gtProg (bs.drop a) = none → ∀ H', Pre kr H H' → Pn.f eE H')
    (q : ∀ p a' H' y l2, Upd kr H H' (rdR gr bs a') → a' ≤ bs.length → gtProg (bs.drop a) = some (p, bs.drop a') → Made H' y (encProgram p) l2 → Q y (H' ++ l2)) : @clM Tryz.prog 105 [.pt kr gr 0 0] H ⟨Q⟩ := by
  refine cl_of fn_impl_reader_program (D_impl_reader_program_of ?_)
  unfold D_impl_reader_program
  have hok : ∀ k, okB (bs.drop k) := fun k x hx => hw x (List.mem_of_mem_drop hx)
  have hk := (List.getElem?_eq_some_iff.1 hr).1
  simp [↓go]
  intro g1 g3
  have bx : BX kr H.length H (H ++ [.row g1 4 [.agg [nilS, nilS, nilS, nilS]], .row g3 4 [.agg [nilS, nilS, nilS, nilS]]]) (rdR gr bs a) H.length (.row g1 4 [.agg [nilS, nilS, nilS, nilS]]) (H.length + 1) g3 4 [nilS, nilS, nilS, nilS] [.sl [], .sl [], .sl [], .sl []] [] :=
    ⟨fun r hr _ => List.getElem?_append_left hr, app_get hr, by simp, by simp, .nl (.nl (.nl (.nl .nil))), by simp, ⟨hk, by omega, by omega⟩⟩
  generalize H ++ [.row g1 4 [.agg [nilS, nilS, nilS, nilS]], .row g3 4 [.agg [nilS, nilS, nilS, nilS]]] = H1 at bx ⊢
  unfold gtProg at hp q
  refine lp_inv (fun s h' => ∃ (acc : List (List Int)) (C : AVal) (a1 : Nat) (rs : List Nat), acc.length ≤ 3 ∧ BX kr H.length H h' (rdR gr bs a1) H.length (.row g1 4 [.agg [nilS, nilS, nilS, nilS]]) (H.length + 1) g3 4 [C, nilS, nilS, nilS] [encL (encL i64) acc, .sl [], .sl [], .sl []] rs ∧ rowSz h' C 1 ∧
    (C.flat = [C] ∧ C.c1 = true ∧ C.isAgg = false) ∧ a1 ≤ bs.length ∧ GtI (gtTypes 2) (gtMany (gtTypes 2) 3 (bs.drop a)) acc (3 - acc.length) (bs.drop a1) ∧
    s = [.pt H.length g1 0 0, .pt (H.length + 1) g3 0 0, .pt kr gr 0 0, i64 acc.length]) (fun s _ => 3 - natA (nthA s 3)) (Wk.refl ⟨[], nilS, a, _, by simp, bx, trivial, ⟨rfl, rfl, rfl⟩, ha, .start, by simp⟩) ?_
  clear bx
  rintro _ H2 ⟨acc, C, a1, rs, hal, bx, hsz, hCf, ha1, hgi, rfl⟩
  simp [↓go]
  refine ⟨fun hlt => ?_, fun hge => ?_⟩
  · have hsp : 3 - acc.length = (3 - (acc.length + 1)) + 1 := by omega
    rw [hsp] at hgi
    have hbad : gtTypes 2 (bs.drop a1) = none → ∀ H', Pre kr H2 H' → Pn.f eE H' := fun hn H' hpre => hp (by rw [hgi.bad hn]; rfl) H' (bx.toPre.trans hpre)
    have hgood : ∀ x a', gtTypes 2 (bs.drop a1) = some (x, bs.drop a') → GtI (gtTypes 2) (gtMany (gtTypes 2) 3 (bs.drop a)) (acc ++ [x]) (3 - (acc.length + 1)) (bs.drop a') := fun x a' hx => hgi.step hx
    unfold gtTypes at hbad
    clear hgi
    refine jn_cut (fun s h' => ∃ (x : List Int) (C' : AVal) (a2 : Nat) (rs : List Nat), BX kr H.length H h' (rdR gr bs a2) H.length (.row g1 4 [.agg [nilS, nilS, nilS, nilS]]) (H.length + 1) g3 4 [C', nilS, nilS, nilS] [encL (encL i64) (acc ++ [x]), .sl [], .sl [], .sl []] rs ∧ rowSz h' C' 1 ∧
      (C'.flat = [C'] ∧ C'.c1 = true ∧ C'.isAgg = false) ∧ a2 ≤ bs.length ∧ gtTypes 2 (bs.drop a1) = some (x, bs.drop a2) ∧ s = [.pt H.length g1 0 0, .pt (H.length + 1) g3 0 0, .pt kr gr 0 0, i64 acc.length]) ?_ ?_
    · have hbx := bx.box
      have key : ∀ (J : KS) (x : List Int) (a3 : Nat) (Hh l : AHeap) (y : AVal), BX kr H.length H Hh (rdR gr bs a3) H.length (.row g1 4 [.agg [nilS, nilS, nilS, nilS]]) (H.length + 1) g3 4 [C, nilS, nilS, nilS] [encL (encL i64) acc, .sl [], .sl [], .sl []] rs → rowSz Hh C 1 → Made Hh y (encL i64 x) l →
          (∀ h' C' rs', BX kr H.length H h' (rdR gr bs a3) H.length (.row g1 4 [.agg [nilS, nilS, nilS, nilS]]) (H.length + 1) g3 4 [C', nilS, nilS, nilS] [encL (encL i64) (acc ++ [x]), .sl [], .sl [], .sl []] rs' → rowSz h' C' 1 → (C'.flat = [C'] ∧ C'.c1 = true ∧ C'.isAgg = false) → J [.pt H.length g1 0 0, .pt (H.length + 1) g3 0 0, .pt kr gr 0 0, i64 acc.length] h') →
          buildSliceM Tryz.prog 22 1 [(0, y)] (Hh ++ l) fun x12 h12 => appendM Tryz.prog 22 22 C x12 h12 fun x13 h13 => fldAddrM Tryz.prog 35 (.pt (H.length + 1) g3 0 0) 0 h13 fun x14 h14 => storeM Tryz.prog 22 x14 x13 h14 fun x15 h15 => @wkM [.pt H.length g1 0 0, .pt (H.length + 1) g3 0 0, .pt kr gr 0 0, i64 acc.length] h15 ⟨J⟩ := by
        intro J x a3 Hh l y b hz hm hJ
        obtain ⟨r1, oy, hb, -⟩ := hm
        have hfl := oy.sl_cell
        have hl9 := b.len
        simp [↓go, hfl.1, hfl.2.1, hfl.2.2]
        intro gq
        have e : Hh ++ (l ++ [AObj.row gq 1 [y]]) = (Hh ++ l) ++ [AObj.row gq 1 [y]] := by simp
        rw [e]
        replace hz := b.sz 0 rfl hz (H' := (Hh ++ l) ++ [AObj.row gq 1 [y]]) (fun r hr => by rw [List.append_assoc]; exact List.getElem?_append_left (b.own.lt r hr))
        have hbr : ∀ r ∈ r1, H.length + 1 < r ∧ r ∉ rs := fun r hr => by
          have := hb r hr
          exact ⟨by omega, fun hm => by have := b.own.lt r hm; omega⟩
        refine ((b.grow (l := l)).grow (l := [AObj.row gq 1 [y]])).app (e := 72) (s := 1) 0 (zs := acc.map (encL i64)) (y := y) (ty := encL i64 x) (ry := r1) rfl rfl hz (by simp) (by simp) (by simp) (by omega) (by simp) (by simp; omega) (by simp [maxLen]; omega) (get_midH (by simp)) (by rw [hfl.1]; rfl) (by simp [AVal.whole, hfl.1, hfl.2.1]) oy.grow hbr (fun C' H' rs' hb' kk bx' sz' => ?_)
        simp [↓go, hb', kk.1, kk.2.1, kk.2.2]
        refine wk_ex (hJ _ C' rs' ?_ sz' kk)
        simp only [List.set_cons_zero] at bx'
        rw [encL_snoc]; exact bx'
      simp [↓go, hbx, hCf.1, hCf.2.1, hCf.2.2]
      have tail : ∀ (H3 : AHeap) (c : Int) (b1 : Nat) (KK : KA), Upd kr H2 H3 (rdR gr bs b1) → b1 ≤ bs.length → gtN 2 (bs.drop a1) = some (c, bs.drop b1) →
          (∀ x a2 H4 y l, BX kr H.length H H4 (rdR gr bs a2) H.length (.row g1 4 [.agg [nilS, nilS, nilS, nilS]]) (H.length + 1) g3 4 [C, nilS, nilS, nilS] [encL (encL i64) acc, .sl [], .sl [], .sl []] rs → rowSz H4 C 1 → a2 ≤ bs.length → gtTypes 2 (bs.drop a1) = some (x, bs.drop a2) → Made H4 y (encL i64 x) l → KK y (H4 ++ l)) →
          @clM Tryz.prog 133 [.pt kr gr 0 0, i64 c] H3 ⟨KK⟩ := by
        intro H3 c b1 KK hu hb1 hc hKK
        rw [hc] at hbad
        simp only [Option.bind_some] at hbad
        obtain ⟨hc0, hc1⟩ := gtN_range (hok a1) (by omega) hc
        have hz2 := bx.sz 0 rfl hsz (fun r hr => hu.oth r (bx.nkr r hr))
        have bx2 := bx.upd hu
        refine S_typesU hl hw hb1 (by omega) (by omega) bx2.rd (fun hn H' hpre => hbad hn H' (hu.toPre.trans hpre)) (fun x a2 H4 y l hu2 ha2 hx hm => ?_)
        refine hKK x a2 H4 y l (bx2.upd hu2) (bx2.sz 0 rfl hz2 (fun r hr => hu2.oth r (bx2.nkr r hr))) ha2 ?_ hm
        unfold gtTypes
        rw [hc]; exact hx
      have hJ : ∀ (x : List Int) (a2 : Nat), a2 ≤ bs.length → gtTypes 2 (bs.drop a1) = some (x, bs.drop a2) → ∀ h' C' rs', BX kr H.length H h' (rdR gr bs a2) H.length (.row g1 4 [.agg [nilS, nilS, nilS, nilS]]) (H.length + 1) g3 4 [C', nilS, nilS, nilS] [encL (encL i64) (acc ++ [x]), .sl [], .sl [], .sl []] rs' → rowSz h' C' 1 → (C'.flat = [C'] ∧ C'.c1 = true ∧ C'.isAgg = false) →
          (∃ (x : List Int) (C' : AVal) (a2 : Nat) (rs : List Nat), BX kr H.length H h' (rdR gr bs a2) H.length (.row g1 4 [.agg [nilS, nilS, nilS, nilS]]) (H.length + 1) g3 4 [C', nilS, nilS, nilS] [encL (encL i64) (acc ++ [x]), .sl [], .sl [], .sl []] rs ∧ rowSz h' C' 1 ∧
            (C'.flat = [C'] ∧ C'.c1 = true ∧ C'.isAgg = false) ∧ a2 ≤ bs.length ∧ gtTypes 2 (bs.drop a1) = some (x, bs.drop a2) ∧ [AVal.pt H.length g1 0 0, .pt (H.length + 1) g3 0 0, .pt kr gr 0 0, i64 acc.length] = [.pt H.length g1 0 0, .pt (H.length + 1) g3 0 0, .pt kr gr 0 0, i64 acc.length]) := fun x a2 ha2 hx h' C' rs' b z k => ⟨x, C', a2, rs', b, z, k, ha2, hx, rfl⟩
      refine ⟨S_getU (n := 2) hl hw ha1 (by omega) bx.rd (fun hn H' hpre => hbad (by rw [hn]; rfl) H' hpre) (fun c b1 H3 hu hb1 hc => ?_), S_getU (n := 2) hl hw ha1 (by omega) bx.rd (fun hn H' hpre => hbad (by rw [hn]; rfl) H' hpre) (fun c b1 H3 hu hb1 hc => ⟨?_, ?_⟩)⟩
      · exact tail H3 c b1 _ hu hb1 hc (fun x a2 H4 y l b z ha2 hx hm => key _ x a2 H4 l y b z hm (hJ x a2 ha2 hx))
      · have hbx3 := (bx.upd hu).box
        simp [↓go, hbx3, hCf.1, hCf.2.1, hCf.2.2]
        exact tail H3 c b1 _ hu hb1 hc (fun x a2 H4 y l b z ha2 hx hm => key _ x a2 H4 l y b z hm (hJ x a2 ha2 hx))
      · refine tail H3 c b1 _ hu hb1 hc (fun x a2 H4 y l b z ha2 hx hm => ?_)
        have hbx3 := (b.grow (l := l)).box
        have ld : ∀ KK : KA, KK C (H4 ++ l) → loadM Tryz.prog 22 (.pt (H.length + 1) g3 0 0) (H4 ++ l) KK := fun KK hKK => by
          simp [↓go, hbx3, hCf.1, hCf.2.1, hCf.2.2]
          exact hKK
        exact ld _ (key _ x a2 H4 l y b z hm (hJ x a2 ha2 hx))
    · rintro _ H3 ⟨x, C', a2, rs', bx2, hz2, kk, ha2, hx, rfl⟩
      simp [↓go]
      rw [w64 (by omega) (by omega)]
      refine wk_ex ⟨⟨acc ++ [x], C', a2, rs', by simp; omega, bx2, hz2, kk, ha2, ?_, by simp⟩, by simp; omega⟩
      rw [List.length_append]; exact hgood x a2 hx
  · have hfin : gtMany (gtTypes 2) 3 (bs.drop a) = some (acc, bs.drop a1) := by
      rw [show 3 - acc.length = 0 by omega] at hgi
      exact hgi.fin
    rw [hfin] at hp q
    simp only [Option.bind_some] at hp q
    clear hfin hgi hal hge
    generalize acc = rs0 at *
    generalize C = C0 at *
    have hC0 := hCf
    clear hCf hsz
    unfold gtCount at hp q
    refine S_getU (n := 2) hl hw ha1 (by omega) bx.rd (fun hn H' hpre => hp (by rw [hn]; rfl) H' (bx.toPre.trans hpre)) (fun ck a2 H3 hu ha2 hg => ?_)
    rw [hg] at hp q
    simp only [Option.bind_some] at hp q
    replace bx := bx.upd hu
    obtain ⟨hck0, hck1⟩ := gtN_range (hok a1) (by omega) hg
    clear hu hg
    refine lp_inv (fun s h' => ∃ (acc : List MConst) (C : AVal) (a1 : Nat) (rs : List Nat), (acc.length : Int) ≤ ck ∧ BX kr H.length H h' (rdR gr bs a1) H.length (.row g1 4 [.agg [nilS, nilS, nilS, nilS]]) (H.length + 1) g3 4 [C0, C, nilS, nilS] [encL (encL i64) rs0, encL encConst acc, .sl [], .sl []] rs ∧ rowSz h' C 2 ∧
      (C.flat = [C] ∧ C.c1 = true ∧ C.isAgg = false) ∧ a1 ≤ bs.length ∧ GtI gtConst (gtMany gtConst ck.toNat (bs.drop a2)) acc (ck.toNat - acc.length) (bs.drop a1) ∧
      s = [.pt H.length g1 0 0, .pt (H.length + 1) g3 0 0, .pt kr gr 0 0, i64 (ck - acc.length)]) (fun s _ => natA (nthA s 3)) (Wk.refl ⟨[], nilS, a2, _, by simp; omega, bx, trivial, ⟨rfl, rfl, rfl⟩, ha2, .start, by simp⟩) ?_
    clear bx
    rintro _ H2 ⟨acc, C, a1, rs, hal, bx, hsz, hCf, ha1, hgi, rfl⟩
    simp [↓go]
    refine ⟨fun hlt => ?_, fun hge => ?_⟩
    · have hsp : ck.toNat - acc.length = (ck.toNat - (acc.length + 1)) + 1 := by omega
      rw [hsp] at hgi
      have hbad : gtConst (bs.drop a1) = none → ∀ H', Pre kr H2 H' → Pn.f eE H' := fun hn H' hpre => hp (by rw [hgi.bad hn]; rfl) H' (bx.toPre.trans hpre)
      have hgood : ∀ x a', gtConst (bs.drop a1) = some (x, bs.drop a') → GtI gtConst (gtMany gtConst ck.toNat (bs.drop a2)) (acc ++ [x]) (ck.toNat - (acc.length + 1)) (bs.drop a') := fun x a' hx => hgi.step hx
      unfold gtConst at hbad
      clear hgi
      refine S_getU (n := 1) hl hw ha1 (by omega) bx.rd (fun hn H' hpre => hbad (by rw [hn]; rfl) H' (hpre)) (fun v1 b1 H3 hu hb1 hv1 => ?_)
      rw [hv1] at hbad
      simp only [Option.bind_some] at hbad
      replace hsz := bx.sz 1 rfl hsz (fun r hr => hu.oth r (bx.nkr r hr))
      replace bx := bx.upd hu
      have hpre0 : Pre kr H2 H3 := hu.toPre
      have hlen := bx.len
      have hnx : H3.length ∉ rs := fun hm => by have := bx.own.lt _ hm; omega
      have hxr : H3.length ≠ kr := by have := bx.kk; omega
      simp [↓go]
      intro gx
      have hx : (H3 ++ [AObj.row gx 2 [.agg [i64 v1, u32 0]]])[H3.length]? = some (.row gx 2 [.agg [i64 v1, u32 0]]) := by simp
      replace hsz := bx.sz 1 rfl hsz (H' := H3 ++ [AObj.row gx 2 [.agg [i64 v1, u32 0]]]) (fun r hr => List.getElem?_append_left (bx.own.lt r hr))
      replace bx := bx.grow (l := [AObj.row gx 2 [.agg [i64 v1, u32 0]]])
      replace hpre0 := hpre0.trans (Pre.app (l := [AObj.row gx 2 [.agg [i64 v1, u32 0]]]))
      have hx0 : H2.length ≤ H3.length := by rw [hu.len]; omega
      generalize H3 ++ [AObj.row gx 2 [.agg [i64 v1, u32 0]]] = H4 at *
      generalize H3.length = kx at *
      clear hu
      refine S_getU (n := 4) hl hw hb1 (by omega) bx.rd (fun hn H' hpre => hbad (by rw [hn]; rfl) H' (hpre0.trans hpre)) (fun v2 b2 H5 hu hb2 hv2 => ?_)
      replace hsz := bx.sz 1 rfl hsz (fun r hr => hu.oth r (bx.nkr r hr))
      replace bx := bx.upd hu
      replace hpre0 := hpre0.trans hu.toPre
      replace hx := (hu.oth _ hxr).trans hx
      have hxl := (List.getElem?_eq_some_iff.1 hx).1
      simp [↓go, hx]
      replace hsz := bx.sz 1 rfl hsz (H' := H5.set kx (.row gx 2 [.agg [i64 v1, (u32 (IntKind.u32.wrap v2))]])) (fun r hr => List.getElem?_set_ne (fun e => hnx (by rw [e]; exact hr)))
      replace bx := bx.setx (o := .row gx 2 [.agg [i64 v1, (u32 (IntKind.u32.wrap v2))]]) hlen hnx
      replace hpre0 := hpre0.setn (k := kx) (o := .row gx 2 [.agg [i64 v1, (u32 (IntKind.u32.wrap v2))]]) hx0
      replace hx : (H5.set kx (.row gx 2 [.agg [i64 v1, (u32 (IntKind.u32.wrap v2))]]))[kx]? = some (.row gx 2 [.agg [i64 v1, (u32 (IntKind.u32.wrap v2))]]) := List.getElem?_set_self hxl
      clear hu hxl
      have hll : (H5.set kx (.row gx 2 [.agg [i64 v1, (u32 (IntKind.u32.wrap v2))]])).length = H5.length := by simp
      generalize H5.set kx (.row gx 2 [.agg [i64 v1, (u32 (IntKind.u32.wrap v2))]]) = H6 at bx hx hsz hpre0 hll ⊢
      have hbx := bx.box
      simp [↓go, hbx, hx, hCf.1, hCf.2.1, hCf.2.2]
      intro gq
      have hgi2 := hgood ⟨v1, IntKind.u32.wrap v2⟩ b2 (by unfold gtConst; rw [hv1]; simp only [Option.bind_some]; rw [hv2]; rfl)
      have hszX := bx.sz 1 rfl hsz (H' := H6 ++ [AObj.row gq 2 [encConst ⟨v1, IntKind.u32.wrap v2⟩]]) (fun r hr => List.getElem?_append_left (bx.own.lt r hr))
      refine (bx.grow (l := [AObj.row gq 2 [encConst ⟨v1, IntKind.u32.wrap v2⟩]])).app (e := 76) (s := 2) 1 (zs := acc.map encConst) (y := encConst ⟨v1, IntKind.u32.wrap v2⟩) (ty := encConst ⟨v1, IntKind.u32.wrap v2⟩) (ry := []) rfl rfl hszX (by simp) (by simp) (by simp) (by omega) (by simp) (by simp; omega) (by simp [maxLen]; omega) (get_midH hll) rfl rfl (owConst _ _) (by simp) (fun C' H' rs' hb' kk bx' sz' => ?_)
      simp [↓go, hb', kk.1, kk.2.1, kk.2.2]
      rw [w64 (by omega) (by omega)]
      simp only [List.set_cons_zero, List.set_cons_succ] at bx' sz'
      refine wk_ex ⟨⟨acc ++ [⟨v1, IntKind.u32.wrap v2⟩], C', b2, rs', by simp; omega, ?_, sz', kk, hb2, ?_, ?_⟩, by simp; omega⟩
      · rw [encL_snoc]; exact bx'
      · rw [List.length_append]; exact hgi2
      · simp; omega
    have hfin : gtMany gtConst ck.toNat (bs.drop a2) = some (acc, bs.drop a1) := by
      rw [show ck.toNat - acc.length = 0 by omega] at hgi
      exact hgi.fin
    rw [hfin] at hp q
    simp only [Option.bind_some] at hp q
    clear hfin hgi hal hge
    generalize acc = cs0 at *
    generalize C = C1 at *
    have hC1 := hCf
    clear hCf hsz
    refine S_getU (n := 2) hl hw ha1 (by omega) bx.rd (fun hn H' hpre => hp (by rw [hn]; rfl) H' (bx.toPre.trans hpre)) (fun fk a3 H4 hu ha3 hg => ?_)
    rw [hg] at hp q
    simp only [Option.bind_some] at hp q
    replace bx := bx.upd hu
    obtain ⟨hfk0, hfk1⟩ := gtN_range (hok a1) (by omega) hg
    clear hu hg
    refine lp_inv (fun s h' => ∃ (acc : List MFunc) (C : AVal) (a1 : Nat) (rs : List Nat), (acc.length : Int) ≤ fk ∧ BX kr H.length H h' (rdR gr bs a1) H.length (.row g1 4 [.agg [nilS, nilS, nilS, nilS]]) (H.length + 1) g3 4 [C0, C1, C, nilS] [encL (encL i64) rs0, encL encConst cs0, encL encFunc acc, .sl []] rs ∧ rowSz h' C 4 ∧
      (C.flat = [C] ∧ C.c1 = true ∧ C.isAgg = false) ∧ a1 ≤ bs.length ∧ GtI gtFunc (gtMany gtFunc fk.toNat (bs.drop a3)) acc (fk.toNat - acc.length) (bs.drop a1) ∧
      s = [.pt H.length g1 0 0, .pt (H.length + 1) g3 0 0, .pt kr gr 0 0, i64 (fk - acc.length)]) (fun s _ => natA (nthA s 3)) (Wk.refl ⟨[], nilS, a3, _, by simp; omega, bx, trivial, ⟨rfl, rfl, rfl⟩, ha3, .start, by simp⟩) ?_
    clear bx
    rintro _ H2 ⟨acc, C, a1, rs, hal, bx, hsz, hCf, ha1, hgi, rfl⟩
    simp [↓go]
    refine ⟨fun hlt => ?_, fun hge => ?_⟩
    · have hsp : fk.toNat - acc.length = (fk.toNat - (acc.length + 1)) + 1 := by omega
      rw [hsp] at hgi
      have hbad : gtFunc (bs.drop a1) = none → ∀ H', Pre kr H2 H' → Pn.f eE H' := fun hn H' hpre => hp (by rw [hgi.bad hn]; rfl) H' (bx.toPre.trans hpre)
      have hgood : ∀ x a', gtFunc (bs.drop a1) = some (x, bs.drop a') → GtI gtFunc (gtMany gtFunc fk.toNat (bs.drop a3)) (acc ++ [x]) (fk.toNat - (acc.length + 1)) (bs.drop a') := fun x a' hx => hgi.step hx
      clear hgi
      refine jn_cut (fun s h' => ∃ (x : MFunc) (C' : AVal) (a2 : Nat) (rs : List Nat), BX kr H.length H h' (rdR gr bs a2) H.length (.row g1 4 [.agg [nilS, nilS, nilS, nilS]]) (H.length + 1) g3 4 [C0, C1, C', nilS] [encL (encL i64) rs0, encL encConst cs0, encL encFunc (acc ++ [x]), .sl []] rs ∧ rowSz h' C' 4 ∧
        (C'.flat = [C'] ∧ C'.c1 = true ∧ C'.isAgg = false) ∧ a2 ≤ bs.length ∧ gtFunc (bs.drop a1) = some (x, bs.drop a2) ∧ s = [.pt H.length g1 0 0, .pt (H.length + 1) g3 0 0, .pt kr gr 0 0, i64 (fk - acc.length)]) ?_ ?_
      · have hbx := bx.box
        have key : ∀ (J : KS) (x : MFunc) (a3 : Nat) (Hh l : AHeap) (y : AVal), BX kr H.length H Hh (rdR gr bs a3) H.length (.row g1 4 [.agg [nilS, nilS, nilS, nilS]]) (H.length + 1) g3 4 [C0, C1, C, nilS] [encL (encL i64) rs0, encL encConst cs0, encL encFunc acc, .sl []] rs → rowSz Hh C 4 → Made Hh y (encFunc x) l →
            (∀ h' C' rs', BX kr H.length H h' (rdR gr bs a3) H.length (.row g1 4 [.agg [nilS, nilS, nilS, nilS]]) (H.length + 1) g3 4 [C0, C1, C', nilS] [encL (encL i64) rs0, encL encConst cs0, encL encFunc (acc ++ [x]), .sl []] rs' → rowSz h' C' 4 → (C'.flat = [C'] ∧ C'.c1 = true ∧ C'.isAgg = false) → J [.pt H.length g1 0 0, .pt (H.length + 1) g3 0 0, .pt kr gr 0 0, i64 (fk - acc.length)] h') →
            buildSliceM Tryz.prog 32 1 [(0, y)] (Hh ++ l) fun x12 h12 => appendM Tryz.prog 32 32 C x12 h12 fun x13 h13 => fldAddrM Tryz.prog 35 (.pt (H.length + 1) g3 0 0) 2 h13 fun x14 h14 => storeM Tryz.prog 32 x14 x13 h14 fun x15 h15 => @wkM [.pt H.length g1 0 0, .pt (H.length + 1) g3 0 0, .pt kr gr 0 0, i64 (fk - acc.length)] h15 ⟨J⟩ := by
          intro J x a3 Hh l y b hz hm hJ
          obtain ⟨r1, oy, hb, -⟩ := hm
          obtain ⟨p0, p1, p2, rfl, hy0, hy1, hy2⟩ := own_func oy
          have hl9 := b.len
          simp [↓go, hy0.1, hy0.2.1, hy0.2.2, hy1.1, hy1.2.1, hy1.2.2, hy2.1, hy2.2.1, hy2.2.2]
          intro gq
          have e : Hh ++ (l ++ [AObj.row gq 4 [.agg [p0, i64 x.result, p1, p2]]]) = (Hh ++ l) ++ [AObj.row gq 4 [.agg [p0, i64 x.result, p1, p2]]] := by simp
          rw [e]
          replace hz := b.sz 2 rfl hz (H' := (Hh ++ l) ++ [AObj.row gq 4 [.agg [p0, i64 x.result, p1, p2]]]) (fun r hr => by rw [List.append_assoc]; exact List.getElem?_append_left (b.own.lt r hr))
          have hbr : ∀ r ∈ r1, H.length + 1 < r ∧ r ∉ rs := fun r hr => by
            have := hb r hr
            exact ⟨by omega, fun hm => by have := b.own.lt r hm; omega⟩
          refine ((b.grow (l := l)).grow (l := [AObj.row gq 4 [.agg [p0, i64 x.result, p1, p2]]])).app (e := 79) (s := 4) 2 (zs := acc.map encFunc) (y := .agg [p0, i64 x.result, p1, p2]) (ty := encFunc x) (ry := r1) rfl rfl hz (by simp) (by simp) (by simp) (by omega) (by simp) (by simp; omega) (by simp [maxLen]; omega) (get_midH (by simp)) rfl (by simp [AVal.whole, hy0.2.1, hy1.2.1, hy2.2.1]) oy.grow hbr (fun C' H' rs' hb' kk bx' sz' => ?_)
          simp [↓go, hb', kk.1, kk.2.1, kk.2.2]
          refine wk_ex (hJ _ C' rs' ?_ sz' kk)
          simp only [List.set_cons_zero, List.set_cons_succ] at bx'
          rw [encL_snoc]; exact bx'
        simp [↓go, hbx, hCf.1, hCf.2.1, hCf.2.2]
        refine ⟨S_function hl hw ha1 bx.rd (fun hn H' hpre => hbad hn H' hpre) (fun x a2 H4 y l hu ha2 hx hm => ?_), S_function hl hw ha1 bx.rd (fun hn H' hpre => hbad hn H' hpre) (fun x a2 H4 y l hu ha2 hx hm => ?_)⟩
        · exact key _ x a2 H4 l y (bx.upd hu) (bx.sz 2 rfl hsz (fun r hr => hu.oth r (bx.nkr r hr))) hm (fun h' C' rs' b z k => ⟨x, C', a2, rs', b, z, k, ha2, hx, rfl⟩)
        · have hbx3 := ((bx.upd hu).grow (l := l)).box
          have ld : ∀ KK : KA, KK C (H4 ++ l) → loadM Tryz.prog 32 (.pt (H.length + 1) g3 0 (0 + 2)) (H4 ++ l) KK := fun KK hKK => by
            simp [↓go, hbx3, hCf.1, hCf.2.1, hCf.2.2]
            exact hKK
          exact ld _ (key _ x a2 H4 l y (bx.upd hu) (bx.sz 2 rfl hsz (fun r hr => hu.oth r (bx.nkr r hr))) hm (fun h' C' rs' b z k => ⟨x, C', a2, rs', b, z, k, ha2, hx, rfl⟩))
      · rintro _ H3 ⟨x, C', a2, rs', bx2, hz2, kk, ha2, hx, rfl⟩
        simp [↓go]
        rw [w64 (by omega) (by omega)]
        refine wk_ex ⟨⟨acc ++ [x], C', a2, rs', by simp; omega, bx2, hz2, kk, ha2, ?_, by simp; omega⟩, by simp; omega⟩
        rw [List.length_append]; exact hgood x a2 hx
    · skip
      have hfin : gtMany gtFunc fk.toNat (bs.drop a3) = some (acc, bs.drop a1) := by
        rw [show fk.toNat - acc.length = 0 by omega] at hgi
        exact hgi.fin
      rw [hfin] at hp q
      simp only [Option.bind_some] at hp q
      clear hfin hgi hal hge
      generalize acc = fs0 at *
      generalize C = C2 at *
      have hC2 := hCf
      clear hCf hsz
      refine S_getU (n := 2) hl hw ha1 (by omega) bx.rd (fun hn H' hpre => hp (by rw [hn]; rfl) H' (bx.toPre.trans hpre)) (fun xk a4 H5 hu ha4 hg => ?_)
      rw [hg] at hp q
      simp only [Option.bind_some] at hp q
      replace bx := bx.upd hu
      obtain ⟨hxk0, hxk1⟩ := gtN_range (hok a1) (by omega) hg
      clear hu hg
      refine lp_inv (fun s h' => ∃ (acc : List MCert) (C : AVal) (a1 : Nat) (rs : List Nat), (acc.length : Int) ≤ xk ∧ BX kr H.length H h' (rdR gr bs a1) H.length (.row g1 4 [.agg [nilS, nilS, nilS, nilS]]) (H.length + 1) g3 4 [C0, C1, C2, C] [encL (encL i64) rs0, encL encConst cs0, encL encFunc fs0, encL encCert acc] rs ∧ rowSz h' C 4 ∧
        (C.flat = [C] ∧ C.c1 = true ∧ C.isAgg = false) ∧ a1 ≤ bs.length ∧ GtI gtCert (gtMany gtCert xk.toNat (bs.drop a4)) acc (xk.toNat - acc.length) (bs.drop a1) ∧
        s = [.pt H.length g1 0 0, .pt (H.length + 1) g3 0 0, i64 (xk - acc.length), .pt kr gr 0 0]) (fun s _ => natA (nthA s 2)) (Wk.refl ⟨[], nilS, a4, _, by simp; omega, bx, trivial, ⟨rfl, rfl, rfl⟩, ha4, .start, by simp⟩) ?_
      clear bx
      rintro _ H2 ⟨acc, C, a1, rs, hal, bx, hsz, hCf, ha1, hgi, rfl⟩
      simp [↓go]
      refine ⟨fun hlt => ?_, fun hge => ?_⟩
      · have hsp : xk.toNat - acc.length = (xk.toNat - (acc.length + 1)) + 1 := by omega
        rw [hsp] at hgi
        have hbad : gtCert (bs.drop a1) = none → ∀ H', Pre kr H2 H' → Pn.f eE H' := fun hn H' hpre => hp (by rw [hgi.bad hn]; rfl) H' (bx.toPre.trans hpre)
        have hgood : ∀ x a', gtCert (bs.drop a1) = some (x, bs.drop a') → GtI gtCert (gtMany gtCert xk.toNat (bs.drop a4)) (acc ++ [x]) (xk.toNat - (acc.length + 1)) (bs.drop a') := fun x a' hx => hgi.step hx
        unfold gtCert at hbad
        clear hgi
        refine S_getU (n := 2) hl hw ha1 (by omega) bx.rd (fun hn H' hpre => hbad (by rw [hn]; rfl) H' (hpre)) (fun v1 b1 H3 hu hb1 hv1 => ?_)
        rw [hv1] at hbad
        simp only [Option.bind_some] at hbad
        replace hsz := bx.sz 3 rfl hsz (fun r hr => hu.oth r (bx.nkr r hr))
        replace bx := bx.upd hu
        have hpre0 : Pre kr H2 H3 := hu.toPre
        have hlen := bx.len
        have hnx : H3.length ∉ rs := fun hm => by have := bx.own.lt _ hm; omega
        have hxr : H3.length ≠ kr := by have := bx.kk; omega
        simp [↓go]
        intro gx
        have hx : (H3 ++ [AObj.row gx 4 [.agg [i64 v1, i64 0, i64 0, u32 0]]])[H3.length]? = some (.row gx 4 [.agg [i64 v1, i64 0, i64 0, u32 0]]) := by simp
        replace hsz := bx.sz 3 rfl hsz (H' := H3 ++ [AObj.row gx 4 [.agg [i64 v1, i64 0, i64 0, u32 0]]]) (fun r hr => List.getElem?_append_left (bx.own.lt r hr))
        replace bx := bx.grow (l := [AObj.row gx 4 [.agg [i64 v1, i64 0, i64 0, u32 0]]])
        replace hpre0 := hpre0.trans (Pre.app (l := [AObj.row gx 4 [.agg [i64 v1, i64 0, i64 0, u32 0]]]))
        have hx0 : H2.length ≤ H3.length := by rw [hu.len]; omega
        generalize H3 ++ [AObj.row gx 4 [.agg [i64 v1, i64 0, i64 0, u32 0]]] = H4 at *
        generalize H3.length = kx at *
        clear hu
        refine S_getU (n := 2) hl hw hb1 (by omega) bx.rd (fun hn H' hpre => hbad (by rw [hn]; rfl) H' (hpre0.trans hpre)) (fun v2 b2 H5 hu hb2 hv2 => ?_)
        rw [hv2] at hbad
        simp only [Option.bind_some] at hbad
        replace hsz := bx.sz 3 rfl hsz (fun r hr => hu.oth r (bx.nkr r hr))
        replace bx := bx.upd hu
        replace hpre0 := hpre0.trans hu.toPre
        replace hx := (hu.oth _ hxr).trans hx
        have hxl := (List.getElem?_eq_some_iff.1 hx).1
        simp [↓go, hx]
        replace hsz := bx.sz 3 rfl hsz (H' := H5.set kx (.row gx 4 [.agg [i64 v1, i64 v2, i64 0, u32 0]])) (fun r hr => List.getElem?_set_ne (fun e => hnx (by rw [e]; exact hr)))
        replace bx := bx.setx (o := .row gx 4 [.agg [i64 v1, i64 v2, i64 0, u32 0]]) hlen hnx
        replace hpre0 := hpre0.setn (k := kx) (o := .row gx 4 [.agg [i64 v1, i64 v2, i64 0, u32 0]]) hx0
        replace hx : (H5.set kx (.row gx 4 [.agg [i64 v1, i64 v2, i64 0, u32 0]]))[kx]? = some (.row gx 4 [.agg [i64 v1, i64 v2, i64 0, u32 0]]) := List.getElem?_set_self hxl
        clear hu hxl
        generalize H5.set kx (.row gx 4 [.agg [i64 v1, i64 v2, i64 0, u32 0]]) = H6 at bx hx hsz hpre0 ⊢
        refine S_getU (n := 1) hl hw hb2 (by omega) bx.rd (fun hn H' hpre => hbad (by rw [hn]; rfl) H' (hpre0.trans hpre)) (fun v3 b3 H7 hu hb3 hv3 => ?_)
        rw [hv3] at hbad
        simp only [Option.bind_some] at hbad
        replace hsz := bx.sz 3 rfl hsz (fun r hr => hu.oth r (bx.nkr r hr))
        replace bx := bx.upd hu
        replace hpre0 := hpre0.trans hu.toPre
        replace hx := (hu.oth _ hxr).trans hx
        have hxl := (List.getElem?_eq_some_iff.1 hx).1
        simp [↓go, hx]
        replace hsz := bx.sz 3 rfl hsz (H' := H7.set kx (.row gx 4 [.agg [i64 v1, i64 v2, i64 v3, u32 0]])) (fun r hr => List.getElem?_set_ne (fun e => hnx (by rw [e]; exact hr)))
        replace bx := bx.setx (o := .row gx 4 [.agg [i64 v1, i64 v2, i64 v3, u32 0]]) hlen hnx
        replace hpre0 := hpre0.setn (k := kx) (o := .row gx 4 [.agg [i64 v1, i64 v2, i64 v3, u32 0]]) hx0
        replace hx : (H7.set kx (.row gx 4 [.agg [i64 v1, i64 v2, i64 v3, u32 0]]))[kx]? = some (.row gx 4 [.agg [i64 v1, i64 v2, i64 v3, u32 0]]) := List.getElem?_set_self hxl
        clear hu hxl
        generalize H7.set kx (.row gx 4 [.agg [i64 v1, i64 v2, i64 v3, u32 0]]) = H8 at bx hx hsz hpre0 ⊢
        refine S_getU (n := 4) hl hw hb3 (by omega) bx.rd (fun hn H' hpre => hbad (by rw [hn]; rfl) H' (hpre0.trans hpre)) (fun v4 b4 H9 hu hb4 hv4 => ?_)
        replace hsz := bx.sz 3 rfl hsz (fun r hr => hu.oth r (bx.nkr r hr))
        replace bx := bx.upd hu
        replace hpre0 := hpre0.trans hu.toPre
        replace hx := (hu.oth _ hxr).trans hx
        have hxl := (List.getElem?_eq_some_iff.1 hx).1
        simp [↓go, hx]
        replace hsz := bx.sz 3 rfl hsz (H' := H9.set kx (.row gx 4 [.agg [i64 v1, i64 v2, i64 v3, (u32 (IntKind.u32.wrap v4))]])) (fun r hr => List.getElem?_set_ne (fun e => hnx (by rw [e]; exact hr)))
        replace bx := bx.setx (o := .row gx 4 [.agg [i64 v1, i64 v2, i64 v3, (u32 (IntKind.u32.wrap v4))]]) hlen hnx
        replace hpre0 := hpre0.setn (k := kx) (o := .row gx 4 [.agg [i64 v1, i64 v2, i64 v3, (u32 (IntKind.u32.wrap v4))]]) hx0
        replace hx : (H9.set kx (.row gx 4 [.agg [i64 v1, i64 v2, i64 v3, (u32 (IntKind.u32.wrap v4))]]))[kx]? = some (.row gx 4 [.agg [i64 v1, i64 v2, i64 v3, (u32 (IntKind.u32.wrap v4))]]) := List.getElem?_set_self hxl
        clear hu hxl
        have hll : (H9.set kx (.row gx 4 [.agg [i64 v1, i64 v2, i64 v3, (u32 (IntKind.u32.wrap v4))]])).length = H9.length := by simp
        generalize H9.set kx (.row gx 4 [.agg [i64 v1, i64 v2, i64 v3, (u32 (IntKind.u32.wrap v4))]]) = H10 at bx hx hsz hpre0 hll ⊢
        have hbx := bx.box
        simp [↓go, hbx, hx, hCf.1, hCf.2.1, hCf.2.2]
        intro gq
        have hgi2 := hgood ⟨v1, v2, v3, IntKind.u32.wrap v4⟩ b4 (by unfold gtCert; rw [hv1]; simp only [Option.bind_some]; rw [hv2]; simp only [Option.bind_some]; rw [hv3]; simp only [Option.bind_some]; rw [hv4]; rfl)
        have hszX := bx.sz 3 rfl hsz (H' := H10 ++ [AObj.row gq 4 [encCert ⟨v1, v2, v3, IntKind.u32.wrap v4⟩]]) (fun r hr => List.getElem?_append_left (bx.own.lt r hr))
        refine (bx.grow (l := [AObj.row gq 4 [encCert ⟨v1, v2, v3, IntKind.u32.wrap v4⟩]])).app (e := 83) (s := 4) 3 (zs := acc.map encCert) (y := encCert ⟨v1, v2, v3, IntKind.u32.wrap v4⟩) (ty := encCert ⟨v1, v2, v3, IntKind.u32.wrap v4⟩) (ry := []) rfl rfl hszX (by simp) (by simp) (by simp) (by omega) (by simp) (by simp; omega) (by simp [maxLen]; omega) (get_midH hll) rfl rfl (owCert _ _) (by simp) (fun C' H' rs' hb' kk bx' sz' => ?_)
        simp [↓go, hb', kk.1, kk.2.1, kk.2.2]
        rw [w64 (by omega) (by omega)]
        simp only [List.set_cons_zero, List.set_cons_succ] at bx' sz'
        refine wk_ex ⟨⟨acc ++ [⟨v1, v2, v3, IntKind.u32.wrap v4⟩], C', b4, rs', by simp; omega, ?_, sz', kk, hb4, ?_, ?_⟩, by simp; omega⟩
        · rw [encL_snoc]; exact bx'
        · rw [List.length_append]; exact hgi2
        · simp; omega
      have hbx := bx.box
      have hone := bx.one
      have hkl := bx.len
      have hkk := bx.kk
      have hself : ∀ o : AObj, (H2.set H.length o)[H.length]? = some o := fun o => List.getElem?_set_self (by omega)
      simp [↓go, hbx, hone, hself, hC0.1, hC0.2.1, hC0.2.2, hC1.1, hC1.2.1, hC1.2.2, hC2.1, hC2.2.1, hC2.2.2, hCf.1, hCf.2.1, hCf.2.2]
      have hfin : gtMany gtCert xk.toNat (bs.drop a4) = some (acc, bs.drop a1) := by
        rw [show xk.toNat - acc.length = 0 by omega] at hgi
        exact hgi.fin
      have o1 : Own (H2.set H.length (.row g1 4 [.agg [C0, C1, C2, C]])) [.agg [C0, C1, C2, C]] [encProgram ⟨rs0, cs0, fs0, acc⟩] rs := by
        rw [encProgram_eq]
        exact Own.agg_mk (bx.own.frame (fun r hr => List.getElem?_set_ne (fun e => by have := bx.lo r hr; omega)))
      obtain ⟨H', l, e, hlen, hupd⟩ := fin_split (kr := kr) (n0 := H.length) (H0 := H) (Hf := H2.set H.length (.row g1 4 [.agg [C0, C1, C2, C]])) (ro := rdR gr bs a1) rfl (fun r hr hne => by rw [List.getElem?_set_ne (by omega)]; exact bx.pre r hr hne) (by rw [List.getElem?_set_ne (by omega)]; exact bx.rd) hkk.1 (by simp; omega)
      rw [e] at o1 ⊢
      exact wk_of (Wk.made o1 (fun r hr => by have := bx.lo r hr; omega) (fun l' hm => q ⟨rs0, cs0, fs0, acc⟩ a1 H' _ l' hupd ha1 (by rw [hfin]; rfl) hm))
end Go.Proofs.YtkfpoagnchahkaaGreat.A
