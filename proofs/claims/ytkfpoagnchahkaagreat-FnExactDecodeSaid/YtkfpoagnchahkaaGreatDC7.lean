/- Of this session: over the abstract machine. -/
import Derived.Test.YtkfpoagnchahkaaGreatProg
import Derived.Test.YtkfpoagnchahkaaGreatA
import Derived.Test.YtkfpoagnchahkaaGreatB
import Derived.Test.YtkfpoagnchahkaaGreatD
import Derived.Test.YtkfpoagnchahkaaGreatT
import Derived.Test.YtkfpoagnchahkaaGreatO
import Derived.Test.YtkfpoagnchahkaaGreatOT
import Derived.Test.YtkfpoagnchahkaaGreatP1
import Derived.Test.YtkfpoagnchahkaaGreatP2
import Derived.Test.YtkfpoagnchahkaaGreatP3
import Derived.Test.YtkfpoagnchahkaaGreatP4
import Derived.Test.YtkfpoagnchahkaaGreatP5
import Derived.Test.YtkfpoagnchahkaaGreatO8
import Derived.Test.YtkfpoagnchahkaaGreatDC0
import Derived.Test.YtkfpoagnchahkaaGreatDC1
import Derived.Test.YtkfpoagnchahkaaGreatDC2
import Derived.Test.YtkfpoagnchahkaaGreatDC3
import Derived.Test.YtkfpoagnchahkaaGreatDC4
import Derived.Test.YtkfpoagnchahkaaGreatDC5
import Derived.Test.YtkfpoagnchahkaaGreatDC6
namespace Go.Proofs.YtkfpoagnchahkaaGreat.A
open Go Go.RowKit
set_option linter.unusedVariables false
set_option linter.unusedSimpArgs false
set_option maxRecDepth 100000
set_option maxHeartbeats 1000000
theorem O_l3GetProgram {bs : List Int} {a kr gr : Nat} {fa : Bool} {H : AHeap} {Q : KA} (hl : bs.length ≤ 1099511627776) (hw : okB bs) (ha : a ≤ bs.length) (hr : H[kr]? = some (sR gr bs a fa))
    (q : ∀ p a' fa' H' y l2, Upd kr H H' (sR gr bs a' fa') → a' ≤ bs.length → Got fa' fa (gtProg (bs.drop a)) p (bs.drop a') → Made H' y (encProgram p) l2 → Q y (H' ++ l2)) : @clM Tryz.prog 55 [.pt kr gr 0 0] H ⟨Q⟩ := by
  refine cl_of fn_spec_l3GetProgram (D_spec_l3GetProgram_of ?_)
  unfold D_spec_l3GetProgram
  have hk := (List.getElem?_eq_some_iff.1 hr).1
  simp [↓go]
  intro g1 g3
  have bx : BX kr H.length H (H ++ [.row g1 4 [.agg [nilS, nilS, nilS, nilS]], .row g3 4 [.agg [nilS, nilS, nilS, nilS]]]) (sR gr bs a fa) H.length (.row g1 4 [.agg [nilS, nilS, nilS, nilS]]) (H.length + 1) g3 4 [nilS, nilS, nilS, nilS] [.sl [], .sl [], .sl [], .sl []] [] :=
    ⟨fun r hr _ => List.getElem?_append_left hr, app_get hr, by simp, by simp, .nl (.nl (.nl (.nl .nil))), by simp, ⟨hk, by omega, by omega⟩⟩
  generalize H ++ [.row g1 4 [.agg [nilS, nilS, nilS, nilS]], .row g3 4 [.agg [nilS, nilS, nilS, nilS]]] = H1 at bx ⊢
  refine lp_inv (fun s h' => ∃ (acc : List (List Int)) (C : AVal) (a1 : Nat) (fa1 : Bool) (rs : List Nat), acc.length ≤ 3 ∧ BX kr H.length H h' (sR gr bs a1 fa1) H.length (.row g1 4 [.agg [nilS, nilS, nilS, nilS]]) (H.length + 1) g3 4 [C, nilS, nilS, nilS] [encL (encL i64) acc, .sl [], .sl [], .sl []] rs ∧ rowSz h' C 1 ∧
    (C.flat = [C] ∧ C.c1 = true ∧ C.isAgg = false) ∧ a1 ≤ bs.length ∧ GL (gtTypes 2) (gtMany (gtTypes 2) 3 (bs.drop a)) fa fa1 acc (3 - acc.length) (bs.drop a1) ∧
    s = [.pt H.length g1 0 0, .pt (H.length + 1) g3 0 0, .pt kr gr 0 0, i64 acc.length]) (fun s _ => 3 - natA (nthA s 3)) (Wk.refl ⟨[], nilS, a, fa, _, by simp, bx, trivial, ⟨rfl, rfl, rfl⟩, ha, .start, by simp⟩) ?_
  clear bx
  rintro _ H2 ⟨acc, C, a1, fa1, rs, hal, bx, hsz, hCf, ha1, hgi, rfl⟩
  simp [↓go]
  refine ⟨fun hlt => ?_, fun hge => ?_⟩
  · have hsp : 3 - acc.length = (3 - (acc.length + 1)) + 1 := by omega
    rw [hsp] at hgi
    have hgood : ∀ x a' fa', Got fa' fa1 (gtTypes 2 (bs.drop a1)) x (bs.drop a') → GL (gtTypes 2) (gtMany (gtTypes 2) 3 (bs.drop a)) fa fa' (acc ++ [x]) (3 - (acc.length + 1)) (bs.drop a') := fun x a' fa' hx => hgi.step hx
    clear hgi
    refine jn_cut (fun s h' => ∃ (x : List Int) (C' : AVal) (a2 : Nat) (fa2 : Bool) (rs : List Nat), BX kr H.length H h' (sR gr bs a2 fa2) H.length (.row g1 4 [.agg [nilS, nilS, nilS, nilS]]) (H.length + 1) g3 4 [C', nilS, nilS, nilS] [encL (encL i64) (acc ++ [x]), .sl [], .sl [], .sl []] rs ∧ rowSz h' C' 1 ∧
      (C'.flat = [C'] ∧ C'.c1 = true ∧ C'.isAgg = false) ∧ a2 ≤ bs.length ∧ Got fa2 fa1 (gtTypes 2 (bs.drop a1)) x (bs.drop a2) ∧ s = [.pt H.length g1 0 0, .pt (H.length + 1) g3 0 0, .pt kr gr 0 0, i64 acc.length]) ?_ ?_
    · have hbx := bx.box
      have key : ∀ (J : KS) (x : List Int) (a3 : Nat) (fa3 : Bool) (Hh l : AHeap) (y : AVal), BX kr H.length H Hh (sR gr bs a3 fa3) H.length (.row g1 4 [.agg [nilS, nilS, nilS, nilS]]) (H.length + 1) g3 4 [C, nilS, nilS, nilS] [encL (encL i64) acc, .sl [], .sl [], .sl []] rs → rowSz Hh C 1 → Made Hh y (encL i64 x) l →
          (∀ h' C' rs', BX kr H.length H h' (sR gr bs a3 fa3) H.length (.row g1 4 [.agg [nilS, nilS, nilS, nilS]]) (H.length + 1) g3 4 [C', nilS, nilS, nilS] [encL (encL i64) (acc ++ [x]), .sl [], .sl [], .sl []] rs' → rowSz h' C' 1 → (C'.flat = [C'] ∧ C'.c1 = true ∧ C'.isAgg = false) → J [.pt H.length g1 0 0, .pt (H.length + 1) g3 0 0, .pt kr gr 0 0, i64 acc.length] h') →
          buildSliceM Tryz.prog 22 1 [(0, y)] (Hh ++ l) fun x12 h12 => appendM Tryz.prog 22 22 C x12 h12 fun x13 h13 => fldAddrM Tryz.prog 35 (.pt (H.length + 1) g3 0 0) 0 h13 fun x14 h14 => storeM Tryz.prog 22 x14 x13 h14 fun x15 h15 => @wkM [.pt H.length g1 0 0, .pt (H.length + 1) g3 0 0, .pt kr gr 0 0, i64 acc.length] h15 ⟨J⟩ := by
        intro J x a3 fa3 Hh l y b hz hm hJ
        obtain ⟨r1, oy, hb, -⟩ := hm
        have hfl := oy.sl_cell
        have hl9 := b.len
        simp [↓go, hfl.1, hfl.2.1, hfl.2.2]
        intro gq
        have e : Hh ++ (l ++ [AObj.row gq 1 [y]]) = (Hh ++ l) ++ [AObj.row gq 1 [y]] := by simp
        rw [e]
        replace hz := b.sz 0 rfl hz (H' := (Hh ++ l) ++ [AObj.row gq 1 [y]]) (fun r hr => by rw [List.append_assoc]; exact List.getElem?_append_left (b.own.lt r hr))
        have hbr : ∀ r ∈ r1, H.length + 1 < r ∧ r ∉ rs := fun r hr => by
          have := hb r hr
          exact ⟨by omega, fun hm => by have := b.own.lt r hm; omega⟩
        refine ((b.grow (l := l)).grow (l := [AObj.row gq 1 [y]])).app (e := 72) (s := 1) 0 (zs := acc.map (encL i64)) (y := y) (ty := encL i64 x) (ry := r1) rfl rfl hz (by simp) (by simp) (by simp) (by omega) (by simp) (by simp; omega) (by simp [maxLen]; omega) (get_midH (by simp)) (by rw [hfl.1]; rfl) (by simp [AVal.whole, hfl.1, hfl.2.1]) oy.grow hbr (fun C' H' rs' hb' kk bx' sz' => ?_)
        simp [↓go, hb', kk.1, kk.2.1, kk.2.2]
        refine wk_ex (hJ _ C' rs' ?_ sz' kk)
        simp only [List.set_cons_zero] at bx'
        rw [encL_snoc]; exact bx'
      simp [↓go, hbx, hCf.1, hCf.2.1, hCf.2.2]
      have tail : ∀ (H3 : AHeap) (c : Int) (b1 : Nat) (fb1 : Bool) (KK : KA), 0 ≤ c ∧ c < 2 ^ (8 * 2) → Upd kr H2 H3 (sR gr bs b1 fb1) → b1 ≤ bs.length → Got fb1 fa1 (gtN 2 (bs.drop a1)) c (bs.drop b1) →
          (∀ x a2 fa2 H4 y l, BX kr H.length H H4 (sR gr bs a2 fa2) H.length (.row g1 4 [.agg [nilS, nilS, nilS, nilS]]) (H.length + 1) g3 4 [C, nilS, nilS, nilS] [encL (encL i64) acc, .sl [], .sl [], .sl []] rs → rowSz H4 C 1 → a2 ≤ bs.length → Got fa2 fa1 (gtTypes 2 (bs.drop a1)) x (bs.drop a2) → Made H4 y (encL i64 x) l → KK y (H4 ++ l)) →
          @clM Tryz.prog 101 [.pt kr gr 0 0, i64 c] H3 ⟨KK⟩ := by
        intro H3 c b1 fb1 KK hrc hu hb1 hc hKK
        obtain ⟨hc0, hc1⟩ := hrc
        have hz2 := bx.sz 0 rfl hsz (fun r hr => hu.oth r (bx.nkr r hr))
        have bx2 := bx.upd hu
        refine O_l3GetList hl hw hb1 (by omega) (by omega) bx2.rd (fun x a2 fa2 H4 y l hu2 ha2 hx hm => ?_)
        refine hKK x a2 fa2 H4 y l (bx2.upd hu2) (bx2.sz 0 rfl hz2 (fun r hr => hu2.oth r (bx2.nkr r hr))) ha2 ?_ hm
        unfold gtTypes
        exact Got.bind hc hx
      have hJ : ∀ (x : List Int) (a2 : Nat) (fa2 : Bool), a2 ≤ bs.length → Got fa2 fa1 (gtTypes 2 (bs.drop a1)) x (bs.drop a2) → ∀ h' C' rs', BX kr H.length H h' (sR gr bs a2 fa2) H.length (.row g1 4 [.agg [nilS, nilS, nilS, nilS]]) (H.length + 1) g3 4 [C', nilS, nilS, nilS] [encL (encL i64) (acc ++ [x]), .sl [], .sl [], .sl []] rs' → rowSz h' C' 1 → (C'.flat = [C'] ∧ C'.c1 = true ∧ C'.isAgg = false) →
          (∃ (x : List Int) (C' : AVal) (a2 : Nat) (fa2 : Bool) (rs : List Nat), BX kr H.length H h' (sR gr bs a2 fa2) H.length (.row g1 4 [.agg [nilS, nilS, nilS, nilS]]) (H.length + 1) g3 4 [C', nilS, nilS, nilS] [encL (encL i64) (acc ++ [x]), .sl [], .sl [], .sl []] rs ∧ rowSz h' C' 1 ∧
            (C'.flat = [C'] ∧ C'.c1 = true ∧ C'.isAgg = false) ∧ a2 ≤ bs.length ∧ Got fa2 fa1 (gtTypes 2 (bs.drop a1)) x (bs.drop a2) ∧ [AVal.pt H.length g1 0 0, .pt (H.length + 1) g3 0 0, .pt kr gr 0 0, i64 acc.length] = [.pt H.length g1 0 0, .pt (H.length + 1) g3 0 0, .pt kr gr 0 0, i64 acc.length]) := fun x a2 fa2 ha2 hx h' C' rs' b z k => ⟨x, C', a2, fa2, rs', b, z, k, ha2, hx, rfl⟩
      refine ⟨S_l3GetU (n := 2) hl hw ha1 (by omega) bx.rd (fun c b1 fb1 H3 hu hb1 hc hrc => ?_), S_l3GetU (n := 2) hl hw ha1 (by omega) bx.rd (fun c b1 fb1 H3 hu hb1 hc hrc => ⟨?_, ?_⟩)⟩
      · exact tail H3 c b1 fb1 _ hrc hu hb1 hc (fun x a2 fa2 H4 y l b z ha2 hx hm => key _ x a2 fa2 H4 l y b z hm (hJ x a2 fa2 ha2 hx))
      · have hbx3 := (bx.upd hu).box
        simp [↓go, hbx3, hCf.1, hCf.2.1, hCf.2.2]
        exact tail H3 c b1 fb1 _ hrc hu hb1 hc (fun x a2 fa2 H4 y l b z ha2 hx hm => key _ x a2 fa2 H4 l y b z hm (hJ x a2 fa2 ha2 hx))
      · refine tail H3 c b1 fb1 _ hrc hu hb1 hc (fun x a2 fa2 H4 y l b z ha2 hx hm => ?_)
        have hbx3 := (b.grow (l := l)).box
        have ld : ∀ KK : KA, KK C (H4 ++ l) → loadM Tryz.prog 22 (.pt (H.length + 1) g3 0 0) (H4 ++ l) KK := fun KK hKK => by
          simp [↓go, hbx3, hCf.1, hCf.2.1, hCf.2.2]
          exact hKK
        exact ld _ (key _ x a2 fa2 H4 l y b z hm (hJ x a2 fa2 ha2 hx))
    · rintro _ H3 ⟨x, C', a2, fa2, rs', bx2, hz2, kk, ha2, hx, rfl⟩
      simp [↓go]
      rw [w64 (by omega) (by omega)]
      refine wk_ex ⟨⟨acc ++ [x], C', a2, fa2, rs', by simp; omega, bx2, hz2, kk, ha2, ?_, by simp⟩, by simp; omega⟩
      rw [List.length_append]; exact hgood x a2 fa2 hx
  · have hfinR := hgi.fin (.inr (by omega))
    clear hgi hal hge
    generalize acc = rs0 at *
    generalize C = C0 at *
    have hC0 := hCf
    clear hCf hsz
    refine S_l3GetU (n := 2) hl hw ha1 (by omega) bx.rd (fun ck a2 fa2 H3 hu ha2 hgck hrck => ?_)
    replace bx := bx.upd hu
    obtain ⟨hck0, hck1⟩ := hrck
    clear hu
    refine lp_inv (fun s h' => ∃ (acc : List MConst) (C : AVal) (a1 : Nat) (fa1 : Bool) (rs : List Nat), (acc.length : Int) ≤ ck ∧ BX kr H.length H h' (sR gr bs a1 fa1) H.length (.row g1 4 [.agg [nilS, nilS, nilS, nilS]]) (H.length + 1) g3 4 [C0, C, nilS, nilS] [encL (encL i64) rs0, encL encConst acc, .sl [], .sl []] rs ∧ rowSz h' C 2 ∧
      (C.flat = [C] ∧ C.c1 = true ∧ C.isAgg = false) ∧ a1 ≤ bs.length ∧ GL gtConst (gtMany gtConst ck.toNat (bs.drop a2)) fa2 fa1 acc (ck.toNat - acc.length) (bs.drop a1) ∧
      s = [.pt H.length g1 0 0, .pt (H.length + 1) g3 0 0, .pt kr gr 0 0, i64 (ck - acc.length)]) (fun s _ => natA (nthA s 3)) (Wk.refl ⟨[], nilS, a2, fa2, _, by simp; omega, bx, trivial, ⟨rfl, rfl, rfl⟩, ha2, .start, by simp⟩) ?_
    clear bx
    rintro _ H2 ⟨acc, C, a1, fa1, rs, hal, bx, hsz, hCf, ha1, hgi, rfl⟩
    have hrd0 := bx.rd
    unfold sR at hrd0
    simp [↓go, hrd0]
    refine (fun (hexit : (fa1 = true ∨ ck.toNat - acc.length = 0) → _) => ⟨fun hlt => ⟨fun hb => ?body_ck, fun hb => hexit (.inl hb)⟩, fun hge => hexit (.inr (by omega))⟩) ?exit_ck
    case body_ck =>
      have hsp : ck.toNat - acc.length = (ck.toNat - (acc.length + 1)) + 1 := by omega
      rw [hsp] at hgi
      refine jn_cut (fun s h' => ∃ (x : MConst) (C' : AVal) (a3 : Nat) (fa3 : Bool) (rs : List Nat), BX kr H.length H h' (sR gr bs a3 fa3) H.length (.row g1 4 [.agg [nilS, nilS, nilS, nilS]]) (H.length + 1) g3 4 [C0, C', nilS, nilS] [encL (encL i64) rs0, encL encConst (acc ++ [x]), .sl [], .sl []] rs ∧ rowSz h' C' 2 ∧
        (C'.flat = [C'] ∧ C'.c1 = true ∧ C'.isAgg = false) ∧ a3 ≤ bs.length ∧ Got fa3 fa1 (gtConst (bs.drop a1)) x (bs.drop a3) ∧ s = [.pt H.length g1 0 0, .pt (H.length + 1) g3 0 0, .pt kr gr 0 0, i64 (ck - acc.length)]) ?_ ?_
      · refine S_l3GetU (n := 1) hl hw ha1 (by omega) bx.rd (fun v1 b1 fb1 H3 hu hb1 hv1 hrv1 => ?_)
        replace hsz := bx.sz 1 rfl hsz (fun r hr => hu.oth r (bx.nkr r hr))
        replace bx := bx.upd hu
        have key : ∀ (J : KS) (v2 : Int) (b2 : Nat) (fb2 : Bool) (H4 : AHeap), Upd kr H3 H4 (sR gr bs b2 fb2) → b2 ≤ bs.length → Got fb2 fb1 (gtN 4 (bs.drop b1)) v2 (bs.drop b2) →
            (∀ h' C' rs', BX kr H.length H h' (sR gr bs b2 fb2) H.length (.row g1 4 [.agg [nilS, nilS, nilS, nilS]]) (H.length + 1) g3 4 [C0, C', nilS, nilS] [encL (encL i64) rs0, encL encConst (acc ++ [⟨v1, IntKind.u32.wrap v2⟩]), .sl [], .sl []] rs' → rowSz h' C' 2 → (C'.flat = [C'] ∧ C'.c1 = true ∧ C'.isAgg = false) →
              Got fb2 fa1 (gtConst (bs.drop a1)) ⟨v1, IntKind.u32.wrap v2⟩ (bs.drop b2) → J [.pt H.length g1 0 0, .pt (H.length + 1) g3 0 0, .pt kr gr 0 0, i64 (ck - acc.length)] h') →
            convM Tryz.prog 2 74 (i64 v2) H4 fun x42 h42 => buildM Tryz.prog 76 [(0, i64 v1), (1, x42)] h42 fun x43 h43 => buildSliceM Tryz.prog 31 1 [(0, x43)] h43 fun x44 h44 => appendM Tryz.prog 31 31 C x44 h44 fun x45 h45 => fldAddrM Tryz.prog 35 (.pt (H.length + 1) g3 0 0) 1 h45 fun x46 h46 => storeM Tryz.prog 31 x46 x45 h46 fun x47 h47 => @wkM [.pt H.length g1 0 0, .pt (H.length + 1) g3 0 0, .pt kr gr 0 0, i64 (ck - acc.length)] h47 ⟨J⟩ := by
          intro J v2 b2 fb2 H4 hu2 hb2 hv2 hJ
          have hsz2 := bx.sz 1 rfl hsz (fun r hr => hu2.oth r (bx.nkr r hr))
          have bx2 := bx.upd hu2
          simp [↓go]
          intro gq
          have hszX := bx2.sz 1 rfl hsz2 (H' := H4 ++ [AObj.row gq 2 [encConst ⟨v1, IntKind.u32.wrap v2⟩]]) (fun r hr => List.getElem?_append_left (bx2.own.lt r hr))
          refine (bx2.grow (l := [AObj.row gq 2 [encConst ⟨v1, IntKind.u32.wrap v2⟩]])).app (e := 76) (s := 2) 1 (zs := acc.map encConst) (y := encConst ⟨v1, IntKind.u32.wrap v2⟩) (ty := encConst ⟨v1, IntKind.u32.wrap v2⟩) (ry := []) rfl rfl hszX (by simp) (by simp) (by simp) (by omega) (by simp) (by simp; omega) (by simp [maxLen]; omega) (get_midH rfl) rfl rfl (owConst _ _) (by simp) (fun C' H' rs' hb' kk bx' sz' => ?_)
          simp [↓go, hb', kk.1, kk.2.1, kk.2.2]
          simp only [List.set_cons_zero, List.set_cons_succ] at bx' sz'
          refine wk_ex (hJ _ C' rs' (by rw [encL_snoc]; exact bx') sz' kk ?_)
          unfold gtConst
          exact Got.bind hv1 (Got.bind hv2 Got.pure)
        have hbx := bx.box
        simp [↓go, hbx, hCf.1, hCf.2.1, hCf.2.2]
        refine ⟨S_l3GetU (n := 4) hl hw hb1 (by omega) bx.rd (fun v2 b2 fb2 H4 hu2 hb2 hv2 hrv2 => ?_), S_l3GetU (n := 4) hl hw hb1 (by omega) bx.rd (fun v2 b2 fb2 H4 hu2 hb2 hv2 hrv2 => ?_)⟩
        · exact key _ v2 b2 fb2 H4 hu2 hb2 hv2 (fun h' C' rs' b z k g => ⟨_, C', b2, fb2, rs', b, z, k, hb2, g, rfl⟩)
        · have hbx3 := (bx.upd hu2).box
          have ld : ∀ KK : KA, KK C H4 → loadM Tryz.prog 31 (.pt (H.length + 1) g3 0 (0 + 1)) H4 KK := fun KK hKK => by
            simp [↓go, hbx3, hCf.1, hCf.2.1, hCf.2.2]
            exact hKK
          exact ld _ (key _ v2 b2 fb2 H4 hu2 hb2 hv2 (fun h' C' rs' b z k g => ⟨_, C', b2, fb2, rs', b, z, k, hb2, g, rfl⟩))
      · rintro _ H3 ⟨x, C', a3, fa3, rs', bx2, hz2, kk, ha3, hx, rfl⟩
        simp [↓go]
        rw [w64 (by omega) (by omega)]
        refine wk_ex ⟨⟨acc ++ [x], C', a3, fa3, rs', by simp; omega, bx2, hz2, kk, ha3, ?_, by simp; omega⟩, by simp; omega⟩
        rw [List.length_append]; exact hgi.step hx
    intro hex
    have hfinC := hgi.fin hex
    clear hgi hal hex
    generalize acc = cs0 at *
    generalize C = C1 at *
    have hC1 := hCf
    clear hCf hsz
    refine S_l3GetU (n := 2) hl hw ha1 (by omega) bx.rd (fun fk a3 fa3 H4 hu ha3 hgfk hrfk => ?_)
    replace bx := bx.upd hu
    obtain ⟨hfk0, hfk1⟩ := hrfk
    clear hu
    refine lp_inv (fun s h' => ∃ (acc : List MFunc) (C : AVal) (a1 : Nat) (fa1 : Bool) (rs : List Nat), (acc.length : Int) ≤ fk ∧ BX kr H.length H h' (sR gr bs a1 fa1) H.length (.row g1 4 [.agg [nilS, nilS, nilS, nilS]]) (H.length + 1) g3 4 [C0, C1, C, nilS] [encL (encL i64) rs0, encL encConst cs0, encL encFunc acc, .sl []] rs ∧ rowSz h' C 4 ∧
      (C.flat = [C] ∧ C.c1 = true ∧ C.isAgg = false) ∧ a1 ≤ bs.length ∧ GL gtFunc (gtMany gtFunc fk.toNat (bs.drop a3)) fa3 fa1 acc (fk.toNat - acc.length) (bs.drop a1) ∧
      s = [.pt H.length g1 0 0, .pt (H.length + 1) g3 0 0, .pt kr gr 0 0, i64 (fk - acc.length)]) (fun s _ => natA (nthA s 3)) (Wk.refl ⟨[], nilS, a3, fa3, _, by simp; omega, bx, trivial, ⟨rfl, rfl, rfl⟩, ha3, .start, by simp⟩) ?_
    clear bx
    rintro _ H2 ⟨acc, C, a1, fa1, rs, hal, bx, hsz, hCf, ha1, hgi, rfl⟩
    have hrd0 := bx.rd
    unfold sR at hrd0
    simp [↓go, hrd0]
    refine (fun (hexit : (fa1 = true ∨ fk.toNat - acc.length = 0) → _) => ⟨fun hlt => ⟨fun hb => ?body_fk, fun hb => hexit (.inl hb)⟩, fun hge => hexit (.inr (by omega))⟩) ?exit_fk
    case body_fk =>
      have hsp : fk.toNat - acc.length = (fk.toNat - (acc.length + 1)) + 1 := by omega
      rw [hsp] at hgi
      have hgood : ∀ x a' fa', Got fa' fa1 (gtFunc (bs.drop a1)) x (bs.drop a') → GL gtFunc (gtMany gtFunc fk.toNat (bs.drop a3)) fa3 fa' (acc ++ [x]) (fk.toNat - (acc.length + 1)) (bs.drop a') := fun x a' fa' hx => hgi.step hx
      clear hgi
      refine jn_cut (fun s h' => ∃ (x : MFunc) (C' : AVal) (a2 : Nat) (fa2 : Bool) (rs : List Nat), BX kr H.length H h' (sR gr bs a2 fa2) H.length (.row g1 4 [.agg [nilS, nilS, nilS, nilS]]) (H.length + 1) g3 4 [C0, C1, C', nilS] [encL (encL i64) rs0, encL encConst cs0, encL encFunc (acc ++ [x]), .sl []] rs ∧ rowSz h' C' 4 ∧
        (C'.flat = [C'] ∧ C'.c1 = true ∧ C'.isAgg = false) ∧ a2 ≤ bs.length ∧ Got fa2 fa1 (gtFunc (bs.drop a1)) x (bs.drop a2) ∧ s = [.pt H.length g1 0 0, .pt (H.length + 1) g3 0 0, .pt kr gr 0 0, i64 (fk - acc.length)]) ?_ ?_
      · have hbx := bx.box
        have key : ∀ (J : KS) (x : MFunc) (a3 : Nat) (fa3 : Bool) (Hh l : AHeap) (y : AVal), BX kr H.length H Hh (sR gr bs a3 fa3) H.length (.row g1 4 [.agg [nilS, nilS, nilS, nilS]]) (H.length + 1) g3 4 [C0, C1, C, nilS] [encL (encL i64) rs0, encL encConst cs0, encL encFunc acc, .sl []] rs → rowSz Hh C 4 → Made Hh y (encFunc x) l →
            (∀ h' C' rs', BX kr H.length H h' (sR gr bs a3 fa3) H.length (.row g1 4 [.agg [nilS, nilS, nilS, nilS]]) (H.length + 1) g3 4 [C0, C1, C', nilS] [encL (encL i64) rs0, encL encConst cs0, encL encFunc (acc ++ [x]), .sl []] rs' → rowSz h' C' 4 → (C'.flat = [C'] ∧ C'.c1 = true ∧ C'.isAgg = false) → J [.pt H.length g1 0 0, .pt (H.length + 1) g3 0 0, .pt kr gr 0 0, i64 (fk - acc.length)] h') →
            buildSliceM Tryz.prog 32 1 [(0, y)] (Hh ++ l) fun x12 h12 => appendM Tryz.prog 32 32 C x12 h12 fun x13 h13 => fldAddrM Tryz.prog 35 (.pt (H.length + 1) g3 0 0) 2 h13 fun x14 h14 => storeM Tryz.prog 32 x14 x13 h14 fun x15 h15 => @wkM [.pt H.length g1 0 0, .pt (H.length + 1) g3 0 0, .pt kr gr 0 0, i64 (fk - acc.length)] h15 ⟨J⟩ := by
          intro J x a3 fa3 Hh l y b hz hm hJ
          obtain ⟨r1, oy, hb, -⟩ := hm
          obtain ⟨p0, p1, p2, rfl, hy0, hy1, hy2⟩ := own_func oy
          have hl9 := b.len
          simp [↓go, hy0.1, hy0.2.1, hy0.2.2, hy1.1, hy1.2.1, hy1.2.2, hy2.1, hy2.2.1, hy2.2.2]
          intro gq
          have e : Hh ++ (l ++ [AObj.row gq 4 [.agg [p0, i64 x.result, p1, p2]]]) = (Hh ++ l) ++ [AObj.row gq 4 [.agg [p0, i64 x.result, p1, p2]]] := by simp
          rw [e]
          replace hz := b.sz 2 rfl hz (H' := (Hh ++ l) ++ [AObj.row gq 4 [.agg [p0, i64 x.result, p1, p2]]]) (fun r hr => by rw [List.append_assoc]; exact List.getElem?_append_left (b.own.lt r hr))
          have hbr : ∀ r ∈ r1, H.length + 1 < r ∧ r ∉ rs := fun r hr => by
            have := hb r hr
            exact ⟨by omega, fun hm => by have := b.own.lt r hm; omega⟩
          refine ((b.grow (l := l)).grow (l := [AObj.row gq 4 [.agg [p0, i64 x.result, p1, p2]]])).app (e := 79) (s := 4) 2 (zs := acc.map encFunc) (y := .agg [p0, i64 x.result, p1, p2]) (ty := encFunc x) (ry := r1) rfl rfl hz (by simp) (by simp) (by simp) (by omega) (by simp) (by simp; omega) (by simp [maxLen]; omega) (get_midH (by simp)) rfl (by simp [AVal.whole, hy0.2.1, hy1.2.1, hy2.2.1]) oy.grow hbr (fun C' H' rs' hb' kk bx' sz' => ?_)
          simp [↓go, hb', kk.1, kk.2.1, kk.2.2]
          refine wk_ex (hJ _ C' rs' ?_ sz' kk)
          simp only [List.set_cons_zero, List.set_cons_succ] at bx'
          rw [encL_snoc]; exact bx'
        simp [↓go, hbx, hCf.1, hCf.2.1, hCf.2.2]
        refine ⟨O_l3GetFunc hl hw ha1 bx.rd (fun x a2 fa2 H4 y l hu ha2 hx hm => ?_), O_l3GetFunc hl hw ha1 bx.rd (fun x a2 fa2 H4 y l hu ha2 hx hm => ?_)⟩
        · exact key _ x a2 fa2 H4 l y (bx.upd hu) (bx.sz 2 rfl hsz (fun r hr => hu.oth r (bx.nkr r hr))) hm (fun h' C' rs' b z k => ⟨x, C', a2, fa2, rs', b, z, k, ha2, hx, rfl⟩)
        · have hbx3 := ((bx.upd hu).grow (l := l)).box
          have ld : ∀ KK : KA, KK C (H4 ++ l) → loadM Tryz.prog 32 (.pt (H.length + 1) g3 0 (0 + 2)) (H4 ++ l) KK := fun KK hKK => by
            simp [↓go, hbx3, hCf.1, hCf.2.1, hCf.2.2]
            exact hKK
          exact ld _ (key _ x a2 fa2 H4 l y (bx.upd hu) (bx.sz 2 rfl hsz (fun r hr => hu.oth r (bx.nkr r hr))) hm (fun h' C' rs' b z k => ⟨x, C', a2, fa2, rs', b, z, k, ha2, hx, rfl⟩))
      · rintro _ H3 ⟨x, C', a2, fa2, rs', bx2, hz2, kk, ha2, hx, rfl⟩
        simp [↓go]
        rw [w64 (by omega) (by omega)]
        refine wk_ex ⟨⟨acc ++ [x], C', a2, fa2, rs', by simp; omega, bx2, hz2, kk, ha2, ?_, by simp; omega⟩, by simp; omega⟩
        rw [List.length_append]; exact hgood x a2 fa2 hx
    · intro hex
      have hfinF := hgi.fin hex
      clear hgi hal hex
      generalize acc = fs0 at *
      generalize C = C2 at *
      have hC2 := hCf
      clear hCf hsz
      refine S_l3GetU (n := 2) hl hw ha1 (by omega) bx.rd (fun xk a4 fa4 H5 hu ha4 hgxk hrxk => ?_)
      replace bx := bx.upd hu
      obtain ⟨hxk0, hxk1⟩ := hrxk
      clear hu
      refine lp_inv (fun s h' => ∃ (acc : List MCert) (C : AVal) (a1 : Nat) (fa1 : Bool) (rs : List Nat), (acc.length : Int) ≤ xk ∧ BX kr H.length H h' (sR gr bs a1 fa1) H.length (.row g1 4 [.agg [nilS, nilS, nilS, nilS]]) (H.length + 1) g3 4 [C0, C1, C2, C] [encL (encL i64) rs0, encL encConst cs0, encL encFunc fs0, encL encCert acc] rs ∧ rowSz h' C 4 ∧
        (C.flat = [C] ∧ C.c1 = true ∧ C.isAgg = false) ∧ a1 ≤ bs.length ∧ GL gtCert (gtMany gtCert xk.toNat (bs.drop a4)) fa4 fa1 acc (xk.toNat - acc.length) (bs.drop a1) ∧
        s = [.pt H.length g1 0 0, .pt (H.length + 1) g3 0 0, i64 (xk - acc.length), .pt kr gr 0 0]) (fun s _ => natA (nthA s 2)) (Wk.refl ⟨[], nilS, a4, fa4, _, by simp; omega, bx, trivial, ⟨rfl, rfl, rfl⟩, ha4, .start, by simp⟩) ?_
      clear bx
      rintro _ H2 ⟨acc, C, a1, fa1, rs, hal, bx, hsz, hCf, ha1, hgi, rfl⟩
      have hrd0 := bx.rd
      unfold sR at hrd0
      simp [↓go, hrd0]
      refine (fun (hexit : (fa1 = true ∨ xk.toNat - acc.length = 0) → _) => ⟨fun hlt => ⟨fun hb => ?body_xk, fun hb => hexit (.inl hb)⟩, fun hge => hexit (.inr (by omega))⟩) ?exit_xk
      case body_xk =>
        have hsp : xk.toNat - acc.length = (xk.toNat - (acc.length + 1)) + 1 := by omega
        rw [hsp] at hgi
        refine S_l3GetU (n := 2) hl hw ha1 (by omega) bx.rd (fun v1 b1 fb1 H3 hu hb1 hv1 hrv1 => ?_)
        replace hsz := bx.sz 3 rfl hsz (fun r hr => hu.oth r (bx.nkr r hr))
        replace bx := bx.upd hu
        have hlen := bx.len
        have hnx : H3.length ∉ rs := fun hm => by have := bx.own.lt _ hm; omega
        have hxr : H3.length ≠ kr := by have := bx.kk; omega
        simp [↓go]
        intro gx
        have hx : (H3 ++ [AObj.row gx 4 [.agg [i64 v1, i64 0, i64 0, u32 0]]])[H3.length]? = some (.row gx 4 [.agg [i64 v1, i64 0, i64 0, u32 0]]) := by simp
        replace hsz := bx.sz 3 rfl hsz (H' := H3 ++ [AObj.row gx 4 [.agg [i64 v1, i64 0, i64 0, u32 0]]]) (fun r hr => List.getElem?_append_left (bx.own.lt r hr))
        replace bx := bx.grow (l := [AObj.row gx 4 [.agg [i64 v1, i64 0, i64 0, u32 0]]])
        have hx0 : H2.length ≤ H3.length := by rw [hu.len]; omega
        generalize H3 ++ [AObj.row gx 4 [.agg [i64 v1, i64 0, i64 0, u32 0]]] = H4 at *
        generalize H3.length = kx at *
        clear hu
        refine S_l3GetU (n := 2) hl hw hb1 (by omega) bx.rd (fun v2 b2 fb2 H5 hu hb2 hv2 hrv2 => ?_)
        replace hsz := bx.sz 3 rfl hsz (fun r hr => hu.oth r (bx.nkr r hr))
        replace bx := bx.upd hu
        replace hx := (hu.oth _ hxr).trans hx
        have hxl := (List.getElem?_eq_some_iff.1 hx).1
        simp [↓go, hx]
        replace hsz := bx.sz 3 rfl hsz (H' := H5.set kx (.row gx 4 [.agg [i64 v1, i64 v2, i64 0, u32 0]])) (fun r hr => List.getElem?_set_ne (fun e => hnx (by rw [e]; exact hr)))
        replace bx := bx.setx (o := .row gx 4 [.agg [i64 v1, i64 v2, i64 0, u32 0]]) hlen hnx
        replace hx : (H5.set kx (.row gx 4 [.agg [i64 v1, i64 v2, i64 0, u32 0]]))[kx]? = some (.row gx 4 [.agg [i64 v1, i64 v2, i64 0, u32 0]]) := List.getElem?_set_self hxl
        clear hu hxl
        generalize H5.set kx (.row gx 4 [.agg [i64 v1, i64 v2, i64 0, u32 0]]) = H6 at bx hx hsz ⊢
        refine S_l3GetU (n := 1) hl hw hb2 (by omega) bx.rd (fun v3 b3 fb3 H7 hu hb3 hv3 hrv3 => ?_)
        replace hsz := bx.sz 3 rfl hsz (fun r hr => hu.oth r (bx.nkr r hr))
        replace bx := bx.upd hu
        replace hx := (hu.oth _ hxr).trans hx
        have hxl := (List.getElem?_eq_some_iff.1 hx).1
        simp [↓go, hx]
        replace hsz := bx.sz 3 rfl hsz (H' := H7.set kx (.row gx 4 [.agg [i64 v1, i64 v2, i64 v3, u32 0]])) (fun r hr => List.getElem?_set_ne (fun e => hnx (by rw [e]; exact hr)))
        replace bx := bx.setx (o := .row gx 4 [.agg [i64 v1, i64 v2, i64 v3, u32 0]]) hlen hnx
        replace hx : (H7.set kx (.row gx 4 [.agg [i64 v1, i64 v2, i64 v3, u32 0]]))[kx]? = some (.row gx 4 [.agg [i64 v1, i64 v2, i64 v3, u32 0]]) := List.getElem?_set_self hxl
        clear hu hxl
        generalize H7.set kx (.row gx 4 [.agg [i64 v1, i64 v2, i64 v3, u32 0]]) = H8 at bx hx hsz ⊢
        refine S_l3GetU (n := 4) hl hw hb3 (by omega) bx.rd (fun v4 b4 fb4 H9 hu hb4 hv4 hrv4 => ?_)
        replace hsz := bx.sz 3 rfl hsz (fun r hr => hu.oth r (bx.nkr r hr))
        replace bx := bx.upd hu
        replace hx := (hu.oth _ hxr).trans hx
        have hxl := (List.getElem?_eq_some_iff.1 hx).1
        simp [↓go, hx]
        replace hsz := bx.sz 3 rfl hsz (H' := H9.set kx (.row gx 4 [.agg [i64 v1, i64 v2, i64 v3, (u32 (IntKind.u32.wrap v4))]])) (fun r hr => List.getElem?_set_ne (fun e => hnx (by rw [e]; exact hr)))
        replace bx := bx.setx (o := .row gx 4 [.agg [i64 v1, i64 v2, i64 v3, (u32 (IntKind.u32.wrap v4))]]) hlen hnx
        replace hx : (H9.set kx (.row gx 4 [.agg [i64 v1, i64 v2, i64 v3, (u32 (IntKind.u32.wrap v4))]]))[kx]? = some (.row gx 4 [.agg [i64 v1, i64 v2, i64 v3, (u32 (IntKind.u32.wrap v4))]]) := List.getElem?_set_self hxl
        clear hu hxl
        have hll : (H9.set kx (.row gx 4 [.agg [i64 v1, i64 v2, i64 v3, (u32 (IntKind.u32.wrap v4))]])).length = H9.length := by simp
        generalize H9.set kx (.row gx 4 [.agg [i64 v1, i64 v2, i64 v3, (u32 (IntKind.u32.wrap v4))]]) = H10 at bx hx hsz hll ⊢
        have hbx := bx.box
        simp [↓go, hbx, hx, hCf.1, hCf.2.1, hCf.2.2]
        intro gq
        have hgi2 := hgi.step (b2 := fb4) (r' := bs.drop b4) (v := ⟨v1, v2, v3, IntKind.u32.wrap v4⟩) (by unfold gtCert; exact Got.bind hv1 (Got.bind hv2 (Got.bind hv3 (Got.bind hv4 Got.pure))))
        have hszX := bx.sz 3 rfl hsz (H' := H10 ++ [AObj.row gq 4 [encCert ⟨v1, v2, v3, IntKind.u32.wrap v4⟩]]) (fun r hr => List.getElem?_append_left (bx.own.lt r hr))
        refine (bx.grow (l := [AObj.row gq 4 [encCert ⟨v1, v2, v3, IntKind.u32.wrap v4⟩]])).app (e := 83) (s := 4) 3 (zs := acc.map encCert) (y := encCert ⟨v1, v2, v3, IntKind.u32.wrap v4⟩) (ty := encCert ⟨v1, v2, v3, IntKind.u32.wrap v4⟩) (ry := []) rfl rfl hszX (by simp) (by simp) (by simp) (by omega) (by simp) (by simp; omega) (by simp [maxLen]; omega) (get_midH hll) rfl rfl (owCert _ _) (by simp) (fun C' H' rs' hb' kk bx' sz' => ?_)
        simp [↓go, hb', kk.1, kk.2.1, kk.2.2]
        rw [w64 (by omega) (by omega)]
        simp only [List.set_cons_zero, List.set_cons_succ] at bx' sz'
        refine wk_ex ⟨⟨acc ++ [⟨v1, v2, v3, IntKind.u32.wrap v4⟩], C', b4, fb4, rs', by simp; omega, ?_, sz', kk, hb4, ?_, ?_⟩, by simp; omega⟩
        · rw [encL_snoc]; exact bx'
        · rw [List.length_append]; exact hgi2
        · simp; omega
      intro hex
      have hfinX := hgi.fin hex
      have hbx := bx.box
      have hone := bx.one
      have hkl := bx.len
      have hkk := bx.kk
      have hself : ∀ o : AObj, (H2.set H.length o)[H.length]? = some o := fun o => List.getElem?_set_self (by omega)
      simp [↓go, hbx, hone, hself, hC0.1, hC0.2.1, hC0.2.2, hC1.1, hC1.2.1, hC1.2.2, hC2.1, hC2.2.1, hC2.2.2, hCf.1, hCf.2.1, hCf.2.2]
      have o1 : Own (H2.set H.length (.row g1 4 [.agg [C0, C1, C2, C]])) [.agg [C0, C1, C2, C]] [encProgram ⟨rs0, cs0, fs0, acc⟩] rs := by
        rw [encProgram_eq]
        exact Own.agg_mk (bx.own.frame (fun r hr => List.getElem?_set_ne (fun e => by have := bx.lo r hr; omega)))
      obtain ⟨H', l, e, hlen, hupd⟩ := fin_split (kr := kr) (n0 := H.length) (H0 := H) (Hf := H2.set H.length (.row g1 4 [.agg [C0, C1, C2, C]])) (ro := sR gr bs a1 fa1) rfl (fun r hr hne => by rw [List.getElem?_set_ne (by omega)]; exact bx.pre r hr hne) (by rw [List.getElem?_set_ne (by omega)]; exact bx.rd) hkk.1 (by simp; omega)
      rw [e] at o1 ⊢
      refine wk_of (Wk.made o1 (fun r hr => by have := bx.lo r hr; omega) (fun l' hm => q ⟨rs0, cs0, fs0, acc⟩ a1 fa1 H' _ l' hupd ha1 ?_ hm))
      unfold gtProg gtCount
      exact Got.bind hfinR (Got.bind (Got.bind hgck hfinC) (Got.bind (Got.bind hgfk hfinF) (Got.bind (Got.bind hgxk hfinX) Got.pure)))
end Go.Proofs.YtkfpoagnchahkaaGreat.A
