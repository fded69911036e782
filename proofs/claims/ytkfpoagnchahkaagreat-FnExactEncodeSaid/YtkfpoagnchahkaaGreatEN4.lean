/- Of this session: over the abstract machine. -/
import Derived.Test.YtkfpoagnchahkaaGreatProg
import Derived.Test.YtkfpoagnchahkaaGreatA
import Derived.Test.YtkfpoagnchahkaaGreatB
import Derived.Test.YtkfpoagnchahkaaGreatD
import Derived.Test.YtkfpoagnchahkaaGreatT
import Derived.Test.YtkfpoagnchahkaaGreatO
import Derived.Test.YtkfpoagnchahkaaGreatOT
import Derived.Test.YtkfpoagnchahkaaGreatP1
import Derived.Test.YtkfpoagnchahkaaGreatP2
import Derived.Test.YtkfpoagnchahkaaGreatP3
import Derived.Test.YtkfpoagnchahkaaGreatP4
import Derived.Test.YtkfpoagnchahkaaGreatP5
import Derived.Test.YtkfpoagnchahkaaGreatEN0
import Derived.Test.YtkfpoagnchahkaaGreatEN1
import Derived.Test.YtkfpoagnchahkaaGreatEN2
import Derived.Test.YtkfpoagnchahkaaGreatEN3
namespace Go.Proofs.YtkfpoagnchahkaaGreat.A
open Go Go.RowKit
set_option linter.unusedVariables false
set_option linter.unusedSimpArgs false
set_option maxRecDepth 100000
set_option maxHeartbeats 1000000
theorem S_put {h l : AHeap} {Q : KA} {gw g n : Nat} {v : Int} {bs : List Int} (hn : 1 ≤ n ∧ n ≤ 8) (hl : bs.length ≤ 549755813888) (q : ∀ y g2 bs', bs' = bs ++ putB v n → Q y (h ++ (.row g2 1 (bs'.map u8) :: .row gw 1 [.agg [.rf h.length g2 0 bs'.length]] :: l))) :
    @clM Tryz.prog 43 [.pt (h.length + 1) gw 0 0, i64 v, i64 n] (h ++ (.row g 1 (bs.map u8) :: .row gw 1 [.agg [.rf h.length g 0 bs.length]] :: l)) ⟨Q⟩ := by
  refine cl_of fn_impl_writer_put (D_impl_writer_put_of ?_)
  unfold D_impl_writer_put
  simp [↓go]
  have key : ∀ g2 bs', bs' = bs ++ putB v n → nilChkM (.pt (h.length + 1) gw 0 0) (h ++ (.row g2 1 (bs'.map u8) :: .row gw 1 [.agg [.rf h.length g 0 bs.length]] :: l)) fun x6 h6 => fldAddrM Tryz.prog 94 x6 0 h6 fun x7 h7 => storeM Tryz.prog 29 x7 (.rf h.length g2 0 bs'.length) h7 fun x8 h8 => retW0 h8 Q := fun g2 bs' e => by
    simp [↓go]
    exact retW0_ex (q _ g2 bs' e)
  refine ⟨S_implPut hn (app8 (by rw [putB_len]; omega) (fun g2 bs' e => key g2 bs' e)), S_implPut hn ?_⟩
  simp [↓go]
  refine ⟨by omega, by unfold maxLen; omega, fun g2 => ?_⟩
  rw [List.take_of_length_le (by simp)]
  have q2 := q (.tup []) g2 _ rfl
  exact retW0_ex (by simpa using q2)
theorem S_wtypes {h l : AHeap} {Q : KA} {gw g : Nat} {xs bs : List Int} (hl : bs.length ≤ 100000000) (hx : xs.length ≤ 100000000) (q : ∀ y g2 bs', bs' = bs ++ putL 1 xs → Q y (h ++ (.row g2 1 (bs'.map u8) :: .row gw 1 [.agg [.rf h.length g2 0 bs'.length]] :: l))) :
    @clM Tryz.prog 44 [.pt (h.length + 1) gw 0 0, encL i64 xs] (h ++ (.row g 1 (bs.map u8) :: .row gw 1 [.agg [.rf h.length g 0 bs.length]] :: l)) ⟨Q⟩ := by
  refine cl_of fn_impl_writer_types (D_impl_writer_types_of ?_)
  unfold D_impl_writer_types
  simp [↓go]
  refine lp_inv (fun s h' => ∃ (i g : Nat) (bk : List Int), i ≤ xs.length ∧ bk = bs ++ putL 1 (xs.take i) ∧ h' = h ++ (.row g 1 (bk.map u8) :: .row gw 1 [.agg [.rf h.length g 0 bk.length]] :: l) ∧ s = [i64 i, .pt (h.length + 1) gw 0 0, encL i64 xs, i64 xs.length]) (fun s _ => xs.length - natA (nthA s 0)) (Wk.refl ⟨0, g, bs, by omega, by simp [putL], rfl, rfl⟩) ?_
  rintro _ _ ⟨i, g2, bk, hi, hbk, rfl, rfl⟩
  have hlk : bk.length ≤ 200000000 := by rw [hbk, List.length_append, putL_len, List.length_take]; omega
  simp [↓go]
  refine ⟨fun hlt => ?_, fun hge => ?_⟩
  · obtain ⟨x, hx⟩ : ∃ x, xs[i]? = some x := ⟨_, List.getElem?_eq_getElem hlt⟩
    obtain ⟨_, hxl⟩ := List.getElem?_eq_some_iff.1 hx
    simp [↓go, hx, hxl, hlt]
    refine S_put (n := 1) (by omega) (by omega) (fun y g3 b1 e1 => ?_)
    simp [↓go]
    rw [w64 (by omega) (by omega)]
    refine wk_ex ⟨⟨i + 1, g3, b1, by omega, ?_, rfl, rfl⟩, by simp; omega⟩
    rw [e1, hbk, putL_take hx]; simp
  · obtain rfl : i = xs.length := by omega
    rw [List.take_length] at hbk
    exact retW0_ex (q _ _ _ hbk)
theorem O_implEncode {p : MProgram} {h : AHeap} {Q : KA} (hs : szProgram p ≤ 1048576) (q : ∀ y l, Made h y (encL u8 (encode p)) l → Q y (h ++ l)) : @clM Tryz.prog 9 [encProgram p] h ⟨Q⟩ := by
  refine cl_of fn_impl_Encode (D_impl_Encode_of ?_)
  unfold D_impl_Encode
  have hsf := small_fld hs
  obtain ⟨z2, z3, z4, z5, t1, t2, t3, t4⟩ := enc_len hs
  simp [↓go]
  refine S_fault hs ?_
  unfold encode at q
  unfold faultV
  by_cases h0 : progFault p = 0
  · rw [if_pos h0] at q ⊢
    have h3 := fault_regs h0
    simp [↓go, noErr]
    intro g gw
    refine S_put (n := 2) (v := 1) (bs := [80, 76, 67, 49]) (l := []) (by omega) (by simp) (fun y g2 bs hbs => ?_)
    have hl6 : bs = enc1 := hbs
    simp [↓go]
    clear hbs g
    refine lp_inv (fun s h' => ∃ (i g : Nat) (bs : List Int), i ≤ p.regions.length ∧ bs = enc1 ++ (p.regions.take i).flatMap encReg ∧ h' = h ++ [.row g 1 (bs.map u8), .row gw 1 [.agg [.rf h.length g 0 bs.length]]] ∧ s = [.pt (h.length + 1) gw 0 0, .fp (encProgram p), i64 i, encL (encL i64) p.regions, i64 p.regions.length]) (fun s _ => p.regions.length - natA (nthA s 2)) (Wk.refl ⟨0, g2, bs, by omega, by simp [hl6], rfl, rfl⟩) ?_
    clear hl6 g2 bs
    rintro _ _ ⟨i, g, bs, hi, hbs, rfl, rfl⟩
    have hlb : bs.length ≤ 10000000 := by
      have := t1 i
      rw [hbs, List.length_append, show enc1.length = 6 by simp [enc1]]; omega
    simp [↓go]
    refine ⟨fun hlt => ?_, fun hge => ?_⟩
    · obtain ⟨r, hr⟩ : ∃ r, p.regions[i]? = some r := ⟨_, List.getElem?_eq_getElem (by omega)⟩
      obtain ⟨hrl, hrr⟩ := List.getElem?_eq_some_iff.1 hr
      have hrs := small_r hs hr
      simp [↓go, hr, hrr, hlt]
      refine S_put (n := 2) (l := []) (by omega) (by omega) (fun y g2 b1 e1 => ?_)
      have l1 : b1.length = bs.length + 2 := by rw [e1]; simp
      simp [↓go, hr, hrr]
      refine S_wtypes (l := []) (by omega) (by omega) (fun y g3 b2 e2 => ?_)
      simp [↓go]
      rw [w64 (by omega) (by omega)]
      refine wk_ex ⟨⟨i + 1, g3, b2, by omega, ?_, rfl, rfl⟩, by simp; omega⟩
      rw [e2, e1, hbs, flat_take hr]
      simp [encReg]
    obtain rfl : i = p.regions.length := by omega
    rw [List.take_length] at hbs
    refine S_put (n := 2) (l := []) (by omega) (by omega) (fun y g2 b1 e1 => ?_)
    replace e1 : b1 = enc2 p := by rw [e1, hbs]; rfl
    clear hbs hlb
    simp [↓go]
    refine lp_inv (fun s h' => ∃ (i g : Nat) (bs : List Int), i ≤ p.consts.length ∧ bs = enc2 p ++ (p.consts.take i).flatMap encCon ∧ h' = h ++ [.row g 1 (bs.map u8), .row gw 1 [.agg [.rf h.length g 0 bs.length]]] ∧ s = [.pt (h.length + 1) gw 0 0, .fp (encProgram p), i64 i, encL encConst p.consts, i64 p.consts.length]) (fun s _ => p.consts.length - natA (nthA s 2)) (Wk.refl ⟨0, g2, b1, by omega, by simp [e1], rfl, rfl⟩) ?_
    clear e1 g2 b1
    rintro _ _ ⟨i, g, bs, hi, hbs, rfl, rfl⟩
    have hlb : bs.length ≤ 20000000 := by
      have := t2 i
      rw [hbs, List.length_append]; omega
    simp [↓go]
    refine ⟨fun hlt => ?_, fun hge => ?_⟩
    · obtain ⟨c, hc⟩ : ∃ c, p.consts[i]? = some c := ⟨_, List.getElem?_eq_getElem hlt⟩
      obtain ⟨hcl, hcc⟩ := List.getElem?_eq_some_iff.1 hc
      simp [↓go, hc, hcc, hlt]
      intro gc
      refine S_put (n := 1) (l := [_]) (by omega) (by omega) (fun y g2 b1 e1 => ?_)
      have l1 : b1.length = bs.length + 1 := by rw [e1]; simp
      simp [↓go, hc, hcc, hlt]
      refine S_put (n := 4) (l := [_]) (by omega) (by omega) (fun y g3 b2 e2 => ?_)
      simp [↓go]
      rw [w64 (by omega) (by omega)]
      refine wk_pre (l := [_, _]) (m := [_]) ?_
      refine ⟨⟨i + 1, g3, b2, by omega, ?_, rfl, rfl⟩, by simp; omega⟩
      rw [e2, e1, hbs, flat_take hc]
      simp [encCon]
    obtain rfl : i = p.consts.length := by omega
    rw [List.take_length] at hbs
    refine S_put (n := 2) (l := []) (by omega) (by omega) (fun y g2 b1 e1 => ?_)
    replace e1 : b1 = enc3 p := by rw [e1, hbs]; rfl
    clear hbs hlb
    simp [↓go]
    refine lp_inv (fun s h' => ∃ (i g : Nat) (bs : List Int), i ≤ p.funcs.length ∧ bs = enc3 p ++ (p.funcs.take i).flatMap encFun ∧ h' = h ++ [.row g 1 (bs.map u8), .row gw 1 [.agg [.rf h.length g 0 bs.length]]] ∧ s = [.pt (h.length + 1) gw 0 0, .fp (encProgram p), i64 i, i64 p.funcs.length]) (fun s _ => p.funcs.length - natA (nthA s 2)) (Wk.refl ⟨0, g2, b1, by omega, by simp [e1], rfl, rfl⟩) ?_
    clear e1 g2 b1
    rintro _ _ ⟨i, g, bs, hi, hbs, rfl, rfl⟩
    have hlb : bs.length ≤ 30000000 := by
      have := t3 i
      rw [hbs, List.length_append]; omega
    simp [↓go]
    refine ⟨fun hlt => ?_, fun hge => ?_⟩
    · obtain ⟨f, hf⟩ : ∃ f, p.funcs[i]? = some f := ⟨_, List.getElem?_eq_getElem hlt⟩
      obtain ⟨hfl, hff⟩ := List.getElem?_eq_some_iff.1 hf
      have hfs := small_ff (small_f hs hf)
      simp [↓go, hf, hff, hlt]
      refine S_put (n := 1) (l := []) (by omega) (by omega) (fun y g2 b1 e1 => ?_)
      have l1 : b1.length = bs.length + 1 := by rw [e1]; simp
      simp [↓go, hf, hff, hlt]
      refine S_wtypes (l := []) (by omega) (by omega) (fun y g3 b2 e2 => ?_)
      have l2 : b2.length = b1.length + f.params.length := by rw [e2]; simp [putL_len]
      simp [↓go, hf, hff, hlt]
      refine S_put (n := 1) (l := []) (by omega) (by omega) (fun y g4 b3 e3 => ?_)
      have l3 : b3.length = b2.length + 1 := by rw [e3]; simp
      simp [↓go, hf, hff, hlt]
      refine S_put (n := 1) (l := []) (by omega) (by omega) (fun y g5 b4 e4 => ?_)
      have l4 : b4.length = b3.length + 1 := by rw [e4]; simp
      simp [↓go, hf, hff, hlt]
      refine S_wtypes (l := []) (by omega) (by omega) (fun y g6 b5 e5 => ?_)
      have l5 : b5.length = b4.length + f.locals.length := by rw [e5]; simp [putL_len]
      simp [↓go, hf, hff, hlt]
      refine S_put (n := 2) (l := []) (by omega) (by omega) (fun y g7 b6 e6 => ?_)
      have l6 : b6.length = b5.length + 2 := by rw [e6]; simp
      have hb6 : b6 = bs ++ encHead f := by rw [e6, e5, e4, e3, e2, e1]; simp [encHead]
      have hb6l : b6.length ≤ 40000000 := by omega
      clear e1 e2 e3 e4 e5 e6 l1 l2 l3 l4 l5 l6
      have htc := flat_take_le encIns_le f.code
      rw [szL_zero] at htc
      simp [↓go, hf, hff, hlt]
      refine lp_inv (fun s h' => ∃ (k g : Nat) (bk : List Int), k ≤ f.code.length ∧ bk = b6 ++ (f.code.take k).flatMap encIns ∧ h' = h ++ [.row g 1 (bk.map u8), .row gw 1 [.agg [.rf h.length g 0 bk.length]]] ∧ s = [.pt (h.length + 1) gw 0 0, .fp (encProgram p), i64 p.funcs.length, i64 i, i64 k, encL encInstr f.code, i64 f.code.length]) (fun s _ => f.code.length - natA (nthA s 4)) (Wk.refl ⟨0, g7, b6, by omega, by simp, rfl, rfl⟩) ?_
      clear g7 g6 g5 g4 g3 g2
      rintro _ _ ⟨k, g2, bk, hk, hbk, rfl, rfl⟩
      have hlk : bk.length ≤ 50000000 := by
        have := htc k
        rw [hbk, List.length_append]; omega
      simp [↓go]
      refine ⟨fun hlk1 => ?_, fun hlk1 => ?_⟩
      · obtain ⟨x, hx⟩ : ∃ x, f.code[k]? = some x := ⟨_, List.getElem?_eq_getElem hlk1⟩
        obtain ⟨hxl, hxx⟩ := List.getElem?_eq_some_iff.1 hx
        simp [↓go, hx, hxx, hlk1]
        intro gx
        refine S_put (n := 1) (l := [_]) (by omega) (by omega) (fun y g3 b1 e1 => ?_)
        have l1 : b1.length = bk.length + 1 := by rw [e1]; simp
        simp [↓go, hx, hxx, hlk1]
        refine S_put (n := 1) (l := [_]) (by omega) (by omega) (fun y g4 b2 e2 => ?_)
        have l2 : b2.length = b1.length + 1 := by rw [e2]; simp
        simp [↓go, hx, hxx, hlk1]
        refine S_put (n := 2) (l := [_]) (by omega) (by omega) (fun y g5 b3 e3 => ?_)
        have l3 : b3.length = b2.length + 2 := by rw [e3]; simp
        simp [↓go, hx, hxx, hlk1]
        refine S_put (n := 4) (l := [_]) (by omega) (by omega) (fun y g6 b4 e4 => ?_)
        simp [↓go]
        rw [w64 (by omega) (by omega)]
        refine wk_pre (l := [_, _]) (m := [_]) ?_
        refine ⟨⟨k + 1, g6, b4, by omega, ?_, rfl, rfl⟩, by simp; omega⟩
        rw [e4, e3, e2, e1, hbk, flat_take hx]
        simp [encIns]
      obtain rfl : k = f.code.length := by omega
      rw [List.take_length] at hbk
      rw [w64 (by omega) (by omega)]
      refine wk_ex ⟨⟨i + 1, g2, bk, by omega, ?_, rfl, rfl⟩, by simp; omega⟩
      rw [hbk, hb6, hbs, flat_take hf]
      simp [encFun]
    obtain rfl : i = p.funcs.length := by omega
    rw [List.take_length] at hbs
    refine S_put (n := 2) (l := []) (by omega) (by omega) (fun y g2 b1 e1 => ?_)
    replace e1 : b1 = enc4 p := by rw [e1, hbs]; rfl
    clear hbs hlb
    simp [↓go]
    refine lp_inv (fun s h' => ∃ (i g : Nat) (bs : List Int), i ≤ p.certs.length ∧ bs = enc4 p ++ (p.certs.take i).flatMap encCer ∧ h' = h ++ [.row g 1 (bs.map u8), .row gw 1 [.agg [.rf h.length g 0 bs.length]]] ∧ s = [.pt (h.length + 1) gw 0 0, i64 i, encL encCert p.certs, i64 p.certs.length]) (fun s _ => p.certs.length - natA (nthA s 1)) (Wk.refl ⟨0, g2, b1, by omega, by simp [e1], rfl, rfl⟩) ?_
    clear e1 g2 b1
    rintro _ _ ⟨i, g, bs, hi, hbs, rfl, rfl⟩
    have hlb : bs.length ≤ 50000000 := by
      have := t4 i
      rw [hbs, List.length_append]; omega
    simp [↓go]
    refine ⟨fun hlt => ?_, fun hge => ?_⟩
    · obtain ⟨x, hx⟩ : ∃ x, p.certs[i]? = some x := ⟨_, List.getElem?_eq_getElem hlt⟩
      obtain ⟨hxl, hxx⟩ := List.getElem?_eq_some_iff.1 hx
      simp [↓go, hx, hxx, hlt]
      intro gx
      refine S_put (n := 2) (l := [_]) (by omega) (by omega) (fun y g3 b1 e1 => ?_)
      have l1 : b1.length = bs.length + 2 := by rw [e1]; simp
      simp [↓go, hx, hxx, hlt]
      refine S_put (n := 2) (l := [_]) (by omega) (by omega) (fun y g4 b2 e2 => ?_)
      have l2 : b2.length = b1.length + 2 := by rw [e2]; simp
      simp [↓go, hx, hxx, hlt]
      refine S_put (n := 1) (l := [_]) (by omega) (by omega) (fun y g5 b3 e3 => ?_)
      have l3 : b3.length = b2.length + 1 := by rw [e3]; simp
      simp [↓go, hx, hxx, hlt]
      refine S_put (n := 4) (l := [_]) (by omega) (by omega) (fun y g6 b4 e4 => ?_)
      simp [↓go]
      rw [w64 (by omega) (by omega)]
      refine wk_pre (l := [_, _]) (m := [_]) ?_
      refine ⟨⟨i + 1, g6, b4, by omega, ?_, rfl, rfl⟩, by simp; omega⟩
      rw [e4, e3, e2, e1, hbs, flat_take hx]
      simp [encCer]
    obtain rfl : i = p.certs.length := by omega
    rw [List.take_length] at hbs
    replace hbs : bs = encBody p := hbs
    have ob : Own (h ++ [.row g 1 (bs.map u8), .row gw 1 [.agg [.rf h.length g 0 bs.length]]]) [.rf h.length g 0 bs.length] [encL u8 bs] [h.length] := Own.rf_mk (s := 1) (ys := bs.map u8) (by simp) (by simp) (Own.map (fun x => .v rfl .nil) _) (by simp)
    have hok := okB_body p
    rw [← hbs] at hok
    refine cl_borrow0 (.int .u32 (crcOf bs)) (ts := [encL u8 bs]) rfl (bor1 (.inr ⟨_, ob⟩)) (S_implCrc (by omega) hok ⟨rfl, rfl⟩) ?_
    simp [↓go]
    refine S_put (n := 4) (l := []) (by omega) (by omega) (fun y g2 b1 e1 => ?_)
    rw [← hbs, ← e1] at q
    simp [↓go]
    exact wk_of (Wk.made (rs := [h.length]) (Own.rf_mk (s := 1) (ys := b1.map u8) (by simp) (by simp) (Own.map (fun x => .v rfl .nil) _) (by simp)) (by simp) (fun l' hm => q _ _ hm))
  · rw [if_neg h0] at q ⊢
    simp [↓go, errV]
    have := q nilS [] ⟨[], .nl .nil, by simp, by simp⟩
    rw [List.append_nil] at this
    exact retW_ex this
theorem flat_le2 {α : Type} {f : α → List Int} {c : Nat} : ∀ {xs : List α}, (∀ (i : Nat) (x : α), xs[i]? = some x → (f x).length ≤ c) → (xs.flatMap f).length ≤ c * xs.length
  | [], _ => by simp
  | x :: xs, h => by
    have h1 := flat_le2 (xs := xs) (fun i y hy => h (i + 1) y hy)
    have h2 := h 0 x rfl
    rw [List.flatMap_cons, List.length_append, List.length_cons, Nat.mul_succ]; omega
theorem fault_all {p : MProgram} (h : progFault p = 0) : regionsOK p = true ∧ constsOK p = true ∧ funcsOK p = true ∧ certsOK p = true := by
  unfold progFault at h
  cases h1 : regionsOK p <;> cases h2 : constsOK p <;> cases h3 : funcsOK p <;> cases h4 : codeOK p <;> cases h5 : certsOK p <;> simp [h1, h2, h3, h4, h5] at h ⊢
theorem encode_len (p : MProgram) : (encode p).length ≤ 1048576 := by
  unfold encode
  split
  · rename_i h0
    obtain ⟨hr, hc, hf, he⟩ := fault_all h0
    unfold regionsOK at hr
    unfold constsOK at hc
    unfold funcsOK at hf
    unfold certsOK at he
    simp only [Bool.and_eq_true, decide_eq_true_eq, allN_iff] at hr hc hf he
    have a1 := flat_le2 (f := encReg) (c := 258) (xs := p.regions) (fun i x hx => by
      have := hr.2 i (by have := (List.getElem?_eq_some_iff.1 hx).1; omega)
      rw [getD_of hx] at this
      unfold regionOK at this
      simp only [Bool.and_eq_true, decide_eq_true_eq] at this
      unfold encReg
      rw [List.length_append, putB_len, putL_len]; omega)
    have a2 := flat_le2 (f := encCon) (c := 5) (xs := p.consts) (fun i x hx => by simp [encCon])
    have a3 := flat_le2 (f := encFun) (c := 8300) (xs := p.funcs) (fun i x hx => by
      have := hf.2 i (by have := (List.getElem?_eq_some_iff.1 hx).1; omega)
      rw [getD_of hx] at this
      unfold funcOK at this
      simp only [Bool.and_eq_true, decide_eq_true_eq] at this
      obtain ⟨⟨_, b1⟩, _, _, _, ⟨_, b2⟩, _⟩ := this
      have h1 := encHead_le x
      have h2 := flat_le2 (f := encIns) (c := 8) (xs := x.code) (fun i y hy => by simp [encIns])
      unfold encFun
      rw [List.length_append]; omega)
    have a4 := flat_le2 (f := encCer) (c := 9) (xs := p.certs) (fun i x hx => by simp [encCer])
    have e1 : enc1.length = 6 := by simp [enc1]
    unfold encBody enc4 enc3 enc2
    simp only [List.length_append, putB_len, e1]
    omega
  · simp
end Go.Proofs.YtkfpoagnchahkaaGreat.A
