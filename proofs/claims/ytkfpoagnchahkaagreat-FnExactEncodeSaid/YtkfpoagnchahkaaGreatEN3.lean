/- Of this session: over the abstract machine. -/
import Derived.Test.YtkfpoagnchahkaaGreatProg
import Derived.Test.YtkfpoagnchahkaaGreatA
import Derived.Test.YtkfpoagnchahkaaGreatB
import Derived.Test.YtkfpoagnchahkaaGreatD
import Derived.Test.YtkfpoagnchahkaaGreatT
import Derived.Test.YtkfpoagnchahkaaGreatO
import Derived.Test.YtkfpoagnchahkaaGreatOT
import Derived.Test.YtkfpoagnchahkaaGreatP1
import Derived.Test.YtkfpoagnchahkaaGreatP2
import Derived.Test.YtkfpoagnchahkaaGreatP3
import Derived.Test.YtkfpoagnchahkaaGreatP4
import Derived.Test.YtkfpoagnchahkaaGreatP5
import Derived.Test.YtkfpoagnchahkaaGreatEN0
import Derived.Test.YtkfpoagnchahkaaGreatEN1
import Derived.Test.YtkfpoagnchahkaaGreatEN2
namespace Go.Proofs.YtkfpoagnchahkaaGreat.A
open Go Go.RowKit
set_option linter.unusedVariables false
set_option linter.unusedSimpArgs false
set_option maxRecDepth 100000
set_option maxHeartbeats 1000000
theorem set_self2 {H : AHeap} {k : Nat} {o : AObj} (h : H[k]? = some o) : H.set k o = H := by
  apply List.ext_getElem?
  intro i
  rw [List.getElem?_set]
  split
  · rename_i e
    subst e
    split
    · exact h.symm
    · rename_i hl; rw [List.getElem?_eq_none (by omega)] at h; cases h
  · rfl
theorem putL_take {n : Nat} {xs : List Int} {i : Nat} {x : Int} (h : xs[i]? = some x) : putL n (xs.take (i + 1)) = putL n (xs.take i) ++ putB x n := flat_take h _
theorem S_l3Put {n : Nat} {xs bs : List Int} {kb g : Nat} {H : AHeap} {Q : KA} (hn : 1 ≤ n ∧ n ≤ 8) (hb : H[kb]? = some (.row g 1 (bs.map u8))) (hl : bs.length + 8 * xs.length ≤ 1099511627776)
    (q : ∀ g2, Q (.rf kb g2 0 (bs ++ putL n xs).length) (H.set kb (.row g2 1 ((bs ++ putL n xs).map u8)))) : @clM Tryz.prog 36 [.rf kb g 0 bs.length, i64 n, encL i64 xs] H ⟨Q⟩ := by
  refine cl_of fn_spec_l3Put (D_spec_l3Put_of ?_)
  unfold D_spec_l3Put
  have hk := (List.getElem?_eq_some_iff.1 hb).1
  refine lp_inv (fun s h' => ∃ (i g2 : Nat), i ≤ xs.length ∧ h' = H.set kb (.row g2 1 ((bs ++ putL n (xs.take i)).map u8)) ∧ s = [.rf kb g2 0 (bs ++ putL n (xs.take i)).length, i64 i, i64 n, encL i64 xs]) (fun s _ => xs.length - natA (nthA s 1)) (Wk.refl ⟨0, g, by omega, ?_, ?_⟩) ?_
  · simp [putL]; exact (set_self2 hb).symm
  · simp [putL]
  rintro _ _ ⟨i, g2, hi, rfl, rfl⟩
  simp [↓go]
  refine ⟨fun hlt => ?_, fun hge => ?_⟩
  · obtain ⟨x, hx⟩ : ∃ x, xs[i]? = some x := ⟨_, List.getElem?_eq_getElem hlt⟩
    obtain ⟨_, hxl⟩ := List.getElem?_eq_some_iff.1 hx
    have hll := putL_len n (xs.take i)
    have hlm : n * (xs.take i).length ≤ 8 * xs.length := Nat.mul_le_mul hn.2 (by simp; omega)
    have htk := putL_take (n := n) hx
    generalize putL n (xs.take i) = ps at *
    simp [↓go, hx, hxl, hlt]
    refine S_specPut hn ?_
    simp [↓go, hk]
    refine ⟨by omega, by unfold maxLen; omega, fun g3 => ?_⟩
    rw [List.take_of_length_le (by simp), w64 (by omega) (by omega)]
    refine wk_ex ⟨⟨i + 1, g3, by omega, ?_, ?_⟩, by simp; omega⟩
    · rw [htk]; simp
    · rw [htk]; simp; omega
  · obtain rfl : i = xs.length := by omega
    rw [List.take_length]
    simpa using retW_ex (q g2)
theorem fault_regs {p : MProgram} (h : progFault p = 0) : p.regions.length = 3 := by
  unfold progFault at h
  split at h
  · cases h
  · rename_i hR
    rw [Bool.not_eq_false] at hR
    unfold regionsOK at hR
    rw [Bool.and_eq_true, decide_eq_true_eq] at hR; exact hR.1
/-- an argument is told in a weaker way -/
theorem cl_weak {P : Program} {f : FuncId} {xs : List AVal} {h : AHeap} {Q : KA} (hf : fnT P f = true) (hk : Wk xs h (fun ys h' => @clM P f ys h' ⟨Q⟩)) : @clM P f xs h ⟨Q⟩ := by
  refine cl_of hf (fun c w vs hH hv => ?_)
  obtain ⟨c2, s', h2, k1, k2, k3, k4⟩ := hk.out c w vs hH hv
  refine (cl_out k4 c2 w vs k2 k3).mono ?_
  rintro e w' ⟨v, c', y, h1, rfl, e1, r1, y1, hq⟩
  exact ⟨v, c', y, h1, rfl, k1.trans e1, r1, y1, hq⟩
/-- bytes behind those of a row -/
theorem app8 {h l : AHeap} {K : KA} {g : Nat} {bs ys : List Int} (hl : bs.length + ys.length ≤ 1099511627776) (q : ∀ g2 bs', bs' = bs ++ ys → K (.rf h.length g2 0 bs'.length) (h ++ (.row g2 1 (bs'.map u8) :: l))) :
    appendM Tryz.prog 29 29 (.rf h.length g 0 bs.length) (encL u8 ys) (h ++ (.row g 1 (bs.map u8) :: l)) K := by
  have q2 := fun g2 => q g2 _ rfl
  simp [↓go]
  refine ⟨by omega, by unfold maxLen; omega, fun g3 => ?_⟩
  rw [List.take_of_length_le (by simp)]
  simpa using q2 g3
theorem S_specApp {h l : AHeap} {K : KA} {g n : Nat} {v : Int} {bs : List Int} (hn : 1 ≤ n ∧ n ≤ 8) (hl : bs.length ≤ 549755813888) (q : ∀ g2 bs', bs' = bs ++ putB v n → K (.rf h.length g2 0 bs'.length) (h ++ (.row g2 1 (bs'.map u8) :: l))) :
    @clM Tryz.prog 35 [i64 v, i64 n] (h ++ (.row g 1 (bs.map u8) :: l)) ⟨fun x h1 => appendM Tryz.prog 29 29 (.rf h.length g 0 bs.length) x h1 K⟩ :=
  S_specPut hn (app8 (by rw [putB_len]; omega) q)
theorem S_l3App {h l : AHeap} {K : KA} {g n : Nat} {xs bs : List Int} (hn : 1 ≤ n ∧ n ≤ 8) (hl : bs.length + 8 * xs.length ≤ 1099511627776) (q : ∀ g2 bs', bs' = bs ++ putL n xs → K (.rf h.length g2 0 bs'.length) (h ++ (.row g2 1 (bs'.map u8) :: l))) :
    @clM Tryz.prog 36 [.rf h.length g 0 bs.length, i64 n, encL i64 xs] (h ++ (.row g 1 (bs.map u8) :: l)) ⟨K⟩ :=
  S_l3Put hn (by simp) hl (fun g2 => by simpa using q g2 _ rfl)
theorem made_bytes {h : AHeap} {g : Nat} {bs : List Int} : ∃ l, h ++ [AObj.row g 1 (bs.map u8)] = h ++ l ∧ Made h (.rf h.length g 0 bs.length) (encL u8 bs) l :=
  ⟨_, rfl, [h.length], Own.rf_mk (s := 1) (ys := bs.map u8) (by simp) (by simp) (Own.map (fun x => .v rfl .nil) _) (by simp), by simp, fun r g s ys hr => by
    cases r with
    | zero => simp
    | succ r => simp at hr⟩
theorem S_specEncode {p : MProgram} {h : AHeap} {Q : KA} (hs : szProgram p ≤ 1048576) (q : Q (encL u8 (encode p)) h) : @clM Tryz.prog 7 [encProgram p] h ⟨Q⟩ := by
  refine cl_frozen (t := encL u8 (encode p)) ?_ q
  refine cl_of fn_spec_Encode (D_spec_Encode_of ?_)
  unfold D_spec_Encode
  have hsf := small_fld hs
  obtain ⟨z2, z3, z4, z5, t1, t2, t3, t4⟩ := enc_len hs
  simp [↓go]
  refine S_specProgramFault hs ?_
  simp [↓go]
  unfold encode
  refine ⟨fun h0 g => ?_, fun h0 g => ?_⟩
  · rw [if_neg h0]
    exact retW_ex (made_bytes (bs := []))
  rw [if_pos h0]
  have h3 := fault_regs h0
  refine S_specApp (n := 2) (v := 1) (bs := [80, 76, 67, 49]) (l := []) (by omega) (by simp) (fun g2 bs hbs => ?_)
  have hl6 : bs = enc1 := hbs
  clear hbs g
  refine lp_inv (fun s h' => ∃ (i g : Nat) (bs : List Int), i ≤ 3 ∧ bs = enc1 ++ (p.regions.take i).flatMap encReg ∧ h' = h ++ [.row g 1 (bs.map u8)] ∧ s = [.fp (encProgram p), .rf h.length g 0 bs.length, i64 i]) (fun s _ => 3 - natA (nthA s 2)) (Wk.refl ⟨0, g2, bs, by omega, by simp [hl6], rfl, rfl⟩) ?_
  clear hl6 g2 bs
  rintro _ _ ⟨i, g, bs, hi, hbs, rfl, rfl⟩
  have hlb : bs.length ≤ 10000000 := by
    have := t1 i
    rw [hbs, List.length_append, show enc1.length = 6 by simp [enc1]]; omega
  simp [↓go]
  refine ⟨fun hlt => ?_, fun hge => ?_⟩
  · obtain ⟨r, hr⟩ : ∃ r, p.regions[i]? = some r := ⟨_, List.getElem?_eq_getElem (by omega)⟩
    obtain ⟨hrl, hrr⟩ := List.getElem?_eq_some_iff.1 hr
    have hrs := small_r hs hr
    simp [↓go, hr, hrr]
    refine ⟨by omega, S_specApp (n := 2) (l := []) (by omega) (by omega) (fun g2 b1 e1 => ?_)⟩
    have l1 : b1.length = bs.length + 2 := by rw [e1]; simp
    simp [↓go, hr, hrr]
    refine ⟨by omega, S_l3App (n := 1) (l := []) (by omega) (by omega) (fun g3 b2 e2 => ?_)⟩
    simp [↓go]
    rw [w64 (by omega) (by omega)]
    refine wk_ex ⟨⟨i + 1, g3, b2, by omega, ?_, rfl, rfl⟩, by simp; omega⟩
    rw [e2, e1, hbs, flat_take hr]
    simp [encReg]
  obtain rfl : i = 3 := by omega
  rw [List.take_of_length_le (by omega)] at hbs
  refine S_specApp (n := 2) (l := []) (by omega) (by omega) (fun g2 b1 e1 => ?_)
  replace e1 : b1 = enc2 p := by rw [e1, hbs]; rfl
  clear hbs hlb
  refine lp_inv (fun s h' => ∃ (i g : Nat) (bs : List Int), i ≤ p.consts.length ∧ bs = enc2 p ++ (p.consts.take i).flatMap encCon ∧ h' = h ++ [.row g 1 (bs.map u8)] ∧ s = [.fp (encProgram p), .rf h.length g 0 bs.length, i64 i]) (fun s _ => p.consts.length - natA (nthA s 2)) (Wk.refl ⟨0, g2, b1, by omega, by simp [e1], rfl, rfl⟩) ?_
  clear e1 g2 b1
  rintro _ _ ⟨i, g, bs, hi, hbs, rfl, rfl⟩
  have hlb : bs.length ≤ 20000000 := by
    have := t2 i
    rw [hbs, List.length_append]; omega
  simp [↓go]
  refine ⟨fun hlt => ?_, fun hge => ?_⟩
  · obtain ⟨c, hc⟩ : ∃ c, p.consts[i]? = some c := ⟨_, List.getElem?_eq_getElem hlt⟩
    obtain ⟨hcl, hcc⟩ := List.getElem?_eq_some_iff.1 hc
    simp [↓go, hc, hcc, hlt]
    refine S_specApp (n := 1) (l := []) (by omega) (by omega) (fun g2 b1 e1 => ?_)
    have l1 : b1.length = bs.length + 1 := by rw [e1]; simp
    simp [↓go, hc, hcc, hlt]
    refine S_specApp (n := 4) (l := []) (by omega) (by omega) (fun g3 b2 e2 => ?_)
    simp [↓go]
    rw [w64 (by omega) (by omega)]
    refine wk_ex ⟨⟨i + 1, g3, b2, by omega, ?_, rfl, rfl⟩, by simp; omega⟩
    rw [e2, e1, hbs, flat_take hc]
    simp [encCon]
  obtain rfl : i = p.consts.length := by omega
  rw [List.take_length] at hbs
  refine S_specApp (n := 2) (l := []) (by omega) (by omega) (fun g2 b1 e1 => ?_)
  replace e1 : b1 = enc3 p := by rw [e1, hbs]; rfl
  clear hbs hlb
  refine lp_inv (fun s h' => ∃ (i g : Nat) (bs : List Int), i ≤ p.funcs.length ∧ bs = enc3 p ++ (p.funcs.take i).flatMap encFun ∧ h' = h ++ [.row g 1 (bs.map u8)] ∧ s = [.fp (encProgram p), .rf h.length g 0 bs.length, i64 i]) (fun s _ => p.funcs.length - natA (nthA s 2)) (Wk.refl ⟨0, g2, b1, by omega, by simp [e1], rfl, rfl⟩) ?_
  clear e1 g2 b1
  rintro _ _ ⟨i, g, bs, hi, hbs, rfl, rfl⟩
  have hlb : bs.length ≤ 30000000 := by
    have := t3 i
    rw [hbs, List.length_append]; omega
  simp [↓go]
  refine ⟨fun hlt => ?_, fun hge => ?_⟩
  · obtain ⟨f, hf⟩ : ∃ f, p.funcs[i]? = some f := ⟨_, List.getElem?_eq_getElem hlt⟩
    obtain ⟨hfl, hff⟩ := List.getElem?_eq_some_iff.1 hf
    have hfs := small_ff (small_f hs hf)
    simp [↓go, hf, hff, hlt]
    intro gf
    refine S_specApp (n := 1) (l := [_]) (by omega) (by omega) (fun g2 b1 e1 => ?_)
    have l1 : b1.length = bs.length + 1 := by rw [e1]; simp
    simp [↓go, hf, hff, hlt]
    refine S_l3App (n := 1) (l := [_]) (by omega) (by omega) (fun g3 b2 e2 => ?_)
    have l2 : b2.length = b1.length + f.params.length := by rw [e2]; simp [putL_len]
    simp [↓go, hf, hff, hlt]
    intro g4
    refine cl_weak fn_spec_l3Put (Wk.fzL (p := 2) (l' := [_, _]) rfl ⟨fz1_same _, fz1_same _, trivial⟩ (Wk.refl ?_))
    have hz : List.map (frz (h.length + 2) g4 [i64 f.result, i64 f.locals.length]) [.rf h.length g3 0 b2.length, i64 1, .rf (h.length + 2) g4 0 2] = [.rf h.length g3 0 b2.length, i64 1, encL i64 [f.result, (f.locals.length : Int)]] := by simp [frz]
    rw [hz]
    refine S_l3App (n := 1) (l := [_]) (by omega) (by simp; omega) (fun g5 b3 e3 => ?_)
    have l3 : b3.length = b2.length + 2 := by rw [e3]; simp [putL_len]
    simp [↓go, hf, hff, hlt]
    refine S_l3App (n := 1) (l := [_]) (by omega) (by omega) (fun g6 b4 e4 => ?_)
    have l4 : b4.length = b3.length + f.locals.length := by rw [e4]; simp [putL_len]
    simp [↓go, hf, hff, hlt]
    refine S_specApp (n := 2) (l := [_]) (by omega) (by omega) (fun g7 b5 e5 => ?_)
    have l5 : b5.length = b4.length + 2 := by rw [e5]; simp
    have hb5 : b5 = bs ++ encHead f := by rw [e5, e4, e3, e2, e1]; simp [encHead, putL]
    have hb5l : b5.length ≤ 40000000 := by omega
    clear e1 e2 e3 e4 e5 hz l1 l2 l3 l4 l5
    have htc := flat_take_le encIns_le f.code
    rw [szL_zero] at htc
    refine lp_inv (fun s h' => ∃ (k g : Nat) (bk : List Int), k ≤ f.code.length ∧ bk = b5 ++ (f.code.take k).flatMap encIns ∧ h' = h ++ [.row g 1 (bk.map u8), .row gf 4 [encFunc f]] ∧ s = [.fp (encProgram p), .rf h.length g 0 bk.length, i64 i, i64 k, .pt (h.length + 1) gf 0 0]) (fun s _ => f.code.length - natA (nthA s 3)) (Wk.refl ⟨0, g7, b5, by omega, by simp, rfl, by simp⟩) ?_
    clear g7 g6 g5 g4 g3 g2
    rintro _ _ ⟨k, g2, bk, hk, hbk, rfl, rfl⟩
    have hlk : bk.length ≤ 50000000 := by
      have := htc k
      rw [hbk, List.length_append]; omega
    simp [↓go]
    refine ⟨fun hlk1 => ?_, fun hlk1 => ?_⟩
    · obtain ⟨x, hx⟩ : ∃ x, f.code[k]? = some x := ⟨_, List.getElem?_eq_getElem hlk1⟩
      obtain ⟨hxl, hxx⟩ := List.getElem?_eq_some_iff.1 hx
      simp [↓go, hx, hxx, hlk1]
      intro gx gl
      refine cl_weak fn_spec_l3Put (Wk.fzL (p := 3) (l' := [_, _, _]) rfl ⟨fz1_same _, fz1_same _, fz1_same _, trivial⟩ (Wk.refl ?_))
      have hz : List.map (frz (h.length + 3) gl [i64 x.op, i64 x.a]) [.rf h.length g2 0 bk.length, i64 1, .rf (h.length + 3) gl 0 2] = [.rf h.length g2 0 bk.length, i64 1, encL i64 [x.op, x.a]] := by simp [frz]
      rw [hz]
      refine S_l3App (n := 1) (l := [_, _]) (by omega) (by simp; omega) (fun g3 b1 e1 => ?_)
      have l1 : b1.length = bk.length + 2 := by rw [e1]; simp [putL_len]
      simp [↓go, hx, hxx, hlk1]
      refine S_specApp (n := 2) (l := [_, _]) (by omega) (by omega) (fun g4 b2 e2 => ?_)
      have l2 : b2.length = b1.length + 2 := by rw [e2]; simp
      simp [↓go, hx, hxx, hlk1]
      refine S_specApp (n := 4) (l := [_, _]) (by omega) (by omega) (fun g5 b3 e3 => ?_)
      simp [↓go]
      rw [w64 (by omega) (by omega)]
      refine wk_pre (l := [_, _]) (m := [_]) ?_
      refine ⟨⟨k + 1, g5, b3, by omega, ?_, rfl, rfl⟩, by simp; omega⟩
      rw [e3, e2, e1, hbk, flat_take hx]
      simp [encIns, putL]
    obtain rfl : k = f.code.length := by omega
    rw [List.take_length] at hbk
    rw [w64 (by omega) (by omega)]
    refine wk_pre (l := [_]) (m := [_]) ?_
    refine ⟨⟨i + 1, g2, bk, by omega, ?_, rfl, rfl⟩, by simp; omega⟩
    rw [hbk, hb5, hbs, flat_take hf]
    simp [encFun]
  obtain rfl : i = p.funcs.length := by omega
  rw [List.take_length] at hbs
  refine S_specApp (n := 2) (l := []) (by omega) (by omega) (fun g2 b1 e1 => ?_)
  replace e1 : b1 = enc4 p := by rw [e1, hbs]; rfl
  clear hbs hlb
  refine lp_inv (fun s h' => ∃ (i g : Nat) (bs : List Int), i ≤ p.certs.length ∧ bs = enc4 p ++ (p.certs.take i).flatMap encCer ∧ h' = h ++ [.row g 1 (bs.map u8)] ∧ s = [.rf h.length g 0 bs.length, i64 i, .fp (encProgram p)]) (fun s _ => p.certs.length - natA (nthA s 1)) (Wk.refl ⟨0, g2, b1, by omega, by simp [e1], rfl, rfl⟩) ?_
  clear e1 g2 b1
  rintro _ _ ⟨i, g, bs, hi, hbs, rfl, rfl⟩
  have hlb : bs.length ≤ 50000000 := by
    have := t4 i
    rw [hbs, List.length_append]; omega
  simp [↓go]
  refine ⟨fun hlt => ?_, fun hge => ?_⟩
  · obtain ⟨x, hx⟩ : ∃ x, p.certs[i]? = some x := ⟨_, List.getElem?_eq_getElem hlt⟩
    obtain ⟨hxl, hxx⟩ := List.getElem?_eq_some_iff.1 hx
    simp [↓go, hx, hxx, hlt]
    intro gx gl
    refine cl_weak fn_spec_l3Put (Wk.fzL (p := 2) (l' := [_, _]) rfl ⟨fz1_same _, fz1_same _, trivial⟩ (Wk.refl ?_))
    have hz : List.map (frz (h.length + 2) gl [i64 x.func, i64 x.head]) [.rf h.length g 0 bs.length, i64 2, .rf (h.length + 2) gl 0 2] = [.rf h.length g 0 bs.length, i64 2, encL i64 [x.func, x.head]] := by simp [frz]
    rw [hz]
    refine S_l3App (n := 2) (l := [_]) (by omega) (by simp; omega) (fun g3 b1 e1 => ?_)
    have l1 : b1.length = bs.length + 4 := by rw [e1]; simp [putL_len]
    simp [↓go, hx, hxx, hlt]
    refine S_specApp (n := 1) (l := [_]) (by omega) (by omega) (fun g4 b2 e2 => ?_)
    have l2 : b2.length = b1.length + 1 := by rw [e2]; simp
    simp [↓go, hx, hxx, hlt]
    refine S_specApp (n := 4) (l := [_]) (by omega) (by omega) (fun g5 b3 e3 => ?_)
    simp [↓go]
    rw [w64 (by omega) (by omega)]
    refine wk_pre (l := [_]) (m := [_]) ?_
    refine ⟨⟨i + 1, g5, b3, by omega, ?_, rfl, rfl⟩, by simp; omega⟩
    rw [e3, e2, e1, hbs, flat_take hx]
    simp [encCer, putL]
  obtain rfl : i = p.certs.length := by omega
  rw [List.take_length] at hbs
  replace hbs : bs = encBody p := hbs
  have ob : Own (h ++ [AObj.row g 1 (bs.map u8)]) [.rf h.length g 0 bs.length] [encL u8 bs] [h.length] := Own.rf_mk (s := 1) (ys := bs.map u8) (by simp) (by simp) (Own.map (fun x => .v rfl .nil) _) (by simp)
  have hok := okB_body p
  rw [← hbs] at hok
  refine cl_borrow0 (.int .u32 (crcOf bs)) (ts := [encL u8 bs]) rfl (bor1 (.inr ⟨_, ob⟩)) (S_specCrc (by omega) hok ⟨rfl, rfl⟩) ?_
  simp [↓go]
  refine S_specApp (n := 4) (l := []) (by omega) (by omega) (fun g2 b1 e1 => ?_)
  rw [← hbs, ← e1]
  exact retW_ex made_bytes
end Go.Proofs.YtkfpoagnchahkaaGreat.A
