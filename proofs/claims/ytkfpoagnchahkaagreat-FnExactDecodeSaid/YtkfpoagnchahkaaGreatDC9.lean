/- Of this session: over the abstract machine. -/
import Derived.Test.YtkfpoagnchahkaaGreatProg
import Derived.Test.YtkfpoagnchahkaaGreatA
import Derived.Test.YtkfpoagnchahkaaGreatB
import Derived.Test.YtkfpoagnchahkaaGreatD
import Derived.Test.YtkfpoagnchahkaaGreatT
import Derived.Test.YtkfpoagnchahkaaGreatO
import Derived.Test.YtkfpoagnchahkaaGreatOT
import Derived.Test.YtkfpoagnchahkaaGreatP1
import Derived.Test.YtkfpoagnchahkaaGreatP2
import Derived.Test.YtkfpoagnchahkaaGreatP3
import Derived.Test.YtkfpoagnchahkaaGreatP4
import Derived.Test.YtkfpoagnchahkaaGreatP5
import Derived.Test.YtkfpoagnchahkaaGreatO8
import Derived.Test.YtkfpoagnchahkaaGreatDC0
import Derived.Test.YtkfpoagnchahkaaGreatDC1
import Derived.Test.YtkfpoagnchahkaaGreatDC2
import Derived.Test.YtkfpoagnchahkaaGreatDC3
import Derived.Test.YtkfpoagnchahkaaGreatDC4
import Derived.Test.YtkfpoagnchahkaaGreatDC5
import Derived.Test.YtkfpoagnchahkaaGreatDC6
import Derived.Test.YtkfpoagnchahkaaGreatDC7
import Derived.Test.YtkfpoagnchahkaaGreatDC8
namespace Go.Proofs.YtkfpoagnchahkaaGreat.A
open Go Go.RowKit
set_option linter.unusedVariables false
set_option linter.unusedSimpArgs false
set_option maxRecDepth 100000
set_option maxHeartbeats 1000000
/-! ### Decode -/
noncomputable def strOf (l : List Int) : ByteArray := l.foldl (fun r n => r.push (UInt8.ofNat n.toNat)) ByteArray.empty
theorem byA_map : ∀ l : List Int, (l.map u8).mapM byA = some l
  | [] => rfl
  | x :: l => by
    rw [List.map_cons, List.mapM_cons, byA_map l]; rfl
theorem toList4 (a b c d : UInt8) : (⟨#[a, b, c, d]⟩ : ByteArray).toList = [a, b, c, d] := by
  have e : ∀ (bs : ByteArray) (i : Nat) (r : List UInt8), ByteArray.toList.loop bs i r = if i < bs.size then ByteArray.toList.loop bs (i + 1) (bs.get! i :: r) else r.reverse := fun bs i r => by
    rw [ByteArray.toList.loop]
  unfold ByteArray.toList
  have hs : (⟨#[a, b, c, d]⟩ : ByteArray).size = 4 := rfl
  rw [e, if_pos (by omega), e, if_pos (by omega), e, if_pos (by omega), e, if_pos (by omega), e, if_neg (by omega)]
  rfl
theorem head_eq {l : List Int} (hw : okB l) (hl : l.length = 4) : ((strOf l).toList == [80, 76, 67, 49]) = decide (l = [80, 76, 67, 49]) := by
  match l, hl with
  | [a, b, c, d], _ =>
    have e : strOf [a, b, c, d] = ⟨#[UInt8.ofNat a.toNat, UInt8.ofNat b.toNat, UInt8.ofNat c.toNat, UInt8.ofNat d.toNat]⟩ := rfl
    rw [e, toList4]
    have k : ∀ (x : Int) (n : Nat), x ∈ [a, b, c, d] → n < 256 → (UInt8.ofNat x.toNat = UInt8.ofNat n ↔ x = n) := fun x n hx hn => by
      have := hw x hx
      constructor
      · intro h
        have h2 := congrArg UInt8.toNat h
        simp at h2
        omega
      · rintro rfl; simp
    have ka := k a 80 (by simp) (by omega)
    have kb := k b 76 (by simp) (by omega)
    have kc := k c 67 (by simp) (by omega)
    have kd := k d 49 (by simp) (by omega)
    have e80 : (80 : UInt8) = UInt8.ofNat 80 := rfl
    have e76 : (76 : UInt8) = UInt8.ofNat 76 := rfl
    have e67 : (67 : UInt8) = UInt8.ofNat 67 := rfl
    have e49 : (49 : UInt8) = UInt8.ofNat 49 := rfl
    rw [e80, e76, e67, e49, Bool.eq_iff_iff]
    simp only [beq_iff_eq, List.cons.injEq, and_true, decide_eq_true_eq]
    rw [ka, kb, kc, kd]
    simp
def encPR (x : Int × MProgram) : AVal := .agg [i64 x.1, encL (encL i64) x.2.regions, encL encConst x.2.consts, encL encFunc x.2.funcs, encL encCert x.2.certs]
def decHead (bs : List Int) : Bool := decide (10 ≤ bs.length) && decide (bs.take 4 = [80, 76, 67, 49])
def decBody (bs : List Int) : List Int := (bs.take (bs.length - 4)).drop 6
def decOf (bs : List Int) : Int × MProgram :=
  if decHead bs = false then (1, zProgram)
  else if leNum (bs.drop (bs.length - 4)) ≠ crcOf (bs.take (bs.length - 4)) then (2, zProgram)
  else if leNum ((bs.drop 4).take 2) ≠ 1 then (3, zProgram)
  else match gtProg (decBody bs) with
    | none => (4, zProgram)
    | some (p, r) => if r ≠ [] then (5, zProgram) else if progFault p ≠ 0 then (6, zProgram) else (0, p)
theorem pr_own {H : AHeap} {c0 c1 c2 c3 d0 d1 d2 d3 : AVal} {n : Int} {rs : List Nat} (o : Own H [.agg [c0, c1, c2, c3]] [.agg [d0, d1, d2, d3]] rs) : Own H [.agg [i64 n, c0, c1, c2, c3]] [.agg [i64 n, d0, d1, d2, d3]] rs := by
  obtain ⟨ds, e, oc⟩ := o.agg_inv
  cases e
  exact Own.agg_mk (.v rfl oc)
theorem own_pr {H : AHeap} {y : AVal} {x : Int × MProgram} {rs : List Nat} (o : Own H [y] [encPR x] rs) : ∃ c0 c1 c2 c3, y = .agg [i64 x.1, c0, c1, c2, c3] ∧ (c0.flat = [c0] ∧ c0.c1 = true ∧ c0.isAgg = false) ∧ (c1.flat = [c1] ∧ c1.c1 = true ∧ c1.isAgg = false) ∧ (c2.flat = [c2] ∧ c2.c1 = true ∧ c2.isAgg = false) ∧ (c3.flat = [c3] ∧ c3.c1 = true ∧ c3.isAgg = false) ∧
    Own H [.agg [c0, c1, c2, c3]] [encProgram x.2] rs := by
  obtain ⟨cs, rfl, oc⟩ := Own.agg_inv2 (ds := [i64 x.1, encL (encL i64) x.2.regions, encL encConst x.2.consts, encL encFunc x.2.funcs, encL encCert x.2.certs]) o
  obtain ⟨y0, cs', r1, r2, rfl, o1, o2, rfl, hd⟩ := oc.cons_inv
  obtain ⟨rfl, rfl⟩ := o1.v_inv
  have o3 : Own H [.agg cs'] [encProgram x.2] r2 := Own.agg_mk o2
  obtain ⟨p0, p1, p2, p3, e, t0, t1, t2, t3⟩ := own_prog o3
  cases e
  exact ⟨p0, p1, p2, p3, rfl, t0, t1, t2, t3, o3⟩
theorem S_eqPR {x : Int × MProgram} {h : AHeap} {Q : KA} (hs : szProgram x.2 ≤ 1048576) (q : Q tt h) : @clM Tryz.prog 18 [encPR x, encPR x] h ⟨Q⟩ := by
  refine cl_of fn_laws_eqProgramResult (D_laws_eqProgramResult_of ?_)
  unfold D_laws_eqProgramResult encPR
  simp [↓go]
  refine S_eqProgram hs ?_
  simp [↓go]
  exact retW_ex q
/-- a call over what is borrowed whose result holds nothing of it -/
theorem cl_borrowF {P : Program} {f : FuncId} {xs ts : List AVal} {h : AHeap} {Q : KA} (t : AVal) (ht : ∀ n, Fr n t) (hxl : xs.length = ts.length) (hbor : ∀ (i : Nat) (x t : AVal), xs[i]? = some x → ts[i]? = some t → Bor h x t)
    (hc : @clM P f ts (deadH h.length) ⟨fun y h1 => y = t ∧ h1 = deadH h.length⟩) (hq : Q t h) : @clM P f xs h ⟨Q⟩ := by
  have hb := callM_borrow (P := P) (f := f) (R := fun y l => y = t ∧ l = []) hxl hbor (callM_new fun c w vs hH hv => (callM_old (cl_out hc) c w vs hH hv).mono ?_)
  · refine cl_of (cl_fn hc) (callM_new fun c w vs hH hv => (callM_old hb c w vs hH hv).mono ?_)
    rintro e w' ⟨v, c', y, h1, rfl, e1, r1, y1, l, rfl, rfl, rfl⟩
    rw [List.append_nil] at r1
    exact ⟨v, c', _, h, rfl, e1, r1, y1, hq⟩
  · rintro e w' ⟨v, c', y, h1, rfl, e1, r1, y1, rfl, rfl⟩
    exact ⟨v, c', _, _, rfl, e1, r1, y1, [], by simp, ht _, fun r g s ys hr => by simp at hr, rfl, rfl⟩
theorem split_h {h H : AHeap} (hp : ∀ r, r < h.length → H[r]? = h[r]?) (hle : h.length ≤ H.length) : H = h ++ H.drop h.length := by
  conv => lhs; rw [← List.take_append_drop h.length H]
  congr 1
  apply List.ext_getElem?
  intro r
  rw [List.getElem?_take]
  by_cases hr : r < h.length
  · rw [if_pos hr]; exact hp r hr
  · rw [if_neg hr, List.getElem?_eq_none (by omega)]
theorem dec_wide {bs : List Int} (hw : okB bs) (k : Nat) : okB (bs.drop k) ∧ okB (bs.take k) := ⟨fun x hx => hw x (List.mem_of_mem_drop hx), fun x hx => hw x (List.mem_of_mem_take hx)⟩
theorem num_at {bs : List Int} {a n : Nat} (hw : okB bs) (hn : n ≤ 4) (h : a + n ≤ bs.length) : gtN n (bs.drop a) = some (leNum ((bs.drop a).take n), bs.drop (a + n)) ∧ 0 ≤ leNum ((bs.drop a).take n) ∧ leNum ((bs.drop a).take n) < 4294967296 := by
  obtain ⟨m, h1, h2⟩ := leNum_nat (dec_wide (dec_wide hw a).1 n).2
  have hlen : ((bs.drop a).take n).length = n := by simp; omega
  rw [hlen] at h2
  have hp : 2 ^ (8 * n) ≤ 2 ^ 32 := Nat.pow_le_pow_right (by omega) (by omega)
  have hn2 : (2 ^ 32 : Nat) = 4294967296 := by decide
  rw [num_eq h, h1, w64 (by omega) (by omega)]
  exact ⟨rfl, by omega, by omega⟩
theorem crc_range (bs : List Int) : 0 ≤ crcOf bs ∧ crcOf bs < 4294967296 := by
  unfold crcOf
  have := (~~~ crcL 0xffffffff#32 (bvs bs)).isLt
  omega
theorem O_implDecode {bs : List Int} {h : AHeap} {Q : KA} (hl : bs.length ≤ 1048576) (hw : okB bs) (q : ∀ y l, Made h y (encPR (decOf bs)) l → Q y (h ++ l)) : @clM Tryz.prog 17 [encL u8 bs] h ⟨Q⟩ := by
  refine cl_of fn_impl_Decode (D_impl_Decode_of ?_)
  unfold D_impl_Decode
  simp [↓go]
  intro g1
  have hz : ∀ (c : Int) (l : AHeap), decOf bs = (c, zProgram) → retW (.agg [i64 c, nilS, nilS, nilS, nilS]) (h ++ l) Q := fun c l e => by
    rw [e] at q
    exact wk_of (Wk.made (rs := []) (Own.agg_mk (.v rfl (.nl (.nl (.nl (.nl .nil)))))) (by simp) (fun l' hm => q _ l' hm))
  refine jn_cut (fun s h' => h' = h ++ [AObj.row g1 5 [.agg [i64 0, nilS, nilS, nilS, nilS]]] ∧ s = [.pt h.length g1 0 0, encL u8 bs, bl (!decHead bs)]) ?_ ?_
  · simp [↓go]
    refine ⟨fun h1 => wk_ex ⟨rfl, ?_⟩, fun h1 => ?_⟩
    · simp [decHead]; omega
    rw [← List.map_take, byA_map]
    refine ⟨by omega, wk_ex ⟨rfl, ?_⟩⟩
    have e : (List.foldl (fun r n => r.push (UInt8.ofNat n.toNat)) ByteArray.empty (bs.take 4)) = strOf (bs.take 4) := rfl
    rw [e, head_eq (dec_wide hw 4).2 (by simp; omega)]
    simp [decHead]; intro _; omega
  rintro _ _ ⟨rfl, rfl⟩
  cases hd : decHead bs with
  | false =>
    simp [↓go]
    exact hz 1 _ (by simp [decOf, hd])
  | true =>
  have h10 : 10 ≤ bs.length := by simp [decHead] at hd; exact hd.1
  obtain ⟨n4, n5, n6⟩ := num_at (n := 4) (a := bs.length - 4) hw (by omega) (by omega)
  obtain ⟨m4, m5, m6⟩ := num_at (n := 2) (a := 4) hw (by omega) (by omega)
  have hcr := crc_range (bs.take (bs.length - 4))
  have hwr : IntKind.i64.wrap ((bs.length : Int) - 4) = ((bs.length - 4 : Nat) : Int) := by rw [w64 (by omega) (by omega)]; omega
  have htk : (bs.drop (bs.length - 4)).take 4 = bs.drop (bs.length - 4) := List.take_of_length_le (by simp; omega)
  rw [htk] at n4 n5 n6
  simp [↓go]
  rw [hwr]
  refine ⟨by omega, by omega, S_implGet (n := 4) (by omega) hw (by omega) (by omega) ?_⟩
  rw [n4]
  have htn : (bs.map u8).take (bs.length - 4) = (bs.take (bs.length - 4)).map u8 := List.map_take.symm
  simp [↓go, numV, hwr]
  rw [htn]
  refine S_implCrc (by simp; omega) (dec_wide hw _).2 ?_
  have hwn : IntKind.u32.wrap (leNum (bs.drop (bs.length - 4))) = leNum (bs.drop (bs.length - 4)) := by rw [wrap_u32_eq, Int.emod_eq_of_lt n5 n6]
  simp [↓go, hwn]
  refine ⟨fun hne => ?_, fun heq => ?_⟩
  · exact hz 2 _ (by unfold decOf; rw [if_neg (by simp [hd]), if_pos hne])
  refine S_implGet (n := 2) (a := 4) (by omega) hw (by omega) (by omega) ?_
  rw [m4]
  simp [↓go, numV]
  refine ⟨fun hne => ?_, fun heq2 => ?_⟩
  · exact hz 3 _ (by unfold decOf; rw [if_neg (by simp [hd]), if_neg (by simp [heq]), if_pos hne])
  rw [hwr]
  refine ⟨by omega, by omega, fun g => ?_⟩
  have hbody : List.take (((bs.length - 4 : Nat) : Int).toNat - 6) (List.drop 6 (bs.map u8)) = (decBody bs).map u8 := by
    unfold decBody
    rw [Int.toNat_natCast, List.map_drop, List.map_take, List.drop_take]
  rw [hbody]
  have hbl : (decBody bs).length ≤ 1048576 := by unfold decBody; simp; omega
  have hbw : okB (decBody bs) := (dec_wide (dec_wide hw _).2 6).1
  have hrow : (h ++ [AObj.row g1 5 [.agg [i64 0, nilS, nilS, nilS, nilS]], AObj.row g 2 [.agg [.sl ((decBody bs).map u8), i64 0]]])[h.length + 1]? = some (rdR g (decBody bs) 0) := by simp [rdR]
  have hone : (h ++ [AObj.row g1 5 [.agg [i64 0, nilS, nilS, nilS, nilS]], AObj.row g 2 [.agg [.sl ((decBody bs).map u8), i64 0]]])[h.length]? = some (.row g1 5 [.agg [i64 0, nilS, nilS, nilS, nilS]]) := by simp
  have hpre0 : ∀ r, r < h.length → (h ++ [AObj.row g1 5 [.agg [i64 0, nilS, nilS, nilS, nilS]], AObj.row g 2 [.agg [.sl ((decBody bs).map u8), i64 0]]])[r]? = h[r]? := fun r hr => List.getElem?_append_left hr
  have hlen0 : h.length + 2 = (h ++ [AObj.row g1 5 [.agg [i64 0, nilS, nilS, nilS, nilS]], AObj.row g 2 [.agg [.sl ((decBody bs).map u8), i64 0]]]).length := by simp
  generalize h ++ [AObj.row g1 5 [.agg [i64 0, nilS, nilS, nilS, nilS]], AObj.row g 2 [.agg [.sl ((decBody bs).map u8), i64 0]]] = H0 at *
  have hdec : ∀ x, (match gtProg (decBody bs) with | none => (4, zProgram) | some (p, r) => if r ≠ [] then (5, zProgram) else if progFault p ≠ 0 then (6, zProgram) else (0, p)) = x → decOf bs = x := fun x hx => by
    unfold decOf; rw [if_neg (by simp [hd]), if_neg (by simp [heq]), if_neg (by simp [heq2])]; exact hx
  clear n4 n5 n6 m4 m5 m6 hcr hwr htk htn hwn heq heq2 hd hbody
  -- what is told of all heaps to come: the result's box, and all that was there
  have hzz : ∀ (c : Int) (H : AHeap), decOf bs = (c, zProgram) → (∀ r, r < h.length → H[r]? = h[r]?) → h.length ≤ H.length → retW (.agg [i64 c, nilS, nilS, nilS, nilS]) H Q := fun c H e hp hle => by
    rw [split_h hp hle]; exact hz c _ e
  refine S_all (bs := decBody bs) (a := 0) (by omega) hbw (by omega) hrow (fun p a' H1 y l hu ha' hg hm => ?_) (fun hn H1 hpre => ?_)
  · obtain ⟨rs, oy, hrs, -⟩ := hm
    have hu1 := hu.len
    have r1 : H1[h.length]? = some (.row g1 5 [.agg [i64 0, nilS, nilS, nilS, nilS]]) := (hu.oth _ (by omega)).trans hone
    have r2 := hu.at_
    have r3 : ∀ r, r < h.length → H1[r]? = h[r]? := fun r hr => (hu.oth r (by omega)).trans (hpre0 r hr)
    obtain ⟨d0, d1, d2, d3, rfl, t0, t1, t2, t3⟩ := own_prog oy
    unfold rdR at r2
    have r1' := fun l => app_get (l := l) r1
    have r2' := fun l => app_get (l := l) r2
    have hself : ∀ (l : AHeap) (o : AObj), ((H1 ++ l).set h.length o)[h.length]? = some o := fun l o => List.getElem?_set_self (by simp; omega)
    have hp : szProgram p ≤ 1048576 := by have := gtProg_le hg; simp at this; omega
    rw [List.drop_zero] at hg
    rw [hg] at hdec
    simp only [ne_eq] at hdec
    simp [↓go, t0.1, t0.2.1, t0.2.2, t1.1, t1.2.1, t1.2.2, t2.1, t2.2.1, t2.2.2, t3.1, t3.2.1, t3.2.2]
    intro gp
    simp [↓go, r2', r1', hself]
    refine ⟨fun hlt => ?_, fun hge => ?_⟩
    · refine hzz 5 _ (hdec _ (by rw [if_pos]; intro e; have := congrArg List.length e; simp at this; omega)) (fun r hr => ?_) (by simp; omega)
      rw [List.getElem?_set_ne (by omega), List.getElem?_append_left (by omega)]; exact r3 r hr
    have hnil : (decBody bs).drop a' = [] := List.drop_eq_nil_of_le (by omega)
    rw [hnil] at hdec
    simp only [not_true_eq_false, if_false] at hdec
    have oy' : Own (H1 ++ (l ++ [AObj.row gp 4 [.agg [d0, d1, d2, d3]]])) [.agg [d0, d1, d2, d3]] [encProgram p] rs := oy.frame (fun r hr => by rw [← List.append_assoc]; exact List.getElem?_append_left (oy.lt r hr))
    have hbx : (H1 ++ (l ++ [AObj.row gp 4 [.agg [d0, d1, d2, d3]]]))[H1.length + l.length]? = some (.row gp 4 [.agg [d0, d1, d2, d3]]) := by rw [← List.append_assoc]; exact get_midH (by simp)
    have hnb : H1.length + l.length ∉ rs := fun hm => by have := oy.lt _ hm; simp at this
    have hfz : ∀ n, Fr n (faultV p) := fun n => by
      unfold faultV noErr errV
      split
      · exact .v _
      · exact .ifc _ _ (.agg _ (fun a ha => by simp at ha; subst ha; exact .v _))
    refine cl_borrowF (ts := [.fp (encProgram p)]) (faultV p) hfz rfl (bor1 (.inr ⟨_, Own.pt_mk hbx oy' hnb⟩)) (S_fault hp ⟨rfl, rfl⟩) ?_
    unfold faultV
    by_cases h0 : progFault p = 0
    · rw [if_pos h0]
      rw [if_neg (by simp [h0])] at hdec
      have q := hdec _ rfl ▸ q
      simp [↓go, noErr, hbx, r1', hself, t0.1, t0.2.1, t0.2.2, t1.1, t1.2.1, t1.2.2, t2.1, t2.2.1, t2.2.2, t3.1, t3.2.1, t3.2.2]
      have hpf : ∀ r, r < h.length → ((H1 ++ (l ++ [AObj.row gp 4 [.agg [d0, d1, d2, d3]]])).set h.length (.row g1 5 [.agg [i64 0, d0, d1, d2, d3]]))[r]? = h[r]? := fun r hr => by
        rw [List.getElem?_set_ne (by omega), List.getElem?_append_left (by omega)]; exact r3 r hr
      have o1 : Own ((H1 ++ (l ++ [AObj.row gp 4 [.agg [d0, d1, d2, d3]]])).set h.length (.row g1 5 [.agg [i64 0, d0, d1, d2, d3]])) [.agg [i64 0, d0, d1, d2, d3]] [encPR (0, p)] rs :=
        pr_own (oy'.frame (fun r hr => List.getElem?_set_ne (by have := hrs r hr; omega)))
      have hs := split_h hpf (by simp; omega)
      rw [hs] at o1
      show retW _ ((H1 ++ (l ++ [AObj.row gp 4 [.agg [d0, d1, d2, d3]]])).set h.length (.row g1 5 [.agg [i64 0, d0, d1, d2, d3]])) Q
      rw [hs]
      exact wk_of (Wk.made o1 (fun r hr => by have := hrs r hr; omega) (fun l' hm => q _ l' hm))
    · rw [if_neg h0]
      rw [if_pos h0] at hdec
      simp [↓go, errV, r1', hself]
      refine hzz 6 _ (hdec _ rfl) (fun r hr => ?_) (by simp; omega)
      rw [List.getElem?_set_ne (by omega), List.getElem?_append_left (by omega)]; exact r3 r hr
  · have r1 : H1[h.length]? = some (.row g1 5 [.agg [i64 0, nilS, nilS, nilS, nilS]]) := (hpre.2 _ (by omega) (by omega)).trans hone
    have r3 : ∀ r, r < h.length → H1[r]? = h[r]? := fun r hr => (hpre.2 r (by omega) (by omega)).trans (hpre0 r hr)
    have hlh : h.length < H1.length := (List.getElem?_eq_some_iff.1 r1).1
    have hself : ∀ (l : AHeap) (o : AObj), ((H1 ++ l).set h.length o)[h.length]? = some o := fun l o => List.getElem?_set_self (by simp; omega)
    have r1' := fun l => app_get (l := l) r1
    unfold zeroP
    simp [↓go, r1', hself]
    intro gp
    refine hzz 4 _ (hdec _ (by rw [List.drop_zero] at hn; rw [hn])) (fun r hr => ?_) (by simp; omega)
    rw [List.getElem?_set_ne (by omega), List.getElem?_append_left (by omega)]; exact r3 r hr
end Go.Proofs.YtkfpoagnchahkaaGreat.A
