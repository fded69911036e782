/- Of this session: over the abstract machine. -/
import Derived.Test.YtkfpoagnchahkaaGreatProg
import Derived.Test.YtkfpoagnchahkaaGreatA
import Derived.Test.YtkfpoagnchahkaaGreatB
import Derived.Test.YtkfpoagnchahkaaGreatD
import Derived.Test.YtkfpoagnchahkaaGreatT
import Derived.Test.YtkfpoagnchahkaaGreatO
import Derived.Test.YtkfpoagnchahkaaGreatOT
import Derived.Test.YtkfpoagnchahkaaGreatP1
import Derived.Test.YtkfpoagnchahkaaGreatP2
import Derived.Test.YtkfpoagnchahkaaGreatP3
import Derived.Test.YtkfpoagnchahkaaGreatP4
import Derived.Test.YtkfpoagnchahkaaGreatP5
import Derived.Test.YtkfpoagnchahkaaGreatO8
import Derived.Test.YtkfpoagnchahkaaGreatDC0
import Derived.Test.YtkfpoagnchahkaaGreatDC1
import Derived.Test.YtkfpoagnchahkaaGreatDC2
import Derived.Test.YtkfpoagnchahkaaGreatDC3
import Derived.Test.YtkfpoagnchahkaaGreatDC4
import Derived.Test.YtkfpoagnchahkaaGreatDC5
import Derived.Test.YtkfpoagnchahkaaGreatDC6
import Derived.Test.YtkfpoagnchahkaaGreatDC7
import Derived.Test.YtkfpoagnchahkaaGreatDC8
import Derived.Test.YtkfpoagnchahkaaGreatDC9
namespace Go.Proofs.YtkfpoagnchahkaaGreat.A
open Go Go.RowKit
set_option linter.unusedVariables false
set_option linter.unusedSimpArgs false
set_option maxRecDepth 100000
set_option maxHeartbeats 1000000
theorem O_specDecode {bs : List Int} {h : AHeap} {Q : KA} (hl : bs.length ≤ 1048576) (hw : okB bs) (q : ∀ y l, Made h y (encPR (decOf bs)) l → Q y (h ++ l)) : @clM Tryz.prog 15 [encL u8 bs] h ⟨Q⟩ := by
  refine cl_of fn_spec_Decode (D_spec_Decode_of ?_)
  unfold D_spec_Decode
  simp [↓go]
  intro g1
  have hz : ∀ (c : Int) (l : AHeap), decOf bs = (c, zProgram) → retW (.agg [i64 c, nilS, nilS, nilS, nilS]) (h ++ l) Q := fun c l e => by
    rw [e] at q
    exact wk_of (Wk.made (rs := []) (Own.agg_mk (.v rfl (.nl (.nl (.nl (.nl .nil)))))) (by simp) (fun l' hm => q _ l' hm))
  refine jn_cut (fun s h' => h' = h ++ [AObj.row g1 5 [.agg [i64 0, nilS, nilS, nilS, nilS]]] ∧ s = [.pt h.length g1 0 0, i64 bs.length, encL u8 bs, bl (!decHead bs)]) ?_ ?_
  · simp [↓go]
    refine ⟨fun h1 => wk_ex ⟨rfl, ?_⟩, fun h1 => ?_⟩
    · simp [decHead]; omega
    rw [← List.map_take, byA_map]
    refine ⟨by omega, wk_ex ⟨rfl, ?_⟩⟩
    have e : (List.foldl (fun r n => r.push (UInt8.ofNat n.toNat)) ByteArray.empty (bs.take 4)) = strOf (bs.take 4) := rfl
    rw [e, head_eq (dec_wide hw 4).2 (by simp; omega)]
    simp [decHead]; intro _; omega
  rintro _ _ ⟨rfl, rfl⟩
  cases hd : decHead bs with
  | false =>
    simp [↓go]
    exact hz 1 _ (by simp [decOf, hd])
  | true =>
  have h10 : 10 ≤ bs.length := by simp [decHead] at hd; exact hd.1
  obtain ⟨n4, n5, n6⟩ := num_at (n := 4) (a := bs.length - 4) hw (by omega) (by omega)
  obtain ⟨m4, m5, m6⟩ := num_at (n := 2) (a := 4) hw (by omega) (by omega)
  have hcr := crc_range (bs.take (bs.length - 4))
  have hwr : IntKind.i64.wrap ((bs.length : Int) - 4) = ((bs.length - 4 : Nat) : Int) := by rw [w64 (by omega) (by omega)]; omega
  have htk : (bs.drop (bs.length - 4)).take 4 = bs.drop (bs.length - 4) := List.take_of_length_le (by simp; omega)
  rw [htk] at n4 n5 n6
  have hwc : IntKind.i64.wrap (crcOf (bs.take (bs.length - 4))) = crcOf (bs.take (bs.length - 4)) := w64 (by omega) (by omega)
  simp [↓go]
  rw [hwr]
  refine ⟨by omega, by omega, S_specGet (n := 4) (by omega) hw (by omega) (by omega) ?_⟩
  rw [n4]
  have htn : (bs.map u8).take (bs.length - 4) = (bs.take (bs.length - 4)).map u8 := List.map_take.symm
  simp [↓go, numV, hwr]
  rw [htn]
  refine S_specCrc (by simp; omega) (dec_wide hw _).2 ?_
  simp [↓go, hwc]
  refine ⟨fun hne => ?_, fun heq => ?_⟩
  · exact hz 2 _ (by unfold decOf; rw [if_neg (by simp [hd]), if_pos hne])
  refine S_specGet (n := 2) (a := 4) (by omega) hw (by omega) (by omega) ?_
  rw [m4]
  simp [↓go, numV]
  refine ⟨fun hne => ?_, fun heq2 => ?_⟩
  · exact hz 3 _ (by unfold decOf; rw [if_neg (by simp [hd]), if_neg (by simp [heq]), if_pos hne])
  rw [hwr]
  refine ⟨by omega, by omega, fun g => ?_⟩
  rw [Int.toNat_natCast, htn]
  have hbl : (bs.take (bs.length - 4)).length = bs.length - 4 := by simp
  have hbw : okB (bs.take (bs.length - 4)) := (dec_wide hw _).2
  have hrow : (h ++ [AObj.row g1 5 [.agg [i64 0, nilS, nilS, nilS, nilS]], AObj.row g 3 [.agg [.sl ((bs.take (bs.length - 4)).map u8), i64 6, ff]]])[h.length + 1]? = some (sR g (bs.take (bs.length - 4)) 6 false) := by simp [sR]
  have hone : (h ++ [AObj.row g1 5 [.agg [i64 0, nilS, nilS, nilS, nilS]], AObj.row g 3 [.agg [.sl ((bs.take (bs.length - 4)).map u8), i64 6, ff]]])[h.length]? = some (.row g1 5 [.agg [i64 0, nilS, nilS, nilS, nilS]]) := by simp
  have hpre0 : ∀ r, r < h.length → (h ++ [AObj.row g1 5 [.agg [i64 0, nilS, nilS, nilS, nilS]], AObj.row g 3 [.agg [.sl ((bs.take (bs.length - 4)).map u8), i64 6, ff]]])[r]? = h[r]? := fun r hr => List.getElem?_append_left hr
  have hlen0 : h.length + 2 = (h ++ [AObj.row g1 5 [.agg [i64 0, nilS, nilS, nilS, nilS]], AObj.row g 3 [.agg [.sl ((bs.take (bs.length - 4)).map u8), i64 6, ff]]]).length := by simp
  generalize h ++ [AObj.row g1 5 [.agg [i64 0, nilS, nilS, nilS, nilS]], AObj.row g 3 [.agg [.sl ((bs.take (bs.length - 4)).map u8), i64 6, ff]]] = H0 at *
  have hdec : ∀ x, (match gtProg (decBody bs) with | none => (4, zProgram) | some (p, r) => if r ≠ [] then (5, zProgram) else if progFault p ≠ 0 then (6, zProgram) else (0, p)) = x → decOf bs = x := fun x hx => by
    unfold decOf; rw [if_neg (by simp [hd]), if_neg (by simp [heq]), if_neg (by simp [heq2])]; exact hx
  clear n4 n5 n6 m4 m5 m6 hcr htk htn hwc heq heq2 hd
  have hzz : ∀ (c : Int) (H : AHeap), decOf bs = (c, zProgram) → (∀ r, r < h.length → H[r]? = h[r]?) → h.length ≤ H.length → retW (.agg [i64 c, nilS, nilS, nilS, nilS]) H Q := fun c H e hp hle => by
    rw [split_h hp hle]; exact hz c _ e
  unfold decBody at hdec
  refine O_l3GetProgram (bs := bs.take (bs.length - 4)) (a := 6) (by omega) hbw (by omega) hrow (fun p a' fa' H1 y l hu ha' hg hm => ?_)
  generalize bs.take (bs.length - 4) = body at *
  obtain ⟨rs, oy, hrs, -⟩ := hm
  have hu1 := hu.len
  have r1 : H1[h.length]? = some (.row g1 5 [.agg [i64 0, nilS, nilS, nilS, nilS]]) := (hu.oth _ (by omega)).trans hone
  have r2 := hu.at_
  have r3 : ∀ r, r < h.length → H1[r]? = h[r]? := fun r hr => (hu.oth r (by omega)).trans (hpre0 r hr)
  obtain ⟨d0, d1, d2, d3, rfl, t0, t1, t2, t3⟩ := own_prog oy
  unfold sR at r2
  have r1' := fun l => app_get (l := l) r1
  have r2' := fun l => app_get (l := l) r2
  have hself : ∀ (l : AHeap) (o : AObj), ((H1 ++ l).set h.length o)[h.length]? = some o := fun l o => List.getElem?_set_self (by simp; omega)
  simp [↓go, t0.1, t0.2.1, t0.2.2, t1.1, t1.2.1, t1.2.2, t2.1, t2.2.1, t2.2.2, t3.1, t3.2.1, t3.2.2]
  intro gp
  simp [↓go, r2', r1', hself, hwr]
  have hpf : ∀ (o : AObj) r, r < h.length → ((H1 ++ (l ++ [AObj.row gp 4 [.agg [d0, d1, d2, d3]]])).set h.length o)[r]? = h[r]? := fun o r hr => by
    rw [List.getElem?_set_ne (by omega), List.getElem?_append_left (by omega)]; exact r3 r hr
  have hlf : ∀ o : AObj, h.length ≤ ((H1 ++ (l ++ [AObj.row gp 4 [.agg [d0, d1, d2, d3]]])).set h.length o).length := fun o => by simp; omega
  refine ⟨fun hb => ?_, fun hb => ?_⟩
  · have hn : gtProg (body.drop 6) = none := by
      rcases hg.2 hb with e | e
      · cases e
      · exact e
    rw [hn] at hdec
    exact hzz 4 _ (hdec _ rfl) (hpf _) (hlf _)
  have hgs := (hg.1 hb).2
  have hp : szProgram p ≤ 1048576 := by have := gtProg_le hgs; simp at this; omega
  rw [hgs] at hdec
  simp only [ne_eq] at hdec
  refine ⟨fun hne => ?_, fun heq3 => ?_⟩
  · refine hzz 5 _ (hdec _ (by rw [if_pos]; intro e; have := congrArg List.length e; simp at this; omega)) (hpf _) (hlf _)
  have hnil : body.drop a' = [] := List.drop_eq_nil_of_le (by omega)
  rw [hnil] at hdec
  simp only [not_true_eq_false, if_false] at hdec
  have oy' : Own (H1 ++ (l ++ [AObj.row gp 4 [.agg [d0, d1, d2, d3]]])) [.agg [d0, d1, d2, d3]] [encProgram p] rs := oy.frame (fun r hr => by rw [← List.append_assoc]; exact List.getElem?_append_left (oy.lt r hr))
  have hbx : (H1 ++ (l ++ [AObj.row gp 4 [.agg [d0, d1, d2, d3]]]))[H1.length + l.length]? = some (.row gp 4 [.agg [d0, d1, d2, d3]]) := by rw [← List.append_assoc]; exact get_midH (by simp)
  refine cl_borrow0 (.int .i64 (progFault p)) (ts := [encProgram p]) rfl (bor1 (.inr ⟨_, oy'⟩)) (S_specProgramFault hp ⟨rfl, rfl⟩) ?_
  simp [↓go, hbx, r1', hself, t0.1, t0.2.1, t0.2.2, t1.1, t1.2.1, t1.2.2, t2.1, t2.2.1, t2.2.2, t3.1, t3.2.1, t3.2.2]
  refine ⟨fun h0 => ?_, fun h0 => ?_⟩
  · rw [if_pos h0] at hdec
    exact hzz 6 _ (hdec _ rfl) (hpf _) (hlf _)
  · rw [if_neg (by simp [h0])] at hdec
    have q := hdec _ rfl ▸ q
    have o1 : Own ((H1 ++ (l ++ [AObj.row gp 4 [.agg [d0, d1, d2, d3]]])).set h.length (.row g1 5 [.agg [i64 0, d0, d1, d2, d3]])) [.agg [i64 0, d0, d1, d2, d3]] [encPR (0, p)] rs :=
      pr_own (oy'.frame (fun r hr => List.getElem?_set_ne (by have := hrs r hr; omega)))
    have hs := split_h (hpf (.row g1 5 [.agg [i64 0, d0, d1, d2, d3]])) (hlf _)
    rw [hs] at o1
    show retW _ ((H1 ++ (l ++ [AObj.row gp 4 [.agg [d0, d1, d2, d3]]])).set h.length (.row g1 5 [.agg [i64 0, d0, d1, d2, d3]])) Q
    rw [hs]
    exact wk_of (Wk.made o1 (fun r hr => by have := hrs r hr; omega) (fun l' hm => q _ l' hm))
end Go.Proofs.YtkfpoagnchahkaaGreat.A
