/- Of this session: over the abstract machine. -/
import Derived.Test.YtkfpoagnchahkaaProg
import Derived.Test.YtkfpoagnchahkaaA
import Derived.Test.YtkfpoagnchahkaaB
import Derived.Test.YtkfpoagnchahkaaD
import Derived.Test.YtkfpoagnchahkaaT
import Derived.Test.YtkfpoagnchahkaaP1
import Derived.Test.YtkfpoagnchahkaaP2
import Derived.Test.YtkfpoagnchahkaaP3
import Derived.Test.YtkfpoagnchahkaaP4
import Derived.Test.YtkfpoagnchahkaaP5
import Derived.Test.YtkfpoagnchahkaaO
import Derived.Test.YtkfpoagnchahkaaOT
namespace Go.Proofs.Ytkfpoagnchahkaa.A
open Go Go.RowKit
set_option linter.unusedVariables false
set_option linter.unusedSimpArgs false
set_option maxRecDepth 100000
set_option maxHeartbeats 1000000
/-! ### the order of calls: what is computed -/
def callsOK (p : MProgram) : Prop := ∀ (i : Nat) (f : MFunc) (k : Nat) (x : MInstr), p.funcs[i]? = some f → f.code[k]? = some x → x.op = 28 → 0 ≤ x.a ∧ x.a < p.funcs.length
theorem specInstr_call {p : MProgram} {f : MFunc} {x : MInstr} (h : specInstr p f x = true) (ho : x.op = 28) : 0 ≤ x.a ∧ x.a < p.funcs.length := by
  unfold specInstr at h
  have hf : formOf x.op = 11 := by rw [ho]; rfl
  rw [hf, ho] at h
  simp at h
  exact h.1
theorem fault_calls {p : MProgram} (h : progFault p = 0) : callsOK p := by
  have hc : codeOK p = true := by
    cases hq : codeOK p with
    | true => rfl
    | false =>
      exfalso
      unfold progFault at h
      rw [hq] at h
      revert h
      repeat' split
      all_goals simp_all
  intro i f k x hi hk ho
  unfold codeOK at hc
  have h1 := allN_iff.1 hc i (List.getElem?_eq_some_iff.1 hi).1
  rw [getD_of hi] at h1
  have h2 := allN_iff.1 h1 k (List.getElem?_eq_some_iff.1 hk).1
  rw [getD_of hk] at h2
  exact specInstr_call h2 ho
def rdyI (d : List Bool) (x : MInstr) : Bool := !decide (x.op = 28) || d.getD x.a.toNat false
def rdyF (p : MProgram) (d : List Bool) (i : Nat) : Bool := !(d.getD i false) && allN (p.funcs.getD i zFunc).code.length (fun k => rdyI d ((p.funcs.getD i zFunc).code.getD k zInstr))
def coStep (p : MProgram) (d : List Bool) : Option Nat := (List.range p.funcs.length).find? (rdyF p d)
def orderF (p : MProgram) : Nat → List Bool → List Int → List Int
  | 0, _, o => o
  | m + 1, d, o => match coStep p d with
    | none => []
    | some i => orderF p m (d.set i true) (o ++ [(i : Int)])
def callOrder (p : MProgram) : List Int := if progFault p = 0 then orderF p p.funcs.length (List.replicate p.funcs.length false) [] else []
theorem find_none {P : Nat → Bool} {n : Nat} (h : ∀ j, j < n → P j = false) : (List.range n).find? P = none := by
  rw [List.find?_eq_none]
  intro x hx
  rw [List.mem_range] at hx
  rw [h x hx]; simp
theorem find_some {P : Nat → Bool} {n j : Nat} (hj : j < n) (hp : P j = true) (h : ∀ k, k < j → P k = false) : (List.range n).find? P = some j := by
  rw [List.find?_eq_some_iff_getElem]
  refine ⟨hp, j, by simpa using hj, by simp, fun k hk => ?_⟩
  simp [h k hk]
/-- r is the first from lo on, -1 if there is none -/
def IsFst (P : Nat → Bool) (lo n : Nat) (r : Int) : Prop := (r = -1 ∧ ∀ j, lo ≤ j → j < n → P j = false) ∨ ∃ j : Nat, r = j ∧ lo ≤ j ∧ j < n ∧ P j = true ∧ ∀ k, lo ≤ k → k < j → P k = false
theorem IsFst.start (P : Nat → Bool) (n : Nat) : IsFst P n n (-1) := .inl ⟨rfl, fun j h1 h2 => by omega⟩
theorem IsFst.yes {P : Nat → Bool} {lo n : Nat} {r : Int} (hl : lo < n) (hp : P lo = true) (_ : IsFst P (lo + 1) n r) : IsFst P lo n lo := .inr ⟨lo, rfl, Nat.le_refl _, hl, hp, fun k h1 h2 => by omega⟩
theorem IsFst.no {P : Nat → Bool} {lo n : Nat} {r : Int} (hp : P lo = false) (h : IsFst P (lo + 1) n r) : IsFst P lo n r := by
  have key : ∀ k, lo ≤ k → lo + 1 ≤ k ∨ k = lo := fun k h => by omega
  rcases h with ⟨rfl, h⟩ | ⟨j, rfl, h1, h2, h3, h4⟩
  · refine .inl ⟨rfl, fun j hj hn => ?_⟩
    rcases key j hj with h' | rfl
    · exact h j h' hn
    · exact hp
  · refine .inr ⟨j, rfl, by omega, h2, h3, fun k hk hn => ?_⟩
    rcases key k hk with h' | rfl
    · exact h4 k h' hn
    · exact hp
theorem orderF_none {p : MProgram} {m : Nat} {d : List Bool} {o : List Int} (h : ∀ j, j < p.funcs.length → rdyF p d j = false) : orderF p (m + 1) d o = [] := by
  unfold orderF coStep; rw [find_none h]
theorem orderF_some {p : MProgram} {m j : Nat} {d : List Bool} {o : List Int} (hj : j < p.funcs.length) (hp : rdyF p d j = true) (h : ∀ k, k < j → rdyF p d k = false) : orderF p (m + 1) d o = orderF p m (d.set j true) (o ++ [(j : Int)]) := by
  show (match coStep p d with | none => [] | some i => orderF p m (d.set i true) (o ++ [(i : Int)])) = _
  unfold coStep; rw [find_some hj hp h]
theorem orderF_len {p : MProgram} : ∀ (m : Nat) (d : List Bool) (o : List Int), (orderF p m d o).length ≤ o.length + m
  | 0, _, o => by simp [orderF]
  | m + 1, d, o => by
    unfold orderF
    split
    · simp
    · have := orderF_len (p := p) m (d.set ‹Nat› true) (o ++ [((‹Nat› : Nat) : Int)])
      simp at this; omega
theorem callOrder_len (p : MProgram) : (callOrder p).length ≤ p.funcs.length := by
  unfold callOrder
  split
  · have := orderF_len (p := p) p.funcs.length (List.replicate p.funcs.length false) []
    simpa using this
  · simp
def rfLen (x : AVal) : Nat := match x with | .rf _ _ _ n => n | _ => 0
@[simp] theorem rfLen_eq (r g o n : Nat) : rfLen (.rf r g o n) = n := rfl
def natS (x : AVal) : Nat := match x with | .v (.int _ n) => (n + 1).toNat | _ => 0
@[simp] theorem natS_eq (n : Int) : natS (.v (.int .i64 n)) = (n + 1).toNat := rfl
theorem S_specCallOrder {p : MProgram} {h : AHeap} {Q : KA} (hs : szProgram p ≤ 1048576) (hq : Q (encL i64 (callOrder p)) h) : @clM Try.prog 13 [encProgram p] h ⟨Q⟩ := by
  refine cl_of fn_spec_CallOrder (D_spec_CallOrder_of ?_)
  unfold D_spec_CallOrder
  have hms := small_fld hs
  simp [↓go]
  intro g1
  refine S_specProgramFault hs ?_
  simp [↓go]
  refine ⟨fun h0 => ?_, fun h0 => ?_⟩
  · unfold callOrder at hq
    rw [if_neg h0] at hq
    refine wk_of (Wk.fzL (p := 0) rfl (l' := []) trivial (Wk.refl ?_))
    simpa [frz, encL] using hq
  have hcalls := fault_calls h0
  unfold callOrder at hq
  rw [if_pos h0] at hq
  refine ⟨by omega, by omega, fun g2 => ?_⟩
  refine lp_inv (fun s h' => ∃ (d : List Bool) (o : List Int) (g m : Nat), d.length = p.funcs.length ∧ o.length + m = p.funcs.length ∧ orderF p m d o = orderF p p.funcs.length (List.replicate p.funcs.length false) [] ∧ h' = h ++ [.row g 1 (o.map i64), .row g2 1 (d.map bl)] ∧ s = [.rf h.length g 0 o.length, .rf (h.length + 1) g2 0 p.funcs.length, .fp (encProgram p), i64 p.funcs.length]) (fun s _ => p.funcs.length - rfLen (nthA s 0)) (Wk.refl ⟨List.replicate p.funcs.length false, [], g1, p.funcs.length, by simp, by simp, rfl, by simp, rfl⟩) ?_
  rintro _ _ ⟨d, o, g, m, hd, ho, hR, rfl, rfl⟩
  simp [↓go]
  refine ⟨fun hlt => ?_, fun hge => ?_⟩
  rotate_left
  · obtain rfl : m = 0 := by omega
    rw [← hR] at hq
    simp only [orderF] at hq
    refine wk_of (Wk.fzL (p := 0) rfl (l' := []) trivial (Wk.refl ?_))
    simpa [frz, List.take_of_length_le, Function.comp_def] using hq
  rw [w64 (by omega) (by omega)]
  refine lp_inv (fun s h' => ∃ (i : Nat) (r : Int), i ≤ p.funcs.length ∧ IsFst (rdyF p d) i p.funcs.length r ∧ h' = h ++ [.row g 1 (o.map i64), .row g2 1 (d.map bl)] ∧ s = [.rf (h.length + 1) g2 0 p.funcs.length, .fp (encProgram p), i64 p.funcs.length, i64 r, .rf h.length g 0 o.length, i64 ((i : Int) - 1)]) (fun s _ => natS (nthA s 5)) (Wk.refl ⟨p.funcs.length, -1, by omega, IsFst.start _ _, rfl, rfl⟩) ?_
  rintro _ _ ⟨i, r, hi, hr, rfl, rfl⟩
  simp [↓go]
  refine ⟨fun hge => ?_, fun hlt2 => ?_⟩
  · obtain ⟨j, rfl⟩ : ∃ j, i = j + 1 := ⟨i - 1, by omega⟩
    have hjl : j < p.funcs.length := by omega
    obtain ⟨f, hf⟩ : ∃ f, p.funcs[j]? = some f := ⟨_, List.getElem?_eq_getElem hjl⟩
    obtain ⟨_, hfl⟩ := List.getElem?_eq_some_iff.1 hf
    obtain ⟨b, hb⟩ : ∃ b, d[j]? = some b := ⟨_, List.getElem?_eq_getElem (by omega)⟩
    obtain ⟨_, hbl⟩ := List.getElem?_eq_some_iff.1 hb
    have hfs := small_ff (small_f hs hf)
    have hjj : ((j : Int) + 1 - 1) = j := by omega
    refine jn_cut (fun s h' => ∃ r' : Int, IsFst (rdyF p d) j p.funcs.length r' ∧ h' = h ++ [.row g 1 (o.map i64), .row g2 1 (d.map bl)] ∧ s = [.rf (h.length + 1) g2 0 p.funcs.length, .fp (encProgram p), i64 p.funcs.length, i64 r', .rf h.length g 0 o.length, i64 j]) ?_ ?_
    · simp [↓go, hjj, hb, hd, hjl, hbl]
      have hR1 : rdyF p d j = (!b && allN f.code.length (fun k => rdyI d (f.code.getD k zInstr))) := by
        unfold rdyF; rw [getD_of hf, getD_of hb]
      refine lp_inv (fun s h' => ∃ k : Nat, k ≤ f.code.length ∧ h' = h ++ [.row g 1 (o.map i64), .row g2 1 (d.map bl)] ∧ s = [.rf (h.length + 1) g2 0 p.funcs.length, .fp (encProgram p), i64 p.funcs.length, i64 r, .rf h.length g 0 o.length, i64 j, bl (!b && allN k (fun k => rdyI d (f.code.getD k zInstr))), i64 k]) (fun s _ => f.code.length - natA (nthA s 7)) (Wk.refl ⟨0, by omega, rfl, by simp [allN]⟩) ?_
      rintro _ _ ⟨k, hk, rfl, rfl⟩
      have hstop : ∀ q : Bool, (k = f.code.length ∨ q = false) → q = (!b && allN k (fun k => rdyI d (f.code.getD k zInstr))) → q = rdyF p d j := fun q h1 h2 => by
        rw [hR1]
        rcases h1 with rfl | rfl
        · exact h2
        · symm
          cases hb2 : (!b) with
          | false => rfl
          | true =>
            rw [hb2, Bool.true_and] at h2
            rw [Bool.true_and]
            cases hq2 : allN f.code.length (fun k => rdyI d (f.code.getD k zInstr)) with
            | false => rfl
            | true =>
              rw [allN_iff] at hq2
              rw [allN_iff.2 (fun i hi => hq2 i (by omega))] at h2
              cases h2
      generalize hq1 : (!b && allN k (fun k => rdyI d (f.code.getD k zInstr))) = q at hstop
      simp [↓go, hf, hfl, hjl]
      have hyes : q = rdyF p d j → q = true → IsFst (rdyF p d) j p.funcs.length j := fun e1 e2 => IsFst.yes hjl (by rw [← e1]; exact e2) hr
      have hno : q = rdyF p d j → q = false → IsFst (rdyF p d) j p.funcs.length r := fun e1 e2 => IsFst.no (by rw [← e1]; exact e2) hr
      refine ⟨fun hkl => ⟨fun hqt => ?_, fun hqf => ⟨fun h => (by rw [hqf] at h; cases h), fun _ => ?_⟩⟩, fun hkl => ⟨fun hqt => ?_, fun hqf => ?_⟩⟩
      · obtain ⟨x, hx⟩ : ∃ x, f.code[k]? = some x := ⟨_, List.getElem?_eq_getElem hkl⟩
        obtain ⟨_, hxl⟩ := List.getElem?_eq_some_iff.1 hx
        refine jn_cut (fun s h' => h' = h ++ [.row g 1 (o.map i64), .row g2 1 (d.map bl)] ∧ s = [.rf (h.length + 1) g2 0 p.funcs.length, .fp (encProgram p), i64 p.funcs.length, i64 r, .rf h.length g 0 o.length, i64 j, bl (rdyI d x), i64 k]) ?_ ?_
        · simp [↓go, hf, hfl, hjl, hx, hxl, hkl, encInstr]
          intro g3
          refine ⟨fun hop => ?_, fun hop => ?_⟩
          · refine wk_pre (l := [_, _]) (m := [_]) ⟨rfl, ?_⟩
            simp [rdyI, hop]
          · obtain ⟨hc0, hc1⟩ := hcalls j f k x hf hx hop
            obtain ⟨c, hc⟩ : ∃ c, d[x.a.toNat]? = some c := ⟨_, List.getElem?_eq_getElem (by omega)⟩
            obtain ⟨hcl, hcc⟩ := List.getElem?_eq_some_iff.1 hc
            simp [hc]
            refine ⟨by omega, by omega, by omega, ?_⟩
            refine wk_pre (l := [_, _]) (m := [_]) ⟨rfl, ?_⟩
            simp [rdyI, hop, hc]
        · rintro _ _ ⟨rfl, rfl⟩
          simp [↓go]
          rw [w64 (by omega) (by omega)]
          refine wk_ex (And.intro ⟨k + 1, by omega, rfl, ?_⟩ ?_)
          · rw [hqt] at hq1
            have : (!b && allN (k + 1) (fun k => rdyI d (f.code.getD k zInstr))) = rdyI d x := by
              rw [allN_succ, ← Bool.and_assoc, hq1, getD_of hx]; simp
            rw [this]; simp
          · simp; omega
      · exact wk_ex ⟨r, hno (hstop q (.inr hqf) rfl) hqf, rfl, rfl⟩
      · exact wk_ex ⟨j, hyes (hstop q (.inl (by omega)) rfl) hqt, rfl, rfl⟩
      · exact wk_ex ⟨r, hno (hstop q (.inr hqf) rfl) hqf, rfl, rfl⟩
    · rintro _ _ ⟨r', hr', rfl, rfl⟩
      simp [↓go]
      rw [w64 (by omega) (by omega)]
      refine wk_ex (And.intro ⟨j, r', by omega, hr', rfl, rfl⟩ ?_)
      simp
  · obtain rfl : i = 0 := by omega
    rcases hr with ⟨rfl, hn⟩ | ⟨j, rfl, _, hjl, hj, hb⟩
    · simp
      intro g4
      rw [← hR] at hq
      obtain ⟨m', rfl⟩ : ∃ m', m = m' + 1 := ⟨m - 1, by omega⟩
      rw [orderF_none (fun j hj => hn j (by omega) hj)] at hq
      exact wk_of (Wk.own (xs := [_]) (ts := [.sl []]) (rest := []) (rs := [h.length + 2]) (Own.rf_mk (s := 1) (ys := []) (by simp) rfl .nil (by simp)) (by simp) hq)
    · simp
      refine ⟨by omega, by omega, by omega, fun g4 => ⟨by omega, by unfold maxLen; omega, fun g5 => ?_⟩⟩
      obtain ⟨m', rfl⟩ : ∃ m', m = m' + 1 := ⟨m - 1, by omega⟩
      rw [orderF_some hjl hj (fun k hk => hb k (by omega) hk)] at hR
      refine wk_pre (l := [_, _]) (m := [_]) ?_
      refine And.intro ⟨d.set j true, o ++ [(j : Int)], g5, m', by simp [hd], by simp; omega, hR, ?_, ?_⟩ ?_
      · simp [List.take_of_length_le, List.map_set]
      · simp
      · simp; omega
def CoI (p : MProgram) (d : List Bool) (o : List Int) (fd : Bool) (i : Nat) (d' : List Bool) (o' : List Int) : Prop := match fd with
  | false => d' = d ∧ o' = o ∧ ∀ k, k < i → rdyF p d k = false
  | true => ∃ j : Nat, j < p.funcs.length ∧ rdyF p d j = true ∧ (∀ k, k < j → rdyF p d k = false) ∧ d' = d.set j true ∧ o' = o ++ [(j : Int)]
theorem O_implCallOrder {p : MProgram} {h : AHeap} {Q : KA} (hs : szProgram p ≤ 1048576) (q : ∀ y l, Made h y (encL i64 (callOrder p)) l → Q y (h ++ l)) : @clM Try.prog 14 [encProgram p] h ⟨Q⟩ := by
  refine cl_of fn_impl_CallOrder (D_impl_CallOrder_of ?_)
  unfold D_impl_CallOrder
  have hms := small_fld hs
  have hnil : ∀ l : AHeap, callOrder p = [] → retW nilS (h ++ l) Q := fun l e => by
    rw [e] at q
    exact wk_of (Wk.made (rs := []) (.nl .nil) (by simp) (fun l' hm => q _ _ hm))
  simp [↓go]
  refine S_fault hs ?_
  unfold faultV
  by_cases h0 : progFault p = 0
  rotate_left
  · rw [if_neg h0]
    simp [↓go, errV]
    have := hnil [] (by unfold callOrder; rw [if_neg h0])
    simpa using this
  rw [if_pos h0]
  have hcalls := fault_calls h0
  unfold callOrder at q hnil
  rw [if_pos h0] at q hnil
  simp [↓go, noErr]
  refine ⟨by omega, by omega, fun g1 g2 => ?_⟩
  refine lp_inv (fun s h' => ∃ (d : List Bool) (o : List Int) (g m : Nat), d.length = p.funcs.length ∧ o.length + m = p.funcs.length ∧ orderF p m d o = orderF p p.funcs.length (List.replicate p.funcs.length false) [] ∧ h' = h ++ [.row g1 1 (d.map bl), .row g 1 (o.map i64)] ∧ s = [.rf (h.length + 1) g 0 o.length, .rf h.length g1 0 p.funcs.length, .fp (encProgram p), i64 p.funcs.length]) (fun s _ => p.funcs.length - rfLen (nthA s 0)) (Wk.refl ⟨List.replicate p.funcs.length false, [], g2, p.funcs.length, by simp, by simp, rfl, by simp, rfl⟩) ?_
  rintro _ _ ⟨d, o, g, m, hd, ho, hR, rfl, rfl⟩
  simp [↓go]
  refine ⟨fun hlt => ?_, fun hge => ?_⟩
  rotate_left
  · obtain rfl : m = 0 := by omega
    rw [← hR] at q
    simp only [orderF] at q
    exact wk_of (Wk.made (rs := [h.length + 1]) (Own.rf_mk (s := 1) (ys := o.map i64) (by simp) (by simp) (Own.map (fun x => .v rfl .nil) o) (by simp)) (by simp) (fun l' hm => q _ _ hm))
  obtain ⟨m', rfl⟩ : ∃ m', m = m' + 1 := ⟨m - 1, by omega⟩
  refine lp_inv (fun s h' => ∃ (i : Nat) (d' : List Bool) (o' : List Int) (g' : Nat) (fd : Bool), i ≤ p.funcs.length ∧ CoI p d o fd i d' o' ∧ h' = h ++ [.row g1 1 (d'.map bl), .row g' 1 (o'.map i64)] ∧ s = [.rf (h.length + 1) g' 0 o'.length, .rf h.length g1 0 p.funcs.length, .fp (encProgram p), i64 p.funcs.length, bl fd, i64 i]) (fun s _ => p.funcs.length - natA (nthA s 5)) (Wk.refl ⟨0, d, o, g, false, by omega, ⟨rfl, rfl, fun k hk => by omega⟩, rfl, rfl⟩) ?_
  rintro _ _ ⟨i, d', o', g', fd, hi, hI, rfl, rfl⟩
  simp [↓go]
  have hyes : fd = true → @wkM [.rf (h.length + 1) g' 0 o'.length, .rf h.length g1 0 p.funcs.length, .fp (encProgram p), i64 p.funcs.length] (h ++ [.row g1 1 (d'.map bl), .row g' 1 (o'.map i64)]) ⟨fun s2 h2 => (∃ (d : List Bool) (o : List Int) (g m : Nat), d.length = p.funcs.length ∧ o.length + m = p.funcs.length ∧ orderF p m d o = orderF p p.funcs.length (List.replicate p.funcs.length false) [] ∧ h2 = h ++ [.row g1 1 (d.map bl), .row g 1 (o.map i64)] ∧ s2 = [.rf (h.length + 1) g 0 o.length, .rf h.length g1 0 p.funcs.length, .fp (encProgram p), i64 p.funcs.length]) ∧ p.funcs.length - rfLen (nthA s2 0) < p.funcs.length - o.length⟩ := fun e => by
    subst e
    obtain ⟨j, hj, hr, hb, rfl, rfl⟩ := hI
    rw [orderF_some hj hr hb] at hR
    refine wk_ex (And.intro ⟨d.set j true, o ++ [(j : Int)], g', m', by simp [hd], by simp; omega, hR, rfl, rfl⟩ ?_)
    simp; omega
  have hno : fd = false → i = p.funcs.length → retW nilS (h ++ [.row g1 1 (d'.map bl), .row g' 1 (o'.map i64)]) Q := fun e1 e2 => by
    subst e1
    obtain ⟨rfl, rfl, hb⟩ := hI
    refine hnil _ ?_
    rw [← hR, orderF_none (fun j hj => hb j (by omega))]
  refine ⟨fun hil => ⟨fun hff => ?_, fun hft => ⟨fun h => (by rw [hft] at h; cases h), hyes⟩⟩, fun hil => ⟨fun hff => hno hff (by omega), hyes⟩⟩
  clear hyes hno
  subst hff
  obtain ⟨rfl, rfl, hb⟩ := hI
  obtain ⟨f, hf⟩ : ∃ f, p.funcs[i]? = some f := ⟨_, List.getElem?_eq_getElem hil⟩
  obtain ⟨_, hfl⟩ := List.getElem?_eq_some_iff.1 hf
  obtain ⟨b, hbb⟩ : ∃ b, d'[i]? = some b := ⟨_, List.getElem?_eq_getElem (by omega)⟩
  obtain ⟨_, hbl⟩ := List.getElem?_eq_some_iff.1 hbb
  have hfs := small_ff (small_f hs hf)
  have hR1 : rdyF p d' i = (!b && allN f.code.length (fun k => rdyI d' (f.code.getD k zInstr))) := by
    unfold rdyF; rw [getD_of hf, getD_of hbb]
  have hnot : rdyF p d' i = false → CoI p d' o' false (i + 1) d' o' := fun e => ⟨rfl, rfl, fun k hk => by
    rcases Nat.lt_succ_iff_lt_or_eq.1 hk with h | rfl
    · exact hb k h
    · exact e⟩
  refine jn_cut (fun s h' => ∃ (d2 : List Bool) (o2 : List Int) (g3 : Nat) (fd : Bool), CoI p d' o' fd (i + 1) d2 o2 ∧ h' = h ++ [.row g1 1 (d2.map bl), .row g3 1 (o2.map i64)] ∧ s = [.rf (h.length + 1) g3 0 o2.length, .rf h.length g1 0 p.funcs.length, .fp (encProgram p), i64 p.funcs.length, bl fd, i64 i]) ?_ ?_
  rotate_left
  · rintro _ _ ⟨d2, o2, g3, fd, hI, rfl, rfl⟩
    simp [↓go]
    rw [w64 (by omega) (by omega)]
    refine wk_ex (And.intro ⟨i + 1, d2, o2, g3, fd, by omega, hI, rfl, rfl⟩ ?_)
    simp; omega
  simp [↓go, hbb, hd, hil, hbl, hf, hfl]
  refine ⟨fun hbt => ?_, fun hbf => ?_⟩
  · refine wk_ex ⟨d', o', g', false, hnot (by rw [hR1, hbt]; rfl), rfl, rfl⟩
  rw [hbf, Bool.not_false, Bool.true_and] at hR1
  refine lp_inv (fun s h' => ∃ (k : Nat) (r : Bool), k ≤ f.code.length ∧ r = allN k (fun k => rdyI d' (f.code.getD k zInstr)) ∧ h' = h ++ [.row g1 1 (d'.map bl), .row g' 1 (o'.map i64)] ∧ s = [.rf (h.length + 1) g' 0 o'.length, .rf h.length g1 0 p.funcs.length, .fp (encProgram p), i64 p.funcs.length, ff, i64 i, bl r, i64 k, encL encInstr f.code, i64 f.code.length]) (fun s _ => f.code.length - natA (nthA s 7)) (Wk.refl ⟨0, true, by omega, rfl, rfl, rfl⟩) ?_
  rintro _ _ ⟨k, r, hk, hr, rfl, rfl⟩
  simp [↓go]
  refine ⟨fun hkl => ?_, fun hkl => ⟨fun hrt => ?_, fun hrf => ?_⟩⟩
  · obtain ⟨x, hx⟩ : ∃ x, f.code[k]? = some x := ⟨_, List.getElem?_eq_getElem hkl⟩
    obtain ⟨_, hxl⟩ := List.getElem?_eq_some_iff.1 hx
    refine jn_cut (fun s h' => h' = h ++ [.row g1 1 (d'.map bl), .row g' 1 (o'.map i64)] ∧ s = [.rf (h.length + 1) g' 0 o'.length, .rf h.length g1 0 p.funcs.length, .fp (encProgram p), i64 p.funcs.length, ff, i64 i, bl (r && rdyI d' x), encL encInstr f.code, i64 f.code.length, i64 k]) ?_ ?_
    · simp [↓go, hx, hxl, hkl, encInstr]
      intro g3
      refine ⟨fun hrt => ⟨fun hop => ?_, fun hop => ?_⟩, fun hrf => ?_⟩
      · refine wk_pre (l := [_, _]) (m := [_]) ⟨rfl, ?_⟩
        simp [rdyI, hop, hrt]
      · obtain ⟨hc0, hc1⟩ := hcalls i f k x hf hx hop
        obtain ⟨c, hc⟩ : ∃ c, d'[x.a.toNat]? = some c := ⟨_, List.getElem?_eq_getElem (by omega)⟩
        obtain ⟨hcl, hcc⟩ := List.getElem?_eq_some_iff.1 hc
        simp [hc]
        refine ⟨by omega, by omega, by omega, ?_⟩
        refine wk_pre (l := [_, _]) (m := [_]) ⟨rfl, ?_⟩
        simp [rdyI, hop, hc, hrt]
      · refine wk_pre (l := [_, _]) (m := [_]) ⟨rfl, ?_⟩
        simp [hrf]
    · rintro _ _ ⟨rfl, rfl⟩
      simp [↓go]
      rw [w64 (by omega) (by omega)]
      refine wk_ex (And.intro ⟨k + 1, r && rdyI d' x, by omega, by rw [allN_succ, hr, getD_of hx], rfl, rfl⟩ ?_)
      simp; omega
  · obtain rfl : k = f.code.length := by omega
    refine ⟨by omega, by omega, fun g5 => ⟨by omega, by unfold maxLen; omega, fun g6 => ?_⟩⟩
    refine wk_pre (l := [_, _]) (m := [_]) ?_
    refine ⟨d'.set i true, o' ++ [(i : Int)], g6, true, ⟨i, hil, by rw [hR1, ← hr]; exact hrt, hb, rfl, rfl⟩, ?_, ?_⟩
    · simp [List.take_of_length_le, List.map_set]
    · simp
  · obtain rfl : k = f.code.length := by omega
    exact wk_ex ⟨d', o', g', false, hnot (by rw [hR1, ← hr]; exact hrf), rfl, rfl⟩
theorem S_law_FnExactCallOrder {p : MProgram} {h : AHeap} {Q : KA} (op : okProgram p) (q : Q tt h) : @clM Try.prog 4 [encProgram p] h ⟨Q⟩ := by
  refine cl_wk ?_
  refine cl_of fn_laws_FnExactCallOrder (D_laws_FnExactCallOrder_of ?_)
  unfold D_laws_FnExactCallOrder
  simp [↓go]
  refine S_szProgram (by omega) op ?_ (fun hp => ?_)
  · simp [↓go]
    exact retW_ex (Wk.refl q)
  have hp : szProgram p ≤ 1048576 := by omega
  have hms := small_fld hp
  have hcl := callOrder_len p
  have hcs : szL (fun _ => 0) (callOrder p) ≤ 1048576 := by rw [szL_zero]; omega
  have hmk : (markL true ((callOrder p).map i64) 1).2 ≤ 4611686018427387904 := by
    have := mk_le (e := i64) (f := fun _ => 0) mbI64 (callOrder p) 1
    rw [szL_zero] at this; omega
  have hmp : (markT false (encProgram p) 1).2 ≤ 4611686018427387904 := by
    have := mvProgram p 1; omega
  have hmp1 := markT_le false (encProgram p) 1
  simp [↓go]
  refine ⟨fun h1 => by omega, fun _ => ?_⟩
  refine S_toProgram hp ?_
  refine S_specCallOrder hp ?_
  simp [↓go]
  refine O_toProgram hp (fun y l hm => ?_)
  obtain ⟨ra, oa, ba, _⟩ := hm
  have hQ : ∀ H : AHeap, (∀ r, r < h.length → H[r]? = h[r]?) → retW tt H (fun y h1 => Wk [y] h1 (fun s h2 => Q (nthA s 0) h2)) := fun H hH => retW_ex (Wk.sub (h' := h) (fun r g z xs hr => by rw [hH r (List.getElem?_eq_some_iff.1 hr).1]; exact hr) (Wk.refl q))
  have hlen : h.length ≤ (h ++ l).length := by simp
  have hpre : ∀ r, r < h.length → (h ++ l)[r]? = h[r]? := fun r hr => List.getElem?_append_left hr
  generalize h ++ l = H at *
  rw [encProgram_eq] at oa
  obtain ⟨cs, rfl, oc⟩ := oa.agg_inv2
  obtain ⟨c0, _, _, rfl, oc0⟩ := oc.cons_ex
  obtain ⟨c1, _, _, rfl, oc1⟩ := oc0.cons_ex
  obtain ⟨c2, _, _, rfl, oc2⟩ := oc1.cons_ex
  obtain ⟨c3, _, _, rfl, oc3⟩ := oc2.cons_ex
  obtain ⟨rfl, -⟩ := oc3.nil_inv
  obtain ⟨f0, a0, g0⟩ : c0.flat = [c0] ∧ c0.c1 = true ∧ c0.isAgg = false := by
    obtain ⟨t, qs, e, o, _⟩ := oc.at (i := 0) rfl
    cases e
    exact o.sl_cell
  obtain ⟨f1, a1, g1⟩ : c1.flat = [c1] ∧ c1.c1 = true ∧ c1.isAgg = false := by
    obtain ⟨t, qs, e, o, _⟩ := oc.at (i := 1) rfl
    cases e
    exact o.sl_cell
  obtain ⟨f2, a2, g2⟩ : c2.flat = [c2] ∧ c2.c1 = true ∧ c2.isAgg = false := by
    obtain ⟨t, qs, e, o, _⟩ := oc.at (i := 2) rfl
    cases e
    exact o.sl_cell
  obtain ⟨f3, a3, g3⟩ : c3.flat = [c3] ∧ c3.c1 = true ∧ c3.isAgg = false := by
    obtain ⟨t, qs, e, o, _⟩ := oc.at (i := 3) rfl
    cases e
    exact o.sl_cell
  rw [← encProgram_eq] at oa
  simp [↓go, f0, a0, g0, f1, a1, g1, f2, a2, g2, f3, a3, g3]
  intro gb
  have oa1 : Own (H ++ [AObj.row gb 4 [.agg [c0, c1, c2, c3]]]) _ _ _ := oa.grow
  refine cl_borrow1 (ts := [encProgram p]) (t := encL i64 (callOrder p)) rfl (bor1 (.inr ⟨ra, oa1⟩)) (O_implCallOrder hp (fun y l hm => ⟨l, rfl, hm⟩)) (fun y1 l1 m1 => ?_)
  obtain ⟨rb, ob, bb, _⟩ := m1
  obtain ⟨k0, k1, k2⟩ := ob.sl_cell
  refine cl_borrow0 (.bool true) (ts := [encL i64 (callOrder p), encL i64 (callOrder p)]) rfl (bor2 (.inr ⟨rb, ob⟩) (.inl rfl)) (S_eqInt64S hcs ⟨rfl, rfl⟩) ?_
  simp [↓go]
  refine jn_cut (fun s h' => h' = H ++ (AObj.row gb 4 [.agg [c0, c1, c2, c3]] :: l1) ∧ s = [y1, encL i64 (callOrder p), .fp (encProgram p), .pt H.length gb 0 0, ff]) ?_ ?_
  · have ea : H ++ [AObj.row gb 4 [.agg [c0, c1, c2, c3]]] ++ l1 = H ++ (AObj.row gb 4 [.agg [c0, c1, c2, c3]] :: l1) := by simp
    rw [ea]
    have heq : ∀ J : KS, J [y1, encL i64 (callOrder p), .fp (encProgram p), .pt H.length gb 0 0, ff] (H ++ (AObj.row gb 4 [.agg [c0, c1, c2, c3]] :: l1)) → @clM Try.prog 11 [.agg [c0, c1, c2, c3], encProgram p] (H ++ (AObj.row gb 4 [.agg [c0, c1, c2, c3]] :: l1)) ⟨fun x20 h20 => unM .not x20 h20 fun x21 h21 => @wkM [y1, encL i64 (callOrder p), .fp (encProgram p), .pt H.length gb 0 0, x21] h21 ⟨J⟩⟩ := fun J hJ => by
      refine cl_borrow0 (.bool true) (ts := [encProgram p, encProgram p]) rfl (bor2 (.inr ⟨ra, oa.grow⟩) (.inl rfl)) (S_eqProgram hp ⟨rfl, rfl⟩) ?_
      simp [↓go]
      exact wk_ex hJ
    simp [↓go, f0, a0, g0, f1, a1, g1, f2, a2, g2, f3, a3, g3]
    refine ⟨S_toProgram hp (heq _ ⟨rfl, rfl⟩), S_toProgram hp ?_⟩
    simp [↓go, f0, a0, g0, f1, a1, g1, f2, a2, g2, f3, a3, g3]
    exact heq _ ⟨rfl, rfl⟩
  · rintro _ _ ⟨rfl, rfl⟩
    simp [↓go, f0, a0, g0, f1, a1, g1, f2, a2, g2, f3, a3, g3]
    refine M_markProgram (oa.grow (l := AObj.row gb 4 [.agg [c0, c1, c2, c3]] :: l1)) (by omega) hmp (fun H2 om fm lm => ?_)
    have ob2 : Own H2 [y1] [encL i64 (callOrder p)] rb := by
      refine Own.frame (h := H ++ [AObj.row gb 4 [.agg [c0, c1, c2, c3]]] ++ l1) ob (fun r hr => ?_)
      rw [fm r (fun hm => by have h1 := oa.lt r hm; have h2 := bb r hr; simp at h2; omega)]
      simp
    have hpre2 : ∀ r, r < h.length → H2[r]? = h[r]? := fun r hr => by
      rw [fm r (fun hm => by have h1 := ba r hm; omega), List.getElem?_append_left (by omega)]
      exact hpre r hr
    have hrb : ∀ r ∈ rb, h.length ≤ r := fun r hr => by have := bb r hr; simp at this; omega
    clear fm ob oa1
    refine jn_cut (fun s h' => h' = H2 ∧ s = [y1, encL i64 (callOrder p), .fp (encProgram p), ff]) ?_ ?_
    · simp [↓go]
      refine ⟨fun hh => by omega, fun _ => ?_⟩
      refine cl_borrow0 (.bool true) (ts := [encL i64 (callOrder p), encL i64 (callOrder p)]) rfl (bor2 (.inr ⟨rb, ob2⟩) (.inl rfl)) (S_eqInt64S hcs ⟨rfl, rfl⟩) ?_
      simp [↓go]
      exact wk_ex ⟨rfl, rfl⟩
    rintro _ _ ⟨rfl, rfl⟩
    simp [↓go]
    refine M_markInt64S ob2 (by omega) hmk (fun H3 o3 f3 l3 => ?_)
    have hpre3 : ∀ r, r < h.length → H3[r]? = h[r]? := fun r hr => by
      rw [f3 r (fun hm => by have := hrb r hm; omega)]; exact hpre2 r hr
    have hm1 := markL_le true ((callOrder p).map i64) 1
    refine cl_borrow0 (.int .i64 (markL true ((callOrder p).map i64) 1).2) (ts := [.sl (markL true ((callOrder p).map i64) 1).1, i64 1]) rfl (bor2 (.inr ⟨rb, o3⟩) (.inl rfl)) (F_heldInt64S (by omega) (Nat.le_trans hcs (by omega)) hmk ⟨rfl, rfl⟩) ?_
    simp [↓go]
    refine ⟨fun hh => by omega, fun _ => ?_⟩
    refine S_toProgram hp ?_
    refine cl_frozen (t := encL i64 (callOrder p)) (O_implCallOrder hp (fun y l hm => ⟨l, rfl, hm⟩)) ?_
    refine S_eqInt64S hcs ?_
    simp [↓go]
    refine cl_borrow0 (.int .i64 (markL true ((callOrder p).map i64) 1).2) (ts := [.sl (markL true ((callOrder p).map i64) 1).1, i64 1]) rfl (bor2 (.inr ⟨rb, o3⟩) (.inl rfl)) (F_heldInt64S (by omega) (Nat.le_trans hcs (by omega)) hmk ⟨rfl, rfl⟩) ?_
    simp [↓go]
    refine ⟨fun hh => by omega, fun _ => ?_⟩
    exact hQ H3 hpre3
end Go.Proofs.Ytkfpoagnchahkaa.A
