/- Of this session: over the abstract machine. -/
import Derived.Test.YtkfpoagnchahkaaGreatProg
import Derived.Test.YtkfpoagnchahkaaGreatA
import Derived.Test.YtkfpoagnchahkaaGreatB
import Derived.Test.YtkfpoagnchahkaaGreatD
import Derived.Test.YtkfpoagnchahkaaGreatT
import Derived.Test.YtkfpoagnchahkaaGreatO
import Derived.Test.YtkfpoagnchahkaaGreatOT
import Derived.Test.YtkfpoagnchahkaaGreatP1
import Derived.Test.YtkfpoagnchahkaaGreatP2
import Derived.Test.YtkfpoagnchahkaaGreatP3
import Derived.Test.YtkfpoagnchahkaaGreatP4
import Derived.Test.YtkfpoagnchahkaaGreatP5
import Derived.Test.YtkfpoagnchahkaaGreatO8
import Derived.Test.YtkfpoagnchahkaaGreatDC0
import Derived.Test.YtkfpoagnchahkaaGreatDC1
import Derived.Test.YtkfpoagnchahkaaGreatDC2
import Derived.Test.YtkfpoagnchahkaaGreatDC3
import Derived.Test.YtkfpoagnchahkaaGreatDC4
import Derived.Test.YtkfpoagnchahkaaGreatDC5
namespace Go.Proofs.YtkfpoagnchahkaaGreat.A
open Go Go.RowKit
set_option linter.unusedVariables false
set_option linter.unusedSimpArgs false
set_option maxRecDepth 100000
set_option maxHeartbeats 1000000
/-! ### the reader of the specification -/
theorem Got.bind {α β : Type} {b b1 b2 : Bool} {o : Option (α × List Int)} {f : α × List Int → Option (β × List Int)} {x : α} {y : β} {r1 r2 : List Int} (h1 : Got b1 b o x r1) (h2 : Got b2 b1 (f (x, r1)) y r2) : Got b2 b (o.bind f) y r2 := by
  refine ⟨fun h => ?_, fun h => ?_⟩
  · obtain ⟨e1, e2⟩ := h2.1 h
    obtain ⟨e3, e4⟩ := h1.1 e1
    exact ⟨e3, by rw [e4]; exact e2⟩
  · have key : b1 = true → b = true ∨ o.bind f = none := fun hb => by
      rcases h1.2 hb with e | e
      · exact .inl e
      · exact .inr (by rw [e]; rfl)
    rcases h2.2 h with e | e
    · exact key e
    · cases hb : b1 with
      | true => exact key hb
      | false => exact .inr (by rw [(h1.1 hb).2]; exact e)
theorem Got.pure {α : Type} {b : Bool} {y : α} {r : List Int} : Got b b (some (y, r)) y r := ⟨fun h => ⟨h, rfl⟩, fun h => .inl h⟩
theorem S_l3GetU {bs : List Int} {a n kr gr : Nat} {b : Bool} {H : AHeap} {Q : KA} (hl : bs.length ≤ 1099511627776) (hw : okB bs) (ha : a ≤ bs.length) (hn : 1 ≤ n ∧ n ≤ 4) (hr : H[kr]? = some (sR gr bs a b))
    (q : ∀ v a' b' H', Upd kr H H' (sR gr bs a' b') → a' ≤ bs.length → Got b' b (gtN n (bs.drop a)) v (bs.drop a') → 0 ≤ v ∧ v < 2 ^ (8 * n) → Q (i64 v) H') : @clM Tryz.prog 102 [.pt kr gr 0 0, i64 n] H ⟨Q⟩ := by
  have hk := (List.getElem?_eq_some_iff.1 hr).1
  refine S_l3Get hl hw ha (by omega) hr (fun hb v hv hle => ?_) (fun hb => ?_)
  · exact q v (a + n) false _ (.set hk) hle ⟨fun _ => ⟨hb, hv⟩, fun h => (by cases h)⟩ (gtN_range (fun x hx => hw x (List.mem_of_mem_drop hx)) hn.2 hv)
  · have hpos : (0 : Int) < 2 ^ (8 * n) := by
      have e : (2 : Int) ^ (8 * n) = ((2 ^ (8 * n) : Nat) : Int) := by simp
      have h := Nat.two_pow_pos (8 * n)
      rw [e]; exact_mod_cast h
    exact q 0 a true _ (.set hk) ha ⟨fun h => (by cases h), fun _ => hb⟩ ⟨Int.le_refl 0, hpos⟩
theorem O_l3GetList {bs : List Int} {a kr gr : Nat} {b : Bool} {c : Int} {H : AHeap} {Q : KA} (hl : bs.length ≤ 1099511627776) (hw : okB bs) (ha : a ≤ bs.length) (hc : c ≤ 70000) (hc0 : -9223372036854775808 ≤ c) (hr : H[kr]? = some (sR gr bs a b))
    (q : ∀ vs a' b' H' y l2, Upd kr H H' (sR gr bs a' b') → a' ≤ bs.length → Got b' b (gtMany (gtN 1) c.toNat (bs.drop a)) vs (bs.drop a') → Made H' y (encL i64 vs) l2 → Q y (H' ++ l2)) : @clM Tryz.prog 101 [.pt kr gr 0 0, i64 c] H ⟨Q⟩ := by
  refine cl_of fn_spec_l3GetList (D_spec_l3GetList_of ?_)
  unfold D_spec_l3GetList
  simp [↓go]
  intro g0
  refine lp_inv (fun s h' => ∃ (acc : List Int) (g a1 : Nat) (b1 : Bool) (H1 : AHeap), (acc.length : Int) ≤ max c 0 ∧ Upd kr H H1 (sR gr bs a1 b1) ∧ a1 ≤ bs.length ∧ (b1 = false → b = false ∧ GtI (gtN 1) (gtMany (gtN 1) c.toNat (bs.drop a)) acc (c.toNat - acc.length) (bs.drop a1)) ∧ (b1 = true → b = true ∨ gtMany (gtN 1) c.toNat (bs.drop a) = none) ∧
    h' = H1 ++ [.row g 1 (acc.map i64)] ∧ s = [.rf H.length g 0 acc.length, i64 acc.length, .pt kr gr 0 0, i64 c]) (fun s _ => c.toNat - natA (nthA s 1)) (Wk.refl ⟨[], g0, a, b, H, by simp; omega, .refl hr, ha, ?_, ?_, ?_, ?_⟩) ?_
  · intro hb; exact ⟨hb, .start⟩
  · intro hb; exact .inl hb
  · simp
  · simp
  rintro _ _ ⟨acc, g, a1, b1, H1, hal, hu, ha1, hg1, hg2, rfl, rfl⟩
  have hap : ∀ l, (H1 ++ l)[kr]? = some (sR gr bs a1 b1) := fun l => app_get hu.at_
  have hfin : ∀ (bb : Bool), b1 = bb → (bb = false → c ≤ acc.length) → retW (.rf H.length g 0 acc.length) (H1 ++ [AObj.row g 1 (acc.map i64)]) Q := fun bb hb hle => by
    rw [← hu.len]
    refine wk_of (Wk.made (rs := [H1.length]) (Own.rf_mk (s := 1) (ys := acc.map i64) (by simp) (by simp) (Own.map (fun x => .v rfl .nil) _) (by simp)) (by simp) (fun l' hm => q _ _ _ _ _ _ hu ha1 (And.intro (fun h => ?_) hg2) hm))
    obtain ⟨h1, h2⟩ := hg1 h
    have := hle (hb.symm.trans h)
    rw [show c.toNat - acc.length = 0 by omega] at h2
    exact ⟨h1, h2.fin⟩
  have hua := hu.at_
  unfold sR at hap
  simp [↓go, hap]
  refine ⟨fun hlt => ⟨fun hb => ?_, fun hb => hfin true hb (fun h => by cases h)⟩, fun hge => hfin b1 rfl (fun _ => hge)⟩
  obtain ⟨hb0, hgi⟩ := hg1 hb
  refine S_l3GetA (n := 1) hl hw ha1 (by omega) hua (fun v a2 b2 H2 hu2 ha2 hgot => ?_)
  have hu2' := hu.trans hu2
  have hg3 : ∀ (R : AHeap), (H2 ++ AObj.row g 1 (acc.map i64) :: R)[H.length]? = some (.row g 1 (acc.map i64)) := fun R => get_midH hu2'.len
  have hs3 : ∀ (R : AHeap) (y : AObj), (H2 ++ AObj.row g 1 (acc.map i64) :: R).set H.length y = H2 ++ (y :: R) := fun R y => set_midH hu2'.len
  have hwr := w64 (n := (acc.length : Int) + 1) (by omega) (by omega)
  simp [↓go, hg3, hs3, hwr]
  intro g5
  refine ⟨by omega, by unfold maxLen; omega, fun g6 => ?_⟩
  rw [List.take_of_length_le (by simp)]
  have hsp : c.toNat - acc.length = (c.toNat - (acc ++ [v]).length) + 1 := by simp; omega
  rw [hsp] at hgi
  have e : H2 ++ [AObj.row g6 1 (acc.map i64 ++ [i64 v]), AObj.row g5 1 [i64 v]] = H2 ++ ([AObj.row g6 1 ((acc ++ [v]).map i64)] ++ [AObj.row g5 1 [i64 v]]) := by simp
  rw [e]
  refine wk_pre ?_
  refine ⟨⟨acc ++ [v], g6, a2, b2, H2, by simp; omega, hu2', ha2, fun h => ⟨hb0, hgi.step (hgot.1 h).2⟩, fun h => ?_, rfl, by simp⟩, by simp; omega⟩
  rcases hgot.2 h with h1 | h1
  · rw [hb] at h1; cases h1
  · exact .inr (hgi.bad h1)
/-- a loop that reads while nothing is bad -/
def GL {α : Type} (f : List Int → Option (α × List Int)) (tot : Option (List α × List Int)) (b0 b1 : Bool) (acc : List α) (k : Nat) (r : List Int) : Prop :=
  (b1 = false → b0 = false ∧ GtI f tot acc k r) ∧ (b1 = true → b0 = true ∨ tot = none)
theorem GL.start {α : Type} {f : List Int → Option (α × List Int)} {k : Nat} {r : List Int} {b : Bool} : GL f (gtMany f k r) b b [] k r := ⟨fun h => ⟨h, .start⟩, fun h => .inl h⟩
theorem GL.step {α : Type} {f : List Int → Option (α × List Int)} {tot : Option (List α × List Int)} {b0 b1 b2 : Bool} {acc : List α} {k : Nat} {r r' : List Int} {v : α} (h : GL f tot b0 b1 acc (k + 1) r) (hv : Got b2 b1 (f r) v r') : GL f tot b0 b2 (acc ++ [v]) k r' := by
  refine ⟨fun e => ?_, fun e => ?_⟩
  · obtain ⟨e1, e2⟩ := hv.1 e
    obtain ⟨h0, hg⟩ := h.1 e1
    exact ⟨h0, hg.step e2⟩
  · rcases hv.2 e with e1 | e1
    · exact h.2 e1
    · cases hb : b1 with
      | true => exact h.2 hb
      | false => exact .inr ((h.1 hb).2.bad e1)
theorem GL.fin {α : Type} {f : List Int → Option (α × List Int)} {tot : Option (List α × List Int)} {b0 b1 : Bool} {acc : List α} {k : Nat} {r : List Int} (h : GL f tot b0 b1 acc k r) (hk : b1 = true ∨ k = 0) : Got b1 b0 tot acc r := by
  refine ⟨fun hb => ?_, h.2⟩
  obtain ⟨h0, hg⟩ := h.1 hb
  rcases hk with e | e
  · rw [hb] at e; cases e
  · subst e; exact ⟨h0, hg.fin⟩
theorem BX.start {kr : Nat} {H H3 l : AHeap} {ro' o1 : AObj} {gb sb : Nat} {cs ts : List AVal} {rs : List Nat} (hk : kr < H.length) (hu : Upd kr (H ++ [o1]) H3 ro') (ho : Own (H3 ++ l) cs ts rs) (hb : ∀ r ∈ rs, H3.length ≤ r) :
    BX kr H.length H (H3 ++ (l ++ [.row gb sb [.agg cs]])) ro' H.length o1 (H3 ++ l).length gb sb cs ts rs := by
  have h3 := hu.len
  simp at h3
  rw [List.length_append]
  refine ⟨fun r hr hne => ?_, app_get hu.at_, ?_, ?_, ?_, fun r hr => ?_, ⟨hk, Nat.le_refl _, by omega⟩⟩
  · rw [List.getElem?_append_left (by omega), hu.oth r hne, List.getElem?_append_left hr]
  · rw [List.getElem?_append_left (by omega), hu.oth _ (by omega)]; simp
  · rw [← List.append_assoc]; exact get_midH (by simp)
  · rw [← List.append_assoc]; exact ho.frame (fun r hr => List.getElem?_append_left (ho.lt r hr))
  · have h1 := hb r hr
    have h2 := ho.lt r hr
    simp at h2
    omega
theorem O_l3GetFunc {bs : List Int} {a kr gr : Nat} {b : Bool} {H : AHeap} {Q : KA} (hl : bs.length ≤ 1099511627776) (hw : okB bs) (ha : a ≤ bs.length) (hr : H[kr]? = some (sR gr bs a b))
    (q : ∀ f a' b' H' y l2, Upd kr H H' (sR gr bs a' b') → a' ≤ bs.length → Got b' b (gtFunc (bs.drop a)) f (bs.drop a') → Made H' y (encFunc f) l2 → Q y (H' ++ l2)) : @clM Tryz.prog 103 [.pt kr gr 0 0] H ⟨Q⟩ := by
  refine cl_of fn_spec_l3GetFunc (D_spec_l3GetFunc_of ?_)
  unfold D_spec_l3GetFunc
  have hk := (List.getElem?_eq_some_iff.1 hr).1
  simp [↓go]
  intro g1
  refine S_l3GetU (n := 1) hl hw ha (by omega) (app_get hr) (fun c1 a1 b1 H2 hu ha1 hg1 hc1 => ?_)
  refine O_l3GetList hl hw ha1 (by omega) (by omega) hu.at_ (fun ps a2 b2 H3 y1 l1 hu2 ha2 hg2 hm => ?_)
  replace hu := hu.trans hu2
  obtain ⟨r1, oy, hb, -⟩ := hm
  have hfl := oy.sl_cell
  simp [↓go, hfl.1, hfl.2.1, hfl.2.2]
  intro g3
  have bx := BX.start (gb := g3) (sb := 4) (cs := [y1, i64 0, nilS, nilS]) (ts := [encL i64 ps, i64 0, .sl [], .sl []]) (rs := r1) hk hu (by have h := oy.app (ys := [i64 0, nilS, nilS]) (us := [i64 0, .sl [], .sl []]) (.v rfl (.nl (.nl .nil))) (by simp); rw [List.append_nil] at h; exact h) hb
  generalize H3 ++ (l1 ++ [AObj.row g3 4 [.agg [y1, i64 0, nilS, nilS]]]) = H4 at bx ⊢
  generalize (H3 ++ l1).length = kb at bx ⊢
  clear hu hu2 oy hb
  refine S_l3GetU (n := 1) hl hw ha2 (by omega) bx.rd (fun res a3 b3 H5 hu ha3 hg3 hres => ?_)
  replace bx := bx.upd hu
  have hbx := bx.box
  simp [↓go, hbx]
  obtain ⟨rs2, bx1⟩ := bx.putv (x := .int .i64 res) 1 (by simp) rfl
  replace bx := bx1
  simp only [List.set_cons_zero, List.set_cons_succ] at bx
  generalize H5.set kb _ = H6 at bx ⊢
  refine S_l3GetU (n := 1) hl hw ha3 (by omega) bx.rd (fun c2 a4 b4 H7 hu ha4 hg4 hc2 => ?_)
  replace bx := bx.upd hu
  refine O_l3GetList hl hw ha4 (by omega) (by omega) bx.rd (fun ls a5 b5 H8 y2 l2 hu ha5 hg5 hm => ?_)
  replace bx := bx.upd hu
  obtain ⟨r2, oy2, hb2, -⟩ := hm
  have hfl2 := oy2.sl_cell
  have hbx := (bx.grow (l := l2)).box
  simp [↓go, hbx, hfl.1, hfl.2.1, hfl.2.2, hfl2.1, hfl2.2.1, hfl2.2.2]
  obtain ⟨rs3, bx1⟩ := bx.put1 2 (by simp) oy2 hb2
  replace bx := bx1
  simp only [List.set_cons_zero, List.set_cons_succ] at bx
  generalize (H8 ++ l2).set kb _ = H9 at bx ⊢
  refine S_l3GetU (n := 2) hl hw ha5 (by omega) bx.rd (fun c4 a6 b6 H10 hu ha6 hg6 hc4 => ?_)
  replace bx := bx.upd hu
  clear hu oy2 hb2 hbx bx1
  refine lp_inv (fun s h' => ∃ (acc : List MInstr) (C : AVal) (a1 : Nat) (b1 : Bool) (rs : List Nat), (acc.length : Int) ≤ c4 ∧ BX kr H.length H h' (sR gr bs a1 b1) H.length (.row g1 4 [.agg [nilS, i64 0, nilS, nilS]]) kb g3 4 [y1, i64 res, y2, C] [encL i64 ps, i64 res, encL i64 ls, encL encInstr acc] rs ∧ rowSz h' C 4 ∧
    (C.flat = [C] ∧ C.c1 = true ∧ C.isAgg = false) ∧ a1 ≤ bs.length ∧ GL gtInstr (gtMany gtInstr c4.toNat (bs.drop a6)) b6 b1 acc (c4.toNat - acc.length) (bs.drop a1) ∧
    s = [.pt H.length g1 0 0, .pt kb g3 0 0, i64 (c4 - acc.length), .pt kr gr 0 0]) (fun s _ => natA (nthA s 2)) (Wk.refl ⟨[], nilS, a6, b6, _, by simp; omega, bx, trivial, ⟨rfl, rfl, rfl⟩, ha6, .start, by simp⟩) ?_
  clear bx
  rintro _ H1 ⟨acc, C, a7, b7, rs, hal, bx, hsz, hCf, ha7, hgi, rfl⟩
  have hrd : ∀ l, (H1 ++ l)[kr]? = some (sR gr bs a7 b7) := fun l => app_get bx.rd
  have hrd0 := bx.rd
  unfold sR at hrd0
  simp [↓go, hrd0]
  refine (fun (hexit : (b7 = true ∨ c4.toNat - acc.length = 0) → _) => ⟨fun hlt => ⟨fun hb => ?body, fun hb => hexit (.inl hb)⟩, fun hge => hexit (.inr (by omega))⟩) ?exit
  case body =>
    subst hb
    have hsp : c4.toNat - acc.length = (c4.toNat - (acc.length + 1)) + 1 := by omega
    rw [hsp] at hgi
    refine S_l3GetU (n := 1) hl hw ha7 (by omega) bx.rd (fun v1 b1 f1 H2 hu hb1 hv1 hr1 => ?_)
    replace hsz := bx.sz 3 rfl hsz (fun r hr => hu.oth r (bx.nkr r hr))
    replace bx := bx.upd hu
    have hlen := bx.len
    have hnx : H2.length ∉ rs := fun hm => by have := bx.own.lt _ hm; omega
    have hxr : H2.length ≠ kr := by have := bx.kk; omega
    simp [↓go]
    intro gx
    have hx : (H2 ++ [AObj.row gx 4 [.agg [i64 v1, i64 0, i64 0, i64 0]]])[H2.length]? = some (.row gx 4 [.agg [i64 v1, i64 0, i64 0, i64 0]]) := by simp
    replace hsz := bx.sz 3 rfl hsz (H' := H2 ++ [AObj.row gx 4 [.agg [i64 v1, i64 0, i64 0, i64 0]]]) (fun r hr => List.getElem?_append_left (bx.own.lt r hr))
    replace bx := bx.grow (l := [AObj.row gx 4 [.agg [i64 v1, i64 0, i64 0, i64 0]]])
    generalize H2 ++ [AObj.row gx 4 [.agg [i64 v1, i64 0, i64 0, i64 0]]] = H3 at *
    have hx0 : H1.length ≤ H2.length := by rw [hu.len]; omega
    generalize H2.length = kx at *
    clear hu
    refine S_l3GetU (n := 1) hl hw hb1 (by omega) bx.rd (fun v2 b2 f2 H4 hu hb2 hv2 hr2 => ?_)
    replace hsz := bx.sz 3 rfl hsz (fun r hr => hu.oth r (bx.nkr r hr))
    replace bx := bx.upd hu
    replace hx := (hu.oth _ hxr).trans hx
    have hxl := (List.getElem?_eq_some_iff.1 hx).1
    simp [↓go, hx]
    replace hsz := bx.sz 3 rfl hsz (H' := H4.set kx (.row gx 4 [.agg [i64 v1, i64 v2, i64 0, i64 0]])) (fun r hr => List.getElem?_set_ne (fun e => hnx (by rw [e]; exact hr)))
    replace bx := bx.setx (o := .row gx 4 [.agg [i64 v1, i64 v2, i64 0, i64 0]]) hlen hnx
    replace hx : (H4.set kx (.row gx 4 [.agg [i64 v1, i64 v2, i64 0, i64 0]]))[kx]? = some (.row gx 4 [.agg [i64 v1, i64 v2, i64 0, i64 0]]) := List.getElem?_set_self hxl
    clear hu hxl
    generalize H4.set kx (.row gx 4 [.agg [i64 v1, i64 v2, i64 0, i64 0]]) = H5 at bx hx hsz ⊢
    refine S_l3GetU (n := 2) hl hw hb2 (by omega) bx.rd (fun v3 b3 f3 H6 hu hb3 hv3 hr3 => ?_)
    replace hsz := bx.sz 3 rfl hsz (fun r hr => hu.oth r (bx.nkr r hr))
    replace bx := bx.upd hu
    replace hx := (hu.oth _ hxr).trans hx
    have hxl := (List.getElem?_eq_some_iff.1 hx).1
    simp [↓go, hx]
    replace hsz := bx.sz 3 rfl hsz (H' := H6.set kx (.row gx 4 [.agg [i64 v1, i64 v2, i64 v3, i64 0]])) (fun r hr => List.getElem?_set_ne (fun e => hnx (by rw [e]; exact hr)))
    replace bx := bx.setx (o := .row gx 4 [.agg [i64 v1, i64 v2, i64 v3, i64 0]]) hlen hnx
    replace hx : (H6.set kx (.row gx 4 [.agg [i64 v1, i64 v2, i64 v3, i64 0]]))[kx]? = some (.row gx 4 [.agg [i64 v1, i64 v2, i64 v3, i64 0]]) := List.getElem?_set_self hxl
    clear hu hxl
    generalize H6.set kx (.row gx 4 [.agg [i64 v1, i64 v2, i64 v3, i64 0]]) = H7 at bx hx hsz ⊢
    refine S_l3GetU (n := 4) hl hw hb3 (by omega) bx.rd (fun v4 b4 f4 H8 hu hb4 hv4 hr4 => ?_)
    replace hsz := bx.sz 3 rfl hsz (fun r hr => hu.oth r (bx.nkr r hr))
    replace bx := bx.upd hu
    replace hx := (hu.oth _ hxr).trans hx
    have hxl := (List.getElem?_eq_some_iff.1 hx).1
    simp [↓go, hx]
    replace hsz := bx.sz 3 rfl hsz (H' := H8.set kx (.row gx 4 [.agg [i64 v1, i64 v2, i64 v3, i64 v4]])) (fun r hr => List.getElem?_set_ne (fun e => hnx (by rw [e]; exact hr)))
    replace bx := bx.setx (o := .row gx 4 [.agg [i64 v1, i64 v2, i64 v3, i64 v4]]) hlen hnx
    replace hx : (H8.set kx (.row gx 4 [.agg [i64 v1, i64 v2, i64 v3, i64 v4]]))[kx]? = some (.row gx 4 [.agg [i64 v1, i64 v2, i64 v3, i64 v4]]) := List.getElem?_set_self hxl
    clear hu hxl
    have hll : (H8.set kx (.row gx 4 [.agg [i64 v1, i64 v2, i64 v3, i64 v4]])).length = H8.length := by simp
    generalize H8.set kx (.row gx 4 [.agg [i64 v1, i64 v2, i64 v3, i64 v4]]) = H9 at bx hx hsz hll ⊢
    have hbx := bx.box
    have hxl := (List.getElem?_eq_some_iff.1 hx).1
    simp [↓go, hbx, hx, hCf.1, hCf.2.1, hCf.2.2]
    intro gq
    have hgi2 : GL gtInstr (gtMany gtInstr c4.toNat (bs.drop a6)) b6 f4 (acc ++ [⟨v1, v2, v3, v4⟩]) (c4.toNat - (acc.length + 1)) (bs.drop b4) := hgi.step (by unfold gtInstr; exact Got.bind hv1 (Got.bind hv2 (Got.bind hv3 (Got.bind hv4 Got.pure))))
    have hl9 := bx.len
    have hszX := bx.sz 3 rfl hsz (H' := H9 ++ [AObj.row gq 4 [encInstr ⟨v1, v2, v3, v4⟩]]) (fun r hr => List.getElem?_append_left (bx.own.lt r hr))
    have bxX := bx.grow (l := [AObj.row gq 4 [encInstr ⟨v1, v2, v3, v4⟩]])
    obtain ⟨t0, q0, e0, ow, sub, rep⟩ := bxX.put (i := 3) rfl
    cases e0
    refine appendM_own (e := 81) (s := 4) (zs := acc.map encInstr) (y := encInstr ⟨v1, v2, v3, v4⟩) (ty := encInstr ⟨v1, v2, v3, v4⟩) (ry := []) (by simp) (by simp) (by simp) (by omega) (by simp) (by simp; omega) (by simp [maxLen]; omega) ow hszX (get_midH hll) rfl rfl (owInstr _ _) (by simp) (fun C' H' rs' o' sz' b' fr' hl' kk => ?_)
    have hbk : (H9 ++ [AObj.row gq 4 [encInstr ⟨v1, v2, v3, v4⟩]])[kb]? = _ := bxX.box
    have hb' : H'[kb]? = some (.row g3 4 [.agg [y1, i64 res, y2, C]]) := (fr' kb (by simp; omega) (fun hm => by have := bxX.lo _ (sub _ hm); omega)).trans hbk
    simp [↓go, hb', kk.1, kk.2.1, kk.2.2]
    rw [w64 (by omega) (by omega)]
    have hq' : ∀ r ∈ rs', r ∈ q0 ∨ (kb < r ∧ r ∉ rs) := fun r hr => by
      rcases b' r hr with h1 | h1 | h1
      · exact .inl h1
      · cases h1
      · subst h1
        exact .inr ⟨by simp; omega, fun hm => by have := bx.own.lt _ hm; simp at this; omega⟩
    obtain ⟨rs4, bx4, -⟩ := rep H' C' (.sl (acc.map encInstr ++ [encInstr ⟨v1, v2, v3, v4⟩])) rs' o' fr' hq'
    have hkb : ∀ r ∈ rs', r ≠ kb := fun r hr e => by
      rcases hq' r hr with h1 | h1
      · have := bxX.lo _ (sub _ h1); omega
      · omega
    have hsz4 : rowSz (H'.set kb (.row g3 4 [.agg [y1, i64 res, y2, C']])) C' 4 := rowSz_fr2 o' sz' (fun r hr => List.getElem?_set_ne (fun e => hkb r hr e.symm))
    simp only [List.set_cons_zero, List.set_cons_succ] at bx4
    refine wk_ex ⟨⟨acc ++ [⟨v1, v2, v3, v4⟩], C', b4, f4, rs4, by simp; omega, ?_, hsz4, kk, hb4, ?_, ?_⟩, by simp; omega⟩
    · have e : encL encInstr (acc ++ [⟨v1, v2, v3, v4⟩]) = .sl (acc.map encInstr ++ [encInstr ⟨v1, v2, v3, v4⟩]) := by simp
      rw [e]; exact bx4
    · rw [List.length_append]; exact hgi2
    · simp; omega
  case exit =>
    intro hex
    have hfin := hgi.fin hex
    have hbx := bx.box
    have hone := bx.one
    have hkl := bx.len
    have hkk := bx.kk
    have hself : ∀ o : AObj, (H1.set H.length o)[H.length]? = some o := fun o => List.getElem?_set_self (by omega)
    simp [↓go, hbx, hone, hself, hfl.1, hfl.2.1, hfl.2.2, hfl2.1, hfl2.2.1, hfl2.2.2, hCf.1, hCf.2.1, hCf.2.2]
    have o1 : Own (H1.set H.length (.row g1 4 [.agg [y1, i64 res, y2, C]])) [.agg [y1, i64 res, y2, C]] [encFunc ⟨ps, res, ls, acc⟩] rs :=
      Own.agg_mk (bx.own.frame (fun r hr => List.getElem?_set_ne (fun e => by have := bx.lo r hr; omega)))
    obtain ⟨H', l, e, hlen, hupd⟩ := fin_split (kr := kr) (n0 := H.length) (H0 := H) (Hf := H1.set H.length (.row g1 4 [.agg [y1, i64 res, y2, C]])) (ro := sR gr bs a7 b7) rfl (fun r hr hne => by rw [List.getElem?_set_ne (by omega)]; exact bx.pre r hr hne) (by rw [List.getElem?_set_ne (by omega)]; exact bx.rd) hkk.1 (by simp; omega)
    rw [e] at o1 ⊢
    refine wk_of (Wk.made o1 (fun r hr => by have := bx.lo r hr; omega) (fun l' hm => q ⟨ps, res, ls, acc⟩ a7 b7 H' _ l' hupd ha7 ?_ hm))
    unfold gtFunc gtTypes
    exact Got.bind (Got.bind hg1 hg2) (Got.bind hg3 (Got.bind (Got.bind hg4 hg5) (Got.bind hg6 (Got.bind hfin Got.pure))))
end Go.Proofs.YtkfpoagnchahkaaGreat.A
