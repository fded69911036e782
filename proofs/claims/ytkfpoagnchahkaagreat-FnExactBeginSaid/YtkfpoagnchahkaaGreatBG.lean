/- Of this session: over the abstract machine. -/
import Derived.Test.YtkfpoagnchahkaaGreatProg
import Derived.Test.YtkfpoagnchahkaaGreatA
import Derived.Test.YtkfpoagnchahkaaGreatB
import Derived.Test.YtkfpoagnchahkaaGreatD
import Derived.Test.YtkfpoagnchahkaaGreatT
import Derived.Test.YtkfpoagnchahkaaGreatP1
import Derived.Test.YtkfpoagnchahkaaGreatP2
import Derived.Test.YtkfpoagnchahkaaGreatP3
import Derived.Test.YtkfpoagnchahkaaGreatP4
import Derived.Test.YtkfpoagnchahkaaGreatP5
import Derived.Test.YtkfpoagnchahkaaGreatVM
import Derived.Test.YtkfpoagnchahkaaGreatO
import Derived.Test.YtkfpoagnchahkaaGreatOT
namespace Go.Proofs.YtkfpoagnchahkaaGreat.A
open Go Go.RowKit
set_option linter.unusedVariables false
set_option linter.unusedSimpArgs false
set_option maxRecDepth 100000
set_option maxHeartbeats 1000000
/-! ### a list that grows -/
def rowSz (H : AHeap) (C : AVal) (s : Nat) : Prop := match C with
  | .rf r _ _ _ => ∃ g ys, H[r]? = some (.row g s ys)
  | _ => True
theorem appendM_own {P : Program} {t e s : Nat} {H : AHeap} {K : KA} {C y ty : AVal} {zs : List AVal} {rs ry : List Nat} {q gq : Nat}
    (he : slT P t = some e) (hok : okT P e = true) (hs : szT P e = s) (hs0 : 0 < s) (hz : zokT P e = true) (hb : (zs.length + 1) * byT P e ≤ 140737488355328) (hml : zs.length + 1 ≤ maxLen)
    (ho : Own H [C] [.sl zs] rs) (hC : rowSz H C s) (hq : H[q]? = some (.row gq s [y])) (hy : y.flat.length = s) (hw : y.whole = true) (oy : Own H [y] [ty] ry) (hd : ∀ r ∈ ry, r ∉ rs)
    (hK : ∀ C' H' rs', Own H' [C'] [.sl (zs ++ [ty])] rs' → rowSz H' C' s → (∀ r ∈ rs', r ∈ rs ∨ r ∈ ry ∨ r = H.length) → (∀ r, r < H.length → r ∉ rs → H'[r]? = H[r]?) → H.length ≤ H'.length → C'.flat = [C'] ∧ C'.c1 = true ∧ C'.isAgg = false → K C' H') : appendM P t t C (.rf q gq 0 1) H K := by
  refine ⟨?_⟩
  unfold appendM_b
  have hel : elsA H (.rf q gq 0 1) = some [y] := by
    unfold elsA
    simp [hq]
  rw [he, hel]
  refine ⟨hok, by omega, hz, .inl rfl, fun z hzm => ?_, ?_⟩
  · rw [List.mem_singleton] at hzm; subst hzm; exact ⟨by omega, hw⟩
  rcases ho.sl_inv with ⟨rfl, rfl, rfl⟩ | ⟨r, g, s', n, ys, r1, rfl, rfl, hr, hn, h1, hnr⟩
  · refine ⟨by simpa using hb, by simpa using hml, fun hh => (by cases hh), fun _ g => ?_⟩
    refine hK _ _ (H.length :: ry) (Own.rf_mk (s := szT P e) (ys := [y]) (by simp) rfl (by simpa using oy.grow) (fun hm => by have := oy.lt _ hm; omega)) ⟨g, [y], by simp [hs]⟩ (fun r hr => ?_) (fun r hr _ => by rw [List.getElem?_append_left hr]) (by simp) ⟨rfl, rfl, rfl⟩
    rcases List.mem_cons.1 hr with rfl | hr
    · exact .inr (.inr rfl)
    · exact .inr (.inl hr)
  · obtain ⟨g', ys', hr'⟩ := hC
    rw [hr] at hr'
    cases hr'
    have hrl := (List.getElem?_eq_some_iff.1 hr).1
    have hzl := h1.len
    have hrow : H[r]? = some (.row g s ys) := hr
    simp only [hrow]
    refine ⟨trivial, hs.symm, by omega, ?_, ?_, fun g2 => ?_⟩
    · rw [← hn, hzl]; exact hb
    · rw [← hn, hzl]; exact hml
    · have hset : (H.set r (.row g2 s (ys.take n ++ [y])))[r]? = some (.row g2 s (ys ++ [y])) := by
        rw [List.take_of_length_le (by omega)]; simp [hrl]
      have fr : ∀ x, x ≠ r → (H.set r (.row g2 s (ys.take n ++ [y])))[x]? = H[x]? := fun x hx => List.getElem?_set_ne (fun e => hx e.symm)
      have o1 : Own (H.set r (.row g2 s (ys.take n ++ [y]))) ys zs r1 := h1.frame (fun x hx => fr x (fun e => hnr (e ▸ hx)))
      have o2 : Own (H.set r (.row g2 s (ys.take n ++ [y]))) [y] [ty] ry := oy.frame (fun x hx => fr x (fun e => hd x hx (e ▸ List.mem_cons_self)))
      have o3 := o1.app o2 (fun x hx hm => hd x hm (List.mem_cons_of_mem _ hx))
      refine hK _ _ (r :: (r1 ++ ry)) (Own.rf_mk hset (by simp [hn]) o3 (fun hm => ?_)) ⟨g2, _, hset⟩ (fun x hx => ?_) (fun x _ hx => fr x (fun e => hx (e ▸ List.mem_cons_self))) (by simp) ⟨rfl, rfl, rfl⟩
      · rcases List.mem_append.1 hm with h | h
        · exact hnr h
        · exact hd r h List.mem_cons_self
      · rcases List.mem_cons.1 hx with rfl | hx
        · exact .inl List.mem_cons_self
        · rcases List.mem_append.1 hx with h | h
          · exact .inl (List.mem_cons_of_mem _ h)
          · exact .inr (.inl h)
theorem heap_split {h H : AHeap} (hp : ∀ r, r < h.length → H[r]? = h[r]?) (hl : h.length ≤ H.length) : ∃ l, H = h ++ l := by
  refine ⟨H.drop h.length, ?_⟩
  apply List.ext_getElem?
  intro i
  rcases Nat.lt_or_ge i h.length with hi | hi
  · rw [List.getElem?_append_left hi, hp i hi]
  · rw [List.getElem?_append_right hi, List.getElem?_drop, show h.length + (i - h.length) = i by omega]
theorem Own.at2 {h : AHeap} : ∀ {xs ts : List AVal} {rs : List Nat} (ho : Own h xs ts rs) {i : Nat} {y : AVal}, xs[i]? = some y → ∃ t qs, ts[i]? = some t ∧ Own h [y] [t] qs ∧ (∀ q ∈ qs, q ∈ rs) ∧
    ∀ (h' : AHeap) (y' t' : AVal) (qs' : List Nat), Own h' [y'] [t'] qs' → (∀ r ∈ rs, r ∉ qs → h'[r]? = h[r]?) → (∀ r ∈ qs', r ∈ qs ∨ r ∉ rs) → ∃ rs', Own h' (xs.set i y') (ts.set i t') rs' ∧ ∀ r ∈ rs', r ∈ rs ∨ r ∈ qs'
  | [], _, _, _, i, y, hy => by simp at hy
  | x :: xs, ts, rs, ho, i, y, hy => by
    obtain ⟨t, ts', r1, r2, rfl, h1, ht, rfl, hd⟩ := ho.cons_inv2
    cases i with
    | zero =>
      cases hy
      refine ⟨t, r1, rfl, h1, fun q hq => List.mem_append_left _ hq, fun h' y' t' qs' ho' hf hq => ⟨qs' ++ r2, ?_, fun r hr => ?_⟩⟩
      · exact Own.cons ho' (ht.frame fun r hr => hf r (List.mem_append_right _ hr) (fun hm => hd r hm hr)) (fun r hr hm => by
          rcases hq r hr with h | h
          · exact hd r h hm
          · exact h (List.mem_append_right _ hm))
      · rcases List.mem_append.1 hr with h | h
        · exact .inr h
        · exact .inl (List.mem_append_right _ h)
    | succ i =>
      obtain ⟨t0, qs, g1, g2, g3, g4⟩ := Own.at2 ht (i := i) hy
      refine ⟨t0, qs, g1, g2, fun q hq => List.mem_append_right _ (g3 q hq), fun h' y' t' qs' ho' hf hq => ?_⟩
      obtain ⟨rs2, k1, k2⟩ := g4 h' y' t' qs' ho' (fun r hr hn => hf r (List.mem_append_right _ hr) hn) (fun r hr => (hq r hr).imp id (fun h hm => h (List.mem_append_right _ hm)))
      refine ⟨r1 ++ rs2, Own.cons (h1.frame fun r hr => hf r (List.mem_append_left _ hr) fun hm => hd r hr (g3 r hm)) k1 (fun r hr hm => ?_), fun r hr => ?_⟩
      · rcases k2 r hm with h | h
        · exact hd r hr h
        · rcases hq r h with h | h
          · exact hd r hr (g3 r h)
          · exact h (List.mem_append_left _ hr)
      · rcases List.mem_append.1 hr with h | h
        · exact .inl (List.mem_append_left _ h)
        · exact (k2 r h).imp (fun h => List.mem_append_right _ h) id
theorem own_mid {h A l R pre : AHeap} {y t : AVal} {s : List Nat} (ho : Own (pre ++ l) [y] [t] s) (hb : ∀ r ∈ s, pre.length ≤ r) (hp : pre.length = h.length + A.length) : Own (h ++ (A ++ (l ++ R))) [y] [t] s :=
  ho.frame fun r hr => by
    have h1 := hb r hr
    have h2 := ho.lt r hr
    rw [List.length_append] at h2
    rw [List.getElem?_append_right (by omega), List.getElem?_append_right (by omega), List.getElem?_append_left (by omega), List.getElem?_append_right (by omega)]
    congr 1
    omega
/-! ### a machine that begins: values of cells, frames -/
def truth (b : Bool) : Int := if b = true then 1 else 0
theorem S_l2Truth {b : Bool} {h : AHeap} {Q : KA} (hq : Q (u32 (truth b)) h) : @clM Tryz.prog 111 [bl b] h ⟨Q⟩ := by
  refine cl_of fn_spec_l2Truth (D_spec_l2Truth_of ?_)
  unfold D_spec_l2Truth
  cases b with
  | true => simp [↓go]; exact retW_ex hq
  | false => simp [↓go]; exact retW_ex hq
theorem S_flag {b : Bool} {h : AHeap} {Q : KA} (hq : Q (u32 (truth b)) h) : @clM Tryz.prog 113 [bl b] h ⟨Q⟩ := by
  refine cl_of fn_impl_flag (D_impl_flag_of ?_)
  unfold D_impl_flag
  cases b with
  | true => simp [↓go]; exact retW_ex hq
  | false => simp [↓go]; exact retW_ex hq
def valOf (t w : Int) : MValue := ⟨t, if t = 1 then truth (decide (w ≠ 0)) else w⟩
def cellsUp (ws ts : List Int) (n : Nat) : List MValue := (List.range n).map fun i => valOf (ts.getD i 0) (ws.getD i 0)
def cellsOf (ws ts : List Int) : List MValue := cellsUp ws ts ws.length
theorem cellsUp_succ (ws ts : List Int) (n : Nat) : cellsUp ws ts (n + 1) = cellsUp ws ts n ++ [valOf (ts.getD n 0) (ws.getD n 0)] := by
  unfold cellsUp; rw [List.range_succ, List.map_append]; rfl
@[simp] theorem cellsUp_len (ws ts : List Int) (n : Nat) : (cellsUp ws ts n).length = n := by simp [cellsUp]
def zerosOf (ts : List Int) : List MValue := ts.map fun t => ⟨t, 0⟩
theorem owVal (h : AHeap) (x : MValue) : Own h [encValue x] [encValue x] [] := .ag (.v rfl (.v rfl .nil)) .nil (by simp)
theorem O_l4Cells {ws ts : List Int} {h : AHeap} {Q : KA} (hw : ws.length ≤ 1048576) (he : ws.length = ts.length) (q : ∀ y l, Made h y (encL encValue (cellsOf ws ts)) l → Q y (h ++ l)) : @clM Tryz.prog 61 [encL u32 ws, encL i64 ts] h ⟨Q⟩ := by
  refine cl_of fn_spec_l4Cells (D_spec_l4Cells_of ?_)
  unfold D_spec_l4Cells
  simp [↓go]
  intro g1
  refine lp_inv (fun s h' => ∃ i g : Nat, i ≤ ws.length ∧ h' = h ++ [.row g 2 ((cellsUp ws ts i).map encValue)] ∧ s = [.rf h.length g 0 i, i64 i, encL i64 ts, encL u32 ws]) (fun s _ => ws.length - natA (nthA s 1)) (Wk.refl ⟨0, g1, by omega, by simp [cellsUp], rfl⟩) ?_
  rintro _ _ ⟨i, g, hi, rfl, rfl⟩
  simp [↓go]
  refine ⟨fun hlt => ?_, fun hge => ?_⟩
  · obtain ⟨w, hw2⟩ : ∃ w, ws[i]? = some w := ⟨_, List.getElem?_eq_getElem hlt⟩
    obtain ⟨_, hwl⟩ := List.getElem?_eq_some_iff.1 hw2
    obtain ⟨t, ht⟩ : ∃ t, ts[i]? = some t := ⟨_, List.getElem?_eq_getElem (by omega)⟩
    obtain ⟨htl, htt⟩ := List.getElem?_eq_some_iff.1 ht
    have hs := cellsUp_succ ws ts i
    rw [getD_of hw2, getD_of ht] at hs
    have hcl := cellsUp_len ws ts i
    generalize cellsUp ws ts i = cs at hs hcl ⊢
    simp [↓go, hw2, hwl, hlt]
    refine jn_cut (fun s h' => h' = h ++ [.row g 2 (cs.map encValue)] ∧ s = [encL i64 ts, encL u32 ws, i64 i, u32 (valOf t w).word, .rf h.length g 0 i]) ?_ ?_
    · simp [↓go, ht, htl, htt, hw2, hwl, hlt]
      refine ⟨fun h1 => ?_, fun h1 => ?_⟩
      · first | refine S_l2Truth ?_ | refine ⟨by omega, S_l2Truth ?_⟩
        refine wk_ex ⟨rfl, ?_⟩
        simp [valOf, h1]
      · refine wk_ex ⟨rfl, ?_⟩
        simp [valOf, h1]
    · rintro _ _ ⟨rfl, rfl⟩
      simp [↓go, ht, htl, htt, hcl]
      rw [w64 (by omega) (by omega)]
      intro g4
      refine ⟨by omega, by unfold maxLen; omega, fun g5 => ?_⟩
      refine wk_pre (l := [_]) (m := [_]) ?_
      refine And.intro ⟨i + 1, g5, by omega, ?_, rfl⟩ ?_
      · rw [hs]; simp [encValue, List.take_of_length_le, hcl, valOf]
      · simp; omega
  · obtain rfl : i = ws.length := by omega
    refine wk_of (Wk.made (rs := [h.length]) (Own.rf_mk (s := 2) (ys := (cellsOf ws ts).map encValue) (by simp [cellsOf]) (by simp [cellsOf]) (Own.map (fun x => owVal _ x) _) (by simp)) (by simp) (fun l' hm => q _ _ hm))
theorem O_zeros {ts : List Int} {h : AHeap} {Q : KA} (ht : ts.length ≤ 1048576) (q : ∀ y l, Made h y (encL encValue (zerosOf ts)) l → Q y (h ++ l)) : @clM Tryz.prog 114 [encL i64 ts] h ⟨Q⟩ := by
  refine cl_of fn_impl_zeros (D_impl_zeros_of ?_)
  unfold D_impl_zeros
  simp [↓go]
  intro g1
  refine lp_inv (fun s h' => ∃ i g : Nat, i ≤ ts.length ∧ h' = h ++ [.row g 2 ((zerosOf (ts.take i)).map encValue)] ∧ s = [.rf h.length g 0 i, i64 i, encL i64 ts, i64 ts.length]) (fun s _ => ts.length - natA (nthA s 1)) (Wk.refl ⟨0, g1, by omega, by simp [zerosOf], rfl⟩) ?_
  rintro _ _ ⟨i, g, hi, rfl, rfl⟩
  simp [↓go]
  refine ⟨fun hlt => ?_, fun hge => ?_⟩
  · obtain ⟨t, ht⟩ : ∃ t, ts[i]? = some t := ⟨_, List.getElem?_eq_getElem hlt⟩
    obtain ⟨htl, htt⟩ := List.getElem?_eq_some_iff.1 ht
    have hs : zerosOf (ts.take (i + 1)) = zerosOf (ts.take i) ++ [⟨t, 0⟩] := by unfold zerosOf; rw [List.take_add_one, ht]; simp
    have hcl : (zerosOf (ts.take i)).length = i := by simp [zerosOf]; omega
    generalize zerosOf (ts.take i) = cs at hs hcl ⊢
    simp [↓go, ht, htl, htt, hcl]
    rw [w64 (by omega) (by omega)]
    intro g4
    refine ⟨by omega, by unfold maxLen; omega, fun g5 => ?_⟩
    refine wk_pre (l := [_]) (m := [_]) ?_
    refine And.intro ⟨i + 1, g5, by omega, ?_, rfl⟩ ?_
    · rw [hs]; simp [encValue, List.take_of_length_le, hcl]
    · simp; omega
  · obtain rfl : i = ts.length := by omega
    rw [List.take_length]
    refine wk_of (Wk.made (rs := [h.length]) (Own.rf_mk (s := 2) (ys := (zerosOf ts).map encValue) (by simp) (by simp [zerosOf]) (Own.map (fun x => owVal _ x) _) (by simp)) (by simp) (fun l' hm => q _ _ hm))
/-! ### the state that a machine tells -/
structure MWork where
  fn : AVal
  number : Int
  at_ : Int
  base : Int
  locals : List MValue
def encWork (x : MWork) : AVal := .agg [x.fn, i64 x.number, i64 x.at_, i64 x.base, encL encValue x.locals]
@[simp] theorem encWork_flat (x : MWork) : (encWork x).flat = [x.fn, i64 x.number, i64 x.at_, i64 x.base, encL encValue x.locals] := rfl
@[simp] theorem encWork_agg (x : MWork) : (encWork x).isAgg = true := rfl
structure MMach where
  p : AVal
  trap : Int
  done : Bool
  cost : Int
  steps : Int
  c0 : List MValue
  c1 : List MValue
  c2 : List MValue
  stack : List MValue
  frames : List MWork
def encMach (x : MMach) : AVal := .agg [x.p, i64 x.trap, bl x.done, i64 x.cost, i64 x.steps, encL encValue x.c0, encL encValue x.c1, encL encValue x.c2, encL encValue x.stack, encL encWork x.frames]
def MMach.cells (x : MMach) : List (List MValue) := [x.c0, x.c1, x.c2]
def frameOf (w : MWork) : MFrame := ⟨w.number, w.at_, w.base, w.locals⟩
def stateOf (x : MMach) : MState := ⟨x.trap, x.done, x.cost, x.steps, x.cells, x.stack, x.frames.map frameOf⟩
structure ST (h : AHeap) (m : MMach) (gb k g : Nat) (H : AHeap) (C S F : AVal) (tc tf : List AVal) (rc rs rf : List Nat) : Prop where
  box : H[h.length]? = some (.row gb 7 [.agg [i64 0, ff, i64 0, i64 0, nilS, nilS, nilS]])
  row : H[k]? = some (.row g 7 [.agg [i64 m.trap, bl m.done, i64 m.cost, i64 m.steps, C, S, F]])
  oc : Own H [C] [.sl tc] rc
  os : Own H [S] [encL encValue m.stack] rs
  of : Own H [F] [.sl tf] rf
  sc : rowSz H C 1
  sf : rowSz H F 4
  dc : ∀ r ∈ rc, h.length < r ∧ r ≠ k ∧ r ∉ rs ∧ r ∉ rf
  ds : ∀ r ∈ rs, h.length < r ∧ r ≠ k
  df : ∀ r ∈ rf, h.length < r ∧ r ≠ k ∧ r ∉ rs
  kl : h.length < k
  pre : ∀ r, r < h.length → H[r]? = h[r]?
theorem rowSz_fr {H H' : AHeap} {C : AVal} {t : AVal} {rs : List Nat} {s : Nat} (ho : Own H [C] [t] rs) (hz : rowSz H C s) (hf : ∀ r ∈ rs, H'[r]? = H[r]?) : rowSz H' C s := by
  unfold rowSz at *
  cases ho with
  | rf hr hn h1 ht hd hnr =>
    obtain ⟨g, ys, h2⟩ := hz
    exact ⟨g, ys, (hf _ (List.mem_cons_self)).trans h2⟩
  | _ => trivial
theorem ST.cell {h : AHeap} {m : MMach} {gb k g : Nat} {H HX H4 : AHeap} {C S F C' tn : AVal} {tc tf : List AVal} {rc rs rf rc' ry : List Nat} (st : ST h m gb k g H C S F tc tf rc rs rf)
    (hx : ∀ r, r < H.length → HX[r]? = H[r]?) (hxl : H.length ≤ HX.length) (hry : ∀ r ∈ ry, H.length ≤ r) (o : Own H4 [C'] [.sl (tc ++ [tn])] rc') (sz : rowSz H4 C' 1) (b : ∀ r ∈ rc', r ∈ rc ∨ r ∈ ry ∨ r = HX.length) (fr : ∀ r, r < HX.length → r ∉ rc → H4[r]? = HX[r]?) (hl : HX.length ≤ H4.length) :
    ST h m gb k g (H4.set k (.row g 7 [.agg [i64 m.trap, bl m.done, i64 m.cost, i64 m.steps, C', S, F]])) C' S F (tc ++ [tn]) tf rc' rs rf := by
  have hkl := (List.getElem?_eq_some_iff.1 st.row).1
  have keep : ∀ r, r < H.length → r ∉ rc → r ≠ k → (H4.set k (.row g 7 [.agg [i64 m.trap, bl m.done, i64 m.cost, i64 m.steps, C', S, F]]))[r]? = H[r]? := fun r h1 h2 h3 => by
    rw [List.getElem?_set_ne (fun e => h3 e.symm), fr r (by omega) h2, hx r h1]
  have hnew : ∀ r ∈ rc', r ∈ rc ∨ H.length ≤ r := fun r hr => by
    rcases b r hr with h | h | h
    · exact .inl h
    · exact .inr (hry r h)
    · exact .inr (by omega)
  have kc : ∀ r ∈ rc', h.length < r ∧ r ≠ k ∧ r ∉ rs ∧ r ∉ rf := fun r hr => by
    rcases hnew r hr with h | h
    · exact st.dc r h
    · have := st.kl
      exact ⟨by omega, by omega, fun hm => by have := st.os.lt r hm; omega, fun hm => by have := st.of.lt r hm; omega⟩
  have hsk : ∀ r ∈ rs, r ∉ rc := fun r hr hm => (st.dc r hm).2.2.1 hr
  have hfk : ∀ r ∈ rf, r ∉ rc := fun r hr hm => (st.dc r hm).2.2.2 hr
  refine ⟨?_, ?_, o.frame (fun r hr => by rw [List.getElem?_set_ne (fun e => (kc r hr).2.1 e.symm)]), st.os.frame (fun r hr => keep r (st.os.lt r hr) (hsk r hr) (st.ds r hr).2), st.of.frame (fun r hr => keep r (st.of.lt r hr) (hfk r hr) (st.df r hr).2.1),
    rowSz_fr o sz (fun r hr => by rw [List.getElem?_set_ne (fun e => (kc r hr).2.1 e.symm)]), rowSz_fr st.of st.sf (fun r hr => keep r (st.of.lt r hr) (hfk r hr) (st.df r hr).2.1), kc, st.ds, st.df, st.kl, fun r hr => ?_⟩
  · rw [keep _ (by have := st.kl; omega) (fun hm => by have := (st.dc _ hm).1; omega) (by have := st.kl; omega)]; exact st.box
  · rw [List.getElem?_set_self (by omega)]
  · rw [keep r (by have := st.kl; omega) (fun hm => by have := (st.dc _ hm).1; omega) (by have := st.kl; omega)]; exact st.pre r hr
theorem ST.frame {h : AHeap} {m : MMach} {gb k g : Nat} {H HX H4 : AHeap} {C S F F' tn : AVal} {tc tf : List AVal} {rc rs rf rf' ry : List Nat} (st : ST h m gb k g H C S F tc tf rc rs rf)
    (hx : ∀ r, r < H.length → HX[r]? = H[r]?) (hxl : H.length ≤ HX.length) (hry : ∀ r ∈ ry, H.length ≤ r) (o : Own H4 [F'] [.sl (tf ++ [tn])] rf') (sz : rowSz H4 F' 4) (b : ∀ r ∈ rf', r ∈ rf ∨ r ∈ ry ∨ r = HX.length) (fr : ∀ r, r < HX.length → r ∉ rf → H4[r]? = HX[r]?) (hl : HX.length ≤ H4.length) :
    ST h m gb k g (H4.set k (.row g 7 [.agg [i64 m.trap, bl m.done, i64 m.cost, i64 m.steps, C, S, F']])) C S F' tc (tf ++ [tn]) rc rs rf' := by
  have hkl := (List.getElem?_eq_some_iff.1 st.row).1
  have keep : ∀ r, r < H.length → r ∉ rf → r ≠ k → (H4.set k (.row g 7 [.agg [i64 m.trap, bl m.done, i64 m.cost, i64 m.steps, C, S, F']]))[r]? = H[r]? := fun r h1 h2 h3 => by
    rw [List.getElem?_set_ne (fun e => h3 e.symm), fr r (by omega) h2, hx r h1]
  have hnew : ∀ r ∈ rf', r ∈ rf ∨ H.length ≤ r := fun r hr => by
    rcases b r hr with h | h | h
    · exact .inl h
    · exact .inr (hry r h)
    · exact .inr (by omega)
  have kf : ∀ r ∈ rf', h.length < r ∧ r ≠ k ∧ r ∉ rs := fun r hr => by
    rcases hnew r hr with h | h
    · exact st.df r h
    · have := st.kl
      exact ⟨by omega, by omega, fun hm => by have := st.os.lt r hm; omega⟩
  have hsk : ∀ r ∈ rs, r ∉ rf := fun r hr hm => (st.df r hm).2.2 hr
  have hck : ∀ r ∈ rc, r ∉ rf := fun r hr => (st.dc r hr).2.2.2
  refine ⟨?_, ?_, st.oc.frame (fun r hr => keep r (st.oc.lt r hr) (hck r hr) (st.dc r hr).2.1), st.os.frame (fun r hr => keep r (st.os.lt r hr) (hsk r hr) (st.ds r hr).2), o.frame (fun r hr => by rw [List.getElem?_set_ne (fun e => (kf r hr).2.1 e.symm)]),
    rowSz_fr st.oc st.sc (fun r hr => keep r (st.oc.lt r hr) (hck r hr) (st.dc r hr).2.1), rowSz_fr o sz (fun r hr => by rw [List.getElem?_set_ne (fun e => (kf r hr).2.1 e.symm)]), fun r hr => ⟨(st.dc r hr).1, (st.dc r hr).2.1, (st.dc r hr).2.2.1, fun hm => ?_⟩, st.ds, kf, st.kl, fun r hr => ?_⟩
  · rw [keep _ (by have := st.kl; omega) (fun hm => by have := (st.df _ hm).1; omega) (by have := st.kl; omega)]; exact st.box
  · rw [List.getElem?_set_self (by omega)]
  · rcases hnew r hm with h | h
    · exact (st.dc r hr).2.2.2 h
    · have := st.oc.lt r hr; omega
  · rw [keep r (by have := st.kl; omega) (fun hm => by have := (st.df _ hm).1; omega) (by have := st.kl; omega)]; exact st.pre r hr
theorem O_state {m : MMach} {h : AHeap} {Q : KA} (hcs : ∀ c ∈ m.cells, c.length ≤ 1048576) (hst : m.stack.length ≤ 1048576) (hfr : m.frames.length ≤ 1048576) (hlo : ∀ w ∈ m.frames, w.locals.length ≤ 1048576)
    (q : ∀ y l, Made h y (encState (stateOf m)) l → Q y (h ++ l)) : @clM Tryz.prog 65 [.fp (encMach m)] h ⟨Q⟩ := by
  refine cl_of fn_impl_machine_state (D_impl_machine_state_of ?_)
  unfold D_impl_machine_state
  simp [↓go]
  intro gb
  refine jn_cut (fun s H => ∃ (k g : Nat) (S : AVal) (rs : List Nat), ST h m gb k g H nilS S nilS [] [] [] rs [] ∧ s = [.pt h.length gb 0 0, .pt k g 0 0, .fp (encMach m)]) ?_ ?_
  · have key1 : ∀ g g2, ST h m gb (h.length + 2) g (h ++ [.row gb 7 [.agg [i64 0, ff, i64 0, i64 0, nilS, nilS, nilS]], .row g2 2 (m.stack.map encValue), .row g 7 [.agg [i64 m.trap, bl m.done, i64 m.cost, i64 m.steps, nilS, .rf (h.length + 1) g2 0 m.stack.length, nilS]]]) nilS (.rf (h.length + 1) g2 0 m.stack.length) nilS [] [] [] [h.length + 1] [] := fun g g2 =>
      ⟨by simp, by simp, .nl .nil, Own.rf_mk (s := 2) (ys := m.stack.map encValue) (by simp) (by simp) (Own.map (fun x => owVal _ x) _) (by simp), .nl .nil, trivial, trivial, by simp, by simp, by simp, by omega, fun r hr => List.getElem?_append_left hr⟩
    have key2 : ∀ g g2, ST h m gb (h.length + 1) g (h ++ [.row gb 7 [.agg [i64 0, ff, i64 0, i64 0, nilS, nilS, nilS]], .row g 7 [.agg [i64 m.trap, bl m.done, i64 m.cost, i64 m.steps, nilS, .rf (h.length + 2) g2 0 m.stack.length, nilS]], .row g2 2 (m.stack.map encValue)]) nilS (.rf (h.length + 2) g2 0 m.stack.length) nilS [] [] [] [h.length + 2] [] := fun g g2 =>
      ⟨by simp, by simp, .nl .nil, Own.rf_mk (s := 2) (ys := m.stack.map encValue) (by simp) (by simp) (Own.map (fun x => owVal _ x) _) (by simp), .nl .nil, trivial, trivial, by simp, by simp, by simp, by omega, fun r hr => List.getElem?_append_left hr⟩
    have hml : m.stack.length ≤ maxLen := by unfold maxLen; omega
    simp [↓go, encMach]
    refine ⟨⟨⟨by omega, hml, fun g2 g => wk_ex ⟨_, _, _, _, key1 g g2, rfl⟩⟩, fun g => ⟨by omega, hml, fun g2 => wk_ex ⟨_, _, _, _, key1 g g2, rfl⟩⟩⟩, fun g => ⟨by omega, hml, fun g2 => wk_ex ⟨_, _, _, _, key2 g g2, rfl⟩⟩⟩
  rintro _ H0 ⟨k, g, S, rs, st, rfl⟩
  simp [↓go, encMach]
  refine lp_inv (fun s H => ∃ (i : Nat) (C : AVal) (rc : List Nat), i ≤ 3 ∧ ST h m gb k g H C S nilS ((m.cells.take i).map (encL encValue)) [] rc rs [] ∧ s = [.pt h.length gb 0 0, .pt k g 0 0, .fp (encMach m), i64 i, .agg [encL encValue m.c0, encL encValue m.c1, encL encValue m.c2]]) (fun s _ => 3 - natA (nthA s 3)) (Wk.refl ⟨0, nilS, [], by omega, by simpa using st, rfl⟩) ?_
  clear st
  rintro _ H ⟨i, C, rc, hi, st, rfl⟩
  have hrow := st.row
  have hkl := (List.getElem?_eq_some_iff.1 hrow).1
  obtain ⟨f1, f2, f3⟩ := st.oc.sl_cell
  obtain ⟨f4, f5, f6⟩ := st.os.sl_cell
  simp [↓go, encMach]
  refine ⟨fun hlt => ?_, fun hge => ?_⟩
  · obtain ⟨c, hc⟩ : ∃ c, m.cells[i]? = some c := ⟨_, List.getElem?_eq_getElem (by simp [MMach.cells]; omega)⟩
    have hcl := hcs c (List.mem_of_getElem? hc)
    have htk : (m.cells.take (i + 1)).map (encL encValue) = (m.cells.take i).map (encL encValue) ++ [encL encValue c] := by rw [List.take_add_one, hc]; simp
    have hml : c.length ≤ maxLen := by unfold maxLen; omega
    refine jn_cut (fun s H' => ∃ (C' : AVal) (rc' : List Nat), ST h m gb k g H' C' S nilS ((m.cells.take (i + 1)).map (encL encValue)) [] rc' rs [] ∧ s = [.pt h.length gb 0 0, .pt k g 0 0, .fp (encMach m), .agg [encL encValue m.c0, encL encValue m.c1, encL encValue m.c2], i64 i]) ?_ ?_
    rotate_left
    · rintro _ H' ⟨C', rc', st', rfl⟩
      simp [↓go]
      rw [w64 (by omega) (by omega)]
      refine wk_ex (And.intro ⟨i + 1, C', rc', by omega, st', rfl⟩ ?_)
      simp; omega
    have hidx : [encL encValue m.c0, encL encValue m.c1, encL encValue m.c2][i]? = some (encL encValue c) := by
      have : [encL encValue m.c0, encL encValue m.c1, encL encValue m.c2] = m.cells.map (encL encValue) := rfl
      rw [this, List.getElem?_map, hc]; rfl
    have happ : ∀ l : AHeap, (H ++ l)[k]? = some (.row g 7 [.agg [i64 m.trap, bl m.done, i64 m.cost, i64 m.steps, C, S, nilS]]) := fun l => by rw [List.getElem?_append_left hkl]; exact hrow
    have key : ∀ (g2 g3 : Nat) (K : KA), (∀ (C' : AVal) (H4 : AHeap) (rc' : List Nat), H4[k]? = some (.row g 7 [.agg [i64 m.trap, bl m.done, i64 m.cost, i64 m.steps, C, S, nilS]]) → C'.flat = [C'] → C'.c1 = true → C'.isAgg = false →
        ST h m gb k g (H4.set k (.row g 7 [.agg [i64 m.trap, bl m.done, i64 m.cost, i64 m.steps, C', S, nilS]])) C' S nilS ((m.cells.take (i + 1)).map (encL encValue)) [] rc' rs [] → K C' H4) →
        appendM Tryz.prog 53 53 C (.rf (H.length + 1) g3 0 1) (H ++ [.row g2 2 (c.map encValue), .row g3 1 [.rf H.length g2 0 c.length]]) K := fun g2 g3 K hK => by
      refine appendM_own (e := 54) (s := 1) (y := .rf H.length g2 0 c.length) (ty := encL encValue c) (ry := [H.length]) (by simp) (by simp) (by simp) (by omega) (by simp) (by simp [MMach.cells]; omega) (by simp [MMach.cells, maxLen]; omega) st.oc.grow ?_ (by simp) rfl rfl (Own.rf_mk (s := 2) (ys := c.map encValue) (by simp) (by simp) (Own.map (fun x => owVal _ x) _) (by simp)) ?_ ?_
      · exact rowSz_fr st.oc st.sc (fun r hr => List.getElem?_append_left (st.oc.lt r hr))
      · intro r hr hm
        rw [List.mem_singleton] at hr
        have := st.oc.lt r hm; omega
      · intro C' H4 rs' o sz b fr hl ⟨k1, k2, k3⟩
        refine hK C' H4 rs' ?_ k1 k2 k3 ?_
        · rw [fr k (by simp; omega) (fun hm => (st.dc k hm).2.1 rfl)]; exact happ _
        · rw [htk]
          exact st.cell (fun r hr => List.getElem?_append_left hr) (by simp) (ry := [H.length]) (by simp) o sz b fr hl
    simp [↓go, hidx, hrow, happ, f1, f2, f3, f4, f5, f6]
    refine ⟨by omega, by omega, by omega, hml, fun g2 g3 => key g2 g3 _ (fun C' H4 rc' h1 k1 k2 k3 st' => ?_)⟩
    simp [h1, k1, k2, k3]
    exact wk_ex ⟨C', rc', st', rfl⟩
  · obtain rfl : i = 3 := by omega
    have st0 : ST h m gb k g H C S nilS (m.cells.map (encL encValue)) [] rc rs [] := by
      rw [List.take_of_length_le (by simp [MMach.cells])] at st; exact st
    clear st hrow
    refine lp_inv (fun s H => ∃ (i : Nat) (F : AVal) (rf : List Nat), i ≤ m.frames.length ∧ ST h m gb k g H C S F (m.cells.map (encL encValue)) (((m.frames.map frameOf).take i).map encFrame) rc rs rf ∧ s = [.pt h.length gb 0 0, .pt k g 0 0, i64 i, .fp (encMach m), i64 m.frames.length]) (fun s _ => m.frames.length - natA (nthA s 2)) (Wk.refl ⟨0, nilS, [], by omega, by simpa using st0, rfl⟩) ?_
    clear st0 hkl
    rintro _ H ⟨i, F, rf, hi, st, rfl⟩
    have hrow := st.row
    have hkl := (List.getElem?_eq_some_iff.1 hrow).1
    obtain ⟨e1, e2, e3⟩ := st.of.sl_cell
    have happ : ∀ l : AHeap, (H ++ l)[k]? = some (.row g 7 [.agg [i64 m.trap, bl m.done, i64 m.cost, i64 m.steps, C, S, F]]) := fun l => by rw [List.getElem?_append_left hkl]; exact hrow
    simp [↓go, encMach]
    refine ⟨fun hlt => ?_, fun hge => ?_⟩
    · obtain ⟨w, hw⟩ : ∃ w, m.frames[i]? = some w := ⟨_, List.getElem?_eq_getElem hlt⟩
      obtain ⟨_, hwl⟩ := List.getElem?_eq_some_iff.1 hw
      have hcl := hlo w (List.mem_of_getElem? hw)
      have htk : ((m.frames.map frameOf).take (i + 1)).map encFrame = ((m.frames.map frameOf).take i).map encFrame ++ [encFrame (frameOf w)] := by rw [List.take_add_one, List.getElem?_map, hw]; simp
      have hml : w.locals.length ≤ maxLen := by unfold maxLen; omega
      refine jn_cut (fun s H' => ∃ (F' : AVal) (rf' : List Nat), ST h m gb k g H' C S F' (m.cells.map (encL encValue)) (((m.frames.map frameOf).take (i + 1)).map encFrame) rc rs rf' ∧ s = [.pt h.length gb 0 0, .pt k g 0 0, .fp (encMach m), i64 m.frames.length, i64 i]) ?_ ?_
      rotate_left
      · rintro _ H' ⟨F', rf', st', rfl⟩
        simp [↓go]
        rw [w64 (by omega) (by omega)]
        refine wk_ex (And.intro ⟨i + 1, F', rf', by omega, st', rfl⟩ ?_)
        simp; omega
      have hgd : (List.map encWork m.frames)[i]?.getD AVal.dead = encWork w := by rw [List.getElem?_map, hw]; rfl
      have key : ∀ (g2 g3 : Nat) (K : KA), (∀ (F' : AVal) (H4 : AHeap) (rf' : List Nat), H4[k]? = some (.row g 7 [.agg [i64 m.trap, bl m.done, i64 m.cost, i64 m.steps, C, S, F]]) → F'.flat = [F'] → F'.c1 = true → F'.isAgg = false →
          ST h m gb k g (H4.set k (.row g 7 [.agg [i64 m.trap, bl m.done, i64 m.cost, i64 m.steps, C, S, F']])) C S F' (m.cells.map (encL encValue)) (((m.frames.map frameOf).take (i + 1)).map encFrame) rc rs rf' → K F' H4) →
          appendM Tryz.prog 55 55 F (.rf (H.length + 1) g3 0 1) (H ++ [.row g2 2 (w.locals.map encValue), .row g3 4 [.agg [i64 w.number, i64 w.at_, i64 w.base, .rf H.length g2 0 w.locals.length]]]) K := fun g2 g3 K hK => by
        refine appendM_own (e := 121) (s := 4) (y := .agg [i64 w.number, i64 w.at_, i64 w.base, .rf H.length g2 0 w.locals.length]) (ty := encFrame (frameOf w)) (ry := [H.length]) (by simp) (by simp) (by simp) (by omega) (by simp) (by simp; omega) (by simp [maxLen]; omega) st.of.grow ?_ (by simp) rfl rfl (Own.agg_mk (.v rfl (.v rfl (.v rfl (Own.rf_mk (s := 2) (ys := w.locals.map encValue) (by simp) (by simp) (Own.map (fun x => owVal _ x) _) (by simp)))))) ?_ ?_
        · exact rowSz_fr st.of st.sf (fun r hr => List.getElem?_append_left (st.of.lt r hr))
        · intro r hr hm
          rw [List.mem_singleton] at hr
          have := st.of.lt r hm; omega
        · intro F' H4 rs' o sz b fr hl ⟨k1, k2, k3⟩
          refine hK F' H4 rs' ?_ k1 k2 k3 ?_
          · rw [fr k (by simp; omega) (fun hm => (st.df k hm).2.1 rfl)]; exact happ _
          · rw [htk]
            exact st.frame (fun r hr => List.getElem?_append_left hr) (by simp) (ry := [H.length]) (by simp) o sz b fr hl
      simp [↓go, encMach, hgd, hw, hwl, hlt, hrow, happ, f1, f2, f3, f4, f5, f6, e1, e2, e3]
      refine ⟨by omega, hml, fun g2 g3 => key g2 g3 _ (fun F' H4 rf' h1 k1 k2 k3 st' => ?_)⟩
      simp [h1, k1, k2, k3]
      exact wk_ex ⟨F', rf', st', rfl⟩
    · obtain rfl : i = m.frames.length := by omega
      rw [List.take_of_length_le (by simp)] at st
      have hbox := st.box
      have hkk := st.kl
      have hset : ∀ v, (H.set h.length v)[h.length]? = some v := fun v => by rw [List.getElem?_set_self (by omega)]
      simp [↓go, hrow, hbox, hset, f1, f2, f3, f4, f5, f6, e1, e2, e3]
      obtain ⟨l, hl⟩ := heap_split (h := h) (H := H.set h.length (.row gb 7 [.agg [i64 m.trap, bl m.done, i64 m.cost, i64 m.steps, C, S, F]])) (fun r hr => by rw [List.getElem?_set_ne (by omega)]; exact st.pre r hr) (by simp; omega)
      have fr : ∀ r, h.length < r → (h ++ l)[r]? = H[r]? := fun r hr => by rw [← hl, List.getElem?_set_ne (by omega)]
      have o : Own (h ++ l) [.agg [i64 m.trap, bl m.done, i64 m.cost, i64 m.steps, C, S, F]] [encState (stateOf m)] (rc ++ (rs ++ rf)) := by
        have o1 : Own (h ++ l) [F] _ rf := st.of.frame (fun r hr => fr r (st.df r hr).1)
        have o2 : Own (h ++ l) [S] _ rs := st.os.frame (fun r hr => fr r (st.ds r hr).1)
        have o3 : Own (h ++ l) [C] _ rc := st.oc.frame (fun r hr => fr r (st.dc r hr).1)
        have o4 := o3.cons (o2.cons o1 (fun r hr hm => (st.df r hm).2.2 hr)) (fun r hr hm => by
          rcases List.mem_append.1 hm with h | h
          · exact (st.dc r hr).2.2.1 h
          · exact (st.dc r hr).2.2.2 h)
        exact Own.agg_mk (.v rfl (.v rfl (.v rfl (.v rfl o4))))
      rw [hl]
      refine wk_of (Wk.made o (fun r hr => ?_) (fun l' hm => q _ _ hm))
      rcases List.mem_append.1 hr with h | h
      · exact Nat.le_of_lt (st.dc r h).1
      · rcases List.mem_append.1 h with h | h
        · exact Nat.le_of_lt (st.ds r h).1
        · exact Nat.le_of_lt (st.df r h).1
end Go.Proofs.YtkfpoagnchahkaaGreat.A
