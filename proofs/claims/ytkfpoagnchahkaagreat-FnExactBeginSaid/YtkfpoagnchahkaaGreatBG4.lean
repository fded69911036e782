/- Of this session: over the abstract machine. -/
import Derived.Test.YtkfpoagnchahkaaGreatProg
import Derived.Test.YtkfpoagnchahkaaGreatA
import Derived.Test.YtkfpoagnchahkaaGreatB
import Derived.Test.YtkfpoagnchahkaaGreatD
import Derived.Test.YtkfpoagnchahkaaGreatT
import Derived.Test.YtkfpoagnchahkaaGreatP1
import Derived.Test.YtkfpoagnchahkaaGreatP2
import Derived.Test.YtkfpoagnchahkaaGreatP3
import Derived.Test.YtkfpoagnchahkaaGreatP4
import Derived.Test.YtkfpoagnchahkaaGreatP5
import Derived.Test.YtkfpoagnchahkaaGreatVM
import Derived.Test.YtkfpoagnchahkaaGreatO
import Derived.Test.YtkfpoagnchahkaaGreatOT
import Derived.Test.YtkfpoagnchahkaaGreatBG
namespace Go.Proofs.YtkfpoagnchahkaaGreat.A
open Go Go.RowKit
set_option linter.unusedVariables false
set_option linter.unusedSimpArgs false
set_option maxRecDepth 100000
set_option maxHeartbeats 1000000
/-! ### how a machine begins -/
def machOf (p : MProgram) (m : MMemory) : MMach :=
  ⟨.fp (encProgram p), 0, false, 0, 0, cellsOf m.inn (p.regions.getD 0 []), cellsOf m.out (p.regions.getD 1 []), cellsOf m.keep (p.regions.getD 2 []), [], [⟨.fp (encFunc (p.funcs.getD 0 zFunc)), 0, 0, 0, zerosOf (p.funcs.getD 0 zFunc).locals⟩]⟩
structure BT (h : AHeap) (p : MProgram) (m : MMemory) (g8 g15 : Nat) (H : AHeap) (i : Nat) (C0 C1 C2 : AVal) (ts : List AVal) (rs : List Nat) : Prop where
  row : H[h.length]? = some (.row g8 10 [.agg [.fp (encProgram p), i64 0, ff, i64 0, i64 0, C0, C1, C2, nilS, nilS]])
  lists : H[h.length + 1]? = some (.row g15 1 [encL u32 m.inn, encL u32 m.out, encL u32 m.keep])
  own : Own H [C0, C1, C2] ts rs
  lo : ∀ r ∈ rs, h.length + 1 < r
  pre : ∀ r, r < h.length → H[r]? = h[r]?
  n0 : i ≤ 0 → C0 = nilS
  n1 : i ≤ 1 → C1 = nilS
  n2 : i ≤ 2 → C2 = nilS
def upTo (i j : Nat) (l : List MValue) : AVal := encL encValue (if j < i then l else [])
theorem funcs_pos {p : MProgram} (h : progFault p = 0) : 0 < p.funcs.length := by
  have hF : funcsOK p = true := by
    cases hq : funcsOK p with
    | true => rfl
    | false =>
      exfalso
      unfold progFault at h
      rw [hq] at h
      revert h
      repeat' split
      all_goals simp_all
  unfold funcsOK at hF
  simp at hF
  omega
theorem O_begin {p : MProgram} {m : MMemory} {h : AHeap} {Q : KA} (hs : szProgram p ≤ 1048576) (hm : szMemory m ≤ 1048576)
    (q0 : validMem p m = false → ∀ l, Q (.tup [.v (.pointer none), ff]) (h ++ l))
    (q1 : validMem p m = true → ∀ r g l rs, Own (h ++ l) [.pt r g 0 0] [.fp (encMach (machOf p m))] rs → (∀ x ∈ rs, h.length ≤ x) → Q (.tup [.pt r g 0 0, tt]) (h ++ l)) : @clM Tryz.prog 64 [.fp (encProgram p), encMemory m] h ⟨Q⟩ := by
  refine cl_of fn_impl_begin (D_impl_begin_of ?_)
  unfold D_impl_begin
  have hms := small_m hm
  simp [↓go]
  refine S_implValidMemory hs hm ?_
  cases hv : validMem p m with
  | false =>
    simp [↓go]
    have := q0 hv []
    rw [List.append_nil] at this
    exact retW2_ex this
  | true =>
    have h0 : progFault p = 0 := by
      unfold validMem at hv
      simp at hv; exact hv.1
    have h3 := fault_regions h0
    obtain ⟨r0, hr0⟩ : ∃ r, p.regions[0]? = some r := ⟨_, List.getElem?_eq_getElem (by omega)⟩
    obtain ⟨r1, hr1⟩ : ∃ r, p.regions[1]? = some r := ⟨_, List.getElem?_eq_getElem (by omega)⟩
    obtain ⟨r2, hr2⟩ : ∃ r, p.regions[2]? = some r := ⟨_, List.getElem?_eq_getElem (by omega)⟩
    have q1 := q1 hv
    have hl0 : m.inn.length = r0.length ∧ m.out.length = r1.length ∧ m.keep.length = r2.length := by
      unfold validMem at hv
      rw [getD_of hr0, getD_of hr1, getD_of hr2] at hv
      simp at hv; exact ⟨hv.2.1, hv.2.2.1.1, hv.2.2.2.1⟩
    obtain ⟨hl0, hl1, hl2⟩ := hl0
    simp [↓go]
    intro g8 g15
    refine lp_inv (fun s H => ∃ (i : Nat) (C0 C1 C2 : AVal) (rs : List Nat), i ≤ 3 ∧ BT h p m g8 g15 H i C0 C1 C2 [upTo i 0 (cellsOf m.inn r0), upTo i 1 (cellsOf m.out r1), upTo i 2 (cellsOf m.keep r2)] rs ∧ s = [.pt h.length g8 0 0, .fp (encProgram p), i64 i, .rf (h.length + 1) g15 0 3, i64 3]) (fun s _ => 3 - natA (nthA s 2)) (Wk.refl ⟨0, nilS, nilS, nilS, [], by omega, ⟨by simp, by simp, .nl (.nl (.nl .nil)), by simp, fun r hr => List.getElem?_append_left hr, fun _ => rfl, fun _ => rfl, fun _ => rfl⟩, rfl⟩) ?_
    rintro _ H ⟨i, C0, C1, C2, rs, hi, bt, rfl⟩
    have hrow := bt.row
    have hls := bt.lists
    have hHl := (List.getElem?_eq_some_iff.1 hls).1
    simp [↓go]
    refine ⟨fun hlt => ?_, fun hge => ?_⟩
    · have hi3 : i = 0 ∨ i = 1 ∨ i = 2 := by omega
      rcases hi3 with rfl | rfl | rfl
      · simp [↓go, hls]
        obtain ⟨t0, qs, ht0, oC, hqs, hre⟩ := bt.own.at2 (i := 0) (y := C0) rfl
        have et : t0 = encL encValue [] := by simpa [upTo] using ht0.symm
        subst et
        have hw1 : m.inn.length ≤ 1048576 := by omega
        have hkl : h.length < H.length := by omega
        refine lp_inv (fun s H' => ∃ (k : Nat) (C' : AVal) (ri : List Nat), k ≤ m.inn.length ∧ H'[h.length]? = some (.row g8 10 [.agg [.fp (encProgram p), i64 0, ff, i64 0, i64 0, C', C1, C2, nilS, nilS]]) ∧ Own H' [C'] [encL encValue (cellsUp m.inn r0 k)] ri ∧ rowSz H' C' 2 ∧ (∀ r ∈ ri, r ∈ qs ∨ H.length ≤ r) ∧ (∀ r, r < H.length → r ≠ h.length → r ∉ qs → H'[r]? = H[r]?) ∧ H.length ≤ H'.length ∧
          s = [.pt h.length g8 0 0, .fp (encProgram p), .rf (h.length + 1) g15 0 3, i64 3, i64 0, i64 k, i64 0, encL u32 m.inn, i64 m.inn.length]) (fun s _ => m.inn.length - natA (nthA s 5)) (Wk.refl ⟨0, C0, qs, by omega, hrow, oC, by rw [bt.n0 (by omega)]; trivial, fun r hr => .inl hr, fun _ _ _ _ => rfl, Nat.le_refl _, rfl⟩) ?_
        rintro _ H' ⟨k, C', ri, hk, hrow', o', sz', new', fr', hl', rfl⟩
        have hkl' : h.length < H'.length := by omega
        obtain ⟨f1, f2, f3⟩ := o'.sl_cell
        simp [↓go]
        refine ⟨fun hlt => ?_, fun hge => ?_⟩
        · obtain ⟨w, hw⟩ : ∃ w, m.inn[k]? = some w := ⟨_, List.getElem?_eq_getElem hlt⟩
          obtain ⟨_, hwl⟩ := List.getElem?_eq_some_iff.1 hw
          obtain ⟨t, ht⟩ : ∃ t, r0[k]? = some t := ⟨_, List.getElem?_eq_getElem (by omega)⟩
          obtain ⟨htl, htt⟩ := List.getElem?_eq_some_iff.1 ht
          obtain ⟨htr, htr2⟩ := List.getElem?_eq_some_iff.1 hr0
          simp [↓go, hw, hwl, hlt, hr0, htr2, ht, htt, htl, h3]
          have hk2 := cellsUp_succ m.inn r0 k
          rw [getD_of hw, getD_of ht] at hk2
          refine jn_cut (fun s Hx => H' = Hx ∧ s = [.pt h.length g8 0 0, .fp (encProgram p), .rf (h.length + 1) g15 0 3, i64 3, i64 0, i64 0, encL u32 m.inn, i64 m.inn.length, i64 k, u32 (valOf t w).word, i64 t]) ?_ ?_
          · simp [↓go, hw, hwl, hlt, hr0, htr2, ht, htt, htl, h3]
            refine ⟨fun h1 => ?_, fun h1 => ?_⟩
            · refine S_flag ?_
              refine wk_ex ⟨rfl, ?_⟩
              simp [valOf, h1, ht]
            · refine wk_ex ⟨rfl, ?_⟩
              simp [valOf, h1, ht]
          rintro _ _ ⟨rfl, rfl⟩
          have happ : ∀ l : AHeap, (H' ++ l)[h.length]? = some (.row g8 10 [.agg [.fp (encProgram p), i64 0, ff, i64 0, i64 0, C', C1, C2, nilS, nilS]]) := fun l => by rw [List.getElem?_append_left hkl']; exact hrow'
          simp [↓go, hrow', happ, f1, f2, f3]
          intro g9
          have hne : h.length ∉ ri := fun hmm => by
            rcases new' _ hmm with h | h
            · have := bt.lo _ (hqs _ h); omega
            · omega
          refine appendM_own (e := 170) (s := 2) (y := .agg [i64 t, u32 (valOf t w).word]) (ty := encValue (valOf t w)) (ry := []) (by simp) (by simp) (by simp) (by omega) (by simp) (by simp; omega) (by simp [maxLen]; omega) o'.grow (rowSz_fr o' sz' (fun r hr => List.getElem?_append_left (o'.lt r hr))) (by simp) rfl rfl (Own.agg_mk (.v rfl (.v rfl .nil))) (by simp) (fun C4 H4 ri' o4 sz4 b4 fr4 hl4 kk => ?_)
          obtain ⟨k1, k2, k3⟩ := kk
          simp at hl4
          have h4row : H4[h.length]? = some (.row g8 10 [.agg [.fp (encProgram p), i64 0, ff, i64 0, i64 0, C', C1, C2, nilS, nilS]]) := by rw [fr4 _ (by simp; omega) hne]; exact happ _
          have hne4 : ∀ r ∈ ri', r ≠ h.length := fun r hr e => by
            rcases b4 r hr with h | h | h
            · exact hne (e ▸ h)
            · cases h
            · simp at h; omega
          simp [h4row, k1, k2, k3]
          rw [w64 (by omega) (by omega)]
          refine wk_ex (And.intro ⟨k + 1, C4, ri', by omega, by rw [List.getElem?_set_self (by omega)], ?_, rowSz_fr o4 sz4 (fun r hr => List.getElem?_set_ne (fun e => hne4 r hr e.symm)), fun r hr => ?_, fun r h1 h2 hq => ?_, by simp; omega, rfl⟩ ?_)
          · rw [hk2]
            show Own _ [C4] [.sl ((cellsUp m.inn r0 k ++ [valOf t w]).map encValue)] ri'
            rw [List.map_append]
            exact o4.frame (fun r hr => List.getElem?_set_ne (fun e => hne4 r hr e.symm))
          · rcases b4 r hr with h | h | h
            · exact new' r h
            · cases h
            · simp at h; exact .inr (by omega)
          · rw [List.getElem?_set_ne (fun e => h2 e.symm), fr4 r (by simp; omega) (fun hmm => by
              rcases new' r hmm with h | h
              · exact hq h
              · omega), List.getElem?_append_left (by omega)]
            exact fr' r h1 h2 hq
          · simp; omega
        · obtain rfl : k = m.inn.length := by omega
          rw [w64 (by omega) (by omega)]
          obtain ⟨rs', o5, b5⟩ := hre H' C' _ ri o' (fun r hr hn => fr' r (bt.own.lt r hr) (by have := bt.lo r hr; omega) hn) (fun r hr => (new' r hr).imp id (fun h hmm => by have := bt.own.lt r hmm; omega))
          refine wk_ex (And.intro ⟨0 + 1, C', C1, C2, rs', by omega, ⟨hrow', ?_, ?_, fun r hr => ?_, fun r hr => ?_, fun h => by omega, fun _ => bt.n1 (by omega), fun _ => bt.n2 (by omega)⟩, rfl⟩ (by simp))
          · rw [fr' _ (by omega) (by omega) (fun hmm => by have := bt.lo _ (hqs _ hmm); omega)]; exact hls
          · simpa [upTo, cellsOf] using o5
          · rcases b5 r hr with h | h
            · exact bt.lo r h
            · rcases new' r h with h | h
              · exact bt.lo r (hqs r h)
              · omega
          · rw [fr' r (by omega) (by omega) (fun hmm => by have := bt.lo _ (hqs _ hmm); omega)]; exact bt.pre r hr
      · simp [↓go, hls]
        obtain ⟨t0, qs, ht0, oC, hqs, hre⟩ := bt.own.at2 (i := 1) (y := C1) rfl
        have et : t0 = encL encValue [] := by simpa [upTo] using ht0.symm
        subst et
        have hw1 : m.out.length ≤ 1048576 := by omega
        have hkl : h.length < H.length := by omega
        refine lp_inv (fun s H' => ∃ (k : Nat) (C' : AVal) (ri : List Nat), k ≤ m.out.length ∧ H'[h.length]? = some (.row g8 10 [.agg [.fp (encProgram p), i64 0, ff, i64 0, i64 0, C0, C', C2, nilS, nilS]]) ∧ Own H' [C'] [encL encValue (cellsUp m.out r1 k)] ri ∧ rowSz H' C' 2 ∧ (∀ r ∈ ri, r ∈ qs ∨ H.length ≤ r) ∧ (∀ r, r < H.length → r ≠ h.length → r ∉ qs → H'[r]? = H[r]?) ∧ H.length ≤ H'.length ∧
          s = [.pt h.length g8 0 0, .fp (encProgram p), .rf (h.length + 1) g15 0 3, i64 3, i64 1, i64 k, i64 1, encL u32 m.out, i64 m.out.length]) (fun s _ => m.out.length - natA (nthA s 5)) (Wk.refl ⟨0, C1, qs, by omega, hrow, oC, by rw [bt.n1 (by omega)]; trivial, fun r hr => .inl hr, fun _ _ _ _ => rfl, Nat.le_refl _, rfl⟩) ?_
        rintro _ H' ⟨k, C', ri, hk, hrow', o', sz', new', fr', hl', rfl⟩
        have hkl' : h.length < H'.length := by omega
        obtain ⟨f1, f2, f3⟩ := o'.sl_cell
        simp [↓go]
        refine ⟨fun hlt => ?_, fun hge => ?_⟩
        · obtain ⟨w, hw⟩ : ∃ w, m.out[k]? = some w := ⟨_, List.getElem?_eq_getElem hlt⟩
          obtain ⟨_, hwl⟩ := List.getElem?_eq_some_iff.1 hw
          obtain ⟨t, ht⟩ : ∃ t, r1[k]? = some t := ⟨_, List.getElem?_eq_getElem (by omega)⟩
          obtain ⟨htl, htt⟩ := List.getElem?_eq_some_iff.1 ht
          obtain ⟨htr, htr2⟩ := List.getElem?_eq_some_iff.1 hr1
          simp [↓go, hw, hwl, hlt, hr1, htr2, ht, htt, htl, h3]
          have hk2 := cellsUp_succ m.out r1 k
          rw [getD_of hw, getD_of ht] at hk2
          refine jn_cut (fun s Hx => H' = Hx ∧ s = [.pt h.length g8 0 0, .fp (encProgram p), .rf (h.length + 1) g15 0 3, i64 3, i64 1, i64 1, encL u32 m.out, i64 m.out.length, i64 k, u32 (valOf t w).word, i64 t]) ?_ ?_
          · simp [↓go, hw, hwl, hlt, hr1, htr2, ht, htt, htl, h3]
            refine ⟨fun h1 => ?_, fun h1 => ?_⟩
            · refine S_flag ?_
              refine wk_ex ⟨rfl, ?_⟩
              simp [valOf, h1, ht]
            · refine wk_ex ⟨rfl, ?_⟩
              simp [valOf, h1, ht]
          rintro _ _ ⟨rfl, rfl⟩
          have happ : ∀ l : AHeap, (H' ++ l)[h.length]? = some (.row g8 10 [.agg [.fp (encProgram p), i64 0, ff, i64 0, i64 0, C0, C', C2, nilS, nilS]]) := fun l => by rw [List.getElem?_append_left hkl']; exact hrow'
          simp [↓go, hrow', happ, f1, f2, f3]
          intro g9
          have hne : h.length ∉ ri := fun hmm => by
            rcases new' _ hmm with h | h
            · have := bt.lo _ (hqs _ h); omega
            · omega
          refine appendM_own (e := 170) (s := 2) (y := .agg [i64 t, u32 (valOf t w).word]) (ty := encValue (valOf t w)) (ry := []) (by simp) (by simp) (by simp) (by omega) (by simp) (by simp; omega) (by simp [maxLen]; omega) o'.grow (rowSz_fr o' sz' (fun r hr => List.getElem?_append_left (o'.lt r hr))) (by simp) rfl rfl (Own.agg_mk (.v rfl (.v rfl .nil))) (by simp) (fun C4 H4 ri' o4 sz4 b4 fr4 hl4 kk => ?_)
          obtain ⟨k1, k2, k3⟩ := kk
          simp at hl4
          have h4row : H4[h.length]? = some (.row g8 10 [.agg [.fp (encProgram p), i64 0, ff, i64 0, i64 0, C0, C', C2, nilS, nilS]]) := by rw [fr4 _ (by simp; omega) hne]; exact happ _
          have hne4 : ∀ r ∈ ri', r ≠ h.length := fun r hr e => by
            rcases b4 r hr with h | h | h
            · exact hne (e ▸ h)
            · cases h
            · simp at h; omega
          simp [h4row, k1, k2, k3]
          rw [w64 (by omega) (by omega)]
          refine wk_ex (And.intro ⟨k + 1, C4, ri', by omega, by rw [List.getElem?_set_self (by omega)], ?_, rowSz_fr o4 sz4 (fun r hr => List.getElem?_set_ne (fun e => hne4 r hr e.symm)), fun r hr => ?_, fun r h1 h2 hq => ?_, by simp; omega, rfl⟩ ?_)
          · rw [hk2]
            show Own _ [C4] [.sl ((cellsUp m.out r1 k ++ [valOf t w]).map encValue)] ri'
            rw [List.map_append]
            exact o4.frame (fun r hr => List.getElem?_set_ne (fun e => hne4 r hr e.symm))
          · rcases b4 r hr with h | h | h
            · exact new' r h
            · cases h
            · simp at h; exact .inr (by omega)
          · rw [List.getElem?_set_ne (fun e => h2 e.symm), fr4 r (by simp; omega) (fun hmm => by
              rcases new' r hmm with h | h
              · exact hq h
              · omega), List.getElem?_append_left (by omega)]
            exact fr' r h1 h2 hq
          · simp; omega
        · obtain rfl : k = m.out.length := by omega
          rw [w64 (by omega) (by omega)]
          obtain ⟨rs', o5, b5⟩ := hre H' C' _ ri o' (fun r hr hn => fr' r (bt.own.lt r hr) (by have := bt.lo r hr; omega) hn) (fun r hr => (new' r hr).imp id (fun h hmm => by have := bt.own.lt r hmm; omega))
          refine wk_ex (And.intro ⟨1 + 1, C0, C', C2, rs', by omega, ⟨hrow', ?_, ?_, fun r hr => ?_, fun r hr => ?_, fun h => by omega, fun h => by omega, fun _ => bt.n2 (by omega)⟩, rfl⟩ (by simp))
          · rw [fr' _ (by omega) (by omega) (fun hmm => by have := bt.lo _ (hqs _ hmm); omega)]; exact hls
          · simpa [upTo, cellsOf] using o5
          · rcases b5 r hr with h | h
            · exact bt.lo r h
            · rcases new' r h with h | h
              · exact bt.lo r (hqs r h)
              · omega
          · rw [fr' r (by omega) (by omega) (fun hmm => by have := bt.lo _ (hqs _ hmm); omega)]; exact bt.pre r hr
      · simp [↓go, hls]
        obtain ⟨t0, qs, ht0, oC, hqs, hre⟩ := bt.own.at2 (i := 2) (y := C2) rfl
        have et : t0 = encL encValue [] := by simpa [upTo] using ht0.symm
        subst et
        have hw1 : m.keep.length ≤ 1048576 := by omega
        have hkl : h.length < H.length := by omega
        refine lp_inv (fun s H' => ∃ (k : Nat) (C' : AVal) (ri : List Nat), k ≤ m.keep.length ∧ H'[h.length]? = some (.row g8 10 [.agg [.fp (encProgram p), i64 0, ff, i64 0, i64 0, C0, C1, C', nilS, nilS]]) ∧ Own H' [C'] [encL encValue (cellsUp m.keep r2 k)] ri ∧ rowSz H' C' 2 ∧ (∀ r ∈ ri, r ∈ qs ∨ H.length ≤ r) ∧ (∀ r, r < H.length → r ≠ h.length → r ∉ qs → H'[r]? = H[r]?) ∧ H.length ≤ H'.length ∧
          s = [.pt h.length g8 0 0, .fp (encProgram p), .rf (h.length + 1) g15 0 3, i64 3, i64 2, i64 k, i64 2, encL u32 m.keep, i64 m.keep.length]) (fun s _ => m.keep.length - natA (nthA s 5)) (Wk.refl ⟨0, C2, qs, by omega, hrow, oC, by rw [bt.n2 (by omega)]; trivial, fun r hr => .inl hr, fun _ _ _ _ => rfl, Nat.le_refl _, rfl⟩) ?_
        rintro _ H' ⟨k, C', ri, hk, hrow', o', sz', new', fr', hl', rfl⟩
        have hkl' : h.length < H'.length := by omega
        obtain ⟨f1, f2, f3⟩ := o'.sl_cell
        simp [↓go]
        refine ⟨fun hlt => ?_, fun hge => ?_⟩
        · obtain ⟨w, hw⟩ : ∃ w, m.keep[k]? = some w := ⟨_, List.getElem?_eq_getElem hlt⟩
          obtain ⟨_, hwl⟩ := List.getElem?_eq_some_iff.1 hw
          obtain ⟨t, ht⟩ : ∃ t, r2[k]? = some t := ⟨_, List.getElem?_eq_getElem (by omega)⟩
          obtain ⟨htl, htt⟩ := List.getElem?_eq_some_iff.1 ht
          obtain ⟨htr, htr2⟩ := List.getElem?_eq_some_iff.1 hr2
          simp [↓go, hw, hwl, hlt, hr2, htr2, ht, htt, htl, h3]
          have hk2 := cellsUp_succ m.keep r2 k
          rw [getD_of hw, getD_of ht] at hk2
          refine jn_cut (fun s Hx => H' = Hx ∧ s = [.pt h.length g8 0 0, .fp (encProgram p), .rf (h.length + 1) g15 0 3, i64 3, i64 2, i64 2, encL u32 m.keep, i64 m.keep.length, i64 k, u32 (valOf t w).word, i64 t]) ?_ ?_
          · simp [↓go, hw, hwl, hlt, hr2, htr2, ht, htt, htl, h3]
            refine ⟨fun h1 => ?_, fun h1 => ?_⟩
            · refine S_flag ?_
              refine wk_ex ⟨rfl, ?_⟩
              simp [valOf, h1, ht]
            · refine wk_ex ⟨rfl, ?_⟩
              simp [valOf, h1, ht]
          rintro _ _ ⟨rfl, rfl⟩
          have happ : ∀ l : AHeap, (H' ++ l)[h.length]? = some (.row g8 10 [.agg [.fp (encProgram p), i64 0, ff, i64 0, i64 0, C0, C1, C', nilS, nilS]]) := fun l => by rw [List.getElem?_append_left hkl']; exact hrow'
          simp [↓go, hrow', happ, f1, f2, f3]
          intro g9
          have hne : h.length ∉ ri := fun hmm => by
            rcases new' _ hmm with h | h
            · have := bt.lo _ (hqs _ h); omega
            · omega
          refine appendM_own (e := 170) (s := 2) (y := .agg [i64 t, u32 (valOf t w).word]) (ty := encValue (valOf t w)) (ry := []) (by simp) (by simp) (by simp) (by omega) (by simp) (by simp; omega) (by simp [maxLen]; omega) o'.grow (rowSz_fr o' sz' (fun r hr => List.getElem?_append_left (o'.lt r hr))) (by simp) rfl rfl (Own.agg_mk (.v rfl (.v rfl .nil))) (by simp) (fun C4 H4 ri' o4 sz4 b4 fr4 hl4 kk => ?_)
          obtain ⟨k1, k2, k3⟩ := kk
          simp at hl4
          have h4row : H4[h.length]? = some (.row g8 10 [.agg [.fp (encProgram p), i64 0, ff, i64 0, i64 0, C0, C1, C', nilS, nilS]]) := by rw [fr4 _ (by simp; omega) hne]; exact happ _
          have hne4 : ∀ r ∈ ri', r ≠ h.length := fun r hr e => by
            rcases b4 r hr with h | h | h
            · exact hne (e ▸ h)
            · cases h
            · simp at h; omega
          simp [h4row, k1, k2, k3]
          rw [w64 (by omega) (by omega)]
          refine wk_ex (And.intro ⟨k + 1, C4, ri', by omega, by rw [List.getElem?_set_self (by omega)], ?_, rowSz_fr o4 sz4 (fun r hr => List.getElem?_set_ne (fun e => hne4 r hr e.symm)), fun r hr => ?_, fun r h1 h2 hq => ?_, by simp; omega, rfl⟩ ?_)
          · rw [hk2]
            show Own _ [C4] [.sl ((cellsUp m.keep r2 k ++ [valOf t w]).map encValue)] ri'
            rw [List.map_append]
            exact o4.frame (fun r hr => List.getElem?_set_ne (fun e => hne4 r hr e.symm))
          · rcases b4 r hr with h | h | h
            · exact new' r h
            · cases h
            · simp at h; exact .inr (by omega)
          · rw [List.getElem?_set_ne (fun e => h2 e.symm), fr4 r (by simp; omega) (fun hmm => by
              rcases new' r hmm with h | h
              · exact hq h
              · omega), List.getElem?_append_left (by omega)]
            exact fr' r h1 h2 hq
          · simp; omega
        · obtain rfl : k = m.keep.length := by omega
          rw [w64 (by omega) (by omega)]
          obtain ⟨rs', o5, b5⟩ := hre H' C' _ ri o' (fun r hr hn => fr' r (bt.own.lt r hr) (by have := bt.lo r hr; omega) hn) (fun r hr => (new' r hr).imp id (fun h hmm => by have := bt.own.lt r hmm; omega))
          refine wk_ex (And.intro ⟨2 + 1, C0, C1, C', rs', by omega, ⟨hrow', ?_, ?_, fun r hr => ?_, fun r hr => ?_, fun h => by omega, fun h => by omega, fun h => by omega⟩, rfl⟩ (by simp))
          · rw [fr' _ (by omega) (by omega) (fun hmm => by have := bt.lo _ (hqs _ hmm); omega)]; exact hls
          · simpa [upTo, cellsOf] using o5
          · rcases b5 r hr with h | h
            · exact bt.lo r h
            · rcases new' r h with h | h
              · exact bt.lo r (hqs r h)
              · omega
          · rw [fr' r (by omega) (by omega) (fun hmm => by have := bt.lo _ (hqs _ hmm); omega)]; exact bt.pre r hr
    · obtain rfl : i = 3 := by omega
      have hfo := funcs_pos h0
      obtain ⟨f0, hf0⟩ : ∃ f, p.funcs[0]? = some f := ⟨_, List.getElem?_eq_getElem hfo⟩
      obtain ⟨_, hf1⟩ := List.getElem?_eq_some_iff.1 hf0
      have hfs := small_ff (small_f hs hf0)
      simp [↓go, hf0, hf1]
      refine ⟨by omega, O_zeros (by omega) (fun y l hmd => ?_)⟩
      obtain ⟨rz, oz, bz, _⟩ := hmd
      obtain ⟨z1, z2, z3⟩ := oz.sl_cell
      simp [↓go, hf0, hf1, z1, z2, z3]
      intro g9
      have hHl2 : h.length < H.length := by omega
      have happ : ∀ l : AHeap, (H ++ l)[h.length]? = some (.row g8 10 [.agg [.fp (encProgram p), i64 0, ff, i64 0, i64 0, C0, C1, C2, nilS, nilS]]) := fun l => by rw [List.getElem?_append_left hHl2]; exact hrow
      simp [happ]
      obtain ⟨l', hl'⟩ := heap_split (h := h) (H := (H ++ (l ++ [AObj.row g9 5 [.agg [.fp (encFunc f0), i64 0, i64 0, i64 0, y]]])).set h.length (.row g8 10 [.agg [.fp (encProgram p), i64 0, ff, i64 0, i64 0, C0, C1, C2, nilS, .rf (H.length + l.length) g9 0 1]])) (fun r hr => by rw [List.getElem?_set_ne (by omega), List.getElem?_append_left (by omega)]; exact bt.pre r hr) (by simp; omega)
      have fr : ∀ r, r ≠ h.length → (h ++ l')[r]? = (H ++ (l ++ [AObj.row g9 5 [.agg [.fp (encFunc f0), i64 0, i64 0, i64 0, y]]]))[r]? := fun r hr => by rw [← hl', List.getElem?_set_ne (fun e => hr e.symm)]
      have oc : Own (h ++ l') [C0, C1, C2] _ rs := bt.own.frame (fun r hr => by
        rw [fr r (by have := bt.lo r hr; omega), List.getElem?_append_left (bt.own.lt r hr)])
      have oy : Own (h ++ l') [y] _ rz := oz.frame (fun r hr => by
        have := bz r hr
        have h2 := oz.lt r hr
        rw [fr r (by omega), ← List.append_assoc, List.getElem?_append_left h2])
      have of : Own (h ++ l') [.rf (H.length + l.length) g9 0 1] [.sl [encWork ⟨.fp (encFunc f0), 0, 0, 0, zerosOf f0.locals⟩]] ((H.length + l.length) :: rz) := by
        refine Own.rf_mk (s := 5) (ys := [.agg [.fp (encFunc f0), i64 0, i64 0, i64 0, y]]) ?_ rfl (Own.agg_mk (.fz (.v rfl (.v rfl (.v rfl oy))))) (fun hmm => by have := oz.lt _ hmm; simp at this)
        rw [fr _ (by omega)]
        simp
      have o3 := oc.app (Own.nl of) (fun r hr hmm => by
        have h1 := bt.own.lt r hr
        rcases List.mem_cons.1 hmm with h | h
        · omega
        · have := bz r h; omega)
      have o4 : Own (h ++ l') [.pt h.length g8 0 0] [.fp (encMach (machOf p m))] (h.length :: (rs ++ ((H.length + l.length) :: rz))) := by
        refine Own.pt_mk (s := 10) (y := .agg [.fp (encProgram p), i64 0, ff, i64 0, i64 0, C0, C1, C2, nilS, .rf (H.length + l.length) g9 0 1]) ?_ ?_ ?_
        · rw [← hl', List.getElem?_set_self (by simp; omega)]
        · have := Own.agg_mk (Own.fz (y := encProgram p) (.v (x := .int .i64 0) rfl (.v (x := .bool false) rfl (.v (x := .int .i64 0) rfl (.v (x := .int .i64 0) rfl o3)))))
          unfold machOf encMach
          rw [getD_of hr0, getD_of hr1, getD_of hr2, getD_of hf0]
          have hu : ∀ j l, j < 3 → upTo 3 j l = encL encValue l := fun j l hj => by unfold upTo; rw [if_pos hj]
          rw [hu 0 _ (by omega), hu 1 _ (by omega), hu 2 _ (by omega)] at this
          exact this
        · intro hmm
          rcases List.mem_append.1 hmm with h | h
          · have := bt.lo _ h; omega
          · rcases List.mem_cons.1 h with h | h
            · omega
            · have := bz _ h; omega
      rw [hl']
      refine retW2_ex (q1 _ _ _ _ o4 (fun x hx => ?_))
      rcases List.mem_cons.1 hx with rfl | hx
      · exact Nat.le_refl _
      · rcases List.mem_append.1 hx with h | h
        · have := bt.lo _ h; omega
        · rcases List.mem_cons.1 h with h | h
          · omega
          · have := bz _ h; omega
end Go.Proofs.YtkfpoagnchahkaaGreat.A
