/- Of this session: over the abstract machine. -/
import Derived.Test.YtkfpoagnchahkaaGreatProg
import Derived.Test.YtkfpoagnchahkaaGreatA
import Derived.Test.YtkfpoagnchahkaaGreatO
namespace Go.Proofs.YtkfpoagnchahkaaGreat.A
open Go Go.RowKit
set_option linter.unusedVariables false
set_option linter.unusedSimpArgs false
set_option maxRecDepth 100000
set_option maxHeartbeats 1000000
/-! ### a list that grows -/
def rowSz (H : AHeap) (C : AVal) (s : Nat) : Prop := match C with
  | .rf r _ _ _ => ∃ g ys, H[r]? = some (.row g s ys)
  | _ => True
theorem appendM_own {P : Program} {t e s : Nat} {H : AHeap} {K : KA} {C y ty : AVal} {zs : List AVal} {rs ry : List Nat} {q gq : Nat}
    (he : slT P t = some e) (hok : okT P e = true) (hs : szT P e = s) (hs0 : 0 < s) (hz : zokT P e = true) (hb : (zs.length + 1) * byT P e ≤ 140737488355328) (hml : zs.length + 1 ≤ maxLen)
    (ho : Own H [C] [.sl zs] rs) (hC : rowSz H C s) (hq : H[q]? = some (.row gq s [y])) (hy : y.flat.length = s) (hw : y.whole = true) (oy : Own H [y] [ty] ry) (hd : ∀ r ∈ ry, r ∉ rs)
    (hK : ∀ C' H' rs', Own H' [C'] [.sl (zs ++ [ty])] rs' → rowSz H' C' s → (∀ r ∈ rs', r ∈ rs ∨ r ∈ ry ∨ r = H.length) → (∀ r, r < H.length → r ∉ rs → H'[r]? = H[r]?) → H.length ≤ H'.length → C'.flat = [C'] ∧ C'.c1 = true ∧ C'.isAgg = false → K C' H') : appendM P t t C (.rf q gq 0 1) H K := by
  refine ⟨?_⟩
  unfold appendM_b
  have hel : elsA H (.rf q gq 0 1) = some [y] := by
    unfold elsA
    simp [hq]
  rw [he, hel]
  refine ⟨hok, by omega, hz, .inl rfl, fun z hzm => ?_, ?_⟩
  · rw [List.mem_singleton] at hzm; subst hzm; exact ⟨by omega, hw⟩
  rcases ho.sl_inv with ⟨rfl, rfl, rfl⟩ | ⟨r, g, s', n, ys, r1, rfl, rfl, hr, hn, h1, hnr⟩
  · refine ⟨by simpa using hb, by simpa using hml, fun hh => (by cases hh), fun _ g => ?_⟩
    refine hK _ _ (H.length :: ry) (Own.rf_mk (s := szT P e) (ys := [y]) (by simp) rfl (by simpa using oy.grow) (fun hm => by have := oy.lt _ hm; omega)) ⟨g, [y], by simp [hs]⟩ (fun r hr => ?_) (fun r hr _ => by rw [List.getElem?_append_left hr]) (by simp) ⟨rfl, rfl, rfl⟩
    rcases List.mem_cons.1 hr with rfl | hr
    · exact .inr (.inr rfl)
    · exact .inr (.inl hr)
  · obtain ⟨g', ys', hr'⟩ := hC
    rw [hr] at hr'
    cases hr'
    have hrl := (List.getElem?_eq_some_iff.1 hr).1
    have hzl := h1.len
    have hrow : H[r]? = some (.row g s ys) := hr
    simp only [hrow]
    refine ⟨trivial, hs.symm, by omega, ?_, ?_, fun g2 => ?_⟩
    · rw [← hn, hzl]; exact hb
    · rw [← hn, hzl]; exact hml
    · have hset : (H.set r (.row g2 s (ys.take n ++ [y])))[r]? = some (.row g2 s (ys ++ [y])) := by
        rw [List.take_of_length_le (by omega)]; simp [hrl]
      have fr : ∀ x, x ≠ r → (H.set r (.row g2 s (ys.take n ++ [y])))[x]? = H[x]? := fun x hx => List.getElem?_set_ne (fun e => hx e.symm)
      have o1 : Own (H.set r (.row g2 s (ys.take n ++ [y]))) ys zs r1 := h1.frame (fun x hx => fr x (fun e => hnr (e ▸ hx)))
      have o2 : Own (H.set r (.row g2 s (ys.take n ++ [y]))) [y] [ty] ry := oy.frame (fun x hx => fr x (fun e => hd x hx (e ▸ List.mem_cons_self)))
      have o3 := o1.app o2 (fun x hx hm => hd x hm (List.mem_cons_of_mem _ hx))
      refine hK _ _ (r :: (r1 ++ ry)) (Own.rf_mk hset (by simp [hn]) o3 (fun hm => ?_)) ⟨g2, _, hset⟩ (fun x hx => ?_) (fun x _ hx => fr x (fun e => hx (e ▸ List.mem_cons_self))) (by simp) ⟨rfl, rfl, rfl⟩
      · rcases List.mem_append.1 hm with h | h
        · exact hnr h
        · exact hd r h List.mem_cons_self
      · rcases List.mem_cons.1 hx with rfl | hx
        · exact .inl List.mem_cons_self
        · rcases List.mem_append.1 hx with h | h
          · exact .inl (List.mem_cons_of_mem _ h)
          · exact .inr (.inl h)
theorem heap_split {h H : AHeap} (hp : ∀ r, r < h.length → H[r]? = h[r]?) (hl : h.length ≤ H.length) : ∃ l, H = h ++ l := by
  refine ⟨H.drop h.length, ?_⟩
  apply List.ext_getElem?
  intro i
  rcases Nat.lt_or_ge i h.length with hi | hi
  · rw [List.getElem?_append_left hi, hp i hi]
  · rw [List.getElem?_append_right hi, List.getElem?_drop, show h.length + (i - h.length) = i by omega]
theorem Own.at2 {h : AHeap} : ∀ {xs ts : List AVal} {rs : List Nat} (ho : Own h xs ts rs) {i : Nat} {y : AVal}, xs[i]? = some y → ∃ t qs, ts[i]? = some t ∧ Own h [y] [t] qs ∧ (∀ q ∈ qs, q ∈ rs) ∧
    ∀ (h' : AHeap) (y' t' : AVal) (qs' : List Nat), Own h' [y'] [t'] qs' → (∀ r ∈ rs, r ∉ qs → h'[r]? = h[r]?) → (∀ r ∈ qs', r ∈ qs ∨ r ∉ rs) → ∃ rs', Own h' (xs.set i y') (ts.set i t') rs' ∧ ∀ r ∈ rs', r ∈ rs ∨ r ∈ qs'
  | [], _, _, _, i, y, hy => by simp at hy
  | x :: xs, ts, rs, ho, i, y, hy => by
    obtain ⟨t, ts', r1, r2, rfl, h1, ht, rfl, hd⟩ := ho.cons_inv2
    cases i with
    | zero =>
      cases hy
      refine ⟨t, r1, rfl, h1, fun q hq => List.mem_append_left _ hq, fun h' y' t' qs' ho' hf hq => ⟨qs' ++ r2, ?_, fun r hr => ?_⟩⟩
      · exact Own.cons ho' (ht.frame fun r hr => hf r (List.mem_append_right _ hr) (fun hm => hd r hm hr)) (fun r hr hm => by
          rcases hq r hr with h | h
          · exact hd r h hm
          · exact h (List.mem_append_right _ hm))
      · rcases List.mem_append.1 hr with h | h
        · exact .inr h
        · exact .inl (List.mem_append_right _ h)
    | succ i =>
      obtain ⟨t0, qs, g1, g2, g3, g4⟩ := Own.at2 ht (i := i) hy
      refine ⟨t0, qs, g1, g2, fun q hq => List.mem_append_right _ (g3 q hq), fun h' y' t' qs' ho' hf hq => ?_⟩
      obtain ⟨rs2, k1, k2⟩ := g4 h' y' t' qs' ho' (fun r hr hn => hf r (List.mem_append_right _ hr) hn) (fun r hr => (hq r hr).imp id (fun h hm => h (List.mem_append_right _ hm)))
      refine ⟨r1 ++ rs2, Own.cons (h1.frame fun r hr => hf r (List.mem_append_left _ hr) fun hm => hd r hr (g3 r hm)) k1 (fun r hr hm => ?_), fun r hr => ?_⟩
      · rcases k2 r hm with h | h
        · exact hd r hr h
        · rcases hq r h with h | h
          · exact hd r hr (g3 r h)
          · exact h (List.mem_append_left _ hr)
      · rcases List.mem_append.1 hr with h | h
        · exact .inl (List.mem_append_left _ h)
        · exact (k2 r h).imp (fun h => List.mem_append_right _ h) id
theorem own_mid {h A l R pre : AHeap} {y t : AVal} {s : List Nat} (ho : Own (pre ++ l) [y] [t] s) (hb : ∀ r ∈ s, pre.length ≤ r) (hp : pre.length = h.length + A.length) : Own (h ++ (A ++ (l ++ R))) [y] [t] s :=
  ho.frame fun r hr => by
    have h1 := hb r hr
    have h2 := ho.lt r hr
    rw [List.length_append] at h2
    rw [List.getElem?_append_right (by omega), List.getElem?_append_right (by omega), List.getElem?_append_left (by omega), List.getElem?_append_right (by omega)]
    congr 1
    omega
end Go.Proofs.YtkfpoagnchahkaaGreat.A
