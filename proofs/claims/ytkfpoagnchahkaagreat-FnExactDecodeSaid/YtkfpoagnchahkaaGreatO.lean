/- Of this session: over the abstract machine. -/
import Derived.Test.YtkfpoagnchahkaaGreatProg
import Derived.Test.YtkfpoagnchahkaaGreatA
namespace Go.Proofs.YtkfpoagnchahkaaGreat.A
open Go Go.RowKit
set_option linter.unusedVariables false
set_option linter.unusedSimpArgs false
set_option maxRecDepth 100000
set_option maxHeartbeats 1000000
/-! ### what a value owns: it reads as a tree, its rows are its own -/
def scalV : Value → Bool
  | .int _ _ => true
  | .bool _ => true
  | .string _ => true
  | _ => false
inductive Own (h : AHeap) : List AVal → List AVal → List Nat → Prop
  | nil : Own h [] [] []
  | v {x : Value} {xs ts : List AVal} {rs : List Nat} (hx : scalV x = true) (ht : Own h xs ts rs) : Own h (.v x :: xs) (.v x :: ts) rs
  | nl {xs ts : List AVal} {rs : List Nat} (ht : Own h xs ts rs) : Own h (nilS :: xs) (.sl [] :: ts) rs
  | ag {cs ds xs ts : List AVal} {r1 r2 : List Nat} (h1 : Own h cs ds r1) (ht : Own h xs ts r2) (hd : ∀ r ∈ r1, r ∉ r2) : Own h (.agg cs :: xs) (.agg ds :: ts) (r1 ++ r2)
  | rf {r g s n : Nat} {ys zs xs ts : List AVal} {r1 r2 : List Nat} (hr : h[r]? = some (.row g s ys)) (hn : ys.length = n) (h1 : Own h ys zs r1) (ht : Own h xs ts r2) (hd : ∀ q ∈ r :: r1, q ∉ r2) (hnr : r ∉ r1) : Own h (.rf r g 0 n :: xs) (.sl zs :: ts) (r :: (r1 ++ r2))
  | fz {y : AVal} {xs ts : List AVal} {rs : List Nat} (ht : Own h xs ts rs) : Own h (.fp y :: xs) (.fp y :: ts) rs
  | pt {r g s : Nat} {y z : AVal} {xs ts : List AVal} {r1 r2 : List Nat} (hr : h[r]? = some (.row g s [y])) (h1 : Own h [y] [z] r1) (ht : Own h xs ts r2) (hd : ∀ q ∈ r :: r1, q ∉ r2) (hnr : r ∉ r1) : Own h (.pt r g 0 0 :: xs) (.fp z :: ts) (r :: (r1 ++ r2))
theorem Own.len {h : AHeap} {xs ts : List AVal} {rs : List Nat} (ho : Own h xs ts rs) : xs.length = ts.length := by
  induction ho with
  | nil => rfl
  | v _ _ ih => simp [ih]
  | nl _ ih => simp [ih]
  | ag _ _ _ _ ih => simp [ih]
  | rf _ _ _ _ _ _ _ ih => simp [ih]
  | fz _ ih => simp [ih]
  | pt _ _ _ _ _ _ ih => simp [ih]
theorem Own.lt {h : AHeap} {xs ts : List AVal} {rs : List Nat} (ho : Own h xs ts rs) : ∀ r ∈ rs, r < h.length := by
  induction ho with
  | nil => intro r hr; cases hr
  | v _ _ ih => exact ih
  | nl _ ih => exact ih
  | ag _ _ _ ih1 ih2 => intro r hr; rcases List.mem_append.1 hr with h | h; exact ih1 r h; exact ih2 r h
  | rf hr _ _ _ _ _ ih1 ih2 =>
    intro r hm
    rcases List.mem_cons.1 hm with rfl | hm
    · exact (List.getElem?_eq_some_iff.1 hr).1
    · rcases List.mem_append.1 hm with h | h; exact ih1 r h; exact ih2 r h
  | fz _ ih => exact ih
  | pt hr _ _ _ _ ih1 ih2 =>
    intro r hm
    rcases List.mem_cons.1 hm with rfl | hm
    · exact (List.getElem?_eq_some_iff.1 hr).1
    · rcases List.mem_append.1 hm with h | h; exact ih1 r h; exact ih2 r h
theorem Own.frame {h h' : AHeap} {xs ts : List AVal} {rs : List Nat} (ho : Own h xs ts rs) (hf : ∀ r ∈ rs, h'[r]? = h[r]?) : Own h' xs ts rs := by
  induction ho with
  | nil => exact .nil
  | v hx _ ih => exact .v hx (ih hf)
  | nl _ ih => exact .nl (ih hf)
  | ag _ _ hd ih1 ih2 => exact .ag (ih1 fun r h => hf r (List.mem_append_left _ h)) (ih2 fun r h => hf r (List.mem_append_right _ h)) hd
  | rf hr hn _ _ hd hnr ih1 ih2 =>
    exact .rf ((hf _ List.mem_cons_self).trans hr) hn (ih1 fun r h => hf r (List.mem_cons_of_mem _ (List.mem_append_left _ h))) (ih2 fun r h => hf r (List.mem_cons_of_mem _ (List.mem_append_right _ h))) hd hnr
  | fz _ ih => exact .fz (ih hf)
  | pt hr _ _ hd hnr ih1 ih2 =>
    exact .pt ((hf _ List.mem_cons_self).trans hr) (ih1 fun r h => hf r (List.mem_cons_of_mem _ (List.mem_append_left _ h))) (ih2 fun r h => hf r (List.mem_cons_of_mem _ (List.mem_append_right _ h))) hd hnr
theorem Own.grow {h l : AHeap} {xs ts : List AVal} {rs : List Nat} (ho : Own h xs ts rs) : Own (h ++ l) xs ts rs := ho.frame fun r hr => List.getElem?_append_left (ho.lt r hr)
/-- two that own apart from each other -/
theorem Own.app {h : AHeap} {xs ts : List AVal} {rs : List Nat} (ho : Own h xs ts rs) : ∀ {ys us : List AVal} {qs : List Nat}, Own h ys us qs → (∀ r ∈ rs, r ∉ qs) → Own h (xs ++ ys) (ts ++ us) (rs ++ qs) := by
  induction ho with
  | nil => intro ys us qs hk _; exact hk
  | v hx _ ih => intro ys us qs hk hd; exact .v hx (ih hk hd)
  | nl _ ih => intro ys us qs hk hd; exact .nl (ih hk hd)
  | @ag cs ds xs ts r1 r2 h1 _ hd0 _ ih =>
    intro ys us qs hk hd
    rw [List.append_assoc]
    refine .ag h1 (ih hk fun r hr => hd r (List.mem_append_right _ hr)) fun r hr hm => ?_
    rcases List.mem_append.1 hm with h | h
    · exact hd0 r hr h
    · exact hd r (List.mem_append_left _ hr) h
  | @rf r g s n ys0 zs xs ts r1 r2 hr hn h1 _ hd0 hnr _ ih =>
    intro ys us qs hk hd
    show Own h (.rf r g 0 n :: (xs ++ ys)) (.sl zs :: (ts ++ us)) (r :: (r1 ++ r2 ++ qs))
    rw [List.append_assoc]
    refine .rf hr hn h1 (ih hk fun q hq => hd q (List.mem_cons_of_mem _ (List.mem_append_right _ hq))) (fun q hq hm => ?_) hnr
    rcases List.mem_append.1 hm with h | h
    · exact hd0 q hq h
    · refine hd q ?_ h
      rcases List.mem_cons.1 hq with rfl | hq
      · exact List.mem_cons_self
      · exact List.mem_cons_of_mem _ (List.mem_append_left _ hq)
  | fz _ ih => intro ys us qs hk hd; exact .fz (ih hk hd)
  | @pt r g s y0 z xs ts r1 r2 hr h1 _ hd0 hnr _ ih =>
    intro ys us qs hk hd
    show Own h (.pt r g 0 0 :: (xs ++ ys)) (.fp z :: (ts ++ us)) (r :: (r1 ++ r2 ++ qs))
    rw [List.append_assoc]
    refine .pt hr h1 (ih hk fun q hq => hd q (List.mem_cons_of_mem _ (List.mem_append_right _ hq))) (fun q hq hm => ?_) hnr
    rcases List.mem_append.1 hm with h | h
    · exact hd0 q hq h
    · refine hd q ?_ h
      rcases List.mem_cons.1 hq with rfl | hq
      · exact List.mem_cons_self
      · exact List.mem_cons_of_mem _ (List.mem_append_left _ hq)
theorem Own.agg_inv {h : AHeap} {cs : List AVal} {t : AVal} {rs : List Nat} (ho : Own h [.agg cs] [t] rs) : ∃ ds, t = .agg ds ∧ Own h cs ds rs := by
  cases ho with
  | ag h1 hn _ => cases hn; rw [List.append_nil]; exact ⟨_, rfl, h1⟩
theorem Own.rf_inv {h : AHeap} {r g n : Nat} {t : AVal} {qs : List Nat} (ho : Own h [.rf r g 0 n] [t] qs) : ∃ s ys zs r1, t = .sl zs ∧ qs = r :: r1 ∧ h[r]? = some (.row g s ys) ∧ ys.length = n ∧ Own h ys zs r1 ∧ r ∉ r1 := by
  cases ho with
  | rf hr hn h1 hnil hd hnr => cases hnil; rw [List.append_nil]; exact ⟨_, _, _, _, rfl, rfl, hr, hn, h1, hnr⟩
theorem Own.agg_mk {h : AHeap} {cs ds : List AVal} {rs : List Nat} (ho : Own h cs ds rs) : Own h [.agg cs] [.agg ds] rs := by
  have := Own.ag ho .nil (r2 := []) (by simp)
  rwa [List.append_nil] at this
theorem Own.sl_inv {h : AHeap} {x : AVal} {zs : List AVal} {rs : List Nat} (ho : Own h [x] [.sl zs] rs) : (x = nilS ∧ zs = [] ∧ rs = []) ∨ ∃ r g s n ys r1, x = .rf r g 0 n ∧ rs = r :: r1 ∧ h[r]? = some (.row g s ys) ∧ ys.length = n ∧ Own h ys zs r1 ∧ r ∉ r1 := by
  cases ho with
  | nl hn => cases hn; exact .inl ⟨rfl, rfl, rfl⟩
  | rf hr hn h1 hnil hd hnr => cases hnil; rw [List.append_nil]; exact .inr ⟨_, _, _, _, _, _, rfl, rfl, hr, hn, h1, hnr⟩
theorem Own.rf_mk {h : AHeap} {r g s n : Nat} {ys zs : List AVal} {r1 : List Nat} (hr : h[r]? = some (.row g s ys)) (hn : ys.length = n) (h1 : Own h ys zs r1) (hnr : r ∉ r1) : Own h [.rf r g 0 n] [.sl zs] (r :: r1) := by
  have := Own.rf hr hn h1 .nil (r2 := []) (by simp) hnr
  rwa [List.append_nil] at this
theorem Own.cons {h : AHeap} {x t : AVal} {xs ts : List AVal} {r1 r2 : List Nat} (h1 : Own h [x] [t] r1) (h2 : Own h xs ts r2) (hd : ∀ r ∈ r1, r ∉ r2) : Own h (x :: xs) (t :: ts) (r1 ++ r2) := h1.app h2 hd
theorem Own.pt_mk {h : AHeap} {r g s : Nat} {y z : AVal} {r1 : List Nat} (hr : h[r]? = some (.row g s [y])) (h1 : Own h [y] [z] r1) (hnr : r ∉ r1) : Own h [.pt r g 0 0] [.fp z] (r :: r1) := by
  have := Own.pt hr h1 .nil (r2 := []) (by simp) hnr
  rwa [List.append_nil] at this
theorem Own.cons_inv2 {h : AHeap} {x : AVal} {xs ts : List AVal} {rs : List Nat} (ho : Own h (x :: xs) ts rs) : ∃ t ts' r1 r2, ts = t :: ts' ∧ Own h [x] [t] r1 ∧ Own h xs ts' r2 ∧ rs = r1 ++ r2 ∧ ∀ r ∈ r1, r ∉ r2 := by
  cases ho with
  | v hx ht => exact ⟨_, _, [], _, rfl, .v hx .nil, ht, rfl, fun r hr => (by cases hr)⟩
  | nl ht => exact ⟨_, _, [], _, rfl, .nl .nil, ht, rfl, fun r hr => (by cases hr)⟩
  | ag h1 ht hd => exact ⟨_, _, _, _, rfl, Own.agg_mk h1, ht, rfl, hd⟩
  | rf hr hn h1 ht hd hnr => exact ⟨_, _, _, _, rfl, Own.rf_mk hr hn h1 hnr, ht, rfl, hd⟩
  | fz ht => exact ⟨_, _, [], _, rfl, .fz .nil, ht, rfl, fun r hr => (by cases hr)⟩
  | pt hr h1 ht hd hnr => exact ⟨_, _, _, _, rfl, Own.pt_mk hr h1 hnr, ht, rfl, hd⟩
theorem Own.at {h : AHeap} : ∀ {xs ts : List AVal} {rs : List Nat} (ho : Own h xs ts rs) {i : Nat} {y : AVal}, xs[i]? = some y → ∃ t qs, ts[i]? = some t ∧ Own h [y] [t] qs ∧ (∀ q ∈ qs, q ∈ rs) ∧
    ∀ (h' : AHeap) (y' t' : AVal), Own h' [y'] [t'] qs → (∀ r ∈ rs, r ∉ qs → h'[r]? = h[r]?) → Own h' (xs.set i y') (ts.set i t') rs
  | [], _, _, _, i, y, hy => by simp at hy
  | x :: xs, ts, rs, ho, i, y, hy => by
    obtain ⟨t, ts', r1, r2, rfl, h1, ht, rfl, hd⟩ := ho.cons_inv2
    cases i with
    | zero =>
      cases hy
      exact ⟨t, r1, rfl, h1, fun q hq => List.mem_append_left _ hq, fun h' y' t' ho' hf => Own.cons ho' (ht.frame fun r hr => hf r (List.mem_append_right _ hr) (fun hm => hd r hm hr)) hd⟩
    | succ i =>
      obtain ⟨t0, qs, g1, g2, g3, g4⟩ := Own.at ht (i := i) hy
      exact ⟨t0, qs, g1, g2, fun q hq => List.mem_append_right _ (g3 q hq), fun h' y' t' ho' hf => Own.cons (h1.frame fun r hr => hf r (List.mem_append_left _ hr) fun hm => hd r hr (g3 r hm)) (g4 h' y' t' ho' fun r hr hq => hf r (List.mem_append_right _ hr) hq) hd⟩
/-! ### rows told from now on as never written -/
def fzC (c : Ctx) (S : Nat → Bool) : Ctx := { c with F := fun b => c.F b ∨ ∃ r g, S r = true ∧ c.gen r = some g ∧ b = c.blk r, gen := fun r => bif S r then none else c.gen r }
def killH (S : Nat → Bool) (h : AHeap) : AHeap := h.mapIdx (fun i o => bif S i then .dead else o)
theorem killH_row {S : Nat → Bool} {h : AHeap} {r g s : Nat} {xs : List AVal} : (killH S h)[r]? = some (.row g s xs) ↔ S r = false ∧ h[r]? = some (.row g s xs) := by
  unfold killH
  rw [List.getElem?_mapIdx]
  cases hs : S r with
  | true => cases h[r]? <;> simp
  | false => cases h[r]? <;> simp
theorem killH_len (S : Nat → Bool) (h : AHeap) : (killH S h).length = h.length := by unfold killH; simp
theorem fz_gen {c : Ctx} {S : Nat → Bool} {r g : Nat} : (fzC c S).gen r = some g ↔ S r = false ∧ c.gen r = some g := by
  show (bif S r then none else c.gen r) = some g ↔ _
  cases S r <;> simp
theorem fz_ext (c : Ctx) (S : Nat → Bool) (w : World) : Ext c w (fzC c S) w :=
  ⟨rfl, rfl, fun _ h => .inl h, Nat.le_refl _, fun r g _ h => ⟨(fz_gen.1 h).2, rfl, rfl, rfl⟩, fun _ _ => rfl⟩
theorem fz_rh {c : Ctx} {h : AHeap} {w : World} (S : Nat → Bool) (hH : RH c h w) : RH (fzC c S) (killH S h) w := by
  refine ⟨hH.laid, hH.below, hH.base, fun b hb => .inl (hH.Fb b hb), fun b hb => ?_, fun r g hr => ?_, fun r g s xs hr => ?_, fun r r' g g' h1 h2 he => ?_⟩
  · rcases hb with hb | ⟨r, g, _, hg, rfl⟩
    · exact hH.Fs b hb
    · obtain ⟨_, xs, hx⟩ := hH.live r g hg
      exact (hH.row _ _ _ _ hx).2.2.2.lt
  · obtain ⟨h1, h2⟩ := fz_gen.1 hr
    obtain ⟨k1, xs, k2⟩ := hH.live r g h2
    exact ⟨k1, xs, killH_row.2 ⟨h1, k2⟩⟩
  · obtain ⟨h1, h2⟩ := killH_row.1 hr
    obtain ⟨k1, k2, k3, k4⟩ := hH.row r g s xs h2
    refine ⟨fz_gen.2 ⟨h1, k1⟩, k2, fun hb => ?_, k4.lt, k4.there, k4.fit, k4.len, fun i x j a ha hb => ?_⟩
    · rcases hb with hb | ⟨r', g', hs, hg, he⟩
      · exact k3 hb
      · have := hH.inj r r' g g' k1 hg he
        subst this; rw [h1] at hs; cases hs
    · obtain ⟨v, v1, v2⟩ := k4.val i x j a ha hb
      exact ⟨v, v1, v2.mono (fz_ext c S w)⟩
  · exact hH.inj r r' g g' (fz_gen.1 h1).2 (fz_gen.1 h2).2 he
theorem Own.flat1 {h : AHeap} {x t : AVal} {rs : List Nat} (ho : Own h [x] [t] rs) : (∃ cs ds, x = .agg cs ∧ t = .agg ds ∧ Own h cs ds rs) ∨ (x.flat = [x] ∧ t.flat = [t]) := by
  cases ho with
  | v hx hn =>
    refine .inr ⟨rfl, rfl⟩
  | nl hn => exact .inr ⟨rfl, rfl⟩
  | ag h1 hn hd => cases hn; rw [List.append_nil]; exact .inl ⟨_, _, rfl, rfl, h1⟩
  | rf hr hn h1 hnil hd hnr => exact .inr ⟨rfl, rfl⟩
  | fz hn => exact .inr ⟨rfl, rfl⟩
  | pt hr h1 hn hd hnr => exact .inr ⟨rfl, rfl⟩
theorem Own.get1 {h : AHeap} {xs ts : List AVal} {rs : List Nat} (ho : Own h xs ts rs) {i : Nat} {x : AVal} (hx : xs[i]? = some x) : ∃ t qs, ts[i]? = some t ∧ Own h [x] [t] qs ∧ ∀ q ∈ qs, q ∈ rs := by
  obtain ⟨t, qs, h1, h2, h3, _⟩ := ho.at hx
  exact ⟨t, qs, h1, h2, h3⟩
theorem Own.flat_len {h : AHeap} {x t : AVal} {rs : List Nat} (ho : Own h [x] [t] rs) : t.flat.length = x.flat.length := by
  rcases ho.flat1 with ⟨cs, ds, rfl, rfl, h1⟩ | ⟨h1, h2⟩
  · exact h1.len.symm
  · rw [h1, h2]; rfl
/-- what is owned reads as its tree, once its rows are never written again -/
theorem fz_own {c : Ctx} {h : AHeap} {w : World} {S : Nat → Bool} (hH : RH c h w) {xs ts : List AVal} {rs : List Nat} (ho : Own h xs ts rs) : (∀ r ∈ rs, S r = true) → ∀ (i : Nat) (x t : AVal) (v : Value), xs[i]? = some x → ts[i]? = some t → RV c w x v → RV (fzC c S) w t v := by
  induction ho with
  | nil => intro _ i x t v hx; simp at hx
  | v hx _ ih =>
    intro hS i x t v h1 h2 hv
    cases i with
    | zero => cases h1; cases h2; exact hv.mono (fz_ext c S w)
    | succ i => exact ih hS i x t v h1 h2 hv
  | nl _ ih =>
    intro hS i x t v h1 h2 hv
    cases i with
    | zero => cases h1; cases h2; cases hv; exact .nil _ _ _ rfl
    | succ i => exact ih hS i x t v h1 h2 hv
  | @ag cs ds xs ts r1 r2 k1 _ _ ih1 ih =>
    intro hS i x t v h1 h2 hv
    cases i with
    | zero =>
      cases h1; cases h2
      cases hv with
      | agg _ vs hl hc =>
        refine .agg ds vs (by rw [hl, k1.len]) (fun j a ha => ?_)
        have hj : j < cs.length := by rw [k1.len]; exact (List.getElem?_eq_some_iff.1 ha).1
        exact ih1 (fun r hr => hS r (List.mem_append_left _ hr)) j cs[j] a _ (List.getElem?_eq_getElem hj) ha (hc j _ (List.getElem?_eq_getElem hj))
    | succ i => exact ih (fun r hr => hS r (List.mem_append_right _ hr)) i x t v h1 h2 hv
  | @rf r g s n ys zs xs ts r1 r2 hr hn k1 _ _ _ ih1 ih =>
    intro hS i x t v h1 h2 hv
    cases i with
    | succ i => exact ih (fun q hq => hS q (List.mem_cons_of_mem _ (List.mem_append_right _ hq))) i x t v h1 h2 hv
    | zero =>
      cases h1; cases h2
      have hS1 : ∀ q ∈ r1, S q = true := fun q hq => hS q (List.mem_cons_of_mem _ (List.mem_append_left _ hq))
      obtain ⟨hg, hz, hF, hR⟩ := hH.row _ _ _ _ hr
      have hlen : zs.length = n := by rw [← k1.len]; exact hn
      cases hv with
      | rf _ _ _ _ a cap hlt hh =>
        obtain ⟨ha, hl, hcm, hcc⟩ := hh hg
        rcases Nat.eq_zero_or_pos n with h0 | h0
        · subst h0
          exact .nil _ _ _ (List.eq_nil_of_length_eq_zero hlen)
        · rcases ha with ha | ha
          · omega
          · subst ha
            have hel : ∀ (i : Nat) (z : AVal), zs[i]? = some z → ∃ y, ys[i]? = some y ∧ z.flat.length = y.flat.length ∧ ∀ (j : Nat) (b : AVal), z.flat[j]? = some b → ∃ u, w.cell? ⟨c.blk r, i * s + j, none⟩ = some u ∧ RV (fzC c S) w b u := by
              intro i z hzi
              have hi : i < n := by rw [← hlen]; exact (List.getElem?_eq_some_iff.1 hzi).1
              obtain ⟨y, hy⟩ : ∃ y, ys[i]? = some y := ⟨_, List.getElem?_eq_getElem (by omega)⟩
              have hyt := hy
              obtain ⟨t, qs, g1, g2, g3⟩ := k1.get1 hyt
              rw [hzi] at g1; cases g1
              refine ⟨y, hy, g2.flat_len, fun j b hb => ?_⟩
              rcases g2.flat1 with ⟨cs, ds, rfl, rfl, q1⟩ | ⟨q1, q2⟩
              · have hjl : j < cs.length := by rw [q1.len]; exact (List.getElem?_eq_some_iff.1 hb).1
                obtain ⟨f, hf⟩ : ∃ f : Nat → Value, ∀ k, k < cs.length → w.cell? ⟨c.blk r, i * s + k, none⟩ = some (f k) ∧ RV c w (cs.getD k .dead) (f k) := by
                  refine ⟨fun k => (w.cell? ⟨c.blk r, i * s + k, none⟩).getD undef, fun k hk => ?_⟩
                  obtain ⟨u, u1, u2⟩ := hR.val i _ k cs[k] hy (List.getElem?_eq_getElem (l := cs) hk)
                  simp only [u1, Option.getD_some]
                  exact ⟨trivial, by rw [List.getD_eq_getElem?_getD, List.getElem?_eq_getElem hk]; exact u2⟩
                have hva : RV c w (.agg cs) (.agg (((List.range cs.length).map f).toArray)) := by
                  refine .agg _ _ (by simp) (fun k a hk => ?_)
                  have hkl := (List.getElem?_eq_some_iff.1 hk).1
                  have := (hf k hkl).2
                  rw [List.getD_eq_getElem?_getD, hk] at this
                  simpa [Array.getD_eq_getD_getElem?, hkl] using this
                have hz2 := ih1 hS1 i _ _ _ hyt hzi hva
                cases hz2 with
                | agg _ _ _ hh =>
                  have := hh j b hb
                  refine ⟨f j, (hf j hjl).1, ?_⟩
                  simpa [Array.getD_eq_getD_getElem?, hjl] using this
              · rw [q2] at hb
                have hj : j = 0 := by
                  have := (List.getElem?_eq_some_iff.1 hb).1
                  simpa using this
                subst hj
                simp at hb; subst hb
                obtain ⟨u, u1, u2⟩ := hR.val i y 0 y hy (by rw [q1]; rfl)
                exact ⟨u, u1, ih1 hS1 i _ _ _ hyt hzi u2⟩
            refine .sl zs (c.blk r) _ n cap s (fun i j => (w.cell? ⟨c.blk r, i * s + j, none⟩).getD undef) (.inr ⟨r, g, hS r List.mem_cons_self, hg, rfl⟩) hlen.symm hl (fun i z hzi => ?_) (fun i z j b hzi hb => ?_) (fun i z j b hzi hb => ?_)
            · obtain ⟨y, hy, e, _⟩ := hel i z hzi
              rw [e]; exact hR.len i y hy
            · obtain ⟨y, hy, e, k⟩ := hel i z hzi
              obtain ⟨u, u1, u2⟩ := k j b hb
              rw [Nat.zero_mul, Nat.zero_add, u1]; rfl
            · obtain ⟨y, hy, e, k⟩ := hel i z hzi
              obtain ⟨u, u1, u2⟩ := k j b hb
              rw [u1]; exact u2
  | fz _ ih =>
    intro hS i x t v h1 h2 hv
    cases i with
    | zero => cases h1; cases h2; exact hv.mono (fz_ext c S w)
    | succ i => exact ih hS i x t v h1 h2 hv
  | @pt r g s y0 z0 xs ts r1 r2 hr k1 _ _ _ ih1 ih =>
    intro hS i x t v h1 h2 hv
    cases i with
    | succ i => exact ih (fun q hq => hS q (List.mem_cons_of_mem _ (List.mem_append_right _ hq))) i x t v h1 h2 hv
    | zero =>
      cases h1; cases h2
      have hS1 : ∀ q ∈ r1, S q = true := fun q hq => hS q (List.mem_cons_of_mem _ (List.mem_append_left _ hq))
      obtain ⟨hg, hz, hF, hR⟩ := hH.row _ _ _ _ hr
      cases hv with
      | pt _ _ _ _ a hlt hh =>
        have ha := hh hg
        rw [Nat.zero_mul] at ha
        subst ha
        have hel : ∀ (i : Nat) (z : AVal), [z0][i]? = some z → ∃ y, [y0][i]? = some y ∧ z.flat.length = y.flat.length ∧ ∀ (j : Nat) (b : AVal), z.flat[j]? = some b → ∃ u, w.cell? ⟨c.blk r, i * s + j, none⟩ = some u ∧ RV (fzC c S) w b u := by
          intro i z hzi
          have hi : i < 1 := (List.getElem?_eq_some_iff.1 hzi).1
          obtain ⟨y, hy⟩ : ∃ y, [y0][i]? = some y := ⟨_, List.getElem?_eq_getElem (by simpa using hi)⟩
          have hyt := hy
          obtain ⟨t, qs, g1, g2, g3⟩ := k1.get1 hyt
          rw [hzi] at g1; cases g1
          refine ⟨y, hy, g2.flat_len, fun j b hb => ?_⟩
          rcases g2.flat1 with ⟨cs, ds, rfl, rfl, q1⟩ | ⟨q1, q2⟩
          · have hjl : j < cs.length := by rw [q1.len]; exact (List.getElem?_eq_some_iff.1 hb).1
            obtain ⟨f, hf⟩ : ∃ f : Nat → Value, ∀ k, k < cs.length → w.cell? ⟨c.blk r, i * s + k, none⟩ = some (f k) ∧ RV c w (cs.getD k .dead) (f k) := by
              refine ⟨fun k => (w.cell? ⟨c.blk r, i * s + k, none⟩).getD undef, fun k hk => ?_⟩
              obtain ⟨u, u1, u2⟩ := hR.val i _ k cs[k] hy (List.getElem?_eq_getElem (l := cs) hk)
              simp only [u1, Option.getD_some]
              exact ⟨trivial, by rw [List.getD_eq_getElem?_getD, List.getElem?_eq_getElem hk]; exact u2⟩
            have hva : RV c w (.agg cs) (.agg (((List.range cs.length).map f).toArray)) := by
              refine .agg _ _ (by simp) (fun k a hk => ?_)
              have hkl := (List.getElem?_eq_some_iff.1 hk).1
              have := (hf k hkl).2
              rw [List.getD_eq_getElem?_getD, hk] at this
              simpa [Array.getD_eq_getD_getElem?, hkl] using this
            have hz2 := ih1 hS1 i _ _ _ hyt hzi hva
            cases hz2 with
            | agg _ _ _ hh =>
              have := hh j b hb
              refine ⟨f j, (hf j hjl).1, ?_⟩
              simpa [Array.getD_eq_getD_getElem?, hjl] using this
          · rw [q2] at hb
            have hj : j = 0 := by
              have := (List.getElem?_eq_some_iff.1 hb).1
              simpa using this
            subst hj
            simp at hb; subst hb
            obtain ⟨u, u1, u2⟩ := hR.val i y 0 y hy (by rw [q1]; rfl)
            exact ⟨u, u1, ih1 hS1 i _ _ _ hyt hzi u2⟩
        obtain ⟨y, hy, e, k⟩ := hel 0 z0 rfl
        refine .fp z0 (c.blk r) _ (fun j => (w.cell? ⟨c.blk r, 0 * s + j, none⟩).getD undef) (.inr ⟨r, g, hS r List.mem_cons_self, hg, rfl⟩) (fun j b hb => ?_) (fun j b hb => ?_)
        · obtain ⟨u, u1, u2⟩ := k j b hb
          rw [Nat.zero_mul] at u1 ⊢
          rw [u1]; rfl
        · obtain ⟨u, u1, u2⟩ := k j b hb
          rw [u1]; exact u2
/-- what was made here is told as never written again, its rows are forgotten -/
theorem Wk.own {xs ts rest : List AVal} {h l : AHeap} {rs : List Nat} {J : KS} (ho : Own (h ++ l) xs ts rs) (hrs : ∀ r ∈ rs, h.length ≤ r) (hj : J (ts ++ rest) h) : Wk (xs ++ rest) (h ++ l) J := by
  refine ⟨fun c w vs hH hv => ?_⟩
  have hH' := fz_rh (fun r => decide (h.length ≤ r)) hH
  have hE := fz_ext c (fun r => decide (h.length ≤ r)) w
  have hsub : Wk (ts ++ rest) (killH (fun r => decide (h.length ≤ r)) (h ++ l)) J := Wk.sub (h' := h) (fun r g z ys hr => killH_row.2 ⟨by
    have := (List.getElem?_eq_some_iff.1 hr).1
    simp; omega, by rw [List.getElem?_append_left (List.getElem?_eq_some_iff.1 hr).1]; exact hr⟩) (Wk.refl hj)
  obtain ⟨c', s', h', k1, k2, k3, k4⟩ := hsub.out _ w vs hH' ⟨by rw [hv.1, List.length_append, List.length_append, ho.len], fun i a ha => by
    rcases Nat.lt_or_ge i ts.length with hi | hi
    · rw [List.getElem?_append_left hi] at ha
      have hx : i < xs.length := by rw [ho.len]; exact hi
      exact fz_own hH ho (fun r hr => decide_eq_true (hrs r hr)) i xs[i] a _ (List.getElem?_eq_getElem hx) ha (hv.2 i _ (by rw [List.getElem?_append_left hx]; exact List.getElem?_eq_getElem hx))
    · rw [List.getElem?_append_right hi] at ha
      exact (hv.2 i a (by rw [List.getElem?_append_right (by rw [ho.len]; exact hi), ho.len]; exact ha)).mono hE⟩
  exact ⟨c', s', h', hE.trans k1, k2, k3, k4⟩
/-! ### a call over rows that the caller keeps -/
/-- refers to rows from n on alone -/
inductive Fr (n : Nat) : AVal → Prop
  | v (x : Value) : Fr n (.v x)
  | agg (cs : List AVal) (h : ∀ a ∈ cs, Fr n a) : Fr n (.agg cs)
  | tup (cs : List AVal) (h : ∀ a ∈ cs, Fr n a) : Fr n (.tup cs)
  | rf (r g o m : Nat) (h : n ≤ r) : Fr n (.rf r g o m)
  | pt (r g i j : Nat) (h : n ≤ r) : Fr n (.pt r g i j)
  | ifc (t : Nat) (x : AVal) (h : Fr n x) : Fr n (.ifc t x)
theorem Fr.flat {n : Nat} {x : AVal} (h : Fr n x) : ∀ a ∈ x.flat, Fr n a := by
  intro a ha
  cases h with
  | agg cs h => exact h a ha
  | v x => simp [AVal.flat] at ha; subst ha; exact .v x
  | tup cs h => simp [AVal.flat] at ha; subst ha; exact .tup cs h
  | rf r g o m h => simp [AVal.flat] at ha; subst ha; exact .rf r g o m h
  | pt r g i j h => simp [AVal.flat] at ha; subst ha; exact .pt r g i j h
  | ifc t x h => simp [AVal.flat] at ha; subst ha; exact .ifc t x h
def deadH (n : Nat) : AHeap := List.replicate n .dead
/-- an argument that reads as a tree: one that is never written, or one that owns its rows -/
def Bor (h : AHeap) (x t : AVal) : Prop := x = t ∨ ∃ rs, Own h [x] [t] rs
theorem callM_borrow {P : Program} {f : FuncId} {xs ts : List AVal} {h : AHeap} {R : AVal → AHeap → Prop} (hxl : xs.length = ts.length) (hbor : ∀ (i : Nat) (x t : AVal), xs[i]? = some x → ts[i]? = some t → Bor h x t)
    (hc : callM P f ts (deadH h.length) (fun y h1 => ∃ l, h1 = deadH h.length ++ l ∧ Fr h.length y ∧ (∀ (r g s : Nat) (ys : List AVal), l[r]? = some (AObj.row g s ys) → ∀ x ∈ ys, Fr h.length x) ∧ R y l)) :
    callM P f xs h (fun y h1 => ∃ l, h1 = h ++ l ∧ R y l) := by
  refine callM_new ?_
  replace hc := callM_old hc
  intro c w vs hH hv
  let S : Nat → Bool := fun _ => true
  have hE := fz_ext c S w
  have hH1 := fz_rh S hH
  have hk : killH S h = deadH h.length := by
    apply List.ext_getElem?
    intro i
    unfold killH deadH
    rw [List.getElem?_mapIdx, List.getElem?_replicate]
    by_cases hi : i < h.length
    · rw [List.getElem?_eq_getElem hi, if_pos hi]; rfl
    · rw [List.getElem?_eq_none (by omega), if_neg hi]; rfl
  rw [hk] at hH1
  have hlen : (deadH h.length).length = h.length := by unfold deadH; simp
  refine (hc (fzC c S) w vs hH1 ⟨by rw [hv.1, hxl], fun i a ha => ?_⟩).mono ?_
  · have hx : i < xs.length := by rw [hxl]; exact (List.getElem?_eq_some_iff.1 ha).1
    have hxv := hv.2 i _ (List.getElem?_eq_getElem hx)
    rcases hbor i xs[i] a (List.getElem?_eq_getElem hx) ha with hq | ⟨rs, ho⟩
    · rw [hq] at hxv; exact hxv.mono hE
    · exact fz_own hH ho (fun _ _ => rfl) 0 xs[i] a _ rfl rfl hxv
  rintro e w' ⟨v, c2, y, h1, rfl, e2, r2, hy, l, rfl, fy, fl, hR⟩
  -- the rows come back
  let B : Nat → Prop := fun b => ∃ r g, c.gen r = some g ∧ b = c.blk r
  let old : Nat → Bool := fun r => decide (r < h.length)
  let c3 : Ctx := { c2 with F := fun b => c2.F b ∧ ¬ B b, gen := fun r => bif old r then c.gen r else c2.gen r, blk := fun r => bif old r then c.blk r else c2.blk r, sz := fun r => bif old r then c.sz r else c2.sz r, cap := fun r => bif old r then c.cap r else c2.cap r }
  have cgen : ∀ r g, c.gen r = some g → r < h.length := fun r g hg => by
    obtain ⟨_, xs, hx⟩ := hH.live r g hg
    exact (List.getElem?_eq_some_iff.1 hx).1
  have BF : ∀ b, B b → ¬ c.F b ∧ c2.F b := by
    rintro b ⟨r, g, hg, rfl⟩
    obtain ⟨_, xs, hx⟩ := hH.live r g hg
    exact ⟨(hH.row _ _ _ _ hx).2.2.1, e2.F _ (.inr ⟨r, g, rfl, hg, rfl⟩)⟩
  have o1 : ∀ r, r < h.length → c3.gen r = c.gen r ∧ c3.blk r = c.blk r ∧ c3.sz r = c.sz r ∧ c3.cap r = c.cap r := fun r hr => by
    have : old r = true := decide_eq_true hr
    exact ⟨by show (bif old r then _ else _) = _; rw [this]; rfl, by show (bif old r then _ else _) = _; rw [this]; rfl, by show (bif old r then _ else _) = _; rw [this]; rfl, by show (bif old r then _ else _) = _; rw [this]; rfl⟩
  have o2 : ∀ r, h.length ≤ r → c3.gen r = c2.gen r ∧ c3.blk r = c2.blk r ∧ c3.sz r = c2.sz r ∧ c3.cap r = c2.cap r := fun r hr => by
    have : old r = false := decide_eq_false (by omega)
    exact ⟨by show (bif old r then _ else _) = _; rw [this]; rfl, by show (bif old r then _ else _) = _; rw [this]; rfl, by show (bif old r then _ else _) = _; rw [this]; rfl, by show (bif old r then _ else _) = _; rw [this]; rfl⟩
  have E3 : Ext c w c3 w' := by
    refine ⟨e2.base, e2.w0, fun b hb => ⟨e2.F b (.inl hb), fun hB => (BF b hB).1 hb⟩, e2.ctr, fun r g hg hr => ?_, fun b hb => e2.blks b (.inl hb)⟩
    by_cases hrl : r < h.length
    · obtain ⟨q1, q2, q3, q4⟩ := o1 r hrl
      rw [q1] at hr
      exact ⟨hr, q2, q3, q4⟩
    · obtain ⟨q1, _⟩ := o2 r (by omega)
      rw [q1] at hr
      have := (e2.gen r g hg hr).1
      rw [fz_gen] at this
      cases this.1
  have nf : ∀ r g, h.length ≤ r → c2.gen r = some g → ∃ s ys, l[r - h.length]? = some (.row g s ys) ∧ (deadH h.length ++ l)[r]? = some (.row g s ys) := fun r g hr hg => by
    obtain ⟨_, ys, hx⟩ := r2.live r g hg
    refine ⟨_, ys, ?_, hx⟩
    rwa [List.getElem?_append_right (by rw [hlen]; exact hr), hlen] at hx
  have toC3 : ∀ a u, Fr h.length a → RV c2 w' a u → RV c3 w' a u := by
    intro a u hf hr
    induction hr with
    | v x => exact .v x
    | agg cs vs hl _ ih =>
      cases hf with
      | agg _ hh => exact .agg cs vs hl (fun i b hb => ih i b hb (hh b (List.mem_of_getElem? hb)))
    | tup cs vs hl _ ih =>
      cases hf with
      | tup _ hh => exact .tup cs vs hl (fun i b hb => ih i b hb (hh b (List.mem_of_getElem? hb)))
    | rf r g o m a cap hlt hh =>
      cases hf with
      | rf _ _ _ _ hn =>
        obtain ⟨q1, q2, q3, q4⟩ := o2 r hn
        refine .rf r g o m a cap hlt (fun hg => ?_)
        rw [q1] at hg
        rw [q2, q3, q4]; exact hh hg
    | pt r g i j a hlt hh =>
      cases hf with
      | pt _ _ _ _ hn =>
        obtain ⟨q1, q2, q3, q4⟩ := o2 r hn
        refine .pt r g i j a hlt (fun hg => ?_)
        rw [q1] at hg
        rw [q2, q3]; exact hh hg
    | nil => cases hf
    | sl => cases hf
    | fp => cases hf
    | ifc t x v _ ih =>
      cases hf with
      | ifc _ _ hh => exact .ifc t x v (ih hh)
    | fn => cases hf
    | dead => cases hf
  refine ⟨v, c3, y, h ++ l, rfl, E3, ?_, toC3 y v fy hy, l, rfl, hR⟩
  refine ⟨r2.laid, r2.below, r2.base, fun b hb => ⟨r2.Fb b hb, fun hB => (BF b hB).1 (hH.Fb b (by have := e2.base; rw [show c2.base = c.base from e2.base] at hb; exact hb))⟩, fun b hb => r2.Fs b hb.1, fun r g hr => ?_, fun r g s xs hr => ?_, fun r r' g g' h1 h2 he => ?_⟩
  · by_cases hrl : r < h.length
    · obtain ⟨q1, q2, q3, q4⟩ := o1 r hrl
      rw [q1] at hr
      obtain ⟨k1, xs, k2⟩ := hH.live r g hr
      exact ⟨Nat.lt_of_lt_of_le k1 E3.ctr, xs, by rw [q3, List.getElem?_append_left hrl]; exact k2⟩
    · obtain ⟨q1, q2, q3, q4⟩ := o2 r (by omega)
      rw [q1] at hr
      obtain ⟨k1, xs, k2⟩ := r2.live r g hr
      refine ⟨k1, xs, ?_⟩
      rw [q3, List.getElem?_append_right (by omega)]
      rwa [List.getElem?_append_right (by rw [hlen]; omega), hlen] at k2
  · by_cases hrl : r < h.length
    · obtain ⟨q1, q2, q3, q4⟩ := o1 r hrl
      rw [List.getElem?_append_left hrl] at hr
      obtain ⟨k1, k2, k3, k4⟩ := hH.row r g s xs hr
      have hB : B (c.blk r) := ⟨r, g, k1, rfl⟩
      have hblk := e2.blks (c.blk r) (.inr ⟨r, g, rfl, k1, rfl⟩)
      have hcell : ∀ o, w'.cell? ⟨c.blk r, o, none⟩ = w.cell? ⟨c.blk r, o, none⟩ ∧ (fzF w' ⟨c.blk r, o, none⟩ ↔ fzF w ⟨c.blk r, o, none⟩) := fun o => ⟨World.cell?_of_block (a := ⟨c.blk r, o, none⟩) hblk, fzF_of_block (a := ⟨c.blk r, o, none⟩) hblk⟩
      refine ⟨by rw [q1]; exact k1, by rw [q3]; exact k2, by rw [q2]; exact fun hh => hh.2 hB, ?_⟩
      rw [q2, q4]
      refine ⟨r2.Fs _ (BF _ hB).2, fun o ho' => ?_, k4.fit, k4.len, fun i x j a ha hb => ?_⟩
      · rw [(hcell o).1, (hcell o).2]; exact k4.there o ho'
      · obtain ⟨u, u1, u2⟩ := k4.val i x j a ha hb
        exact ⟨u, by rw [(hcell _).1]; exact u1, u2.mono E3⟩
    · obtain ⟨q1, q2, q3, q4⟩ := o2 r (by omega)
      rw [List.getElem?_append_right (by omega)] at hr
      have hr2 : (deadH h.length ++ l)[r]? = some (.row g s xs) := by rw [List.getElem?_append_right (by rw [hlen]; omega), hlen]; exact hr
      obtain ⟨k1, k2, k3, k4⟩ := r2.row r g s xs hr2
      refine ⟨by rw [q1]; exact k1, by rw [q3]; exact k2, by rw [q2]; exact fun hh => k3 hh.1, ?_⟩
      rw [q2, q4]
      refine ⟨k4.lt, k4.there, k4.fit, k4.len, fun i x j a ha hb => ?_⟩
      obtain ⟨u, u1, u2⟩ := k4.val i x j a ha hb
      exact ⟨u, u1, toC3 a u ((fl _ g s xs hr x (List.mem_of_getElem? ha)).flat a (List.mem_of_getElem? hb)) u2⟩
  · by_cases hrl : r < h.length
    · obtain ⟨q1, q2, _⟩ := o1 r hrl
      by_cases hrl' : r' < h.length
      · obtain ⟨p1, p2, _⟩ := o1 r' hrl'
        rw [q1] at h1; rw [p1] at h2; rw [q2, p2] at he
        exact hH.inj r r' g g' h1 h2 he
      · obtain ⟨p1, p2, _⟩ := o2 r' (by omega)
        rw [q1] at h1; rw [p1] at h2; rw [q2, p2] at he
        exfalso
        obtain ⟨_, ys, hx⟩ := r2.live r' g' h2
        exact (r2.row _ _ _ _ hx).2.2.1 (he ▸ (BF _ ⟨r, g, h1, rfl⟩).2)
    · obtain ⟨q1, q2, _⟩ := o2 r (by omega)
      by_cases hrl' : r' < h.length
      · obtain ⟨p1, p2, _⟩ := o1 r' hrl'
        rw [q1] at h1; rw [p1] at h2; rw [q2, p2] at he
        exfalso
        obtain ⟨_, ys, hx⟩ := r2.live r g h1
        exact (r2.row _ _ _ _ hx).2.2.1 (he ▸ (BF _ ⟨r', g', h2, rfl⟩).2)
      · obtain ⟨p1, p2, _⟩ := o2 r' (by omega)
        rw [q1] at h1; rw [p1] at h2; rw [q2, p2] at he
        exact r2.inj r r' g g' h1 h2 he
mutual
/-- no pointer into what is never written -/
def plainT : AVal → Bool
  | .fp _ => false
  | .agg cs => plainL cs
  | .sl cs => plainL cs
  | _ => true
def plainL : List AVal → Bool
  | [] => true
  | x :: xs => plainT x && plainL xs
end
@[simp] theorem plainL_nil : plainL [] = true := by unfold plainL; rfl
@[simp] theorem plainL_cons (x : AVal) (xs : List AVal) : plainL (x :: xs) = (plainT x && plainL xs) := by rw [plainL]
@[simp] theorem plainT_v (x : Value) : plainT (.v x) = true := by unfold plainT; rfl
@[simp] theorem plainT_agg (cs : List AVal) : plainT (.agg cs) = plainL cs := by rw [plainT]
@[simp] theorem plainT_sl (cs : List AVal) : plainT (.sl cs) = plainL cs := by rw [plainT]
@[simp] theorem plainT_fp (x : AVal) : plainT (.fp x) = false := by unfold plainT; rfl
theorem plainL_map {α : Type} {e : α → AVal} (he : ∀ x, plainT (e x) = true) : ∀ l : List α, plainL (l.map e) = true
  | [] => by simp
  | x :: l => by rw [List.map_cons, plainL_cons, he x, plainL_map he l]; rfl
theorem Own.fr {n : Nat} {h : AHeap} {xs ts : List AVal} {rs : List Nat} (ho : Own h xs ts rs) : plainL ts = true → (∀ r ∈ rs, n ≤ r) → (∀ x ∈ xs, Fr n x) ∧ ∀ (r g s : Nat) (ys : List AVal), r ∈ rs → h[r]? = some (.row g s ys) → ∀ x ∈ ys, Fr n x := by
  induction ho with
  | nil => intro _ _; exact ⟨fun x hx => (by cases hx), fun r g s ys hr => (by cases hr)⟩
  | v _ _ ih =>
    intro hp hn
    rw [plainL_cons, Bool.and_eq_true] at hp
    obtain ⟨i1, i2⟩ := ih hp.2 hn
    refine ⟨fun x hx => ?_, i2⟩
    rcases List.mem_cons.1 hx with rfl | hx
    · exact .v _
    · exact i1 x hx
  | nl _ ih =>
    intro hp hn
    rw [plainL_cons, Bool.and_eq_true] at hp
    obtain ⟨i1, i2⟩ := ih hp.2 hn
    refine ⟨fun x hx => ?_, i2⟩
    rcases List.mem_cons.1 hx with rfl | hx
    · exact .v _
    · exact i1 x hx
  | ag _ _ _ ih1 ih =>
    intro hp hn
    rw [plainL_cons, plainT_agg, Bool.and_eq_true] at hp
    obtain ⟨i1, i2⟩ := ih hp.2 (fun r hr => hn r (List.mem_append_right _ hr))
    obtain ⟨j1, j2⟩ := ih1 hp.1 (fun r hr => hn r (List.mem_append_left _ hr))
    refine ⟨fun x hx => ?_, fun r g s ys hr => ?_⟩
    · rcases List.mem_cons.1 hx with rfl | hx
      · exact .agg _ j1
      · exact i1 x hx
    · rcases List.mem_append.1 hr with hr | hr
      · exact j2 r g s ys hr
      · exact i2 r g s ys hr
  | @rf r0 g0 s0 n0 ys0 zs xs ts r1 r2 hr0 hn0 _ _ _ _ ih1 ih =>
    intro hp hn
    rw [plainL_cons, plainT_sl, Bool.and_eq_true] at hp
    obtain ⟨i1, i2⟩ := ih hp.2 (fun r hr => hn r (List.mem_cons_of_mem _ (List.mem_append_right _ hr)))
    obtain ⟨j1, j2⟩ := ih1 hp.1 (fun r hr => hn r (List.mem_cons_of_mem _ (List.mem_append_left _ hr)))
    refine ⟨fun x hx => ?_, fun r g s ys hr hrow => ?_⟩
    · rcases List.mem_cons.1 hx with rfl | hx
      · exact .rf _ _ _ _ (hn _ List.mem_cons_self)
      · exact i1 x hx
    · rcases List.mem_cons.1 hr with rfl | hr
      · rw [hr0] at hrow; cases hrow; exact j1
      · rcases List.mem_append.1 hr with hr | hr
        · exact j2 r g s ys hr hrow
        · exact i2 r g s ys hr hrow
  | fz _ _ => intro hp; rw [plainL_cons, plainT_fp] at hp; cases hp
  | pt _ _ _ _ _ _ _ => intro hp; rw [plainL_cons, plainT_fp] at hp; cases hp
/-- a value made here: what it owns lies behind h, and nothing else lies there -/
def Made (h : AHeap) (y t : AVal) (l : AHeap) : Prop := ∃ rs, Own (h ++ l) [y] [t] rs ∧ (∀ r ∈ rs, h.length ≤ r) ∧ ∀ (r g s : Nat) (ys : List AVal), l[r]? = some (.row g s ys) → h.length + r ∈ rs
theorem Made.of {h h0 : AHeap} {y t : AVal} {l : AHeap} (hl : h0.length = h.length) (hm : Made h0 y t l) : Made h y t l := by
  obtain ⟨rs, h1, h2, h3⟩ := hm
  refine ⟨rs, h1.frame fun r hr => ?_, fun r hr => by rw [← hl]; exact h2 r hr, fun r g s ys hr => by rw [← hl]; exact h3 r g s ys hr⟩
  have := h2 r hr
  rw [List.getElem?_append_right (by omega), List.getElem?_append_right (by omega), hl]
theorem Made.fr {h : AHeap} {y t : AVal} {l : AHeap} (hp : plainT t = true) (hm : Made h y t l) : Fr h.length y ∧ ∀ (r g s : Nat) (ys : List AVal), l[r]? = some (.row g s ys) → ∀ x ∈ ys, Fr h.length x := by
  obtain ⟨rs, h1, h2, h3⟩ := hm
  obtain ⟨f1, f2⟩ := h1.fr (by simp [hp]) h2
  refine ⟨f1 y List.mem_cons_self, fun r g s ys hr => f2 _ g s ys (h3 r g s ys hr) ?_⟩
  rw [List.getElem?_append_right (by omega), Nat.add_sub_cancel_left]; exact hr
/-- what is not owned is forgotten -/
theorem Wk.made {y t : AVal} {h l : AHeap} {rs : List Nat} {J : KS} (ho : Own (h ++ l) [y] [t] rs) (hrs : ∀ r ∈ rs, h.length ≤ r) (hj : ∀ l', Made h y t l' → J [y] (h ++ l')) : Wk [y] (h ++ l) J := by
  let l' : AHeap := l.mapIdx fun i o => if h.length + i ∈ rs then o else .dead
  have hget : ∀ r, h.length ≤ r → r ∈ rs → (h ++ l')[r]? = (h ++ l)[r]? := fun r hr hm => by
    rw [List.getElem?_append_right hr, List.getElem?_append_right hr, List.getElem?_mapIdx]
    cases l[r - h.length]? with
    | none => rfl
    | some o => show some (if h.length + (r - h.length) ∈ rs then o else .dead) = some o; rw [if_pos (by rw [show h.length + (r - h.length) = r by omega]; exact hm)]
  refine Wk.sub (h' := h ++ l') (fun r g z xs hr => ?_) (Wk.refl (hj l' ⟨rs, ho.frame fun r hr => hget r (hrs r hr) hr, hrs, fun r g s ys hr => ?_⟩))
  · by_cases hrl : r < h.length
    · rw [List.getElem?_append_left hrl] at hr ⊢; exact hr
    · rw [List.getElem?_append_right (by omega), List.getElem?_mapIdx] at hr
      rw [List.getElem?_append_right (by omega)]
      cases hq : l[r - h.length]? with
      | none => rw [hq] at hr; cases hr
      | some o =>
        rw [hq] at hr
        have hr : some (if h.length + (r - h.length) ∈ rs then o else .dead) = some (.row g z xs) := hr
        split at hr
        · exact hr
        · cases hr
  · have hr : l'[r]? = some (.row g s ys) := hr
    rw [List.getElem?_mapIdx] at hr
    cases hq : l[r]? with
    | none => rw [hq] at hr; cases hr
    | some o =>
      rw [hq] at hr
      have hr : some (if h.length + r ∈ rs then o else .dead) = some (.row g s ys) := hr
      split at hr
      · assumption
      · cases hr
/-- what a call comes to may be told otherwise -/
theorem cl_wk {Pn : Pk} {P : Program} {f : FuncId} {xs : List AVal} {h : AHeap} {Q : KA} (hc : @clM P f xs h ⟨fun y h1 => Wk [y] h1 (fun s h2 => Q (nthA s 0) h2)⟩) : @clM P f xs h ⟨Q⟩ := by
  refine cl_of (cl_fn hc) (fun c w vs hH hv => (cl_out hc c w vs hH hv).mono ?_)
  rintro e w' (⟨v, c', y, h1, rfl, e1, r1, y1, hk⟩ | hp)
  rotate_left
  · exact .inr hp
  obtain ⟨c2, s', h2, k1, k2, k3, k4⟩ := hk.out c' w' #[v] r1 ⟨rfl, fun i a ha => by
    have hi : i = 0 := by
      have := (List.getElem?_eq_some_iff.1 ha).1
      simpa using this
    subst hi
    cases ha
    exact y1⟩
  exact .inl ⟨v, c2, nthA s' 0, h2, rfl, e1.trans k1, k2, nth_ok k3 (i := 0) (by simp), k4⟩
theorem cl_frozen {Pn : Pk} {P : Program} {f : FuncId} {xs : List AVal} {t : AVal} {h : AHeap} {Q : KA} (hc : @clM P f xs h ⟨fun y h1 => ∃ l, h1 = h ++ l ∧ Made h y t l⟩) (hq : Q t h) : @clM P f xs h ⟨Q⟩ := by
  refine cl_wk (cl_of (cl_fn hc) (fun c w vs hH hv => (cl_out hc c w vs hH hv).mono ?_))
  rintro e w' (⟨v, c', y, h1, rfl, e1, r1, y1, l, rfl, rs, k1, k2, _⟩ | hp)
  rotate_left
  · exact .inr hp
  exact .inl ⟨v, c', y, h ++ l, rfl, e1, r1, y1, Wk.own (xs := [y]) (ts := [t]) (rest := []) k1 k2 hq⟩
theorem deadH_len (n : Nat) : (deadH n).length = n := by unfold deadH; simp
theorem cl_borrow0 {P : Program} {f : FuncId} {xs ts : List AVal} {h : AHeap} {Q : KA} (x : Value) (hxl : xs.length = ts.length) (hbor : ∀ (i : Nat) (x t : AVal), xs[i]? = some x → ts[i]? = some t → Bor h x t)
    (hc : @clM P f ts (deadH h.length) ⟨fun y h1 => y = .v x ∧ h1 = deadH h.length⟩) (hq : Q (.v x) h) : @clM P f xs h ⟨Q⟩ := by
  have hb := callM_borrow (P := P) (f := f) (R := fun y l => y = .v x ∧ l = []) hxl hbor (callM_new fun c w vs hH hv => (callM_old (cl_out hc) c w vs hH hv).mono ?_)
  · refine cl_of (cl_fn hc) (callM_new fun c w vs hH hv => (callM_old hb c w vs hH hv).mono ?_)
    rintro e w' ⟨v, c', y, h1, rfl, e1, r1, y1, l, rfl, rfl, rfl⟩
    rw [List.append_nil] at r1
    exact ⟨v, c', _, h, rfl, e1, r1, y1, hq⟩
  · rintro e w' ⟨v, c', y, h1, rfl, e1, r1, y1, rfl, rfl⟩
    exact ⟨v, c', _, _, rfl, e1, r1, y1, [], by simp, .v _, fun r g s ys hr => by simp at hr, rfl, rfl⟩
theorem cl_borrow1 {P : Program} {f : FuncId} {xs ts : List AVal} {t : AVal} {h : AHeap} {Q : KA} (hxl : xs.length = ts.length) (hbor : ∀ (i : Nat) (x t : AVal), xs[i]? = some x → ts[i]? = some t → Bor h x t)
    (hpl : plainT t = true)
    (hc : @clM P f ts (deadH h.length) ⟨fun y h1 => ∃ l, h1 = deadH h.length ++ l ∧ Made (deadH h.length) y t l⟩) (hq : ∀ y l, Made h y t l → Q y (h ++ l)) : @clM P f xs h ⟨Q⟩ := by
  have hb := callM_borrow (P := P) (f := f) (R := fun y l => Made h y t l) hxl hbor (callM_new fun c w vs hH hv => (callM_old (cl_out hc) c w vs hH hv).mono ?_)
  · refine cl_of (cl_fn hc) (callM_new fun c w vs hH hv => (callM_old hb c w vs hH hv).mono ?_)
    rintro e w' ⟨v, c', y, h1, rfl, e1, r1, y1, l, rfl, hm⟩
    exact ⟨v, c', y, _, rfl, e1, r1, y1, hq y l hm⟩
  · rintro e w' ⟨v, c', y, h1, rfl, e1, r1, y1, l, rfl, hm⟩
    obtain ⟨f1, f2⟩ := hm.fr hpl
    rw [deadH_len] at f1 f2
    exact ⟨v, c', y, _, rfl, e1, r1, y1, l, rfl, f1, f2, hm.of (deadH_len _)⟩
theorem bor1 {h : AHeap} {a b : AVal} (h1 : Bor h a b) : ∀ (i : Nat) (x t : AVal), [a][i]? = some x → [b][i]? = some t → Bor h x t := fun i x t hx ht => by
  match i, hx, ht with
  | 0, hx, ht => cases hx; cases ht; exact h1
  | _ + 1, hx, _ => simp at hx
theorem bor2 {h : AHeap} {a b a' b' : AVal} (h1 : Bor h a b) (h2 : Bor h a' b') : ∀ (i : Nat) (x t : AVal), [a, a'][i]? = some x → [b, b'][i]? = some t → Bor h x t := fun i x t hx ht => by
  match i, hx, ht with
  | 0, hx, ht => cases hx; cases ht; exact h1
  | 1, hx, ht => cases hx; cases ht; exact h2
  | _ + 2, hx, _ => simp at hx
theorem Made.bor {h l : AHeap} {y t : AVal} (hm : Made h y t l) : Bor (h ++ l) y t := .inr ⟨_, hm.choose_spec.1⟩
/-- owners of scalars alone -/
theorem Own.map {α : Type} {h : AHeap} {e : α → AVal} (he : ∀ x, Own h [e x] [e x] []) : ∀ l : List α, Own h (l.map e) (l.map e) []
  | [] => .nil
  | x :: l => by
    have := (he x).app (Own.map he l) (fun r hr => (by cases hr))
    exact this
theorem Own.cons_inv {h : AHeap} {xs ts : List AVal} {t : AVal} {rs : List Nat} (ho : Own h xs (t :: ts) rs) : ∃ x xs' r1 r2, xs = x :: xs' ∧ Own h [x] [t] r1 ∧ Own h xs' ts r2 ∧ rs = r1 ++ r2 ∧ ∀ r ∈ r1, r ∉ r2 := by
  cases ho with
  | v hx ht => exact ⟨_, _, [], _, rfl, .v hx .nil, ht, rfl, fun r hr => (by cases hr)⟩
  | nl ht => exact ⟨_, _, [], _, rfl, .nl .nil, ht, rfl, fun r hr => (by cases hr)⟩
  | ag h1 ht hd => exact ⟨_, _, _, _, rfl, Own.agg_mk h1, ht, rfl, hd⟩
  | rf hr hn h1 ht hd hnr => exact ⟨_, _, _, _, rfl, Own.rf_mk hr hn h1 hnr, ht, rfl, hd⟩
  | fz ht => exact ⟨_, _, [], _, rfl, .fz .nil, ht, rfl, fun r hr => (by cases hr)⟩
  | pt hr h1 ht hd hnr => exact ⟨_, _, _, _, rfl, Own.pt_mk hr h1 hnr, ht, rfl, hd⟩
theorem Own.v_inv {h : AHeap} {x : AVal} {v : Value} {rs : List Nat} (ho : Own h [x] [.v v] rs) : x = .v v ∧ rs = [] := by
  cases ho with
  | v hx hn => cases hn; exact ⟨rfl, rfl⟩
theorem Own.sl_cell {h : AHeap} {x : AVal} {zs : List AVal} {rs : List Nat} (ho : Own h [x] [.sl zs] rs) : x.flat = [x] ∧ x.c1 = true ∧ x.isAgg = false := by
  rcases ho.sl_inv with ⟨rfl, _⟩ | ⟨r, g, s, n, ys, r1, rfl, _⟩
  · exact ⟨rfl, rfl, rfl⟩
  · exact ⟨rfl, rfl, rfl⟩
/-- the boxes ahead of the rows may change, rows may come behind -/
theorem Own.rebox {h bx L bx' L' : AHeap} {xs ts : List AVal} {rs : List Nat} (ho : Own (h ++ (bx ++ L)) xs ts rs) (hb : ∀ r ∈ rs, h.length + bx.length ≤ r) (hl : bx'.length = bx.length) : Own (h ++ (bx' ++ (L ++ L'))) xs ts rs :=
  ho.frame fun r hr => by
    have h1 := hb r hr
    have h2 := ho.lt r hr
    rw [List.length_append, List.length_append] at h2
    have e1 : (h ++ (bx' ++ (L ++ L')))[r]? = L[r - h.length - bx'.length]? := by
      rw [List.getElem?_append_right (by omega), List.getElem?_append_right (by omega), List.getElem?_append_left (by omega)]
    have e2 : (h ++ (bx ++ L))[r]? = L[r - h.length - bx.length]? := by
      rw [List.getElem?_append_right (by omega), List.getElem?_append_right (by omega)]
    rw [e1, e2, hl]
theorem Own.fill {h l l1 : AHeap} {R R' : AObj} {ys ts : List AVal} {y t : AVal} {rs r1 : List Nat} (ho : Own (h ++ (R :: l)) ys ts rs) (hrs : ∀ r ∈ rs, h.length + 1 ≤ r) (o1 : Own (h ++ R :: l ++ l1) [y] [t] r1) (b1 : ∀ r ∈ r1, (h ++ R :: l).length ≤ r) :
    Own (h ++ (R' :: (l ++ l1))) (ys ++ [y]) (ts ++ [t]) (rs ++ r1) ∧ ∀ r ∈ rs ++ r1, h.length + 1 ≤ r := by
  have e1 := ho.rebox (bx := [R]) (bx' := [R']) (L' := l1) hrs rfl
  have e2 : Own (h ++ ([R] ++ (l ++ l1))) [y] [t] r1 := by simpa using o1
  have b2 : ∀ r ∈ r1, h.length + 1 ≤ r := fun r hr => by have := b1 r hr; simp at this; omega
  have e3 := e2.rebox (bx := [R]) (bx' := [R']) (L' := []) b2 rfl
  rw [List.append_nil] at e3
  refine ⟨e1.app e3 fun r hr hm => ?_, fun r hr => ?_⟩
  · have := ho.lt r hr
    have := b1 r hm
    omega
  · rcases List.mem_append.1 hr with hr | hr
    · exact hrs r hr
    · exact b2 r hr
theorem Wk.made_row {h l : AHeap} {g s n : Nat} {ys ts : List AVal} {rs : List Nat} {J : KS} (hn : ys.length = n) (ho : Own (h ++ (AObj.row g s ys :: l)) ys ts rs) (hrs : ∀ r ∈ rs, h.length + 1 ≤ r) (hj : ∀ l', Made h (.rf h.length g 0 n) (.sl ts) l' → J [.rf h.length g 0 n] (h ++ l')) : Wk [.rf h.length g 0 n] (h ++ (AObj.row g s ys :: l)) J :=
  Wk.made (rs := h.length :: rs) (Own.rf_mk (g := g) (s := s) (ys := ys) (by simp) hn ho (fun hm => by have := hrs _ hm; omega)) (fun r hr => by
    rcases List.mem_cons.1 hr with rfl | hr
    · exact Nat.le_refl _
    · have := hrs r hr; omega) hj
theorem Own.more {h bx bx' L l1 : AHeap} {ys ts : List AVal} {y t : AVal} {rs r1 : List Nat} (ho : Own (h ++ (bx ++ L)) ys ts rs ∧ ∀ r ∈ rs, h.length + bx.length ≤ r) (hl : bx'.length = bx.length) (o1 : Own (h ++ (bx' ++ L) ++ l1) [y] [t] r1) (b1 : ∀ r ∈ r1, (h ++ (bx' ++ L)).length ≤ r) :
    Own (h ++ (bx' ++ (L ++ l1))) (ys ++ [y]) (ts ++ [t]) (rs ++ r1) ∧ ∀ r ∈ rs ++ r1, h.length + bx'.length ≤ r := by
  obtain ⟨ho, hrs⟩ := ho
  have e1 := ho.rebox (bx' := bx') (L' := l1) hrs hl
  have e2 : Own (h ++ (bx' ++ (L ++ l1))) [y] [t] r1 := by simpa using o1
  refine ⟨e1.app e2 fun r hr hm => ?_, fun r hr => ?_⟩
  · have h1 := ho.lt r hr
    have h2 := b1 r hm
    simp at h1 h2
    omega
  · rcases List.mem_append.1 hr with hr | hr
    · have := hrs r hr; omega
    · have := b1 r hr; simp at this; omega
theorem Own.snocv {h : AHeap} {n : Nat} {ys ts : List AVal} {rs : List Nat} (v : Value) (hv : scalV v = true) (ho : Own h ys ts rs ∧ ∀ r ∈ rs, n ≤ r) : Own h (ys ++ [.v v]) (ts ++ [.v v]) rs ∧ ∀ r ∈ rs, n ≤ r := by
  refine ⟨?_, ho.2⟩
  have := ho.1.app (.v hv .nil) (fun r _ hm => by cases hm)
  rwa [List.append_nil] at this
theorem Own.start (h bx : AHeap) : Own (h ++ (bx ++ [])) [] [] [] ∧ ∀ r ∈ ([] : List Nat), h.length + bx.length ≤ r := ⟨.nil, by simp⟩
theorem Wk.made_agg {h bx bx' L : AHeap} {ys ts : List AVal} {rs : List Nat} {J : KS} (ho : Own (h ++ (bx ++ L)) ys ts rs ∧ ∀ r ∈ rs, h.length + bx.length ≤ r) (hl : bx'.length = bx.length) (hj : ∀ l', Made h (.agg ys) (.agg ts) l' → J [.agg ys] (h ++ l')) : Wk [.agg ys] (h ++ (bx' ++ L)) J := by
  have e := ho.1.rebox (bx' := bx') (L' := []) ho.2 hl
  rw [List.append_nil] at e
  exact Wk.made (Own.agg_mk e) (fun r hr => by have := ho.2 r hr; omega) hj
/-! ### marks: every number that is owned is written over -/
def markV (x : Value) (k : Int) : Value × Int :=
  match x with
  | .int t _ => (.int t (t.wrap k), k + 1)
  | .bool _ => (.bool (decide (k.tmod 3 = 0)), k + 1)
  | x => (x, k)
mutual
def markT (b : Bool) : AVal → Int → AVal × Int
  | .v x, k => match b with
    | true => (.v (markV x k).1, (markV x k).2)
    | false => (.v x, k)
  | .agg cs, k => (.agg (markL b cs k).1, (markL b cs k).2)
  | .sl zs, k => (.sl (markL true zs k).1, (markL true zs k).2)
  | x, k => (x, k)
def markL (b : Bool) : List AVal → Int → List AVal × Int
  | [], k => ([], k)
  | z :: zs, k => ((markT b z k).1 :: (markL b zs (markT b z k).2).1, (markL b zs (markT b z k).2).2)
end
theorem markV_le (x : Value) (k : Int) : k ≤ (markV x k).2 := by
  unfold markV; split <;> simp <;> omega
mutual
theorem markT_le (b : Bool) : ∀ (x : AVal) (k : Int), k ≤ (markT b x k).2
  | .v x, k => by
    unfold markT
    cases b with
    | true => exact markV_le x k
    | false => exact Int.le_refl _
  | .agg cs, k => by unfold markT; exact markL_le b cs k
  | .sl zs, k => by unfold markT; exact markL_le true zs k
  | .tup _, k | .rf .., k | .pt .., k | .fp .., k | .ifc .., k | .fn .., k | .dead, k => by unfold markT; exact Int.le_refl _
theorem markL_le (b : Bool) : ∀ (zs : List AVal) (k : Int), k ≤ (markL b zs k).2
  | [], k => by unfold markL; exact Int.le_refl _
  | z :: zs, k => by unfold markL; exact Int.le_trans (markT_le b z k) (markL_le b zs _)
end
theorem markL_app (b : Bool) : ∀ (xs ys : List AVal) (k : Int), markL b (xs ++ ys) k = ((markL b xs k).1 ++ (markL b ys (markL b xs k).2).1, (markL b ys (markL b xs k).2).2)
  | [], ys, k => by simp [markL]
  | x :: xs, ys, k => by
    show markL b (x :: (xs ++ ys)) k = _
    simp only [markL]
    rw [markL_app b xs ys]; rfl
theorem markL_len (b : Bool) : ∀ (xs : List AVal) (k : Int), (markL b xs k).1.length = xs.length
  | [], k => by simp [markL]
  | x :: xs, k => by simp [markL, markL_len b xs]
theorem markL_take {b : Bool} {zs : List AVal} {i : Nat} {t : AVal} (hi : zs[i]? = some t) (k : Int) : markL b (zs.take (i + 1)) k = ((markL b (zs.take i) k).1 ++ [(markT b t (markL b (zs.take i) k).2).1], (markT b t (markL b (zs.take i) k).2).2) := by
  rw [List.take_add_one, hi, markL_app]; simp [markL]
theorem markL_bnd {b : Bool} {zs : List AVal} {k : Int} (i : Nat) : (markL b (zs.take i) k).2 ≤ (markL b zs k).2 := by
  have h := markL_app b (zs.take i) (zs.drop i) k
  rw [List.take_append_drop] at h
  rw [h]; exact markL_le b _ _
theorem markT_flat (b : Bool) (t : AVal) (k : Int) : (markT b t k).1.flat.length = t.flat.length := by
  cases t with
  | v x => cases b <;> rfl
  | agg cs => simp only [markT]; exact markL_len b cs k
  | _ => rfl
def Fit (xs : List AVal) (h : AHeap) : Prop := (∀ (r g s : Nat) (ys : List AVal), h[r]? = some (.row g s ys) → ∀ (j : Nat) (y : AVal), ys[j]? = some y → y.flat.length = s) ∧ ∀ (r g s : Nat) (ys : List AVal) (n : Nat), AVal.rf r g 0 n ∈ xs → h[r]? = some (.row g s ys) → n ≤ maxLen
theorem cl_fit {P : Program} {f : FuncId} {xs : List AVal} {h : AHeap} {Q : KA} (hf : fnT P f = true) (hc : Fit xs h → callM P f xs h Q) : @clM P f xs h ⟨Q⟩ := by
  refine cl_of hf (fun c w vs hH hv => hc ⟨fun r g s ys hr => (hH.row r g s ys hr).2.2.2.len, fun r g s ys n hm hr => ?_⟩ c w vs hH hv)
  obtain ⟨i, hi⟩ := List.mem_iff_getElem?.1 hm
  have hx := hv.2 i _ hi
  generalize vs.getD i undef = v at hx
  cases hx with
  | rf _ _ _ _ a cap hg hh =>
    obtain ⟨_, h1, h2, _⟩ := hh (hH.row r g s ys hr).1
    omega
/-- the i first of a row are marked -/
structure MI (h : AHeap) (r g s n : Nat) (zs : List AVal) (k : Int) (r1 : List Nat) (i : Nat) (h' : AHeap) (ys : List AVal) : Prop where
  row : h'[r]? = some (.row g s ys)
  len : ys.length = n
  zlen : zs.length = n
  own : Own h' ys ((markL true (zs.take i) k).1 ++ zs.drop i) r1
  fr : ∀ q, q ∉ r :: r1 → h'[q]? = h[q]?
  hl : h'.length = h.length
  nr : r ∉ r1
  sz : ∀ (j : Nat) (y : AVal), ys[j]? = some y → y.flat.length = s
  big : n ≤ maxLen
theorem MI.step {h : AHeap} {r g s n : Nat} {zs : List AVal} {k : Int} {r1 : List Nat} {i : Nat} {h' : AHeap} {ys : List AVal} (hm : MI h r g s n zs k r1 i h' ys) {t : AVal} (hi : zs[i]? = some t) :
    ∃ y qs, ys[i]? = some y ∧ Own h' [y] [t] qs ∧ r ∉ qs ∧ y.flat.length = s ∧ ∀ h'' y', Own h'' [y'] [(markT true t (markL true (zs.take i) k).2).1] qs → h''[r]? = some (.row g s (ys.set i y')) → (∀ q, q ≠ r → q ∉ qs → h''[q]? = h'[q]?) → h''.length = h'.length → MI h r g s n zs k r1 (i + 1) h'' (ys.set i y') := by
  have hil : i < zs.length := (List.getElem?_eq_some_iff.1 hi).1
  have hA : (markL true (zs.take i) k).1.length = i := by rw [markL_len, List.length_take]; omega
  obtain ⟨y, hy⟩ : ∃ y, ys[i]? = some y := ⟨_, List.getElem?_eq_getElem (by rw [hm.len, ← hm.zlen]; exact hil)⟩
  obtain ⟨t', qs, h1, h2, h3, h4⟩ := hm.own.at hy
  have et : t' = t := by
    rw [List.getElem?_append_right (by omega), hA, Nat.sub_self, List.getElem?_drop, Nat.add_zero, hi] at h1
    exact (Option.some.inj h1).symm
  subst et
  have hnq : r ∉ qs := fun h => hm.nr (h3 r h)
  refine ⟨y, qs, hy, h2, hnq, hm.sz _ _ hy, fun h'' y' ho hr hf hl => ⟨hr, by simp [hm.len], hm.zlen, ?_, fun q hq => ?_, hl.trans hm.hl, hm.nr, fun j z hj => ?_, hm.big⟩⟩
  · have := h4 h'' y' _ ho (fun q hq hn => hf q (fun e => hm.nr (e ▸ hq)) hn)
    rw [markL_take hi]
    have e : ((markL true (zs.take i) k).1 ++ zs.drop i).set i (markT true t' (markL true (zs.take i) k).2).1 = (markL true (zs.take i) k).1 ++ [(markT true t' (markL true (zs.take i) k).2).1] ++ zs.drop (i + 1) := by
      rw [List.set_append_right _ _ (by omega), hA, Nat.sub_self, List.drop_eq_getElem_cons hil, List.append_assoc]; rfl
    rw [e] at this; exact this
  · rw [hf q (fun e => hq (e ▸ List.mem_cons_self)) (fun e => hq (List.mem_cons_of_mem _ (h3 q e)))]
    exact hm.fr q hq
  · rw [List.getElem?_set] at hj
    split at hj
    · split at hj
      · cases hj
        rw [← ho.flat_len, markT_flat, h2.flat_len]; exact hm.sz _ _ hy
      · cases hj
    · exact hm.sz _ _ hj
theorem MI.fin {h : AHeap} {r g s n : Nat} {zs : List AVal} {k : Int} {r1 : List Nat} {h' : AHeap} {ys : List AVal} (hm : MI h r g s n zs k r1 n h' ys) : Own h' [.rf r g 0 n] [.sl (markL true zs k).1] (r :: r1) := by
  refine Own.rf_mk hm.row hm.len ?_ hm.nr
  have := hm.own
  rw [List.take_of_length_le (by rw [hm.zlen]; exact Nat.le_refl _), List.drop_eq_nil_of_le (by rw [hm.zlen]; exact Nat.le_refl _), List.append_nil] at this
  exact this
theorem MI.start {h : AHeap} {r g n : Nat} {zs : List AVal} {k : Int} {rs : List Nat} (ho : Own h [.rf r g 0 n] [.sl zs] rs) (hf : Fit [.rf r g 0 n, i64 k] h) : ∃ s ys r1, rs = r :: r1 ∧ MI h r g s n zs k r1 0 h ys := by
  obtain ⟨s, ys, zs', r1, e, e2, hr, hn, h1, hnr⟩ := ho.rf_inv
  cases e
  exact ⟨s, ys, r1, e2, hr, hn, by rw [← h1.len]; exact hn, by simpa [markL] using h1, fun q _ => rfl, rfl, hnr, hf.1 _ _ _ _ hr, hf.2 r g s ys n List.mem_cons_self hr⟩
theorem Own.stepJ {b : Bool} {h : AHeap} {cs ds : List AVal} {j : Nat} {k : Int} {rs : List Nat} (ho : Own h cs ((markL b (ds.take j) k).1 ++ ds.drop j) rs) {d : AVal} (hd : ds[j]? = some d) :
    ∃ c qj, cs[j]? = some c ∧ Own h [c] [d] qj ∧ (∀ q ∈ qj, q ∈ rs) ∧ ∀ (h' : AHeap) (c' : AVal), Own h' [c'] [(markT b d (markL b (ds.take j) k).2).1] qj → (∀ q ∈ rs, q ∉ qj → h'[q]? = h[q]?) → Own h' (cs.set j c') ((markL b (ds.take (j + 1)) k).1 ++ ds.drop (j + 1)) rs := by
  have hil : j < ds.length := (List.getElem?_eq_some_iff.1 hd).1
  have hA : (markL b (ds.take j) k).1.length = j := by rw [markL_len, List.length_take]; omega
  have hcl := ho.len
  rw [List.length_append, hA, List.length_drop] at hcl
  obtain ⟨c, hc⟩ : ∃ c, cs[j]? = some c := ⟨_, List.getElem?_eq_getElem (by omega)⟩
  obtain ⟨t', qs, h1, h2, h3, h4⟩ := ho.at hc
  have et : t' = d := by
    rw [List.getElem?_append_right (by omega), hA, Nat.sub_self, List.getElem?_drop, Nat.add_zero, hd] at h1
    exact (Option.some.inj h1).symm
  subst et
  refine ⟨c, qs, hc, h2, h3, fun h' c' ho' hf => ?_⟩
  have := h4 h' c' _ ho' hf
  rw [markL_take hd]
  have e : ((markL b (ds.take j) k).1 ++ ds.drop j).set j (markT b t' (markL b (ds.take j) k).2).1 = (markL b (ds.take j) k).1 ++ [(markT b t' (markL b (ds.take j) k).2).1] ++ ds.drop (j + 1) := by
    rw [List.set_append_right _ _ (by omega), hA, Nat.sub_self, List.drop_eq_getElem_cons hil, List.append_assoc]; rfl
  rw [e] at this; exact this
/-- the j first parts of the i-th of a row are marked -/
structure ME (h1 : AHeap) (r g s i : Nat) (ys ds : List AVal) (k : Int) (qs : List Nat) (j : Nat) (h : AHeap) (cs : List AVal) : Prop where
  row : h[r]? = some (.row g s (ys.set i (.agg cs)))
  own : Own h cs ((markL true (ds.take j) k).1 ++ ds.drop j) qs
  fr : ∀ q, q ≠ r → q ∉ qs → h[q]? = h1[q]?
  hl : h.length = h1.length
  nr : r ∉ qs
  il : i < ys.length
theorem ME.start {h1 : AHeap} {r g s i : Nat} {ys cs ds : List AVal} {k : Int} {qs : List Nat} (hr : h1[r]? = some (.row g s ys)) (hy : ys[i]? = some (.agg cs)) (ho : Own h1 [.agg cs] [.agg ds] qs) (hn : r ∉ qs) : ME h1 r g s i ys ds k qs 0 h1 cs := by
  obtain ⟨ds', e, h2⟩ := ho.agg_inv
  cases e
  refine ⟨?_, by simpa [markL] using h2, fun _ _ _ => rfl, rfl, hn, (List.getElem?_eq_some_iff.1 hy).1⟩
  rw [hr]
  obtain ⟨hl, he⟩ := List.getElem?_eq_some_iff.1 hy
  rw [← he, List.set_getElem_self]
theorem ME.scal {h1 : AHeap} {r g s i : Nat} {ys ds : List AVal} {k : Int} {qs : List Nat} {j : Nat} {h : AHeap} {cs : List AVal} (hm : ME h1 r g s i ys ds k qs j h cs) {x : Value} (hx : scalV x = true) (hd : ds[j]? = some (.v x)) :
    ME h1 r g s i ys ds k qs (j + 1) (h.set r (.row g s (ys.set i (.agg (cs.set j (.v (markV x (markL true (ds.take j) k).2).1)))))) (cs.set j (.v (markV x (markL true (ds.take j) k).2).1)) := by
  obtain ⟨c, qj, hc, ho, hs, hf⟩ := hm.own.stepJ hd
  obtain ⟨rfl, rfl⟩ := ho.v_inv
  have hrl := (List.getElem?_eq_some_iff.1 hm.row).1
  refine ⟨by simp [hrl], hf _ _ ?_ (fun q hq _ => ?_), fun q hq hn => ?_, by simp [hm.hl], hm.nr, hm.il⟩
  · refine .v ?_ .nil
    unfold markV
    cases x <;> first | rfl | cases hx
  · rw [List.getElem?_set_ne (fun e => hm.nr (by rw [e]; exact hq))]
  · rw [List.getElem?_set_ne (fun e => hq e.symm)]; exact hm.fr q hq hn
theorem ME.call {h1 : AHeap} {r g s i : Nat} {ys ds : List AVal} {k : Int} {qs : List Nat} {j : Nat} {h : AHeap} {cs : List AVal} (hm : ME h1 r g s i ys ds k qs j h cs) {d : AVal} (hd : ds[j]? = some d) :
    ∃ c qj, cs[j]? = some c ∧ Own h [c] [d] qj ∧ ∀ h', Own h' [c] [(markT true d (markL true (ds.take j) k).2).1] qj → (∀ q, q ∉ qj → h'[q]? = h[q]?) → h'.length = h.length → ME h1 r g s i ys ds k qs (j + 1) h' cs := by
  obtain ⟨c, qj, hc, ho, hs, hf⟩ := hm.own.stepJ hd
  have hse : cs.set j c = cs := by
    obtain ⟨hl, he⟩ := List.getElem?_eq_some_iff.1 hc
    rw [← he, List.set_getElem_self]
  refine ⟨c, qj, hc, ho, fun h' o1 f1 l1 => ⟨?_, ?_, fun q hq hn => ?_, l1.trans hm.hl, hm.nr, hm.il⟩⟩
  · rw [f1 _ (fun e => hm.nr (hs _ e))]; exact hm.row
  · have := hf h' c o1 (fun q _ hn => f1 q hn)
    rwa [hse] at this
  · rw [f1 _ (fun e => hn (hs _ e))]; exact hm.fr q hq hn
theorem ME.fin {h1 : AHeap} {r g s i : Nat} {ys ds : List AVal} {k : Int} {qs : List Nat} {j : Nat} {h : AHeap} {cs : List AVal} (hm : ME h1 r g s i ys ds k qs j h cs) (hj : j = ds.length) : Own h [.agg cs] [(markT true (.agg ds) k).1] qs := by
  subst hj
  have := hm.own
  rw [List.take_length, List.drop_length, List.append_nil] at this
  exact this.agg_mk
theorem Own.agg_inv2 {h : AHeap} {y : AVal} {ds : List AVal} {rs : List Nat} (ho : Own h [y] [.agg ds] rs) : ∃ cs, y = .agg cs ∧ Own h cs ds rs := by
  cases ho with
  | ag h1 hn _ => cases hn; rw [List.append_nil]; exact ⟨_, rfl, h1⟩
theorem Own.one {h : AHeap} {xs : List AVal} {t : AVal} {rs : List Nat} (ho : Own h xs [t] rs) : ∃ x, xs = [x] := by
  have := ho.len
  match xs, this with
  | [x], _ => exact ⟨x, rfl⟩
theorem Own.nil_inv {h : AHeap} {xs : List AVal} {rs : List Nat} (ho : Own h xs [] rs) : xs = [] ∧ rs = [] := by
  cases ho; exact ⟨rfl, rfl⟩
theorem Own.cons_ex {h : AHeap} {xs ts : List AVal} {t : AVal} {rs : List Nat} (ho : Own h xs (t :: ts) rs) : ∃ x xs' r2, xs = x :: xs' ∧ Own h xs' ts r2 := by
  obtain ⟨x, xs', r1, r2, e, _, h2, _⟩ := ho.cons_inv
  exact ⟨x, xs', r2, e, h2⟩
/-- the j first parts of a record told by value are marked -/
structure MR (h1 : AHeap) (ds : List AVal) (k : Int) (qs : List Nat) (j : Nat) (h : AHeap) (cs : List AVal) : Prop where
  own : Own h cs ((markL false (ds.take j) k).1 ++ ds.drop j) qs
  fr : ∀ q, q ∉ qs → h[q]? = h1[q]?
  hl : h.length = h1.length
theorem MR.start {h1 : AHeap} {cs ds : List AVal} {k : Int} {qs : List Nat} (ho : Own h1 cs ds qs) : MR h1 ds k qs 0 h1 cs := ⟨by simpa [markL] using ho, fun _ _ => rfl, rfl⟩
theorem MR.skip {h1 : AHeap} {ds : List AVal} {k : Int} {qs : List Nat} {j : Nat} {h : AHeap} {cs : List AVal} (hm : MR h1 ds k qs j h cs) {x : Value} (hd : ds[j]? = some (.v x)) : MR h1 ds k qs (j + 1) h cs := by
  obtain ⟨c, qj, hc, ho, hs, hf⟩ := hm.own.stepJ hd
  have := hf h c ho (fun _ _ _ => rfl)
  refine ⟨?_, hm.fr, hm.hl⟩
  have hse : cs.set j c = cs := by
    obtain ⟨hl, he⟩ := List.getElem?_eq_some_iff.1 hc
    rw [← he, List.set_getElem_self]
  rwa [hse] at this
theorem MR.call {h1 : AHeap} {ds : List AVal} {k : Int} {qs : List Nat} {j : Nat} {h : AHeap} {cs : List AVal} (hm : MR h1 ds k qs j h cs) {d : AVal} (hd : ds[j]? = some d) :
    ∃ c qj, cs[j]? = some c ∧ Own h [c] [d] qj ∧ ∀ h', Own h' [c] [(markT false d (markL false (ds.take j) k).2).1] qj → (∀ q, q ∉ qj → h'[q]? = h[q]?) → h'.length = h.length → MR h1 ds k qs (j + 1) h' cs := by
  obtain ⟨c, qj, hc, ho, hs, hf⟩ := hm.own.stepJ hd
  have hse : cs.set j c = cs := by
    obtain ⟨hl, he⟩ := List.getElem?_eq_some_iff.1 hc
    rw [← he, List.set_getElem_self]
  refine ⟨c, qj, hc, ho, fun h' o1 f1 l1 => ⟨?_, fun q hn => ?_, l1.trans hm.hl⟩⟩
  · have := hf h' c o1 (fun q _ hn => f1 q hn)
    rwa [hse] at this
  · rw [f1 _ (fun e => hn (hs _ e))]; exact hm.fr q hn
theorem MR.fin {h1 : AHeap} {ds : List AVal} {k : Int} {qs : List Nat} {j : Nat} {h : AHeap} {cs : List AVal} (hm : MR h1 ds k qs j h cs) (hj : j = ds.length) : Own h [.agg cs] [(markT false (.agg ds) k).1] qs := by
  subst hj
  have := hm.own
  rw [List.take_length, List.drop_length, List.append_nil] at this
  exact this.agg_mk
theorem markL_get {b : Bool} {zs : List AVal} {i : Nat} {t : AVal} (hi : zs[i]? = some t) (k : Int) : (markL b zs k).1[i]? = some (markT b t (markL b (zs.take i) k).2).1 := by
  have hil := (List.getElem?_eq_some_iff.1 hi).1
  have h := markL_app b (zs.take (i + 1)) (zs.drop (i + 1)) k
  rw [List.take_append_drop] at h
  have hA : (markL b (zs.take i) k).1.length = i := by rw [markL_len, List.length_take]; omega
  rw [h, markL_take hi, List.getElem?_append_left (by simp [hA]), List.getElem?_append_right (by omega), hA, Nat.sub_self]
  rfl
end Go.Proofs.YtkfpoagnchahkaaGreat.A
