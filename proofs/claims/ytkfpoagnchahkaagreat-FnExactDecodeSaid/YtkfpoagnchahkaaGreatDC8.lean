/- Of this session: over the abstract machine. -/
import Derived.Test.YtkfpoagnchahkaaGreatProg
import Derived.Test.YtkfpoagnchahkaaGreatA
import Derived.Test.YtkfpoagnchahkaaGreatB
import Derived.Test.YtkfpoagnchahkaaGreatD
import Derived.Test.YtkfpoagnchahkaaGreatT
import Derived.Test.YtkfpoagnchahkaaGreatO
import Derived.Test.YtkfpoagnchahkaaGreatOT
import Derived.Test.YtkfpoagnchahkaaGreatP1
import Derived.Test.YtkfpoagnchahkaaGreatP2
import Derived.Test.YtkfpoagnchahkaaGreatP3
import Derived.Test.YtkfpoagnchahkaaGreatP4
import Derived.Test.YtkfpoagnchahkaaGreatP5
import Derived.Test.YtkfpoagnchahkaaGreatO8
import Derived.Test.YtkfpoagnchahkaaGreatDC0
import Derived.Test.YtkfpoagnchahkaaGreatDC1
import Derived.Test.YtkfpoagnchahkaaGreatDC2
import Derived.Test.YtkfpoagnchahkaaGreatDC3
import Derived.Test.YtkfpoagnchahkaaGreatDC4
import Derived.Test.YtkfpoagnchahkaaGreatDC5
namespace Go.Proofs.YtkfpoagnchahkaaGreat.A
open Go Go.RowKit
set_option linter.unusedVariables false
set_option linter.unusedSimpArgs false
set_option maxRecDepth 100000
set_option maxHeartbeats 1000000
/-! ### a deferred call that recovers -/
noncomputable abbrev fAll : Func := Tryz.f57
noncomputable abbrev fAll1 : Func := Tryz.f104
theorem fAll_body : fAll.body = some (.seq (.region 0 (regOps fAll 0) false) (.seq (.region 1 (regOps fAll 1) false) (.seq (.region 2 (regOps fAll 2) false) .ret))) := by kernel_rfl
theorem fAll1_body : fAll1.body = some (.seq (.region 0 (regOps fAll1 0) false) (sndC (fAll1.body.getD .skip))) := by kernel_rfl
theorem fAll_r1 : (regOps fAll 1).size = 2 ∧ (∃ o, (regOps fAll 1)[0]? = some o ∧ o.op = .makeFunc (.func 104) #[] #[.tmp 2, .tmp 3] ∧ o.dst = some 4 ∧ o.guard = none) ∧
    (∃ o, (regOps fAll 1)[1]? = some o ∧ o.op = .defer { callee := .value (.tmp 4), args := #[], argTypes := #[] } ∧ o.dst = none ∧ o.guard = none) := by
  refine ⟨by kernel_rfl, ⟨((regOps fAll 1)[0]?).getD default, by kernel_rfl, by kernel_rfl, by kernel_rfl, by kernel_rfl⟩, ⟨((regOps fAll 1)[1]?).getD default, by kernel_rfl, by kernel_rfl, by kernel_rfl, by kernel_rfl⟩⟩
theorem fAll_r2 : (regOps fAll 2).size = 4 ∧ (∃ o, (regOps fAll 2)[0]? = some o ∧ o.op = .move (.tmp 0) ∧ o.dst = some 5 ∧ o.guard = none) ∧
    (∃ o, (regOps fAll 2)[1]? = some o ∧ o.op = .call { callee := .value (.func 105), args := #[.tmp 5], argTypes := #[112] } ∧ o.dst = some 6 ∧ o.guard = none) ∧
    (∃ o, (regOps fAll 2)[2]? = some o ∧ o.op = .store 35 (.tmp 2) (.tmp 6) ∧ o.dst = none ∧ o.guard = none) ∧
    (∃ o, (regOps fAll 2)[3]? = some o ∧ o.op = .store 4 (.tmp 3) (.const (.bool true)) ∧ o.dst = none ∧ o.guard = none) := by
  refine ⟨by kernel_rfl, ⟨((regOps fAll 2)[0]?).getD default, by kernel_rfl, by kernel_rfl, by kernel_rfl, by kernel_rfl⟩, ⟨((regOps fAll 2)[1]?).getD default, by kernel_rfl, by kernel_rfl, by kernel_rfl, by kernel_rfl⟩,
    ⟨((regOps fAll 2)[2]?).getD default, by kernel_rfl, by kernel_rfl, by kernel_rfl, by kernel_rfl⟩, ⟨((regOps fAll 2)[3]?).getD default, by kernel_rfl, by kernel_rfl, by kernel_rfl, by kernel_rfl⟩⟩
theorem fAll1_r0 : (regOps fAll1 0).size = 2 ∧ (∃ o, (regOps fAll1 0)[0]? = some o ∧ o.op = .call { callee := .builtin .recover, args := #[], argTypes := #[] } ∧ o.dst = some 5 ∧ o.guard = none) ∧
    (∃ o, (regOps fAll1 0)[1]? = some o ∧ o.op = .assign (.tmp 5) ∧ o.dst = some 2 ∧ o.guard = none) := by
  refine ⟨by kernel_rfl, ⟨((regOps fAll1 0)[0]?).getD default, by kernel_rfl, by kernel_rfl, by kernel_rfl, by kernel_rfl⟩, ⟨((regOps fAll1 0)[1]?).getD default, by kernel_rfl, by kernel_rfl, by kernel_rfl, by kernel_rfl⟩⟩
noncomputable def an0 : An := ⟨fun _ => ⟨[], [], .nil⟩, fun _ => none, fun _ => [], []⟩
theorem all_r0 (env : Env) (h : AHeap) (Kn : KE) (Kx : Nat → KE) (Kr : KE) : adCode Tryz.prog an0 7 (.region 0 (regOps fAll 0) false) env h Kn Kx Kr = allocM Tryz.prog 35 h fun x1 h1 => allocM Tryz.prog 4 h1 fun x2 h2 => Kn (upd (upd env 2 x1) 3 x2) h2 := by kernel_rfl
theorem fAll_res : fAll.results = #[.cell 2 35, .cell 3 4] ∧ fAll.ntmps = 7 ∧ fAll1.results = #[] ∧ fAll1.ntmps = 17 := by exact ⟨by kernel_rfl, by kernel_rfl, by kernel_rfl, by kernel_rfl⟩
theorem fn_all : fnT Tryz.prog 57 = true := by kernel_rfl
theorem fn_all1 : fnT Tryz.prog 104 = true := by kernel_rfl
theorem zrT_bool : zrT Tryz.prog 4 = some ff := by kernel_rfl
theorem RE_args {c : Ctx} {w : World} {xs : List AVal} {vs : Array Value} {nt : Nat} {ds : List Deferred} (hv : RVs c w xs vs) (hn : xs.length ≤ nt) : RE c w (argEnv xs) { tmps := vs ++ Array.replicate (nt - vs.size) undef, defers := ds } nt := by
  refine ⟨by simp; have := hv.1; omega, fun t => ?_⟩
  rcases argEnv_get xs t with ⟨x, h1, h2⟩ | ⟨h1, h2⟩
  · rw [h2]
    have hlt : t < vs.size := by rw [hv.1]; exact (List.getElem?_eq_some_iff.1 h1).1
    have := hv.2 t x h1
    have e : (vs ++ Array.replicate (nt - vs.size) undef).getD t undef = vs.getD t undef := by
      rw [Array.getD_eq_getD_getElem?, Array.getD_eq_getD_getElem?, Array.getElem?_append_left hlt]
    rw [e]; exact this
  · rw [h2]
    have e : (vs ++ Array.replicate (nt - vs.size) undef).getD t undef = undef := by
      have hge : vs.size ≤ t := by rw [hv.1]; exact h1
      rw [Array.getD_eq_getD_getElem?, Array.getElem?_append_right hge, Array.getElem?_replicate]
      split <;> rfl
    rw [e]; exact .v _
theorem wpOps_one {P : Program} {ops : Array Oper} {Q : Exit → Act → World → Prop} {i : Nat} {rest : List Nat} {a : Act} {w : World} {o : Oper} (ho : ops[i]? = some o) (hg : o.guard = none) (h : o.wp P a w (wpOps P ops Q rest) Q) : wpOps P ops Q (i :: rest) a w := by
  simp only [wpOps, ho]
  rw [if_pos (by unfold Region.wanted; rw [hg])]
  exact .inl h
def zeroP : AVal := .agg [nilS, nilS, nilS, nilS]
/-- what the deferred function does: nothing, or it takes the panic and sets the results -/
theorem close_ok {c : Ctx} {w : World} {H : AHeap} {k2 g2 k3 g3 : Nat} {v2 v3 : Value} {u : FrameMode} {b : Bool} {Q : AHeap → Prop} (hH : RH c H w) (h2 : RV c w (.pt k2 g2 0 0) v2) (h3 : RV c w (.pt k3 g3 0 0) v3) (hne : k2 ≠ k3)
    (hr : b = true → H[k2]? = some (.row g2 4 [zeroP]) ∧ H[k3]? = some (.row g3 1 [ff]))
    (hu : (b = false ∧ u = .returning) ∨ (b = true ∧ ∃ v, u = .panicking [{ v, recovered := false }] ∧ RV c w eE v))
    (q0 : b = false → Q H) (q1 : b = true → ∀ g, Q (H ++ [AObj.row g 0 [.agg []]])) :
    CallsD Tryz.prog 104 #[v2, v3] u w fun e u' w' => (∃ v, e = .returned v) ∧ settle u' = .returning ∧ ∃ c' h', Ext c w c' w' ∧ RH c' h' w' ∧ Q h' := by
  refine callsD_of_wpS Tryz.func104 fAll1_body (fun c0 cs hc0 => ?_)
  refine wpS_seq (wpS_region ?_)
  obtain ⟨hs, ⟨o0, a1, a2, a3, a4⟩, ⟨o1, b1, b2, b3, b4⟩⟩ := fAll1_r0
  rw [hs]
  have hE0 : RE c w (argEnv [.pt k2 g2 0 0, .pt k3 g3 0 0]) { tmps := #[v2, v3] ++ Array.replicate (17 - 2) undef, defers := [] } 17 := RE_args (vs := #[v2, v3]) ⟨rfl, fun i a ha => by
    match i, ha with
    | 0, ha => cases ha; exact h2
    | 1, ha => cases ha; exact h3
    | _ + 2, ha => simp at ha⟩ (by simp)
  have hback : ∀ (x : AVal) (v : Value) (u' : FrameMode), RV c w x v → settle u' = .returning → D_impl_reader_all_1_p1 (.pt k2 g2 0 0) (.pt k3 g3 0 0) x (.v undef) (.v undef) x H (fun _ h' => Q h') →
      (sndC (fAll1.body.getD .skip)).wpS Tryz.prog (bodyPostS Tryz.prog fAll1 c0 cs fun e u' w' => (∃ v, e = .returned v) ∧ settle u' = .returning ∧ ∃ c' h', Ext c w c' w' ∧ RH c' h' w' ∧ Q h')
        ((({ tmps := #[v2, v3] ++ Array.replicate (17 - 2) undef, defers := [] } : Act).put (some 5) v).put (some 2) v) ({ c0 with mode := u' } :: cs) w := by
    intro x v u' hx hset hd
    have hE : RE c w (argEnv [.pt k2 g2 0 0, .pt k3 g3 0 0, x, .v undef, .v undef, x]) ((({ tmps := #[v2, v3] ++ Array.replicate (17 - 2) undef, defers := [] } : Act).put (some 5) v).put (some 2) v) 17 := by
      have h := (hE0.put (d := 5) (by omega) hx).put (d := 2) (by omega) hx
      have e : upd (upd (argEnv [.pt k2 g2 0 0, .pt k3 g3 0 0]) 5 x) 2 x = argEnv [.pt k2 g2 0 0, .pt k3 g3 0 0, x, .v undef, .v undef, x] := by
        funext t
        match t with
        | 0 => rfl
        | 1 => rfl
        | 2 => rfl
        | 3 => rfl
        | 4 => rfl
        | 5 => rfl
        | t + 6 => rfl
      rw [e] at h; exact h
    refine wpS_of_wp (wp_mono (code_ok (Pn := noPk) (ds := []) (an := an_impl_reader_all_1_p1) (nt := 17) _ _ H _ _ _ c w _ hH hE rfl ((D_impl_reader_all_1_p1_eq _ _ _ _ _ _ H (fun _ h' => Q h')).symm ▸ hd)) ?_)
    rintro e a' w' (⟨ae, c', env', h', rfl, h1, h2, h3, h4, h5⟩ | ⟨v, c', x, h', rfl, h1, h2, h3, h4, h5⟩)
    rotate_left
    · exact h5.elim
    have key : retM Tryz.prog fAll1.results.toList env' h' (fun _ h' => Q h') → a'.defers = [] ∧ ∃ u2, ({ c0 with mode := u' } : Frame) :: cs = { c0 with mode := u2 } :: cs ∧ ∃ v, (results fAll1 a'.tmps).run Tryz.prog w' = .ok v w' ∧ ((∃ v', Ending.returned v = .returned v') ∧ settle u2 = .returning ∧ ∃ c' h', Ext c w c' w' ∧ RH c' h' w' ∧ Q h') := by
      intro hr
      obtain ⟨v, c2, x, h2', k1, k2, k3, k4, k5⟩ := ret_ok h2 h3 hr
      exact ⟨h4, u', rfl, v, k1, ⟨v, rfl⟩, hset, c2, h2', h1.trans k2, k3, k5⟩
    cases ae with
    | normal => exact key h5
    | exit i => exact h5.elim
    | ret => exact key h5
  show wpOpsS Tryz.prog (regOps fAll1 0) _ [0, 1] { tmps := #[v2, v3] ++ Array.replicate (17 - 2) undef, defers := [] } (c0 :: cs) w
  have w0 : Region.wanted o0 (yielded (regOps fAll1 0) ({ tmps := #[v2, v3] ++ Array.replicate (17 - 2) undef, defers := [] } : Act).tmps) = true := by unfold Region.wanted; rw [a4]
  have r0 : (execOp ({ tmps := #[v2, v3] ++ Array.replicate (17 - 2) undef, defers := [] } : Act).eval o0).run Tryz.prog w = .ok .recover w := by
    simp [execOp, a2, resolve, invoke, builtin]
  have w1 : ∀ v, Region.wanted o1 (yielded (regOps fAll1 0) (({ tmps := #[v2, v3] ++ Array.replicate (17 - 2) undef, defers := [] } : Act).put (some 5) v).tmps) = true := fun v => by unfold Region.wanted; rw [b4]
  have r1 : ∀ v, (execOp (({ tmps := #[v2, v3] ++ Array.replicate (17 - 2) undef, defers := [] } : Act).put (some 5) v).eval o1).run Tryz.prog w = .ok (.value v) w := fun v => by
    simp [execOp, b2, Act.eval, Act.put]
  simp only [wpOpsS, a1, w0, if_true, r0, a3, b1, b3, w1, r1, Oper.upon]
  rcases hu with ⟨hb, rfl⟩ | ⟨hb, v, rfl, hv⟩
  · have q := q0 hb
    have e : recoverD (c0 :: cs) = none := by simp [recoverD, hc0]
    rw [e]
    have e2 : ({ c0 with mode := .returning } : Frame) = c0 := by rw [← hc0]
    have h := hback (.v .nilIface) .nilIface .returning (.v _) rfl (by unfold D_impl_reader_all_1_p1; simp [↓go]; exact retW0_ex q)
    rw [e2] at h
    exact h
  · have q := q1 hb
    have e : recoverD (c0 :: cs) = some (v, { c0 with mode := .panicking [{ v, recovered := true }] } :: cs) := by simp [recoverD, hc0]
    rw [e]
    refine hback eE v (.panicking [{ v, recovered := true }]) hv rfl ?_
    unfold D_impl_reader_all_1_p1
    obtain ⟨hr2, hr3⟩ := hr hb
    simp [↓go, eE]
    intro g
    have q := q g
    have g2' : ∀ l : AHeap, (H ++ l)[k2]? = some (.row g2 4 [zeroP]) := fun l => app_get hr2
    have g3' : ∀ l : AHeap, (H ++ l)[k3]? = some (.row g3 1 [ff]) := fun l => app_get hr3
    have same : ∀ {l : AHeap} {k : Nat} {x : AObj}, l[k]? = some x → l.set k x = l := fun h => by
      obtain ⟨h1, h2⟩ := List.getElem?_eq_some_iff.1 h
      rw [← h2]; exact List.set_getElem_self h1
    have s2 := fun l => same (g2' l)
    have s3 := fun l => same (g3' l)
    unfold zeroP at g2' s2
    refine jn_cut (fun s h' => h' = H ++ [AObj.row g 0 [.agg []]] ∧ s = [.pt k3 g3 0 0, .pt k2 g2 0 0]) ?_ ?_
    · simp [↓go]
      exact wk_ex ⟨rfl, rfl⟩
    rintro _ _ ⟨rfl, rfl⟩
    simp [↓go, g2', g3', s2, s3]
    exact retW0_ex q
theorem Wk.madeS {s0 : List AVal} {y t : AVal} {h l : AHeap} {rs : List Nat} {J : KS} (ho : Own (h ++ l) [y] [t] rs) (hrs : ∀ r ∈ rs, h.length ≤ r) (hj : ∀ l', Made h y t l' → J s0 (h ++ l')) : Wk s0 (h ++ l) J := by
  let l' : AHeap := l.mapIdx fun i o => if h.length + i ∈ rs then o else .dead
  have hget : ∀ r, h.length ≤ r → r ∈ rs → (h ++ l')[r]? = (h ++ l)[r]? := fun r hr hm => by
    rw [List.getElem?_append_right hr, List.getElem?_append_right hr, List.getElem?_mapIdx]
    cases l[r - h.length]? with
    | none => rfl
    | some o => show some (if h.length + (r - h.length) ∈ rs then o else .dead) = some o; rw [if_pos (by rw [show h.length + (r - h.length) = r by omega]; exact hm)]
  refine Wk.sub (h' := h ++ l') (fun r g z xs hr => ?_) (Wk.refl (hj l' ⟨rs, ho.frame fun r hr => hget r (hrs r hr) hr, hrs, fun r g s ys hr => ?_⟩))
  · by_cases hrl : r < h.length
    · rw [List.getElem?_append_left hrl] at hr ⊢; exact hr
    · rw [List.getElem?_append_right (by omega), List.getElem?_mapIdx] at hr
      rw [List.getElem?_append_right (by omega)]
      cases hq : l[r - h.length]? with
      | none => rw [hq] at hr; cases hr
      | some o =>
        rw [hq] at hr
        have hr : some (if h.length + (r - h.length) ∈ rs then o else .dead) = some (.row g z xs) := hr
        split at hr
        · exact hr
        · cases hr
  · have hr : l'[r]? = some (.row g s ys) := hr
    rw [List.getElem?_mapIdx] at hr
    cases hq : l[r]? with
    | none => rw [hq] at hr; cases hr
    | some o =>
      rw [hq] at hr
      have hr : some (if h.length + r ∈ rs then o else .dead) = some (.row g s ys) := hr
      split at hr
      · assumption
      · cases hr
/-- what a call comes to may be told otherwise -/
theorem own_prog {H : AHeap} {y : AVal} {x : MProgram} {rs : List Nat} (o : Own H [y] [encProgram x] rs) : ∃ p0 p1 p2 p3, y = .agg [p0, p1, p2, p3] ∧ (p0.flat = [p0] ∧ p0.c1 = true ∧ p0.isAgg = false) ∧ (p1.flat = [p1] ∧ p1.c1 = true ∧ p1.isAgg = false) ∧ (p2.flat = [p2] ∧ p2.c1 = true ∧ p2.isAgg = false) ∧ (p3.flat = [p3] ∧ p3.c1 = true ∧ p3.isAgg = false) := by
  rw [encProgram_eq] at o
  obtain ⟨cs, rfl, oc⟩ := Own.agg_inv2 o
  obtain ⟨c0, _, _, rfl, oc0⟩ := oc.cons_ex
  obtain ⟨c1, _, _, rfl, oc1⟩ := oc0.cons_ex
  obtain ⟨c2, _, _, rfl, oc2⟩ := oc1.cons_ex
  obtain ⟨c3, _, _, rfl, oc3⟩ := oc2.cons_ex
  obtain ⟨rfl, -⟩ := oc3.nil_inv
  obtain ⟨t0, q0', e0, w0, _⟩ := oc.at (i := 0) rfl
  cases e0
  obtain ⟨t1, q1', e1, w1, _⟩ := oc.at (i := 1) rfl
  cases e1
  obtain ⟨t2, q2', e2, w2, _⟩ := oc.at (i := 2) rfl
  cases e2
  obtain ⟨t3, q3', e3, w3, _⟩ := oc.at (i := 3) rfl
  cases e3
  exact ⟨c0, c1, c2, c3, rfl, w0.sl_cell, w1.sl_cell, w2.sl_cell, w3.sl_cell⟩
theorem S_all {bs : List Int} {a kr gr : Nat} {H : AHeap} {Q : KA} (hl : bs.length ≤ 1099511627776) (hw : okB bs) (ha : a ≤ bs.length) (hr : H[kr]? = some (rdR gr bs a))
    (q1 : ∀ p a' H' y l2, Upd kr H H' (rdR gr bs a') → a' ≤ bs.length → gtProg (bs.drop a) = some (p, bs.drop a') → Made H' y (encProgram p) l2 → Q (.tup [y, tt]) (H' ++ l2))
    (q2 : gtProg (bs.drop a) = none → ∀ H', Pre kr H H' → Q (.tup [zeroP, ff]) H') : @clM Tryz.prog 57 [.pt kr gr 0 0] H ⟨Q⟩ := by
  have hk := (List.getElem?_eq_some_iff.1 hr).1
  refine cl_of fn_all (callM_new fun c w vs hH hv => ?_)
  have hvs := hv
  obtain ⟨hl0, hrv⟩ := hv
  obtain ⟨v0, rfl⟩ : ∃ v0, vs = #[v0] := by
    obtain ⟨l⟩ := vs
    match l, hl0 with
    | [v0], _ => exact ⟨v0, rfl⟩
  refine calls_of_wp_defers Tryz.func57 fAll_body ?_
  refine wp_seq ?_
  have hE0 : RE c w (argEnv [.pt kr gr 0 0]) { tmps := #[v0] ++ Array.replicate (7 - 1) undef, defers := [] } 7 := RE_args (vs := #[v0]) hvs (by simp)
  let Kn : KE := fun env h => env 0 = .pt kr gr 0 0 ∧ ∃ g2 g3, env 2 = .pt H.length g2 0 0 ∧ env 3 = .pt (H.length + 1) g3 0 0 ∧ h = H ++ [AObj.row g2 4 [zeroP], AObj.row g3 1 [ff]]
  refine wp_mono (code_ok (Pn := noPk) (ds := []) (an := an0) (nt := 7) (.region 0 (regOps fAll 0) false) _ H Kn (fun _ _ _ => False) (fun _ _ => False) c w _ hH hE0 rfl ?_) ?_
  · rw [all_r0]
    simp [↓go, zrT_bool]
    intro g2 g3
    exact ⟨rfl, g2, g3, rfl, rfl, rfl⟩
  rintro e a1 w1 (⟨ae, c1, env1, h1, rfl, x1, x2, x3, x4, x5⟩ | ⟨v, c', x, h', rfl, _, _, _, _, x5⟩)
  rotate_left
  · exact x5.elim
  cases ae with
  | exit i => exact x5.elim
  | ret => exact x5.elim
  | normal =>
  obtain ⟨e0, g2, g3, e2, e3, rfl⟩ := x5
  refine wp_seq (wp_region ?_)
  obtain ⟨hs, ⟨o0, a1', a2, a3, a4⟩, ⟨o1, b1, b2, b3, b4⟩⟩ := fAll_r1
  rw [hs]
  have hp2 := x3.2 2
  have hp3 := x3.2 3
  rw [e2] at hp2
  rw [e3] at hp3
  generalize hv2 : a1.tmps.getD 2 undef = v2 at hp2
  generalize hv3 : a1.tmps.getD 3 undef = v3 at hp3
  have hd1 : RV c1 w1 (.fn 104 [] [.pt H.length g2 0 0, .pt (H.length + 1) g3 0 0]) (.func (.func 104) #[] #[v2, v3]) :=
    .fn _ _ _ _ _ rfl (fun i a ha => by simp at ha) rfl (fun i a ha => by
      match i, ha with
      | 0, ha => cases ha; exact hp2
      | 1, ha => cases ha; exact hp3
      | _ + 2, ha => simp at ha)
  have x3' := x3.put (d := 4) (by omega) hd1
  refine wpOps_one a1' a4 ?_
  have r0 : (execOp a1.eval o0).run Tryz.prog w1 = .ok (.value (.func (.func 104) #[] #[v2, v3])) w1 := by
    simp [execOp, a2, Instr.makeFunc, Act.eval, ← hv2, ← hv3]
  unfold Oper.wp
  rw [r0, Oper.upon_value, a3]
  refine wpOps_one b1 b4 ?_
  have r1 : (execOp (a1.put (some 4) (.func (.func 104) #[] #[v2, v3])).eval o1).run Tryz.prog w1 = .ok (.defer { target := .fn (.func 104) #[v2, v3], args := #[] }) w1 := by
    have hsz : 4 < a1.tmps.size := by rw [x3.1]; omega
    simp [execOp, b2, Act.eval, Act.put, resolve, Deferred.ofValue, hsz]
  unfold Oper.wp
  rw [r1, Oper.upon_defer, b3]
  have x4' : a1.defers = [] := x4
  have hdf : (a1.put (some 4) (.func (.func 104) #[] #[v2, v3])).defers = [] := x4
  show Code.wp Tryz.prog ((Code.region 2 (regOps fAll 2) false).seq .ret) _ ({ tmps := (a1.put (some 4) (.func (.func 104) #[] #[v2, v3])).tmps, defers := { target := .fn (.func 104) #[v2, v3], args := #[] } :: (a1.put (some 4) (.func (.func 104) #[] #[v2, v3])).defers } : Act) w1
  rw [hdf]
  have hE2 : RE c1 w1 (upd env1 4 (.fn 104 [] [.pt H.length g2 0 0, .pt (H.length + 1) g3 0 0])) { tmps := (a1.put (some 4) (.func (.func 104) #[] #[v2, v3])).tmps, defers := [{ target := .fn (.func 104) #[v2, v3], args := #[] }] } 7 := ⟨x3'.1, x3'.2⟩
  generalize (a1.put (some 4) (.func (.func 104) #[] #[v2, v3])).tmps = tm at hE2 ⊢
  have e0' : upd env1 4 (.fn 104 [] [.pt H.length g2 0 0, .pt (H.length + 1) g3 0 0]) 0 = .pt kr gr 0 0 := (upd_ne _ _ (by omega)).trans e0
  have e2' : upd env1 4 (.fn 104 [] [.pt H.length g2 0 0, .pt (H.length + 1) g3 0 0]) 2 = .pt H.length g2 0 0 := (upd_ne _ _ (by omega)).trans e2
  have e3' : upd env1 4 (.fn 104 [] [.pt H.length g2 0 0, .pt (H.length + 1) g3 0 0]) 3 = .pt (H.length + 1) g3 0 0 := (upd_ne _ _ (by omega)).trans e3
  generalize upd env1 4 (.fn 104 [] [.pt H.length g2 0 0, .pt (H.length + 1) g3 0 0]) = env2 at hE2 e0' e2' e3'
  -- what is left behind the body
  have leave : ∀ (b : Bool) (u : FrameMode) (c2 : Ctx) (w2 : World) (H2 : AHeap) (env : Env) (a : Act), Ext c1 w1 c2 w2 → RH c2 H2 w2 → RE c2 w2 env a 7 → env 2 = .pt H.length g2 0 0 → env 3 = .pt (H.length + 1) g3 0 0 → a.defers = [{ target := .fn (.func 104) #[v2, v3], args := #[] }] →
      (b = true → H2[H.length]? = some (.row g2 4 [zeroP]) ∧ H2[H.length + 1]? = some (.row g3 1 [ff])) → ((b = false ∧ u = .returning) ∨ (b = true ∧ ∃ v, u = .panicking [{ v, recovered := false }] ∧ RV c2 w2 eE v)) →
      (b = false → loadM Tryz.prog 35 (.pt H.length g2 0 0) H2 fun x h1 => loadM Tryz.prog 4 (.pt (H.length + 1) g3 0 0) h1 fun y h2 => @wkM [x, y] h2 ⟨fun s h' => Q (.tup [nthA s 0, nthA s 1]) h'⟩) →
      (b = true → ∀ g, loadM Tryz.prog 35 (.pt H.length g2 0 0) (H2 ++ [AObj.row g 0 [.agg []]]) fun x h1 => loadM Tryz.prog 4 (.pt (H.length + 1) g3 0 0) h1 fun y h2 => @wkM [x, y] h2 ⟨fun s h' => Q (.tup [nthA s 0, nthA s 1]) h'⟩) →
      Leaves Tryz.prog fAll a.tmps (fun e w' => ∃ v c' x h', e = .returned v ∧ Ext c w c' w' ∧ RH c' h' w' ∧ RV c' w' x v ∧ Q x h') a.defers u w2 := by
    intro b u c2 w2 H2 env a y1 y2 y3 f2 f3 hdd hrows hu k0 k1
    rw [hdd]
    have hinv : (invoke (.fn (.func 104) #[v2, v3]) #[]).run Tryz.prog w2 = .ok (.enter 104 #[v2, v3]) w2 := by
      obtain ⟨fn, hfun, hname, hbody⟩ : ∃ fn, Tryz.prog.funcs[104]? = some fn ∧ fn.name ≠ "runtime.NumGoroutine" ∧ fn.body ≠ none := by
        have hfn := fn_all1
        unfold fnT at hfn
        split at hfn
        · rename_i fn hq
          rw [Bool.and_eq_true] at hfn
          exact ⟨fn, hq, by simpa using hfn.1, fun he => by rw [he] at hfn; simp at hfn⟩
        · cases hfn
      simp [invoke, callFunc, program, Sem.run, hfun, hname, hbody]
    refine leaves_cons (f := 104) (args := #[v2, v3]) (by rcases hu with ⟨_, rfl⟩ | ⟨_, v, rfl, _⟩ <;> simp) hinv ?_
    refine (close_ok (b := b) (Q := fun h' => loadM Tryz.prog 35 (.pt H.length g2 0 0) h' fun x h1 => loadM Tryz.prog 4 (.pt (H.length + 1) g3 0 0) h1 fun y h2 => @wkM [x, y] h2 ⟨fun s h' => Q (.tup [nthA s 0, nthA s 1]) h'⟩) y2 (hp2.mono y1) (hp3.mono y1) (by omega) hrows hu k0 k1).mono ?_
    rintro e u' w3 ⟨⟨v, rfl⟩, hset, c3, h3, z1, z2, z3⟩
    show Leaves Tryz.prog fAll a.tmps _ [] (settle u') w3
    rw [hset]
    have hret : retM Tryz.prog fAll.results.toList env h3 Q := by
      rw [fAll_res.1]
      show loadM Tryz.prog 35 (env 2) h3 fun x h1 => loadM Tryz.prog 4 (env 3) h1 fun y h2 => _
      rw [f2, f3]; exact z3
    obtain ⟨v', c4, x, h4, m1, m2, m3, m4, m5⟩ := ret_ok z2 (y3.mono z1) hret
    exact ⟨v', m1, v', c4, x, h4, rfl, (x1.trans y1).trans (z1.trans m2), m3, m4, m5⟩
  refine wp_seq (wp_region ?_)
  obtain ⟨hs2, ⟨p0, c0a, c0b, c0c, c0g⟩, ⟨p1, c1a, c1b, c1c, c1g⟩, ⟨p2, c2a, c2b, c2c, c2g⟩, ⟨p3, c3a, c3b, c3c, c3g⟩⟩ := fAll_r2
  rw [hs2]
  refine wpOps_one c0a c0g ?_
  have q0 : (execOp ({ tmps := tm, defers := [{ target := .fn (.func 104) #[v2, v3], args := #[] }] } : Act).eval p0).run Tryz.prog w1 = .ok (.value (tm.getD 0 undef)) w1 := by simp [execOp, c0b, Act.eval]
  unfold Oper.wp
  rw [q0, Oper.upon_value, c0c]
  have hE3 := hE2.put (d := 5) (by omega) (hE2.2 0)
  have f2 : upd env2 5 (env2 0) 2 = .pt H.length g2 0 0 := (upd_ne _ _ (by omega)).trans e2'
  have f3 : upd env2 5 (env2 0) 3 = .pt (H.length + 1) g3 0 0 := (upd_ne _ _ (by omega)).trans e3'
  have f5 : upd env2 5 (env2 0) 5 = .pt kr gr 0 0 := (upd_same _ _ _).trans e0'
  have hd3 : (({ tmps := tm, defers := [{ target := .fn (.func 104) #[v2, v3], args := #[] }] } : Act).put (some 5) (tm.getD 0 undef)).defers = [{ target := .fn (.func 104) #[v2, v3], args := #[] }] := rfl
  generalize upd env2 5 (env2 0) = env3 at hE3 f2 f3 f5
  generalize ({ tmps := tm, defers := [{ target := .fn (.func 104) #[v2, v3], args := #[] }] } : Act).put (some 5) (tm.getD 0 undef) = a3 at hE3 hd3 ⊢
  refine wpOps_one c1a c1g ?_
  refine op_ok (Pn := ⟨fun x h' => x = eE ∧ Pre kr (H ++ [AObj.row g2 4 [zeroP], AObj.row g3 1 [ff]]) h' ∧ gtProg (bs.drop a) = none⟩) (bx := []) (K := fun y h' => ∃ p a' Hx l2, h' = Hx ++ l2 ∧ Upd kr (H ++ [AObj.row g2 4 [zeroP], AObj.row g3 1 [ff]]) Hx (rdR gr bs a') ∧ a' ≤ bs.length ∧ gtProg (bs.drop a) = some (p, bs.drop a') ∧ Made Hx y (encProgram p) l2) x2 hE3 ?_ ?_ ?_
  · unfold adOp
    rw [c1b]
    show @clM Tryz.prog 105 [env3 5] _ (@Bd.mk KA _ ⟨fun x h' => x = eE ∧ Pre kr (H ++ [AObj.row g2 4 [zeroP], AObj.row g3 1 [ff]]) h' ∧ gtProg (bs.drop a) = none⟩)
    rw [f5]
    exact S_program (Pn := ⟨fun x h' => x = eE ∧ Pre kr (H ++ [AObj.row g2 4 [zeroP], AObj.row g3 1 [ff]]) h' ∧ gtProg (bs.drop a) = none⟩) hl hw ha (app_get hr) (fun hn H' hpre => ⟨rfl, hpre, hn⟩) (fun p a' H' y l2 hu ha' hg hm => ⟨p, a', H', l2, rfl, hu, ha', hg, hm⟩)
  · rintro c' w' x v h' y1 y2 y3 ⟨rfl, hpre, hn⟩
    have r2 : h'[H.length]? = some (.row g2 4 [zeroP]) := by rw [hpre.2 _ (by simp) (by omega)]; simp
    have r3 : h'[H.length + 1]? = some (.row g3 1 [ff]) := by rw [hpre.2 _ (by simp) (by omega)]; simp
    refine leave true _ c' w' h' env3 a3 y1 y2 (hE3.mono y1) f2 f3 hd3 (fun _ => ⟨r2, r3⟩) (.inr ⟨rfl, v, rfl, y3⟩) (fun h => by cases h) (fun _ g => ?_)
    have r2' : ∀ l : AHeap, (h' ++ l)[H.length]? = some (.row g2 4 [zeroP]) := fun l => app_get r2
    have r3' : ∀ l : AHeap, (h' ++ l)[H.length + 1]? = some (.row g3 1 [ff]) := fun l => app_get r3
    have q := q2 hn (h' ++ [AObj.row g 0 [.agg []]]) ((Pre.app.trans hpre).trans Pre.app)
    unfold zeroP at r2' q
    simp [↓go, r2', r3']
    exact wk_ex q
  · rintro c' w' y v h' y1 y2 y3 ⟨p, a', Hx, l2, rfl, hu, ha', hg, hm⟩
    rw [c1c]
    have hE4 := (hE3.mono y1).put (d := 6) (by omega) y3
    have j2 : upd env3 6 y 2 = .pt H.length g2 0 0 := (upd_ne _ _ (by omega)).trans f2
    have j3 : upd env3 6 y 3 = .pt (H.length + 1) g3 0 0 := (upd_ne _ _ (by omega)).trans f3
    have j6 : upd env3 6 y 6 = y := upd_same _ _ _
    have hd4 : (a3.put (some 6) v).defers = [{ target := .fn (.func 104) #[v2, v3], args := #[] }] := hd3
    generalize upd env3 6 y = env4 at hE4 j2 j3 j6
    generalize a3.put (some 6) v = a4 at hE4 hd4 ⊢
    obtain ⟨rs, oy, hrs, -⟩ := hm
    have hxl := hu.len
    simp at hxl
    have r2 : (Hx ++ l2)[H.length]? = some (.row g2 4 [zeroP]) := by rw [List.getElem?_append_left (by omega), hu.oth _ (by omega)]; simp
    have r3 : (Hx ++ l2)[H.length + 1]? = some (.row g3 1 [ff]) := by rw [List.getElem?_append_left (by omega), hu.oth _ (by omega)]; simp
    have hlen : H.length + 2 ≤ (Hx ++ l2).length := by simp; omega
    have hpre : ∀ r, r < H.length → r ≠ kr → (Hx ++ l2)[r]? = H[r]? := fun r h1 h2 => by rw [List.getElem?_append_left (by omega), hu.oth _ h2, List.getElem?_append_left h1]
    have hrd : (Hx ++ l2)[kr]? = some (rdR gr bs a') := app_get hu.at_
    have hrs' : ∀ r ∈ rs, H.length + 2 ≤ r := fun r hr => by have := hrs r hr; omega
    clear hrs
    obtain ⟨d0, d1, d2, d3, rfl, t0, t1, t2, t3⟩ := own_prog oy
    generalize Hx ++ l2 = Hz at *
    refine wpOps_one c2a c2g (op_ok (Pn := noPk) (bx := []) (K := fun _ h' => h' = Hz.set H.length (.row g2 4 [.agg [d0, d1, d2, d3]])) y2 hE4 ?_ (fun _ _ _ _ _ _ _ _ h => h.elim) ?_)
    · unfold adOp
      rw [c2b]
      show storeM Tryz.prog 35 (env4 2) (env4 6) Hz _
      rw [j2, j6]
      unfold zeroP at r2
      simp [↓go, r2, t0.1, t0.2.1, t0.2.2, t1.1, t1.2.1, t1.2.2, t2.1, t2.2.1, t2.2.2, t3.1, t3.2.1, t3.2.2]
    · rintro c5 w5 _ v5 _ z1 z2 z3 rfl
      rw [c2c]
      have r3' : (Hz.set H.length (.row g2 4 [.agg [d0, d1, d2, d3]]))[H.length + 1]? = some (.row g3 1 [ff]) := by rw [List.getElem?_set_ne (by omega)]; exact r3
      refine wpOps_one c3a c3g (op_ok (Pn := noPk) (bx := []) (K := fun _ h' => h' = (Hz.set H.length (.row g2 4 [.agg [d0, d1, d2, d3]])).set (H.length + 1) (.row g3 1 [tt])) (env := env4) (nt := 7) z2 ((hE4.mono z1) : RE c5 w5 env4 a4 7) ?_ (fun _ _ _ _ _ _ _ _ h => h.elim) ?_)
      · unfold adOp
        rw [c3b]
        show storeM Tryz.prog 4 (env4 3) tt _ _
        rw [j3]
        simp [↓go, r3']
      · rintro c6 w6 _ v6 _ z1' z2' z3' rfl
        rw [c3c]
        refine wp_ret ?_
        have k2 : ((Hz.set H.length (.row g2 4 [.agg [d0, d1, d2, d3]])).set (H.length + 1) (.row g3 1 [tt]))[H.length]? = some (.row g2 4 [.agg [d0, d1, d2, d3]]) := by rw [List.getElem?_set_ne (by omega), List.getElem?_set_self (by omega)]
        have k3 : ((Hz.set H.length (.row g2 4 [.agg [d0, d1, d2, d3]])).set (H.length + 1) (.row g3 1 [tt]))[H.length + 1]? = some (.row g3 1 [tt]) := by rw [List.getElem?_set_self (by simp; omega)]
        refine leave false .returning c6 w6 _ env4 a4 ((y1.trans z1).trans z1') z2' ((hE4.mono z1).mono z1') j2 j3 hd4 (fun h => by cases h) (.inl ⟨rfl, rfl⟩) (fun _ => ?_) (fun h => by cases h)
        simp [↓go, k2, k3, t0.1, t0.2.1, t0.2.2, t1.1, t1.2.1, t1.2.2, t2.1, t2.2.1, t2.2.2, t3.1, t3.2.1, t3.2.2]
        obtain ⟨H', l, e, hlen', hupd⟩ := fin_split (kr := kr) (n0 := H.length) (H0 := H) (Hf := (Hz.set H.length (.row g2 4 [.agg [d0, d1, d2, d3]])).set (H.length + 1) (.row g3 1 [tt])) (ro := rdR gr bs a') rfl (fun r hr hne => by rw [List.getElem?_set_ne (by omega), List.getElem?_set_ne (by omega)]; exact hpre r hr hne) (by rw [List.getElem?_set_ne (by omega), List.getElem?_set_ne (by omega)]; exact hrd) hk (by simp; omega)
        have o1 := oy.frame (h' := (Hz.set H.length (.row g2 4 [.agg [d0, d1, d2, d3]])).set (H.length + 1) (.row g3 1 [tt])) (fun r hr => by have := hrs' r hr; rw [List.getElem?_set_ne (by omega), List.getElem?_set_ne (by omega)])
        rw [e] at o1 ⊢
        exact wk_of (Wk.madeS o1 (fun r hr => by have := hrs' r hr; omega) (fun l' hm => q1 p a' H' _ l' hupd ha' hg hm))
end Go.Proofs.YtkfpoagnchahkaaGreat.A
