/- Of this session: over the abstract machine. -/
import Derived.Test.YtkfpoagnchahkaaGreatDoorProg
import Derived.Test.YtkfpoagnchahkaaGreatDoorA
import Derived.Test.YtkfpoagnchahkaaGreatDoorB
import Derived.Test.YtkfpoagnchahkaaGreatDoorD
import Derived.Test.YtkfpoagnchahkaaGreatDoorT
import Derived.Test.YtkfpoagnchahkaaGreatDoorP1
import Derived.Test.YtkfpoagnchahkaaGreatDoorP2
import Derived.Test.YtkfpoagnchahkaaGreatDoorP3
import Derived.Test.YtkfpoagnchahkaaGreatDoorP4
import Derived.Test.YtkfpoagnchahkaaGreatDoorP5
import Derived.Test.YtkfpoagnchahkaaGreatDoorO
import Derived.Test.YtkfpoagnchahkaaGreatDoorAS
namespace Go.Proofs.YtkfpoagnchahkaaGreatDoor.A
open Go Go.RowKit
set_option linter.unusedVariables false
set_option linter.unusedSimpArgs false
set_option maxRecDepth 100000
set_option maxHeartbeats 1000000
theorem RH.grown {c : Ctx} {h : AHeap} {w w1 : World} (hH : RH c h w) (hos : w1.os = w.os) (htp : w1.tape = w.tape) (hou : w1.output = w.output) (hsz : w.heap.size ≤ w1.heap.size) (hoth : ∀ k, k < w.heap.size → w1.heap[k]? = w.heap[k]?) :
    Ext c w c w1 ∧ RH c h w1 := by
  have hE : Ext c w c w1 := ⟨rfl, rfl, fun _ h => h, Nat.le_refl _, fun _ _ _ h => ⟨h, rfl, rfl, rfl⟩, fun k hk => hoth k (hH.Fs k hk)⟩
  refine ⟨hE, ⟨hH.laid, hH.below.trans ⟨hos, htp, hou, hsz, fun k hk => hoth k (Nat.lt_of_lt_of_le hk hH.base)⟩, Nat.le_trans hH.base hsz, hH.Fb, fun b hb => Nat.lt_of_lt_of_le (hH.Fs b hb) hsz, hH.live, fun r g s xs hr => ?_, hH.inj⟩⟩
  obtain ⟨k1, k2, k3, k4⟩ := hH.row r g s xs hr
  have hb := hoth (c.blk r) k4.lt
  have hcell : ∀ o, w1.cell? ⟨c.blk r, o, none⟩ = w.cell? ⟨c.blk r, o, none⟩ := fun o => World.cell?_of_block (a := ⟨c.blk r, o, none⟩) hb
  refine ⟨k1, k2, k3, Nat.lt_of_lt_of_le k4.lt hsz, fun o ho => ?_, k4.fit, k4.len, fun i x j a h1 h2 => ?_⟩
  · rw [hcell, fzF_of_block (a := ⟨c.blk r, o, none⟩) hb]; exact k4.there o ho
  · obtain ⟨v, q1, q2⟩ := k4.val i x j a h1 h2
    exact ⟨v, by rw [hcell]; exact q1, q2.mono hE⟩
theorem fn_errors_As : fnT Tryz.prog 22 = true := by kernel_rfl
theorem S_as_nil {x : AVal} {h : AHeap} {Q : KA} (q : Q ff h) : @clM Tryz.prog 22 [noErr, x] h ⟨Q⟩ := by
  refine cl_of fn_errors_As (fun c w vs hH hv => ?_)
  obtain ⟨hl, hr⟩ := hv
  have h0 := hr 0 noErr rfl
  obtain ⟨v0, v1, rfl⟩ : ∃ v0 v1, vs = #[v0, v1] := by
    obtain ⟨l⟩ := vs
    match l, hl with
    | [v0, v1], _ => exact ⟨v0, v1, rfl⟩
  change RV c w noErr v0 at h0
  cases h0
  refine (as_nil v1 w).mono ?_
  rintro e w' ⟨rfl, rfl⟩
  exact ⟨_, c, ff, h, rfl, Ext.refl _ _, hH, .v _, q⟩
theorem S_as_hit {n k : Int} {r g : Nat} {h : AHeap} {Q : KA} (hr : h[r]? = some (.row g 1 [.agg [i64 k]])) (q : Q tt (h.set r (.row g 1 [.agg [i64 n]]))) : @clM Tryz.prog 22 [errV n, .ifc 62 (.pt r g 0 0)] h ⟨Q⟩ := by
  refine cl_of fn_errors_As (fun c w vs hH hv => ?_)
  obtain ⟨hl, hrv⟩ := hv
  have h0 := hrv 0 (errV n) rfl
  have h1 := hrv 1 (.ifc 62 (.pt r g 0 0)) rfl
  obtain ⟨v0, v1, rfl⟩ : ∃ v0 v1, vs = #[v0, v1] := by
    obtain ⟨l⟩ := vs
    match l, hl with
    | [v0, v1], _ => exact ⟨v0, v1, rfl⟩
  change RV c w (errV n) v0 at h0
  change RV c w (.ifc 62 (.pt r g 0 0)) v1 at h1
  cases h0 with
  | ifc _ _ u0 h0 =>
  cases h1 with
  | ifc _ _ u1 h1 =>
  cases h0 with
  | agg _ us hul hu =>
  have hu0 := hu 0 (i64 n) rfl
  obtain ⟨u, rfl⟩ : ∃ u, us = #[u] := by
    obtain ⟨l⟩ := us
    match l, hul with
    | [u], _ => exact ⟨u, rfl⟩
  change RV c w (i64 n) u at hu0
  cases hu0
  obtain ⟨k1, k2, k3, k4⟩ := hH.row r g 1 _ hr
  cases h1 with
  | pt _ _ _ _ a hg ha =>
  obtain rfl := ha k1
  rw [k2]
  obtain ⟨old, ho, _⟩ := k4.val 0 (.agg [i64 k]) 0 (i64 k) rfl rfl
  have hcap : 0 < c.cap r := by have := k4.fit; simp at this; omega
  have hfz := (k4.there 0 hcap).2.un
  have hlaid := hH.laid
  have hg0 : w.cell? ⟨0, 0, none⟩ = some (.iface 115 (.agg #[.pointer (some ⟨1, 60, none⟩)])) := by
    rw [World.cell?_of_block (a := ⟨0, 0, none⟩) (hH.below.block 0 hlaid.1)]; exact hlaid.2
  refine (as_hit n ⟨c.blk r, 0, none⟩ old w hg0 ho hfz).mono ?_
  rintro e w' ⟨rfl, rfl⟩
  generalize hw1 : (((w.alloc _).alloc _).alloc _).alloc _ = w1
  have hgrow : Ext c w c w1 ∧ RH c h w1 := by
    subst hw1
    refine hH.grown rfl rfl rfl (by simp; omega) (fun j hj => ?_)
    rw [Below.heap_alloc _ _ j (by simp; omega), Below.heap_alloc _ _ j (by simp; omega), Below.heap_alloc _ _ j (by simp; omega), Below.heap_alloc _ _ j hj]
  obtain ⟨E1, R1⟩ := hgrow
  have hE2 : Ext c w1 c (w1.setCells (c.blk r) 0 [.int .i64 n]) ∧ RH c (h.set r (.row g 1 [.agg [i64 n]])) (w1.setCells (c.blk r) 0 [.int .i64 n]) := by
    obtain ⟨j1, j2, j3, j4⟩ := R1.row r g 1 _ hr
    obtain ⟨e1, e2⟩ := tape_setCells (c.blk r) [.int .i64 n] 0 w1
    refine row_set (xs := [.agg [i64 n]]) R1 hr (by rw [List.getElem?_set_self (List.getElem?_eq_some_iff.1 hr).1]) (fun k hk => List.getElem?_set_ne (Ne.symm hk)) (World.os_setCells _ _ _ _) e1 (World.output_setCells _ _ _ _) e2.symm
      (fun k hk hne => World.heap_setCells_other _ _ _ _ hk hne) (fun o ho => ⟨World.isSome_setCells _ _ _ _ _ (j4.there o ho).1, by rw [fzF_setCells]; exact (j4.there o ho).2⟩) j4.fit (fun i x hx => ?_) (fun i x j a hx ha => ?_)
    · cases i with
      | zero => cases hx; rfl
      | succ i => simp at hx
    · cases i with
      | succ i => simp at hx
      | zero =>
        cases hx
        cases j with
        | succ j => simp at ha
        | zero =>
          cases ha
          have hin := World.cell?_setCells_in (c.blk r) [.int .i64 n] 0 w1 (fun j hj => by
            obtain rfl : j = 0 := by simpa using hj
            exact (j4.there 0 hcap).1) 0 (by simp)
          exact ⟨_, hin, .v _⟩
  exact ⟨_, c, tt, _, rfl, E1.trans hE2.1, hE2.2, .v _, q⟩
theorem S_implProgramFault {p : MProgram} {h : AHeap} {Q : KA} (hs : szProgram p ≤ 1048576) (q : Q (i64 (progFault p)) h) : @clM Tryz.prog 7 [encProgram p] h ⟨Q⟩ := by
  refine cl_wk ?_
  refine cl_of fn_impl_ProgramFault (D_impl_ProgramFault_of ?_)
  unfold D_impl_ProgramFault
  simp [↓go]
  intro g
  refine S_fault hs ?_
  unfold faultV
  by_cases h0 : progFault p = 0
  · rw [if_pos h0]
    rw [h0] at q
    simp [↓go]
    refine S_as_nil ?_
    simp [↓go]
    exact retW_ex (Wk.drop (Wk.refl q))
  · rw [if_neg h0]
    simp [↓go]
    refine S_as_hit (k := 0) (by simp) ?_
    simp [↓go]
    exact retW_ex (Wk.drop (Wk.refl q))
theorem S_law_FnExactProgramFault {p : MProgram} {h : AHeap} {Q : KA} (op : okProgram p) (q : Q tt h) : @clM Tryz.prog 3 [encProgram p] h ⟨Q⟩ := by
  refine cl_wk ?_
  refine cl_of fn_laws_FnExactProgramFault (D_laws_FnExactProgramFault_of ?_)
  unfold D_laws_FnExactProgramFault
  simp [↓go]
  refine S_szProgram (by omega) op ?_ (fun hp => ?_)
  · simp [↓go]
    exact retW_ex (Wk.refl q)
  have hp : szProgram p ≤ 1048576 := by omega
  simp [↓go]
  refine ⟨fun h1 => by omega, fun _ => ?_⟩
  refine S_toProgram hp (S_specProgramFault hp ?_)
  simp [↓go]
  refine S_toProgram hp ?_
  simp [↓go]
  intro g
  refine S_implProgramFault hp ?_
  simp [↓go]
  refine jn_cut (fun s h' => h' = h ++ [.row g 4 [encProgram p]] ∧ s = [ff]) ?_ ?_
  · simp [↓go]
    refine ⟨S_toProgram hp (S_eqProgram hp ?_), S_toProgram hp ?_⟩
    · simp [↓go]
      exact wk_ex ⟨rfl, rfl⟩
    · simp [↓go]
      refine S_eqProgram hp ?_
      simp [↓go]
      exact wk_ex ⟨rfl, rfl⟩
  rintro _ _ ⟨rfl, rfl⟩
  simp [↓go]
  exact retW_ex (Wk.drop (Wk.refl q))
end Go.Proofs.YtkfpoagnchahkaaGreatDoor.A
