/- Of this session: over the abstract machine. -/
import Derived.Test.YtlnlbncinjiinaaProg
import Derived.Test.YtlnlbncinjiinaaA
import Derived.Test.YtlnlbncinjiinaaB
import Derived.Test.YtlnlbncinjiinaaDS
namespace Go.Proofs.Ytlnlbncinjiinaa.A
open Go Go.RowKit
set_option linter.unusedVariables false
set_option linter.unusedSimpArgs false
set_option maxRecDepth 100000
set_option maxHeartbeats 1000000
inductive MStmt where
  | mk (kind a b : Int) (body els : List MStmt)
def MStmt.kind : MStmt → Int | .mk k _ _ _ _ => k
def MStmt.a : MStmt → Int | .mk _ a _ _ _ => a
def MStmt.b : MStmt → Int | .mk _ _ b _ _ => b
def MStmt.body : MStmt → List MStmt | .mk _ _ _ l _ => l
def MStmt.els : MStmt → List MStmt | .mk _ _ _ _ l => l
mutual
def encStmt : MStmt → AVal | .mk k a b l m => .agg [i64 k, i64 a, i64 b, .sl (encStmts l), .sl (encStmts m)]
def encStmts : List MStmt → List AVal | [] => [] | x :: l => encStmt x :: encStmts l
end
mutual
def cnt : MStmt → Nat | .mk _ _ _ l m => cntS l + cntS m + 1
def cntS : List MStmt → Nat | [] => 0 | x :: l => cnt x + cntS l
end
mutual
def okStmt : MStmt → Prop | .mk _ _ _ l m => (l.length ≤ maxLen ∧ okStmts l) ∧ (m.length ≤ maxLen ∧ okStmts m)
def okStmts : List MStmt → Prop | [] => True | x :: l => okStmt x ∧ okStmts l
end
theorem encStmts_map : ∀ l, encStmts l = l.map encStmt
  | [] => by rw [encStmts]; rfl
  | x :: l => by rw [encStmts, encStmts_map l]; rfl
theorem encStmt_eq (x : MStmt) : encStmt x = .agg [i64 x.kind, i64 x.a, i64 x.b, .sl (x.body.map encStmt), .sl (x.els.map encStmt)] := by
  cases x; rw [encStmt, encStmts_map, encStmts_map]; rfl
theorem cnt_eq (x : MStmt) : cnt x = cntS x.body + cntS x.els + 1 := by cases x; rw [cnt]; rfl
theorem cntS_app : ∀ l m, cntS (l ++ m) = cntS l + cntS m
  | [], m => by simp [cntS]
  | x :: l, m => by rw [List.cons_append, cntS, cntS, cntS_app l m]; omega
theorem cntS_take {l : List MStmt} {i : Nat} {x : MStmt} (h : l[i]? = some x) : cntS (l.take (i + 1)) = cntS (l.take i) + cnt x := by
  rw [List.take_add_one, h, cntS_app]; simp [cntS]
theorem cntS_mem {l : List MStmt} {i : Nat} {x : MStmt} (h : l[i]? = some x) : cntS (l.take i) + cnt x ≤ cntS l := by
  rw [← cntS_take h]
  conv => rhs; rw [← List.take_append_drop (i + 1) l, cntS_app]
  omega
theorem cntS_len : ∀ l, l.length ≤ cntS l
  | [] => by simp [cntS]
  | x :: l => by have := cntS_len l; have := cnt_eq x; rw [cntS, List.length_cons]; omega
theorem okStmt_eq (x : MStmt) : okStmt x = ((x.body.length ≤ maxLen ∧ okStmts x.body) ∧ (x.els.length ≤ maxLen ∧ okStmts x.els)) := by cases x; rw [okStmt]; rfl
theorem okStmts_get : ∀ {l : List MStmt} {i : Nat} {x : MStmt}, okStmts l → l[i]? = some x → okStmt x
  | [], i, x, _, h => by simp at h
  | y :: l, 0, x, ho, h => by rw [okStmts] at ho; cases h; exact ho.1
  | y :: l, i + 1, x, ho, h => by rw [okStmts] at ho; exact okStmts_get (i := i) ho.2 (by simpa using h)
theorem okStmts_of : ∀ {l : List MStmt}, (∀ x ∈ l, okStmt x) → okStmts l
  | [], _ => by rw [okStmts]; trivial
  | y :: l, h => by rw [okStmts]; exact ⟨h y (by simp), okStmts_of (fun x hx => h x (by simp [hx]))⟩
@[simp] theorem encStmt_flat (x : MStmt) : (encStmt x).flat = [i64 x.kind, i64 x.a, i64 x.b, .sl (x.body.map encStmt), .sl (x.els.map encStmt)] := by rw [encStmt_eq]; rfl
@[simp] theorem encStmt_agg (x : MStmt) : (encStmt x).isAgg = true := by rw [encStmt_eq]; rfl
theorem S_szStmtS : ∀ (N : Nat) {xs : List MStmt} {n : Int} {h : AHeap} {Q : KA}, cntS xs ≤ N → xs.length ≤ maxLen → okStmts xs → 0 ≤ n ∧ n ≤ 1048576 → Q (i64 (-1)) h → ((cntS xs : Int) ≤ n → Q (i64 (n - cntS xs)) h) → @clM Try.prog 14 [.sl (xs.map encStmt), i64 n] h ⟨Q⟩ := by
  intro N
  induction N using Nat.strongRecOn with
  | _ N ih =>
  intro xs n h Q hN hl ho hn q1 q2
  refine cl_of fn_laws_szStmtS (D_laws_szStmtS_of ?_)
  unfold D_laws_szStmtS
  unfold maxLen at hl
  have hcl := cntS_len xs
  simp [↓go]
  rw [w64 (by omega) (by omega)]
  refine ⟨fun h1 => retW_ex q1, fun h1 => ?_⟩
  refine lp_inv (fun s h' => h = h' ∧ ∃ i : Nat, i ≤ xs.length ∧ ((cntS (xs.take i) : Int) - i + xs.length ≤ n) ∧ s = [i64 (n - xs.length - (cntS (xs.take i) - i)), i64 i, .sl (xs.map encStmt)]) (fun s _ => xs.length - natA (nthA s 1)) (Wk.refl ⟨rfl, 0, by omega, by simp [cntS]; omega, by simp [cntS]⟩) ?_
  rintro _ _ ⟨rfl, i, hi, hs, rfl⟩
  simp [↓go]
  refine ⟨fun hlt => ?_, fun hge => ?_⟩
  · obtain ⟨x, hx⟩ : ∃ x, xs[i]? = some x := ⟨_, List.getElem?_eq_getElem hlt⟩
    have hcm := cntS_mem hx
    have hct := cntS_take hx
    have hce := cnt_eq x
    have hox := okStmts_get ho hx
    rw [okStmt_eq] at hox
    have hci := cntS_len (xs.take i)
    rw [List.length_take, Nat.min_eq_left hi] at hci
    obtain ⟨_, hxl⟩ := List.getElem?_eq_some_iff.1 hx
    simp [↓go, hx, hlt, hxl]
    refine cl_of fn_laws_szStmt (D_laws_szStmt_of ?_)
    unfold D_laws_szStmt
    rw [encStmt_eq]
    simp [↓go]
    intro g1
    refine ih (cntS x.body) (by omega) (Nat.le_refl _) hox.1.1 hox.1.2 (by omega) ?_ (fun hb => ?_)
    · simp [↓go]
      refine wk_of (Wk.drop (Wk.refl ?_))
      simp [↓go]
      exact retW_ex q1
    simp [↓go]
    refine ⟨fun hneg => by omega, fun _ => ?_⟩
    refine ih (cntS x.els) (by omega) (Nat.le_refl _) hox.2.1 hox.2.2 (by omega) ?_ (fun he => ?_)
    · simp [↓go]
      refine wk_of (Wk.drop (Wk.refl ?_))
      simp [↓go]
      exact retW_ex q1
    simp [↓go]
    refine ⟨fun hneg => by omega, fun _ => ?_⟩
    refine wk_of (Wk.drop (Wk.refl ?_))
    simp [↓go]
    refine ⟨fun hneg => by omega, fun _ => ?_⟩
    rw [w64 (by omega) (by omega)]
    refine wk_ex ?_
    refine And.intro ⟨rfl, i + 1, by omega, by omega, ?_⟩ ?_
    · rw [hct, hce]
      simp
      omega
    · simp; omega
  · obtain rfl : i = xs.length := by omega
    rw [List.take_of_length_le (Nat.le_refl _)] at hs ⊢
    have := q2 (by omega)
    rw [show n - (xs.length : Int) - ((cntS xs : Int) - xs.length) = n - cntS xs by omega]
    exact retW_ex this
@[simp] theorem frz_encStmt (r g : Nat) (xs : List AVal) (x : MStmt) : frz r g xs (encStmt x) = encStmt x := by rw [encStmt_eq]; simp [frz, frz.frzs]
theorem S_toStmtS : ∀ (N : Nat) {xs : List MStmt} {h : AHeap} {Q : KA}, cntS xs ≤ N → cntS xs ≤ 1048576 → Q (.sl (xs.map encStmt)) h → @clM Try.prog 16 [.sl (xs.map encStmt)] h ⟨Q⟩ := by
  intro N
  induction N using Nat.strongRecOn with
  | _ N ih =>
  intro xs h Q hN hn q
  refine cl_of fn_laws_toStmtS (D_laws_toStmtS_of ?_)
  unfold D_laws_toStmtS
  have hcl := cntS_len xs
  simp [↓go]
  refine ⟨by omega, by omega, fun g1 => ?_⟩
  refine lp_inv (fun s h' => ∃ i : Nat, i ≤ xs.length ∧ h' = h ++ [.row g1 5 ((xs.map encStmt).take i ++ List.replicate (xs.length - i) (.agg [i64 0, i64 0, i64 0, nilS, nilS]))] ∧ s = [.rf h.length g1 0 xs.length, i64 i, .sl (xs.map encStmt)]) (fun s _ => xs.length - natA (nthA s 1)) (Wk.refl ⟨0, by omega, by simp, by simp⟩) ?_
  rintro _ _ ⟨i, hi, rfl, rfl⟩
  simp [↓go]
  refine ⟨fun hlt => ?_, fun hge => ?_⟩
  · obtain ⟨x, hx⟩ : ∃ x, xs[i]? = some x := ⟨_, List.getElem?_eq_getElem hlt⟩
    have hcm := cntS_mem hx
    have hce := cnt_eq x
    obtain ⟨_, hxl⟩ := List.getElem?_eq_some_iff.1 hx
    have hms := fill_set encStmt xs hx (.agg [i64 0, i64 0, i64 0, nilS, nilS])
    have hml := fill_len encStmt xs hi (.agg [i64 0, i64 0, i64 0, nilS, nilS])
    have hma := fill_at encStmt xs hlt (.agg [i64 0, i64 0, i64 0, nilS, nilS])
    generalize (xs.map encStmt).take i ++ List.replicate (xs.length - i) (AVal.agg [i64 0, i64 0, i64 0, nilS, nilS]) = row at hms hml hma ⊢
    simp [↓go, hx, hlt, hxl]
    refine cl_of fn_laws_toStmt (D_laws_toStmt_of ?_)
    unfold D_laws_toStmt
    rw [encStmt_eq]
    simp [↓go]
    intro g2 g3 g4
    refine ih (cntS x.body) (by omega) (Nat.le_refl _) (by omega) ?_
    simp [↓go]
    refine ih (cntS x.els) (by omega) (Nat.le_refl _) (by omega) ?_
    simp [↓go]
    rw [encStmt_eq] at hms
    refine wk_pre (l := [_]) (m := [_, _, _]) ?_
    simp [↓go, hml, hma]
    rw [w64 (by omega) (by omega)]
    refine ⟨by omega, wk_ex ?_⟩
    refine And.intro ⟨i + 1, by omega, by simp [hms], rfl⟩ ?_
    simp; omega
  · obtain rfl : i = xs.length := by omega
    simp
    refine wk_of (Wk.fzL (p := 0) rfl (l' := []) trivial (Wk.refl ?_))
    simpa [frz, Function.comp_def, List.take_of_length_le] using q
theorem S_eqStmtS : ∀ (N : Nat) {xs : List MStmt} {h : AHeap} {Q : KA}, cntS xs ≤ N → cntS xs ≤ 1048576 → Q tt h → @clM Try.prog 18 [.sl (xs.map encStmt), .sl (xs.map encStmt)] h ⟨Q⟩ := by
  intro N
  induction N using Nat.strongRecOn with
  | _ N ih =>
  intro xs h Q hN hn q
  refine cl_of fn_laws_eqStmtS (D_laws_eqStmtS_of ?_)
  unfold D_laws_eqStmtS
  have hcl := cntS_len xs
  simp [↓go]
  refine lp_inv (fun s h' => h = h' ∧ ∃ i : Nat, i ≤ xs.length ∧ s = [i64 i, .sl (xs.map encStmt), .sl (xs.map encStmt)]) (fun s _ => xs.length - natA (nthA s 0)) (Wk.refl ⟨rfl, 0, by omega, rfl⟩) ?_
  rintro _ _ ⟨rfl, i, hi, rfl⟩
  simp [↓go]
  refine ⟨fun hlt => ?_, fun hge => retW_ex q⟩
  obtain ⟨x, hx⟩ : ∃ x, xs[i]? = some x := ⟨_, List.getElem?_eq_getElem hlt⟩
  have hcm := cntS_mem hx
  have hce := cnt_eq x
  obtain ⟨_, hxl⟩ := List.getElem?_eq_some_iff.1 hx
  simp [↓go, hx, hlt, hxl]
  refine cl_of fn_laws_eqStmt (D_laws_eqStmt_of ?_)
  unfold D_laws_eqStmt
  rw [encStmt_eq]
  simp [↓go]
  intro g1 g2
  refine ih (cntS x.body) (by omega) (Nat.le_refl _) (by omega) ?_
  simp [↓go]
  refine ih (cntS x.els) (by omega) (Nat.le_refl _) (by omega) ?_
  simp [↓go]
  refine wk_pre (l := []) (m := [_, _]) ?_
  simp [↓go]
  rw [w64 (by omega) (by omega)]
  refine wk_ex ?_
  refine And.intro ⟨rfl, i + 1, by omega, rfl⟩ ?_
  simp; omega
def fitsS (x : MStmt) : Bool :=
  if x.kind = 1 then decide (0 ≤ x.a ∧ x.a < 8 ∧ 0 ≤ x.b ∧ x.b < 8 ∧ x.body.length = 0 ∧ x.els.length = 0)
  else if x.kind = 2 then decide (0 ≤ x.a ∧ x.a < 8 ∧ 0 ≤ x.b ∧ x.b < 8)
  else if x.kind = 3 then decide (x.a = 0 ∧ 0 ≤ x.b ∧ x.b < 256 ∧ x.els.length = 0)
  else if x.kind = 4 then decide (0 ≤ x.a ∧ x.a < 8 ∧ x.b = 0 ∧ x.body.length = 0 ∧ x.els.length = 0)
  else false
mutual
def fitsAll : MStmt → Bool | .mk k a b l m => fitsS (.mk k a b l m) && fitsAllS l && fitsAllS m
def fitsAllS : List MStmt → Bool | [] => true | x :: l => fitsAll x && fitsAllS l
end
theorem fitsAll_eq (x : MStmt) : fitsAll x = (fitsS x && fitsAllS x.body && fitsAllS x.els) := by cases x; rw [fitsAll]; rfl
theorem fitsAllS_app : ∀ l m, fitsAllS (l ++ m) = (fitsAllS l && fitsAllS m)
  | [], m => by simp [fitsAllS]
  | x :: l, m => by rw [List.cons_append, fitsAllS, fitsAllS, fitsAllS_app l m, Bool.and_assoc]
theorem fitsAllS_take {l : List MStmt} {i : Nat} {x : MStmt} (h : l[i]? = some x) : fitsAllS (l.take (i + 1)) = (fitsAllS (l.take i) && fitsAll x) := by
  rw [List.take_add_one, h, fitsAllS_app]; simp [fitsAllS]
theorem fitsAllS_false {l : List MStmt} {i : Nat} {x : MStmt} (h : l[i]? = some x) (hx : fitsAll x = false) : fitsAllS l = false := by
  conv => lhs; rw [← List.take_append_drop (i + 1) l, fitsAllS_app, fitsAllS_take h, hx]
  simp
theorem S_l10Walk : ∀ (N : Nat) {xs : List MStmt} {h : AHeap} {r g : Nat} {n : Int} {Q : KA}, cntS xs ≤ N → cntS xs ≤ 1048576 → -4611686018427387904 + cntS xs ≤ n → n ≤ 4611686018427387904 → h[r]? = some (.row g 1 [i64 n]) →
    (∀ b m, b = fitsAllS xs → (b = true → m = n - cntS xs) → Q (bl b) (h.set r (.row g 1 [i64 m]))) → @clM Try.prog 35 [.sl (xs.map encStmt), .pt r g 0 0] h ⟨Q⟩ := by
  intro N
  induction N using Nat.strongRecOn with
  | _ N ih =>
  intro xs h r g n Q hN hs hn1 hn2 hr q
  obtain ⟨hrl, _⟩ := List.getElem?_eq_some_iff.1 hr
  refine cl_of fn_spec_l10Walk (D_spec_l10Walk_of ?_)
  unfold D_spec_l10Walk
  have hcl := cntS_len xs
  refine lp_inv (fun s h' => ∃ i : Nat, i ≤ xs.length ∧ fitsAllS (xs.take i) = true ∧ h' = h.set r (.row g 1 [i64 (n - cntS (xs.take i))]) ∧ s = [i64 i, .pt r g 0 0, .sl (xs.map encStmt)]) (fun s _ => xs.length - natA (nthA s 0)) (Wk.refl ⟨0, by omega, by simp [fitsAllS], by simp [cntS, set_same hr], rfl⟩) ?_
  rintro _ _ ⟨i, hi, hf, rfl, rfl⟩
  have eh := rowFacts hrl
  simp [↓go]
  refine ⟨fun hlt => ?_, fun hge => ?_⟩
  · obtain ⟨x, hx⟩ : ∃ x, xs[i]? = some x := ⟨_, List.getElem?_eq_getElem hlt⟩
    have hcm := cntS_mem hx
    have hce := cnt_eq x
    have hct := cntS_take hx
    have hft := fitsAllS_take hx
    have hff := @fitsAllS_false _ _ _ hx
    obtain ⟨_, hxl⟩ := List.getElem?_eq_some_iff.1 hx
    simp [↓go, hx, hlt, hxl, eh]
    intro g2
    have hw := @w64 (n - (cntS (xs.take i) : Int) - 1) (by omega) (by omega)
    refine jn_cut (fun s h' => h' = h.set r (.row g 1 [i64 (n - cntS (xs.take i) - 1)]) ++ [.row g2 5 [encStmt x]] ∧ s = [.pt r g 0 0, .sl (xs.map encStmt), i64 i, .pt h.length g2 0 0, bl (fitsS x)]) ?_ ?_
    · rw [encStmt_eq]
      simp [↓go, eh, hw, -List.length_eq_zero_iff]
      unfold fitsS
      repeat' (first | apply And.intro | intro _)
      all_goals (refine wk_ex ?_; refine ⟨rfl, ?_⟩; simp [*, -List.length_eq_zero_iff])
      all_goals (first | (intros; omega) | fail)
    rintro _ _ ⟨rfl, rfl⟩
    refine jn_cut (fun s h' => ∃ b m, h' = h.set r (.row g 1 [i64 m]) ∧ s = [.pt r g 0 0, .sl (xs.map encStmt), i64 i, bl b] ∧ b = !fitsAll x ∧ (b = false → m = n - cntS (xs.take i) - cnt x)) ?_ ?_
    · rw [encStmt_eq, fitsAll_eq]
      simp [↓go, eh]
      refine ⟨fun hfx => ?_, fun hfx => ?_⟩
      · refine wk_of (Wk.drop (Wk.refl ?_))
        exact ⟨true, _, rfl, rfl, by simp [hfx], by simp⟩
      · refine ih (cntS x.body) (by omega) (Nat.le_refl _) (by omega) (by omega) (by omega) (eh.1 _ _) (fun b m hb hm => ?_)
        simp [↓go, eh]
        refine ⟨fun hbf => ?_, fun hbt => ?_⟩
        · refine wk_of (Wk.drop (Wk.refl ?_))
          exact ⟨true, _, rfl, rfl, by simp [← hb, hbf], by simp⟩
        · have hm := hm hbt
          refine ih (cntS x.els) (by omega) (Nat.le_refl _) (by omega) (by omega) (by omega) (eh.1 _ _) (fun b2 m2 hb2 hm2 => ?_)
          simp [↓go, eh]
          refine wk_of (Wk.drop (Wk.refl ?_))
          refine ⟨!b2, _, rfl, rfl, by simp [hfx, ← hb, hbt, ← hb2], fun hbb => ?_⟩
          have := hm2 (by simpa using hbb)
          omega
    · rintro _ _ ⟨b, m, rfl, rfl, hb, hm⟩
      simp [↓go]
      refine ⟨fun hbt => retW_ex (q false m ?_ (by simp)), fun hbf => ?_⟩
      · rw [hff (by simpa [hbt] using hb)]
      have hm := hm hbf
      have hfx : fitsAll x = true := by simpa [hbf] using hb
      rw [w64 (by omega) (by omega)]
      refine wk_ex ?_
      refine And.intro ⟨i + 1, by omega, by rw [hft, hf, hfx]; rfl, by rw [hct, hm, show (n - (cntS (xs.take i) : Int) - cnt x) = n - ((cntS (xs.take i) + cnt x : Nat) : Int) by omega], rfl⟩ ?_
      simp; omega
  · obtain rfl : i = xs.length := by omega
    rw [List.take_of_length_le (Nat.le_refl _)] at hf ⊢
    exact retW_ex (q true _ hf.symm (fun _ => rfl))
mutual
def lev : MStmt → Nat | .mk k _ _ l m => max (levS l + if k = 3 then 1 else 0) (levS m)
def levS : List MStmt → Nat | [] => 0 | x :: l => max (lev x) (levS l)
end
theorem lev_eq (x : MStmt) : lev x = max (levS x.body + if x.kind = 3 then 1 else 0) (levS x.els) := by cases x; rw [lev]; rfl
theorem levS_app : ∀ l m, levS (l ++ m) = max (levS l) (levS m)
  | [], m => by simp [levS]
  | x :: l, m => by rw [List.cons_append, levS, levS, levS_app l m]; omega
theorem levS_take {l : List MStmt} {i : Nat} {x : MStmt} (h : l[i]? = some x) : levS (l.take (i + 1)) = max (levS (l.take i)) (lev x) := by
  rw [List.take_add_one, h, levS_app]; simp [levS]
mutual
theorem lev_le : ∀ x, lev x ≤ cnt x
  | .mk k a b l m => by rw [lev, cnt]; have := levS_le l; have := levS_le m; split <;> omega
theorem levS_le : ∀ l, levS l ≤ cntS l
  | [] => by simp [levS]
  | x :: l => by rw [levS, cntS]; have := lev_le x; have := levS_le l; omega
end
theorem S_l10Levels : ∀ (N : Nat) {xs : List MStmt} {h : AHeap} {Q : KA}, cntS xs ≤ N → cntS xs ≤ 1048576 → Q (i64 (levS xs)) h → @clM Try.prog 36 [.sl (xs.map encStmt)] h ⟨Q⟩ := by
  intro N
  induction N using Nat.strongRecOn with
  | _ N ih =>
  intro xs h Q hN hs q
  refine cl_of fn_spec_l10Levels (D_spec_l10Levels_of ?_)
  unfold D_spec_l10Levels
  have hcl := cntS_len xs
  refine lp_inv (fun s h' => h = h' ∧ ∃ i : Nat, i ≤ xs.length ∧ s = [i64 (levS (xs.take i)), i64 i, .sl (xs.map encStmt)]) (fun s _ => xs.length - natA (nthA s 1)) (Wk.refl ⟨rfl, 0, by omega, by simp [levS]⟩) ?_
  rintro _ _ ⟨rfl, i, hi, rfl⟩
  simp [↓go]
  refine ⟨fun hlt => ?_, fun hge => ?_⟩
  · obtain ⟨x, hx⟩ : ∃ x, xs[i]? = some x := ⟨_, List.getElem?_eq_getElem hlt⟩
    have hcm := cntS_mem hx
    have hce := cnt_eq x
    have hle := lev_eq x
    have hlv := levS_take hx
    have hl2 := levS_le (xs.take i)
    have hl3 := levS_le x.els
    have hl1 := levS_le x.body
    obtain ⟨_, hxl⟩ := List.getElem?_eq_some_iff.1 hx
    refine jn_cut (fun s h' => h = h' ∧ s = [i64 (levS (xs.take (i + 1))), .sl (xs.map encStmt), i64 i]) ?_ ?_
    · simp [↓go, hx, hlt, hxl]
      refine ih (cntS x.body) (by omega) (Nat.le_refl _) (by omega) ?_
      refine jn_cut (fun s h' => h = h' ∧ s = [i64 (levS (xs.take i)), .sl (xs.map encStmt), i64 i, i64 (levS x.body + if x.kind = 3 then 1 else 0 : Nat)]) ?_ ?_
      · simp [↓go, hx, hlt, hxl]
        refine ⟨fun hk => ?_, fun hk => ?_⟩
        · rw [w64 (by omega) (by omega)]
          refine wk_ex ?_; simp [hk]
        · refine wk_ex ?_; simp [hk]
      · rintro _ _ ⟨rfl, rfl⟩
        generalize (levS x.body + if x.kind = 3 then 1 else 0) = n at hle
        refine jn_cut (fun s h' => h = h' ∧ s = [i64 (levS (xs.take i)), .sl (xs.map encStmt), i64 i, i64 (lev x)]) ?_ ?_
        · simp [↓go, hx, hlt, hxl]
          refine ih (cntS x.els) (by omega) (Nat.le_refl _) (by omega) ?_
          simp [↓go]
          refine ⟨fun hk => ?_, fun hk => ?_⟩
          · refine wk_ex ?_; simp [hle]; omega
          · refine wk_ex ?_; simp [hle]; omega
        · rintro _ _ ⟨rfl, rfl⟩
          simp [↓go]
          refine ⟨fun hk => ?_, fun hk => ?_⟩
          · refine wk_ex ?_; simp [hlv]; omega
          · refine wk_ex ?_; simp [hlv]; omega
    · rintro _ _ ⟨rfl, rfl⟩
      simp [↓go]
      rw [w64 (by omega) (by omega)]
      refine wk_ex ?_
      refine And.intro ⟨rfl, i + 1, by omega, rfl⟩ ?_
      simp; omega
  · obtain rfl : i = xs.length := by omega
    rw [List.take_of_length_le (Nat.le_refl _)]
    exact retW_ex q
theorem S_fits {x : MStmt} {h : AHeap} {Q : KA} (hq : Q (bl (fitsS x)) h) : @clM Try.prog 76 [.fp (encStmt x)] h ⟨Q⟩ := by
  refine cl_of fn_impl_Stmt_fits (D_impl_Stmt_fits_of ?_)
  have hv : ∀ (n : Int) (h : AHeap) (Q : KA), Q (bl (decide (0 ≤ n ∧ n < 8))) h → @clM Try.prog 88 [i64 n] h ⟨Q⟩ := by
    intro n h Q hq
    refine cl_of fn_impl_Stmt_fits_1 (D_impl_Stmt_fits_1_of ?_)
    unfold D_impl_Stmt_fits_1
    refine jn_ex ?_
    simp [↓go]
    refine ⟨fun h1 => ?_, fun h1 => ?_⟩
    · refine wk_ret ?_
      simpa [h1] using hq
    · refine wk_ret ?_
      rw [decide_eq_false (by omega)] at hq; exact hq
  unfold D_impl_Stmt_fits
  unfold fitsS at hq
  rw [encStmt_eq]
  simp [↓go]
  refine ⟨fun k1 => jn_ex ?_, fun k1 => ⟨fun k2 => jn_ex ?_, fun k2 => ⟨fun k3 => jn_ex ?_, fun k3 => ⟨fun k4 => jn_ex ?_, fun k4 => ?_⟩⟩⟩⟩
  · rw [if_pos k1] at hq
    simp [↓go, -List.length_eq_zero_iff]
    refine hv _ _ _ ?_
    simp [↓go, -List.length_eq_zero_iff]
    refine ⟨fun h1 h2 => hv _ _ _ ?_, fun h1 => wk_ret (bl_dec hq ?_)⟩
    · simp [↓go, -List.length_eq_zero_iff]
      refine ⟨fun h3 h4 => ⟨fun h5 => ?_, fun h5 => ?_⟩, fun h3 => ?_⟩
      all_goals (refine wk_ret (bl_dec hq ?_); simp [-List.length_eq_zero_iff]; try omega)
    · simp [-List.length_eq_zero_iff]; omega
  · rw [if_neg k1, if_pos k2] at hq
    simp [↓go, -List.length_eq_zero_iff]
    refine hv _ _ _ ?_
    simp [↓go, -List.length_eq_zero_iff]
    refine ⟨fun h1 h2 => hv _ _ _ ?_, fun h1 => wk_ret (bl_dec hq ?_)⟩
    · refine wk_ret (bl_dec hq ?_); simp; omega
    · simp; omega
  · rw [if_neg k1, if_neg k2, if_pos k3] at hq
    simp [↓go, -List.length_eq_zero_iff]
    repeat' (first | apply And.intro | intro _)
    all_goals (refine wk_ret (bl_dec hq ?_); simp [-List.length_eq_zero_iff]; try omega)
  · rw [if_neg k1, if_neg k2, if_neg k3, if_pos k4] at hq
    simp [↓go, -List.length_eq_zero_iff]
    refine hv _ _ _ ?_
    simp [↓go, -List.length_eq_zero_iff]
    repeat' (first | apply And.intro | intro _)
    all_goals (refine wk_ret (bl_dec hq ?_); simp [-List.length_eq_zero_iff]; try omega)
  · rw [if_neg k1, if_neg k2, if_neg k3, if_neg k4] at hq
    exact jn_ex (wk_ret hq)
theorem S_measure : ∀ (N : Nat) {xs : List MStmt} {h : AHeap} {r g q g2 : Nat} {k n d : Int} {Q : KA}, cntS xs ≤ N → cntS xs ≤ 1048576 → 0 ≤ k → k + cntS xs ≤ 4611686018427387904 → 0 ≤ n → n + cntS xs ≤ 4611686018427387904 →
    r ≠ q → h[r]? = some (.row g 1 [i64 n]) → h[q]? = some (.row g2 1 [i64 d]) →
    (∀ b m e, b = fitsAllS xs → (b = true → m = n + cntS xs ∧ e = (if levS xs = 0 then d else max d (k + levS xs))) → Q (bl b) ((h.set r (.row g 1 [i64 m])).set q (.row g2 1 [i64 e]))) → @clM Try.prog 38 [.sl (xs.map encStmt), i64 k, .pt r g 0 0, .pt q g2 0 0] h ⟨Q⟩ := by
  intro N
  induction N using Nat.strongRecOn with
  | _ N ih =>
  intro xs h r g q g2 k n d Q hN hs hk0 hk hn0 hn hne hr hq Hq
  obtain ⟨hrl, _⟩ := List.getElem?_eq_some_iff.1 hr
  obtain ⟨hql, _⟩ := List.getElem?_eq_some_iff.1 hq
  refine cl_of fn_impl_measure (D_impl_measure_of ?_)
  unfold D_impl_measure
  have hcl := cntS_len xs
  have eh := rowFacts2 hrl hql hne
  simp [↓go]
  refine lp_inv (fun s h' => ∃ i : Nat, i ≤ xs.length ∧ fitsAllS (xs.take i) = true ∧ h' = (h.set r (.row g 1 [i64 (n + cntS (xs.take i))])).set q (.row g2 1 [i64 (if levS (xs.take i) = 0 then d else max d (k + levS (xs.take i)))]) ∧ s = [i64 i, .pt q g2 0 0, .pt r g 0 0, i64 k, .sl (xs.map encStmt), i64 xs.length]) (fun s _ => xs.length - natA (nthA s 0)) (Wk.refl ⟨0, by omega, by simp [fitsAllS], by simp [cntS, levS, set_same hr, set_same hq], rfl⟩) ?_
  rintro _ _ ⟨i, hi, hf, rfl, rfl⟩
  simp [↓go]
  refine ⟨fun hlt => ?_, fun hge => ?_⟩
  · obtain ⟨x, hx⟩ : ∃ x, xs[i]? = some x := ⟨_, List.getElem?_eq_getElem hlt⟩
    have hcm := cntS_mem hx
    have hce := cnt_eq x
    have hct := cntS_take hx
    have hft := fitsAllS_take hx
    have hff := @fitsAllS_false _ _ _ hx
    have hle := lev_eq x
    have hlv := levS_take hx
    obtain ⟨_, hxl⟩ := List.getElem?_eq_some_iff.1 hx
    simp [↓go, hx, hlt, hxl, eh]
    have hw := @w64 (n + (cntS (xs.take i) : Int) + 1) (by omega) (by omega)
    obtain ⟨D, hD⟩ : ∃ D, D = (if levS (xs.take i) = 0 then d else max d (k + levS (xs.take i))) := ⟨_, rfl⟩
    refine jn_cut (fun s h' => h' = (h.set r (.row g 1 [i64 (n + cntS (xs.take i) + 1)])).set q (.row g2 1 [i64 (if x.kind = 3 then max D (k + 1) else D)]) ∧ s = [.pt q g2 0 0, .pt r g 0 0, i64 k, .sl (xs.map encStmt), i64 xs.length, i64 i, i64 (k + if x.kind = 3 then 1 else 0), .fp (encStmt x)]) ?_ ?_
    · simp [↓go, hx, hxl, eh, hw]
      refine ⟨fun h3 => ?_, fun h3 => ?_⟩
      · rw [w64 (by omega) (by omega)]
        refine wk_ex ?_; simp [h3, hD]
      · refine wk_ex ?_; simp [h3, hD]
    rintro _ _ ⟨rfl, rfl⟩
    obtain ⟨D1, hD1⟩ : ∃ D1, D1 = (if x.kind = 3 then max D (k + 1) else D) := ⟨_, rfl⟩
    obtain ⟨k1, hk1⟩ : ∃ k1, k1 = (k + if x.kind = 3 then 1 else 0) := ⟨_, rfl⟩
    rw [← hD1, ← hk1]
    have hkb : 0 ≤ k1 ∧ k1 ≤ k + 1 := by rw [hk1]; split <;> omega
    refine jn_cut (fun s h' => ∃ b m e, h' = (h.set r (.row g 1 [i64 m])).set q (.row g2 1 [i64 e]) ∧ s = [.pt q g2 0 0, .pt r g 0 0, i64 k, .sl (xs.map encStmt), i64 xs.length, i64 i, bl b] ∧ b = !fitsAll x ∧ (b = false → m = n + cntS (xs.take i) + cnt x ∧ e = if levS (xs.take (i + 1)) = 0 then d else max d (k + levS (xs.take (i + 1))))) ?_ ?_
    · rw [fitsAll_eq]
      simp [↓go]
      refine S_fits ?_
      simp [↓go]
      refine ⟨fun hfx => ?_, fun hfx => ?_⟩
      · refine wk_ex ?_
        exact ⟨true, _, _, rfl, rfl, by simp [hfx], by simp⟩
      · refine ih (cntS x.body) (by omega) (Nat.le_refl _) (by omega) (by omega) (by omega) (by omega) (by omega) hne (eh.1 _ _) (eh.2.1 _ _) (fun b m e hb hm => ?_)
        simp [↓go, eh]
        refine ⟨fun hbf => ?_, fun hbt => ?_⟩
        · refine wk_ex ?_
          exact ⟨true, _, _, rfl, rfl, by simp [← hb, hbf], by simp⟩
        · obtain ⟨hm, he⟩ := hm hbt
          refine ih (cntS x.els) (by omega) (Nat.le_refl _) (by omega) (by omega) (by omega) (by omega) (by omega) hne (eh.1 _ _) (eh.2.1 _ _) (fun b2 m2 e2 hb2 hm2 => ?_)
          simp [↓go, eh]
          refine wk_ex ?_
          refine ⟨!b2, _, _, rfl, rfl, by simp [hfx, ← hb, hbt, ← hb2], fun hbb => ?_⟩
          obtain ⟨hm2, he2⟩ := hm2 (by simpa using hbb)
          refine ⟨by omega, ?_⟩
          have hel : x.kind = 3 → levS x.els = 0 := by
            intro h3
            unfold fitsS at hfx
            simp [h3] at hfx
            rw [hfx.2.2.2]; rfl
          rw [hlv, hle, he2, he, hD1, hD]
          rw [hk1] 
          by_cases h3 : x.kind = 3
          · have := hel h3
            simp only [h3, if_true]
            repeat' split
            all_goals omega
          · simp only [h3, if_false]
            repeat' split
            all_goals omega
    · rintro _ _ ⟨b, m, e, rfl, rfl, hb, hm⟩
      simp [↓go]
      refine ⟨fun hbt => retW_ex (Hq false m e ?_ (by simp)), fun hbf => ?_⟩
      · rw [hff (by simpa [hbt] using hb)]
      obtain ⟨hm, he⟩ := hm hbf
      have hfx : fitsAll x = true := by simpa [hbf] using hb
      rw [w64 (by omega) (by omega)]
      refine wk_ex ?_
      refine And.intro ⟨i + 1, by omega, by rw [hft, hf, hfx]; rfl, by rw [hct, hm, he, show (n + (cntS (xs.take i) : Int) + cnt x) = n + ((cntS (xs.take i) + cnt x : Nat) : Int) by omega], rfl⟩ ?_
      simp; omega
  · obtain rfl : i = xs.length := by omega
    rw [List.take_of_length_le (Nat.le_refl _)] at hf ⊢
    exact retW_ex (Hq true _ _ hf.symm (fun _ => ⟨rfl, rfl⟩))
def stmtFault (xs : List MStmt) : Int := if fitsAllS xs = true then (if 60 < cntS xs then 2 else if 8 < levS xs then 3 else 0) else 1
theorem S_specStmtFault {xs : List MStmt} {h : AHeap} {Q : KA} (hs : cntS xs ≤ 1048576) (q : Q (i64 (stmtFault xs)) h) : @clM Try.prog 15 [.sl (xs.map encStmt)] h ⟨Q⟩ := by
  refine cl_of fn_spec_StmtFault (D_spec_StmtFault_of ?_)
  unfold D_spec_StmtFault
  unfold stmtFault at q
  simp [↓go]
  intro g1
  refine S_l10Walk _ (Nat.le_refl _) hs (by omega) (by omega) (n := 60) (g := g1) (by simp) (fun b m hb hm => ?_)
  simp [↓go]
  refine ⟨fun hf => ?_, fun ht => ?_⟩
  · refine wk_of (Wk.drop (Wk.refl ?_))
    rw [← hb, hf] at q; exact q
  · have hm := hm ht
    rw [← hb, if_pos ht] at q
    refine ⟨fun hlt => ?_, fun hge => ?_⟩
    · refine wk_of (Wk.drop (Wk.refl ?_))
      rw [if_pos (by omega)] at q; exact q
    · rw [if_neg (by omega)] at q
      refine S_l10Levels _ (Nat.le_refl _) hs ?_
      simp [↓go]
      refine ⟨fun hlt => ?_, fun hge => ?_⟩
      · refine wk_of (Wk.drop (Wk.refl ?_))
        rw [if_pos (by omega)] at q; exact q
      · refine wk_of (Wk.drop (Wk.refl ?_))
        rw [if_neg (by omega)] at q; exact q
theorem S_implStmtFault {xs : List MStmt} {h : AHeap} {Q : KA} (hs : cntS xs ≤ 1048576) (q : Q (i64 (stmtFault xs)) h) : @clM Try.prog 17 [.sl (xs.map encStmt)] h ⟨Q⟩ := by
  refine cl_of fn_impl_StmtFault (D_impl_StmtFault_of ?_)
  unfold D_impl_StmtFault
  unfold stmtFault at q
  simp [↓go]
  intro g1 g2
  refine S_measure _ (Nat.le_refl _) hs (by omega) (by omega) (by omega) (by omega) (n := 0) (d := 0) (g := g1) (g2 := g2) (by omega) (by simp) (by simp) (fun b m e hb hm => ?_)
  simp [↓go]
  refine ⟨fun hf => ?_, fun ht => ?_⟩
  · refine wk_of (Wk.drop (Wk.refl ?_))
    rw [← hb, hf] at q; exact q
  · obtain ⟨hm, he⟩ := hm ht
    rw [← hb, if_pos ht] at q
    refine ⟨fun hlt => ?_, fun hge => ⟨fun hlt => ?_, fun hge => ?_⟩⟩
    · refine wk_of (Wk.drop (Wk.refl ?_))
      rw [if_pos (by omega)] at q; exact q
    · refine wk_of (Wk.drop (Wk.refl ?_))
      rw [if_neg (by omega), if_pos (by split at he <;> omega)] at q; exact q
    · refine wk_of (Wk.drop (Wk.refl ?_))
      rw [if_neg (by omega), if_neg (by split at he <;> omega)] at q; exact q
theorem S_law_FnExactStmtFault {xs : List MStmt} {h : AHeap} {Q : KA} (o : xs.length ≤ maxLen ∧ ∀ x ∈ xs, okStmt x) (q : Q tt h) : @clM Try.prog 5 [.sl (xs.map encStmt)] h ⟨Q⟩ := by
  refine cl_of fn_laws_FnExactStmtFault (D_laws_FnExactStmtFault_of ?_)
  unfold D_laws_FnExactStmtFault
  refine S_szStmtS _ (Nat.le_refl _) o.1 (okStmts_of o.2) (by omega) ?_ (fun hs => ?_)
  · simp [↓go]
    exact retW_ex q
  simp [↓go]
  refine ⟨fun h1 => by omega, fun _ => ?_⟩
  refine S_toStmtS _ (Nat.le_refl _) (by omega) ?_
  refine S_specStmtFault (by omega) ?_
  refine S_toStmtS _ (Nat.le_refl _) (by omega) ?_
  refine S_implStmtFault (by omega) ?_
  simp [↓go]
  refine S_toStmtS _ (Nat.le_refl _) (by omega) ?_
  refine S_eqStmtS _ (Nat.le_refl _) (by omega) ?_
  simp [↓go]
  exact retW_ex q
theorem rdStmt (W : World) : ∀ N, RdN N Try.prog W 65 encStmt okStmt := by
  intro N
  induction N with
  | zero =>
    intro H enc fuel cs y hf h
    obtain rfl : fuel = 0 := by omega
    simp [DataW.trod] at h
  | succ N ih =>
  have ihm : RdN (N - 1) Try.prog W 65 encStmt okStmt := fun enc fuel cs y hf h => ih enc fuel cs y (by omega) h
  intro H enc fuel cs y hf h
  obtain ⟨ys, m, hm, _, hl, hn, hf⟩ := DataW.trod_struct Try.underlying65 h
  have hl : cs.length = 5 := hl.trans (by kernel_rfl)
  have hn : ys.length = 5 := hn
  match cs, hl, ys, hn with
  | [c0, c1, c2, c3, c4], _, [y0, y1, y2, y3, y4], _ =>
    have hs : RdN N Try.prog W 29 (fun xs : List MStmt => .sl (xs.map encStmt)) (fun xs => xs.length ≤ maxLen ∧ ∀ x ∈ xs, okStmt x) := RdN.slice Try.underlying29 (s := 5) (by kernel_rfl) (by omega) (fun x => by simp) ihm
    obtain ⟨x0, k0, o0⟩ := (RdN.int (N := N) .i64 Try.underlying2) enc m [c0] y0 (by omega) ((congrArg _ (by kernel_rfl)).trans (hf 0 _ rfl))
    obtain ⟨x1, k1, o1⟩ := (RdN.int (N := N) .i64 Try.underlying2) enc m [c1] y1 (by omega) ((congrArg _ (by kernel_rfl)).trans (hf 1 _ rfl))
    obtain ⟨x2, k2, o2⟩ := (RdN.int (N := N) .i64 Try.underlying2) enc m [c2] y2 (by omega) ((congrArg _ (by kernel_rfl)).trans (hf 2 _ rfl))
    obtain ⟨x3, k3, o3⟩ := hs enc m [c3] y3 (by omega) ((congrArg _ (by kernel_rfl)).trans (hf 3 _ rfl))
    obtain ⟨x4, k4, o4⟩ := hs enc m [c4] y4 (by omega) ((congrArg _ (by kernel_rfl)).trans (hf 4 _ rfl))
    refine ⟨.mk x0 x1 x2 x3 x4, ?_, ?_⟩
    · rw [encStmt_eq]
      exact RVL.app k0 (RVL.app k1 (RVL.app k2 (RVL.app k3 k4)))
    · rw [okStmt_eq]
      exact ⟨⟨o3.1, okStmts_of o3.2⟩, ⟨o4.1, okStmts_of o4.2⟩⟩
end Go.Proofs.Ytlnlbncinjiinaa.A
