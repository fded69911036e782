/- Of this session: contracts of functions that the print does not take. -/
import Derived.Test.YtfhlicffjpiobabM0
namespace Go.Proofs.Ytfhlicffjpiobab.M
open Go.RowKit Go.Proofs.YtfhlicffjpiobabW.PrintWords Go.Proofs.YtfhlicffjpiobabW.PrintLast Go.Proofs.YtfhlicffjpiobabW.PrintMore
attribute [local go_sem] Go.Proofs.YtfhlicffjpiobabZ.u32_signed Go.Proofs.YtfhlicffjpiobabZ.u32_max
set_option linter.unusedVariables false
set_option linter.unusedSimpArgs false
/-! the remainder, bit by bit and by half bytes -/
def crcC : BitVec 32 := 0xedb88320#32
def hf (x : BitVec 32) : BitVec 32 := (x >>> 1) ^^^ (if x.getLsbD 0 then crcC else 0#32)
def hfN : Nat → BitVec 32 → BitVec 32
  | 0, x => x
  | n + 1, x => hf (hfN n x)
theorem hf_xor (a b : BitVec 32) : hf (a ^^^ b) = hf a ^^^ hf b := by
  unfold hf
  rw [BitVec.ushiftRight_xor_distrib, BitVec.getLsbD_xor]
  cases a.getLsbD 0 <;> cases b.getLsbD 0 <;> simp <;> (try ac_rfl)
  · rw [show a >>> 1 ^^^ crcC ^^^ (b >>> 1 ^^^ crcC) = (a >>> 1 ^^^ b >>> 1) ^^^ (crcC ^^^ crcC) by ac_rfl, BitVec.xor_self, BitVec.xor_zero]
theorem hfN_xor (n : Nat) (a b : BitVec 32) : hfN n (a ^^^ b) = hfN n a ^^^ hfN n b := by
  induction n with
  | zero => rfl
  | succ n ih => simp only [hfN]; rw [ih, hf_xor]
theorem hf_even {x : BitVec 32} (h : x.getLsbD 0 = false) : hf x = x >>> 1 := by
  unfold hf; rw [h]; simp
/-- where the n lowest bits are none, n steps shift -/
theorem hfN_low (n : Nat) (x : BitVec 32) (h : ∀ i, i < n → x.getLsbD i = false) : hfN n x = x >>> n := by
  induction n with
  | zero => simp [hfN]
  | succ n ih =>
    simp only [hfN]
    rw [ih (fun i hi => h i (by omega)), hf_even]
    · rw [← BitVec.shiftRight_add]
    · rw [BitVec.getLsbD_ushiftRight]; exact h n (by omega)
theorem hfN_add (m n : Nat) (x : BitVec 32) : hfN (m + n) x = hfN m (hfN n x) := by
  induction m with
  | zero => simp [hfN]
  | succ m ih => rw [Nat.succ_add]; simp only [hfN]; rw [ih]
/-- a half byte: a shift, and what the lowest four bits make -/
theorem hf4_table (x : BitVec 32) : hfN 4 x = (x >>> 4) ^^^ hfN 4 (x &&& 15#32) := by
  have e : x = ((x >>> 4) <<< 4) ^^^ (x &&& 15#32) := by
    apply BitVec.eq_of_getLsbD_eq
    intro i hi
    rw [BitVec.getLsbD_xor, BitVec.getLsbD_shiftLeft, BitVec.getLsbD_ushiftRight, BitVec.getLsbD_and]
    by_cases h : i < 4
    · have : (15#32).getLsbD i = true := by
        rcases (show i = 0 ∨ i = 1 ∨ i = 2 ∨ i = 3 by omega) with rfl | rfl | rfl | rfl <;> rfl
      simp [h, this]
    · have : (15#32).getLsbD i = false := by
        have h2 : (15 : Nat) < 2 ^ i := Nat.lt_of_lt_of_le (by decide : 15 < 2 ^ 4) (Nat.pow_le_pow_right (by decide) (by omega))
        simp [BitVec.getLsbD_ofNat, Nat.testBit_lt_two_pow h2]
      have h3 : 4 + (i - 4) = i := by omega
      rw [this, h3]; simp [h, hi]
  conv => lhs; rw [e]
  rw [hfN_xor]
  congr 1
  rw [hfN_low]
  · apply BitVec.eq_of_getLsbD_eq
    intro i hi
    rw [BitVec.getLsbD_ushiftRight, BitVec.getLsbD_shiftLeft, BitVec.getLsbD_ushiftRight]
    by_cases h : 4 + i < 32
    · have h3 : 4 + (4 + i - 4) = 4 + i := by omega
      simp [h]
    · simp [h, BitVec.getLsbD_of_ge x (4 + i) (by omega)]
  · intro i hi
    rw [BitVec.getLsbD_shiftLeft]; simp [hi]
/-- one byte -/
def crcByte (r : BitVec 32) (b : BitVec 32) : BitVec 32 := hfN 8 (r ^^^ b)
theorem crcByte_halves (r b : BitVec 32) : crcByte r b = (let y := r ^^^ b; let z := (y >>> 4) ^^^ hfN 4 (y &&& 15#32); (z >>> 4) ^^^ hfN 4 (z &&& 15#32)) := by
  simp only [crcByte]
  rw [show (8 : Nat) = 4 + 4 from rfl, hfN_add, hf4_table (hfN 4 _), hf4_table (r ^^^ b)]
/-- after k bits of b: what is left of b is still to come -/
theorem crc_bits (r b : BitVec 32) (k : Nat) : ∃ q, hfN k (r ^^^ b) = q ^^^ (b >>> k) ∧ True := ⟨hfN k (r ^^^ b) ^^^ (b >>> k), by rw [BitVec.xor_assoc, BitVec.xor_self, BitVec.xor_zero], trivial⟩
/-- the state behind k bits -/
def crcSt (r b : BitVec 32) (k : Nat) : BitVec 32 := hfN k (r ^^^ b) ^^^ (b >>> k)
theorem crcSt_zero (r b : BitVec 32) : crcSt r b 0 = r := by simp [crcSt, hfN, BitVec.xor_assoc]
theorem crcSt_succ (r b : BitVec 32) (k : Nat) : crcSt r b (k + 1) = (crcSt r b k >>> 1) ^^^ (if (crcSt r b k).getLsbD 0 != b.getLsbD k then crcC else 0#32) := by
  have e : hfN k (r ^^^ b) = crcSt r b k ^^^ (b >>> k) := by simp only [crcSt]; rw [BitVec.xor_assoc, BitVec.xor_self, BitVec.xor_zero]
  have e1 : crcSt r b (k + 1) = hf (hfN k (r ^^^ b)) ^^^ (b >>> (k + 1)) := rfl
  rw [e1, e]
  generalize crcSt r b k = s
  have hb : (b >>> k).getLsbD 0 = b.getLsbD k := by rw [BitVec.getLsbD_ushiftRight]; simp
  unfold hf
  rw [BitVec.ushiftRight_xor_distrib, BitVec.getLsbD_xor, hb, ← BitVec.shiftRight_add]
  have hx : (xor (s.getLsbD 0) (b.getLsbD k)) = (s.getLsbD 0 != b.getLsbD k) := by cases s.getLsbD 0 <;> cases b.getLsbD k <;> rfl
  rw [hx]
  rw [show s >>> 1 ^^^ b >>> (k + 1) ^^^ (if (s.getLsbD 0 != b.getLsbD k) = true then crcC else 0#32) ^^^ b >>> (k + 1) = (s >>> 1 ^^^ (if (s.getLsbD 0 != b.getLsbD k) = true then crcC else 0#32)) ^^^ (b >>> (k + 1) ^^^ b >>> (k + 1)) by ac_rfl, BitVec.xor_self, BitVec.xor_zero]
theorem crcSt_eight (r b : BitVec 32) (h : b.toNat < 256) : crcSt r b 8 = crcByte r b := by
  have e : b >>> 8 = 0#32 := by
    apply BitVec.eq_of_toNat_eq; rw [BitVec.toNat_ushiftRight, Nat.shiftRight_eq_div_pow]; simp; omega
  simp [crcSt, crcByte, e]
def crcL (r : BitVec 32) (l : List (BitVec 32)) : BitVec 32 := l.foldl crcByte r
/-- a step can be turned back -/
theorem hf_inj {a b : BitVec 32} (h : hf a = hf b) : a = b := by
  have h0 : hf (a ^^^ b) = 0#32 := by rw [hf_xor, h, BitVec.xor_self]
  have hz : a ^^^ b = 0#32 := by
    generalize a ^^^ b = x at h0
    have hl : x.getLsbD 0 = false := by
      cases hx : x.getLsbD 0 with
      | false => rfl
      | true =>
        have h31 : (hf x).getLsbD 31 = true := by
          unfold hf; rw [hx, BitVec.getLsbD_xor, BitVec.getLsbD_ushiftRight, BitVec.getLsbD_of_ge x (1 + 31) (by omega)]; rfl
        rw [h0] at h31; simp at h31
    rw [hf_even hl] at h0
    apply BitVec.eq_of_getLsbD_eq
    intro i hi
    rcases Nat.eq_zero_or_pos i with rfl | hp
    · rw [hl]; simp
    · have := congrArg (fun z => z.getLsbD (i - 1)) h0
      simp only [BitVec.getLsbD_ushiftRight] at this
      rw [show 1 + (i - 1) = i by omega] at this
      rw [this]; simp
  have := congrArg (fun z => z ^^^ b) hz
  simpa [BitVec.xor_assoc] using this
theorem hfN_inj (n : Nat) {a b : BitVec 32} (h : hfN n a = hfN n b) : a = b := by
  induction n generalizing a b with
  | zero => exact h
  | succ n ih => exact ih (hf_inj h)
theorem xor_right_inj {a b c : BitVec 32} (h : a ^^^ c = b ^^^ c) : a = b := by
  have := congrArg (fun z => z ^^^ c) h
  simpa [BitVec.xor_assoc] using this
theorem crcL_inj (l : List (BitVec 32)) {a b : BitVec 32} (h : crcL a l = crcL b l) : a = b := by
  induction l generalizing a b with
  | nil => exact h
  | cons x l ih => exact xor_right_inj (hfN_inj 8 (ih h))
theorem crc_differs (r : BitVec 32) (l1 l2 : List (BitVec 32)) {x y : BitVec 32} (h : x ≠ y) : crcL r (l1 ++ x :: l2) ≠ crcL r (l1 ++ y :: l2) := by
  intro he
  simp only [crcL, List.foldl_append, List.foldl_cons] at he
  have := crcL_inj l2 he
  have := hfN_inj 8 this
  refine h (xor_right_inj (c := l1.foldl crcByte r) ?_)
  rw [BitVec.xor_comm x, BitVec.xor_comm y]; exact this
/-! words of 32 bits as the walk has them -/
def cI (R : BitVec 32) : Value := .int .u32 (R.toNat : Int)
theorem cI_def (R : BitVec 32) : cI R = .int .u32 (R.toNat : Int) := rfl
theorem ofInt_toNat (R : BitVec 32) : BitVec.ofInt 32 (R.toNat : Int) = R := by simp
theorem wrap_u32_eq (a : Int) : IntKind.u32.wrap a = a % 4294967296 := by simp [IntKind.wrap, IntKind.bits, IntKind.signed]
theorem wrap_u32_bv (R : BitVec 32) : IntKind.u32.wrap (R.toNat : Int) = (R.toNat : Int) := by rw [wrap_u32_eq]; have := R.isLt; omega
theorem bits_xor_bv (x y : Int) : Go.bits .xor .u32 x y = ((BitVec.ofInt 32 x ^^^ BitVec.ofInt 32 y).toNat : Int) := by
  have := wrap_u32_bv (BitVec.ofInt 32 x ^^^ BitVec.ofInt 32 y)
  unfold Go.bits; exact this
theorem bits_and_bv (x y : Int) : Go.bits .and .u32 x y = ((BitVec.ofInt 32 x &&& BitVec.ofInt 32 y).toNat : Int) := by
  have := wrap_u32_bv (BitVec.ofInt 32 x &&& BitVec.ofInt 32 y)
  unfold Go.bits; exact this
theorem shr_bv (R : BitVec 32) (n : Nat) : (R.toNat : Int) / 2 ^ n = ((R >>> n).toNat : Int) := by
  rw [BitVec.toNat_ushiftRight, Nat.shiftRight_eq_div_pow]; simp
theorem low_bv (R : BitVec 32) : ((R &&& 1#32).toNat : Int) = if R.getLsbD 0 then 1 else 0 := by
  rw [BitVec.toNat_and]
  have h1 : (1#32).toNat = 1 := rfl
  rw [h1, Nat.and_one_is_mod]
  have : R.getLsbD 0 = R.toNat.testBit 0 := rfl
  rw [this, Nat.testBit_zero]
  by_cases h : R.toNat % 2 = 1
  · simp [h]
  · have : R.toNat % 2 = 0 := by omega
    simp [this]
def tabA (k : Nat) : Array Value := ((List.range 16).map fun i => if i < k then cI (hfN 4 (BitVec.ofNat 32 i)) else cI 0#32).toArray
theorem tabA_size (k : Nat) : (tabA k).size = 16 := by simp [tabA]
theorem tabA_get (k i : Nat) (h : i < 16) : (tabA k)[i]? = some (if i < k then cI (hfN 4 (BitVec.ofNat 32 i)) else cI 0#32) := by simp [tabA, h]
theorem tabA_set (k : Nat) (h : k < 16) : (tabA k).setIfInBounds k (cI (hfN 4 (BitVec.ofNat 32 k))) = tabA (k + 1) := by
  apply Array.ext_getElem?
  intro i
  rw [Array.getElem?_setIfInBounds]
  by_cases hi : i < 16
  · rw [tabA_get k i hi, tabA_get (k + 1) i hi, tabA_size]
    by_cases e : k = i
    · subst e; simp [h]
    · by_cases h2 : i < k
      · simp [e, h2, show i < k + 1 by omega]
      · simp [e, h2, show ¬ i < k + 1 by omega]
  · have h1 : (tabA k)[i]? = none := by rw [Array.getElem?_eq_none]; rw [tabA_size]; omega
    have h2 : (tabA (k + 1))[i]? = none := by rw [Array.getElem?_eq_none]; rw [tabA_size]; omega
    rw [h1, h2]
    by_cases e : k = i
    · omega
    · simp [e]
theorem tabA_zero : tabA 0 = #[.int .u32 0, .int .u32 0, .int .u32 0, .int .u32 0, .int .u32 0, .int .u32 0, .int .u32 0, .int .u32 0, .int .u32 0, .int .u32 0, .int .u32 0, .int .u32 0, .int .u32 0, .int .u32 0, .int .u32 0, .int .u32 0] := rfl
theorem hf_int (R : BitVec 32) : ((hf R).toNat : Int) = if R.getLsbD 0 then Go.bits .xor .u32 ((R.toNat : Int) / 2) 3988292384 else (R.toNat : Int) / 2 := by
  have e := shr_bv R 1
  rw [show (2 : Int) ^ 1 = 2 from rfl] at e
  unfold hf
  rw [e, bits_xor_bv, ofInt_toNat]
  cases h : R.getLsbD 0 <;> simp <;> rfl
theorem tabA_one (k : Nat) : (tabA k).all (·.oneCell') = true := by
  rw [Array.all_eq_true_iff_forall_mem]
  intro x hx
  simp only [tabA, List.mem_toArray, List.mem_map] at hx
  obtain ⟨i, _, rfl⟩ := hx
  split <;> rfl
theorem below_setRow {B g : Nat} {w0 w : World} (hb : Below B w0 w) (hBg : B ≤ g) (cs : Array Value) : Below B w0 (w.setRow g cs) :=
  hb.trans ⟨rfl, rfl, rfl, by simp [World.setRow], fun k hk => setRow_other w g k cs (by omega)⟩
/-- the bytes as words, and their remainder -/
def bvs (l : List Int) : List (BitVec 32) := l.map (BitVec.ofInt 32)
def crcV (l : List Int) : Int := ((~~~ crcL 0xffffffff#32 (bvs l)).toNat : Int)
def impl_Crc.f (l0 : List Int) : Option Int := some (crcV l0)
theorem bits_not_bv (R : BitVec 32) : Go.bits .xor .u32 4294967295 (R.toNat : Int) = ((~~~ R).toNat : Int) := by
  rw [bits_xor_bv, ofInt_toNat]
  have : BitVec.ofInt 32 4294967295 = BitVec.allOnes 32 := by decide
  rw [this, BitVec.allOnes_xor]
theorem crc_step (l : List Int) (k : Nat) (h : k < l.length) (R : BitVec 32) (hR : R = crcL 0xffffffff#32 (bvs (l.take k))) : crcL 0xffffffff#32 (bvs (l.take (k + 1))) = crcByte R (BitVec.ofInt 32 (rd l k)) := by
  rw [List.take_succ_eq_append_getElem h]
  simp only [bvs, crcL, List.map_append, List.foldl_append, List.map_cons, List.map_nil, List.foldl_cons, List.foldl_nil]
  rw [hR]
  simp [rd, List.getD_eq_getElem?_getD, List.getElem?_eq_getElem h, crcL, bvs]
set_option maxHeartbeats 1000000 in
theorem impl_halves.calls (w : World) : Calls Try.prog 16 #[] w fun e w' => e = .returned (.agg (tabA 16)) ∧ Below w.heap.size w w' := by
  go_enter Try.func16, Try.ntmps16
  go_wp2
  go_loopw [5] (fun i wr => ∃ k : Nat, k ≤ 16 ∧ i = .int .i64 k ∧ Aside0 (wr.heap[w.heap.size]? = some (.cells (tabA 0) 43 (0, 0))) ∧ Aside0 (wr.heap[w.heap.size + 1]? = some (.cells (tabA k) 43 (0, 0))) ∧ Aside0 (Below w.heap.size w wr)) (fun i _ => 16 - (intOf i).toNat)
  case atStart => exact ⟨0, by omega, rfl, ⟨by rw [tabA_zero]; exact heap_alloc2_old _ _ _⟩, ⟨by rw [tabA_zero]; exact heap_alloc2_new _ _ _⟩, ⟨((Below.refl _ _).alloc (Nat.le_refl _) _).alloc (by simp) _⟩⟩
  case round =>
    obtain ⟨k, hk, rfl, H0, H1, HB⟩ := hrel
    by_cases hlt : k < 16
    · go_wp2
      obtain ⟨wo, rfl⟩ : ∃ wo : World, wo = wr := ⟨_, rfl⟩
      go_loop [3, 4] (fun r j => ∃ m : Nat, m ≤ 4 ∧ j = .int .i64 m ∧ r = cI (hfN m (BitVec.ofNat 32 k))) (fun _ j => 4 - (intOf j).toNat)
      case atStart =>
        refine ⟨0, by omega, rfl, ?_⟩
        simp only [hfN, cI]
        have e : ((BitVec.ofNat 32 k).toNat : Int) = k := by simp; omega
        rw [e]
        try rfl
        try (rw [wrap_u32_eq]; congr 1; omega)
      case round =>
        obtain ⟨m, hm, rfl, rfl⟩ := hrel
        have HF := Aside0.mk (hf_int (hfN m (BitVec.ofNat 32 k)))
        have hand : Go.bits .and .u32 ((hfN m (BitVec.ofNat 32 k)).toNat : Int) 1 = if (hfN m (BitVec.ofNat 32 k)).getLsbD 0 then 1 else 0 := by
          rw [bits_and_bv, ofInt_toNat]; exact low_bv _
        generalize hX : hfN m (BitVec.ofNat 32 k) = X at *
        have HX := Aside0.mk hX
        clear hX
        by_cases hlm : m < 4
        · simp only [cI_def]
          cases hb : X.getLsbD 0
          · rw [hb] at hand
            have hHF := HF.out
            rw [hb] at hHF
            have HF2 := Aside0.mk hHF
            clear hHF
            simp only [Bool.false_eq_true, if_false] at hand
            go_wp2
            go_round
            case rel => exact ⟨m + 1, by omega, by go_num, by simp only [hfN]; rw [HX.out, HF2.out]; rfl⟩
            case measure => simp [intOf]; omega
          · rw [hb] at hand
            have hHF := HF.out
            rw [hb] at hHF
            have HF2 := Aside0.mk hHF
            clear hHF
            simp only [if_true] at hand
            go_wp2
            go_round
            case rel => exact ⟨m + 1, by omega, by go_num, by simp only [hfN]; rw [HX.out, HF2.out]; rfl⟩
            case measure => simp [intOf]; omega
        · have hm4 : m = 4 := by omega
          have HM := Aside0.mk hm4
          have HXI := Aside0.mk (cI_def X)
          have hcell : wo.cell? ⟨w.heap.size + 1, k, none⟩ = some (cI 0#32) := by
            rw [cell_of_row _ _ _ _ _ _ H1.out, tabA_get k k hlt, if_neg (by omega)]
          have hfr : wo.frozen? ⟨w.heap.size + 1, k, none⟩ = false := blk_frozen H1.out k
          clear hm4
          simp only [cI_def]
          go_wp2
          go_roundw
          case rel =>
            refine ⟨k + 1, by omega, by go_num, ⟨?_⟩, ⟨?_⟩, ⟨below_set HB.out (by omega)⟩⟩
            · rw [heap_setCell_other _ _ _ _ (by simp)]; exact H0.out
            · have := blk_set H1.out k (cI X)
              rw [← HX.out, HM.out] at this
              rw [tabA_set k hlt] at this
              rw [← HX.out, HM.out]
              exact this
          case measure => simp [intOf]; omega
    · have hk16 : k = 16 := by omega
      subst hk16
      go_wp2_with (first | (refine wpList_load_row rfl _ _ rfl (w.heap.size + 1) rfl _ (tabA 16) _ _ H1.out Try.underlying43 rfl (by rw [tabA_size]; kernel_rfl) ?_) | (refine wpList_store_row rfl _ _ _ rfl w.heap.size (tabA 16) rfl rfl _ (tabA 0) H0.out (by rw [tabA_size]; kernel_rfl) (by simp [tabA_size]) (tabA_one 16) ?_))
      refine bodyPost_ret (v := .agg (tabA 16)) (results_cell_row (fn := Try.f16) rfl _ _ w.heap.size 43 (tabA 16) (0, 0) _ rfl ?_ Try.underlying43 rfl (by rw [tabA_size]; kernel_rfl)) rfl ⟨rfl, ?_⟩
      · exact setRow_heap _ _ _ _ _ _ H0.out
      · exact below_setRow HB.out (Nat.le_refl _) _
theorem ret_int {k : IntKind} {a b : Int} (h : a = b) : Ending.returned (.int k a) = .returned (.int k b) := by rw [h]
set_option maxHeartbeats 1000000 in
theorem impl_Crc.calls (A0 : Option Addr) (c0 : Nat) (l0 : List Int) (r : Int) (w : World) (hr0 : Kd.C (Kd.int .u8) w A0 l0.length l0) (_hc0 : l0.length ≤ c0) (h : impl_Crc.f l0 = some r) :
    Calls Try.prog 9 #[.slice A0 l0.length c0] w fun e w' => e = .returned (.int .u32 r) ∧ Below w.heap.size w w' := by
  obtain rfl := Option.some.inj h
  clear h
  have HR0 := Aside0.mk hr0
  have hlen : l0.length ≤ 9223372036854775807 := (Kd.reads_of_C (enc := Value.int .u8) (d := (0 : Int)) (h1 := fun _ => rfl) hr0).2.1
  clear hr0
  go_enter Try.func9, Try.ntmps9
  go_wp2_with (first | (go_at_call 16; refine (impl_halves.calls _).mono ?_; rintro e w1 ⟨rfl, hb⟩; have HB := Aside0.mk hb; clear hb) | (refine wpList_store_row rfl _ _ _ rfl w1.heap.size (tabA 16) rfl rfl _ _ (heap_alloc_new _ _) (by rw [tabA_size]; kernel_rfl) (by simp [tabA_size]) (tabA_one 16) ?_))
  have HT := Aside0.mk (setRow_heap _ _ _ (tabA 16) _ _ (heap_alloc_new w1 (.cells #[.int .u32 0, .int .u32 0, .int .u32 0, .int .u32 0, .int .u32 0, .int .u32 0, .int .u32 0, .int .u32 0, .int .u32 0, .int .u32 0, .int .u32 0, .int .u32 0, .int .u32 0, .int .u32 0, .int .u32 0, .int .u32 0] 43)))
  have HB2 := Aside0.mk (below_setRow (HB.out.alloc HB.out.size (.cells #[.int .u32 0, .int .u32 0, .int .u32 0, .int .u32 0, .int .u32 0, .int .u32 0, .int .u32 0, .int .u32 0, .int .u32 0, .int .u32 0, .int .u32 0, .int .u32 0, .int .u32 0, .int .u32 0, .int .u32 0, .int .u32 0] 43)) HB.out.size (tabA 16))
  generalize hw2 : (w1.alloc (.cells #[.int .u32 0, .int .u32 0, .int .u32 0, .int .u32 0, .int .u32 0, .int .u32 0, .int .u32 0, .int .u32 0, .int .u32 0, .int .u32 0, .int .u32 0, .int .u32 0, .int .u32 0, .int .u32 0, .int .u32 0, .int .u32 0] 43)).setRow w1.heap.size (tabA 16) = w2 at *
  clear hw2
  go_loop [4, 10] (fun r i => ∃ k : Nat, k ≤ l0.length ∧ i = .int .i64 k ∧ r = cI (crcL 0xffffffff#32 (bvs (l0.take k)))) (fun _ i => l0.length - (intOf i).toNat)
  case atStart => exact ⟨0, by omega, rfl, rfl⟩
  case round =>
    obtain ⟨k, hk, rfl, rfl⟩ := hrel
    generalize hR : crcL 0xffffffff#32 (bvs (l0.take k)) = R at *
    have HR := Aside0.mk hR
    clear hR
    by_cases hlt : k < l0.length
    · have HS := Aside0.mk (crc_step l0 k hlt R HR.out.symm)
      obtain ⟨ad, hA, hcell0⟩ := Kd.at_int (Kd.C_below HR0.out HB2.out) (k : Int) (by omega) (by omega)
      subst hA
      have hcell : w2.cell? (ad.add k) = some (.int .u8 (rd l0 k)) := hcell0
      clear hcell0
      generalize rd l0 k = b at *
      have HY := Aside0.mk (crcByte_halves R (BitVec.ofInt 32 b))
      have hx : Go.bits .xor .u32 (R.toNat : Int) (b % 4294967296) = ((R ^^^ BitVec.ofInt 32 b).toNat : Int) := by
        rw [bits_xor_bv, ofInt_toNat]
        congr 3
        apply BitVec.eq_of_toInt_eq
        simp only [BitVec.toInt_ofInt]
        exact Int.emod_bmod b 4294967296
      have look : ∀ Y : BitVec 32, ∃ i : Nat, i < 16 ∧ Go.bits .and .u32 (Y.toNat : Int) 15 = (i : Int) ∧ w2.cell? ⟨w1.heap.size, i, none⟩ = some (.int .u32 ((hfN 4 (Y &&& 15#32)).toNat : Int)) ∧ (Y.toNat : Int) / (16 : Int) = ((Y >>> 4).toNat : Int) ∧ Go.bits .xor .u32 ((Y >>> 4).toNat : Int) ((hfN 4 (Y &&& 15#32)).toNat : Int) = ((Y >>> 4 ^^^ hfN 4 (Y &&& 15#32)).toNat : Int) := by
        intro Y
        have h15 : (Y &&& 15#32).toNat < 16 := by
          rw [BitVec.toNat_and]
          exact Nat.lt_of_le_of_lt Nat.and_le_right (by decide)
        refine ⟨(Y &&& 15#32).toNat, h15, ?_, ?_, ?_, ?_⟩
        · rw [bits_and_bv, ofInt_toNat]; rfl
        · rw [cell_of_row _ _ _ _ _ _ HT.out, tabA_get 16 _ h15, if_pos h15]
          simp [cI]
        · exact shr_bv Y 4
        · rw [bits_xor_bv, ofInt_toNat, ofInt_toNat]
      generalize hy : R ^^^ BitVec.ofInt 32 b = Y at *
      obtain ⟨i1, hi1, ha1, hc1, hs1, hx1⟩ := look Y
      obtain ⟨i2, hi2, ha2, hc2, hs2, hx2⟩ := look (Y >>> 4 ^^^ hfN 4 (Y &&& 15#32))
      have HYZ : Aside0 (crcByte R (BitVec.ofInt 32 b) = ((Y >>> 4 ^^^ hfN 4 (Y &&& 15#32)) >>> 4 ^^^ hfN 4 ((Y >>> 4 ^^^ hfN 4 (Y &&& 15#32)) &&& 15#32))) := ⟨HY.out⟩
      clear look hy HY
      generalize (Y >>> 4 ^^^ hfN 4 (Y &&& 15#32)) = Z at *
      generalize hQ : (Z >>> 4 ^^^ hfN 4 (Z &&& 15#32)) = Q at *
      clear hQ
      generalize hfN 4 (Y &&& 15#32) = t1 at *
      generalize hfN 4 (Z &&& 15#32) = t2 at *
      generalize Y >>> 4 = s1 at *
      generalize Z >>> 4 = s2 at *
      simp only [cI_def]
      go_wp2
      go_round
      case rel => exact ⟨k + 1, by omega, by go_num, by rw [HS.out, HYZ.out]⟩
      case measure => simp [intOf]; omega
    · have hk2 : k = l0.length := by omega
      have HK := Aside0.mk hk2
      clear hk2
      have hn := bits_not_bv R
      simp only [cI_def]
      go_wp2
      go_ret
      refine ⟨ret_int ?_, HB2.out⟩
      unfold crcV
      rw [← HR.out, HK.out, List.take_length, BitVec.toNat_not]
end Go.Proofs.Ytfhlicffjpiobab.M
