/- CRC-32: ledger.Sum, and the document's (ref02.Sum). -/
import Derived.Test.YtlkglhgndfhjeaaBytB
namespace Go.Proofs.Ytlkglhgndfhjeaa
open Go Go.RowKit
set_option linter.unusedVariables false
set_option linter.unusedSimpArgs false

def crcBit (c : Nat) : Nat := (c / 2) ^^^ (if c % 2 = 1 then 3988292384 else 0)
def crcN : Nat → Nat → Nat
  | 0, c => c
  | n + 1, c => crcBit (crcN n c)
theorem xor_half (a b : Nat) : (a ^^^ b) / 2 = a / 2 ^^^ b / 2 := by
  apply Nat.eq_of_testBit_eq
  intro i
  simp [Nat.testBit_div_two, Nat.testBit_xor]
theorem xor_odd (a b : Nat) : (a ^^^ b) % 2 = (a % 2 + b % 2) % 2 := by
  have h : (a ^^^ b).testBit 0 = ((a.testBit 0) ^^ (b.testBit 0)) := Nat.testBit_xor ..
  simp only [Nat.testBit_zero] at h
  rcases Nat.mod_two_eq_zero_or_one a with ha | ha <;> rcases Nat.mod_two_eq_zero_or_one b with hb | hb <;> rcases Nat.mod_two_eq_zero_or_one (a ^^^ b) with hc | hc <;> simp [ha, hb, hc] at h ⊢
theorem xor_lc (a b c : Nat) : a ^^^ (b ^^^ c) = b ^^^ (a ^^^ c) := by rw [← Nat.xor_assoc, Nat.xor_comm a b, Nat.xor_assoc]
theorem crcBit_xor (a b : Nat) : crcBit (a ^^^ b) = crcBit a ^^^ crcBit b := by
  unfold crcBit
  rw [xor_half, xor_odd]
  rcases Nat.mod_two_eq_zero_or_one a with ha | ha <;> rcases Nat.mod_two_eq_zero_or_one b with hb | hb <;> simp [ha, hb, Nat.xor_assoc, Nat.xor_comm, xor_lc]
theorem crcN_xor (n a b : Nat) : crcN n (a ^^^ b) = crcN n a ^^^ crcN n b := by
  induction n with
  | zero => rfl
  | succ n ih => simp only [crcN, ih, crcBit_xor]
theorem crcBit_even (a : Nat) : crcBit (2 * a) = a := by
  unfold crcBit
  rw [Nat.mul_mod_right, if_neg (by decide), Nat.xor_zero, Nat.mul_div_cancel_left _ (by decide)]
theorem crcN_shift : ∀ (n a : Nat), crcN n (2 ^ n * a) = a
  | 0, a => by simp [crcN]
  | n + 1, a => by
    have : crcN (n + 1) (2 ^ (n + 1) * a) = crcBit (crcN n (2 ^ n * (2 * a))) := by
      rw [show 2 ^ (n + 1) * a = 2 ^ n * (2 * a) from by rw [Nat.pow_succ, Nat.mul_assoc]]; rfl
    rw [this, crcN_shift n, crcBit_even]
theorem split256 (x : Nat) : x = 256 * (x / 256) ^^^ (x % 256) := by
  apply Nat.eq_of_testBit_eq
  intro i
  rw [Nat.testBit_xor]
  have e1 : 256 * (x / 256) = (x >>> 8) <<< 8 := by rw [Nat.shiftRight_eq_div_pow, Nat.shiftLeft_eq, Nat.mul_comm]
  have e2 : x % 256 = x % 2 ^ 8 := rfl
  rw [e1, e2, Nat.testBit_shiftLeft, Nat.testBit_mod_two_pow, Nat.testBit_shiftRight]
  by_cases h : i < 8
  · have h2 : ¬ 8 ≤ i := by omega
    simp [h, h2]
  · have h2 : 8 ≤ i := by omega
    simp [h, h2]
/-- Eight steps of the register are one step of the table. -/
theorem crc_table (x : Nat) : crcN 8 x = x / 256 ^^^ crcN 8 (x % 256) := by
  conv => lhs; rw [split256 x]
  rw [crcN_xor]
  congr 1
  exact crcN_shift 8 (x / 256)

theorem crcBit_lt {c : Nat} (h : c < 4294967296) : crcBit c < 4294967296 := by
  unfold crcBit
  refine Nat.xor_lt_two_pow (n := 32) (by omega) ?_
  split <;> decide
theorem crcN_lt {c : Nat} (h : c < 4294967296) : ∀ n, crcN n c < 4294967296
  | 0 => h
  | n + 1 => crcBit_lt (crcN_lt h n)
def crcT (l : List UInt8) : Nat := l.foldl (fun c b => crcN 8 (c ^^^ b.toNat)) 4294967295
def crc (l : List UInt8) : Nat := crcT l ^^^ 4294967295
theorem xor32_lt {a b : Nat} (ha : a < 4294967296) (hb : b < 4294967296) : a ^^^ b < 4294967296 := Nat.xor_lt_two_pow (n := 32) ha hb
theorem crcT_lt (l : List UInt8) : crcT l < 4294967296 := by
  unfold crcT
  have : ∀ (l : List UInt8) (c : Nat), c < 4294967296 → l.foldl (fun c b => crcN 8 (c ^^^ b.toNat)) c < 4294967296 := by
    intro l
    induction l with
    | nil => intro c h; exact h
    | cons b l ih => intro c h; exact ih _ (crcN_lt (xor32_lt h (by have := b.toNat_lt; omega)) 8)
  exact this l _ (by decide)
theorem crcT_snoc (l : List UInt8) (b : UInt8) : crcT (l ++ [b]) = crcN 8 (crcT l ^^^ b.toNat) := by unfold crcT; rw [List.foldl_append]; rfl
theorem crc_lt (l : List UInt8) : crc l < 4294967296 := xor32_lt (crcT_lt l) (by decide)
theorem ofInt32 (a : Nat) (ha : a < 4294967296) : (BitVec.ofInt 32 (a : Int)).toNat = a := by
  rw [BitVec.ofInt_natCast, BitVec.toNat_ofNat]; exact Nat.mod_eq_of_lt ha
theorem x32 (a b : Nat) (ha : a < 4294967296) (hb : b < 4294967296) : bits .xor .u32 (a : Int) (b : Int) = ((a ^^^ b : Nat) : Int) := by
  have hx := xor32_lt ha hb
  show IntKind.u32.wrap ((BitVec.ofInt 32 (a : Int) ^^^ BitVec.ofInt 32 (b : Int)).toNat : Int) = _
  rw [BitVec.toNat_xor, ofInt32 a ha, ofInt32 b hb, IntKind.wrap_u32]; omega
theorem a32 (a b : Nat) (ha : a < 4294967296) (hb : b < 4294967296) : bits .and .u32 (a : Int) (b : Int) = ((a &&& b : Nat) : Int) := by
  have hx : a &&& b < 4294967296 := Nat.and_lt_two_pow (n := 32) _ hb
  show IntKind.u32.wrap ((BitVec.ofInt 32 (a : Int) &&& BitVec.ofInt 32 (b : Int)).toNat : Int) = _
  rw [BitVec.toNat_and, ofInt32 a ha, ofInt32 b hb, IntKind.wrap_u32]; omega
theorem and1 (a : Nat) (ha : a < 4294967296) : bits .and .u32 (a : Int) 1 = ((a % 2 : Nat) : Int) := by
  have := a32 a 1 ha (by decide)
  rw [Nat.and_one_is_mod] at this
  simpa using this
theorem and255 (a : Nat) (ha : a < 4294967296) : bits .and .u32 (a : Int) 255 = ((a % 256 : Nat) : Int) := by
  have := a32 a 255 ha (by decide)
  have e : a &&& 255 = a % 256 := Nat.and_two_pow_sub_one_eq_mod a 8
  rw [e] at this
  simpa using this
theorem take_snoc (l : List UInt8) (k : Nat) (h : k < l.length) : l.take (k + 1) = l.take k ++ [l[k]] := List.take_succ_eq_append_getElem h

set_option maxRecDepth 100000 in
set_option maxHeartbeats 2000000 in
theorem lsum (v : Value) (l : List UInt8) (w : World) (h : Bytes w v l) : Calls Try.prog 33 #[v] w fun e w' => e = .returned (.int .u32 (crc l)) ∧ w = w' := by
  have HB := Lib.hid h
  obtain ⟨a, cap, rfl, h1, h2, h3⟩ := h
  have H3 := Lib.hid h3; clear h3
  go_enter Try.func33, Try.ntmps33
  go_wp2_with fail
  go_loop [3, 8] (fun v i => ∃ k c : Nat, i = .int .i64 k ∧ k ≤ l.length ∧ v = .int .u32 (c : Int) ∧ c < 4294967296 ∧ Hid (c = crcT (l.take k))) (fun _ i => l.length - (intOf i).toNat)
  case atStart => exact ⟨0, 4294967295, by simp, by omega, by simp, by decide, Lib.hid (by simp [crcT])⟩
  case round =>
    obtain ⟨k, c, rfl, hk, rfl, hc, HC⟩ := hrel
    by_cases hlt : k < l.length
    · have t1 : decide ((k : Int) < (l.length : Int)) = true := by simpa using hlt
      obtain ⟨b, off, rfl, hb, hr⟩ := H3.out (by omega)
      have hcell : w.cell? ⟨b, off + k, none⟩ = some (.int .u8 (l[k].toNat : Int)) := hr k _ (by simp [u8s, hlt])
      have hx0 : (0 : Int) ≤ (l[k].toNat : Int) := by omega
      have hx1 : (l[k].toNat : Int) ≤ 255 := by have := l[k].toNat_lt; omega
      have hsn := crcT_snoc (l.take k) l[k]
      rw [← take_snoc l k hlt, ← HC.out] at hsn
      generalize l[k].toNat = x at *
      have HSN := Lib.hid hsn
      have hc0 : (0 : Int) ≤ (c : Int) := by omega
      have hxor := x32 c x hc (by omega)
      have hdl : c ^^^ x < 4294967296 := xor32_lt hc (by omega)
      clear hr hsn
      generalize c ^^^ x = d at *
      clear hc
      go_upto_region 7 with (fail)
      go_wp2_with fail
      go_loop [3, 16] (fun v j => ∃ m : Nat, j = .int .i64 m ∧ m ≤ 8 ∧ v = .int .u32 ((crcN m d : Nat) : Int)) (fun _ j => 8 - (intOf j).toNat)
      case atStart => exact ⟨0, by simp, by omega, by simp [crcN]⟩
      case round =>
        obtain ⟨m, rfl, hm, rfl⟩ := hrel
        by_cases hm8 : m < 8
        · have t2 : decide ((m : Int) < 8) = true := by simp; omega
          have hE : crcN (m + 1) d = crcBit (crcN m d) := rfl
          have hEl := crcN_lt hdl m
          generalize hE0 : crcN m d = q at *
          have HE := Lib.hid hE; have HE0 := Lib.hid hE0; clear hE hE0
          have hq0 : (0 : Int) ≤ (q : Int) := by omega
          have hq1 : (q : Int) < 4294967296 := by omega
          have hand := and1 q hEl
          rcases Nat.mod_two_eq_zero_or_one q with hp | hp
          · have hv : crcBit q = q / 2 := by unfold crcBit; rw [if_neg (by omega), Nat.xor_zero]
            rw [hp] at hand
            have HV := Lib.hid hv; have HP := Lib.hid hp; clear hv hp
            have hx2 := x32 (q / 2) 0 (by omega) (by decide)
            have hx3 := a32 3988292384 0 (by decide) (by decide)
            have hqd : ((q / 2 : Nat) : Int) = (q : Int) / 2 := by omega
            rw [hqd, Nat.xor_zero, hqd] at hx2
            simp at hand hx3 hx2
            clear hqd
            go_wp2_with fail
            go_round
            case rel => exact ⟨m + 1, by simp [go_sem], by omega, by first | (rw [HE.out, HV.out]; done) | (rw [HE.out, HV.out]; go_num)⟩
            case measure => simp [intOf]; omega
          · have hv : crcBit q = q / 2 ^^^ 3988292384 := by unfold crcBit; rw [if_pos hp]
            rw [hp] at hand
            have HV := Lib.hid hv; have HP := Lib.hid hp; clear hv hp
            have hx2 := x32 (q / 2) 3988292384 (by omega) (by decide)
            have hx3 := a32 3988292384 4294967295 (by decide) (by decide)
            have hqd : ((q / 2 : Nat) : Int) = (q : Int) / 2 := by omega
            rw [hqd] at hx2
            rw [show (3988292384 &&& 4294967295 : Nat) = 3988292384 from by decide] at hx3
            simp at hand hx3 hx2
            clear hqd
            go_wp2_with fail
            go_round
            case rel => exact ⟨m + 1, by simp [go_sem], by omega, by first | (rw [HE.out, HV.out]; done) | (rw [HE.out, HV.out]; first | rfl | go_num)⟩
            case measure => simp [intOf]; omega
        · have hm9 : m = 8 := by omega
          subst hm9
          have t2 : decide (((8 : Nat) : Int) < 8) = false := by decide
          have hEl := crcN_lt hdl 8
          go_wp2_with fail
          go_round
          case rel => exact ⟨k + 1, crcN 8 d, by simp [go_sem], by omega, rfl, hEl, Lib.hid HSN.out.symm⟩
          case measure => simp [intOf]; omega
    · have hke : k = l.length := by omega
      subst hke
      have t1 : decide ((l.length : Int) < (l.length : Int)) = false := by simp
      have hcc := HC.out
      rw [List.take_length] at hcc
      have hfin : crc l = c ^^^ 4294967295 := by unfold crc; rw [hcc]
      have HFIN := Lib.hid hfin
      have hx4 : bits .xor .u32 IntKind.u32.max (c : Int) = ((c ^^^ 4294967295 : Nat) : Int) := by
        have := x32 4294967295 c (by decide) hc
        rw [Nat.xor_comm] at this
        exact this
      clear hcc hfin
      go_wp2
      go_ret
      exact ⟨by rw [HFIN.out]; rfl, rfl⟩

theorem xor_div256 {c x : Nat} (hx : x < 256) : (c ^^^ x) / 256 = c / 256 := by
  have h : (c ^^^ x) >>> 8 = c >>> 8 ^^^ x >>> 8 := by
    apply Nat.eq_of_testBit_eq
    intro i
    simp only [Nat.testBit_shiftRight, Nat.testBit_xor]
  simp only [Nat.shiftRight_eq_div_pow, show (2 : Nat) ^ 8 = 256 from rfl] at h
  rw [h, show x / 256 = 0 from by omega, Nat.xor_zero]
set_option maxRecDepth 100000 in
set_option maxHeartbeats 2000000 in
theorem rsum (v : Value) (l : List UInt8) (w : World) (h : Bytes w v l) : Calls Try.prog 34 #[v] w fun e w' => e = .returned (.int .u32 (crc l)) ∧ w = w' := by
  have HB := Lib.hid h
  obtain ⟨a, cap, rfl, h1, h2, h3⟩ := h
  have H3 := Lib.hid h3; clear h3
  go_enter Try.func34, Try.ntmps34
  go_wp2_with fail
  go_loop [3, 4] (fun v i => ∃ k c : Nat, i = .int .i64 k ∧ k ≤ l.length ∧ v = .int .u32 (c : Int) ∧ c < 4294967296 ∧ Hid (c = crcT (l.take k))) (fun _ i => l.length - (intOf i).toNat)
  case atStart => exact ⟨0, 4294967295, by simp, by omega, by simp, by decide, Lib.hid (by simp [crcT])⟩
  case round =>
    obtain ⟨k, c, rfl, hk, rfl, hc, HC⟩ := hrel
    by_cases hlt : k < l.length
    · have t1 : decide ((k : Int) < (l.length : Int)) = true := by simpa using hlt
      obtain ⟨b, off, rfl, hb, hr⟩ := H3.out (by omega)
      have hcell : w.cell? ⟨b, off + k, none⟩ = some (.int .u8 (l[k].toNat : Int)) := hr k _ (by simp [u8s, hlt])
      have hx0 : (0 : Int) ≤ (l[k].toNat : Int) := by omega
      have hx1 : (l[k].toNat : Int) ≤ 255 := by have := l[k].toNat_lt; omega
      have hsn := crcT_snoc (l.take k) l[k]
      rw [← take_snoc l k hlt, ← HC.out, crc_table, xor_div256 (by omega)] at hsn
      generalize l[k].toNat = x at *
      have hc0 : (0 : Int) ≤ (c : Int) := by omega
      have hc1 : (c : Int) < 4294967296 := by omega
      have hi0 : (0 : Int) ≤ (k : Int) := by omega
      have hi1 : (k : Int) < (l.length : Int) := by omega
      have hxor := x32 c x hc (by omega)
      have hdl : c ^^^ x < 4294967296 := xor32_lt hc (by omega)
      have hand := and255 (c ^^^ x) hdl
      have hdd : (c ^^^ x) % 256 < 4294967296 := by omega
      have HSN := Lib.hid hsn
      clear hr hsn
      have HDL := Lib.hid hdl; clear hdl
      generalize (c ^^^ x) % 256 = d at *
      have HC' := Lib.hid hc; clear hc
      go_upto_region 6 with (fail)
      clear hxor hand
      go_wp2_with fail
      go_loop [5, 6] (fun v j => ∃ m : Nat, j = .int .i64 m ∧ m ≤ 8 ∧ v = .int .u32 ((crcN m d : Nat) : Int)) (fun _ j => 8 - (intOf j).toNat)
      case atStart => exact ⟨0, by simp, by omega, by simp [crcN]⟩
      case round =>
        obtain ⟨m, rfl, hm, rfl⟩ := hrel
        by_cases hm8 : m < 8
        · have t2 : decide ((m : Int) < 8) = true := by simp; omega
          have hE : crcN (m + 1) d = crcBit (crcN m d) := rfl
          have hEl := crcN_lt hdd m
          generalize hE0 : crcN m d = q at *
          have HE := Lib.hid hE; have HE0 := Lib.hid hE0; clear hE hE0
          have hq0 : (0 : Int) ≤ (q : Int) := by omega
          have hq1 : (q : Int) < 4294967296 := by omega
          rcases Nat.mod_two_eq_zero_or_one q with hp | hp
          · have hv : crcBit q = q / 2 := by unfold crcBit; rw [if_neg (by omega), Nat.xor_zero]
            have hq2 : ((q : Int) % 2 == 1) = false := by simp; omega
            have HV := Lib.hid hv; have HP := Lib.hid hp; clear hv hp
            go_wp2_with fail
            go_round
            case rel => exact ⟨m + 1, by simp [go_sem], by omega, by first | (rw [HE.out, HV.out]; done) | (rw [HE.out, HV.out]; go_num)⟩
            case measure => simp [intOf]; omega
          · have hv : crcBit q = q / 2 ^^^ 3988292384 := by unfold crcBit; rw [if_pos hp]
            have hq2 : ((q : Int) % 2 == 1) = true := by simp; omega
            have HV := Lib.hid hv; have HP := Lib.hid hp; clear hv hp
            have hx2 := x32 (q / 2) 3988292384 (by omega) (by decide)
            have hqd : ((q / 2 : Nat) : Int) = (q : Int) / 2 := by omega
            rw [hqd] at hx2
            simp at hx2
            clear hqd
            go_wp2_with fail
            go_round
            case rel => exact ⟨m + 1, by simp [go_sem], by omega, by first | (rw [HE.out, HV.out]; done) | (rw [HE.out, HV.out]; go_num)⟩
            case measure => simp [intOf]; omega
        · have hm9 : m = 8 := by omega
          subst hm9
          have t2 : decide (((8 : Nat) : Int) < 8) = false := by decide
          have hEl := crcN_lt hdd 8
          have hx5 := x32 (c / 256) (crcN 8 d) (by have := HC'.out; omega) hEl
          have hlt9 : c / 256 ^^^ crcN 8 d < 4294967296 := xor32_lt (by have := HC'.out; omega) hEl
          have hqd : ((c / 256 : Nat) : Int) = (c : Int) / 256 := by omega
          rw [hqd] at hx5
          clear hqd
          generalize c / 256 ^^^ crcN 8 d = q9 at *
          go_wp2_with fail
          go_round
          case rel => exact ⟨k + 1, q9, by simp [go_sem], by omega, rfl, hlt9, Lib.hid HSN.out.symm⟩
          case measure => simp [intOf]; omega
    · have hke : k = l.length := by omega
      subst hke
      have t1 : decide ((l.length : Int) < (l.length : Int)) = false := by simp
      have hcc := HC.out
      rw [List.take_length] at hcc
      have hfin : crc l = c ^^^ 4294967295 := by unfold crc; rw [hcc]
      have HFIN := Lib.hid hfin
      have hx4 := x32 c 4294967295 hc (by decide)
      simp at hx4
      clear hcc hfin
      go_wp2
      go_ret
      exact ⟨by rw [HFIN.out]; rfl, rfl⟩
end Go.Proofs.Ytlkglhgndfhjeaa

