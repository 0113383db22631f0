/- Package ledger: put, get, number, header, mark, frame. -/
import Derived.Test.YtlkglhgndfhjeaaLdp
import Derived.Test.YtlkglhgndfhjeaaMkB
import Derived.Deep.QuietTactic
namespace Go.Proofs.Ytlkglhgndfhjeaa
open Go Go.RowKit
set_option linter.unusedVariables false
set_option linter.unusedSimpArgs false
set_option maxRecDepth 100000

theorem put_cells (n : Nat) (hn : n < 4294967296) : u8s (put32 n) = [.int .u8 ((n : Int) / 16777216), .int .u8 ((n : Int) / 65536 % 256), .int .u8 ((n : Int) / 256 % 256), .int .u8 ((n : Int) % 256)] := by
  have e : ∀ m : Nat, m < 256 → (((UInt8.ofNat m).toNat : Nat) : Int) = (m : Int) := fun m hm => by simp; omega
  simp only [u8s, put32, List.map_cons, List.map_nil]
  rw [e _ (by omega), e _ (by omega), e _ (by omega), e _ (by omega)]
  have hd : n / 16777216 % 256 = n / 16777216 := by omega
  rw [hd]
  simp
theorem put_any (n : Nat) (hn : n < 4294967296) (w : World) : Calls Try.prog 63 #[.int .u32 (n : Int)] w (Makes w (put32 n)) := by
  have h0 : (0 : Int) ≤ (n : Int) := by omega
  have h1 : (n : Int) < 4294967296 := by omega
  have hc := put_cells n hn
  have hnew := own8_new w (put32 n) (B := w.heap.size) (Nat.le_refl _) (by unfold maxLen; simp [put32]) (C := #[.int .u8 ((n : Int) / 16777216), .int .u8 ((n : Int) / 65536 % 256), .int .u8 ((n : Int) / 256 % 256), .int .u8 ((n : Int) % 256)]) (by rw [hc])
  have HNEW := Lib.hid hnew; clear hc hnew hn
  go_enter Try.func63, Try.ntmps63
  go_wp2
  go_ret
  exact ⟨_, rfl, HNEW.out, (Only.refl _ w).alloc _⟩
theorem or_add {a b i : Nat} (h : b < 2 ^ i) (ha : a % 2 ^ i = 0) : a ||| b = a + b := by
  obtain ⟨q, rfl⟩ := Nat.dvd_of_mod_eq_zero ha
  exact (Nat.two_pow_add_eq_or_of_lt h q).symm
theorem o32 (a b : Nat) (ha : a < 4294967296) (hb : b < 4294967296) : bits .or .u32 (a : Int) (b : Int) = ((a ||| b : Nat) : Int) := by
  have hx : a ||| b < 4294967296 := Nat.or_lt_two_pow (n := 32) ha hb
  show IntKind.u32.wrap ((BitVec.ofInt 32 (a : Int) ||| BitVec.ofInt 32 (b : Int)).toNat : Int) = _
  rw [BitVec.toNat_or, ofInt32 a ha, ofInt32 b hb, IntKind.wrap_u32]; omega
/-- Four bytes as a number, in the walk's spelling. -/
theorem or32 (a b c d : Nat) (ha : a < 256) (hb : b < 256) (hc : c < 256) (hd : d < 256) :
    bits .or .u32 ((a : Int) * 16777216) ((b : Int) * 65536) = (a : Int) * 16777216 + (b : Int) * 65536 ∧ bits .or .u32 ((a : Int) * 16777216 + (b : Int) * 65536) ((c : Int) * 256) = (a : Int) * 16777216 + (b : Int) * 65536 + (c : Int) * 256 ∧
    bits .or .u32 ((a : Int) * 16777216 + (b : Int) * 65536 + (c : Int) * 256) (d : Int) = (a : Int) * 16777216 + (b : Int) * 65536 + (c : Int) * 256 + (d : Int) := by
  have e1 := o32 (a * 16777216) (b * 65536) (by omega) (by omega)
  have e2 := o32 (a * 16777216 + b * 65536) (c * 256) (by omega) (by omega)
  have e3 := o32 (a * 16777216 + b * 65536 + c * 256) d (by omega) (by omega)
  rw [or_add (i := 24) (by omega) (by omega)] at e1
  rw [or_add (i := 16) (by omega) (by omega)] at e2
  rw [or_add (i := 8) (by omega) (by omega)] at e3
  have f1 : ((a * 16777216 : Nat) : Int) = (a : Int) * 16777216 := Int.natCast_mul a 16777216
  have f2 : ((b * 65536 : Nat) : Int) = (b : Int) * 65536 := Int.natCast_mul b 65536
  have f3 : ((c * 256 : Nat) : Int) = (c : Int) * 256 := Int.natCast_mul c 256
  have f4 : ((a * 16777216 + b * 65536 : Nat) : Int) = (a : Int) * 16777216 + (b : Int) * 65536 := (Int.natCast_add _ _).trans (by rw [f1, f2])
  have f5 : ((a * 16777216 + b * 65536 + c * 256 : Nat) : Int) = (a : Int) * 16777216 + (b : Int) * 65536 + (c : Int) * 256 := (Int.natCast_add _ _).trans (by rw [f4, f3])
  have f6 : ((a * 16777216 + b * 65536 + c * 256 + d : Nat) : Int) = (a : Int) * 16777216 + (b : Int) * 65536 + (c : Int) * 256 + (d : Int) := (Int.natCast_add _ _).trans (by rw [f5])
  rw [f1, f2, f4] at e1
  rw [f4, f3, f5] at e2
  rw [f5, f6] at e3
  exact ⟨e1, e2, e3⟩
set_option maxHeartbeats 2000000 in
theorem get_any (v : Value) (l : List UInt8) (w : World) (h : Bytes w v l) (h4 : 4 ≤ l.length) : Calls Try.prog 52 #[v] w fun e w' => e = .returned (.int .u32 (get32 l : Int)) ∧ ∃ m, w' = w.drewN m := by
  obtain ⟨a, c, rfl, h1, h2, h3⟩ := h
  obtain ⟨b, off, rfl, hb, hr⟩ := h3 (by omega)
  have hx : ∀ i (hi : i < l.length), w.cell? ⟨b, off + i, none⟩ = some (.int .u8 (l[i].toNat : Int)) := fun i hi => hr i _ (by simp [u8s, hi])
  have c0 : w.cell? ⟨b, off, none⟩ = some (.int .u8 (l[0].toNat : Int)) := hx 0 (by omega)
  have c1 := hx 1 (by omega)
  have c2 := hx 2 (by omega)
  have c3 := hx 3 (by omega)
  have hg : (get32 l : Int) = (l[0].toNat : Int) * 16777216 + (l[1].toNat : Int) * 65536 + (l[2].toNat : Int) * 256 + (l[3].toNat : Int) := by
    have hgn : get32 l = l[0].toNat * 16777216 + l[1].toNat * 65536 + l[2].toNat * 256 + l[3].toNat := by
      unfold get32
      simp only [List.getD_eq_getElem?_getD]
      rw [List.getElem?_eq_getElem (by omega), List.getElem?_eq_getElem (by omega), List.getElem?_eq_getElem (by omega), List.getElem?_eq_getElem (by omega)]
      rfl
    rw [hgn]; omega
  rw [hg]
  clear hg hx hr h3
  have b0 := l[0].toNat_lt; have b1 := l[1].toNat_lt; have b2 := l[2].toNat_lt; have b3 := l[3].toNat_lt
  generalize l[0].toNat = x0 at *
  generalize l[1].toNat = x1 at *
  generalize l[2].toNat = x2 at *
  generalize l[3].toNat = x3 at *
  obtain ⟨o1, o2, o3⟩ := or32 x0 x1 x2 x3 b0 b1 b2 b3
  have q0 : (0 : Int) ≤ (x0 : Int) := by omega
  have q1 : (x0 : Int) ≤ 255 := by omega
  have q2 : (0 : Int) ≤ (x1 : Int) := by omega
  have q3 : (x1 : Int) ≤ 255 := by omega
  have q4 : (0 : Int) ≤ (x2 : Int) := by omega
  have q5 : (x2 : Int) ≤ 255 := by omega
  have q6 : (0 : Int) ≤ (x3 : Int) := by omega
  have q7 : (x3 : Int) ≤ 255 := by omega
  have z0 : IntKind.u32.wrap ((x0 : Int) * 16777216) = (x0 : Int) * 16777216 := by rw [IntKind.wrap_u32]; omega
  have z1 : IntKind.u32.wrap ((x1 : Int) * 65536) = (x1 : Int) * 65536 := by rw [IntKind.wrap_u32]; omega
  have z2 : IntKind.u32.wrap ((x2 : Int) * 256) = (x2 : Int) * 256 := by rw [IntKind.wrap_u32]; omega
  have hl4 : (4 : Int) ≤ (l.length : Int) := by omega
  have i1 : 1 < l.length := by omega
  have i2 : 2 < l.length := by omega
  have i3 : 3 < l.length := by omega
  have i0 : 0 < l.length := by omega
  clear b0 b1 b2 b3
  go_enter Try.func52, Try.ntmps52
  go_upto_region 1 with (fail)
  go_quiet (fail)
  go_wp2
  go_ret
  exact ⟨rfl, _, rfl⟩
theorem number_any (n : Nat) (hn : n < 18446744073709551616) (w : World) : Calls Try.prog 61 #[.int .u64 (n : Int)] w (Makes w (num8 n)) := by
  have p1 := put_any (n / 4294967296 % 4294967296) (by omega)
  have p2 := put_any (n % 4294967296) (by omega)
  have e1 : ((n / 4294967296 % 4294967296 : Nat) : Int) = (n : Int) / 4294967296 % 4294967296 := by simp
  have e2 : ((n % 4294967296 : Nat) : Int) = (n : Int) % 4294967296 := by simp
  rw [e1] at p1
  rw [e2] at p2
  have h0 : (0 : Int) ≤ (n : Int) := by omega
  have P1 := Lib.hid p1; have P2 := Lib.hid p2; have HN := Lib.hid hn; clear p1 p2 e1 e2 hn
  go_enter Try.func61, Try.ntmps61
  go_wp2_with fail
  refine (P1.out _).mono ?_
  rintro e w1 ⟨v1, rfl, h1, o1⟩
  have H1 := Lib.hid h1; have O1 := Lib.hid o1; clear h1 o1
  go_wp2_with fail
  refine (P2.out _).mono ?_
  rintro e w2 ⟨v2, rfl, h2, o2⟩
  have H2 := Lib.hid h2; have O2 := Lib.hid o2; clear h2 o2
  go_wp2_with ((refine wpList_append8 (o := ⟨some 10, _, _, _, _, _⟩) rfl (.tmp 6) (.tmp 9) (by rfl) w.heap.size _ _ (put32 (n / 4294967296 % 4294967296)) (put32 (n % 4294967296)) (by rfl) (by rfl) (H1.out.still O2.out) H2.out.bytes (by simp [put32_len]) (Nat.le_trans O1.out.size O2.out.size) ?_; intro L a3 c3 w3 hL h3 g3))
  go_ret
  have e3 := hL.out
  subst e3
  exact ⟨_, rfl, h3.out, g3.out.step (O1.out.trans O2.out) (fun k hk => .inr (H1.out.ge hk).1)⟩
theorem header_any (t : Nat) (ht : t < 18446744073709551616) (w : World) : Calls Try.prog 54 #[.int .u64 (t : Int)] w (Makes w (hdr t)) := by
  have P := Lib.hid (number_any t ht)
  clear ht
  go_enter Try.func54, Try.ntmps54
  go_wp2_with fail
  refine (P.out _).mono ?_
  rintro e w1 ⟨v1, rfl, h1, o1⟩
  have H1 := Lib.hid h1; have O1 := Lib.hid o1; clear h1 o1
  go_wp2_with fail
  refine (P.out _).mono ?_
  rintro e w2 ⟨v2, rfl, h2, o2⟩
  have H2 := Lib.hid h2; have O2 := Lib.hid o2; clear h2 o2
  go_wp2_with ((refine wpList_append8 (o := ⟨some 7, _, _, _, _, _⟩) rfl (.tmp 4) (.tmp 6) (by rfl) w.heap.size _ _ (num8 t) (num8 t) (by rfl) (by rfl) (H1.out.still O2.out) H2.out.bytes (by simp [num8_len]) (Nat.le_trans O1.out.size O2.out.size) ?_; intro L a3 c3 w3 hL h3 g3))
  go_ret
  have e3 := hL.out
  subst e3
  exact ⟨_, rfl, h3.out, g3.out.step (O1.out.trans O2.out) (fun k hk => .inr (H1.out.ge hk).1)⟩
/-- The sum, but its last byte is 1. -/
theorem mark_bits (c : Nat) (hc : c < 4294967296) : bits .or .u32 (bits .andNot .u32 (c : Int) 255) 1 = ((c / 256 * 256 + 1 : Nat) : Int) := by
  have e1 : bits .andNot .u32 (c : Int) 255 = ((c / 256 * 256 : Nat) : Int) := by
    show IntKind.u32.wrap ((BitVec.ofInt 32 (c : Int) &&& ~~~ BitVec.ofInt 32 255).toNat : Int) = _
    have h255 : (~~~ (BitVec.ofInt 32 255)).toNat = 4294967040 := by decide
    have hcd : c &&& 4294967040 = c / 256 * 256 := by
      apply Nat.eq_of_testBit_eq
      intro i
      have e2 : c / 256 * 256 = (c >>> 8) <<< 8 := by rw [Nat.shiftRight_eq_div_pow, Nat.shiftLeft_eq]
      have e3 : (4294967040 : Nat) = (2 ^ 24 - 1) <<< 8 := by decide
      rw [e2, e3, Nat.testBit_and, Nat.testBit_shiftLeft, Nat.testBit_shiftLeft, Nat.testBit_shiftRight, Nat.testBit_two_pow_sub_one]
      by_cases h : 8 ≤ i
      · by_cases h2 : i < 32
        · have h3 : i - 8 < 24 := by omega
          have h4 : 8 + (i - 8) = i := by omega
          simp [h, h3, h4]
        · have h3 : ¬ i - 8 < 24 := by omega
          have h4 : 8 + (i - 8) = i := by omega
          have h5 : c.testBit i = false := Nat.testBit_lt_two_pow (Nat.lt_of_lt_of_le hc (by
            have : (2 : Nat) ^ 32 ≤ 2 ^ i := Nat.pow_le_pow_right (by decide) (by omega)
            exact this))
          simp [h, h3, h4, h5]
      · simp [h]
    rw [BitVec.toNat_and, ofInt32 c hc, h255, hcd, IntKind.wrap_u32]; omega
  rw [e1]
  have e4 := o32 (c / 256 * 256) 1 (by omega) (by decide)
  rw [or_add (i := 8) (by decide) (by omega)] at e4
  exact e4
set_option maxHeartbeats 1000000 in
theorem mark_any (t n : Nat) (v : Value) (b : List UInt8) (w : World) (ht : t < 18446744073709551616) (hn : n < 4294967296) (h : Bytes w v b) (hb : b.length ≤ 1000000000) :
    Calls Try.prog 62 #[.int .u64 (t : Int), .int .i64 (n : Int), v] w fun e w' => e = .returned (.int .u32 (mark t n b : Int)) ∧ Only (fun _ => False) w w' := by
  have P := Lib.hid (number_any t ht)
  have Q := Lib.hid (put_any n hn)
  have HB := Lib.hid h
  have hn0 : (0 : Int) ≤ (n : Int) := by omega
  have hn1 : (n : Int) < 4294967296 := by omega
  clear ht h hn
  go_enter Try.func62, Try.ntmps62
  go_wp2_with fail
  refine (P.out _).mono ?_
  rintro e w1 ⟨v1, rfl, h1, o1⟩
  have H1 := Lib.hid h1; have O1 := Lib.hid o1; clear h1 o1
  go_wp2_with fail
  refine (Q.out _).mono ?_
  rintro e w2 ⟨v2, rfl, h2, o2⟩
  have H2 := Lib.hid h2; have O2 := Lib.hid o2; clear h2 o2
  go_wp2_with (first | ((refine wpList_append8 (o := ⟨some 12, _, _, _, _, _⟩) rfl (.tmp 8) (.tmp 11) (by rfl) w.heap.size _ _ (num8 t) (put32 n) (by rfl) (by rfl) (H1.out.still O2.out) H2.out.bytes (by simp [num8_len, put32_len]) (Nat.le_trans O1.out.size O2.out.size) ?_); intro L a3 c3 w3 hL h3 g3; have O3 := Lib.hid (g3.out.step (O1.out.trans O2.out) (fun k hk => .inr (H1.out.ge hk).1)); have HL12 : Hid (L.length = 12) := Lib.hid (by rw [hL.out]; rfl)) | ((refine wpList_append8 (o := ⟨some 14, _, _, _, _, _⟩) rfl (.tmp 12) (.tmp 13) (by rfl) w.heap.size _ _ L b (by rfl) (by rfl) h3.out (HB.out.still O3.out) (by have := HL12.out; omega) O3.out.size ?_); intro L2 a4 c4 w4 hL2 h4 g4) | fail)
  have O4 := Lib.hid (g4.out.step O3.out (fun k hk => .inr (h3.out.ge hk).1))
  go_wp2_with fail
  refine (lsum _ L2 w4 h4.out.bytes).mono ?_
  rintro e w5 ⟨rfl, rfl⟩
  have hc := crc_lt L2
  have hm := mark_bits (crc L2) hc
  have hfin : mark t n b = crc L2 / 256 * 256 + 1 := by
    unfold mark; rw [hL2.out, hL.out]
  have HFIN := Lib.hid hfin; have HM := Lib.hid hm; clear hfin hm
  generalize crc L2 = c at *
  go_wp2
  go_ret
  exact ⟨by rw [HFIN.out, ← HM.out]; rfl, O4.out⟩
set_option maxHeartbeats 1000000 in
theorem frame_any (t n : Nat) (v : Value) (p : List UInt8) (w : World) (ht : t < 18446744073709551616) (hn : n < 4294967296) (h : Bytes w v p) (hp : p.length ≤ 900000000) :
    Calls Try.prog 57 #[.int .u64 (t : Int), .int .i64 (n : Int), v] w (Makes w (frm t n p)) := by
  have HB := Lib.hid h
  obtain ⟨a, c, rfl, h1, h2, h3⟩ := h
  have HT := Lib.hid ht; have HN := Lib.hid hn
  have hp0 : (0 : Int) ≤ (p.length : Int) := by omega
  have hp1 : (p.length : Int) ≤ 900000000 := by omega
  have P := Lib.hid (put_any p.length (by omega))
  clear ht hn h3
  go_enter Try.func57, Try.ntmps57
  go_wp2_with fail
  refine (P.out _).mono ?_
  rintro e w1 ⟨v1, rfl, h1, o1⟩
  have H1 := Lib.hid h1; have O1 := Lib.hid o1; clear h1 o1
  go_wp2_with ((refine wpList_append8 (o := ⟨some 13, _, _, _, _, _⟩) rfl (.tmp 11) (.tmp 12) (by rfl) w.heap.size _ _ (put32 p.length) p (by rfl) (by rfl) H1.out (HB.out.still O1.out) (by rw [put32_len]; omega) O1.out.size ?_; intro L a3 c3 w3 hL h3 g3))
  have O3 := Lib.hid (g3.out.step O1.out (fun k hk => .inr (H1.out.ge hk).1))
  have hLl : L.length = 4 + p.length := by rw [hL.out, List.length_append, put32_len]
  have HLL := Lib.hid hLl; clear hLl
  have M := Lib.hid (mark_any t n (.slice a3 L.length c3) L w3 HT.out HN.out h3.out.bytes (by have := HLL.out; omega))
  go_wp2_with fail
  refine M.out.mono ?_
  rintro e w4 ⟨rfl, o4⟩
  have O4 := Lib.hid (O3.out.trans o4); have O34 := Lib.hid o4; clear o4
  have Q := Lib.hid (put_any (mark t n L) (mark_lt t n L).2)
  go_wp2_with fail
  refine (Q.out _).mono ?_
  rintro e w5 ⟨v5, rfl, h5, o5⟩
  have H5 := Lib.hid h5; have O5 := Lib.hid o5; clear h5 o5
  go_wp2_with ((refine wpList_append8 (o := ⟨some 20, _, _, _, _, _⟩) rfl (.tmp 14) (.tmp 19) (by rfl) w.heap.size _ _ L (put32 (mark t n L)) (by rfl) (by rfl) ((h3.out.still O34.out).still O5.out) H5.out.bytes (by rw [put32_len]; have := HLL.out; omega) (Nat.le_trans O4.out.size O5.out.size) ?_; intro L6 a6 c6 w6 hL6 h6 g6))
  go_ret
  have e6 := hL6.out
  have eL := hL.out
  subst e6
  subst eL
  exact ⟨_, rfl, h6.out, g6.out.step (O4.out.trans O5.out) (fun k hk => .inr (h3.out.ge hk).1)⟩
end Go.Proofs.Ytlkglhgndfhjeaa
