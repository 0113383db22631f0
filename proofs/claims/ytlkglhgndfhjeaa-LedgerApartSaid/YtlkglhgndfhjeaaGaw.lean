/- columbarylaw02.awake. -/
import Derived.Test.YtlkglhgndfhjeaaGlw
namespace Go.Proofs.Ytlkglhgndfhjeaa
open Go Go.RowKit
set_option linter.unusedVariables false
set_option linter.unusedSimpArgs false
set_option maxRecDepth 100000

theorem bytes_lit (w : World) (l : List UInt8) {C : Array Value} {fr : Nat × Nat} (hC : C = (u8s l).toArray) (hl : l.length ≤ 1000) : Bytes (w.alloc (.cells C 5 fr)) (.slice (some ⟨w.heap.size, 0, none⟩) l.length l.length) l := bytes_new w l _ _ _ (Nat.le_refl _) (by omega) hC
theorem crc_nine : crc [49, 50, 51, 52, 53, 54, 55, 56, 57] = 3421780262 := by kernel_rfl
set_option maxHeartbeats 4000000 in
theorem awake02 (w : World) : Calls Try.prog 32 #[] w fun e w' => e = .returned (.bool true) ∧ Only (fun _ => False) w w' := by
  have ho := law_open w 4 w (Only.refl _ _) (by decide)
  rw [show ((2 * 4 : Nat) : Int) = 8 from rfl] at ho
  have HO := Lib.hid ho; clear ho
  have kc := fun (w : World) (C : Array Value) (n c : Nat) => Lib.run_convert_bytes_const (P := Try.prog) w 22 5 C n c Try.underlying22 Try.underlying5
  go_enter Try.func32, Try.ntmps32
  go_wp2_with fail
  refine HO.out.mono ?_
  rintro e w1 ⟨d, l, X1, rfl, hs1, hX1, o1⟩
  have hs1' := hs1.still ((Only.refl _ w1).alloc (.cells #[.int .u8 97] 5 (1, 2)))
  have hb1 := bytes_lit w1 [97] (C := #[.int .u8 97]) (fr := (1, 2)) rfl (by decide)
  have ha1 := led_append w X1 d l 6 1 4 9 [[]] _ [97] _ hs1' hb1 (by decide) (by decide)
  rw [show acode ((4 - 1) * 64) [[]] [97] = 0 from by decide, show afs ((4 - 1) * 64) [[]] [97] = [[], [97]] from by decide] at ha1
  have HA1 := Lib.hid ha1; have O1 := Lib.hid (o1.alloc (.cells #[.int .u8 97] 5 (1, 2))); have HX1 := Lib.hid hX1
  clear hs1 hs1' hb1 ha1 o1 hX1
  go_wp2_with fail
  refine HA1.out.mono ?_
  rintro e w2 ⟨rfl, X2, hs2, hwd2, o2⟩
  have hs2' := hs2.still ((Only.refl _ w2).alloc (.cells #[.int .u8 98] 5 (1, 2)))
  have hb2 := bytes_lit w2 [98] (C := #[.int .u8 98]) (fr := (1, 2)) rfl (by decide)
  have ha2 := led_append w X2 d l 106 1 4 9 [[], [97]] _ [98] _ hs2' hb2 (by decide) (by decide)
  rw [show acode ((4 - 1) * 64) [[], [97]] [98] = 0 from by decide, show afs ((4 - 1) * 64) [[], [97]] [98] = [[], [97], [98]] from by decide] at ha2
  have HA2 := Lib.hid ha2
  clear hs2 hs2' hb2 ha2 o2 hwd2
  go_wp2_with fail
  refine HA2.out.mono ?_
  rintro e w3 ⟨rfl, X3, hs3, hwd3, o3⟩
  have hs3' := hs3.still ((Only.refl _ w3).alloc (.cells #[.int .u8 115] 5 (1, 2)))
  have hb3 := bytes_lit w3 [115] (C := #[.int .u8 115]) (fr := (1, 2)) rfl (by decide)
  have ha3 := led_snap w X3 d l 206 1 4 9 [[], [97], [98]] _ [115] _ hs3' hb3 (by decide) (by decide)
  rw [if_neg (by decide), if_neg (by decide)] at ha3
  have HA3 := Lib.hid ha3
  clear hs3 hs3' hb3 ha3 o3 hwd3
  go_wp2_with fail
  refine HA3.out.mono ?_
  rintro e w4 ⟨rfl, X4, hs4, hwd4, o4⟩
  have hs4' := hs4.still ((Only.refl _ w4).alloc (.cells #[.int .u8 99] 5 (1, 2)))
  have hb4 := bytes_lit w4 [99] (C := #[.int .u8 99]) (fr := (1, 2)) rfl (by decide)
  have ha4 := led_append w X4 d l 212 1 4 9 [[115]] _ [99] _ hs4' hb4 (by decide) (by decide)
  rw [show acode ((4 - 1) * 64) [[115]] [99] = 0 from by decide, show afs ((4 - 1) * 64) [[115]] [99] = [[115], [99]] from by decide] at ha4
  have HA4 := Lib.hid ha4
  clear hs4 hs4' hb4 ha4 o4 hwd4
  go_wp2_with fail
  refine HA4.out.mono ?_
  rintro e w5 ⟨rfl, X5, hs5, hwd5, o5⟩
  have hop := led_open w X5 d l 312 1 4 9 [115] [[99]] w5 hs5 (by decide)
  rw [show ((2 * 4 : Nat) : Int) = 8 from rfl, show ((1 : Nat) : Int) = 1 from rfl] at hop
  have HOP := Lib.hid hop
  clear hs5 hop hwd5 o5
  go_wp2_with fail
  refine HOP.out.mono ?_
  rintro e w6 ⟨l', sv, av, X6, rfl, hs6, hrec, hwd6, hl6, o6⟩
  have hof := of_any _ sv av [115] [[99]] w6 hrec (by decide) (by decide)
  have HOF := Lib.hid hof; have HS6 := Lib.hid hs6.old
  clear hs6 hrec hof hwd6 o6
  go_wp2_with fail
  refine HOF.out.mono ?_
  rintro e w7 ⟨v7, rfl, hk7, o7⟩
  have O7 := Lib.hid (HS6.out.trans o7)
  have hn8 := heap_new w7 (.cells #[.string ⟨#[99]⟩] 9)
  have on8 := (Only.refl (fun _ => False) w7).alloc (.cells #[.string ⟨#[99]⟩] 9)
  have hk8 : KeptV (w7.alloc (.cells #[.string ⟨#[99]⟩] 9)) (fun _ => True) (.agg #[.string ⟨#[115]⟩, .slice (some ⟨w7.heap.size, 0, none⟩) 1 1]) [115] [[99]] :=
    ⟨some ⟨w7.heap.size, 0, none⟩, 1, rfl, by decide, by decide, fun _ => ⟨_, 0, rfl, trivial, by simp, range_of_block (cs := [.string ⟨#[99]⟩]) hn8⟩⟩
  have hsm := same_true _ _ _ _ [115] [[99]] _ (hk7.still on8) hk8 (by decide)
  have HSM := Lib.hid hsm; have O8 := Lib.hid (O7.out.trans on8)
  clear hn8 on8 hk8 hk7 hsm
  go_wp2_with fail
  refine HSM.out.mono ?_
  rintro e w9 ⟨rfl, o9⟩
  have hb9 := bytes_lit w9 [49, 50, 51, 52, 53, 54, 55, 56, 57] (C := #[.int .u8 49, .int .u8 50, .int .u8 51, .int .u8 52, .int .u8 53, .int .u8 54, .int .u8 55, .int .u8 56, .int .u8 57]) (fr := (9, 10)) rfl (by decide)
  have hsu := lsum _ _ _ hb9
  rw [crc_nine, show ((3421780262 : Nat) : Int) = 3421780262 from rfl] at hsu
  have HSU := Lib.hid hsu; have O9 := Lib.hid ((O8.out.trans o9).alloc (.cells #[.int .u8 49, .int .u8 50, .int .u8 51, .int .u8 52, .int .u8 53, .int .u8 54, .int .u8 55, .int .u8 56, .int .u8 57] 5 (9, 10)))
  clear hb9 hsu o9
  go_wp2_with fail
  refine HSU.out.mono ?_
  rintro e w10 ⟨rfl, rfl⟩
  go_wp2_with fail
  refine (need_any 5 _ (by decide) (by decide)).mono ?_
  rintro e w11 ⟨rfl, rfl⟩
  go_wp2_with fail
  go_ret
  exact ⟨rfl, O9.out⟩
theorem sums_walk (a : Option Addr) (len cap : Nat) (z : List Int) (w : World) (hr : IsRow .u8 w a len cap z) :
    Calls Try.prog 10 #[.slice a len cap] w fun e w' => e = .returned (.bool true) ∧ Below w.heap.size w w' := by
  obtain ⟨l, rfl, hb, _⟩ := bytes_row hr
  have HB := Lib.hid hb; clear hb hr
  go_enter Try.func10, Try.ntmps10
  go_wp2_with fail
  refine (awake02 w).mono ?_
  rintro e w1 ⟨rfl, o1⟩
  have O1 := Lib.hid o1; have hs := lsum _ l w1 (HB.out.still o1); have hr := rsum _ l w1 (HB.out.still o1)
  generalize crc l = c at hs hr
  have HS := Lib.hid hs; have HR := Lib.hid hr; clear hs hr o1
  go_wp2_with fail
  refine HS.out.mono ?_
  rintro e w2 ⟨rfl, rfl⟩
  go_wp2_with fail
  refine HR.out.mono ?_
  rintro e w3 ⟨rfl, rfl⟩
  go_wp2_with fail
  go_ret
  exact ⟨rfl, O1.out.still⟩
end Go.Proofs.Ytlkglhgndfhjeaa
