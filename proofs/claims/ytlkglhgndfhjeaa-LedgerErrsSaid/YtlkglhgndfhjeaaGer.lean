/- columbarylaw02.LedgerErrs: the walk. -/
import Derived.Test.YtlkglhgndfhjeaaGlu
import Derived.Deep.CutRange
import Derived.Deep.Cut
namespace Go.Proofs.Ytlkglhgndfhjeaa
open Go Go.RowKit
set_option linter.unusedVariables false
set_option linter.unusedSimpArgs false
set_option maxRecDepth 100000

/-- No such blocks. -/
theorem open_bad (W : World) (X : Nat → Prop) (d m : Nat) (V : List (List UInt8)) (q : Bool) (a c : Int) (w : World) (h : DX W X w d V m q) (hV : V.length ≤ 100000) (ha : -9223372036854775808 ≤ a ∧ a ≤ 9223372036854775807) (hc : -9223372036854775808 ≤ c ∧ c ≤ 9223372036854775807) (hb : a < 0 ∨ c < 4 ∨ c % 2 ≠ 0 ∨ (V.length : Int) - a < c) :
    Calls Try.prog 35 #[.pointer (some ⟨d, 0, none⟩), .int .i64 a, .int .i64 c] w fun e w' => e = .returned (.tuple #[.pointer none, .slice none 0 0, .slice none 0 0, .int .i64 1]) ∧ w = w' := by
  have hl := dlen_v W X d m V q w h
  have HL := Lib.hid hl; clear hl h
  obtain ⟨ha0, ha1⟩ := ha
  obtain ⟨hc0, hc1⟩ := hc
  have hv0 : (0 : Int) ≤ (V.length : Int) := by omega
  have hv1 : (V.length : Int) ≤ 100000 := by omega
  by_cases h1 : a < 0
  · clear hb
    go_enter Try.func35, Try.ntmps35
    go_wp2_with fail
    exact bodyPost_ret (v := .tuple #[.pointer none, .slice none 0 0, .slice none 0 0, .int .i64 1]) (by simp [results, Try.results35, go_sem]) rfl ⟨rfl, rfl⟩
  · by_cases h2 : c < 4
    · have h1' : 0 ≤ a := by omega
      clear hb h1
      go_enter Try.func35, Try.ntmps35
      go_wp2_with fail
      exact bodyPost_ret (v := .tuple #[.pointer none, .slice none 0 0, .slice none 0 0, .int .i64 1]) (by simp [results, Try.results35, go_sem]) rfl ⟨rfl, rfl⟩
    · have h1' : 0 ≤ a := by omega
      have h2' : 4 ≤ c := by omega
      by_cases h3 : c % 2 = 0
      · have h4 : (V.length : Int) - a < c := by omega
        have q3 : (c % 2 != 0) = false := by simp [h3]
        have q4 : decide ((V.length : Int) - a < c) = true := by simpa using h4
        have z1 : IntKind.i64.wrap ((V.length : Int) - a) = (V.length : Int) - a := by rw [IntKind.wrap_i64]; omega
        clear hb h1 h2 h3 h4
        go_enter Try.func35, Try.ntmps35
        go_wp2_with fail
        refine HL.out.mono ?_
        rintro e w1 ⟨rfl, rfl⟩
        go_wp2_with fail
        exact bodyPost_ret (v := .tuple #[.pointer none, .slice none 0 0, .slice none 0 0, .int .i64 1]) (by simp [results, Try.results35, go_sem]) rfl ⟨rfl, rfl⟩
      · have q3 : (c % 2 != 0) = true := by simp [h3]
        clear hb h1 h2 h3
        go_enter Try.func35, Try.ntmps35
        go_wp2_with fail
        exact bodyPost_ret (v := .tuple #[.pointer none, .slice none 0 0, .slice none 0 0, .int .i64 1]) (by simp [results, Try.results35, go_sem]) rfl ⟨rfl, rfl⟩
/-- The power is off. -/
theorem open_crash (W : World) (X : Nat → Prop) (d : Nat) (st : Dk) (w : World) (h : OwnX W X w d st) (ho : st.off = true) (hn : st.sure.length = 20) :
    Calls Try.prog 35 #[.pointer (some ⟨d, 0, none⟩), .int .i64 0, .int .i64 20] w fun e w' => e = .returned (.tuple #[.pointer none, .slice none 0 0, .slice none 0 0, .int .i64 12]) ∧ Only (fun _ => False) w w' := by
  have hl := dlen_any _ d st w h.at_
  rw [hn, show ((20 : Nat) : Int) = 20 from rfl] at hl
  have hlk : lookE st 0 = 12 := by unfold lookE; rw [hn, ho]; rfl
  have o1 := (Only.refl (fun _ => False) w).alloc (.cells #[.pointer (some ⟨d, 0, none⟩), .int .i64 0, .int .i64 10, .int .i64 0, .int .u64 0, .slice none 0 0, .int .i64 0, .int .i64 0] 92)
  have hrd := read_look _ d st 0 _ (h.at_.only o1 (fun _ _ _ h => h)) (by rw [hlk]; decide)
  rw [hlk] at hrd
  have HL := Lib.hid hl; have HRD := Lib.hid hrd; have O1 := Lib.hid o1
  clear hl hrd o1 h ho hn hlk
  go_enter Try.func35, Try.ntmps35
  go_wp2_with fail
  refine HL.out.mono ?_
  rintro e w1 ⟨rfl, rfl⟩
  go_wp2_with fail
  go_loopw [46] (fun v wr => v = .int .i64 0 ∧ wr = w.alloc (.cells #[.pointer (some ⟨d, 0, none⟩), .int .i64 0, .int .i64 10, .int .i64 0, .int .u64 0, .slice none 0 0, .int .i64 0, .int .i64 0] 92)) (fun v _ => 0)
  case atStart => exact ⟨rfl, rfl⟩
  case round =>
    obtain ⟨rfl, rfl⟩ := hrel
    go_wp2_with fail
    refine HRD.out.mono ?_
    rintro e w2 ⟨rfl, o2⟩
    have O2 := Lib.hid (O1.out.trans o2); clear o2
    go_wp2_with fail
    exact bodyPost_ret (v := .tuple #[.pointer none, .slice none 0 0, .slice none 0 0, .int .i64 12]) (by simp [results, Try.results35, go_sem]) rfl ⟨rfl, O2.out⟩
/-- Armed, the next Sync ends it. -/
theorem arm_x (W : World) (X : Nat → Prop) (d m : Nat) (V : List (List UInt8)) (q : Bool) (w : World) (h : DX W X w d V m q) (hm : m + 1 ≤ 1000000000) :
    Calls Try.prog 23 #[.pointer (some ⟨d, 0, none⟩), .int .i64 1] w fun e w' => e = .returned (.int .i64 0) ∧ (∃ st, OwnX W X w' d st ∧ st.off = false ∧ st.armed = 1 ∧ Fine st m ∧ st.sure.length = V.length) ∧ Only (fun k => W.heap.size ≤ k ∧ ¬ X k) w w' := by
  obtain ⟨st, ⟨F, g1, g2, g3⟩, rfl, h3, h4, h5, h6, h7⟩ := h
  have hFd := g1.2.2.1
  refine (arm_any F d st 1 w g1 (by decide)).mono ?_
  rintro e w' ⟨he, hd, ho⟩
  obtain ⟨k1, k2⟩ := OwnX.of g3 g2 (fun k hk => ⟨(g2 k hk).1, Nat.lt_of_lt_of_le (g2 k hk).2.1 ho.size, (g2 k hk).2.2⟩) hd (ho.mono (fun k _ e => by subst e; exact hFd))
  exact ⟨he, ⟨_, k1, h3, rfl, ⟨h5.ops, ⟨(by decide : (0 : Int) ≤ 1), (by decide : (1 : Int) ≤ 9223372036854775807)⟩, h5.wait, h5.ix, h5.small⟩, by rw [view_len]⟩, k2⟩
theorem crash_x (W : World) (X : Nat → Prop) (d m : Nat) (st : Dk) (w : World) (h : OwnX W X w d st) (h1 : st.off = false) (h2 : st.armed = 1) (hf : Fine st m) (hn : 0 < st.sure.length) :
    Calls Try.prog 19 #[.pointer (some ⟨d, 0, none⟩)] w fun e w' => e = .returned (.int .i64 12) ∧ (∃ st', OwnX W X w' d st' ∧ st'.off = true ∧ st'.sure.length = st.sure.length) ∧ Only (fun k => W.heap.size ≤ k ∧ ¬ X k) w w' := by
  have hb : (begun st).off = true := by simp [begun, h2]
  have hs : synced st = begun st := by unfold synced; rw [if_pos hb]
  refine (sync_x W X d st m w h (look0 (by omega) (by omega) h1) hf).mono ?_
  rintro e w' ⟨he, ho, hl⟩
  rw [hb] at he
  rw [hs] at ho
  exact ⟨he, ⟨_, ho, hb, by rw [begun_sure]⟩, hl⟩
def okB (a c : Int) : Bool := decide (0 ≤ a) && decide (4 ≤ c) && decide (c % 2 = 0) && decide (c ≤ 20) && decide (a ≤ 20 - c)
theorem okB_iff (a c : Int) : okB a c = true ↔ 0 ≤ a ∧ 4 ≤ c ∧ c % 2 = 0 ∧ c ≤ 20 ∧ a ≤ 20 - c := by
  simp [okB, and_assoc]
/-- What the second opening answers. -/
theorem open_two (W : World) (d : Nat) (a c : Int) (w : World) (h : DX W (fun _ => False) w d (blank 20) 0 true) (ha : -9223372036854775808 ≤ a ∧ a ≤ 9223372036854775807) (hc : -9223372036854775808 ≤ c ∧ c ≤ 9223372036854775807) :
    Calls Try.prog 35 #[.pointer (some ⟨d, 0, none⟩), .int .i64 a, .int .i64 c] w fun e w' => ∃ lv sv av, e = .returned (.tuple #[lv, sv, av, .int .i64 (if okB a c then 0 else 1)]) ∧ (∃ V m, DX W (fun _ => False) w' d V m true ∧ V.length = 20 ∧ m ≤ 100000) := by
  by_cases hok : okB a c = true
  · obtain ⟨h1, h2, h3, h4, h5⟩ := (okB_iff a c).1 hok
    rw [if_pos hok]
    obtain ⟨a', rfl⟩ := Int.eq_ofNat_of_zero_le h1
    obtain ⟨c', rfl⟩ := Int.eq_ofNat_of_zero_le (show 0 ≤ c by omega)
    obtain ⟨hh, rfl⟩ : ∃ hh, c' = 2 * hh := ⟨c' / 2, by omega⟩
    refine (led_first W _ d 0 a' hh 20 w h (by omega) ⟨by omega, by omega⟩ (by omega) (by decide) (by decide)).mono ?_
    rintro e w' ⟨l', sv, av, X', he, hs, _, _, _⟩
    obtain ⟨V, f, hl, _, _, h3, h4⟩ := hs
    exact ⟨_, _, _, he, V, _, hl.dx.less (fun _ h => h.elim), h3, by omega⟩
  · rw [if_neg hok]
    have hb : a < 0 ∨ c < 4 ∨ c % 2 ≠ 0 ∨ ((blank 20).length : Int) - a < c := by
      rw [okB_iff] at hok
      have : ((blank 20).length : Int) = 20 := rfl
      rw [this]
      by_cases g1 : a < 0
      · exact .inl g1
      · by_cases g2 : c < 4
        · exact .inr (.inl g2)
        · by_cases g3 : c % 2 ≠ 0
          · exact .inr (.inr (.inl g3))
          · refine .inr (.inr (.inr ?_))
            have g3' : c % 2 = 0 := Classical.not_not.1 g3
            rcases Int.lt_or_le (20 - a) c with g | g
            · exact g
            · exact absurd ⟨by omega, by omega, g3', by omega, by omega⟩ hok
    exact (open_bad W _ d 0 (blank 20) true a c w h (by decide) ha hc hb).mono fun e w' ⟨he, hw⟩ => ⟨_, _, _, he, blank 20, 0, hw ▸ h, rfl, by decide⟩
set_option maxHeartbeats 8000000 in
theorem errs02 (a c : Int) (v : Value) (p : List UInt8) (w : World) (ha : -9223372036854775808 ≤ a ∧ a ≤ 9223372036854775807) (hc : -9223372036854775808 ≤ c ∧ c ≤ 9223372036854775807) (hp : Bytes w v p) :
    Calls Try.prog 14 #[.int .i64 a, .int .i64 c, v] w fun e w' => e = .returned (.bool true) ∧ Below w.heap.size w w' := by
  obtain ⟨aP, cap, rfl, hc1, hc2, _⟩ := hp
  have hl0 : (0 : Int) ≤ (p.length : Int) := by omega
  have hl9 : (p.length : Int) ≤ 9223372036854775807 := by omega
  have HA := Lib.hid ha; have HC := Lib.hid hc
  obtain ⟨ha0, ha1⟩ := ha
  obtain ⟨hcc0, hcc1⟩ := hc
  by_cases h100 : 100 < p.length
  · have t2 : decide ((100 : Int) < (p.length : Int)) = true := by simp; omega
    have t2' : decide (100 < p.length) = true := by simp; omega
    clear h100
    go_enter Try.func14, Try.ntmps14
    go_wp2_with fail
    refine (awake02 w).mono ?_
    rintro e w1 ⟨rfl, o1⟩
    have O1 := Lib.hid o1; clear o1
    go_wp2_with fail
    refine (awake02 w1).mono ?_
    rintro e w2 ⟨rfl, o2⟩
    have O2 := Lib.hid (O1.out.trans o2); clear o2
    go_wp2_with fail
    go_ret
    exact ⟨rfl, O2.out.still⟩
  · have t2 : decide ((100 : Int) < (p.length : Int)) = false := by simp; omega
    have t2' : decide (100 < p.length) = false := by simp; omega
    clear h100
    go_enter Try.func14, Try.ntmps14
    go_wp2_with fail
    refine (awake02 w).mono ?_
    rintro e w1 ⟨rfl, o1⟩
    have hnw := new_v w 20 w1 o1 (by decide) (by decide)
    rw [show ((20 : Nat) : Int) = 20 from rfl] at hnw
    have HNW := Lib.hid hnw; clear hnw o1
    go_wp2_with fail
    refine (open_nil a c w1).mono ?_
    rintro e w2 ⟨rfl, rfl⟩
    go_wp2_with fail
    refine HNW.out.mono ?_
    rintro e w3 ⟨d, rfl, hd, _⟩
    have hop := open_two w d a c w3 hd HA.out HC.out
    obtain ⟨ok, hok⟩ : ∃ ok, okB a c = ok := ⟨_, rfl⟩
    rw [hok] at hop
    have hiff := okB_iff a c
    rw [hok] at hiff
    have HOP := Lib.hid hop; have HIF := Lib.hid hiff
    clear hop hok hiff hd
    obtain ⟨fc, hfc⟩ : ∃ fc : Int, (if ok = true then (0 : Int) else 1) = fc := ⟨_, rfl⟩
    rw [hfc] at HOP
    have HFC := Lib.hid hfc; clear hfc
    go_wp2_with fail
    refine HOP.out.mono ?_
    rintro e w4 ⟨lv, sv, av, rfl, V, m, hd4, hV, hm⟩
    have har := arm_x w _ d m V true w4 hd4 (by omega)
    have HAR := Lib.hid har; have HV := Lib.hid hV
    clear har hd4 hV
    go_upto_region 7 with (fail)
    go_cut [18] from 52 to 72 (fun v w' => v = .bool ok ∧ w' = w4)
    case first =>
      have hi := HIF.out
      cases ok with
      | true =>
        obtain ⟨g1, g2, g3, g4, g5⟩ := hi.1 rfl
        have q3 : (c % 2 == 0) = true := by simp [g3]
        clear hi g3
        go_wp2
        go_meet
        case rel => exact ⟨rfl, rfl⟩
      | false =>
        have hn : ¬ (0 ≤ a ∧ 4 ≤ c ∧ c % 2 = 0 ∧ c ≤ 20 ∧ a ≤ 20 - c) := fun h => by have := hi.2 h; cases this
        clear hi
        by_cases g1 : 0 ≤ a
        · by_cases g2 : 4 ≤ c
          · by_cases g3 : c % 2 = 0
            · have q3 : (c % 2 == 0) = true := by simp [g3]
              by_cases g4 : c ≤ 20
              · have q5 : decide (a ≤ 20 - c) = false := by simp; omega
                clear hn g3
                go_wp2
                go_meet
                case rel => exact ⟨rfl, rfl⟩
              · have q4 : decide (c ≤ 20) = false := by simpa using g4
                clear hn g3 g4
                go_wp2
                go_meet
                case rel => exact ⟨rfl, rfl⟩
            · have q3 : (c % 2 == 0) = false := by simp [g3]
              clear hn g3
              go_wp2
              go_meet
              case rel => exact ⟨rfl, rfl⟩
          · have q2 : decide (4 ≤ c) = false := by simpa using g2
            clear hn g2
            go_wp2
            go_meet
            case rel => exact ⟨rfl, rfl⟩
        · have q1 : decide (0 ≤ a) = false := by simpa using g1
          clear hn g1
          go_wp2
          go_meet
          case rel => exact ⟨rfl, rfl⟩
    case rest =>
      obtain ⟨rfl, hwc⟩ := hcut
      rw [hwc]
      clear hwc
      go_wp2_with fail
      refine HAR.out.mono ?_
      rintro e w5 ⟨rfl, ⟨st, hx, hs1, hs2, hs3, hs4⟩, _⟩
      have hcr := crash_x w _ d m st w5 hx hs1 hs2 hs3 (by rw [hs4, HV.out]; decide)
      rw [hs4, HV.out] at hcr
      have HCR := Lib.hid hcr; clear hcr hx hs1 hs2 hs3 hs4
      go_wp2_with fail
      refine HCR.out.mono ?_
      rintro e w6 ⟨rfl, ⟨st', hx', ho', hn'⟩, _⟩
      have hoc := open_crash w _ d st' w6 hx' ho' hn'
      have HOC := Lib.hid hoc; have HX := Lib.hid hx'.old; clear hoc hx' ho' hn'
      go_wp2_with fail
      refine HOC.out.mono ?_
      rintro e w7 ⟨rfl, o7⟩
      have O7 := Lib.hid (HX.out.trans o7); clear o7
      have hf := HFC.out
      cases ok with
      | true =>
        have hf : fc = 0 := by rw [← hf]; rfl
        subst hf
        go_wp2_with (first | ((with_reducible refine (append_nil _ _).mono ?_); rintro e w8 ⟨rfl, rfl⟩) | ((with_reducible refine (snap_nil _ _).mono ?_); rintro e w8 ⟨rfl, rfl⟩) | ((with_reducible refine (llen_nil _).mono ?_); rintro e w8 ⟨rfl, rfl⟩) | ((with_reducible refine (lleft_nil _).mono ?_); rintro e w8 ⟨rfl, rfl⟩) | fail)
        go_ret
        exact ⟨rfl, O7.out.still⟩
      | false =>
        have hf : fc = 1 := by rw [← hf]; rfl
        subst hf
        go_wp2_with (first | ((with_reducible refine (append_nil _ _).mono ?_); rintro e w8 ⟨rfl, rfl⟩) | ((with_reducible refine (snap_nil _ _).mono ?_); rintro e w8 ⟨rfl, rfl⟩) | ((with_reducible refine (llen_nil _).mono ?_); rintro e w8 ⟨rfl, rfl⟩) | ((with_reducible refine (lleft_nil _).mono ?_); rintro e w8 ⟨rfl, rfl⟩) | fail)
        go_ret
        exact ⟨rfl, O7.out.still⟩
theorem errs_walk (at_ count : Int) (a : Option Addr) (len cap : Nat) (z : List Int) (w : World) (w1 : (Lit.int .i64 at_).wf = true) (w2 : (Lit.int .i64 count).wf = true) (hr : IsRow .u8 w a len cap z) :
    Calls Try.prog 14 #[.int .i64 at_, .int .i64 count, .slice a len cap] w fun e w' => e = .returned (.bool true) ∧ Below w.heap.size w w' := by
  obtain ⟨l, rfl, hb, _⟩ := bytes_row hr
  exact errs02 at_ count _ l w (i64_bd w1) (i64_bd w2) hb
end Go.Proofs.Ytlkglhgndfhjeaa
