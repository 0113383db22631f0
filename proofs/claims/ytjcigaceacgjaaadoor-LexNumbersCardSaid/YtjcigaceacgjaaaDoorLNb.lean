/- LexNumbers: the walk. -/
import Derived.Test.YtjcigaceacgjaaaDoorLTx
import Derived.Test.YtjcigaceacgjaaaDoorTpn
namespace Go.Proofs.YtjcigaceacgjaaaDoor
open Go Go.RowKit
set_option linter.unusedVariables false
set_option linter.unusedSimpArgs false

theorem one_cat (d : UInt8) (l : List UInt8) : (⟨#[d]⟩ : ByteArray) ++ ⟨l.toArray⟩ = ⟨(d :: l).toArray⟩ := by
  apply ByteArray.ext; simp
theorem conv_one {W : World} {g : Nat} {x : Int} {c : UInt8} {T : TypeId} (h : W.heap[g]? = some (.cells #[.int .u8 x] T (0, 0))) (hx : (c.toNat : Int) = x) : (convert 35 9 (.slice (some ⟨g, 0, none⟩) 1 1)).run Tryd.prog W = .ok (.string ⟨#[c]⟩) W := by
  refine run_convert_bytes_back _ _ _ 5 _ 1 [c] (by kernel_rfl) (by kernel_rfl) (by kernel_rfl) (fun j hj => ?_)
  rw [addr_add]
  match j, hj with
  | 0, _ => simp [World.cell?, h]; exact hx.symm
set_option maxRecDepth 100000 in
set_option maxHeartbeats 8000000 in
theorem lnumbers_walk (n c : Int) (w : World) (hn : (Lit.int .i64 n).wf = true) (hc : (Lit.int .u8 c).wf = true) : Calls Tryd.prog 7 #[.int .i64 n, .int .u8 c] w fun e w' => e = .returned (.bool true) ∧ Below w.heap.size w w' := by
  have A := Lib.hid (awake05 w)
  have hc0 : 0 ≤ c ∧ c ≤ 255 := by simp [Lit.wf, IntKind.min, IntKind.max, IntKind.signed, IntKind.bits] at hc; simpa using hc
  obtain ⟨hc1, hc2⟩ := hc0
  obtain ⟨cu, hcu⟩ : ∃ cu : UInt8, (cu.toNat : Int) = c := ⟨UInt8.ofNat c.toNat, u8_toNat hc1 hc2⟩
  subst hcu
  clear hc hn
  go_enter Tryd.func7, Tryd.ntmps7
  go_wp2_with fail
  refine A.out.mono ?_
  rintro e w1 ⟨rfl, O1⟩
  have HO1 := Lib.hid O1; clear O1 A
  by_cases hb1 : 999999999999999999 < n
  · have t1 : decide (n > 999999999999999999) = true := decide_eq_true hb1
    go_wp2_with fail
    go_ret
    exact ⟨rfl, HO1.out.below (Nat.le_refl _) (fun _ _ h => h)⟩
  have t1 : decide (n > 999999999999999999) = false := decide_eq_false hb1
  by_cases hb2 : n < -999999999999999999
  · have t2 : decide (n < -999999999999999999) = true := decide_eq_true hb2
    go_wp2_with fail
    go_ret
    exact ⟨rfl, HO1.out.below (Nat.le_refl _) (fun _ _ h => h)⟩
  have t2 : decide (n < -999999999999999999) = false := decide_eq_false hb2
  obtain ⟨K, hK⟩ : ∃ K : Nat, n.natAbs = K := ⟨_, rfl⟩
  obtain ⟨neg, hneg⟩ : ∃ neg, decide (n < 0) = neg := ⟨_, rfl⟩
  have hKb : K < 1000000000000000000 := by omega
  have HK := Lib.hid hK; have HNEG := Lib.hid hneg
  have n1 : -999999999999999999 ≤ n := by omega
  have n2 : n ≤ 999999999999999999 := by omega
  clear hK hneg hb1 hb2
  go_upto_if 23 with (fail)
  go_cut [6] from 15 to 25 (fun v w' => v = .int .i64 (K : Int) ∧ w' = w1)
  case first =>
    by_cases h0 : n < 0
    · have t3 : decide (n < 0) = true := decide_eq_true h0
      go_wp2_with fail
      go_meet
      case rel => exact ⟨by have := HK.out; congr 1; omega, by first | rfl | trivial⟩
    · have t3 : decide (n < 0) = false := decide_eq_false h0
      go_wp2_with fail
      go_meet
      case rel => exact ⟨by have := HK.out; congr 1; omega, by first | rfl | trivial⟩
  case rest =>
    obtain ⟨rfl, rfl⟩ := hcut
    clear t1 t2
    go_wp2_with fail
    go_loopw [5, 6] (fun y x wr => ∃ (k : Nat) (l : List UInt8), x = .int .i64 (k : Int) ∧ k < 1000000000000000000 ∧ l.length ≤ 18 ∧ y = .string ⟨l.toArray⟩ ∧ Hid (NumI K k l) ∧ Hid (Only (fun _ => False) w wr)) (fun y x _ => 2 * (intOf x).toNat + (match y with | .string b => (if b.size = 0 then 1 else 0) | _ => 0))
    case atStart => exact ⟨K, [], rfl, hKb, by simp, rfl, Lib.hid (NumI.start K), HO1⟩
    case round =>
      obtain ⟨k, l, rfl, hk, hl18, rfl, NI, OR⟩ := hrel
      by_cases hgo : 0 < k ∨ l = []
      · have hst := NI.out.step hKb hgo
        have hln := hst.len
        have HST := Lib.hid hst; clear hst
        obtain ⟨d, hd⟩ : ∃ d, UInt8.ofNat (48 + k % 10) = d := ⟨_, rfl⟩
        have hdn : (d.toNat : Int) = 48 + (k : Int) % 10 := by have := (dig_of (k % 10) (by omega)).2; rw [hd] at this; omega
        rw [hd] at HST hln
        have HDN := Lib.hid hdn
        clear hd hdn
        have hbx := heap_new wr (.cells #[.int .u8 (48 + (k : Int) % 10)] 5)
        have cA := conv_one hbx HDN.out
        have HA := Lib.hid (OR.out.alloc (.cells #[.int .u8 (48 + (k : Int) % 10)] 5))
        clear hbx
        by_cases hk0 : 0 < k
        · have t3 : decide ((k : Int) > 0) = true := decide_eq_true (by omega)
          go_wp2_with fail
          go_roundw
          case rel => exact ⟨k / 10, d :: l, by simp, by omega, hln, by rw [one_cat], HST, HA⟩
          case measure =>
            rw [one_cat]
            have e : (⟨(d :: l).toArray⟩ : ByteArray).size = l.length + 1 := rfl
            simp only [intOf, e]
            rw [if_neg (by omega)]
            omega
        · have t3 : decide ((k : Int) > 0) = false := decide_eq_false (by omega)
          have hl0 : l = [] := hgo.resolve_left hk0
          subst hl0
          go_wp2_with fail
          go_roundw
          case rel => exact ⟨k / 10, [d], by simp, by omega, hln, congrArg Value.string (one_cat d []), HST, HA⟩
          case measure =>
            rw [show (⟨#[d]⟩ : ByteArray) ++ ⟨#[]⟩ = ⟨[d].toArray⟩ from one_cat d []]
            have e : (⟨[d].toArray⟩ : ByteArray).size = 1 := rfl
            have e0 : (⟨#[]⟩ : ByteArray).size = 0 := rfl
            have e1 : (⟨([] : List UInt8).toArray⟩ : ByteArray).size = 0 := rfl
            simp only [intOf, e, e0, e1]
            rw [if_neg (by omega)]
            simp
            omega
      · have hk0 : k = 0 := by omega
        have hl0 : l ≠ [] := fun h => hgo (.inr h)
        subst hk0
        have hfi := (NI.out.first rfl).resolve_left hl0
        have hfi' : l = [48] ∨ ∃ c r, l = c :: r ∧ c.toNat ≠ 48 := hfi.elim (fun h => .inl h.1) .inr
        have hval := NI.out.val
        have htk := toks_num (neg := neg) NI.out.digs hl0 hl18 hfi'
        have hnn : (if neg then -1 else 1) * (decV 0 l : Int) = n := by
          have h1 := HNEG.out; have h2 := HK.out
          rw [hval]
          cases neg
          · have := of_decide_eq_false h1; simp; omega
          · have := of_decide_eq_true h1; simp; omega
        rw [hnn] at htk
        have htc : ∀ x : UInt8, letB x = true ∨ x.toNat = 46 → toks (sgn neg l ++ [x]) = .bad (sgn neg l).length 4 := fun x hx => toks_numc NI.out.digs hl0 hl18 hfi' hx
        have hsl : (sgn neg l).length ≤ 19 := by rw [len_sgn]; split <;> omega
        obtain ⟨c0, r0, hl⟩ : ∃ c0 r0, l = c0 :: r0 := by cases l with | nil => exact absurd rfl hl0 | cons x y => exact ⟨x, y, rfl⟩
        have HTK := Lib.hid htk; have HTC := Lib.hid htc
        clear hfi hfi' hval htk htc hnn hgo hl0
        subst hl
        have t3 : decide ((0 : Int) > 0) = false := by decide
        go_upto_if 43 with (fail)
        obtain ⟨sb, hsb⟩ : ∃ sb : ByteArray, sb = ⟨(sgn neg (c0 :: r0)).toArray⟩ := ⟨_, rfl⟩
        go_cut [5] from 42 to 45 (fun v w' => v = .string sb ∧ w' = wr)
        case first =>
          have hneg := HNEG.out
          cases neg
          · have h0 : ¬ n < 0 := of_decide_eq_false hneg
            have t4 : decide (n < 0) = false := hneg
            clear hneg
            go_wp2_with fail
            go_meet
            case rel => exact ⟨by rw [hsb]; rfl, by first | rfl | trivial⟩
          · have h0 : n < 0 := of_decide_eq_true hneg
            have t4 : decide (n < 0) = true := hneg
            have hl19 : (⟨(c0 :: r0).toArray⟩ : ByteArray).size ≤ 18 := hl18
            have hl20 : r0.length ≤ 17 := by simpa using hl18
            clear hneg
            go_wp2_with fail
            go_meet
            case rel => exact ⟨by rw [hsb]; exact congrArg Value.string (one_cat 45 (c0 :: r0)), by first | rfl | trivial⟩
        case rest =>
          obtain ⟨rfl, rfl⟩ := hcut
          have hs1 : sb.data.toList = sgn neg (c0 :: r0) := by rw [hsb]
          have hsz : sb.size = (sgn neg (c0 :: r0)).length := by rw [hsb]; rfl
          have hsz2 : sb.size ≤ 19 := by omega
          have hct : ∀ x : UInt8, (sb ++ ⟨#[x]⟩).data.toList = sgn neg (c0 :: r0) ++ [x] := fun x => by rw [← hs1]; simp
          have hcs : ∀ x : UInt8, (sb ++ ⟨#[x]⟩).size ≤ maxLen := fun x => by
            rw [show (sb ++ ⟨#[x]⟩).size = (sb ++ ⟨#[x]⟩).data.toList.length from rfl, hct]
            simp; unfold maxLen; omega
          have T := Lib.hid (tokens_any sb wc (by unfold maxLen; omega))
          rw [hs1, HTK.out] at T
          have HCT := Lib.hid hct; have HCS := Lib.hid hcs; have HSZ := Lib.hid hsz; have HSB := Lib.hid hsb
          clear hs1 hct hcs hsz hsb t3
          go_wp2_with fail
          refine T.out.mono ?_
          rintro e w3 ⟨v, rfl, how, O3⟩
          have TR := Lib.hid (TRow.of_own how (by simp))
          have HO3 := Lib.hid (OR.out.trans O3); clear O3 T how
          obtain ⟨g0, o0, c0, rfl, m1, m2, -⟩ := TR.out.at_ (i := 0) (by simp)
          have hbx := heap_new w3 (.cells #[.int .u8 (cu.toNat : Int)] 5)
          have cA := conv_one hbx rfl
          have HA := Lib.hid (HO3.out.alloc (.cells #[.int .u8 (cu.toNat : Int)] 5))
          have TR2 := Lib.hid (TR.out.still ((Only.refl (fun _ => False) w3).alloc (.cells #[.int .u8 (cu.toNat : Int)] 5)))
          have S := Lib.hid (tokens_any (sb ++ ⟨#[cu]⟩) (w3.alloc (.cells #[.int .u8 (cu.toNat : Int)] 5)) (HCS.out cu))
          rw [HCT.out] at S
          clear hbx TR
          go_wp2_with fail
          by_cases hlc : letB cu = true ∨ cu.toNat = 46
          · rw [HTC.out cu hlc] at S
            refine S.out.mono ?_
            rintro e w4 ⟨rfl, O4⟩
            have HO4 := Lib.hid (HA.out.trans O4); clear O4 S
            have L := Lib.hid (rletter_any cu w4)
            rw [← HSZ.out]
            cases hL : letB cu
            · have h46 : (cu.toNat : Int) = 46 := by rcases hlc with h | h; rw [hL] at h; cases h; omega
              rw [hL, h46] at L
              clear hL hlc
              go_wp2_with fail
              refine L.out.mono ?_
              rintro e w5 ⟨rfl, rfl⟩
              go_wp2_with fail
              go_ret
              exact ⟨rfl, HO4.out.below (Nat.le_refl _) (fun _ _ h => h)⟩
            · rw [hL] at L
              clear hL hlc
              go_wp2_with fail
              refine L.out.mono ?_
              rintro e w5 ⟨rfl, rfl⟩
              go_wp2_with fail
              go_ret
              exact ⟨rfl, HO4.out.below (Nat.le_refl _) (fun _ _ h => h)⟩
          · refine S.out.mono ?_
            rintro e w4 hS
            obtain ⟨ta, tn, tc, tx, ty, rfl, O4⟩ := hS.any
            have HO4 := Lib.hid (HA.out.trans O4)
            have TR4 := TR2.out.still O4
            clear O4 S hS
            obtain ⟨g, o, c, hv, k1, k2, k3, HC⟩ := TR4.at_ (i := 0) (by simp)
            injection hv with hv hx1 hx2
            injection hv with hv
            injection hv with e1 e2 e3
            subst e1; subst e2; subst hx2; clear hx1
            have a0 := HC 0 (by simp)
            simp only [List.getElem_cons_zero, List.length_cons, List.length_nil] at a0 k1
            obtain ⟨b1, b2, b3, b4⟩ := a0
            rw [Nat.zero_mul, Nat.add_zero] at b1 b2 b3 b4
            replace b1 : w4.cell? ⟨g0, o0, none⟩ = some (.int .u8 2) := b1
            rw [← HSB.out] at b2
            replace b4 : w4.cell? ⟨g0, o0 + 3, none⟩ = some (.int .i64 0) := b4
            unfold maxLen at k2
            have hL : letB cu = false := by
              cases h : letB cu
              · rfl
              · exact absurd (.inl h) hlc
            have h46 : ¬ (cu.toNat : Int) = 46 := fun h => hlc (.inr (by omega))
            have L := Lib.hid (rletter_any cu w4)
            rw [hL] at L
            clear hL hlc HC TR4
            go_wp2_with fail
            refine L.out.mono ?_
            rintro e w5 ⟨rfl, rfl⟩
            go_wp2_with fail
            clear b1 b2 b3 b4
            go_ret
            exact ⟨rfl, HO4.out.below (Nat.le_refl _) (fun _ _ h => h)⟩
end Go.Proofs.YtjcigaceacgjaaaDoor
