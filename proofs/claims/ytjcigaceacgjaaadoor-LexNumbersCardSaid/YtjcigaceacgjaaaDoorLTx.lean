/- LexTexts: the walk. -/
import Derived.Test.YtjcigaceacgjaaaDoorLBl
import Derived.Test.YtjcigaceacgjaaaDoorTpk
import Derived.Laws.IdiomStrings
namespace Go.Proofs.YtjcigaceacgjaaaDoor
open Go Go.RowKit
set_option linter.unusedVariables false
set_option linter.unusedSimpArgs false

def bytesZ (z : List Int) (k : Nat) : List UInt8 := (z.take k).map fun n => UInt8.ofNat n.toNat
theorem bytesZ_succ {z : List Int} {k : Nat} (h : k < z.length) : bytesZ z (k + 1) = bytesZ z k ++ [UInt8.ofNat (z.getD k 0).toNat] := by
  unfold bytesZ
  rw [List.take_succ_eq_append_getElem h, List.map_append, List.map_singleton, List.getD_eq_getElem?_getD, List.getElem?_eq_getElem h]; rfl
theorem bytesZ_len {z : List Int} {k : Nat} (h : k ≤ z.length) : (bytesZ z k).length = k := by
  unfold bytesZ; rw [List.length_map, List.length_take, Nat.min_eq_left h]
theorem u8_toNat {x : Int} (h1 : 0 ≤ x) (h2 : x ≤ 255) : ((UInt8.ofNat x.toNat).toNat : Int) = x := by simp; omega
theorem row_conv {w W : World} {a : Option Addr} {len cap : Nat} {z : List Int} (h : IsRow .u8 w a len cap z) (hW : Only (fun _ => False) w W) : (convert 35 9 (.slice a len cap)).run Tryd.prog W = .ok (.string ⟨(bytesZ z len).toArray⟩) W := by
  by_cases hl : 0 < len
  · obtain ⟨b, off, rfl, _⟩ := row_cell h hW hl
    have hlen := bytesZ_len (row_len h).1
    have := run_convert_bytes_back (P := Tryd.prog) W 35 9 5 ⟨b, off, none⟩ cap (bytesZ z len) (by kernel_rfl) (by kernel_rfl) (by kernel_rfl) (fun j hj => by
      rw [hlen] at hj
      obtain ⟨b', off', e, hc, h1, h2⟩ := row_cell h hW hj
      injection e with e
      injection e with e1 e2
      subst e1; subst e2
      rw [addr_add, hc]
      have hjz : j < z.length := by have := (row_len h).1; omega
      have : (bytesZ z len)[j]'(by rw [hlen]; exact hj) = UInt8.ofNat (z.getD j 0).toNat := by
        simp only [bytesZ, List.getElem_map, List.getElem_take]
        rw [List.getD_eq_getElem?_getD, List.getElem?_eq_getElem hjz]; rfl
      rw [this, u8_toNat h1 h2])
    rw [hlen] at this
    exact this
  · have h0 : len = 0 := by omega
    subst h0
    have e : bytesZ z 0 = [] := by simp [bytesZ]
    rw [e]
    cases a with
    | none => exact run_convert_bytes_nil (P := Tryd.prog) W 35 5 Tryd.underlying35 Tryd.underlying5 0 cap 9 Tryd.underlying9
    | some ad =>
      obtain ⟨b, off, sp⟩ := ad
      have := run_convert_bytes_string (P := Tryd.prog) W 35 9 5 (some ⟨b, off, sp⟩) 0 cap Tryd.underlying35 Tryd.underlying5 Tryd.underlying9
      exact this
def quoZ (z : List Int) (k : Nat) : List UInt8 := 34 :: qB (bytesZ z k)
theorem quoZ_zero (z : List Int) : quoZ z 0 = [34] := by simp [quoZ, bytesZ, qB]
theorem quoZ_succ {z : List Int} {k : Nat} (h : k < z.length) : quoZ z (k + 1) = quoZ z k ++ qB1 (UInt8.ofNat (z.getD k 0).toNat) := by
  unfold quoZ; rw [bytesZ_succ h, qB_snoc]; rfl
theorem quoZ_len {z : List Int} {k : Nat} (h : k ≤ z.length) : (quoZ z k).length ≤ 2 * k + 1 := by
  have := qB_len (bytesZ z k)
  rw [bytesZ_len h] at this
  unfold quoZ; rw [List.length_cons]; omega
set_option maxRecDepth 100000 in
set_option maxHeartbeats 8000000 in
theorem ltexts_walk (a : Option Addr) (len cap : Nat) (z : List Int) (w : World) (hz : IsRow .u8 w a len cap z) : Calls Tryd.prog 6 #[.slice a len cap] w fun e w' => e = .returned (.bool true) ∧ Below w.heap.size w w' := by
  have A := Lib.hid (awake05 w)
  have HZ := Lib.hid hz
  obtain ⟨hlz, hcm, hlc⟩ := row_len hz
  unfold maxLen at hcm
  clear hz
  go_enter Tryd.func6, Tryd.ntmps6
  go_wp2_with fail
  refine A.out.mono ?_
  rintro e w1 ⟨rfl, O1⟩
  have HO1 := Lib.hid O1; clear O1 A
  by_cases hbig : 600 < len
  · have A := Lib.hid (awake05 w1)
    have t1 : decide ((len : Int) > 600) = true := decide_eq_true (by omega)
    go_wp2_with fail
    refine A.out.mono ?_
    rintro e w2 ⟨rfl, O2⟩
    have HO2 := Lib.hid (HO1.out.trans O2); clear O2 A
    go_wp2_with fail
    go_ret
    exact ⟨rfl, HO2.out.below (Nat.le_refl _) (fun _ _ h => h)⟩
  have t1 : decide ((len : Int) > 600) = false := decide_eq_false (by omega)
  have hl6 : len ≤ 600 := by omega
  clear hbig
  go_wp2_with fail
  clear t1
  go_loopw [3, 4] (fun y x wr => ∃ k : Nat, x = .int .i64 (k : Int) ∧ k ≤ len ∧ y = .string ⟨(quoZ z k).toArray⟩ ∧ Hid (Only (fun _ => False) w wr)) (fun _ x _ => len - (intOf x).toNat)
  case atStart => exact ⟨0, rfl, by omega, by rw [quoZ_zero], HO1⟩
  case round =>
    obtain ⟨k, rfl, hk, rfl, OR⟩ := hrel
    by_cases hlt : k < len
    · have t1 : decide ((k : Int) < (len : Int)) = true := decide_eq_true (by omega)
      have hkl : (k : Int) < (len : Int) := by omega
      obtain ⟨b, off, rfl, hc, hz1, hz2⟩ := row_cell HZ.out OR.out hlt
      have hsu := quoZ_succ (z := z) (k := k) (by omega)
      have hal := quoZ_len (z := z) (k := k) (by omega)
      have hu := u8_toNat hz1 hz2
      obtain ⟨ah, hah⟩ : ∃ ah, quoZ z k = ah := ⟨_, rfl⟩
      rw [hah] at hsu hal ⊢
      clear hah
      obtain ⟨zk, hzk⟩ : ∃ zk, z.getD k 0 = zk := ⟨_, rfl⟩
      rw [hzk] at hc hz1 hz2 hu hsu
      clear hzk
      obtain ⟨c, hcc⟩ : ∃ c, UInt8.ofNat zk.toNat = c := ⟨_, rfl⟩
      rw [hcc] at hu hsu
      have HU := Lib.hid hu; have HSU := Lib.hid hsu
      clear hcc hu hsu
      by_cases c1 : zk = 10
      · have t2 : decide (zk = 10) = true := decide_eq_true c1
        have e : ah ++ qB1 c = ah ++ [92, 110] := by have := HU.out; unfold qB1; rw [if_pos (by omega)]
        have HE := Lib.hid (HSU.out.trans e); clear e
        go_wp2_with fail
        go_roundw
        case rel => exact ⟨k + 1, by simp, by omega, by rw [HE.out, ← cat_list], OR⟩
        case measure => simp [intOf]; omega
      · have t2 : decide (zk = 10) = false := decide_eq_false c1
        by_cases c2 : zk = 34 ∨ zk = 92
        · have e : ah ++ qB1 c = ah ++ [92, c] := by have := HU.out; unfold qB1; rw [if_neg (by omega), if_pos (by omega)]
          have HE := Lib.hid (HSU.out.trans e); clear e
          obtain ⟨gb, hgb⟩ : ∃ gb, wr.heap.size = gb := ⟨_, rfl⟩
          have hbx := heap_new wr (.cells #[.int .u8 92, .int .u8 zk] 5)
          rw [hgb] at hbx
          have cA : (convert 35 9 (.slice (some ⟨gb, 0, none⟩) 2 2)).run Tryd.prog (wr.alloc (.cells #[.int .u8 92, .int .u8 zk] 5)) = .ok (.string ⟨#[92, c]⟩) (wr.alloc (.cells #[.int .u8 92, .int .u8 zk] 5)) := by
            refine run_convert_bytes_back _ _ _ 5 _ 2 [92, c] (by kernel_rfl) (by kernel_rfl) (by kernel_rfl) (fun j hj => ?_)
            rw [addr_add]
            match j, hj with
            | 0, _ => simp [World.cell?, hbx]
            | 1, _ => simp [World.cell?, hbx]; exact HU.out.symm
          have HGB := Lib.hid hgb
          rw [← hgb] at cA
          have HA := Lib.hid (OR.out.alloc (.cells #[.int .u8 92, .int .u8 zk] 5))
          clear hbx hgb HGB
          rcases c2 with c2 | c2
          · have t3 : decide (zk = 34) = true := decide_eq_true c2
            subst c2
            go_wp2_with fail
            go_roundw
            case rel => exact ⟨k + 1, by simp, by omega, by rw [HE.out, ← cat_list], HA⟩
            case measure => simp [intOf]; omega
          · have t3 : decide (zk = 92) = true := decide_eq_true c2
            subst c2
            go_wp2_with fail
            go_roundw
            case rel => exact ⟨k + 1, by simp, by omega, by rw [HE.out, ← cat_list], HA⟩
            case measure => simp [intOf]; omega
        · have e : ah ++ qB1 c = ah ++ [c] := by have := HU.out; unfold qB1; rw [if_neg (by omega), if_neg (by omega)]
          have HE := Lib.hid (HSU.out.trans e); clear e
          have n1 : ¬ zk = 34 := fun h => c2 (.inl h)
          have n2 : ¬ zk = 92 := fun h => c2 (.inr h)
          have cA : ∀ cp, (convert 35 9 (.slice (some ⟨b, off + k, none⟩) 1 cp)).run Tryd.prog wr = .ok (.string ⟨#[c]⟩) wr := fun cp => by
            refine run_convert_bytes_back _ _ _ 5 _ cp [c] (by kernel_rfl) (by kernel_rfl) (by kernel_rfl) (fun j hj => ?_)
            rw [addr_add]
            match j, hj with
            | 0, _ => rw [Nat.add_zero, hc]; simp; exact HU.out.symm
          clear c2
          have hkc : (k : Int) + 1 ≤ (cap : Int) := by omega
          have hkc2 : (k : Int) < (cap : Int) := by omega
          have hkc3 : k < cap := by omega
          go_wp2_with fail
          go_roundw
          case rel => exact ⟨k + 1, by simp, by omega, by rw [HE.out, ← cat_list], OR⟩
          case measure => simp [intOf]; omega
    · have t1 : decide ((k : Int) < (len : Int)) = false := decide_eq_false (by omega)
      have hke : k = len := by omega
      subst hke
      have hpl := bytesZ_len hlz
      have hql := quoZ_len hlz
      have hquo := toks_quote (p := bytesZ z k) (by omega)
      have hopn := toks_open (p := bytesZ z k) (by omega)
      have cP := fun W hW => row_conv HZ.out (W := W) (hW : Only (fun _ => False) w W)
      have hqe : (quoZ z k).length = (qB (bytesZ z k)).length + 1 := by simp [quoZ]
      obtain ⟨pb, hpb⟩ : ∃ pb, bytesZ z k = pb := ⟨_, rfl⟩
      obtain ⟨sb, hsb⟩ : ∃ sb : ByteArray, sb = ⟨(quoZ z k).toArray⟩ := ⟨_, rfl⟩
      have hs1 : sb.data.toList = 34 :: qB pb := by rw [hsb, ← hpb]; rfl
      have hs2 : (sb ++ ⟨#[34]⟩).data.toList = 34 :: qB pb ++ [34] := by simp [hs1]
      have hsz : sb.size = (qB pb).length + 1 := by rw [show sb.size = sb.data.toList.length from rfl, hs1, List.length_cons]
      rw [hpb] at hpl hquo hopn cP hqe
      rw [← hsb]
      rw [hqe] at hql
      have hsz2 : (sb ++ ⟨#[34]⟩).size ≤ maxLen := by
        rw [show (sb ++ ⟨#[34]⟩).size = (sb ++ ⟨#[34]⟩).data.toList.length from rfl, hs2]
        simp only [List.length_append, List.length_cons, List.length_nil]; unfold maxLen; omega
      have hsz3 : sb.size ≤ 1201 := by omega
      have T := Lib.hid (tokens_any (sb ++ ⟨#[34]⟩) wr hsz2)
      rw [hs2, hquo] at T
      have CP := Lib.hid cP; have HS1 := Lib.hid hs1; have HSZ := Lib.hid hsz; have HPL := Lib.hid hpl; have HOPN := Lib.hid hopn
      clear hpb hsb hs1 hs2 hsz hpl hquo hopn cP hqe hql hsz2
      by_cases hb : 200 < k
      · have t2 : decide ((k : Int) > 200) = true := decide_eq_true (by omega)
        rw [if_pos (by rw [HPL.out]; exact hb)] at T
        go_wp2_with fail
        refine T.out.mono ?_
        rintro e w3 ⟨rfl, O3⟩
        have HO3 := Lib.hid (OR.out.trans O3); clear O3 T
        go_wp2_with fail
        go_ret
        exact ⟨rfl, HO3.out.below (Nat.le_refl _) (fun _ _ h => h)⟩
      · have t2 : decide ((k : Int) > 200) = false := decide_eq_false (by omega)
        rw [if_neg (by rw [HPL.out]; exact hb)] at T
        go_wp2_with fail
        refine T.out.mono ?_
        rintro e w3 ⟨v, rfl, how, O3⟩
        have TR := Lib.hid (TRow.of_own how (by simp))
        have HO3 := Lib.hid (OR.out.trans O3); clear O3 T how
        have S := Lib.hid (tokens_any sb w3 (by unfold maxLen; omega))
        rw [HS1.out, HOPN.out] at S
        obtain ⟨g0, o0, c0, rfl, -⟩ := TR.out.at_ (i := 0) (by simp)
        go_wp2_with fail
        refine S.out.mono ?_
        rintro e w4 ⟨rfl, O4⟩
        have TR4 := TR.out.still O4
        have HO4 := Lib.hid (HO3.out.trans O4); clear O4 S TR
        obtain ⟨g, o, c, hv, k1, k2, k3, HC⟩ := TR4.at_ (i := 0) (by simp)
        injection hv with hv hx1 hx2
        injection hv with hv
        injection hv with e1 e2 e3
        subst e1; subst e2; subst hx2; clear hx1
        have a0 := HC 0 (by simp)
        simp only [List.getElem_cons_zero, List.length_cons, List.length_nil] at a0 k1 ⊢
        obtain ⟨b1, b2, b3, b4⟩ := a0
        rw [Nat.zero_mul, Nat.add_zero] at b1 b2 b3 b4
        replace b1 : w4.cell? ⟨g0, o0, none⟩ = some (.int .u8 3) := b1
        replace b4 : w4.cell? ⟨g0, o0 + 3, none⟩ = some (.int .i64 0) := b4
        unfold maxLen at k2
        have cD : ∀ n, (convert 35 9 (.slice a k cap)).run Tryd.prog (w4.drewN n) = .ok (.string ⟨pb.toArray⟩) (w4.drewN n) := fun n => CP.out _ (HO4.out.drewN n)
        have cD0 : (convert 35 9 (.slice a k cap)).run Tryd.prog w4 = .ok (.string ⟨pb.toArray⟩) w4 := CP.out _ HO4.out
        rw [show (((qB pb).length + 1 : Nat) : Int) = (sb.size : Int) from by rw [HSZ.out]]
        clear HC TR4 CP
        go_wp2_with fail
        go_quiet (fail)
        have HF := Lib.hid (HO4.out.drewN nq)
        clear b1 b2 b3 b4 cD cD0
        go_wp2_with fail
        go_ret
        exact ⟨rfl, HF.out.below (Nat.le_refl _) (fun _ _ h => h)⟩
end Go.Proofs.YtjcigaceacgjaaaDoor
