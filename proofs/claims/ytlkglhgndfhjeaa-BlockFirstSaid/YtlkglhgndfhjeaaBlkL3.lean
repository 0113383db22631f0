/- columbarylaw01.BlockSyncs: the walk. -/
import Derived.Test.YtlkglhgndfhjeaaBlkE
import Derived.Deep.AppendLies
import Derived.OpenShut
namespace Go.Proofs.Ytlkglhgndfhjeaa
open Go Go.RowKit Go.ChangeShapes Go.WideShapes
set_option linter.unusedVariables false
set_option linter.unusedSimpArgs false

theorem and3 (a : Int) : bits .and .i64 a 3 = a % 4 := by
  show IntKind.i64.wrap ((BitVec.ofInt 64 a &&& BitVec.ofInt 64 3).toNat : Int) = _
  have h3 : (BitVec.ofInt 64 3) = 3#64 := by decide
  rw [h3, BitVec.toNat_and, BitVec.toNat_ofInt]
  have e : (3#64).toNat = 2 ^ 2 - 1 := by decide
  rw [e, Nat.and_two_pow_sub_one_eq_mod, IntKind.wrap_i64]
  omega
def strs (l : List (List UInt8)) (k : Nat) : List Value := (List.range k).map fun i => .string ⟨(l.getD i []).toArray⟩
theorem strs_succ (l : List (List UInt8)) (k : Nat) : strs l (k + 1) = strs l k ++ [.string ⟨(l.getD k []).toArray⟩] := by simp [strs, List.range_succ]
theorem strs_get (l : List (List UInt8)) {n k : Nat} (h : k < n) : (strs l n)[k]? = some (.string ⟨(l.getD k []).toArray⟩) := by simp [strs, h]
theorem infoStr : (Try.prog.info? 9).map (fun i => (i.zero, i.size, i.bytes)) = some (some (.string ByteArray.empty), 1, 16) := by kernel_rfl
set_option maxRecDepth 100000 in
set_option maxHeartbeats 4000000 in
theorem syncs0 (v : Value) (len : Nat) (keep torn : Int) (w : World) (h : Elems w w.heap.size 5 (fun cs => ∃ c, IsAct1 w w.heap.size c cs) v len) :
    Calls Try.prog 6 #[v, .int .i64 keep, .int .i64 torn] w fun e w' => e = .returned (.bool true) ∧ Below w.heap.size w w' := by
  obtain ⟨a, cap, acts, rfl, hc1, hc2, hal, hact⟩ := acts_list h
  have hlen : len ≤ 9223372036854775807 := by omega
  have HAL := Lib.hid hal; have HACT := Lib.hid hact; clear hal hact h
  go_enter Try.func6, Try.ntmps6
  go_wp2_with fail
  refine (awake_any _).mono ?_
  rintro e w1 ⟨rfl, o1⟩
  have hN : Calls Try.prog 17 #[.int .i64 4] w1 _ := new_own w 4 w1 o1 (by decide) (by decide)
  have HN := Lib.hid hN; clear hN o1
  go_wp2_with fail
  refine HN.out.mono ?_
  rintro e w2 ⟨b, rfl, h2, o2⟩
  have H2 := Lib.hid (⟨h2, rfl, rfl, Fine.fresh 4, rfl, Nat.le_refl _⟩ : Calm w w2.heap.size b 4 0 (fresh 4) w2); clear h2 o2
  go_upto_block 0 with (fail)
  go_cut [] from 23 (fun w' => ∃ (st : Dk) (B : Nat), Hid (Calm w B b 4 30 st w'))
  case first =>
   go_wp2_with fail
   go_loopw [9] (fun v wr => ∃ (i : Nat) (st : Dk) (B : Nat), v = .int .i64 (i : Int) ∧ i ≤ 30 ∧ i ≤ len ∧ Hid (Calm w B b 4 i st wr)) (fun v _ => 30 - (intOf v).toNat)
   case atStart => exact ⟨0, fresh 4, _, by simp, by omega, by omega, H2⟩
   case round =>
     obtain ⟨i, st, B, rfl, hi30, hil, HC⟩ := hrel
     by_cases hlt : i < len ∧ i < 30
     · obtain ⟨hl1, hl2⟩ := hlt
       have t1 : decide ((i : Int) < (len : Int)) = true := by simp; omega
       have t2 : decide ((i : Int) < 30) = true := by simp; omega
       obtain ⟨bs, off, vp, rfl, hbs, k0, k1, k2, k3, k4, hold, kb, ib, nb, kkb⟩ := HACT.out i (by rw [HAL.out]; exact hl1)
       have hand := and3 (acts[i]'(by rw [HAL.out]; exact hl1)).i
       have hj : 0 ≤ (acts[i]'(by rw [HAL.out]; exact hl1)).i % 4 ∧ (acts[i]'(by rw [HAL.out]; exact hl1)).i % 4 < 4 := by omega
       generalize (acts[i]'(by rw [HAL.out]; exact hl1)).i = I at *
       generalize (acts[i]'(by rw [HAL.out]; exact hl1)).p = l at *
       clear k0 k3 k4 kb nb kkb
       obtain ⟨J, hJ⟩ : ∃ J, I % 4 = J := ⟨_, rfl⟩
       rw [hJ] at hand hj
       have HJ := Lib.hid hJ; clear hJ
       have hold2 := hold.1.only (HC.out.own.old) (fun _ _ _ h => h)
       have HOLD := Lib.hid hold; have HOLD2 := Lib.hid (hold2.only ((Only.refl (fun _ => False) wr).drew) (fun _ _ _ h => h)); clear hold hold2
       have g1 : wr.cell? ⟨bs, off + i * 5 + 1, none⟩ = some (.int .i64 I) := by
         rw [cell_only HC.out.own.old (a := ⟨bs, _, none⟩) hbs (fun h => h), Nat.add_assoc]; exact k1
       have g2 : wr.cell? ⟨bs, off + i * 5 + 2, none⟩ = some vp := by
         rw [cell_only HC.out.own.old (a := ⟨bs, _, none⟩) hbs (fun h => h), Nat.add_assoc]; exact k2
       have HCd := Lib.hid (HC.out.only ((Only.refl (fun _ => False) wr).drew) (fun _ h => h.elim))
       have hbw : bs < wr.drew.heap.size := Nat.lt_of_lt_of_le hbs HC.out.own.old.size
       have ii0 : (0 : Int) ≤ (i : Int) := by omega
       have ii1 : (i : Int) < (len : Int) := by omega
       clear k1 k2
       by_cases hp : l.length ≤ 64
       · go_upto_region 7 with (fail)
         go_region_held3 (fun w' => w'.cell? ⟨bs, off + i * 5 + 1, none⟩ = some (.int .i64 I) ∧ w'.cell? ⟨bs, off + i * 5 + 2, none⟩ = some vp) (first | exact ⟨g1, g2⟩ | exact ⟨(cell_only o3 (a := ⟨bs, _, none⟩) hbw (fun e => by have e1 : w.heap.size ≤ bs := e.1; omega)).trans g1, (cell_only o3 (a := ⟨bs, _, none⟩) hbw (fun e => by have e1 : w.heap.size ≤ bs := e.1; omega)).trans g2⟩)
           ((go_at_call 18; refine (write_c w B b 4 i st J vp l _ HCd.out hj HOLD2.out hp (fun h k hk => .inl (HOLD.out.2 h k hk)) (by omega)).mono ?_; rintro e w3 ⟨rfl, h3, o3⟩))
         have H3 := Lib.hid h3; clear h3 o3 g1 g2
         go_wp2_with fail
         go_roundw
         case rel => exact ⟨i + 1, _, _, by simp [go_sem], by omega, by omega, H3⟩
         case measure => simp [intOf]; omega
       · go_upto_region 7 with (fail)
         go_region_held3 (fun w' => w'.cell? ⟨bs, off + i * 5 + 1, none⟩ = some (.int .i64 I) ∧ w'.cell? ⟨bs, off + i * 5 + 2, none⟩ = some vp) (exact ⟨g1, g2⟩)
           ((go_at_call 18; refine (write_long_own w B b st J vp l _ HCd.out.own (HC.out.look hj.1 hj.2) HOLD2.out (by omega)).mono ?_; rintro e w3 ⟨rfl, rfl⟩))
         clear g1 g2
         go_wp2_with fail
         go_roundw
         case rel => exact ⟨i + 1, st, B, by simp [go_sem], by omega, by omega, Lib.hid (HCd.out.more (by omega) (by omega))⟩
         case measure => simp [intOf]; omega
     · by_cases hl1 : i < len
       · have t1 : decide ((i : Int) < (len : Int)) = true := by simp; omega
         have t2 : decide ((i : Int) < 30) = false := by simp; omega
         go_wp2_with fail
         go_meet
         case rel => exact ⟨st, B, Lib.hid (HC.out.more hi30 (by omega))⟩
       · have t1 : decide ((i : Int) < (len : Int)) = false := by simp; omega
         go_wp2_with fail
         go_meet
         case rel => exact ⟨st, B, Lib.hid (HC.out.more hi30 (by omega))⟩
  case rest =>
    obtain ⟨st, B, HC⟩ := hcut
    have hsc := synced_calm HC.out.off HC.out.armed
    have hvs := view_synced st
    have HVS := Lib.hid hvs; have HSC := Lib.hid hsc; clear hvs hsc
    go_wp2_with fail
    refine (sync_c w B b 4 30 st _ HC.out (by decide) (by decide)).mono ?_
    rintro e w3 ⟨rfl, h3, o3⟩
    have H3 := Lib.hid h3; clear h3 o3
    generalize hst : synced st = s1 at H3 HSC
    have HST := Lib.hid hst; clear hst
    go_wp2_with fail
    refine (dwait_any _ b s1 _ H3.out.own.at_).mono ?_
    rintro e w4 ⟨rfl, rfl⟩
    have hw0 : s1.wait.length = 0 := by rw [HSC.out.2.2.2.1]; rfl
    have HW0 := Lib.hid hw0; clear hw0
    rw [HW0.out]
    obtain ⟨i0, hi, hz0, hz1, hz2⟩ := info_parts infoStr
    have HI := Lib.hid (And.intro hi (And.intro hz0 (And.intro hz1 hz2))); clear hi hz0 hz1 hz2
    go_wp2_with fail
    go_loopw [10, 11] (fun v10 v11 wr => ∃ (k : Nat), v11 = .int .i64 (k : Int) ∧ k ≤ 4 ∧ Hid (Calm w B b 4 31 s1 wr) ∧ Hid (wr.ownsRow w3.heap.size 9 1 v10 k (strs (view s1) k)) ∧ w3.heap.size ≤ wr.heap.size) (fun _ v _ => 4 - (intOf v).toNat)
    case atStart => exact ⟨0, by simp, by omega, H3, Lib.hid ⟨by simp [strs], .inl ⟨rfl, rfl⟩⟩, Nat.le_refl _⟩
    case round =>
      obtain ⟨k, rfl, hk4, HK, HO, hsz⟩ := hrel
      by_cases hlt : k < 4
      · have t1 : decide ((k : Int) < 4) = true := by simp; omega
        go_wp2_with fail
        refine (read_c w B b 4 31 k s1 _ HK.out hlt).mono ?_
        rintro e w5 ⟨v5, rfl, hb5, h5, o5⟩
        generalize hSS : (view s1).getD k [] = ss at hb5
        have HSS := Lib.hid hSS; clear hSS
        have hc5 := hb5.conv
        have own5 := own_only HO.out o5 (fun _ _ h => h)
        have hsz5 : w3.heap.size ≤ w5.heap.size := Nat.le_trans hsz o5.size
        have H5 := Lib.hid h5; have OWN5 := Lib.hid own5; clear h5 own5 hb5 o5
        go_upto_region 15 with (fail)
        refine wp_region_lit ?_
        iterate 4 (refine wpList_plain rfl fun J hJ => ?_; go_simp; refine hJ _ _ ?_; clear hJ J)
        have o6 : Only (fun _ => False) w5 (w5.alloc (.cells #[.string ⟨ss.toArray⟩] 9)) := (Only.refl _ w5).alloc _
        have own6 := own_only OWN5.out o6 (fun _ _ h => h)
        have hnew6 := heap_new w5 (.cells #[.string ⟨ss.toArray⟩] 9)
        generalize hw6 : w5.alloc (.cells #[.string ⟨ss.toArray⟩] 9) = w6 at o6 own6 hnew6 ⊢
        refine wpList_append_lies w6 rfl (.tmp 64) (.tmp 67) 40 rfl w3.heap.size 9 i0 (.string ByteArray.empty) 1 16 Try.underlying40 HI.out.1 HI.out.2.1 HI.out.2.2.1 HI.out.2.2.2 rfl (by decide) _ k _ (by rfl) own6 ⟨w5.heap.size, 0, none⟩ 1 1 [.string ⟨ss.toArray⟩] (by rfl) (by rfl) (fun j u hu => by
          rw [addr_add]
          exact range_of_block (cs := [.string ⟨ss.toArray⟩]) hnew6 j u hu) (fun u hu => by simp at hu; subst hu; rfl) (by decide) (by simp only [maxLen]; omega) (by omega) (Nat.le_trans hsz5 o6.size) w6.heap.size rfl ?_
        intro g cap7 w7 hown hgrow hat hlt7
        have hown7 : w7.ownsRow w3.heap.size 9 1 (.slice (some ⟨g, 0, none⟩) (k + 1) cap7) (k + 1) (strs (view s1) (k + 1)) := by rw [strs_succ, HSS.out]; exact hown
        have o67 : Only (fun q => w3.heap.size ≤ q) w6 w7 := (Only.refl _ w6).grown hgrow (fun q hq => .inl (own_ge own6 hq))
        have h7 := (H5.out.only o6 (fun _ h => h.elim)).only o67 (fun q hq => ⟨Nat.le_trans H3.out.own.old.size hq, Nat.le_trans H3.out.hB hq⟩)
        have hsz7 : w3.heap.size ≤ w7.heap.size := Nat.le_trans (Nat.le_trans hsz5 o6.size) o67.size
        have H7 := Lib.hid h7; have OWN7 := Lib.hid hown7
        clear h7 hown7 hown hgrow hat own6 hnew6 o6 o67 hw6 hc5
        go_wp2_with fail
        go_roundw
        case rel => exact ⟨k + 1, by simp [go_sem], by omega, H7, OWN7, hsz7⟩
        case measure => simp [intOf]; omega
      · have hke : k = 4 := by omega
        subst hke
        have t1 : decide (((4 : Nat) : Int) < 4) = false := by decide
        go_wp2_with fail
        obtain ⟨g, capg, rfl, hgb, hgl⟩ := HO.out.form (by decide)
        refine (restart_c w B b 4 31 s1 keep torn _ HK.out).mono ?_
        rintro e w5 ⟨rfl, h5, o5⟩
        have hv5 := restart_still s1 keep torn HSC.out.2.2.2.1
        generalize hs2 : restarted s1 keep torn = s2 at h5 hv5
        have own5 := own_only HO.out o5 (fun q hq h => by have := h.2; have := H3.out.hB; omega)
        have H5 := Lib.hid h5; have OWN5 := Lib.hid own5; have HV5 := Lib.hid hv5
        have hsz5 : w3.heap.size ≤ w5.heap.size := Nat.le_trans hsz o5.size
        clear h5 own5 hv5 hs2 o5
        go_wp2_with fail
        go_loopw [14] (fun v wr => ∃ (k : Nat), v = .int .i64 (k : Int) ∧ k ≤ 4 ∧ Hid (Calm w B b 4 31 s2 wr) ∧ Hid (wr.ownsRow w3.heap.size 9 1 (.slice (some ⟨g, 0, none⟩) 4 capg) 4 (strs (view s1) 4))) (fun v _ => 4 - (intOf v).toNat)
        case atStart => exact ⟨0, by simp, by omega, H5, OWN5⟩
        case round =>
          obtain ⟨k, rfl, hk4, HK, HO⟩ := hrel
          by_cases hlt : k < 4
          · have t1 : decide ((k : Int) < 4) = true := by simp; omega
            have i1 : (0 : Int) ≤ (k : Int) := by omega
            have i2 : (k : Int) < 4 := by omega
            go_wp2_with fail
            refine (read_c w B b 4 31 k s2 _ HK.out hlt).mono ?_
            rintro e w6 ⟨v6, rfl, hb6, h6, o6⟩
            rw [HV5.out] at hb6
            have hc6 : ∀ n, (convert 22 9 v6).run Try.prog (w6.drewN n) = .ok (.string ⟨((view s1).getD k []).toArray⟩) (w6.drewN n) := fun n => (hb6.drewN n).conv
            have own6 := own_only HO.out o6 (fun _ _ h => h)
            have hcell : w6.cell? ⟨g, k, none⟩ = some (.string ⟨((view s1).getD k []).toArray⟩) := by
              have := own6.cells (g := g) rfl k _ (strs_get (view s1) hlt)
              rw [addr_add, Nat.zero_add] at this; exact this
            generalize hSS : (view s1).getD k [] = ss at *
            have H6 := Lib.hid h6; have OWN6 := Lib.hid own6; clear h6 own6 hb6 o6 hSS
            go_upto_region 21 with (fail)
            go_quiet (fail)
            clear hc6 hcell
            go_wp2_with fail
            go_roundw
            case rel => exact ⟨k + 1, by simp [go_sem], by omega, Lib.hid (H6.out.only ((Only.refl (fun _ => False) w6).drewN nq) (fun _ h => h.elim)), OWN6⟩
            case measure => simp [intOf]; omega
          · have hke : k = 4 := by omega
            subst hke
            have t1 : decide (((4 : Nat) : Int) < 4) = false := by decide
            go_wp2
            go_ret
            exact ⟨rfl, HK.out.own.old.still⟩

theorem syncs_walk (v : Value) (keep torn : Int) (w : World) {H : Type} {enc : TypeId × Value → H} {d : DataW H} {p : List MemPlace} {base : Nat}
    (h : DataW.Trod enc Try.prog w 0 (fun _ => true) true 35 v d p) (hv : Value.okWide Try.prog w .any base 35 v) (w1 : (Lit.int .i64 keep).wf = true) (w2 : (Lit.int .i64 torn).wf = true) :
    Calls Try.prog 6 #[v, .int .i64 keep, .int .i64 torn] w fun e w' => e = .returned (.bool true) ∧ Below w.heap.size w w' := by
  obtain ⟨len, hel⟩ := acts1_of_trod (okWide_slice Try.underlying35 hv) h
  exact syncs0 v len keep torn w hel
end Go.Proofs.Ytlkglhgndfhjeaa
