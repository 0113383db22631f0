/- ParseBlanks: the walk. -/
import Derived.Test.YtgephneppgcnlaaDoorBke
import Derived.Test.YtgephneppgcnlaaDoorRtks
import Derived.Test.YtgephneppgcnlaaDoorTrw
import Derived.Test.YtgephneppgcnlaaDoorLPc
import Derived.Test.YtgephneppgcnlaaDoorSmd
import Derived.Test.YtgephneppgcnlaaDoorRgA
import Derived.Test.YtgephneppgcnlaaDoorRwc
import Derived.Test.YtgephneppgcnlaaDoorEnR
namespace Go.Proofs.YtgephneppgcnlaaDoor
open Go Go.RowKit
set_option linter.unusedVariables false
set_option linter.unusedSimpArgs false

def gap6C (n : Nat) : Value := .string ⟨(gap6 n).toArray⟩
theorem gap6_cell {W : World} {g : Nat} {T : TypeId} (h : W.heap[g]? = some (.cells #[gap6C 0, gap6C 1, gap6C 2, gap6C 3, gap6C 4, gap6C 5] T (0, 0))) {m : Nat} (hm : m < 6) : W.cell? ⟨g, m, none⟩ = some (.string ⟨(gap6 m).toArray⟩) := by
  match m, hm with
  | 0, _ => simp [World.cell?, h, gap6C]
  | 1, _ => simp [World.cell?, h, gap6C]
  | 2, _ => simp [World.cell?, h, gap6C]
  | 3, _ => simp [World.cell?, h, gap6C]
  | 4, _ => simp [World.cell?, h, gap6C]
  | 5, _ => simp [World.cell?, h, gap6C]
theorem rowB_cell {w : World} {a : Option Addr} {len cap : Nat} {z : List Int} (h : IsRow .u8 w a len cap z) (hl : 0 < len) : ∃ b off, a = some ⟨b, off, none⟩ ∧ b < w.heap.size ∧ ∀ k, k < len → w.cell? ⟨b, off + k, none⟩ = some (.int .u8 (z.getD k 0)) ∧ 0 ≤ z.getD k 0 ∧ z.getD k 0 ≤ 255 := by
  rcases h with ⟨_, rfl, _, _⟩ | ⟨⟨b, off, spot⟩, rfl, h1, h2, h3, h4, h5⟩
  · omega
  · have hs : spot = none := by simpa [Addr.add] using World.cell?_spot (h4 0 (by omega))
    subst hs
    have h0 := h4 0 (by omega)
    rw [addr_add] at h0
    refine ⟨b, off, rfl, cell_lt h0, fun k hk => ?_⟩
    have hc := h4 k (by omega)
    rw [addr_add] at hc
    have hm : z.getD k 0 ∈ z := by rw [List.getD_eq_getElem?_getD, List.getElem?_eq_getElem (by omega)]; exact List.getElem_mem _
    have hw := h5 _ hm
    refine ⟨hc, ?_⟩
    simp [Lit.wf, IntKind.min, IntKind.max, IntKind.signed, IntKind.bits] at hw
    simpa using hw
theorem rowB_len {w : World} {a : Option Addr} {len cap : Nat} {z : List Int} (h : IsRow .u8 w a len cap z) : len ≤ z.length ∧ cap ≤ maxLen ∧ len ≤ cap := by
  rcases h with ⟨_, rfl, rfl, rfl⟩ | ⟨x, _, h1, h2, h3, _⟩
  · simp
  · omega
def gapG (z : List Int) (len i : Nat) : List UInt8 := gap6 ((z.getD (i % len) 0).toNat % 6)
theorem oneP_small {c : UInt8} {l : List UInt8} {k : Nat} {t : List UInt8} {n : Int} {len : Nat} (ho : oneP (c :: l) = .ok k t n len) : t.length ≤ (c :: l).length + 200 := by
  rcases (oneP_text ho).2.2 with h3 | h3
  · subst h3
    have : t.length ≤ 200 := by
      rw [oneP_cons] at ho
      by_cases h1 : letB c = true
      · rw [if_pos h1] at ho
        split at ho
        · cases ho
        · injection ho with e1; omega
      rw [if_neg h1] at ho
      by_cases h2 : c.toNat = 45 ∨ digB c = true
      · rw [if_pos h2] at ho
        have := (numP_take ho).1; omega
      rw [if_neg h2] at ho
      by_cases h3 : c.toNat = 34
      · rw [if_pos h3] at ho
        exact (txtP_len _ _ _ ho).2.2.2.2
      rw [if_neg h3] at ho
      split at ho
      · injection ho with e1; omega
      · split at ho
        · injection ho with e1; omega
        · cases ho
    omega
  · rw [h3, List.length_take]; omega
/-- A token but the last stands in the text: where it ends. -/
theorem toksA_ends (s : List UInt8) : ∀ (a : Nat) (l : List UInt8), ∀ ts, toksA a l = .ok ts → s.drop a = l → a ≤ s.length → ∀ i t, ts[i]? = some t → i + 1 < ts.length → t.at_ + 1 ≤ s.length ∧ t.text.length ≤ s.length + 200 ∧ t.at_ ≤ endT s t ∧ endT s t ≤ s.length := by
  refine toksA_ind ?_ ?_ ?_ ?_ ?_
  · intro a ts h hs ha i t ht hi
    rw [toksA_nil] at h; injection h with h; subst h
    simp at hi
  · intro a c l hb ih ts h hs ha
    rw [toksA_blk a hb] at h
    have hl : s.length - a = l.length + 1 := by rw [← List.length_drop, hs]; rfl
    exact ih ts h (by rw [← List.drop_drop, hs, List.drop_one, List.tail_cons]) (by omega)
  · intro a c l hr ih ts h hs ha
    rw [toksA_rem a hr] at h
    have hl : s.length - a = l.length + 1 := by rw [← List.length_drop, hs]; rfl
    have := runL_le lineB l
    exact ih ts h (by rw [Nat.add_assoc, ← List.drop_drop, hs, Nat.add_comm 1, List.drop_succ_cons]) (by omega)
  · intro a c l off e hb hr hx ts h
    rw [toksA_bad a hb hr hx] at h; cases h
  · intro a c l k t n len hb hr ho ih ts h hs ha i t' ht hi
    rw [toksA_one a hb hr ho] at h
    obtain ⟨us, hu, rfl⟩ := Out.cons_ok h
    have hl := oneP_len ho
    have hsm := oneP_small ho
    have hl2 : s.length - a = l.length + 1 := by rw [← List.length_drop, hs]; rfl
    simp only [List.length_cons] at hl hsm
    cases i with
    | zero =>
      have ht : (⟨k, t, n, a⟩ : Tok) = t' := by simpa using ht
      subst ht
      have he := endT_one hs ho
      rw [he]
      exact ⟨by show a + 1 ≤ _; omega, by show t.length ≤ _; omega, by show a ≤ _; omega, by omega⟩
    | succ i => exact ih us hu (by rw [← List.drop_drop, hs]) (by omega) i t' (by simpa using ht) (by simpa using hi)
theorem DocRes.any2 {w w' : World} {P : DR1} {e : Ending} (h : DocRes w P e w') : ∃ (a1 : Option Addr) (n1 c1 : Nat) (a2 : Option Addr) (n2 c2 : Nat) (x c : Nat), e = .returned (.tuple #[.agg #[.slice a1 n1 c1, .slice a2 n2 c2], .int .i64 (x : Int), .int .i64 (c : Int)]) ∧ Only (fun _ => False) w w' := by
  cases P with
  | ok d =>
    obtain ⟨a1, c1, a2, c2, rfl, h1, h2⟩ := h
    exact ⟨a1, _, c1, a2, _, c2, 0, 0, rfl, h2⟩
  | bad y f =>
    obtain ⟨rfl, h2⟩ := h
    exact ⟨none, 0, 0, none, 0, 0, y, f, rfl, h2⟩
theorem piece_eq (s : ByteArray) (t : Tok) (X G : List UInt8) : (⟨X.toArray⟩ : ByteArray) ++ (s.extract t.at_ (endT s.data.toList t) ++ ⟨G.toArray⟩) = ⟨(X ++ (pcT s.data.toList t ++ G)).toArray⟩ := by
  have e : s.extract t.at_ (endT s.data.toList t) = ⟨(pcT s.data.toList t).toArray⟩ := ba_eq (by rw [extract_list]; rfl)
  rw [e, cat_list, cat_list]
set_option maxRecDepth 100000 in
set_option maxHeartbeats 16000000 in
theorem pblanks_walk (s : ByteArray) (a : Option Addr) (len cap : Nat) (z : List Int) (w : World) (hs : s.size ≤ maxLen) (hz : IsRow .u8 w a len cap z) : Calls Tryd.prog 7 #[.string s, .slice a len cap] w fun e w' => e = .returned (.bool true) ∧ Below w.heap.size w w' := by
  have A := Lib.hid (awake06 w)
  have HS := Lib.hid hs; have HZ := Lib.hid hz
  unfold maxLen at hs
  obtain ⟨hlz, hcm, hlc⟩ := rowB_len hz
  unfold maxLen at hcm
  clear hz
  go_enter Tryd.func7, Tryd.ntmps7
  go_wp2_with fail
  refine A.out.mono ?_
  rintro e w1 ⟨rfl, O1⟩
  have HO1 := Lib.hid O1; clear O1 A
  by_cases hbig : 500 < s.size ∨ len = 0
  · have A := Lib.hid (awake06 w1)
    have hd : (decide ((s.size : Int) > 500) = true) ∨ (decide ((s.size : Int) > 500) = false ∧ ((len : Int) == 0) = true) := by
      by_cases h : 500 < s.size
      · exact .inl (decide_eq_true (by omega))
      · exact .inr ⟨decide_eq_false (by omega), by simp; omega⟩
    clear hbig
    rcases hd with t1 | ⟨t1, t2⟩ <;> (
      go_wp2_with fail
      refine A.out.mono ?_
      rintro e w2 ⟨rfl, O2⟩
      have HO2 := Lib.hid (HO1.out.trans O2); clear O2 A
      go_wp2_with fail
      go_ret
      exact ⟨rfl, HO2.out.below (Nat.le_refl _) (fun _ _ h => h)⟩)
  have t1 : decide ((s.size : Int) > 500) = false := decide_eq_false (by omega)
  have t2 : ((len : Int) == 0) = false := by simp; omega
  have hs9 : s.size ≤ 500 := by omega
  have hl0 : 0 < len := by omega
  clear hbig hs
  have T := Lib.hid (rtokens_any s w1 HS.out)
  cases hP : toks s.data.toList with
  | bad p f =>
    rw [hP] at T
    have hne : ((f : Int) != 0) = true := by have := toks_bad hP; simp; omega
    clear hP
    go_wp2_with fail
    refine T.out.mono ?_
    rintro e w2 ⟨rfl, O2⟩
    have HO2 := Lib.hid (HO1.out.trans O2)
    have D := Lib.hid (document_b s w2 HS.out)
    clear O2 T
    go_wp2_with fail
    refine D.out.mono ?_
    intro e w3 hr
    obtain ⟨q1, l1, c1, q2, l2, c2, x, c, rfl, O3⟩ := hr.any2
    have HO3 := Lib.hid ((HO2.out.trans O3).alloc (.cells #[.slice q1 l1 c1, .slice q2 l2 c2] 26))
    clear O3 D hr
    go_wp2_with fail
    go_ret
    exact ⟨rfl, HO3.out.below (Nat.le_refl _) (fun _ _ h => h)⟩
  | ok ts =>
    rw [hP] at T
    have hone := (toks_at hP).1
    have HP := Lib.hid hP
    go_wp2_with fail
    refine T.out.mono ?_
    rintro e w2 ⟨v, rfl, how, O2⟩
    have TR := Lib.hid (TRow.of_own how hone)
    have HO2 := Lib.hid (HO1.out.trans O2)
    have D := Lib.hid (document_b s w2 HS.out)
    clear O2 how T hP
    cases hd : docP s.data.toList with
    | bad y f =>
      rw [hd] at D
      have hne : ((f : Int) != 0) = true := by have := docP_bad hd; simp; omega
      clear hd
      go_wp2_with fail
      refine D.out.mono ?_
      rintro e w3 ⟨rfl, O3⟩
      have HO3 := Lib.hid ((HO2.out.trans O3).alloc (.cells #[.slice none 0 0, .slice none 0 0] 26)); clear O3 D
      go_wp2_with fail
      go_ret
      exact ⟨rfl, HO3.out.below (Nat.le_refl _) (fun _ _ h => h)⟩
    | ok d =>
      rw [hd] at D
      have HD := Lib.hid hd
      have HBL := Lib.hid (docP_blanks hd HP.out (gapG z len) (fun i => gap6_ok _))
      clear hd
      go_wp2_with fail
      refine D.out.mono ?_
      rintro e w3 ⟨a1, c1, a2, c2, rfl, h1, O3⟩
      obtain ⟨n1, hx1⟩ : ∃ x, d.ops.length = x := ⟨_, rfl⟩
      obtain ⟨n2, hx2⟩ : ∃ x, d.frags.length = x := ⟨_, rfl⟩
      rw [hx1, hx2] at h1 ⊢
      obtain ⟨w4, hw4⟩ : ∃ x, w3.alloc (.cells #[.slice a1 n1 c1, .slice a2 n2 c2] 26) = x := ⟨_, rfl⟩
      obtain ⟨b1, hb1⟩ : ∃ x, w3.heap.size = x := ⟨_, rfl⟩
      have o4 : Only (fun _ => False) w3 w4 := by rw [← hw4]; exact (Only.refl _ w3).alloc _
      have hB1 := heap_new w3 (.cells #[.slice a1 n1 c1, .slice a2 n2 c2] 26)
      rw [hw4, hb1] at hB1
      obtain ⟨w5, hw5⟩ : ∃ x, w4.alloc (.cells #[.string ⟨#[32]⟩, .string ⟨#[10]⟩, .string ⟨#[44]⟩, .string ⟨#[9]⟩, .string ⟨#[35, 125, 10]⟩, .string ⟨#[44, 44]⟩] 9) = x := ⟨_, rfl⟩
      obtain ⟨gb, hgb⟩ : ∃ x, w4.heap.size = x := ⟨_, rfl⟩
      have o5 : Only (fun _ => False) w4 w5 := by rw [← hw5]; exact (Only.refl _ w4).alloc _
      have hgx : w5.heap[gb]? = some (.cells #[gap6C 0, gap6C 1, gap6C 2, gap6C 3, gap6C 4, gap6C 5] 9 (0, 0)) := by rw [← hw5, ← hgb]; exact heap_new _ _
      have o35 := o4.trans o5
      have HB1 := Lib.hid ((o5.block b1 (Array.getElem?_eq_some_iff.1 hB1).1 (fun h => h)).trans hB1)
      have H1 := Lib.hid (CellsAt.only o35 (fun _ _ h => h) _ _ h1)
      have HO5 := Lib.hid ((HO2.out.trans O3).trans o35)
      have TR5 := Lib.hid (TR.out.still (O3.trans o35))
      have HW4 := Lib.hid hw4; have Hb1 := Lib.hid hb1; have HX := Lib.hid (And.intro hx1 hx2); have HW5 := Lib.hid hw5; have HGB := Lib.hid hgb; have HGX := Lib.hid hgx
      clear O3 D h1 hw4 hb1 o4 hB1 hx1 hx2 hw5 hgb o5 hgx o35 TR
      obtain ⟨g, o, c, rfl, kk1, kk2, kk3, HC⟩ := TR5.out.at_ (i := 0) hone
      have HTC := Lib.hid HC; clear HC
      obtain ⟨N, hN⟩ : ∃ N, ts.length = N := ⟨_, rfl⟩
      rw [hN] at kk1 hone ⊢
      have HN := Lib.hid hN
      unfold maxLen at kk2
      have hN2 : N ≤ 2001 := by rw [← hN]; exact (toks_end HP.out).2
      have HEN := Lib.hid (toksA_ends s.data.toList 0 s.data.toList ts (toks_ok HP.out).2 rfl (by omega))
      clear hN
      obtain ⟨pb, po, rfl, hpb, HPC⟩ := rowB_cell HZ.out hl0
      have HPC := Lib.hid HPC
      go_upto_region 7 with (fail)
      rw [HW4.out, Hb1.out]
      go_upto_region 8 with (fail)
      rw [HGB.out, HW5.out]
      clear HW4 Hb1 HGB HW5
      go_wp2_with fail
      clear t1 t2
      go_loopw [12, 13] (fun y x wr => ∃ k : Nat, x = .int .i64 (k : Int) ∧ k + 1 ≤ N ∧ y = .string ⟨(upT s.data.toList (gapG z len) ts k).toArray⟩ ∧ Hid (Only (fun _ => False) w5 wr)) (fun _ x _ => N - (intOf x).toNat)
      case atStart => exact ⟨0, rfl, by omega, rfl, Lib.hid (Only.refl _ _)⟩
      case round =>
        obtain ⟨k, rfl, hk, rfl, OR⟩ := hrel
        by_cases hlt : k + 1 < N
        · have t1 : decide ((k : Int) + 1 < (N : Int)) = true := decide_eq_true (by omega)
          have hkt : k < ts.length := by rw [HN.out]; omega
          obtain ⟨t, ht⟩ : ∃ t, ts[k] = t := ⟨_, rfl⟩
          obtain ⟨n1, n2, n3, n4⟩ := HEN.out k t (by rw [List.getElem?_eq_getElem hkt, ht]) (by rw [HN.out]; exact hlt)
          have e9 : s.data.toList.length = s.size := rfl
          rw [e9] at n1 n2 n4
          obtain ⟨X, hX⟩ : ∃ X, upT s.data.toList (gapG z len) ts k = X := ⟨_, rfl⟩
          obtain ⟨G, hG⟩ : ∃ G, gapG z len k = G := ⟨_, rfl⟩
          have hsu : upT s.data.toList (gapG z len) ts (k + 1) = X ++ (pcT s.data.toList t ++ G) := by
            rw [upT, hX, hG, List.getD_eq_getElem?_getD, List.getElem?_eq_getElem hkt, ht]; rfl
          have hxl : X.length ≤ 2000000 := by
            have h1 := upT_len s.data.toList (gapG z len) (fun i => gap6_len _) ts k
            rw [hX, e9] at h1
            have h2 : k * (s.size + 3) ≤ 2001 * 503 := Nat.mul_le_mul (by omega) (by omega)
            omega
          have hgl : G.length ≤ 3 := by rw [← hG]; exact gap6_len _
          obtain ⟨E, hE⟩ : ∃ E, endT s.data.toList t = E := ⟨_, rfl⟩
          have EC := Lib.hid (fun wx => end_any t s wx (by omega) (by omega) (by omega) (fun _ => n1))
          have PE := Lib.hid (piece_eq s t X G)
          rw [hE] at n3 n4 EC PE
          obtain ⟨q, hq⟩ : ∃ q, k % len = q := ⟨_, rfl⟩
          have hql : q < len := by rw [← hq]; exact Nat.mod_lt _ hl0
          obtain ⟨p1, p2, p3⟩ := HPC.out q hql
          obtain ⟨pv, hpv⟩ : ∃ v, z.getD q 0 = v := ⟨_, rfl⟩
          rw [hpv] at p1 p2 p3
          obtain ⟨m, hm⟩ : ∃ m, pv.toNat % 6 = m := ⟨_, rfl⟩
          have hm6 : m < 6 := by omega
          have hgm : gap6 m = G := by rw [← hG]; unfold gapG; rw [hq, hpv, hm]
          have hgc := gap6_cell HGX.out hm6
          rw [hgm] at hgc
          have hmi : pv % 6 = (m : Int) := by omega
          have hqi : (k : Int) % (len : Int) = (q : Int) := by rw [← hq]; omega
          have cf : ∀ w', Only (fun _ => False) w5 w' → w'.cell? ⟨g, o + k * 4, none⟩ = some (.int .u8 (t.kind : Int)) ∧ w'.cell? ⟨g, o + k * 4 + 1, none⟩ = some (.string ⟨t.text.toArray⟩) ∧ w'.cell? ⟨g, o + k * 4 + 2, none⟩ = some (.int .i64 t.n) ∧ w'.cell? ⟨g, o + k * 4 + 3, none⟩ = some (.int .i64 (t.at_ : Int)) ∧ w'.cell? ⟨pb, po + q, none⟩ = some (.int .u8 pv) ∧ w'.cell? ⟨gb, m, none⟩ = some (.string ⟨G.toArray⟩) := fun w' ho => by
            obtain ⟨a1, a2, a3, a4⟩ := HTC.out k hkt
            rw [ht] at a1 a2 a3 a4
            have hp := (HO5.out.trans ho)
            exact ⟨by rw [cell_keep ho (cell_lt a1) (fun h => h)]; exact a1, by rw [cell_keep ho (cell_lt a2) (fun h => h)]; exact a2, by rw [cell_keep ho (cell_lt a3) (fun h => h)]; exact a3, by rw [cell_keep ho (cell_lt a4) (fun h => h)]; exact a4, by rw [cell_keep hp (cell_lt p1) (fun h => h)]; exact p1, by rw [cell_keep ho (cell_lt hgc) (fun h => h)]; exact hgc⟩
          have CF := Lib.hid cf; have HSU := Lib.hid hsu; have HMI := Lib.hid hmi; have HQI := Lib.hid hqi
          rw [hX]
          have hkN : (k : Int) < (N : Int) := by omega
          have hm63 : (m : Int) < 6 := by omega
          have hqL : (q : Int) < (len : Int) := by omega
          have hlp : (0 : Int) < (len : Int) := by omega
          obtain ⟨PC, hPC⟩ : ∃ PC, s.extract t.at_ E = PC := ⟨_, rfl⟩
          have hpcs : PC.size ≤ 500 := by rw [← hPC, ByteArray.size_extract]; omega
          have HPCE := Lib.hid hPC
          obtain ⟨GB, hGB⟩ : ∃ GB : ByteArray, (⟨G.toArray⟩ : ByteArray) = GB := ⟨_, rfl⟩
          have hgbs : GB.size ≤ 3 := by rw [← hGB]; exact hgl
          obtain ⟨XB, hXB⟩ : ∃ XB : ByteArray, (⟨X.toArray⟩ : ByteArray) = XB := ⟨_, rfl⟩
          have hxbs : XB.size ≤ 2000000 := by rw [← hXB]; exact hxl
          rw [hGB] at CF; rw [hXB, hGB, hPC] at PE
          rw [hXB]
          have HGBE := Lib.hid hGB; have HXBE := Lib.hid hXB
          clear cf hsu hmi hqi hX hG hE hq hpv hm hgm hgc p1 ht hxl hgl e9 hPC hGB hXB n2
          go_upto_region 12 with (fail)
          refine wp_region_steps 28 (by kernel_rfl) rfl (by kernel_rfl) [some 56, some 57, some 58, some 59, some 60, some 61, some 62, some 63, some 64, some 65, some 66, some 67, some 68, some 69, some 70, some 71, some 72, some 73, some 74, some 75, some 76, some 77, some 78, some 79, some 80, some 81, some 82, some 83] rfl rfl (fun _ => False) [(fun v _ => v = (.string XB)), (fun v _ => v = (.string s)), (fun v _ => v = (.slice (some ⟨g, o, none⟩) N c)), (fun v _ => v = (.int .i64 (k : Int))), (fun v _ => v = (.pointer (some ⟨g, o + k * 4, none⟩))), (fun v _ => v = (.pointer (some ⟨g, o + k * 4 + 3, none⟩))), (fun v _ => v = (.int .i64 (t.at_ : Int))), (fun v _ => v = (.slice (some ⟨g, o, none⟩) N c)), (fun v _ => v = (.int .i64 (k : Int))), (fun v _ => v = (.pointer (some ⟨g, o + k * 4, none⟩))), (fun v _ => v = (.agg #[.int .u8 (t.kind : Int), .string ⟨t.text.toArray⟩, .int .i64 t.n, .int .i64 (t.at_ : Int)])), (fun v _ => v = (.string s)), (fun v _ => v = (.int .i64 (E : Int))), (fun v _ => v = (.string PC)), (fun v _ => v = (.slice (some ⟨gb, 0, none⟩) 6 6)), (fun v _ => v = (.slice (some ⟨pb, po, none⟩) len cap)), (fun v _ => v = (.int .i64 (k : Int))), (fun v _ => v = (.slice (some ⟨pb, po, none⟩) len cap)), (fun v _ => v = (.int .i64 (len : Int))), (fun v _ => v = (.int .i64 (q : Int))), (fun v _ => v = (.pointer (some ⟨pb, po + q, none⟩))), (fun v _ => v = (.int .u8 pv)), (fun v _ => v = (.int .i64 pv)), (fun v _ => v = (.int .i64 (m : Int))), (fun v _ => v = (.pointer (some ⟨gb, m, none⟩))), (fun v _ => v = (.string GB)), (fun v _ => v = (.string (PC ++ GB))), (fun v _ => v = (.string (XB ++ (PC ++ GB))))] rfl ⟨?_, ?_, ?_, ?_, ?_, ?_, ?_, ?_, ?_, ?_, ?_, ?_, ?_, ?_, ?_, ?_, ?_, ?_, ?_, ?_, ?_, ?_, ?_, ?_, ?_, ?_, ?_, ?_, trivial⟩ _ rfl ⟨?_, ?_, ?_, ?_, ?_, ?_, ?_, ?_, ?_, ?_, ?_, ?_, ?_, ?_, ?_, ?_, ?_, ?_, ?_, ?_, ?_, ?_, ?_, ?_, ?_, ?_, ?_, ?_, trivial⟩ ?_
          · exact Stable.is _ _
          · exact Stable.is _ _
          · exact Stable.is _ _
          · exact Stable.is _ _
          · exact Stable.is _ _
          · exact Stable.is _ _
          · exact Stable.is _ _
          · exact Stable.is _ _
          · exact Stable.is _ _
          · exact Stable.is _ _
          · exact Stable.is _ _
          · exact Stable.is _ _
          · exact Stable.is _ _
          · exact Stable.is _ _
          · exact Stable.is _ _
          · exact Stable.is _ _
          · exact Stable.is _ _
          · exact Stable.is _ _
          · exact Stable.is _ _
          · exact Stable.is _ _
          · exact Stable.is _ _
          · exact Stable.is _ _
          · exact Stable.is _ _
          · exact Stable.is _ _
          · exact Stable.is _ _
          · exact Stable.is _ _
          · exact Stable.is _ _
          · exact Stable.is _ _
          · intro x wx ox hN TT HTT
            clear hN
            unfold StepTo
            simp only [putAll, Act.put, List.setIfInBounds_toArray, List.set_cons_succ, List.set_cons_zero]
            go_wp2_with fail
            exact ⟨rfl, _, rfl, HTT.out _ _ (rfl) (Only.refl _ _)⟩
          · intro x wx ox hN TT HTT
            clear hN
            unfold StepTo
            simp only [putAll, Act.put, List.setIfInBounds_toArray, List.set_cons_succ, List.set_cons_zero]
            go_wp2_with fail
            exact ⟨rfl, _, rfl, HTT.out _ _ (rfl) (Only.refl _ _)⟩
          · intro x wx ox hN TT HTT
            clear hN
            unfold StepTo
            simp only [putAll, Act.put, List.setIfInBounds_toArray, List.set_cons_succ, List.set_cons_zero]
            go_wp2_with fail
            exact ⟨rfl, _, rfl, HTT.out _ _ (rfl) (Only.refl _ _)⟩
          · intro x wx ox hN TT HTT
            clear hN
            unfold StepTo
            simp only [putAll, Act.put, List.setIfInBounds_toArray, List.set_cons_succ, List.set_cons_zero]
            go_wp2_with fail
            exact ⟨rfl, _, rfl, HTT.out _ _ (rfl) (Only.refl _ _)⟩
          · intro x wx ox hN TT HTT
            have r58 : x 2 = (.slice (some ⟨g, o, none⟩) N c) := hN.1 rfl
            have r59 : x 3 = (.int .i64 (k : Int)) := hN.2.1 rfl
            clear hN
            unfold StepTo
            simp only [putAll, Act.put, List.setIfInBounds_toArray, List.set_cons_succ, List.set_cons_zero, r58, r59]
            clear r58 r59
            go_wp2_with fail
            exact ⟨rfl, _, rfl, HTT.out _ _ (rfl) (Only.refl _ _)⟩
          · intro x wx ox hN TT HTT
            have r60 : x 4 = (.pointer (some ⟨g, o + k * 4, none⟩)) := hN.1 rfl
            clear hN
            unfold StepTo
            simp only [putAll, Act.put, List.setIfInBounds_toArray, List.set_cons_succ, List.set_cons_zero, r60]
            clear r60
            go_wp2_with fail
            exact ⟨rfl, _, rfl, HTT.out _ _ (rfl) (Only.refl _ _)⟩
          · intro x wx ox hN TT HTT
            have r61 : x 5 = (.pointer (some ⟨g, o + k * 4 + 3, none⟩)) := hN.1 rfl
            clear hN
            unfold StepTo
            simp only [putAll, Act.put, List.setIfInBounds_toArray, List.set_cons_succ, List.set_cons_zero, r61]
            clear r61
            obtain ⟨y0, y1, y2, y3, y4, y5⟩ := CF.out wx (OR.out.trans (((Only.refl _ wr).drew).trans ox))
            go_wp2_with fail
            exact ⟨rfl, _, rfl, HTT.out _ _ (rfl) (Only.refl _ _)⟩
          · intro x wx ox hN TT HTT
            clear hN
            unfold StepTo
            simp only [putAll, Act.put, List.setIfInBounds_toArray, List.set_cons_succ, List.set_cons_zero]
            go_wp2_with fail
            exact ⟨rfl, _, rfl, HTT.out _ _ (rfl) (Only.refl _ _)⟩
          · intro x wx ox hN TT HTT
            clear hN
            unfold StepTo
            simp only [putAll, Act.put, List.setIfInBounds_toArray, List.set_cons_succ, List.set_cons_zero]
            go_wp2_with fail
            exact ⟨rfl, _, rfl, HTT.out _ _ (rfl) (Only.refl _ _)⟩
          · intro x wx ox hN TT HTT
            have r63 : x 7 = (.slice (some ⟨g, o, none⟩) N c) := hN.1 rfl
            have r64 : x 8 = (.int .i64 (k : Int)) := hN.2.1 rfl
            clear hN
            unfold StepTo
            simp only [putAll, Act.put, List.setIfInBounds_toArray, List.set_cons_succ, List.set_cons_zero, r63, r64]
            clear r63 r64
            go_wp2_with fail
            exact ⟨rfl, _, rfl, HTT.out _ _ (rfl) (Only.refl _ _)⟩
          · intro x wx ox hN TT HTT
            have r65 : x 9 = (.pointer (some ⟨g, o + k * 4, none⟩)) := hN.1 rfl
            clear hN
            unfold StepTo
            simp only [putAll, Act.put, List.setIfInBounds_toArray, List.set_cons_succ, List.set_cons_zero, r65]
            clear r65
            obtain ⟨y0, y1, y2, y3, y4, y5⟩ := CF.out wx (OR.out.trans (((Only.refl _ wr).drew).trans ox))
            go_wp2_with fail
            exact ⟨rfl, _, rfl, HTT.out _ _ (rfl) (Only.refl _ _)⟩
          · intro x wx ox hN TT HTT
            clear hN
            unfold StepTo
            simp only [putAll, Act.put, List.setIfInBounds_toArray, List.set_cons_succ, List.set_cons_zero]
            go_wp2_with fail
            exact ⟨rfl, _, rfl, HTT.out _ _ (rfl) (Only.refl _ _)⟩
          · intro x wx ox hN TT HTT
            have r66 : x 10 = (.agg #[.int .u8 (t.kind : Int), .string ⟨t.text.toArray⟩, .int .i64 t.n, .int .i64 (t.at_ : Int)]) := hN.1 rfl
            have r67 : x 11 = (.string s) := hN.2.1 rfl
            clear hN
            unfold StepTo
            simp only [putAll, Act.put, List.setIfInBounds_toArray, List.set_cons_succ, List.set_cons_zero, r66, r67]
            clear r66 r67
            have J := Lib.hid (EC.out wx)
            go_wp2_with fail
            refine J.out.mono ?_
            rintro e w9 ⟨rfl, o9⟩
            have O9 := Lib.hid o9; clear o9
            go_wp2_with fail
            exact ⟨rfl, _, rfl, HTT.out _ _ (rfl) (O9.out)⟩
          · intro x wx ox hN TT HTT
            have r57 : x 1 = (.string s) := hN.1 rfl
            have r62 : x 6 = (.int .i64 (t.at_ : Int)) := hN.2.1 rfl
            have r68 : x 12 = (.int .i64 (E : Int)) := hN.2.2.1 rfl
            clear hN
            unfold StepTo
            simp only [putAll, Act.put, List.setIfInBounds_toArray, List.set_cons_succ, List.set_cons_zero, r57, r62, r68]
            clear r57 r62 r68
            have hPC := HPCE.out
            go_wp2_with fail
            exact ⟨rfl, _, rfl, HTT.out _ _ (by rw [← hPC]) (Only.refl _ _)⟩
          · intro x wx ox hN TT HTT
            clear hN
            unfold StepTo
            simp only [putAll, Act.put, List.setIfInBounds_toArray, List.set_cons_succ, List.set_cons_zero]
            go_wp2_with fail
            exact ⟨rfl, _, rfl, HTT.out _ _ (rfl) (Only.refl _ _)⟩
          · intro x wx ox hN TT HTT
            clear hN
            unfold StepTo
            simp only [putAll, Act.put, List.setIfInBounds_toArray, List.set_cons_succ, List.set_cons_zero]
            go_wp2_with fail
            exact ⟨rfl, _, rfl, HTT.out _ _ (rfl) (Only.refl _ _)⟩
          · intro x wx ox hN TT HTT
            clear hN
            unfold StepTo
            simp only [putAll, Act.put, List.setIfInBounds_toArray, List.set_cons_succ, List.set_cons_zero]
            go_wp2_with fail
            exact ⟨rfl, _, rfl, HTT.out _ _ (rfl) (Only.refl _ _)⟩
          · intro x wx ox hN TT HTT
            clear hN
            unfold StepTo
            simp only [putAll, Act.put, List.setIfInBounds_toArray, List.set_cons_succ, List.set_cons_zero]
            go_wp2_with fail
            exact ⟨rfl, _, rfl, HTT.out _ _ (rfl) (Only.refl _ _)⟩
          · intro x wx ox hN TT HTT
            have r73 : x 17 = (.slice (some ⟨pb, po, none⟩) len cap) := hN.1 rfl
            clear hN
            unfold StepTo
            simp only [putAll, Act.put, List.setIfInBounds_toArray, List.set_cons_succ, List.set_cons_zero, r73]
            clear r73
            go_wp2_with fail
            exact ⟨rfl, _, rfl, HTT.out _ _ (rfl) (Only.refl _ _)⟩
          · intro x wx ox hN TT HTT
            have r72 : x 16 = (.int .i64 (k : Int)) := hN.1 rfl
            have r74 : x 18 = (.int .i64 (len : Int)) := hN.2.1 rfl
            clear hN
            unfold StepTo
            simp only [putAll, Act.put, List.setIfInBounds_toArray, List.set_cons_succ, List.set_cons_zero, r72, r74]
            clear r72 r74
            have hQI := HQI.out
            go_wp2_with fail
            exact ⟨rfl, _, rfl, HTT.out _ _ (by simp [hQI]) (Only.refl _ _)⟩
          · intro x wx ox hN TT HTT
            have r71 : x 15 = (.slice (some ⟨pb, po, none⟩) len cap) := hN.1 rfl
            have r75 : x 19 = (.int .i64 (q : Int)) := hN.2.1 rfl
            clear hN
            unfold StepTo
            simp only [putAll, Act.put, List.setIfInBounds_toArray, List.set_cons_succ, List.set_cons_zero, r71, r75]
            clear r71 r75
            go_wp2_with fail
            exact ⟨rfl, _, rfl, HTT.out _ _ (rfl) (Only.refl _ _)⟩
          · intro x wx ox hN TT HTT
            have r76 : x 20 = (.pointer (some ⟨pb, po + q, none⟩)) := hN.1 rfl
            clear hN
            unfold StepTo
            simp only [putAll, Act.put, List.setIfInBounds_toArray, List.set_cons_succ, List.set_cons_zero, r76]
            clear r76
            obtain ⟨y0, y1, y2, y3, y4, y5⟩ := CF.out wx (OR.out.trans (((Only.refl _ wr).drew).trans ox))
            go_wp2_with fail
            exact ⟨rfl, _, rfl, HTT.out _ _ (rfl) (Only.refl _ _)⟩
          · intro x wx ox hN TT HTT
            have r77 : x 21 = (.int .u8 pv) := hN.1 rfl
            clear hN
            unfold StepTo
            simp only [putAll, Act.put, List.setIfInBounds_toArray, List.set_cons_succ, List.set_cons_zero, r77]
            clear r77
            go_wp2_with fail
            exact ⟨rfl, _, rfl, HTT.out _ _ (rfl) (Only.refl _ _)⟩
          · intro x wx ox hN TT HTT
            have r78 : x 22 = (.int .i64 pv) := hN.1 rfl
            clear hN
            unfold StepTo
            simp only [putAll, Act.put, List.setIfInBounds_toArray, List.set_cons_succ, List.set_cons_zero, r78]
            clear r78
            have hMI := HMI.out
            go_wp2_with fail
            exact ⟨rfl, _, rfl, HTT.out _ _ (by simp [hMI]) (Only.refl _ _)⟩
          · intro x wx ox hN TT HTT
            have r70 : x 14 = (.slice (some ⟨gb, 0, none⟩) 6 6) := hN.1 rfl
            have r79 : x 23 = (.int .i64 (m : Int)) := hN.2.1 rfl
            clear hN
            unfold StepTo
            simp only [putAll, Act.put, List.setIfInBounds_toArray, List.set_cons_succ, List.set_cons_zero, r70, r79]
            clear r70 r79
            go_wp2_with fail
            exact ⟨rfl, _, rfl, HTT.out _ _ (rfl) (Only.refl _ _)⟩
          · intro x wx ox hN TT HTT
            have r80 : x 24 = (.pointer (some ⟨gb, m, none⟩)) := hN.1 rfl
            clear hN
            unfold StepTo
            simp only [putAll, Act.put, List.setIfInBounds_toArray, List.set_cons_succ, List.set_cons_zero, r80]
            clear r80
            obtain ⟨y0, y1, y2, y3, y4, y5⟩ := CF.out wx (OR.out.trans (((Only.refl _ wr).drew).trans ox))
            go_wp2_with fail
            exact ⟨rfl, _, rfl, HTT.out _ _ (rfl) (Only.refl _ _)⟩
          · intro x wx ox hN TT HTT
            have r69 : x 13 = (.string PC) := hN.1 rfl
            have r81 : x 25 = (.string GB) := hN.2.1 rfl
            clear hN
            unfold StepTo
            simp only [putAll, Act.put, List.setIfInBounds_toArray, List.set_cons_succ, List.set_cons_zero, r69, r81]
            clear r69 r81
            go_wp2_with fail
            exact ⟨rfl, _, rfl, HTT.out _ _ (rfl) (Only.refl _ _)⟩
          · intro x wx ox hN TT HTT
            have r56 : x 0 = (.string XB) := hN.1 rfl
            have r82 : x 26 = (.string (PC ++ GB)) := hN.2.1 rfl
            clear hN
            unfold StepTo
            simp only [putAll, Act.put, List.setIfInBounds_toArray, List.set_cons_succ, List.set_cons_zero, r56, r82]
            clear r56 r82
            go_wp2_with fail
            exact ⟨rfl, _, rfl, HTT.out _ _ (rfl) (Only.refl _ _)⟩
          intro xz wxz oxz hN
          have r56 : xz 0 = (.string XB) := hN.1
          have r57 : xz 1 = (.string s) := hN.2.1
          have r58 : xz 2 = (.slice (some ⟨g, o, none⟩) N c) := hN.2.2.1
          have r59 : xz 3 = (.int .i64 (k : Int)) := hN.2.2.2.1
          have r60 : xz 4 = (.pointer (some ⟨g, o + k * 4, none⟩)) := hN.2.2.2.2.1
          have r61 : xz 5 = (.pointer (some ⟨g, o + k * 4 + 3, none⟩)) := hN.2.2.2.2.2.1
          have r62 : xz 6 = (.int .i64 (t.at_ : Int)) := hN.2.2.2.2.2.2.1
          have r63 : xz 7 = (.slice (some ⟨g, o, none⟩) N c) := hN.2.2.2.2.2.2.2.1
          have r64 : xz 8 = (.int .i64 (k : Int)) := hN.2.2.2.2.2.2.2.2.1
          have r65 : xz 9 = (.pointer (some ⟨g, o + k * 4, none⟩)) := hN.2.2.2.2.2.2.2.2.2.1
          have r66 : xz 10 = (.agg #[.int .u8 (t.kind : Int), .string ⟨t.text.toArray⟩, .int .i64 t.n, .int .i64 (t.at_ : Int)]) := hN.2.2.2.2.2.2.2.2.2.2.1
          have r67 : xz 11 = (.string s) := hN.2.2.2.2.2.2.2.2.2.2.2.1
          have r68 : xz 12 = (.int .i64 (E : Int)) := hN.2.2.2.2.2.2.2.2.2.2.2.2.1
          have r69 : xz 13 = (.string PC) := hN.2.2.2.2.2.2.2.2.2.2.2.2.2.1
          have r70 : xz 14 = (.slice (some ⟨gb, 0, none⟩) 6 6) := hN.2.2.2.2.2.2.2.2.2.2.2.2.2.2.1
          have r71 : xz 15 = (.slice (some ⟨pb, po, none⟩) len cap) := hN.2.2.2.2.2.2.2.2.2.2.2.2.2.2.2.1
          have r72 : xz 16 = (.int .i64 (k : Int)) := hN.2.2.2.2.2.2.2.2.2.2.2.2.2.2.2.2.1
          have r73 : xz 17 = (.slice (some ⟨pb, po, none⟩) len cap) := hN.2.2.2.2.2.2.2.2.2.2.2.2.2.2.2.2.2.1
          have r74 : xz 18 = (.int .i64 (len : Int)) := hN.2.2.2.2.2.2.2.2.2.2.2.2.2.2.2.2.2.2.1
          have r75 : xz 19 = (.int .i64 (q : Int)) := hN.2.2.2.2.2.2.2.2.2.2.2.2.2.2.2.2.2.2.2.1
          have r76 : xz 20 = (.pointer (some ⟨pb, po + q, none⟩)) := hN.2.2.2.2.2.2.2.2.2.2.2.2.2.2.2.2.2.2.2.2.1
          have r77 : xz 21 = (.int .u8 pv) := hN.2.2.2.2.2.2.2.2.2.2.2.2.2.2.2.2.2.2.2.2.2.1
          have r78 : xz 22 = (.int .i64 pv) := hN.2.2.2.2.2.2.2.2.2.2.2.2.2.2.2.2.2.2.2.2.2.2.1
          have r79 : xz 23 = (.int .i64 (m : Int)) := hN.2.2.2.2.2.2.2.2.2.2.2.2.2.2.2.2.2.2.2.2.2.2.2.1
          have r80 : xz 24 = (.pointer (some ⟨gb, m, none⟩)) := hN.2.2.2.2.2.2.2.2.2.2.2.2.2.2.2.2.2.2.2.2.2.2.2.2.1
          have r81 : xz 25 = (.string GB) := hN.2.2.2.2.2.2.2.2.2.2.2.2.2.2.2.2.2.2.2.2.2.2.2.2.2.1
          have r82 : xz 26 = (.string (PC ++ GB)) := hN.2.2.2.2.2.2.2.2.2.2.2.2.2.2.2.2.2.2.2.2.2.2.2.2.2.2.1
          have r83 : xz 27 = (.string (XB ++ (PC ++ GB))) := hN.2.2.2.2.2.2.2.2.2.2.2.2.2.2.2.2.2.2.2.2.2.2.2.2.2.2.2.1
          clear hN
          simp only [putAll, Act.put, List.setIfInBounds_toArray, List.set_cons_succ, List.set_cons_zero, r56, r57, r58, r59, r60, r61, r62, r63, r64, r65, r66, r67, r68, r69, r70, r71, r72, r73, r74, r75, r76, r77, r78, r79, r80, r81, r82, r83]
          clear r56 r57 r58 r59 r60 r61 r62 r63 r64 r65 r66 r67 r68 r69 r70 r71 r72 r73 r74 r75 r76 r77 r78 r79 r80 r81 r82 r83
          have HOZ := Lib.hid (OR.out.trans (((Only.refl _ wr).drew).trans oxz))
          clear oxz
          rw [PE.out, ← HSU.out]
          clear EC PE CF HSU HMI HQI HPCE HGBE HXBE
          go_wp2_with fail
          go_roundw
          case rel => first | exact ⟨k + 1, by simp, by omega, rfl, HOZ⟩ | ((repeat apply Exists.intro); refine ⟨?_, rfl⟩; exact ⟨k + 1, by simp, by omega, rfl, HOZ⟩)
          case measure => simp [intOf]; omega
        · have t1 : decide ((k : Int) + 1 < (N : Int)) = false := decide_eq_false (by omega)
          have hke : k = ts.length - 1 := by rw [HN.out]; omega
          have hbl := HBL.out
          rw [← hke] at hbl
          have hul : (upT s.data.toList (gapG z len) ts k).length ≤ 2000000 := by
            have h1 := upT_len s.data.toList (gapG z len) (fun i => gap6_len _) ts k
            have e9 : s.data.toList.length = s.size := rfl
            rw [e9] at h1
            have h2 : k * (s.size + 3) ≤ 2001 * 503 := Nat.mul_le_mul (by omega) (by omega)
            omega
          generalize upT s.data.toList (gapG z len) ts k = U at *
          have H2 := Lib.hid (CellsAt.only OR.out (fun _ _ h => h) _ _ H1.out)
          have HB2 := Lib.hid ((OR.out.block b1 (Array.getElem?_eq_some_iff.1 HB1.out).1 (fun h => h)).trans HB1.out)
          have HO6 := Lib.hid (HO5.out.trans OR.out)
          have Q := Lib.hid (document_any U wr (by unfold maxLen; omega))
          have HUL := Lib.hid hul
          clear hul hke H1 HB1 HBL HO5 OR HEN HTC HPC TR5 HX
          rcases hbl with hb | hb
          · have t3 : decide (((⟨U.toArray⟩ : ByteArray).size : Int) > 2000) = true := decide_eq_true (by show ((U.length : Nat) : Int) > 2000; omega)
            obtain ⟨UB, hUB⟩ : ∃ UB : ByteArray, (⟨U.toArray⟩ : ByteArray) = UB := ⟨_, rfl⟩
            rw [hUB] at t3 Q ⊢
            clear hb hUB HUL
            go_wp2_with fail
            refine Q.out.mono ?_
            intro e w7 hr
            obtain ⟨q1, l1, cc1, q2, l2, cc2, x, cc, rfl, O3⟩ := hr.any2
            have HO7 := Lib.hid ((HO6.out.trans O3).alloc (.cells #[.slice q1 l1 cc1, .slice q2 l2 cc2] 26))
            clear O3 Q hr
            go_wp2_with fail
            go_ret
            exact ⟨rfl, HO7.out.below (Nat.le_refl _) (fun _ _ h => h)⟩
          · rw [hb] at Q
            have hUl : U.length ≤ 2000 := by
              rcases Nat.lt_or_ge 2000 U.length with h | h
              · rw [docP_long h] at hb; cases hb
              · exact h
            have t3 : decide (((⟨U.toArray⟩ : ByteArray).size : Int) > 2000) = false := decide_eq_false (by show ¬ ((U.length : Nat) : Int) > 2000; omega)
            obtain ⟨UB, hUB⟩ : ∃ UB : ByteArray, (⟨U.toArray⟩ : ByteArray) = UB := ⟨_, rfl⟩
            rw [hUB] at t3 Q ⊢
            clear hb hUB HUL hUl
            go_wp2_with fail
            refine Q.out.mono ?_
            rintro e w7 ⟨p1, k1, p2, k2, rfl, h2, O7⟩
            obtain ⟨j1, hz1⟩ : ∃ x, d.ops.length = x := ⟨_, rfl⟩
            obtain ⟨j2, hz2⟩ : ∃ x, d.frags.length = x := ⟨_, rfl⟩
            rw [hz1, hz2] at h2 ⊢
            obtain ⟨w8, hw8⟩ : ∃ x, w7.alloc (.cells #[.slice p1 j1 k1, .slice p2 j2 k2] 26) = x := ⟨_, rfl⟩
            obtain ⟨b2, hb2⟩ : ∃ x, w7.heap.size = x := ⟨_, rfl⟩
            have o8 : Only (fun _ => False) w7 w8 := by rw [← hw8]; exact (Only.refl _ w7).alloc _
            have hB3 := heap_new w7 (.cells #[.slice p1 j1 k1, .slice p2 j2 k2] 26)
            rw [hw8, hb2] at hB3
            have HB3 := Lib.hid hB3
            have o78 := O7.trans o8
            have HB4 := Lib.hid ((o78.block b1 (Array.getElem?_eq_some_iff.1 HB2.out).1 (fun h => h)).trans HB2.out)
            have SM := Lib.hid (sameD_true d _ _ w8 _ _ _ _ (CellsAt.only o78 (fun _ _ h => h) _ _ H2.out) (CellsAt.only o8 (fun _ _ h => h) _ _ h2))
            have HO8 := Lib.hid (HO6.out.trans o78)
            have HW8 := Lib.hid hw8; have Hb2 := Lib.hid hb2; have HZ2 := Lib.hid (And.intro hz1 hz2)
            clear h2 O7 Q H2 hw8 hb2 o8 o78 hB3 hz1 hz2
            go_upto_region 14 with (fail)
            rw [HW8.out, Hb2.out]
            obtain ⟨y0, y1, -⟩ := boxN2 HB4.out
            obtain ⟨u0, u1, -⟩ := boxN2 HB3.out
            go_wp2_with fail
            refine SM.out.mono ?_
            rintro e w9 ⟨rfl, O9⟩
            have HO9 := Lib.hid (HO8.out.trans O9)
            clear O9
            go_wp2_with fail
            go_ret
            exact ⟨rfl, HO9.out.below (Nat.le_refl _) (fun _ _ h => h)⟩
end Go.Proofs.YtgephneppgcnlaaDoor
