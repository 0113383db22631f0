/- columbarylaw02.LedgerKeeps: the walk. -/
import Derived.Test.YtlkglhgndfhjeaaGlu
namespace Go.Proofs.Ytlkglhgndfhjeaa
open Go Go.RowKit
set_option linter.unusedVariables false
set_option linter.unusedSimpArgs false
set_option maxRecDepth 100000

theorem u8s_set (l : List UInt8) (j : Nat) (x : UInt8) : u8s (l.set j x) = (u8s l).set j (.int .u8 (x.toNat : Int)) := by
  unfold u8s; rw [List.map_set]
theorem own8_set {w : World} {B g c : Nat} {l : List UInt8} (h : Own8 w B (.slice (some ⟨g, 0, none⟩) l.length c) l) {j : Nat} (hj : j < l.length) (x : UInt8) : Own8 (w.setCell ⟨g, j, none⟩ (.int .u8 (x.toNat : Int))) B (.slice (some ⟨g, 0, none⟩) (l.set j x).length c) (l.set j x) := by
  obtain ⟨a, c', e, h⟩ := h
  injection e with e1 e2 e3
  subst e1; subst e3
  refine ⟨some ⟨g, 0, none⟩, c, by rfl, ?_⟩
  rw [List.length_set, u8s_set]
  obtain ⟨h1, h2⟩ := h
  rcases h2 with ⟨e, _⟩ | ⟨g', cap, cur, e, hg, hh, h3, h4, h5, h6⟩
  · cases e
  · injection e with e _ e3
    injection e with e
    injection e with e1
    subst e1; subst e3
    refine ⟨by simpa using h1, .inr ⟨g, c, cur.setIfInBounds j _, rfl, hg, heap_set hh _, h3, h4, by simpa using h5, ?_⟩⟩
    rw [Array.toList_setIfInBounds, List.take_set, h6]
theorem own8_facts {w : World} {B : Nat} {v : Value} {l : List UInt8} (h : Own8 w B v l) (hp : 0 < l.length) : ∃ g c, v = .slice (some ⟨g, 0, none⟩) l.length c ∧ B ≤ g ∧ g < w.heap.size ∧ (∀ o, w.frozen? ⟨g, o, none⟩ = false) ∧ ∀ j (hj : j < l.length), w.cell? ⟨g, j, none⟩ = some (.int .u8 (l[j].toNat : Int)) := by
  obtain ⟨a, c, rfl, h⟩ := h
  obtain ⟨g, c', e, h1, h2, h3⟩ := own_range h hp
  injection e with e1 e2 e3
  subst e1
  refine ⟨g, c, rfl, h1, h2, fun o => own_frozen h o, fun j hj => ?_⟩
  have := h3 j (.int .u8 ((l[j].toNat : Nat) : Int)) (by simp [u8s, hj])
  rwa [Nat.zero_add] at this
theorem x8 (a b : Nat) (ha : a < 256) (hb : b < 256) : bits .xor .u8 (a : Int) (b : Int) = ((a ^^^ b : Nat) : Int) := by
  have hx : a ^^^ b < 256 := Nat.xor_lt_two_pow (n := 8) ha hb
  have e : ∀ n : Nat, n < 256 → (BitVec.ofInt 8 (n : Int)).toNat = n := fun n hn => by
    rw [BitVec.ofInt_natCast, BitVec.toNat_ofNat]; exact Nat.mod_eq_of_lt hn
  show IntKind.u8.wrap ((BitVec.ofInt 8 (a : Int) ^^^ BitVec.ofInt 8 (b : Int)).toNat : Int) = _
  rw [BitVec.toNat_xor, e a ha, e b hb, IntKind.wrap_u8]; omega
theorem byte_of {m : Nat} (h : m < 256) : ∃ x : UInt8, x.toNat = m := ⟨UInt8.ofNat m, by simp; omega⟩
theorem LS.lu {W : World} {X : Nat → Prop} {w : World} {d l m a h N : Nat} {fs : List (List UInt8)} (hs : LS W X w d l m a h N fs) : LU W (fun _ => False) w d l m a h N fs := by
  obtain ⟨V, f, hl, h1, h2, h3, h4⟩ := hs
  obtain ⟨dx, good, ⟨b, c, k1, k2, k3⟩, xl, hw⟩ := hl
  exact ⟨V, f, X, b, c, ⟨dx, good, k1, k2, fun k hk => ⟨(k3 k hk).1, (k3 k hk).2, fun h => h⟩, xl, hw, h1, h2, h3, h4, fun _ h => h.elim⟩⟩
theorem lu_lawopen (W : World) (h : Nat) (w : World) (hW : Only (fun _ => False) W w) (hh : 2 ≤ h ∧ h ≤ 2000) :
    Calls Try.prog 40 #[.int .i64 ((2 * h : Nat) : Int)] w fun e w' => ∃ d l, e = .returned (.tuple #[.pointer (some ⟨d, 0, none⟩), .pointer (some ⟨l, 0, none⟩)]) ∧ LU W (fun _ => False) w' d l (h + 2) 1 h (2 * h + 1) [[]] ∧ Only (fun _ => False) w w' :=
  (law_open W h w hW hh).mono fun e w' ⟨d, l, X, he, hs, _, ho⟩ => ⟨d, l, he, hs.lu, ho⟩
set_option maxHeartbeats 8000000 in
theorem keeps02 (v : Value) (p : List UInt8) (w : World) (hp : Bytes w v p) :
    Calls Try.prog 13 #[v] w fun e w' => e = .returned (.bool true) ∧ Below w.heap.size w w' := by
  have hp' := hp
  obtain ⟨a, cap, rfl, hc1, hc2, _⟩ := hp
  have hl0 : (0 : Int) ≤ (p.length : Int) := by omega
  have hl9 : (p.length : Int) ≤ 9223372036854775807 := by omega
  have HP := Lib.hid hp'; clear hp'
  by_cases h0 : p.length = 0 ∨ 500 < p.length
  · have early : ∀ w1, Only (fun _ => False) w w1 → Calls Try.prog 32 #[] w1 fun e w' => e = .returned (.bool true) ∧ Only (fun _ => False) w w' := fun w1 o => (awake02 w1).mono fun e w' ⟨h, h'⟩ => ⟨h, o.trans h'⟩
    have EA := Lib.hid early; clear early
    by_cases h1 : p.length = 0
    · rw [h1] at hl0 hl9 ⊢
      clear h0 h1
      go_enter Try.func13, Try.ntmps13
      go_wp2_with fail
      refine (awake02 w).mono ?_
      rintro e w1 ⟨rfl, o1⟩
      have EB := Lib.hid (EA.out w1 o1); clear o1
      go_wp2_with fail
      refine EB.out.mono ?_
      rintro e w2 ⟨rfl, o2⟩
      have O2 := Lib.hid o2; clear o2
      go_wp2_with fail
      go_ret
      exact ⟨rfl, O2.out.still⟩
    · have t1 : ((p.length : Int) == 0) = false := beq_eq_false_iff_ne.2 (by omega)
      have t1' : (p.length == 0) = false := beq_eq_false_iff_ne.2 (by omega)
      have t2 : decide ((500 : Int) < (p.length : Int)) = true := by simp; omega
      have t2' : decide (500 < p.length) = true := by simp; omega
      clear h0 h1
      go_enter Try.func13, Try.ntmps13
      go_wp2_with fail
      refine (awake02 w).mono ?_
      rintro e w1 ⟨rfl, o1⟩
      have EB := Lib.hid (EA.out w1 o1); clear o1
      go_wp2_with fail
      refine EB.out.mono ?_
      rintro e w2 ⟨rfl, o2⟩
      have O2 := Lib.hid o2; clear o2
      go_wp2_with fail
      go_ret
      exact ⟨rfl, O2.out.still⟩
  · have t1 : ((p.length : Int) == 0) = false := beq_eq_false_iff_ne.2 (by omega)
    have t1' : (p.length == 0) = false := beq_eq_false_iff_ne.2 (by omega)
    have t2 : decide ((500 : Int) < (p.length : Int)) = false := by simp; omega
    have t2' : decide (500 < p.length) = false := by simp; omega
    have hpl : 0 < p.length ∧ p.length ≤ 500 := by omega
    have HPL := Lib.hid hpl
    have hpp : (0 : Int) < (p.length : Int) := by omega
    clear h0 hpl
    go_enter Try.func13, Try.ntmps13
    go_wp2_with fail
    refine (awake02 w).mono ?_
    rintro e w1 ⟨rfl, o1⟩
    have hop := lu_lawopen w 20 w1 o1 (by decide)
    rw [show ((2 * 20 : Nat) : Int) = 40 from rfl] at hop
    have HOP := Lib.hid hop; clear hop o1
    go_wp2_with fail
    refine HOP.out.mono ?_
    rintro e w2 ⟨d, l, rfl, hs, o2⟩
    have HS := Lib.hid hs; clear hs o2
    go_wp2_with ((refine wpList_append8 (o := ⟨some 29, _, _, _, _, _⟩) rfl (.const (.slice none 0 0)) (.tmp 28) (by rfl) w2.heap.size _ _ [] p (by rfl) (by rfl) (Own8.nil _ _) (HP.out.still HS.out.old) (by have := HPL.out; simp; omega) (Nat.le_refl _) ?_; intro q aQ cQ w3 hq h3 g3))
    have eq : q = p := by rw [hq.out, List.nil_append]
    subst eq
    have ho3 : Only (fun _ => False) w2 w3 := g3.out.1.mono (fun k _ hk => by cases hk)
    obtain ⟨g, cg, eg, hgB, hgl, hfz, hcell⟩ := own8_facts h3.out HPL.out.1
    injection eg with eg1 _ eg2
    subst eg1; subst eg2
    have hs3 := (HS.out.grow ho3).less (U' := fun k => k = g) (fun k hk => by subst hk; exact .inr ⟨hgB, hgl⟩)
    have hsn := lu_snap w _ d l (20 + 2) 1 20 (2 * 20 + 1) [[]] _ q w3 hs3 h3.out.bytes (by have := HPL.out; omega) (by decide)
    rw [if_neg (by have := HPL.out; omega), if_neg (by have := HPL.out; omega)] at hsn
    have HSN := Lib.hid hsn; have H3 := h3
    clear hsn hs3 ho3 hfz hcell hq g3
    refine HSN.out.mono ?_
    rintro e w4 ⟨rfl, hs4, o4⟩
    have h4 := H3.out.only o4 (fun k hk hs => hs.2 (by cases hk; rfl))
    obtain ⟨g', c', e', hg1', hg2', hfz4, hc4⟩ := own8_facts h4 HPL.out.1
    injection e' with e' _ ec'
    injection e' with e'; injection e' with e' _ _
    subst e'; subst ec'
    have hc40 := hc4 0 HPL.out.1
    have hb0 := q[0].toNat_lt
    obtain ⟨x0, hx0⟩ : ∃ x0, q[0].toNat = x0 := ⟨_, rfl⟩
    rw [hx0] at hc40 hb0
    obtain ⟨y, hy⟩ := byte_of (Nat.xor_lt_two_pow (n := 8) (show x0 < 2 ^ 8 by omega) (show 1 < 2 ^ 8 by decide))
    have hx := x8 x0 1 (by omega) (by decide)
    rw [← hy, show ((1 : Nat) : Int) = 1 from rfl] at hx
    have h5 := own8_set h4 HPL.out.1 y
    have o5 := (Only.refl (fun k => k = g) w4).setCell (p := ⟨g, 0, none⟩) (.inl rfl) (.int .u8 (y.toNat : Int))
    have hs5 := hs4.only o5 (fun k hk e => by subst e; exact ⟨Nat.le_trans HS.out.old.size hgB, rfl⟩)
    have hl5 : (q.set 0 y).length = q.length := List.length_set
    have hap := lu_append w _ d l _ 1 20 (2 * 20 + 1) [q] _ (q.set 0 y) _ hs5 h5.bytes (by have := HPL.out; rw [hl5]; omega) (by decide)
    have ea : acode ((20 - 1) * 64) [q] (q.set 0 y) = 0 := by
      unfold acode
      simp only [sizes, hl5]
      rw [if_neg (by have := HPL.out; omega), if_neg (by have := HPL.out; omega)]
    have ef : afs ((20 - 1) * 64) [q] (q.set 0 y) = [q, q.set 0 y] := by unfold afs; rw [ea, if_pos rfl]; rfl
    rw [ea, ef, hl5] at hap
    rw [hl5] at h5
    have hfz0 := hfz4 0
    have HAP := Lib.hid hap; have H5 := Lib.hid h5; have HL5 := Lib.hid hl5
    clear hap h5 o5 hs5 ea ef hs4 h4 hc4 hfz4 o4 hx0 hy hg1' hg2' hl5
    have hqq : 0 < q.length := HPL.out.1
    go_wp2_with fail
    refine HAP.out.mono ?_
    rintro e w6 ⟨rfl, hs6, o6⟩
    obtain ⟨p2, hp2⟩ : ∃ p2, p2 = q.set 0 y := ⟨_, rfl⟩
    have hl2 : p2.length = q.length := by rw [hp2]; exact HL5.out
    have h6 := H5.out.only o6 (fun k hk hs => hs.2 (by cases hk; rfl))
    rw [← hp2] at h6 hs6
    rw [← hl2] at h6
    obtain ⟨g6, c6, e6, _, _, hfz6, hc6⟩ := own8_facts h6 (by rw [hl2]; exact HPL.out.1)
    injection e6 with e6 _ ec6
    injection e6 with e6; injection e6 with e6 _ _
    subst e6; subst ec6
    have hc60 := hc6 0 (by rw [hl2]; exact HPL.out.1)
    have hb6 := (p2[0]'(by rw [hl2]; exact HPL.out.1)).toNat_lt
    obtain ⟨x6, hx6⟩ : ∃ x6, (p2[0]'(by rw [hl2]; exact HPL.out.1)).toNat = x6 := ⟨_, rfl⟩
    rw [hx6] at hc60 hb6
    obtain ⟨y6, hy6⟩ := byte_of (Nat.xor_lt_two_pow (n := 8) (show x6 < 2 ^ 8 by omega) (show 2 < 2 ^ 8 by decide))
    have hxx := x8 x6 2 (by omega) (by decide)
    rw [← hy6, show ((2 : Nat) : Int) = 2 from rfl] at hxx
    have o7 := (Only.refl (fun k => k = g) w6).setCell (p := ⟨g, 0, none⟩) (.inl rfl) (.int .u8 (y6.toNat : Int))
    have hs7 := hs6.only o7 (fun k hk e => by subst e; exact ⟨Nat.le_trans HS.out.old.size hgB, rfl⟩)
    have hop2 := lu_open w _ d l _ 1 20 (2 * 20 + 1) q [p2] _ hs7 (by decide)
    rw [show ((2 * 20 : Nat) : Int) = 40 from rfl, show ((1 : Nat) : Int) = 1 from rfl] at hop2
    have hcv6 := h6.bytes.conv
    rw [hl2] at hcv6
    have hfz60 := hfz6 0
    have HOP2 := Lib.hid hop2; have HL2 := Lib.hid hl2
    clear hs6 h6 hfz6 hc6 hx6 hy6 o7 hs7 hop2 hp2 o6 hc40 hx hfz0 hl2
    go_wp2_with fail
    refine HOP2.out.mono ?_
    rintro e w8 ⟨l', sv, av, rfl, hs8, hrec, _, o8⟩
    obtain ⟨⟨aS, cS, eS, hbS, _⟩, aR, cR, rfl, hcR1, hcR2, hlist⟩ := hrec
    injection eS with eS _
    subst eS
    obtain ⟨b, off, cs, rfl, _, hbl, _, hra, aV, cV, rfl, hbV, _⟩ := hlist.get 0 (by simp)
    have hcell : w8.cell? ⟨b, off, none⟩ = some (.slice aV p2.length cV) := by
      have := hra 0 _ rfl
      simpa using this
    have k1 := hbS.conv
    have k2 := (HP.out.still hs8.old).conv
    have k3 := hbV.conv
    simp only [List.getElem_cons_zero] at k3
    have HS8 := Lib.hid hs8.old
    clear hs8 hbS hra hbV hlist o8 hcv6 hc60 hxx hfz60
    simp only [List.length_singleton] at hcR1 ⊢
    go_wp2_with fail
    go_ret
    exact ⟨rfl, HS8.out.still⟩
theorem keeps_walk02 (a : Option Addr) (len cap : Nat) (z : List Int) (w : World) (hr : IsRow .u8 w a len cap z) :
    Calls Try.prog 13 #[.slice a len cap] w fun e w' => e = .returned (.bool true) ∧ Below w.heap.size w w' := by
  obtain ⟨l, rfl, hb, _⟩ := bytes_row hr
  exact keeps02 _ l w hb
end Go.Proofs.Ytlkglhgndfhjeaa
