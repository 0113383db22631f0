/- Bytes that a call makes; slices.Clone, slices.Equal over bytes. (Out of XWre and XOpn.) -/
import Derived.Test.YtlkglhgndfhjeaaBytB
import Derived.Deep.Cut
import Derived.BigQuiet
namespace Go.Proofs.Ytlkglhgndfhjeaa
open Go Go.RowKit
set_option linter.unusedVariables false
set_option linter.unusedSimpArgs false
set_option maxRecDepth 100000

theorem range_only {S : Nat → Prop} {w w' : World} {b off : Nat} {cs : List Value} (h : w.rangeAt b off cs) (hb : b < w.heap.size) (ho : Only S w w') (hS : ¬ S b) : w'.rangeAt b off cs := fun j v hv => by
  rw [cell_only ho hb hS]; exact h j v hv
theorem eq_of_take {α : Type} {xs ys : List α} (hl : xs.length = ys.length) (h : xs.take xs.length = ys.take xs.length) : xs = ys := by
  rw [List.take_length, hl, List.take_length] at h; exact h
theorem take_snoc_eq {α : Type} {xs ys : List α} {i : Nat} (hi : i < xs.length) (hi' : i < ys.length) (h : xs.take i = ys.take i) (he : xs[i] = ys[i]) : xs.take (i + 1) = ys.take (i + 1) := by
  rw [List.take_succ_eq_append_getElem hi, List.take_succ_eq_append_getElem hi', h, he]
theorem u8s_ofNat {n : Nat} (h : n < 256) : u8s [UInt8.ofNat n] = [.int .u8 (n : Int)] := by
  have e : (UInt8.ofNat n).toNat = n := by simp; omega
  show [Value.int .u8 ((UInt8.ofNat n).toNat : Int)] = _
  rw [e]
theorem u8s_cons (b : UInt8) (l : List UInt8) : u8s (b :: l) = .int .u8 (b.toNat : Int) :: u8s l := rfl

/-- What a pure call of bytes leaves: a row of its own. -/
def Makes (w : World) (l : List UInt8) (e : Ending) (w' : World) : Prop := ∃ v, e = .returned v ∧ Own8 w' w.heap.size v l ∧ Only (fun _ => False) w w'
theorem Own8.form {w : World} {B : Nat} {v : Value} {l : List UInt8} (h : Own8 w B v l) : ∃ a c, v = .slice a l.length c := by obtain ⟨a, c, e, _⟩ := h; exact ⟨a, c, e⟩
theorem Own8.le {w : World} {B : Nat} {v : Value} {l : List UInt8} (h : Own8 w B v l) : l.length ≤ 9223372036854775807 := h.bytes.len
theorem Grow.step {w w' : World} {v v' : Value} {S : Nat → Prop} {a : World} (h : Grow w w' v v') (ho : Only S a w) (hS : ∀ k, v.ownBlock = some k → S k ∨ a.heap.size ≤ k) : Only S a w' :=
  ho.trans' h.1 (fun k hk e => (hS k e).resolve_right (by omega))

/-! ### slices.Clone -/
theorem eql_slice_nil (w : World) (a : Option Addr) (n c : Nat) : (binOp .eql 22 (.slice a n c) (.slice none 0 0)).run Try.prog w = .ok (.bool a.isNone) w := by
  simp only [binOp]
  simp [Op.equal, Op.maxDepth, Lib.run_equalIn_slice_nil (P := Try.prog) w 9999 22 5 a n c 0 0 Try.underlying22]
set_option maxRecDepth 100000 in
theorem clone_any (v : Value) (l : List UInt8) (w : World) (hb : Bytes w v l) (hl : l.length ≤ 100000000000) : Calls Try.prog 58 #[v] w (Makes w l) := by
  have HB := Lib.hid hb
  obtain ⟨a, c, rfl, h1, h2, h3⟩ := hb
  clear h3
  cases a with
  | none =>
    have hn : l = [] := by
      obtain ⟨a', c', e, _, _, h⟩ := HB.out
      rcases Nat.eq_zero_or_pos l.length with h0 | h0
      · exact List.eq_nil_of_length_eq_zero h0
      · obtain ⟨_, _, e2, _⟩ := h h0
        rw [e2] at e; cases e
    have HN := Lib.hid hn; clear hn
    have hq := eql_slice_nil w none l.length c
    go_enter Try.func58, Try.ntmps58
    go_wp2
    go_ret
    rw [HN.out]
    exact ⟨_, rfl, Own8.nil _ _, Only.refl _ _⟩
  | some ad =>
    have hnew := own8_new w [] (B := w.heap.size) (Nat.le_refl _) (by unfold maxLen; simp) (C := #[]) rfl
    have HNEW := Lib.hid hnew; clear hnew
    have o1 := (Only.refl (fun _ => False) w).alloc (.cells #[] 5)
    have O1 := Lib.hid o1; clear o1
    have hq := eql_slice_nil w (some ad) l.length c
    go_enter Try.func58, Try.ntmps58
    go_wp2_with ((refine wpList_append8 (o := ⟨some 7, _, _, _, _, _⟩) rfl (.tmp 5) (.tmp 6) (by rfl) w.heap.size _ _ [] l (by rfl) (by rfl) HNEW.out (HB.out.still O1.out) (by simp; omega) O1.out.size ?_; intro L a3 c3 w3 hL h3 g3))
    go_ret
    have e3 := hL.out
    rw [List.nil_append] at e3
    subst e3
    exact ⟨_, rfl, h3.out, g3.out.step O1.out (fun k hk => .inr (HNEW.out.ge hk).1)⟩

/-- A row of bytes. -/
def BytesAt (w : World) (a : Option Addr) (l : List UInt8) : Prop := 0 < l.length → ∃ b off, a = some ⟨b, off, none⟩ ∧ b < w.heap.size ∧ w.rangeAt b off (u8s l)
theorem Bytes.at {w : World} {a : Option Addr} {n c : Nat} {l : List UInt8} (h : Bytes w (.slice a n c) l) : BytesAt w a l ∧ n = l.length := by
  obtain ⟨a', c', e, h1, h2, h3⟩ := h
  injection e with e1 e2 e3
  subst e1
  exact ⟨h3, e2⟩
theorem equalB (a b : Option Addr) (ca cb : Nat) (ks ks2 : List UInt8) (w : World) (h : BytesAt w a ks) (h2 : BytesAt w b ks2) (hl : ks.length ≤ 9223372036854775807) (hl2 : ks2.length ≤ 9223372036854775807) :
    Calls Try.prog 53 #[.slice a ks.length ca, .slice b ks2.length cb] w (fun e w' => e = .returned (.bool (decide (ks = ks2))) ∧ Only (fun _ => False) w w') := by
  obtain ⟨lk, hlk⟩ : ∃ lk, lk = ks.length := ⟨_, rfl⟩
  obtain ⟨mk, hmk⟩ : ∃ lk, lk = ks2.length := ⟨_, rfl⟩
  rw [← hlk] at hl ⊢
  rw [← hmk] at hl2 ⊢
  have HLK := Lib.hid hlk; have HMK := Lib.hid hmk; have HK := Lib.hid h; have HK2 := Lib.hid h2; clear hlk hmk h h2
  by_cases q1 : lk = mk
  rotate_left
  · have t1 : ((lk : Int) != (mk : Int)) = true := by simp; omega
    have t2 : ((lk : Int) == (mk : Int)) = false := by simp; omega
    have t3 : (lk != mk) = true := by simp; omega
    have t4 : (lk == mk) = false := by simp; omega
    have hres : decide (ks = ks2) = false := by simp; intro e; apply q1; rw [HLK.out, HMK.out, e]
    rw [hres]
    clear hres q1
    go_enter Try.func53, Try.ntmps53
    go_wp2_with fail
    go_ret
    exact ⟨rfl, Only.refl _ _⟩
  subst q1
  obtain ⟨res, hres⟩ : ∃ r, r = decide (ks = ks2) := ⟨_, rfl⟩
  rw [← hres]
  have HRES := Lib.hid hres; clear hres
  go_enter Try.func53, Try.ntmps53
  go_wp2_with fail
  go_loopw [13] (fun v wr => ∃ i : Nat, v = .int .i64 (i : Int) ∧ i ≤ lk ∧ Hid (ks.take i = ks2.take i) ∧ Hid (Only (fun _ => False) w wr)) (fun v _ => lk - (intOf v).toNat)
  case atStart => exact ⟨0, by simp, by omega, Lib.hid (by simp), Lib.hid (Only.refl _ _)⟩
  case round =>
    obtain ⟨i, rfl, hi, HF, HO⟩ := hrel
    by_cases hlt : i < lk
    · have t3 : decide ((i : Int) < (lk : Int)) = true := by simpa using hlt
      have hi0 : (0 : Int) ≤ (i : Int) := by omega
      have hi1 : (i : Int) < (lk : Int) := by omega
      have hki : i < ks.length := by rw [← HLK.out]; exact hlt
      have hki2 : i < ks2.length := by rw [← HMK.out]; exact hlt
      obtain ⟨gk, ok, hak, hbk, hkr⟩ := HK.out (by omega)
      subst hak
      obtain ⟨gk2, ok2, hak2, hbk2, hkr2⟩ := HK2.out (by omega)
      subst hak2
      have hkc : wr.cell? ⟨gk, ok + i, none⟩ = some (.int .u8 (((ks[i]).toNat : Nat) : Int)) := range_only hkr hbk HO.out (fun h => h) i (.int .u8 (((ks[i]).toNat : Nat) : Int)) (by simp [u8s, hki])
      have hkc2 : wr.cell? ⟨gk2, ok2 + i, none⟩ = some (.int .u8 (((ks2[i]).toNat : Nat) : Int)) := range_only hkr2 hbk2 HO.out (fun h => h) i (.int .u8 (((ks2[i]).toNat : Nat) : Int)) (by simp [u8s, hki2])
      have hstep := take_snoc_eq hki hki2 HF.out
      have hne : ks[i] ≠ ks2[i] → ks ≠ ks2 := fun h e => by subst e; exact h rfl
      have hxy : (ks[i]).toNat = (ks2[i]).toNat → ks[i] = ks2[i] := fun h => UInt8.toNat_inj.1 h
      have hxn : (ks[i]).toNat ≠ (ks2[i]).toNat → ks[i] ≠ ks2[i] := fun h e => h (by rw [e])
      generalize ks[i] = ki at *
      generalize ks2[i] = ki2 at *
      obtain ⟨n1, hn1⟩ : ∃ n1, n1 = ki.toNat := ⟨_, rfl⟩
      obtain ⟨n2, hn2⟩ : ∃ n2, n2 = ki2.toNat := ⟨_, rfl⟩
      rw [← hn1] at hkc hxy hxn
      rw [← hn2] at hkc2 hxy hxn
      have HST := Lib.hid hstep; have HNE := Lib.hid hne; have HXY := Lib.hid hxy; have HXN := Lib.hid hxn; clear hstep hne hxy hxn hkr hkr2 hn1 hn2
      by_cases hE : n1 = n2
      · have hs := HST.out (HXY.out hE)
        subst hE
        have HS := Lib.hid hs; clear hs HNE HXY HXN HST
        have t1 : ((n1 : Int) != (n1 : Int)) = false := by simp
        have t2 : ((n1 : Int) == (n1 : Int)) = true := by simp
        go_wp2_with fail
        go_quiet (fail)
        go_wp2_with fail
        go_roundw
        case rel => exact ⟨i + 1, by simp [go_sem], by omega, HS, Lib.hid (HO.out.trans ((Only.refl _ _).drewN _))⟩
        case measure => simp [intOf]; omega
      · have t1 : ((n1 : Int) != (n2 : Int)) = true := by simp; omega
        have t2 : ((n1 : Int) == (n2 : Int)) = false := by simp; omega
        have t5 : (n1 != n2) = true := by simpa using hE
        have t6 : (n1 == n2) = false := by simpa using hE
        have hn := HNE.out (HXN.out hE)
        have HE := Lib.hid hn; clear hE hn HNE HXY HXN HST
        go_wp2_with fail
        go_quiet (fail)
        go_wp2_with fail
        go_ret
        exact ⟨by rw [HRES.out, decide_eq_false HE.out]; rfl, HO.out.trans ((Only.refl _ _).drewN _)⟩
    · have hke : i = lk := by omega
      subst hke
      have t3 : decide ((i : Int) < (i : Int)) = false := by simp
      have hall : ks = ks2 := eq_of_take (by rw [← HLK.out, ← HMK.out]) (by have := HF.out; rw [HLK.out] at this; exact this)
      have HALL := Lib.hid hall; clear hall
      go_wp2_with fail
      go_ret
      exact ⟨by rw [HRES.out, decide_eq_true HALL.out]; rfl, HO.out⟩
theorem Bytes.front {w : World} {a : Option Addr} {c n : Nat} {l : List UInt8} (h : Bytes w (.slice a l.length c) l) (hn : n ≤ l.length) (c' : Nat) (hc : n ≤ c') (hc' : c' ≤ 9223372036854775807) : Bytes w (.slice a n c') (l.take n) := by
  obtain ⟨a', c2, e, h1, h2, h3⟩ := h
  injection e with e1 e2 e3
  subst e1
  have hl : (l.take n).length = n := by rw [List.length_take]; omega
  refine ⟨a, c', by rw [hl], by rw [hl]; exact hc, hc', fun hp => ?_⟩
  rw [hl] at hp
  obtain ⟨b, off, e, hb, hr⟩ := h3 (by omega)
  refine ⟨b, off, e, hb, fun j v hv => hr j v ?_⟩
  rw [u8s_take, List.getElem?_take] at hv
  split at hv
  · exact hv
  · cases hv
theorem Bytes.blk {w : World} {v : Value} {l : List UInt8} (h : Bytes w v l) (hp : 0 < l.length) {k : Nat} (hk : v.ownBlock = some k) : k < w.heap.size := by
  obtain ⟨a', c2, rfl, h1, h2, h3⟩ := h
  obtain ⟨b, off, rfl, hb, hr⟩ := h3 hp
  simp [Value.ownBlock] at hk
  omega
end Go.Proofs.Ytlkglhgndfhjeaa
