/- Package ledger: lay. -/
import Derived.Test.YtlkglhgndfhjeaaGsc
import Derived.Deep.Cut
import Derived.Deep.CutBlock
namespace Go.Proofs.Ytlkglhgndfhjeaa
open Go Go.RowKit
set_option linter.unusedVariables false
set_option linter.unusedSimpArgs false
set_option maxRecDepth 100000

/-- Bytes laid over blocks, 64 a block. -/
def chunk (p : List UInt8) (i : Nat) : List UInt8 := (p.drop (i * 64)).take 64
def putc (V : List (List UInt8)) (a : Nat) (p : List UInt8) : Nat → List (List UInt8)
  | 0 => V
  | k + 1 => (putc V a p k).set (a + k) (pad64 (chunk p k))
theorem putc_len (V : List (List UInt8)) (a : Nat) (p : List UInt8) : ∀ k, (putc V a p k).length = V.length
  | 0 => rfl
  | k + 1 => by simp only [putc, List.length_set, putc_len V a p k]
theorem chunk_len (p : List UInt8) (i : Nat) : (chunk p i).length ≤ 64 := by unfold chunk; rw [List.length_take]; omega
theorem chunk_eq (p : List UInt8) (k : Nat) : (p.take (min (min (k * 64) p.length + 64) p.length)).drop (min (k * 64) p.length) = chunk p k := by
  unfold chunk
  by_cases h : k * 64 ≤ p.length
  · rw [Nat.min_eq_left h, List.drop_take]
    by_cases h2 : k * 64 + 64 ≤ p.length
    · rw [Nat.min_eq_left h2, Nat.add_sub_cancel_left]
    · rw [Nat.min_eq_right (by omega)]
      rw [List.take_of_length_le (by rw [List.length_drop]; exact Nat.le_refl _), List.take_of_length_le (by rw [List.length_drop]; omega)]
  · rw [Nat.min_eq_right (by omega), Nat.min_eq_right (by omega), List.drop_of_length_le (by rw [List.length_take]; omega), List.drop_of_length_le (by omega)]
    rfl
/-- A ledger in memory; its tail's bytes. -/
def Fl.laid (f : Fl) (sz n : Nat) : Fl := { f with side := 1 - f.side, turn := f.turn + 1, en := sz, n := n }
def layV (V : List (List UInt8)) (f : Fl) (p : List UInt8) : List (List UInt8) := (putc V (f.first (1 - f.side)) p (f.half - 1)).set (f.first (1 - f.side) - 1) (pad64 (hdr (f.turn + 1)))
/-- What lay leaves. -/
def LayPost (W : World) (X : Nat → Prop) (d m : Nat) (V : List (List UInt8)) (l : Nat) (f : Fl) (tv : Value) (fs : List (List UInt8)) (q : Bool) (w : World) (e : Ending) (w' : World) : Prop :=
  (f.room < sizes fs ∧ e = .returned (.int .i64 13) ∧ Only (fun _ => False) w w') ∨
  (sizes fs ≤ f.room ∧ e = .returned (.int .i64 0) ∧ ∃ a c, let p := laid (f.turn + 1) 1 fs; let t := p.drop (p.length / 64 * 64);
    Box w' l d (f.laid (sizes fs) fs.length) (.slice a t.length c) ∧ Bytes w' (.slice a t.length c) t ∧ (∀ k, (Value.slice a t.length c).ownBlock = some k → w.heap.size ≤ k ∧ k < w'.heap.size) ∧
    DX W (fun k => X k ∨ (Value.slice a t.length c).ownBlock = some k) w' d (layV V f p) (m + f.half + 2) true ∧ Only (fun k => W.heap.size ≤ k ∧ (¬ X k ∨ k = l)) w w')
theorem Box.setSide {w : World} {l d : Nat} {f : Fl} {tv : Value} (h : Box w l d f tv) (n : Nat) : Box (w.setCell ⟨l, 3, none⟩ (.int .i64 (n : Int))) l d { f with side := n } tv := by
  have := heap_set (o := 3) h (.int .i64 (n : Int))
  simpa [Box, cells8] using this
theorem Box.setTurn {w : World} {l d : Nat} {f : Fl} {tv : Value} (h : Box w l d f tv) (n : Nat) : Box (w.setCell ⟨l, 4, none⟩ (.int .u64 (n : Int))) l d { f with turn := n } tv := by
  have := heap_set (o := 4) h (.int .u64 (n : Int))
  simpa [Box, cells8] using this
theorem Box.setTail {w : World} {l d : Nat} {f : Fl} {tv : Value} (h : Box w l d f tv) (v : Value) : Box (w.setCell ⟨l, 5, none⟩ v) l d f v := by
  have := heap_set (o := 5) h v
  simpa [Box, cells8] using this
theorem Box.setEn {w : World} {l d : Nat} {f : Fl} {tv : Value} (h : Box w l d f tv) (n : Nat) : Box (w.setCell ⟨l, 6, none⟩ (.int .i64 (n : Int))) l d { f with en := n } tv := by
  have := heap_set (o := 6) h (.int .i64 (n : Int))
  simpa [Box, cells8] using this
theorem Box.setN {w : World} {l d : Nat} {f : Fl} {tv : Value} (h : Box w l d f tv) (n : Nat) : Box (w.setCell ⟨l, 7, none⟩ (.int .i64 (n : Int))) l d { f with n := n } tv := by
  have := heap_set (o := 7) h (.int .i64 (n : Int))
  simpa [Box, cells8] using this
theorem sizes_take : ∀ (ys : List (List UInt8)) (k : Nat), sizes (ys.take k) ≤ sizes ys
  | [], k => by simp [sizes]
  | y :: ys, 0 => by simp [sizes]
  | y :: ys, k + 1 => by simp only [List.take_succ_cons, sizes]; have := sizes_take ys k; omega
theorem sizes_get : ∀ (ys : List (List UInt8)) (k : Nat) (h : k < ys.length), ys[k].length + 8 ≤ sizes ys
  | [], k, h => absurd h (by simp)
  | y :: ys, 0, _ => by simp only [List.getElem_cons_zero, sizes]; omega
  | y :: ys, k + 1, h => by simp only [List.getElem_cons_succ, sizes]; have := sizes_get ys k (by simpa using h); omega
set_option maxHeartbeats 8000000 in
theorem lay_any (W : World) (X : Nat → Prop) (d m : Nat) (V : List (List UInt8)) (q : Bool) (l : Nat) (f : Fl) (tv sv av : Value) (s : List UInt8) (rs : List (List UInt8)) (G : Nat → Prop) (w : World) (h : DX W X w d V m q) (hb : Box w l d f tv) (ok : f.Ok) (hX : X l) (hl : W.heap.size ≤ l) (hV : f.at_ + 2 * f.half ≤ V.length) (hV2 : V.length ≤ 100000)
    (hr : Recs w G sv av s rs) (hsz : sizes (s :: rs) ≤ 1000000) (hm : m + 20000 ≤ 1000000000) (ht : f.turn + 1 ≤ 1000000000) :
    Calls Try.prog 56 #[.pointer (some ⟨l, 0, none⟩), sv, av] w (LayPost W X d m V l f tv (s :: rs) q w) := by
  obtain ⟨c0, c1, c2, c3, c4, c5, c6, c7, fz, hlt⟩ := hb.cells
  have hh := ok.half
  have hs1 := ok.side
  obtain ⟨hsv, aR, cR, rfl, hcR1, hcR2, hlist⟩ := hr
  obtain ⟨aS, cS, eS, hbS, hgS⟩ := hsv
  injection eS with eS _
  subst eS
  have hlr : rs.length ≤ 1000000 := by
    have : ∀ ys : List (List UInt8), ys.length ≤ sizes ys := by
      intro ys
      induction ys with
      | nil => exact Nat.zero_le _
      | cons y ys ih => simp only [sizes, List.length_cons]; omega
    have := this rs; simp only [sizes] at hsz; omega
  have hsl : s.length ≤ 1000000 := by simp only [sizes] at hsz; omega
  have hsS : (1 : Int) - (f.side : Int) = ((1 - f.side : Nat) : Int) := by omega
  have hT1 : (f.turn : Int) + 1 = ((f.turn + 1 : Nat) : Int) := by omega
  have hfr := frame_any (f.turn + 1) 1 _ s w (by omega) (by decide) hbS (by omega)
  rw [← hT1] at hfr
  have H := Lib.hid h; have HB := Lib.hid hb; have OK := Lib.hid ok; have HV := Lib.hid hV; have HSZ := Lib.hid hsz; have HM := Lib.hid hm; have HFR := Lib.hid hfr; have HL := Lib.hid hlist; have HHX := Lib.hid hX; have HLW := Lib.hid hl; have HSS := Lib.hid hsS; have HT1 := Lib.hid hT1; have HLR := Lib.hid hlr; have HTT := Lib.hid ht
  clear h hb ok hV hsz hm hfr hlist hX hl hbS hgS hsS hT1 hsl
  have ht0 : (0 : Int) ≤ (f.turn : Int) := by omega
  have ht1 : (f.turn : Int) ≤ 999999999 := by omega
  have hsd0 : (0 : Int) ≤ (f.side : Int) := by omega
  have hsd1 : (f.side : Int) ≤ 1 := by omega
  have hrl : (rs.length : Int) ≤ 1000000 := by omega
  have hcRR : cR ≤ 9223372036854775807 := by unfold maxLen at hcR2; omega
  clear ht
  go_enter Try.func56, Try.ntmps56
  go_wp2_with fail
  refine HFR.out.mono ?_
  rintro e w1 ⟨v1, rfl, h1, o1⟩
  obtain ⟨a1, c1', rfl⟩ := h1.form
  have H1 := Lib.hid h1; have O1 := Lib.hid o1; clear h1 o1 HFR
  go_wp2_with fail
  go_loopw [31, 8] (fun v31 v8 wr => ∃ (k : Nat) (L : List UInt8) (a8 : Option Addr) (c8 : Nat), v31 = .int .i64 (k : Int) ∧ k ≤ rs.length ∧ v8 = .slice a8 L.length c8 ∧ Hid (L = laid (f.turn + 1) 1 (s :: rs.take k)) ∧ Hid (Own8 wr w.heap.size (.slice a8 L.length c8) L) ∧ Hid (Only (fun _ => False) w wr)) (fun v _ _ => rs.length - (intOf v).toNat)
  case atStart => exact ⟨0, _, a1, c1', by simp, by omega, by rfl, Lib.hid (by simp [laid]), H1, O1⟩
  case round =>
    obtain ⟨k, L, a8, c8, rfl, hk, rfl, HLL, HO8, HO⟩ := hrel
    by_cases hkl : k < rs.length
    · have t1 : decide ((k : Int) < (rs.length : Int)) = true := by simpa using hkl
      obtain ⟨b, off, cs, rfl, hGb, hbl, hcl, hra, aV, cV, rfl, hbV, hgV⟩ := HL.out.get k hkl
      have hcell : wr.cell? ⟨b, off + k, none⟩ = some (.slice aV rs[k].length cV) := by
        rw [cell_only HO.out hbl (fun h => h)]
        have := hra 0 _ rfl
        simpa using this
      have hfr := frame_any (f.turn + 1) (k + 2) _ rs[k] wr (by have := HTT.out; omega) (by have := HLR.out; omega) (hbV.still HO.out) (by have := sizes_get rs k hkl; have := HSZ.out; simp only [sizes] at this; omega)
      have e2 : ((k + 2 : Nat) : Int) = (k : Int) + 2 := by omega
      rw [← HT1.out, e2] at hfr
      have hLl : L.length + (frm (f.turn + 1) (k + 2) rs[k]).length ≤ 140737488355328 := by
        rw [HLL.out, laid_len, frm_len]
        have h1 := sizes_get rs k hkl
        have h2 := sizes_take rs k
        have h3 := HSZ.out
        simp only [sizes] at h3 ⊢; omega
      have hnx : L ++ frm (f.turn + 1) (k + 2) rs[k] = laid (f.turn + 1) 1 (s :: rs.take (k + 1)) := by
        have h1 := laid_snoc (f.turn + 1) 1 (s :: rs.take k) rs[k]
        have h2 : (s :: rs.take k).length = k + 1 := by rw [List.length_cons, List.length_take, Nat.min_eq_left (by omega)]
        rw [h2, show 1 + (k + 1) = k + 2 from by omega] at h1
        rw [HLL.out, ← h1, List.take_succ_eq_append_getElem hkl]; rfl
      obtain ⟨_, _, _, _, d4, _, _, _, _, _⟩ := (HB.out.only HO.out (fun h => h)).cells
      have hii0 : (0 : Int) ≤ (k : Int) := by omega
      have hii1 : (k : Int) < (rs.length : Int) := by omega
      have hkw : (k : Int) ≤ 1000000 := by omega
      have HFR := Lib.hid hfr; have HLl := Lib.hid hLl; have HNX := Lib.hid hnx
      clear hfr hLl hnx hGb hcl hra hbV hgV e2
      go_wp2_with fail
      refine HFR.out.mono ?_
      rintro e w5 ⟨v5, rfl, h5, o5⟩
      have H5 := Lib.hid h5; have O5 := Lib.hid o5; clear h5 o5 d4 hcell
      go_wp2_with ((refine wpList_append8 (o := ⟨some 46, _, _, _, _, _⟩) rfl (.tmp 36) (.tmp 45) (by rfl) w.heap.size _ _ L (frm (f.turn + 1) (k + 2) rs[k]) (by rfl) (by rfl) (HO8.out.still O5.out) H5.out.bytes HLl.out (Nat.le_trans HO.out.size O5.out.size) ?_; intro L6 a6 c6 w6 hL6 h6 g6))
      have hO6 := g6.out.step (HO.out.trans O5.out) (fun k hk => .inr (HO8.out.ge hk).1)
      have hL6' : L6 = laid (f.turn + 1) 1 (s :: rs.take (k + 1)) := hL6.out.trans HNX.out
      have HO6 := Lib.hid hO6; have HL6 := Lib.hid hL6'; clear hO6 hL6'
      go_wp2_with fail
      go_roundw
      case rel => exact ⟨k + 1, L6, a6, c6, by simp [go_sem], by omega, rfl, HL6, h6, HO6⟩
      case measure => simp [intOf]; omega
    · have t1 : decide ((k : Int) < (rs.length : Int)) = false := by simp; omega
      obtain rfl : k = rs.length := by omega
      have hLL := HLL.out
      rw [List.take_length] at hLL
      have hLlen : L.length = sizes (s :: rs) := by rw [hLL, laid_len]
      have HLEN := Lib.hid hLlen; have HLL2 := Lib.hid hLL
      have hN := HSZ.out
      rw [← hLlen] at hN
      have hd1 : DX W (fun k => X k ∨ (w.heap.size ≤ k ∧ k < wr.heap.size)) wr d V m q := H.out.more HO.out (fun _ _ h => h.elim) (fun k h => h)
      have hb1 := HB.out.only HO.out (fun h => h)
      obtain ⟨d0, _, d2, d3, d4, _, _, _, _, _⟩ := hb1.cells
      have hrm := room_any wr l d f tv hb1 OK.out
      have hroom : f.room ≤ 1000000 := by unfold Fl.room; omega
      have hY : ∀ k, (Value.slice a8 L.length c8).ownBlock = some k → w.heap.size ≤ k ∧ k < wr.heap.size := fun k hk => HO8.out.ge hk
      have HD1 := Lib.hid hd1; have HB1 := Lib.hid hb1; have HRM := Lib.hid hrm; have HPY := Lib.hid hY; have HP := Lib.hid HO8.out.bytes
      obtain ⟨N, hNN⟩ : ∃ N, L.length = N := ⟨_, rfl⟩
      have HNN := Lib.hid hNN
      rw [hNN] at hN ⊢
      clear hd1 hb1 hrm hY hLL hLlen hNN t1 hk hkl
      have hn0 : (0 : Int) ≤ (N : Int) := by omega
      have hn1 : (N : Int) ≤ 1000000 := by omega
      obtain ⟨Rm, hRm⟩ : ∃ Rm, f.room = Rm := ⟨_, rfl⟩
      rw [hRm] at HRM hroom
      have HRoom := Lib.hid hRm; clear hRm
      by_cases hfull : Rm < N
      · have t2 : decide ((Rm : Int) < (N : Int)) = true := by simpa using hfull
        go_wp2_with fail
        refine HRM.out.mono ?_
        rintro e w5 ⟨rfl, rfl⟩
        go_wp2_with fail
        go_ret
        exact .inl ⟨by rw [HRoom.out, ← HLEN.out, HNN.out]; exact hfull, rfl, HO.out⟩
      · have t2 : decide ((Rm : Int) < (N : Int)) = false := by simpa using hfull
        go_wp2_with fail
        refine HRM.out.mono ?_
        rintro e w5 ⟨rfl, rfl⟩
        go_wp2_with fail
        obtain ⟨wp, rfl⟩ : ∃ wp, wp = wr := ⟨wr, rfl⟩
        obtain ⟨S, hSS⟩ : ∃ S, f.first (1 - f.side) = S := ⟨_, rfl⟩
        have hSb : S + (f.half - 1) ≤ V.length ∧ 1 ≤ S := by
          rw [← hSS]; unfold Fl.first
          have := HV.out
          rcases (by omega : f.side = 0 ∨ f.side = 1) with e | e <;> rw [e] <;> omega
        have hSb' := hSb.1
        have hS1 : (S : Int) ≤ 100000 := by omega
        have hS2 : (1 : Int) ≤ (S : Int) := by omega
        have HS := Lib.hid hSS; have HSB := Lib.hid hSb
        obtain ⟨Y, hYY⟩ : ∃ Y : Nat → Prop, Y = fun k => X k ∨ (w.heap.size ≤ k ∧ k < wp.heap.size) := ⟨_, rfl⟩
        have hD1 := HD1.out
        rw [← hYY] at hD1
        have hYl : Y l := by rw [hYY]; exact .inl HHX.out
        have hYp : ∀ k, w.heap.size ≤ k → k < wp.heap.size → Y k := fun k h1 h2 => by rw [hYY]; exact .inr ⟨h1, h2⟩
        have hYX : ∀ k, X k → Y k := fun k h => by rw [hYY]; exact .inl h
        have HYL := Lib.hid hYl; have HYP := Lib.hid hYp; have HYX := Lib.hid hYX; have HD1' := Lib.hid hD1
        have hhh : ((f.half - 1 : Nat) : Int) = (f.half : Int) - 1 := by omega
        have HHH := Lib.hid hhh
        clear hSS hSb hYY hD1 hYl hYp hYX HD1 HRM t2 d0 d2 d3 d4 hhh
        go_loopw [58] (fun v58 wr => ∃ (k : Nat) (q' : Bool), v58 = .int .i64 (k : Int) ∧ k ≤ f.half - 1 ∧ Hid (DX W Y wr d (putc V S L k) (m + k) q') ∧ Hid (Only (fun k => W.heap.size ≤ k ∧ ¬ Y k) wp wr)) (fun v _ => f.half - (intOf v).toNat)
        case atStart => exact ⟨0, q, by simp, by omega, HD1', Lib.hid (Only.refl _ _)⟩
        case round =>
          obtain ⟨k, q', rfl, hk, HDk, HOk⟩ := hrel
          by_cases hkl : k < f.half - 1
          · have t1 : decide ((k : Int) < (f.half : Int) - 1) = true := by simp; omega
            have hkk0 : (0 : Int) ≤ (k : Int) := by omega
            have hkk1 : (k : Int) ≤ 10000 := by omega
            obtain ⟨fr, hfr⟩ : ∃ fr, min (k * 64) N = fr := ⟨_, rfl⟩
            obtain ⟨hi, hhi⟩ : ∃ hi, min (fr + 64) N = hi := ⟨_, rfl⟩
            have hmin1 : (if (N : Int) < (k : Int) * 64 then (N : Int) else (k : Int) * 64) = (fr : Int) := by split <;> omega
            have hmin2 : (if (N : Int) < (fr : Int) + 64 then (N : Int) else (fr : Int) + 64) = (hi : Int) := by split <;> omega
            have hlo : fr ≤ hi := by omega
            have hhl : hi ≤ L.length := by rw [HNN.out]; omega
            have hfr0 : (0 : Int) ≤ (fr : Int) := by omega
            have hfr1 : (fr : Int) ≤ 1000000 := by omega
            have hch : (L.take hi).drop fr = chunk L k := by
              rw [← chunk_eq L k, HNN.out, hfr, hhi]
            have hcl : (chunk L k).length = hi - fr := by rw [← hch, List.length_drop, List.length_take]; omega
            have hpb : Bytes wr (.slice a8 L.length c8) L := HP.out.only HOk.out (fun hp q hq h => h.2 (HYP.out q (HPY.out q hq).1 (HPY.out q hq).2))
            obtain ⟨aC, cC, hC, hbC, hoC⟩ := cutB hpb fr hi hlo hhl .i64 .i64
            rw [HNN.out] at hC hoC
            rw [hch] at hbC
            have hoY : ∀ k, (Value.slice aC (hi - fr) cC).ownBlock = some k → Y k := fun q hq => by
              have hx := hoC q hq
              rw [← HNN.out] at hx
              exact HYP.out q (HPY.out q hx).1 (HPY.out q hx).2
            have hbx := HB1.out.only HOk.out (fun h => h.2 HYL.out)
            have hfa : ∀ w', Only (fun _ => False) wr w' → Box w' l d f tv ∧ Bytes w' (.slice aC (hi - fr) cC) (chunk L k) ∧ DX W Y w' d (putc V S L k) (m + k) q' := fun w' o => ⟨hbx.only o (fun h => h), hbC.still o, HDk.out.still o⟩
            have hSk : S + k < (putc V S L k).length := by rw [putc_len]; have := HSB.out.1; omega
            have HFA := Lib.hid hfa; have HHC := Lib.hid hC; have HOY := Lib.hid hoY; have HCL := Lib.hid hcl; have HSK := Lib.hid hSk; have HM1 := Lib.hid hmin1; have HM2 := Lib.hid hmin2
            clear hfa hC hoC hoY hcl hSk hmin1 hmin2 hbC hpb hbx hch hfr hhi
            go_upto_region 14 with (fail)
            rw [HM1.out]
            refine wp_region_stepsM 18 (by kernel_rfl) rfl (by kernel_rfl) [some 66, some 67, some 68, some 69, some 70, some 71, some 72, some 73, some 74, some 75, some 76, some 77, some 78, some 79, some 80, some 81, some 82, some 83] rfl rfl 17 19 (fun k => W.heap.size ≤ k ∧ ¬ Y k) (fun _ => False) [18] (by kernel_rfl) [0, 1, 2, 3, 4, 5, 6, 7, 8, 9, 10, 11, 12, 13, 14, 15, 16] (by kernel_rfl) (by decide) (by decide) (.inl (by decide)) [(fun v _ => v = (.pointer (some ⟨l, 0, none⟩))), (fun v _ => v = (.pointer (some ⟨l, 0, none⟩))), (fun v _ => v = (.pointer (some ⟨l, 0, none⟩))), (fun v _ => v = (.pointer (some ⟨d, 0, none⟩))), (fun v _ => v = (.pointer (some ⟨l, 0, none⟩))), (fun v _ => v = (.int .i64 (1 - (f.side : Int)))), (fun v _ => v = (.int .i64 (S : Int))), (fun v _ => v = (.int .i64 (k : Int))), (fun v _ => v = (.int .i64 ((S : Int) + (k : Int)))), (fun v _ => v = (.slice a8 N c8)), (fun v _ => v = (.int .i64 (fr : Int))), (fun v _ => v = (.int .i64 (fr : Int))), (fun v _ => v = (.int .i64 ((fr : Int) + 64))), (fun v _ => v = (.slice a8 N c8)), (fun v _ => v = (.int .i64 (N : Int))), (fun v _ => v = (.int .i64 (hi : Int))), (fun v _ => v = (.slice aC (hi - fr) cC)), (fun v w1 => v = .int .i64 0 ∧ DX W Y w1 d (putc V S L (k + 1)) (m + (k + 1)) false)] rfl ⟨?_, ?_, ?_, ?_, ?_, ?_, ?_, ?_, ?_, ?_, ?_, ?_, ?_, ?_, ?_, ?_, ?_, ?_, trivial⟩ _ rfl ⟨?_, ?_, ?_, ?_, ?_, ?_, ?_, ?_, ?_, ?_, ?_, ?_, ?_, ?_, ?_, ?_, ?_, ?_, trivial⟩ ?_
            · exact Stable.is _ _
            · exact Stable.is _ _
            · exact Stable.is _ _
            · exact Stable.is _ _
            · exact Stable.is _ _
            · exact Stable.is _ _
            · exact Stable.is _ _
            · exact Stable.is _ _
            · exact Stable.is _ _
            · exact Stable.is _ _
            · exact Stable.is _ _
            · exact Stable.is _ _
            · exact Stable.is _ _
            · exact Stable.is _ _
            · exact Stable.is _ _
            · exact Stable.is _ _
            · exact Stable.is _ _
            · intro v w1 w2 h ho
              have ho : Only (fun _ => False) w1 w2 := ho
              exact (by exact ⟨h.1, h.2.still ho⟩)
            · intro x wx ox hN TT HTT
              have ox : Only (fun _ => False) _ wx := ox
              clear hN
              unfold StepTo
              simp only [putAll, Act.put, List.setIfInBounds_toArray, List.set_cons_succ, List.set_cons_zero]
              go_wp2_with fail
              exact ⟨rfl, _, rfl, HTT.out _ _ (rfl) (Only.refl _ _)⟩
            · intro x wx ox hN TT HTT
              have ox : Only (fun _ => False) _ wx := ox
              have r66 : x 0 = (.pointer (some ⟨l, 0, none⟩)) := hN.1 rfl
              clear hN
              unfold StepTo
              simp only [putAll, Act.put, List.setIfInBounds_toArray, List.set_cons_succ, List.set_cons_zero, r66]
              clear r66
              go_wp2_with fail
              exact ⟨rfl, _, rfl, HTT.out _ _ (rfl) (Only.refl _ _)⟩
            · intro x wx ox hN TT HTT
              have ox : Only (fun _ => False) _ wx := ox
              have r67 : x 1 = (.pointer (some ⟨l, 0, none⟩)) := hN.1 rfl
              clear hN
              unfold StepTo
              simp only [putAll, Act.put, List.setIfInBounds_toArray, List.set_cons_succ, List.set_cons_zero, r67]
              clear r67
              go_wp2_with fail
              exact ⟨rfl, _, rfl, HTT.out _ _ (rfl) (Only.refl _ _)⟩
            · intro x wx ox hN TT HTT
              have ox : Only (fun _ => False) _ wx := ox
              have r68 : x 2 = (.pointer (some ⟨l, 0, none⟩)) := hN.1 rfl
              clear hN
              unfold StepTo
              simp only [putAll, Act.put, List.setIfInBounds_toArray, List.set_cons_succ, List.set_cons_zero, r68]
              clear r68
              obtain ⟨d0, _, d2, d3, d4, _, _, _, _, _⟩ := (HFA.out wx (((Only.refl _ wr).drew).trans ox)).1.cells
              go_wp2_with fail
              exact ⟨rfl, _, rfl, HTT.out _ _ (rfl) (Only.refl _ _)⟩
            · intro x wx ox hN TT HTT
              have ox : Only (fun _ => False) _ wx := ox
              clear hN
              unfold StepTo
              simp only [putAll, Act.put, List.setIfInBounds_toArray, List.set_cons_succ, List.set_cons_zero]
              go_wp2_with fail
              exact ⟨rfl, _, rfl, HTT.out _ _ (rfl) (Only.refl _ _)⟩
            · intro x wx ox hN TT HTT
              have ox : Only (fun _ => False) _ wx := ox
              clear hN
              unfold StepTo
              simp only [putAll, Act.put, List.setIfInBounds_toArray, List.set_cons_succ, List.set_cons_zero]
              go_wp2_with fail
              exact ⟨rfl, _, rfl, HTT.out _ _ (rfl) (Only.refl _ _)⟩
            · intro x wx ox hN TT HTT
              have ox : Only (fun _ => False) _ wx := ox
              have r70 : x 4 = (.pointer (some ⟨l, 0, none⟩)) := hN.1 rfl
              have r71 : x 5 = (.int .i64 (1 - (f.side : Int))) := hN.2.1 rfl
              clear hN
              unfold StepTo
              simp only [putAll, Act.put, List.setIfInBounds_toArray, List.set_cons_succ, List.set_cons_zero, r70, r71]
              clear r70 r71
              have hc := first_q wx l d f tv (1 - f.side) (HFA.out wx (((Only.refl _ wr).drew).trans ox)).1 OK.out (by omega)
              rw [HS.out, ← HSS.out] at hc
              have HC := Lib.hid hc; clear hc
              go_wp2_with fail
              refine HC.out.mono ?_
              rintro e w6 ⟨rfl, n6, rfl⟩
              go_wp2_with fail
              exact ⟨rfl, _, rfl, HTT.out _ _ (rfl) ((Only.refl _ _).drewN n6)⟩
            · intro x wx ox hN TT HTT
              have ox : Only (fun _ => False) _ wx := ox
              clear hN
              unfold StepTo
              simp only [putAll, Act.put, List.setIfInBounds_toArray, List.set_cons_succ, List.set_cons_zero]
              go_wp2_with fail
              exact ⟨rfl, _, rfl, HTT.out _ _ (rfl) (Only.refl _ _)⟩
            · intro x wx ox hN TT HTT
              have ox : Only (fun _ => False) _ wx := ox
              have r72 : x 6 = (.int .i64 (S : Int)) := hN.1 rfl
              have r73 : x 7 = (.int .i64 (k : Int)) := hN.2.1 rfl
              clear hN
              unfold StepTo
              simp only [putAll, Act.put, List.setIfInBounds_toArray, List.set_cons_succ, List.set_cons_zero, r72, r73]
              clear r72 r73
              go_wp2_with fail
              exact ⟨rfl, _, rfl, HTT.out _ _ (rfl) (Only.refl _ _)⟩
            · intro x wx ox hN TT HTT
              have ox : Only (fun _ => False) _ wx := ox
              clear hN
              unfold StepTo
              simp only [putAll, Act.put, List.setIfInBounds_toArray, List.set_cons_succ, List.set_cons_zero]
              go_wp2_with fail
              exact ⟨rfl, _, rfl, HTT.out _ _ (rfl) (Only.refl _ _)⟩
            · intro x wx ox hN TT HTT
              have ox : Only (fun _ => False) _ wx := ox
              clear hN
              unfold StepTo
              simp only [putAll, Act.put, List.setIfInBounds_toArray, List.set_cons_succ, List.set_cons_zero]
              go_wp2_with fail
              exact ⟨rfl, _, rfl, HTT.out _ _ (rfl) (Only.refl _ _)⟩
            · intro x wx ox hN TT HTT
              have ox : Only (fun _ => False) _ wx := ox
              clear hN
              unfold StepTo
              simp only [putAll, Act.put, List.setIfInBounds_toArray, List.set_cons_succ, List.set_cons_zero]
              go_wp2_with fail
              exact ⟨rfl, _, rfl, HTT.out _ _ (rfl) (Only.refl _ _)⟩
            · intro x wx ox hN TT HTT
              have ox : Only (fun _ => False) _ wx := ox
              have r77 : x 11 = (.int .i64 (fr : Int)) := hN.1 rfl
              clear hN
              unfold StepTo
              simp only [putAll, Act.put, List.setIfInBounds_toArray, List.set_cons_succ, List.set_cons_zero, r77]
              clear r77
              go_wp2_with fail
              exact ⟨rfl, _, rfl, HTT.out _ _ (rfl) (Only.refl _ _)⟩
            · intro x wx ox hN TT HTT
              have ox : Only (fun _ => False) _ wx := ox
              clear hN
              unfold StepTo
              simp only [putAll, Act.put, List.setIfInBounds_toArray, List.set_cons_succ, List.set_cons_zero]
              go_wp2_with fail
              exact ⟨rfl, _, rfl, HTT.out _ _ (rfl) (Only.refl _ _)⟩
            · intro x wx ox hN TT HTT
              have ox : Only (fun _ => False) _ wx := ox
              have r79 : x 13 = (.slice a8 N c8) := hN.1 rfl
              clear hN
              unfold StepTo
              simp only [putAll, Act.put, List.setIfInBounds_toArray, List.set_cons_succ, List.set_cons_zero, r79]
              clear r79
              go_wp2_with fail
              exact ⟨rfl, _, rfl, HTT.out _ _ (rfl) (Only.refl _ _)⟩
            · intro x wx ox hN TT HTT
              have ox : Only (fun _ => False) _ wx := ox
              have r78 : x 12 = (.int .i64 ((fr : Int) + 64)) := hN.1 rfl
              have r80 : x 14 = (.int .i64 (N : Int)) := hN.2.1 rfl
              clear hN
              unfold StepTo
              simp only [putAll, Act.put, List.setIfInBounds_toArray, List.set_cons_succ, List.set_cons_zero, r78, r80]
              clear r78 r80
              have hm2 := HM2.out
              go_wp2_with fail
              exact ⟨rfl, _, rfl, HTT.out _ _ (rfl) (Only.refl _ _)⟩
            · intro x wx ox hN TT HTT
              have ox : Only (fun _ => False) _ wx := ox
              have r75 : x 9 = (.slice a8 N c8) := hN.1 rfl
              have r76 : x 10 = (.int .i64 (fr : Int)) := hN.2.1 rfl
              have r81 : x 15 = (.int .i64 (hi : Int)) := hN.2.2.1 rfl
              clear hN
              unfold StepTo
              simp only [putAll, Act.put, List.setIfInBounds_toArray, List.set_cons_succ, List.set_cons_zero, r75, r76, r81]
              clear r75 r76 r81
              have hs := HHC.out wx
              go_wp2_with fail
              exact ⟨rfl, _, rfl, HTT.out _ _ (rfl) (Only.refl _ _)⟩
            · intro x wx ox hN TT HTT
              have ox : Only (fun _ => False) _ wx := ox
              have r69 : x 3 = (.pointer (some ⟨d, 0, none⟩)) := hN.1 rfl
              have r74 : x 8 = (.int .i64 ((S : Int) + (k : Int))) := hN.2.1 rfl
              have r82 : x 16 = (.slice aC (hi - fr) cC) := hN.2.2.1 rfl
              have r72 : x 6 = (.int .i64 (S : Int)) := hN.2.2.2.1 rfl
              clear hN
              unfold StepTo
              simp only [putAll, Act.put, List.setIfInBounds_toArray, List.set_cons_succ, List.set_cons_zero, r69, r74, r82, r72]
              clear r69 r74 r82 r72
              have hf := HFA.out wx (((Only.refl _ wr).drew).trans ox)
              have hc := write_v W Y d (m + k) (putc V S L k) q' (S + k) _ _ wx hf.2.2 HSK.out hf.2.1 (chunk_len L k) (fun _ k hk => .inr (HOY.out k hk)) (by have := HM.out; omega)
              rw [Int.natCast_add] at hc
              have HC := Lib.hid hc; clear hc hf
              go_wp2_with fail
              refine HC.out.mono ?_
              rintro e w6 ⟨rfl, h6, o6⟩
              have H6 := Lib.hid h6; have O6 := Lib.hid o6; clear h6 o6
              go_wp2_with fail
              exact ⟨rfl, _, rfl, HTT.out _ _ (⟨rfl, H6.out⟩) (O6.out)⟩
            intro xa wxa oxa hN
            have oxa : Only (fun q => (fun k => W.heap.size ≤ k ∧ ¬ Y k) q ∨ (fun _ => False) q) _ wxa := oxa
            have r66 : xa 0 = (.pointer (some ⟨l, 0, none⟩)) := hN.1
            have r67 : xa 1 = (.pointer (some ⟨l, 0, none⟩)) := hN.2.1
            have r68 : xa 2 = (.pointer (some ⟨l, 0, none⟩)) := hN.2.2.1
            have r69 : xa 3 = (.pointer (some ⟨d, 0, none⟩)) := hN.2.2.2.1
            have r70 : xa 4 = (.pointer (some ⟨l, 0, none⟩)) := hN.2.2.2.2.1
            have r71 : xa 5 = (.int .i64 (1 - (f.side : Int))) := hN.2.2.2.2.2.1
            have r72 : xa 6 = (.int .i64 (S : Int)) := hN.2.2.2.2.2.2.1
            have r73 : xa 7 = (.int .i64 (k : Int)) := hN.2.2.2.2.2.2.2.1
            have r74 : xa 8 = (.int .i64 ((S : Int) + (k : Int))) := hN.2.2.2.2.2.2.2.2.1
            have r75 : xa 9 = (.slice a8 N c8) := hN.2.2.2.2.2.2.2.2.2.1
            have r76 : xa 10 = (.int .i64 (fr : Int)) := hN.2.2.2.2.2.2.2.2.2.2.1
            have r77 : xa 11 = (.int .i64 (fr : Int)) := hN.2.2.2.2.2.2.2.2.2.2.2.1
            have r78 : xa 12 = (.int .i64 ((fr : Int) + 64)) := hN.2.2.2.2.2.2.2.2.2.2.2.2.1
            have r79 : xa 13 = (.slice a8 N c8) := hN.2.2.2.2.2.2.2.2.2.2.2.2.2.1
            have r80 : xa 14 = (.int .i64 (N : Int)) := hN.2.2.2.2.2.2.2.2.2.2.2.2.2.2.1
            have r81 : xa 15 = (.int .i64 (hi : Int)) := hN.2.2.2.2.2.2.2.2.2.2.2.2.2.2.2.1
            have r82 : xa 16 = (.slice aC (hi - fr) cC) := hN.2.2.2.2.2.2.2.2.2.2.2.2.2.2.2.2.1
            have r83 : (fun (v : Value) (w1 : World) => v = .int .i64 0 ∧ DX W Y w1 d (putc V S L (k + 1)) (m + (k + 1)) false) (xa 17) wxa := hN.2.2.2.2.2.2.2.2.2.2.2.2.2.2.2.2.2.1
            clear hN
            simp only [putAll, Act.put, List.setIfInBounds_toArray, List.set_cons_succ, List.set_cons_zero, r66, r67, r68, r69, r70, r71, r72, r73, r74, r75, r76, r77, r78, r79, r80, r81, r82]
            clear r66 r67 r68 r69 r70 r71 r72 r73 r74 r75 r76 r77 r78 r79 r80 r81 r82
            obtain ⟨e1, hdk⟩ := r83
            rw [e1]
            have hoa : Only (fun k => W.heap.size ≤ k ∧ ¬ Y k) wp wxa := HOk.out.trans (((Only.refl (fun k => W.heap.size ≤ k ∧ ¬ Y k) wr).drew).trans (oxa.mono (fun k _ h => h.resolve_right (fun h => h))))
            have HDK := Lib.hid hdk; have HOA := Lib.hid hoa
            clear e1 hdk hoa
            go_wp2_with fail
            go_roundw
            case rel => exact ⟨k + 1, false, by simp [go_sem], by omega, HDK, HOA⟩
            case measure => simp [intOf]; omega
          · have t1 : decide ((k : Int) < (f.half : Int) - 1) = false := by simp; omega
            obtain rfl : k = f.half - 1 := by omega
            have HDq := HDk; have HOq := HOk
            have hbx := HB1.out.only HOk.out (fun h => h.2 HYL.out)
            obtain ⟨d0, _, d2, d3, d4, _, _, _, _, _⟩ := hbx.cells
            have hvl : (putc V S L (f.half - 1)).length = V.length := putc_len _ _ _ _
            have hsy := sync_v W Y d (m + (f.half - 1)) (putc V S L (f.half - 1)) q' wr HDk.out (by rw [hvl]; have := HSB.out; omega) (by have := HM.out; omega)
            have HSY := Lib.hid hsy; have HVL := Lib.hid hvl
            clear hsy hvl t1 hk hkl
            obtain ⟨wq, rfl⟩ : ∃ wq, wq = wr := ⟨wr, rfl⟩
            go_wp2_with fail
            refine HSY.out.mono ?_
            rintro e w5 ⟨rfl, h5, o5⟩
            have ho5 := HOq.out.trans o5
            have hb5 := HB1.out.only ho5 (fun h => h.2 HYL.out)
            have H5 := Lib.hid h5; have O5 := Lib.hid ho5; have HB5 := Lib.hid hb5
            clear h5 o5 ho5 hb5 d0 d2 d3 d4 hbx
            go_wp2_with fail
            have hfa : ∀ w', Only (fun _ => False) w5 w' → Box w' l d f tv := fun w' o => HB5.out.only o (fun h => h)
            have HFA := Lib.hid hfa; clear hfa
            refine wp_region_stepsM 15 (by kernel_rfl) rfl (by kernel_rfl) [some 96, some 97, some 98, some 99, some 100, some 101, some 102, some 103, some 104, some 105, some 106, some 107, some 108, some 109, some 110] rfl rfl 14 16 (fun k => W.heap.size ≤ k ∧ ¬ Y k ∧ k < w5.heap.size) (fun _ => False) [15] (by kernel_rfl) [0, 1, 2, 3, 4, 5, 6, 7, 8, 9, 10, 11, 12, 13] (by kernel_rfl) (by decide) (by decide) (.inl (by decide)) [(fun v _ => v = (.pointer (some ⟨l, 0, none⟩))), (fun v _ => v = (.pointer (some ⟨l, 0, none⟩))), (fun v _ => v = (.pointer (some ⟨l, 0, none⟩))), (fun v _ => v = (.pointer (some ⟨d, 0, none⟩))), (fun v _ => v = (.pointer (some ⟨l, 0, none⟩))), (fun v _ => v = (.int .i64 (1 - (f.side : Int)))), (fun v _ => v = (.int .i64 (S : Int))), (fun v _ => v = (.int .i64 ((S : Int) - 1))), (fun v _ => v = (.pointer (some ⟨l, 0, none⟩))), (fun v _ => v = (.pointer (some ⟨l, 0, none⟩))), (fun v _ => v = (.pointer (some ⟨l, 4, none⟩))), (fun v _ => v = (.int .u64 (f.turn : Int))), (fun v _ => v = (.int .u64 ((f.turn : Int) + 1))), (fun v w1 => Own8 w1 w5.heap.size v (hdr (f.turn + 1))), (fun v w1 => v = .int .i64 0 ∧ DX W Y w1 d (layV V f L) (m + f.half + 1) false)] rfl ⟨?_, ?_, ?_, ?_, ?_, ?_, ?_, ?_, ?_, ?_, ?_, ?_, ?_, ?_, ?_, trivial⟩ _ rfl ⟨?_, ?_, ?_, ?_, ?_, ?_, ?_, ?_, ?_, ?_, ?_, ?_, ?_, ?_, ?_, trivial⟩ ?_
            · exact Stable.is _ _
            · exact Stable.is _ _
            · exact Stable.is _ _
            · exact Stable.is _ _
            · exact Stable.is _ _
            · exact Stable.is _ _
            · exact Stable.is _ _
            · exact Stable.is _ _
            · exact Stable.is _ _
            · exact Stable.is _ _
            · exact Stable.is _ _
            · exact Stable.is _ _
            · exact Stable.is _ _
            · intro v w1 w2 h ho
              have ho : Only (fun q => (fun k => W.heap.size ≤ k ∧ ¬ Y k ∧ k < w5.heap.size) q ∨ (fun _ => False) q) w1 w2 := ho
              exact (by exact h.only ho (fun k hk hs => by have := (h.ge hk).1; rcases hs with h | h; (have := h.2.2; omega); exact h))
            · intro v w1 w2 h ho
              have ho : Only (fun _ => False) w1 w2 := ho
              exact (by exact ⟨h.1, h.2.still ho⟩)
            · intro x wx ox hN TT HTT
              have ox : Only (fun _ => False) _ wx := ox
              clear hN
              unfold StepTo
              simp only [putAll, Act.put, List.setIfInBounds_toArray, List.set_cons_succ, List.set_cons_zero]
              go_wp2_with fail
              exact ⟨rfl, _, rfl, HTT.out _ _ (rfl) (Only.refl _ _)⟩
            · intro x wx ox hN TT HTT
              have ox : Only (fun _ => False) _ wx := ox
              have r96 : x 0 = (.pointer (some ⟨l, 0, none⟩)) := hN.1 rfl
              clear hN
              unfold StepTo
              simp only [putAll, Act.put, List.setIfInBounds_toArray, List.set_cons_succ, List.set_cons_zero, r96]
              clear r96
              go_wp2_with fail
              exact ⟨rfl, _, rfl, HTT.out _ _ (rfl) (Only.refl _ _)⟩
            · intro x wx ox hN TT HTT
              have ox : Only (fun _ => False) _ wx := ox
              have r97 : x 1 = (.pointer (some ⟨l, 0, none⟩)) := hN.1 rfl
              clear hN
              unfold StepTo
              simp only [putAll, Act.put, List.setIfInBounds_toArray, List.set_cons_succ, List.set_cons_zero, r97]
              clear r97
              go_wp2_with fail
              exact ⟨rfl, _, rfl, HTT.out _ _ (rfl) (Only.refl _ _)⟩
            · intro x wx ox hN TT HTT
              have ox : Only (fun _ => False) _ wx := ox
              have r98 : x 2 = (.pointer (some ⟨l, 0, none⟩)) := hN.1 rfl
              clear hN
              unfold StepTo
              simp only [putAll, Act.put, List.setIfInBounds_toArray, List.set_cons_succ, List.set_cons_zero, r98]
              clear r98
              obtain ⟨d0, _, d2, d3, d4, _, _, _, _, _⟩ := (HFA.out wx (((Only.refl _ w5).drew).trans ox)).cells
              go_wp2_with fail
              exact ⟨rfl, _, rfl, HTT.out _ _ (rfl) (Only.refl _ _)⟩
            · intro x wx ox hN TT HTT
              have ox : Only (fun _ => False) _ wx := ox
              clear hN
              unfold StepTo
              simp only [putAll, Act.put, List.setIfInBounds_toArray, List.set_cons_succ, List.set_cons_zero]
              go_wp2_with fail
              exact ⟨rfl, _, rfl, HTT.out _ _ (rfl) (Only.refl _ _)⟩
            · intro x wx ox hN TT HTT
              have ox : Only (fun _ => False) _ wx := ox
              clear hN
              unfold StepTo
              simp only [putAll, Act.put, List.setIfInBounds_toArray, List.set_cons_succ, List.set_cons_zero]
              go_wp2_with fail
              exact ⟨rfl, _, rfl, HTT.out _ _ (rfl) (Only.refl _ _)⟩
            · intro x wx ox hN TT HTT
              have ox : Only (fun _ => False) _ wx := ox
              have r100 : x 4 = (.pointer (some ⟨l, 0, none⟩)) := hN.1 rfl
              have r101 : x 5 = (.int .i64 (1 - (f.side : Int))) := hN.2.1 rfl
              clear hN
              unfold StepTo
              simp only [putAll, Act.put, List.setIfInBounds_toArray, List.set_cons_succ, List.set_cons_zero, r100, r101]
              clear r100 r101
              have hc := first_q wx l d f tv (1 - f.side) (HFA.out wx (((Only.refl _ w5).drew).trans ox)) OK.out (by omega)
              rw [HS.out, ← HSS.out] at hc
              have HC := Lib.hid hc; clear hc
              go_wp2_with fail
              refine HC.out.mono ?_
              rintro e w6 ⟨rfl, n6, rfl⟩
              go_wp2_with fail
              exact ⟨rfl, _, rfl, HTT.out _ _ (rfl) ((Only.refl _ _).drewN n6)⟩
            · intro x wx ox hN TT HTT
              have ox : Only (fun _ => False) _ wx := ox
              have r102 : x 6 = (.int .i64 (S : Int)) := hN.1 rfl
              clear hN
              unfold StepTo
              simp only [putAll, Act.put, List.setIfInBounds_toArray, List.set_cons_succ, List.set_cons_zero, r102]
              clear r102
              go_wp2_with fail
              exact ⟨rfl, _, rfl, HTT.out _ _ (rfl) (Only.refl _ _)⟩
            · intro x wx ox hN TT HTT
              have ox : Only (fun _ => False) _ wx := ox
              clear hN
              unfold StepTo
              simp only [putAll, Act.put, List.setIfInBounds_toArray, List.set_cons_succ, List.set_cons_zero]
              go_wp2_with fail
              exact ⟨rfl, _, rfl, HTT.out _ _ (rfl) (Only.refl _ _)⟩
            · intro x wx ox hN TT HTT
              have ox : Only (fun _ => False) _ wx := ox
              have r104 : x 8 = (.pointer (some ⟨l, 0, none⟩)) := hN.1 rfl
              clear hN
              unfold StepTo
              simp only [putAll, Act.put, List.setIfInBounds_toArray, List.set_cons_succ, List.set_cons_zero, r104]
              clear r104
              go_wp2_with fail
              exact ⟨rfl, _, rfl, HTT.out _ _ (rfl) (Only.refl _ _)⟩
            · intro x wx ox hN TT HTT
              have ox : Only (fun _ => False) _ wx := ox
              have r105 : x 9 = (.pointer (some ⟨l, 0, none⟩)) := hN.1 rfl
              clear hN
              unfold StepTo
              simp only [putAll, Act.put, List.setIfInBounds_toArray, List.set_cons_succ, List.set_cons_zero, r105]
              clear r105
              go_wp2_with fail
              exact ⟨rfl, _, rfl, HTT.out _ _ (rfl) (Only.refl _ _)⟩
            · intro x wx ox hN TT HTT
              have ox : Only (fun _ => False) _ wx := ox
              have r106 : x 10 = (.pointer (some ⟨l, 4, none⟩)) := hN.1 rfl
              clear hN
              unfold StepTo
              simp only [putAll, Act.put, List.setIfInBounds_toArray, List.set_cons_succ, List.set_cons_zero, r106]
              clear r106
              obtain ⟨d0, _, d2, d3, d4, _, _, _, _, _⟩ := (HFA.out wx (((Only.refl _ w5).drew).trans ox)).cells
              go_wp2_with fail
              exact ⟨rfl, _, rfl, HTT.out _ _ (rfl) (Only.refl _ _)⟩
            · intro x wx ox hN TT HTT
              have ox : Only (fun _ => False) _ wx := ox
              have r107 : x 11 = (.int .u64 (f.turn : Int)) := hN.1 rfl
              clear hN
              unfold StepTo
              simp only [putAll, Act.put, List.setIfInBounds_toArray, List.set_cons_succ, List.set_cons_zero, r107]
              clear r107
              go_wp2_with fail
              exact ⟨rfl, _, rfl, HTT.out _ _ (rfl) (Only.refl _ _)⟩
            · intro x wx ox hN TT HTT
              have ox : Only (fun _ => False) _ wx := ox
              have r108 : x 12 = (.int .u64 ((f.turn : Int) + 1)) := hN.1 rfl
              have r102 : x 6 = (.int .i64 (S : Int)) := hN.2.1 rfl
              clear hN
              unfold StepTo
              simp only [putAll, Act.put, List.setIfInBounds_toArray, List.set_cons_succ, List.set_cons_zero, r108, r102]
              clear r108 r102
              have hc := header_any (f.turn + 1) (by have := HTT.out; omega) wx
              rw [← HT1.out] at hc
              have hsz : w5.heap.size ≤ wx.heap.size := ox.size
              have HC := Lib.hid hc; have HSZ5 := Lib.hid hsz; clear hc hsz
              go_wp2_with fail
              refine HC.out.mono ?_
              rintro e w6 ⟨v6, rfl, h6, o6⟩
              have H6 := Lib.hid h6; have O6 := Lib.hid o6; clear h6 o6
              go_wp2_with fail
              exact ⟨rfl, _, rfl, HTT.out _ _ (H6.out.mono HSZ5.out) (O6.out)⟩
            · intro x wx ox hN TT HTT
              have ox : Only (fun _ => False) _ wx := ox
              have r99 : x 3 = (.pointer (some ⟨d, 0, none⟩)) := hN.1 rfl
              have r103 : x 7 = (.int .i64 ((S : Int) - 1)) := hN.2.1 rfl
              have r109 : (fun (v : Value) (w1 : World) => Own8 w1 w5.heap.size v (hdr (f.turn + 1))) (x 13) wx := hN.2.2.1 rfl
              clear hN
              unfold StepTo
              simp only [putAll, Act.put, List.setIfInBounds_toArray, List.set_cons_succ, List.set_cons_zero, r99, r103]
              clear r99 r103
              have ho5x : Only (fun _ => False) w5 wx := (((Only.refl _ w5).drew).trans ox)
              have hdx : DX W (fun k => Y k ∨ (w5.heap.size ≤ k ∧ k < wx.heap.size)) wx d (putc V S L (f.half - 1)) (m + (f.half - 1) + 1) true := H5.out.more ho5x (fun _ _ h => h.elim) (fun k h => h)
              have hc := write_v W _ d (m + (f.half - 1) + 1) (putc V S L (f.half - 1)) true (S - 1) _ _ wx hdx (by rw [HVL.out]; have := HSB.out; omega) r109.bytes (by rw [hdr_len]; decide) (fun _ k hk => .inr (.inr (r109.ge hk))) (by have := HM.out; omega)
              have e1 : ((S - 1 : Nat) : Int) = (S : Int) - 1 := by have := HSB.out; omega
              have e2 : (putc V S L (f.half - 1)).set (S - 1) (pad64 (hdr (f.turn + 1))) = layV V f L := by unfold layV; rw [HS.out]
              have e3 : m + (f.half - 1) + 1 + 1 = m + f.half + 1 := by omega
              rw [e1, e2, e3] at hc
              have HC := Lib.hid hc; clear hc hdx ho5x e1 e2 e3
              go_wp2_with fail
              refine HC.out.mono ?_
              rintro e w6 ⟨rfl, h6, o6⟩
              have h6' : DX W Y w6 d (layV V f L) (m + f.half + 1) false := h6.less (fun k hk => .inl hk)
              have o6' : Only (fun k => W.heap.size ≤ k ∧ ¬ Y k ∧ k < w5.heap.size) wx w6 := o6.mono (fun k hk h => ⟨h.1, fun hy => h.2 (.inl hy), by
                rcases Nat.lt_or_ge k w5.heap.size with h9 | h9
                · exact h9
                · exact absurd (.inr ⟨h9, hk⟩) h.2⟩)
              have H6 := Lib.hid h6'; have O6 := Lib.hid o6'; clear h6 o6 h6' o6'
              go_wp2_with fail
              exact ⟨rfl, _, rfl, HTT.out _ _ (⟨rfl, H6.out⟩) (O6.out)⟩
            intro xb wxb oxb hN
            have oxb : Only (fun q => (fun k => W.heap.size ≤ k ∧ ¬ Y k ∧ k < w5.heap.size) q ∨ (fun _ => False) q) _ wxb := oxb
            have r96 : xb 0 = (.pointer (some ⟨l, 0, none⟩)) := hN.1
            have r97 : xb 1 = (.pointer (some ⟨l, 0, none⟩)) := hN.2.1
            have r98 : xb 2 = (.pointer (some ⟨l, 0, none⟩)) := hN.2.2.1
            have r99 : xb 3 = (.pointer (some ⟨d, 0, none⟩)) := hN.2.2.2.1
            have r100 : xb 4 = (.pointer (some ⟨l, 0, none⟩)) := hN.2.2.2.2.1
            have r101 : xb 5 = (.int .i64 (1 - (f.side : Int))) := hN.2.2.2.2.2.1
            have r102 : xb 6 = (.int .i64 (S : Int)) := hN.2.2.2.2.2.2.1
            have r103 : xb 7 = (.int .i64 ((S : Int) - 1)) := hN.2.2.2.2.2.2.2.1
            have r104 : xb 8 = (.pointer (some ⟨l, 0, none⟩)) := hN.2.2.2.2.2.2.2.2.1
            have r105 : xb 9 = (.pointer (some ⟨l, 0, none⟩)) := hN.2.2.2.2.2.2.2.2.2.1
            have r106 : xb 10 = (.pointer (some ⟨l, 4, none⟩)) := hN.2.2.2.2.2.2.2.2.2.2.1
            have r107 : xb 11 = (.int .u64 (f.turn : Int)) := hN.2.2.2.2.2.2.2.2.2.2.2.1
            have r108 : xb 12 = (.int .u64 ((f.turn : Int) + 1)) := hN.2.2.2.2.2.2.2.2.2.2.2.2.1
            have r109 : (fun (v : Value) (w1 : World) => Own8 w1 w5.heap.size v (hdr (f.turn + 1))) (xb 13) wxb := hN.2.2.2.2.2.2.2.2.2.2.2.2.2.1
            have r110 : (fun (v : Value) (w1 : World) => v = .int .i64 0 ∧ DX W Y w1 d (layV V f L) (m + f.half + 1) false) (xb 14) wxb := hN.2.2.2.2.2.2.2.2.2.2.2.2.2.2.1
            clear hN
            simp only [putAll, Act.put, List.setIfInBounds_toArray, List.set_cons_succ, List.set_cons_zero, r96, r97, r98, r99, r100, r101, r102, r103, r104, r105, r106, r107, r108]
            clear r96 r97 r98 r99 r100 r101 r102 r103 r104 r105 r106 r107 r108
            obtain ⟨e1, hdk⟩ := r110
            rw [e1]
            have ho6 : Only (fun k => W.heap.size ≤ k ∧ ¬ Y k) wp wxb := O5.out.trans (((Only.refl (fun k => W.heap.size ≤ k ∧ ¬ Y k) w5).drew).trans (oxb.mono (fun k _ h => (h.resolve_right (fun h => h)).elim (fun h1 h2 => ⟨h1, h2.1⟩))))
            have hb6 := HB1.out.only ho6 (fun h => h.2 HYL.out)
            obtain ⟨d0, _, d2, d3, d4, _, _, _, _, _⟩ := hb6.cells
            have hvl : (layV V f L).length = V.length := by unfold layV; rw [List.length_set, putc_len]
            have hsy := sync_v W Y d (m + f.half + 1) (layV V f L) false wxb hdk (by rw [hvl]; have := HSB.out; omega) (by have := HM.out; omega)
            have HSY := Lib.hid hsy; have O6 := Lib.hid ho6
            clear e1 hdk ho6 hvl hsy hb6 r109
            go_wp2_with fail
            refine HSY.out.mono ?_
            rintro e w7 ⟨rfl, h7, o7⟩
            have ho7 := O6.out.trans o7
            have hb7 := HB1.out.only ho7 (fun h => h.2 HYL.out)
            obtain ⟨x0, x1, x2, x3, x4, x5, x6, x7, xz, xl⟩ := hb7.cells
            -- the fields
            have hp7 : Bytes w7 (.slice a8 L.length c8) L := HP.out.only ho7 (fun hp q hq h => h.2 (HYP.out q (HPY.out q hq).1 (HPY.out q hq).2))
            have hbs := (((hb7.setSide (1 - f.side)).setTurn (f.turn + 1)).setEn N).setN (rs.length + 1)
            have hos := ((((Only.refl (fun k => k = l) w7).setCell (p := ⟨l, 3, none⟩) (.inl rfl) (.int .i64 ((1 - f.side : Nat) : Int))).setCell (p := ⟨l, 4, none⟩) (.inl rfl) (.int .u64 ((f.turn + 1 : Nat) : Int))).setCell (p := ⟨l, 6, none⟩) (.inl rfl) (.int .i64 (N : Int))).setCell (p := ⟨l, 7, none⟩) (.inl rfl) (.int .i64 ((rs.length + 1 : Nat) : Int))
            have eR : ((rs.length + 1 : Nat) : Int) = (rs.length : Int) + 1 := by omega
            rw [← HSS.out, ← HT1.out, eR] at hbs hos
            have hlp : ∀ k, (Value.slice a8 L.length c8).ownBlock = some k → ¬ k = l := fun k hk e => by
              have h1 := (HPY.out k hk).1
              have h2 := (Array.getElem?_eq_some_iff.1 HB.out).1
              omega
            obtain ⟨w8, hw8⟩ : ∃ w8, w8 = (((w7.setCell ⟨l, 3, none⟩ (.int .i64 (1 - (f.side : Int)))).setCell ⟨l, 4, none⟩ (.int .u64 ((f.turn : Int) + 1))).setCell ⟨l, 6, none⟩ (.int .i64 (N : Int))).setCell ⟨l, 7, none⟩ (.int .i64 ((rs.length : Int) + 1)) := ⟨_, rfl⟩
            rw [← hw8] at hbs hos
            have hp8 := hp7.only hos (fun _ k hk => hlp k hk)
            have hd8 := h7.only hos (fun k _ e => by subst e; exact ⟨HLW.out, HYL.out⟩)
            obtain ⟨aT, cT, hT, hbT, hoT⟩ := cutFrom hp8 (N / 64 * 64) (by rw [HNN.out]; omega) .i64
            rw [HNN.out] at hT hbT hoT
            have eN : ((N / 64 * 64 : Nat) : Int) = (N : Int) / 64 * 64 := by omega
            rw [eN] at hT
            obtain ⟨t, htt⟩ : ∃ t, t = L.drop (N / 64 * 64) := ⟨_, rfl⟩
            have htl : t.length = N - N / 64 * 64 := by rw [htt, List.length_drop, HNN.out]
            rw [← htt] at hbT
            have HTT9 := Lib.hid htt; clear htt
            rw [← htl] at hbT hT
            have hcl := clone_any _ t w8 hbT (by rw [htl]; omega)
            have ho8 : Only (fun k => W.heap.size ≤ k ∧ (¬ X k ∨ k = l)) w w8 := by
              refine ((HO.out.mono (T := fun k => W.heap.size ≤ k ∧ (¬ X k ∨ k = l)) (fun _ _ h => h.elim)).trans (ho7.mono (fun k _ h => ⟨h.1, .inl (fun hx => h.2 (HYX.out k hx))⟩))).trans (hos.mono (fun k _ e => ?_))
              subst e; exact ⟨HLW.out, .inr rfl⟩
            have HW8 := Lib.hid hw8; have HBS := Lib.hid hbs; have HD8 := Lib.hid hd8; have HHT := Lib.hid hT; have HCL := Lib.hid hcl; have O8 := Lib.hid ho8; have HTL := Lib.hid htl
            clear hw8 hbs hos hp7 hp8 hd8 hT hbT hoT eN htl hcl ho8 hlp hb7 ho7 h7 o7 eR
            have hn2 : (N : Int) / 64 * 64 ≤ (N : Int) := by omega
            have hn3 : (0 : Int) ≤ (N : Int) / 64 * 64 := by omega
            have hsT := HHT.out
            go_upto_region 28 with (fail)
            rw [← HW8.out]
            clear x0 x1 x2 x3 x4 x5 x6 x7 xz
            go_wp2_with fail
            refine HCL.out.mono ?_
            rintro e w9 ⟨v9, rfl, h9, o9⟩
            obtain ⟨a9, c9, rfl⟩ := h9.form
            have hb9 := HBS.out.only o9 (fun h => h)
            obtain ⟨x0, x1, x2, x3, x4, x5, x6, x7, xz, xl⟩ := hb9.cells
            have hbF := hb9.setTail (.slice a9 t.length c9)
            have ht9 : ∀ k, (Value.slice a9 t.length c9).ownBlock = some k → w8.heap.size ≤ k ∧ k < w9.heap.size := fun k hk => h9.ge hk
            have hoF := (Only.refl (fun k => k = l) w9).setCell (p := ⟨l, 5, none⟩) (.inl rfl) (.slice a9 t.length c9)
            have hl8 : l < w8.heap.size := (Array.getElem?_eq_some_iff.1 HBS.out).1
            have hbtF := h9.bytes.only hoF (fun _ k hk e => by have := (ht9 k hk).1; omega)
            have hdF : DX W (fun k => X k ∨ (Value.slice a9 t.length c9).ownBlock = some k) (w9.setCell ⟨l, 5, none⟩ (.slice a9 t.length c9)) d (layV V f L) (m + f.half + 1 + 1) true := by
              refine (HD8.out.more (Y := fun k => X k ∨ (Value.slice a9 t.length c9).ownBlock = some k) o9 (fun _ _ h => h.elim) (fun k h => ?_)).only hoF (fun k _ e => ?_)
              · rcases h with h | h
                · exact .inl (HYX.out k h)
                · exact .inr (ht9 k h)
              · subst e; exact ⟨HLW.out, .inl HHX.out⟩
            have hoZ : Only (fun k => W.heap.size ≤ k ∧ (¬ X k ∨ k = l)) w (w9.setCell ⟨l, 5, none⟩ (.slice a9 t.length c9)) := by
              refine (O8.out.trans (o9.mono (fun _ _ h => h.elim))).trans (hoF.mono (fun k _ e => ?_))
              subst e; exact ⟨HLW.out, .inr rfl⟩
            have hfin : LayPost W X d m V l f tv (s :: rs) q w (.returned (.int .i64 0)) (w9.setCell ⟨l, 5, none⟩ (.slice a9 t.length c9)) := by
              refine .inr ⟨by rw [HRoom.out, ← HLEN.out, HNN.out]; omega, rfl, a9, c9, ?_⟩
              simp only [← HLL2.out, HNN.out, ← HTT9.out]
              refine ⟨?_, hbtF, fun k hk => ⟨Nat.le_trans O8.out.size (ht9 k hk).1, by have := (ht9 k hk).2; simpa using this⟩, by rw [show m + f.half + 2 = m + f.half + 1 + 1 from rfl]; exact hdF, hoZ⟩
              have e : f.laid (sizes (s :: rs)) (s :: rs).length = { f with side := 1 - f.side, turn := f.turn + 1, en := N, n := rs.length + 1 } := by
                unfold Fl.laid; rw [← HLEN.out, HNN.out]; rfl
              rw [e]; exact hbF
            have HFIN := Lib.hid hfin
            clear hfin hoZ hdF hbtF hoF ht9 hbF hb9 h9 o9 hl8
            go_wp2_with fail
            go_ret
            exact HFIN.out
end Go.Proofs.Ytlkglhgndfhjeaa
