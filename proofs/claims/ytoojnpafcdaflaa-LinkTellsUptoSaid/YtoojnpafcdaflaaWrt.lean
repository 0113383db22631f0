/- Package wire: the writer's Uint, Int, Text, Done. -/
import Derived.Test.YtoojnpafcdaflaaWre
import Derived.Laws.BitsAllLaws
import Derived.Laws.BitsLemmas
namespace Go.Proofs.Ytoojnpafcdaflaa
open Go Go.RowKit
set_option linter.unusedVariables false
set_option linter.unusedSimpArgs false

/-! ### The writer -/
def WriterAt (w : World) (F : Nat → Prop) (b : Nat) (l : List UInt8) : Prop := F b ∧ ∃ v, w.heap[b]? = some (.cells #[v] 26) ∧ Own8 w 0 v l ∧ ∀ k, v.ownBlock = some k → k ≠ b ∧ F k
theorem WriterAt.only {S F : Nat → Prop} {w w' : World} {b : Nat} {l : List UInt8} (h : WriterAt w F b l) (ho : Only S w w') (hS : ∀ k, F k → k < w.heap.size → ¬ S k) : WriterAt w' F b l := by
  obtain ⟨h1, v, h2, h3, h4⟩ := h
  have hl := (Array.getElem?_eq_some_iff.1 h2).1
  exact ⟨h1, v, by rw [ho.block _ hl (hS _ h1 hl)]; exact h2, h3.only ho (fun k hk => hS k (h4 k hk).2 (h3.ge hk).2), h4⟩
theorem WriterAt.still {F : Nat → Prop} {w w' : World} {b : Nat} {l : List UInt8} (h : WriterAt w F b l) (ho : Only (fun _ => False) w w') : WriterAt w' F b l := h.only ho (fun _ _ _ h => h)
theorem WriterAt.mono {F G : Nat → Prop} {w : World} {b : Nat} {l : List UInt8} (h : WriterAt w F b l) (hG : ∀ k, F k → G k) : WriterAt w G b l := by
  obtain ⟨h1, v, h2, h3, h4⟩ := h
  exact ⟨hG _ h1, v, h2, h3, fun k hk => ⟨(h4 k hk).1, hG _ (h4 k hk).2⟩⟩
theorem WriterAt.strict {F : Nat → Prop} {w : World} {b : Nat} {l : List UInt8} (h : WriterAt w F b l) : WriterAt w (fun k => F k ∧ k < w.heap.size) b l := by
  obtain ⟨h1, v, h2, h3, h4⟩ := h
  exact ⟨⟨h1, (Array.getElem?_eq_some_iff.1 h2).1⟩, v, h2, h3, fun k hk => ⟨(h4 k hk).1, (h4 k hk).2, (h3.ge hk).2⟩⟩
/-- What the walk is told of the field. -/
theorem WriterAt.field {F : Nat → Prop} {w : World} {b : Nat} {l : List UInt8} (h : WriterAt w F b l) : ∃ a c, w.cell? ⟨b, 0, none⟩ = some (.slice a l.length c) ∧ w.frozen? ⟨b, 0, none⟩ = false ∧ b < w.heap.size ∧ Own8 w 0 (.slice a l.length c) l ∧ (∀ k, (Value.slice a l.length c).ownBlock = some k → k ≠ b ∧ F k) := by
  obtain ⟨h1, v, h2, h3, h4⟩ := h
  obtain ⟨a, c, rfl⟩ := h3.form
  exact ⟨a, c, by simp [World.cell?, h2], by simp [World.frozen?, h2], (Array.getElem?_eq_some_iff.1 h2).1, h3, h4⟩
/-- The field written anew behind an append. -/
theorem WriterAt.put {F : Nat → Prop} {w w1 w' : World} {b : Nat} {l L : List UInt8} {a a' : Option Addr} {c c' : Nat} (h : WriterAt w F b l) (hc : w.cell? ⟨b, 0, none⟩ = some (.slice a l.length c)) (o1 : Only (fun _ => False) w w1) (hg : Grow w1 w' (.slice a l.length c) (.slice a' L.length c')) (hn : Own8 w' 0 (.slice a' L.length c') L) :
    WriterAt (w'.setCell ⟨b, 0, none⟩ (.slice a' L.length c')) (fun k => F k ∨ w.heap.size ≤ k) b L ∧ Only F w (w'.setCell ⟨b, 0, none⟩ (.slice a' L.length c')) := by
  obtain ⟨h1, v, h2, h3, h4⟩ := h
  have e : v = .slice a l.length c := by simpa [World.cell?, h2] using hc
  subst e
  have hl := (Array.getElem?_eq_some_iff.1 h2).1
  have h2' : w'.heap[b]? = some (.cells #[.slice a l.length c] 26) := by
    rw [hg.1.block _ (Nat.lt_of_lt_of_le hl o1.size) (fun hk => (h4 b hk).1 rfl), o1.block _ hl (fun h => h)]; exact h2
  have hnew : ∀ k, (Value.slice a' L.length c').ownBlock = some k → k ≠ b ∧ (F k ∨ w.heap.size ≤ k) := by
    intro k hk
    rcases hg.2 k hk with h | h
    · exact ⟨(h4 k h).1, .inl (h4 k h).2⟩
    · have := o1.size
      exact ⟨by omega, .inr (by omega)⟩
  refine ⟨⟨.inl h1, .slice a' L.length c', heap_set (o := 0) h2' _, hn.only ((Only.refl (fun k => k = b) w').setCell (p := ⟨b, 0, none⟩) (.inl rfl) _) (fun k hk e => (hnew k hk).1 e), hnew⟩, ?_⟩
  exact (((o1.mono (T := F) (fun _ _ h => h.elim)).trans' hg.1 (fun k _ hk => (h4 k hk).2)).setCell (p := ⟨b, 0, none⟩) (.inl h1) _)

theorem or128 : ∀ x : Nat, x < 256 → bits .or .u8 (x : Int) 128 = ((x % 128 + 128 : Nat) : Int) := by decide +kernel
/-- What a call of the writer leaves. -/
def Wrote (w : World) (F : Nat → Prop) (b : Nat) (l : List UInt8) (e : Ending) (w' : World) : Prop :=
  e = .returned (.pointer (some ⟨b, 0, none⟩)) ∧ WriterAt w' (fun k => F k ∨ w.heap.size ≤ k) b l ∧ Only F w w'
set_option maxRecDepth 100000 in
set_option maxHeartbeats 2000000 in
theorem wUint (n : Nat) (F : Nat → Prop) (b : Nat) (l : List UInt8) (w : World) (h : WriterAt w F b l) (hn : n < 18446744073709551616) (hl : l.length ≤ 100000000000) :
    Calls Try.prog 27 #[.pointer (some ⟨b, 0, none⟩), .int .u64 n] w (Wrote w F b (l ++ encU n)) := by
  have H := Lib.hid h
  clear h
  go_enter Try.func27, Try.ntmps27
  go_wp2_with fail
  go_loopw [1] (fun v wr => ∃ (m : Nat) (l1 : List UInt8) (F1 : Nat → Prop), v = .int .u64 (m : Int) ∧ m < 18446744073709551616 ∧ l1.length + (encU m).length ≤ 100000000010 ∧ Hid (l1 ++ encU m = l ++ encU n) ∧ Hid (WriterAt wr F1 b l1) ∧ Hid (Only F w wr) ∧ Hid (∀ k, F1 k → F k ∨ w.heap.size ≤ k) ∧ Hid (∀ k, F k → F1 k)) (fun v _ => (intOf v).toNat)
  case atStart => exact ⟨n, l, F, rfl, hn, by have := encU_len10 hn; omega, Lib.hid rfl, H, Lib.hid (Only.refl _ _), Lib.hid (fun k hk => .inl hk), Lib.hid (fun k hk => hk)⟩
  case round =>
    obtain ⟨m, l1, F1, rfl, hm, hlm, HE, HW, HO, HF, HG⟩ := hrel
    have hm0 : (0 : Int) ≤ (m : Int) := by omega
    obtain ⟨a, c, c0, fz, hb, how, hbl⟩ := HW.out.field
    have HOW := Lib.hid how; have HBL := Lib.hid hbl; clear how hbl
    have hl1 : l1.length ≤ 100000000010 := by omega
    have HL1 := Lib.hid hl1; have HLM := Lib.hid hlm; have HM := Lib.hid hm; have HLL := Lib.hid hl; clear hl1 hlm hm hl
    by_cases hs : m < 128
    · have t1 : decide ((128 : Int) ≤ (m : Int)) = false := by simp; omega
      have hm7 : (m : Int) ≤ 127 := by omega
      have hnew := bytes_new wr [UInt8.ofNat m] 5 (0, 0) 1 (by simp) (by omega) (C := #[.int .u8 (m : Int)]) (by rw [u8s_ofNat (by omega)])
      have o1 := (Only.refl (fun _ => False) wr).alloc (.cells #[.int .u8 (m : Int)] 5)
      have HNEW := Lib.hid hnew; have O1 := Lib.hid o1; clear hnew o1
      have hes := encU_small hs
      have HES := Lib.hid hes; clear hes
      go_wp2_with ((refine wpList_append8 (o := ⟨some 29, _, _, _, _, _⟩) rfl (.tmp 25) (.tmp 28) (by rfl) 0 _ _ l1 [UInt8.ofNat m] (by rfl) (by rfl) (HOW.out.still O1.out) HNEW.out (by have := HL1.out; simp; omega) (Nat.zero_le _) ?_; intro L a3 c3 w3 hL h3 g3; have hb3 : b < w3.heap.size := (by have e := g3.out.1.size; have e1 := O1.out.size; omega); have c3' : w3.cell? ⟨b, 0, none⟩ = some (.slice a l1.length c) := ((cell_only g3.out.1 (a := ⟨b, 0, none⟩) (Nat.lt_of_lt_of_le hb O1.out.size) (fun hk => (HBL.out b hk).1 rfl)).trans ((cell_only O1.out (a := ⟨b, 0, none⟩) hb (fun h => h)).trans c0)); have f3' : w3.frozen? ⟨b, 0, none⟩ = false := ((frozen_only g3.out.1 (a := ⟨b, 0, none⟩) (Nat.lt_of_lt_of_le hb O1.out.size) (fun hk => (HBL.out b hk).1 rfl)).trans ((frozen_only O1.out (a := ⟨b, 0, none⟩) hb (fun h => h)).trans fz))))
      go_ret
      have hp := HW.out.put c0 O1.out g3.out h3.out
      refine ⟨rfl, ?_, ?_⟩
      · have e1 : L = l ++ encU n := by rw [hL.out, ← HE.out, HES.out]
        rw [← e1]
        exact hp.1.mono (fun k hk => hk.elim (fun h => HF.out k h) (fun h => .inr (Nat.le_trans HO.out.size h)))
      · exact HO.out.trans' hp.2 (fun k hk h => (HF.out k h).resolve_right (by omega))
    · have t1 : decide ((128 : Int) ≤ (m : Int)) = true := by simp; omega
      have hor := or128 (m % 256) (by omega)
      have h8 : ((m % 256 : Nat) : Int) = (m : Int) % 256 := by omega
      have h9 : ((m % 256 % 128 + 128 : Nat) : Int) = (m : Int) % 128 + 128 := by omega
      rw [h8, h9] at hor
      clear h8 h9
      have hm2 : m % 128 + 128 < 256 := by omega
      have hnew := bytes_new wr [UInt8.ofNat (m % 128 + 128)] 5 (0, 0) 1 (by simp) (by omega) (C := #[.int .u8 ((m : Int) % 128 + 128)]) (by rw [u8s_ofNat hm2, show ((m % 128 + 128 : Nat) : Int) = (m : Int) % 128 + 128 from by omega])
      have o1 := (Only.refl (fun _ => False) wr).alloc (.cells #[.int .u8 ((m : Int) % 128 + 128)] 5)
      have HNEW := Lib.hid hnew; have O1 := Lib.hid o1; clear hnew o1 hm2
      have hes := encU_big hs
      have HES := Lib.hid hes; clear hes
      go_wp2_with ((refine wpList_append8 (o := ⟨some 16, _, _, _, _, _⟩) rfl (.tmp 11) (.tmp 15) (by rfl) 0 _ _ l1 [UInt8.ofNat (m % 128 + 128)] (by rfl) (by rfl) (HOW.out.still O1.out) HNEW.out (by have := HL1.out; simp; omega) (Nat.zero_le _) ?_; intro L a3 c3 w3 hL h3 g3; have hb3 : b < w3.heap.size := (by have e := g3.out.1.size; have e1 := O1.out.size; omega); have c3' : w3.cell? ⟨b, 0, none⟩ = some (.slice a l1.length c) := ((cell_only g3.out.1 (a := ⟨b, 0, none⟩) (Nat.lt_of_lt_of_le hb O1.out.size) (fun hk => (HBL.out b hk).1 rfl)).trans ((cell_only O1.out (a := ⟨b, 0, none⟩) hb (fun h => h)).trans c0)); have f3' : w3.frozen? ⟨b, 0, none⟩ = false := ((frozen_only g3.out.1 (a := ⟨b, 0, none⟩) (Nat.lt_of_lt_of_le hb O1.out.size) (fun hk => (HBL.out b hk).1 rfl)).trans ((frozen_only O1.out (a := ⟨b, 0, none⟩) hb (fun h => h)).trans fz))))
      have hp := HW.out.put c0 O1.out g3.out h3.out
      have HP := Lib.hid hp; clear hp
      have hl1l : L.length = l1.length + 1 := by rw [hL.out]; simp
      have HLL1 := Lib.hid hl1l; clear hl1l
      clear c3' f3'
      go_roundw
      case rel =>
        have hde := HLM.out
        rw [HES.out, List.length_cons] at hde
        exact ⟨m / 128, L, _, by simp [go_sem], by have := HM.out; omega, by have := HLL1.out; omega, Lib.hid (by rw [hL.out, ← HE.out, HES.out]; simp), Lib.hid HP.out.1, Lib.hid (HO.out.trans' HP.out.2 (fun k hk h => (HF.out k h).resolve_right (by omega))), Lib.hid (fun k hk => hk.elim (fun h => HF.out k h) (fun h => .inr (Nat.le_trans HO.out.size h))), Lib.hid (fun k hk => .inl (HG.out k hk))⟩
      case measure => simp [intOf]; omega

/-- zigzag, as the writer has it. -/
theorem zig_bits (i : Int) (h0 : -9223372036854775808 ≤ i) (h1 : i ≤ 9223372036854775807) : bits BinOp.xor IntKind.u64 (IntKind.u64.wrap (wrap64 (i * 2))) (IntKind.u64.wrap (i / 9223372036854775808)) = (zig i : Int) := by
  have e1 : IntKind.u64.wrap (wrap64 (i * 2)) = (i * 2) % 18446744073709551616 := by
    simp only [IntKind.wrap_u64, wrap64]; omega
  have hx : ∀ a b : Int, bits BinOp.xor IntKind.u64 a b = IntKind.u64.wrap ((BitVec.ofInt 64 a ^^^ BitVec.ofInt 64 b).toNat : Int) := fun _ _ => rfl
  rw [e1, hx]
  by_cases h : i < 0
  · have e2 : IntKind.u64.wrap (i / 9223372036854775808) = 18446744073709551615 := by
      rw [IntKind.wrap_u64]; omega
    have e3 : BitVec.ofInt 64 18446744073709551615 = BitVec.allOnes 64 := by decide
    rw [e2, e3, BitVec.xor_allOnes, BitVec.toNat_not, BitVec.toNat_ofInt, IntKind.wrap_u64]
    unfold zig
    rw [if_pos h]
    omega
  · have e2 : IntKind.u64.wrap (i / 9223372036854775808) = 0 := by
      rw [IntKind.wrap_u64]; omega
    have e3 : BitVec.ofInt 64 0 = 0#64 := by decide
    rw [e2, e3, BitVec.xor_zero, BitVec.toNat_ofInt, IntKind.wrap_u64]
    unfold zig
    rw [if_neg h]
    omega
set_option maxRecDepth 100000 in
theorem wInt (i : Int) (F : Nat → Prop) (b : Nat) (l : List UInt8) (w : World) (h : WriterAt w F b l) (h0 : -9223372036854775808 ≤ i) (h1 : i ≤ 9223372036854775807) (hl : l.length ≤ 100000000000) :
    Calls Try.prog 28 #[.pointer (some ⟨b, 0, none⟩), .int .i64 i] w (Wrote w F b (l ++ encU (zig i))) := by
  have hu := wUint (zig i) F b l w h (zig_lt h0 h1) hl
  rw [← zig_bits i h0 h1] at hu
  have HU := Lib.hid hu; clear hu
  clear h
  go_enter Try.func28, Try.ntmps28
  go_wp2_with fail
  refine HU.out.mono ?_
  rintro e w2 ⟨rfl, h2, o2⟩
  have H2 := Lib.hid h2; have O2 := Lib.hid o2; clear h2 o2
  go_wp2
  go_ret
  exact ⟨rfl, H2.out, O2.out⟩
set_option maxRecDepth 100000 in
theorem wText (s : List UInt8) (F : Nat → Prop) (b : Nat) (l : List UInt8) (w : World) (h : WriterAt w F b l) (hs : s.length ≤ 1000000000) (hl : l.length ≤ 100000000000) :
    Calls Try.prog 18 #[.pointer (some ⟨b, 0, none⟩), .string ⟨s.toArray⟩] w (Wrote w F b (l ++ encT s)) := by
  have hu := wUint s.length F b l w h (by omega) hl
  have HU := Lib.hid hu; clear hu
  have hlen := encU_len10 (n := s.length) (by omega)
  have hsz : (⟨s.toArray⟩ : ByteArray).size = s.length := by simp [ByteArray.size]
  have hsl : (s.length : Int) ≤ 1000000000 := by omega
  have hsl0 : (0 : Int) ≤ (s.length : Int) := by omega
  clear h
  go_enter Try.func18, Try.ntmps18
  go_wp2_with fail
  refine HU.out.mono ?_
  rintro e w2 ⟨rfl, h2, o2⟩
  generalize hL1 : l ++ encU s.length = L1 at h2
  have hl1 : L1.length ≤ 100000000010 := by rw [← hL1, List.length_append]; omega
  obtain ⟨a, c, c0, fz, hb, how, hbl⟩ := h2.field
  have H2 := Lib.hid h2; have O2 := Lib.hid o2; have HOW := Lib.hid how; have HBL := Lib.hid hbl; have HL1 := Lib.hid hL1; have HLE := Lib.hid hl1; clear h2 o2 how hbl hL1 hl1
  go_wp2_with ((refine wpList_append8s (o := ⟨some 16, _, _, _, _, _⟩) rfl (.tmp 14) (.tmp 15) (by rfl) 0 _ L1 s (by rfl) (by rfl) HOW.out (by have := HLE.out; omega) (Nat.zero_le _) ?_; intro L a3 c3 w3 hL h3 g3; have hb3 : b < w3.heap.size := (by have e := g3.out.1.size; omega); have c3' : w3.cell? ⟨b, 0, none⟩ = some (.slice a L1.length c) := ((cell_only g3.out.1 (a := ⟨b, 0, none⟩) hb (fun hk => (HBL.out b hk).1 rfl)).trans c0); have f3' : w3.frozen? ⟨b, 0, none⟩ = false := ((frozen_only g3.out.1 (a := ⟨b, 0, none⟩) hb (fun hk => (HBL.out b hk).1 rfl)).trans fz)))
  go_ret
  have hp := H2.out.put c0 (Only.refl _ _) g3.out h3.out
  have e1 : L = l ++ encT s := by rw [hL.out, ← HL1.out, List.append_assoc]; rfl
  rw [← e1]
  exact ⟨rfl, hp.1.mono (fun k hk => hk.elim id (fun h => .inr (Nat.le_trans O2.out.size h))), O2.out.trans' hp.2 (fun k hk h => h.resolve_right (by omega))⟩
set_option maxRecDepth 100000 in
theorem wDone (F : Nat → Prop) (b : Nat) (l : List UInt8) (w : World) (h : WriterAt w F b l) (hl : l.length ≤ 100000000000) :
    Calls Try.prog 19 #[.pointer (some ⟨b, 0, none⟩)] w (Makes w l) := by
  obtain ⟨a, c, c0, fz, hb, how, hbl⟩ := h.field
  have hc := clone_any _ l w how.bytes (by omega)
  have HC := Lib.hid hc; clear hc how hbl h
  go_enter Try.func19, Try.ntmps19
  go_wp2_with fail
  refine HC.out.mono ?_
  rintro e w2 ⟨v2, rfl, h2, o2⟩
  have H2 := Lib.hid h2; have O2 := Lib.hid o2; clear h2 o2
  go_wp2
  go_ret
  exact ⟨_, rfl, H2.out, O2.out⟩
end Go.Proofs.Ytoojnpafcdaflaa
