/- Package link: texts read (untexts). -/
import Derived.Test.YtoojnpafcdaflaaLtx
namespace Go.Proofs.Ytoojnpafcdaflaa
open Go Go.RowKit
set_option linter.unusedVariables false
set_option linter.unusedSimpArgs false
set_option maxRecDepth 100000

theorem textP_pieces {w : World} {G : Nat → Prop} : ∀ (ks : List (List UInt8)), Pieces 1 TextP w G ks (ks.map strV)
  | [] => rfl
  | k :: ks => ⟨[strV k], ks.map strV, rfl, rfl, rfl, textP_pieces ks⟩
theorem box1 {w : World} {g : Nat} {c0 : Value} {T : TypeId} (h : w.heap[g]? = some (.cells #[c0] T (0, 0))) : w.cell? ⟨g, 0, none⟩ = some c0 := by simp [World.cell?, h]
def RKs (w : World) (b most long : Nat) (l : List UInt8) (β : Bool) (e : Ending) (w' : World) : Prop :=
  ∃ (ks : List (List UInt8)) (r : List UInt8) (β' : Bool) (a : Option Addr) (c : Nat), e = .returned (.slice a ks.length c) ∧ ks.length ≤ c ∧ c ≤ maxLen ∧ ListAt 1 TextP w' (fun q => w.heap.size ≤ q) a ks ∧ ks.length ≤ most ∧ (∀ s ∈ ks, s.length ≤ long) ∧ ReaderAt w' b r β' ∧ Only (fun k => k = b) w w' ∧
    (β' = false → β = false ∧ decQ most (decT long) l = some (ks, r)) ∧ (β' = true → β = true ∨ decQ most (decT long) l = none)
set_option maxHeartbeats 4000000 in
theorem untexts_any (b most long : Nat) (l : List UInt8) (β : Bool) (w : World) (h : ReaderAt w b l β) (hm : most ≤ 1000000) (hlo : long ≤ 1000000) :
    Calls Try.prog 74 #[.pointer (some ⟨b, 0, none⟩), .int .i64 most, .int .i64 long] w (RKs w b most long l β) := by
  have hbl := h.lt
  have hu := ruint_b b most l β w h (by omega)
  have hm0 : (0 : Int) ≤ (most : Int) := by omega
  have hm1 : (most : Int) ≤ 1000000 := by omega
  have hl0 : (0 : Int) ≤ (long : Int) := by omega
  have hl1 : (long : Int) ≤ 1000000 := by omega
  obtain ⟨Q, hQ⟩ : ∃ Q : Ending → World → Prop, Q = RKs w b most long l β := ⟨_, rfl⟩
  have hfin : ∀ (ks : List (List UInt8)) (r : List UInt8) (β' : Bool) (v : Value) (wr : World), wr.ownsRow w.heap.size 9 1 v ks.length (ks.map strV) → ks.length ≤ most → (∀ s ∈ ks, s.length ≤ long) → ReaderAt wr b r β' → Only (fun k => k = b) w wr → ((β' = false → β = false ∧ decQ most (decT long) l = some (ks, r)) ∧ (β' = true → β = true ∨ decQ most (decT long) l = none)) → Q (.returned v) wr := fun ks r β' v wr h1 h2 h3 h4 h5 h6 => by
    obtain ⟨a, c, rfl, g1, g2, g3⟩ := (textP_pieces (w := wr) (G := fun q => w.heap.size ≤ q) ks).list textP_weakens h1 (fun _ h => h)
    rw [hQ]
    exact ⟨ks, r, β', a, c, rfl, g1, g2, g3, h2, h3, h4, h5, h6.1, h6.2⟩
  rw [← hQ]
  have HU := Lib.hid hu; have HFIN := Lib.hid hfin; clear hu h hfin hQ
  go_enter Try.func74, Try.ntmps74
  go_wp2_with fail
  refine HU.out.mono ?_
  rintro e w2 ⟨x, r1, β1, rfl, hx, h2, o2, a1, a2⟩
  have hl0 := LRead.start (dec := decT long) a1 a2
  have H2 := Lib.hid h2; have O2 := Lib.hid o2; have HL0 := Lib.hid hl0; clear a1 a2 h2 o2 hl0
  go_wp2_with fail
  go_loopw [7, 8] (fun v n wr => ∃ (m : Nat) (ks : List (List UInt8)) (r : List UInt8) (β' : Bool), n = .int .u64 (m : Int) ∧ ks.length + m ≤ most ∧ Hid (wr.ownsRow w.heap.size 9 1 v ks.length (ks.map strV)) ∧ Hid (∀ s ∈ ks, s.length ≤ long) ∧ Hid (ReaderAt wr b r β') ∧ Hid (Only (fun k => k = b) w wr) ∧ Hid (LRead most (decT long) l β ks r m β')) (fun _ n _ => (intOf n).toNat)
  case atStart => exact ⟨x, [], r1, β1, rfl, by simpa using hx, Lib.hid (own_nil _ _ _ _), Lib.hid (fun s hs => by cases hs), H2, O2, HL0⟩
  case round =>
    obtain ⟨m, ks, r, β', rfl, hkm, HOW, HSH, HRD, HO, HLR⟩ := hrel
    have hm2 : (0 : Int) ≤ (m : Int) := by omega
    have hm3 : (m : Int) ≤ 1000000 := by omega
    have hkb : ks.length ≤ 1000000 := by omega
    have hkm2 : ks.length ≤ most := by omega
    have HKB := Lib.hid hkb; have HKM := Lib.hid hkm2; clear hkb hkm2
    by_cases hp : 0 < m
    · have t1 : decide ((0 : Int) < (m : Int)) = true := by simp; omega
      have t2 : decide (0 < m) = true := by simpa using hp
      obtain ⟨m', rfl⟩ : ∃ m', m = m' + 1 := ⟨m - 1, by omega⟩
      cases β' with
      | true =>
        have HZ := Lib.hid (HFIN.out ks r true _ wr HOW.out HKM.out HSH.out HRD.out HO.out HLR.out.stop)
        go_wp2_with fail
        refine (bad_any b r true wr HRD.out).mono ?_
        rintro e w9 ⟨rfl, rfl⟩
        go_wp2_with fail
        exact HZ.out
      | false =>
        have ht := rtext_b b long r false wr HRD.out (by omega)
        have HT := Lib.hid ht; clear ht
        go_wp2_with fail
        refine (bad_any b r false wr HRD.out).mono ?_
        rintro e w9 ⟨rfl, rfl⟩
        go_wp2_with fail
        refine HT.out.mono ?_
        rintro e w3 ⟨s, r3, β3, rfl, hs3, h3, o3, k1, k2⟩
        have hnx := HLR.out.next (x := s) (r' := r3) (β' := β3) (fun hb => (k1 hb).2) (fun hb => (k2 hb).2.resolve_left (by simp))
        have hsa : ∀ q ∈ ks ++ [s], q.length ≤ long := fun q hq => by
          rcases List.mem_append.1 hq with h | h
          · exact HSH.out q h
          · simp at h; subst h; exact hs3
        have how3 := own_only' HOW.out o3 (fun k hk e => by have := (own_form HOW.out).choose_spec.choose_spec.2.2.2 k hk; omega)
        have hwo := HO.out.trans o3
        have hal := heap_new w3 (.cells #[.string ⟨s.toArray⟩] 9)
        have oal := (Only.refl (fun _ => False) w3).alloc (.cells #[.string ⟨s.toArray⟩] 9)
        have how4 := own_only' how3 oal (fun _ _ h => h)
        have hrd4 := h3.still oal
        have hwo4 := hwo.trans' oal (fun _ _ h => h.elim)
        have hsz3 := hwo.size
        have hc0 : (w3.alloc (.cells #[.string ⟨s.toArray⟩] 9)).cell? ⟨w3.heap.size, 0, none⟩ = some (strV s) := box1 hal
        have hys : ∀ j u, [strV s][j]? = some u → (w3.alloc (.cells #[.string ⟨s.toArray⟩] 9)).cell? ((⟨w3.heap.size, 0, none⟩ : Addr).add j) = some u := fun j u hu => by
          cases j with
          | zero => simp at hu; subst hu; rw [addr_add]; exact hc0
          | succ j => simp at hu
        have hsz4 : w.heap.size ≤ (w3.alloc (.cells #[.string ⟨s.toArray⟩] 9)).heap.size := hwo4.size
        have hblk := fun k hk => (own_form how4).choose_spec.choose_spec.2.2.2 k hk
        have HNX := Lib.hid hnx; have HSA := Lib.hid hsa; have HOW4 := Lib.hid how4; have HRD4 := Lib.hid hrd4; have HWO4 := Lib.hid hwo4; have HYS := Lib.hid hys; have HSZ4 := Lib.hid hsz4; have HBLK := Lib.hid hblk
        clear hnx hsa how3 hwo hal oal how4 hrd4 hwo4 hsz3 hc0 hys hsz4 hblk k1 k2 h3 o3 HT HLR HOW hs3
        go_wp2_with ((refine wpList_append_own2 (o := ⟨some 27, _, _, _, _, _⟩) rfl (.tmp 22) (.tmp 26) 32 9 (by rfl) Try.underlying32 infoStr rfl (by decide) w.heap.size _ ks.length 1 1 (ks.map strV) [strV s] ⟨w3.heap.size, 0, none⟩ (by rfl) (by rfl) HOW4.out (by rfl) HYS.out (by simp [strV, Value.oneCell']) (by have := HKB.out; unfold maxLen; omega) (by have := HKB.out; omega) HSZ4.out ?_; intro v' w5 q1 q2 q3))
        have hq1 : w5.ownsRow w.heap.size 9 1 v' (ks ++ [s]).length ((ks ++ [s]).map strV) := by
          rw [List.length_append, List.length_singleton, List.map_append]; exact q1
        have hrd5 := HRD4.out.past q2 (fun k hk => by have := HBLK.out k hk; omega)
        have hwo5 := HWO4.out.trans' q2 (fun k hk e => by have := HBLK.out k e; omega)
        have HQ1 := Lib.hid hq1; have HRD5 := Lib.hid hrd5; have HWO5 := Lib.hid hwo5; clear hq1 hrd5 hwo5 q1 q2 q3
        go_wp2_with fail
        go_roundw
        case rel => exact ⟨m', ks ++ [s], r3, β3, by simp [go_sem], by rw [List.length_append, List.length_singleton]; omega, HQ1, HSA, HRD5, HWO5, HNX⟩
        case measure => simp [intOf]
    · have t1 : decide ((0 : Int) < (m : Int)) = false := by simp; omega
      have t2 : decide (0 < m) = false := by simpa using hp
      obtain rfl : m = 0 := by omega
      have HZ := Lib.hid (HFIN.out ks r β' _ wr HOW.out HKM.out HSH.out HRD.out HO.out HLR.out.done)
      go_wp2_with fail
      exact HZ.out
end Go.Proofs.Ytoojnpafcdaflaa
