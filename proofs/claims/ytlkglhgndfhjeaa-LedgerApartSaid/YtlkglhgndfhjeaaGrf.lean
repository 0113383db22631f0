/- The reference of the ledger (columbaryref02): Need, Same. -/
import Derived.Test.YtlkglhgndfhjeaaGop
namespace Go.Proofs.Ytlkglhgndfhjeaa
open Go Go.RowKit
set_option linter.unusedVariables false
set_option linter.unusedSimpArgs false
set_option maxRecDepth 100000

/-- Strings in a row. -/
def StrsAt (w : World) (G : Nat → Prop) (a : Option Addr) (rs : List (List UInt8)) : Prop := 0 < rs.length → ∃ b off, a = some ⟨b, off, none⟩ ∧ G b ∧ b < w.heap.size ∧ w.rangeAt b off (rs.map strR)
theorem StrsAt.only {S G : Nat → Prop} {w w' : World} {a : Option Addr} {rs : List (List UInt8)} (h : StrsAt w G a rs) (ho : Only S w w') (hS : ∀ k, G k → ¬ S k) : StrsAt w' G a rs := fun hp => by
  obtain ⟨b, off, e, hg, hb, hr⟩ := h hp
  exact ⟨b, off, e, hg, Nat.lt_of_lt_of_le hb ho.size, range_only hr hb ho (hS b hg)⟩
theorem StrsAt.weaken {G G' : Nat → Prop} {w : World} {a : Option Addr} {rs : List (List UInt8)} (h : StrsAt w G a rs) (hG : ∀ q, q < w.heap.size → G q → G' q) : StrsAt w G' a rs := fun hp => by
  obtain ⟨b, off, e, hg, hb, hr⟩ := h hp
  exact ⟨b, off, e, hG b hb hg, hb, hr⟩
theorem StrsAt.cell {G : Nat → Prop} {w : World} {a : Option Addr} {rs : List (List UInt8)} (h : StrsAt w G a rs) {i : Nat} (hi : i < rs.length) : ∃ b off, a = some ⟨b, off, none⟩ ∧ b < w.heap.size ∧ w.cell? ⟨b, off + i, none⟩ = some (.string ⟨rs[i].toArray⟩) := by
  obtain ⟨b, off, e, hg, hb, hr⟩ := h (by omega)
  exact ⟨b, off, e, hb, hr i (strR rs[i]) (by simp [hi])⟩
/-- A Kept as a value: its snapshot, its records. -/
def KeptV (w : World) (G : Nat → Prop) (v : Value) (s : List UInt8) (rs : List (List UInt8)) : Prop := ∃ a c, v = .agg #[strR s, .slice a rs.length c] ∧ rs.length ≤ c ∧ c ≤ maxLen ∧ StrsAt w G a rs
theorem KeptV.only {S G : Nat → Prop} {w w' : World} {v : Value} {s : List UInt8} {rs : List (List UInt8)} (h : KeptV w G v s rs) (ho : Only S w w') (hS : ∀ k, G k → ¬ S k) : KeptV w' G v s rs := by
  obtain ⟨a, c, e, h1, h2, h3⟩ := h
  exact ⟨a, c, e, h1, h2, h3.only ho hS⟩
theorem KeptV.weaken {G G' : Nat → Prop} {w : World} {v : Value} {s : List UInt8} {rs : List (List UInt8)} (h : KeptV w G v s rs) (hG : ∀ q, q < w.heap.size → G q → G' q) : KeptV w G' v s rs := by
  obtain ⟨a, c, e, h1, h2, h3⟩ := h
  exact ⟨a, c, e, h1, h2, h3.weaken hG⟩
theorem KeptV.still {G : Nat → Prop} {w w' : World} {v : Value} {s : List UInt8} {rs : List (List UInt8)} (h : KeptV w G v s rs) (ho : Only (fun _ => False) w w') : KeptV w' G v s rs := h.only ho (fun _ _ h => h)
theorem cell2 {w : World} {b : Nat} {u v : Value} {e : TypeId} (h : w.heap[b]? = some (.cells #[u, v] e (0, 0))) : w.cell? ⟨b, 0, none⟩ = some u ∧ w.cell? ⟨b, 1, none⟩ = some v ∧ (∀ o, w.frozen? ⟨b, o, none⟩ = false) ∧ b < w.heap.size := by
  refine ⟨by simp [World.cell?, h], by simp [World.cell?, h], fun o => by simp [World.frozen?, h], (Array.getElem?_eq_some_iff.1 h).1⟩
theorem sizes_le_len (ys : List (List UInt8)) : ys.length ≤ sizes ys := by
  induction ys with
  | nil => exact Nat.zero_le _
  | cons y ys ih => simp only [sizes, List.length_cons]; omega
theorem sizes_cat : ∀ (a b : List (List UInt8)), sizes (a ++ b) = sizes a + sizes b
  | [], b => by simp [sizes]
  | y :: a, b => by simp only [List.cons_append, sizes, sizes_cat a b]; omega
set_option maxHeartbeats 2000000 in
theorem need_k (G : Nat → Prop) (v : Value) (s : List UInt8) (rs : List (List UInt8)) (w : World) (h : KeptV w G v s rs) (hsz : sizes (s :: rs) ≤ 100000000) :
    Calls Try.prog 45 #[v] w fun e w' => e = .returned (.int .i64 (sizes (s :: rs) : Int)) ∧ Only (fun _ => False) w w' := by
  obtain ⟨a, c, rfl, h1, h2, h3⟩ := h
  have hl := sizes_le_len (s :: rs)
  have hs8 : s.length + 8 + sizes rs ≤ 100000000 := hsz
  have hs0 : (⟨s.toArray⟩ : ByteArray).size = s.length := by simp [ByteArray.size]
  have hsl : (s.length : Int) ≤ 100000000 := by omega
  have hrl : (rs.length : Int) ≤ 100000000 := by have := sizes_le_len rs; omega
  have hnew := heap_new w (.cells #[strR s, .slice a rs.length c] 68)
  have ho := (Only.refl (fun _ => False) w).alloc (.cells #[strR s, .slice a rs.length c] 68)
  have h3' := h3.only ho (fun _ _ h => h)
  obtain ⟨x0, x1, xz, xl⟩ := cell2 hnew
  have HO := Lib.hid ho; have H3 := Lib.hid h3'; have HSZ := Lib.hid hs8; have X1 := Lib.hid x1
  obtain ⟨W, hW⟩ : ∃ W, W = w.alloc (.cells #[strR s, .slice a rs.length c] 68) := ⟨_, rfl⟩
  have HW := Lib.hid hW
  clear hnew ho h3 h3' x0 x1 xz xl hl hW hsz hs8
  unfold strR at *
  go_enter Try.func45, Try.ntmps45
  go_wp2_with fail
  rw [← HW.out]
  have HO' := HO.out; have H3' := H3.out; have X1' := X1.out
  rw [← HW.out] at HO' H3' X1'
  have HOW := Lib.hid HO'; have H3W := Lib.hid H3'
  clear HO' H3' HO H3 X1 HW
  go_loop [3, 4] (fun v3 v4 => ∃ k n : Nat, v4 = .int .i64 (k : Int) ∧ k ≤ rs.length ∧ v3 = .int .i64 (n : Int) ∧ Hid (n = s.length + 8 + sizes (rs.take k)) ∧ n ≤ 100000000) (fun _ v => rs.length - (intOf v).toNat)
  case atStart => exact ⟨0, s.length + 8, by simp, by omega, by first | rfl | simp, Lib.hid (by simp [sizes]), by have := HSZ.out; omega⟩
  case round =>
    obtain ⟨k, n, rfl, hk, rfl, HN, hn⟩ := hrel
    by_cases hlt : k < rs.length
    · have t1 : decide ((k : Int) < (rs.length : Int)) = true := by simpa using hlt
      obtain ⟨b, off, rfl, hb, hc⟩ := H3W.out.cell hlt
      have hsz : (⟨rs[k].toArray⟩ : ByteArray).size = rs[k].length := by simp [ByteArray.size]
      have hgl := sizes_get rs k hlt
      have hnx : n + (rs[k].length + 8) = s.length + 8 + sizes (rs.take (k + 1)) := by
        rw [List.take_succ_eq_append_getElem hlt, sizes_snoc, HN.out]; omega
      have htl := sizes_take rs (k + 1)
      have hb2 : n + (rs[k].length + 8) ≤ 100000000 := by have := HSZ.out; omega
      have HNX := Lib.hid hnx
      clear hnx htl
      generalize rs[k] = r at *
      have hr0 : (r.length : Int) ≤ 100000000 := by omega
      have hk0 : (0 : Int) ≤ (k : Int) := by omega
      have hk1 : (k : Int) < (rs.length : Int) := by omega
      have hn0 : (n : Int) ≤ 100000000 := by omega
      go_wp2_with fail
      go_round
      case rel => exact ⟨k + 1, n + (r.length + 8), by simp [go_sem], by omega, by go_num, HNX, hb2⟩
      case measure => simp [intOf]; omega
    · have t1 : decide ((k : Int) < (rs.length : Int)) = false := by simp; omega
      obtain rfl : k = rs.length := by omega
      have hfin := HN.out
      rw [List.take_length] at hfin
      have HF := Lib.hid hfin; clear hfin
      go_wp2_with fail
      go_ret
      exact ⟨by rw [show sizes (s :: rs) = n from HF.out.symm]; rfl, HOW.out⟩
set_option maxHeartbeats 2000000 in
theorem same_true (G G' : Nat → Prop) (v u : Value) (s : List UInt8) (rs : List (List UInt8)) (w : World) (h : KeptV w G v s rs) (h' : KeptV w G' u s rs) (hl : rs.length ≤ 100000000) :
    Calls Try.prog 38 #[v, u] w fun e w' => e = .returned (.bool true) ∧ Only (fun _ => False) w w' := by
  obtain ⟨a, c, rfl, h1, h2, h3⟩ := h
  obtain ⟨a', c', rfl, h1', h2', h3'⟩ := h'
  have ho1 := (Only.refl (fun _ => False) w).alloc (.cells #[strR s, .slice a rs.length c] 68)
  have ho2 := ho1.alloc (.cells #[strR s, .slice a' rs.length c'] 68)
  have hn1 := heap_old (heap_new w (.cells #[strR s, .slice a rs.length c] 68)) (.cells #[strR s, .slice a' rs.length c'] 68)
  have hn2 := heap_new (w.alloc (.cells #[strR s, .slice a rs.length c] 68)) (.cells #[strR s, .slice a' rs.length c'] 68)
  have e2 : (w.alloc (.cells #[strR s, .slice a rs.length c] 68)).heap.size = w.heap.size + 1 := by simp
  rw [e2] at hn2
  obtain ⟨W, hW⟩ : ∃ W, W = (w.alloc (.cells #[strR s, .slice a rs.length c] 68)).alloc (.cells #[strR s, .slice a' rs.length c'] 68) := ⟨_, rfl⟩
  rw [← hW] at ho2 hn1 hn2
  obtain ⟨x0, x1, _, _⟩ := cell2 hn1
  obtain ⟨y0, y1, _, _⟩ := cell2 hn2
  have H3 := Lib.hid (h3.only ho2 (fun _ _ h => h)); have H3' := Lib.hid (h3'.only ho2 (fun _ _ h => h)); have HO := Lib.hid ho2; have HW := Lib.hid hW
  have hrl : (rs.length : Int) ≤ 100000000 := by omega
  have X1 := Lib.hid x1; have Y1 := Lib.hid y1
  clear hn1 hn2 ho1 ho2 h3 h3' hW e2 x0 x1 y0 y1
  unfold strR at *
  go_enter Try.func38, Try.ntmps38
  go_wp2_with fail
  rw [← HW.out]
  have x1 := X1.out; have y1 := Y1.out
  clear X1 Y1
  go_loopw [5] (fun v5 wr => ∃ (k : Nat), v5 = .int .i64 (k : Int) ∧ k ≤ rs.length ∧ Hid (∃ n, wr = W.drewN n)) (fun v _ => rs.length - (intOf v).toNat)
  case atStart => exact ⟨0, by simp, by omega, Lib.hid ⟨0, rfl⟩⟩
  case round =>
    obtain ⟨k, rfl, hk, HD⟩ := hrel
    obtain ⟨n, rfl⟩ := HD.out
    clear HD
    by_cases hlt : k < rs.length
    · have t1 : decide ((k : Int) < (rs.length : Int)) = true := by simpa using hlt
      obtain ⟨b, off, rfl, hb, hc⟩ := H3.out.cell hlt
      obtain ⟨b', off', rfl, hb', hc'⟩ := H3'.out.cell hlt
      generalize rs[k] = r at *
      have hk0 : (0 : Int) ≤ (k : Int) := by omega
      have hk1 : (k : Int) < (rs.length : Int) := by omega
      go_upto_region 6 with (fail)
      obtain ⟨W2, hW2⟩ : ∃ W2, W2 = W.drewN n := ⟨_, rfl⟩
      rw [← hW2]
      have x1' : W2.cell? ⟨w.heap.size, 1, none⟩ = some (.slice (some ⟨b, off, none⟩) rs.length c) := by rw [hW2]; exact x1
      have y1' : W2.cell? ⟨w.heap.size + 1, 1, none⟩ = some (.slice (some ⟨b', off', none⟩) rs.length c') := by rw [hW2]; exact y1
      have c1' : W2.cell? ⟨b, off + k, none⟩ = some (.string ⟨r.toArray⟩) := by rw [hW2]; exact hc
      have c2' : W2.cell? ⟨b', off' + k, none⟩ = some (.string ⟨r.toArray⟩) := by rw [hW2]; exact hc'
      have HW2 := Lib.hid hW2; clear hW2
      go_quiet (fail)
      have hdd : ∃ n', W2.drewN nq = W.drewN n' := ⟨n + nq, by rw [HW2.out, World.drewN_drewN]⟩
      have HDD := Lib.hid hdd; clear hdd x1' y1' c1' c2'
      go_wp2_with fail
      go_roundw
      case rel => exact ⟨k + 1, by simp [go_sem], by omega, HDD⟩
      case measure => simp [intOf]; omega
    · have t1 : decide ((k : Int) < (rs.length : Int)) = false := by simp; omega
      go_wp2_with fail
      go_ret
      exact ⟨rfl, HO.out.drewN n⟩
end Go.Proofs.Ytlkglhgndfhjeaa
