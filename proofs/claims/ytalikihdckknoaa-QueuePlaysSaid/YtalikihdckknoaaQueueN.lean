/- columbarylaw04.QueueNumbers: the walk. -/
import Derived.Test.YtalikihdckknoaaQueueU
import Derived.Test.YtalikihdckknoaaQueueL
import Derived.Deep.Cut
import Derived.Deep.CutBlock
import Derived.Deep.QuietTactic
import Derived.BigQuiet
namespace Go.Proofs.Ytalikihdckknoaa
open Go Go.RowKit
set_option linter.unusedVariables false
set_option linter.unusedSimpArgs false

def sq (g n : Nat) : List Int := (List.range n).map fun i : Nat => (g : Int) + i + 1
theorem sq_len (g n : Nat) : (sq g n).length = n := by simp [sq]
theorem sq_snoc (g n : Nat) : sq g n ++ [((g : Int) + n + 1)] = sq g (n + 1) := by simp [sq, List.range_succ]
theorem sq_drop (g n d : Nat) : (sq g n).drop d = sq (g + d) (n - d) := by
  apply List.ext_getElem
  · simp [sq]
  · intro i h1 h2; simp [sq]; omega
theorem sq_at (g n k : Nat) (h : k < n) : (sq g n)[k]? = some ((g : Int) + k + 1) := by simp [sq, h]

/-- A row that the call owns: where it lies. -/
theorem own_at {w : World} {base : Nat} {e : TypeId} {v : Value} {n : Nat} {xs : List Value} (h : w.ownsRow base e 1 v n xs) (hn : 0 < n) :
    ∃ g cap, v = .slice (some ⟨g, 0, none⟩) n cap ∧ base ≤ g ∧ g < w.heap.size ∧ (∀ k x, xs[k]? = some x → w.cell? ⟨g, k, none⟩ = some x) ∧ ∀ k, w.frozen? ⟨g, k, none⟩ = false := by
  obtain ⟨h1, h2⟩ := h
  rcases h2 with ⟨rfl, h0⟩ | ⟨g, cap, cur, rfl, hg, hh, h3, h4, h5, rfl⟩
  · omega
  · refine ⟨g, cap, rfl, hg, (Array.getElem?_eq_some_iff.1 hh).1, ?_, ?_⟩
    · intro k x hx
      rw [List.getElem?_take] at hx
      split at hx
      · simpa [World.cell?, hh] using hx
      · cases hx
    · intro k; simp [World.frozen?, hh]
theorem own_nil {w : World} {base : Nat} {e : TypeId} {v : Value} {xs : List Value} (h : w.ownsRow base e 1 v 0 xs) : ∃ a cap, v = .slice a 0 cap := by
  obtain ⟨h1, h2⟩ := h
  rcases h2 with ⟨rfl, h0⟩ | ⟨g, cap, cur, rfl, _⟩
  · exact ⟨_, _, rfl⟩
  · exact ⟨_, _, rfl⟩

theorem own_slice {w : World} {base : Nat} {e : TypeId} {v : Value} {n : Nat} {xs : List Value} (h : w.ownsRow base e 1 v n xs) :
    ∃ a cap, v = .slice a n cap ∧ ∀ k, k < n → ∃ g, a = some ⟨g, 0, none⟩ ∧ base ≤ g ∧ g < w.heap.size ∧ ∀ x, xs[k]? = some x → w.cell? ⟨g, k, none⟩ = some x := by
  by_cases hn : 0 < n
  · obtain ⟨g, cap, rfl, h1, h2, h3, _⟩ := own_at h hn
    exact ⟨_, _, rfl, fun k hk => ⟨g, rfl, h1, h2, fun x hx => h3 k x hx⟩⟩
  · obtain rfl : n = 0 := by omega
    obtain ⟨a, cap, rfl⟩ := own_nil h
    exact ⟨_, _, rfl, fun k hk => by omega⟩
theorem cell_only {S : Nat → Prop} {w w' : World} (h : Only S w w') {a : Addr} (ha : a.block < w.heap.size) (hs : ¬ S a.block) : w'.cell? a = w.cell? a := by
  unfold World.cell?; rw [h.block _ ha hs]

set_option maxRecDepth 100000 in
set_option maxHeartbeats 1000000 in
theorem queueNumbers (a0 : Int) (a1 : Option Addr) (len1 cap1 : Nat) (z1 : List Int) (w : World) (w0 : (Lit.int .u8 a0).wf = true) (w1 : IsRow .u8 w a1 len1 cap1 z1) :
    Calls Try.prog 6 #[.int .u8 a0, .slice a1 len1 cap1] w fun e w' => e = .returned (.bool true) ∧ Below w.heap.size w w' := by
  have b0 : 0 ≤ a0 ∧ a0 ≤ 255 := by simp [Lit.wf, IntKind.min, IntKind.max, IntKind.signed, IntKind.bits] at w0; omega
  clear w0
  have hlen : len1 ≤ 9223372036854775807 := w1.len_le
  have HR := Lib.hid (fun k hk => w1.cell (k := k) hk); clear w1
  have hm : 0 ≤ a0 % 7 ∧ a0 % 7 < 7 := by omega
  go_enter Try.func6, Try.ntmps6
  go_wp2_with fail
  refine (q_awake _).mono ?_
  rintro e w1 ⟨rfl, hb1⟩
  go_wp2_with fail
  refine (QU.new_any 64 0 _ (by omega) (by omega)).mono ?_
  rintro e w2 ⟨b, c, rfl, hA, hb2, hgb, hgc⟩
  go_wp2
  go_loopw [7, 8] (fun nx i wr => ∃ g n k : Nat, k ≤ len1 ∧ k ≤ 60 ∧ n ≤ 64 ∧ g ≤ 8 * k ∧ i = .int .i64 k ∧ nx = .int .u64 ((g : Int) + n + 1) ∧ QU.At wr b c 64 g ((sq g n).map (Value.int .u64)) ∧ Only (fun k => k = b ∨ k = c) w2 wr) (fun nx i wr => 60 - (intOf i).toNat)
  case atStart => exact ⟨0, 0, 0, by omega, by omega, by omega, by omega, rfl, rfl, hA, Only.refl _ _⟩
  case round =>
    obtain ⟨g, n, k, hk1, hk2, hn, hg, rfl, rfl, hA, hO⟩ := hrel
    by_cases hlt : k < len1 ∧ k < 60
    · obtain ⟨hl1, hl2⟩ := hlt
      obtain ⟨bz, off, z, rfl, hbl, hc, hz1, hz2⟩ := HR.out k hl1
      have hd2 : decide ((k : Int) < 60) = true := by simp; omega
      go_wp2
      go_loopw [7, 9] (fun nx j wr => ∃ n j2 : Nat, j2 ≤ 7 ∧ n ≤ 64 ∧ j = .int .i64 j2 ∧ nx = .int .u64 ((g : Int) + n + 1) ∧ QU.At wr b c 64 g ((sq g n).map (Value.int .u64)) ∧ Only (fun k => k = b ∨ k = c) w2 wr) (fun nx j wr => 8 - (intOf j).toNat)
      case atStart => exact ⟨n, 0, by omega, by omega, rfl, rfl, hA, hO⟩
      case round =>
        clear hA hO hn
        obtain ⟨n, j, hj, hn, rfl, rfl, hA, hO⟩ := hrel
        by_cases hjl : (j : Int) < 1 + a0 % 7
        · by_cases hf : n < 64
          · go_wp2_with fail
            refine (QU.put_room _ b c 64 g _ _ hA (by rw [List.length_map, sq_len]; exact hf) (by omega) (by omega)).mono ?_
            rintro e w3 ⟨he, hA3, hO3⟩
            rw [List.length_map, sq_len] at he
            subst he
            rw [← List.map_singleton (f := Value.int .u64), ← List.map_append, sq_snoc] at hA3
            have HA := Lib.hid hA3; clear hA3
            go_wp2
            go_roundw
            case rel => exact ⟨n + 1, j + 1, by omega, by omega, by go_num, by first | rfl | go_num, HA.out, hO.trans (hO3.mono (fun _ _ h => .inr h))⟩
            case measure => simp [intOf]; omega
          · go_wp2_with fail
            refine (QU.put_full _ b c 64 g _ _ hA (by rw [List.length_map, sq_len]; omega)).mono ?_
            rintro e w3 ⟨rfl, rfl⟩
            go_wp2
            go_roundw
            case rel => exact ⟨n, j + 1, by omega, by omega, by go_num, rfl, hA, hO⟩
            case measure => simp [intOf]; omega
        · have HA := Lib.hid hA
          have hB : wr.cell? ⟨bz, off + k, none⟩ = some (.int .u8 z) := by rw [(hb1.trans ((hb2.mono hb1.size).trans (hO.below (by have := hb1.size; have := hb2.size; omega) (by intro k hk; have := hb1.size; omega)))).cell hbl]; exact hc
          clear hc
          have hzi : (k : Int) < len1 := by omega
          have hz9 : 0 ≤ z % 9 ∧ z % 9 < 9 := by omega
          go_wp2
          go_quiet ((go_at_call 26; exact Calls.quiet_of_same ((QU.gone_any _ _ _ _ _ _ (HA.out.only ((Only.refl (fun _ => False) _).drewN _) (by simp) (by simp))).mono fun e w' ⟨h1, h2⟩ => ⟨h1, h2.symm⟩)))
          go_wp2_with fail
          have hA1 := HA.out.only ((Only.refl (fun _ => False) wr).drewN nq) (by simp) (by simp)
          have hO1 := hO.drewN nq
          clear hA HA hB hO
          generalize wr.drewN nq = w3 at hA1 hO1 ⊢
          obtain ⟨d, hd⟩ : ∃ d : Nat, z % 9 = d := ⟨(z % 9).toNat, by omega⟩
          rw [hd]
          have hd8 : d ≤ 8 := by omega
          clear hz9 hd hz1 hz2
          have hlm : ((sq g n).map (Value.int .u64)).length = n := by rw [List.length_map, sq_len]
          by_cases hdn : d ≤ n
          · refine (QU.drop_ok b c 64 g _ _ _ hA1 (by omega) (by omega) (by omega) (by omega)).mono ?_
            rintro e w4 ⟨rfl, hA4, hO4⟩
            rw [show ((g : Int) + d - g).toNat = d from by omega] at *
            rw [← List.map_drop, sq_drop] at hA4
            have hbool : (decide ((g : Int) + d < g + n + 1)) = true := by simp; omega
            obtain ⟨g2, n2, hg2, hn2, hgn, hA5⟩ : ∃ g2 n2 : Nat, g2 ≤ g + 8 ∧ n2 ≤ 64 ∧ g2 + n2 = g + n ∧ QU.At w4 b c 64 g2 ((sq g2 n2).map (Value.int .u64)) := ⟨g + d, n - d, by omega, by omega, by omega, hA4⟩
            clear hA4
            have hO5 := hO1.trans hO4
            have HH := Lib.hid (And.intro hA5 (And.intro hO5 hgn)); clear hA5 hO5 hgn hA1 hO1 hO4 hlm
            go_wp2_with fail
            refine (QU.all_any b c 64 g2 _ _ HH.out.1 (by rw [sq_len]; exact hn2) (by omega) HH.out.1.lt.1 HH.out.1.lt.2).mono ?_
            rintro e w6 ⟨v, rfl, hA6, hown, hO6⟩
            rw [sq_len] at hown
            obtain ⟨av, capv, rfl, hcells⟩ := own_slice hown
            have HC := Lib.hid hcells; have HA6 := Lib.hid hA6; have HO6 := Lib.hid hO6; clear hcells hown hA6 hO6
            go_wp2
            go_loopw [16] (fun i wr => ∃ m : Nat, m ≤ n2 ∧ i = .int .i64 m ∧ Only (fun _ => False) w6 wr) (fun i wr => n2 - (intOf i).toNat)
            case atStart => exact ⟨0, by omega, rfl, Only.refl _ _⟩
            case round =>
              obtain ⟨m, hm, rfl, hO7⟩ := hrel
              by_cases hmn : m < n2
              · obtain ⟨gb, rfl, hgb1, hgb2, hcell⟩ := HC.out m hmn
                have hcm : wr.cell? ⟨gb, m, none⟩ = some (.int .u64 ((g2 : Int) + m + 1)) := by
                  rw [cell_only hO7 hgb2 (fun h => h)]; exact hcell _ (by rw [List.getElem?_map, sq_at _ _ _ hmn]; rfl)
                clear hcell
                have hmi : (m : Int) < n2 := by omega
                have HA7 := Lib.hid (HA6.out.only hO7 (fun h => h) (fun h => h))
                go_wp2
                go_quiet ((go_at_call 26; exact Calls.quiet_of_same ((QU.gone_any _ _ _ _ _ _ (HA7.out.only ((Only.refl (fun _ => False) _).drewN _) (by simp) (by simp))).mono fun e w' ⟨h1, h2⟩ => ⟨h1, h2.symm⟩)))
                go_wp2
                go_roundw
                case rel => exact ⟨m + 1, by omega, by go_num, hO7.drewN _⟩
                case measure => simp [intOf]; omega
              · obtain rfl : m = n2 := by omega
                go_wp2
                go_roundw
                case rel => exact ⟨g2, m, k + 1, by omega, by omega, by omega, by omega, by go_num, by have := HH.out.2.2; congr 1; omega, HA6.out.only hO7 (fun h => h) (fun h => h), HH.out.2.1.trans ((HO6.out.mono (fun _ _ h => .inr h)).trans (hO7.mono (fun _ _ h => h.elim)))⟩
                case measure => simp [intOf]; omega
          · refine (QU.drop_arg b c 64 g _ _ _ hA1 (by omega) (by omega) (by omega)).mono ?_
            rintro e w4 ⟨rfl, hA4, hO4⟩
            have hbool : (decide ((g : Int) + d < g + n + 1)) = false := by simp; omega
            obtain ⟨g2, n2, hg2, hn2, hgn, hA5⟩ : ∃ g2 n2 : Nat, g2 ≤ g + 8 ∧ n2 ≤ 64 ∧ g2 + n2 = g + n ∧ QU.At w4 b c 64 g2 ((sq g2 n2).map (Value.int .u64)) := ⟨g, n, by omega, by omega, by omega, hA4⟩
            clear hA4
            have hO5 := hO1.trans (hO4.mono (fun _ _ h => h.elim))
            have HH := Lib.hid (And.intro hA5 (And.intro hO5 hgn)); clear hA5 hO5 hgn hA1 hO1 hO4 hlm
            go_wp2_with fail
            refine (QU.all_any b c 64 g2 _ _ HH.out.1 (by rw [sq_len]; exact hn2) (by omega) HH.out.1.lt.1 HH.out.1.lt.2).mono ?_
            rintro e w6 ⟨v, rfl, hA6, hown, hO6⟩
            rw [sq_len] at hown
            obtain ⟨av, capv, rfl, hcells⟩ := own_slice hown
            have HC := Lib.hid hcells; have HA6 := Lib.hid hA6; have HO6 := Lib.hid hO6; clear hcells hown hA6 hO6
            go_wp2
            go_loopw [16] (fun i wr => ∃ m : Nat, m ≤ n2 ∧ i = .int .i64 m ∧ Only (fun _ => False) w6 wr) (fun i wr => n2 - (intOf i).toNat)
            case atStart => exact ⟨0, by omega, rfl, Only.refl _ _⟩
            case round =>
              obtain ⟨m, hm, rfl, hO7⟩ := hrel
              by_cases hmn : m < n2
              · obtain ⟨gb, rfl, hgb1, hgb2, hcell⟩ := HC.out m hmn
                have hcm : wr.cell? ⟨gb, m, none⟩ = some (.int .u64 ((g2 : Int) + m + 1)) := by
                  rw [cell_only hO7 hgb2 (fun h => h)]; exact hcell _ (by rw [List.getElem?_map, sq_at _ _ _ hmn]; rfl)
                clear hcell
                have hmi : (m : Int) < n2 := by omega
                have HA7 := Lib.hid (HA6.out.only hO7 (fun h => h) (fun h => h))
                go_wp2
                go_quiet ((go_at_call 26; exact Calls.quiet_of_same ((QU.gone_any _ _ _ _ _ _ (HA7.out.only ((Only.refl (fun _ => False) _).drewN _) (by simp) (by simp))).mono fun e w' ⟨h1, h2⟩ => ⟨h1, h2.symm⟩)))
                go_wp2
                go_roundw
                case rel => exact ⟨m + 1, by omega, by go_num, hO7.drewN _⟩
                case measure => simp [intOf]; omega
              · obtain rfl : m = n2 := by omega
                go_wp2
                go_roundw
                case rel => exact ⟨g2, m, k + 1, by omega, by omega, by omega, by omega, by go_num, by have := HH.out.2.2; congr 1; omega, HA6.out.only hO7 (fun h => h) (fun h => h), HH.out.2.1.trans ((HO6.out.mono (fun _ _ h => .inr h)).trans (hO7.mono (fun _ _ h => h.elim)))⟩
                case measure => simp [intOf]; omega
    · have hd : ¬ k < len1 ∨ ¬ k < 60 := by omega
      by_cases hl1 : k < len1 <;> by_cases hl2 : k < 60
      all_goals first | (exfalso; omega) | skip
      all_goals
        go_wp2
        go_ret
        exact ⟨rfl, hb1.trans ((hb2.mono hb1.size).trans (hO.below (by have := hb1.size; have := hb2.size; omega) (by intro k hk; have := hb1.size; omega)))⟩
end Go.Proofs.Ytalikihdckknoaa
