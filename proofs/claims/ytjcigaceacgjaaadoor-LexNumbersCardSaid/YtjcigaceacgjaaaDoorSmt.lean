/- Rows of tokens in memory; the law's same; the law's example. -/
import Derived.Test.YtjcigaceacgjaaaDoorRtks
import Derived.Deep.QuietTactic
import Derived.BigQuiet
namespace Go.Proofs.YtjcigaceacgjaaaDoor
open Go Go.RowKit
set_option linter.unusedVariables false
set_option linter.unusedSimpArgs false

/-- The tokens ts lie where v says. -/
def TRow (w : World) (v : Value) (ts : List Tok) : Prop :=
  (v = .slice none 0 0 ∧ ts = []) ∨ ∃ g off c, v = .slice (some ⟨g, off, none⟩) ts.length c ∧ ts.length ≤ c ∧ c ≤ maxLen ∧ g < w.heap.size ∧ w.rangeAt g off (toksC ts)
theorem toksC_get : ∀ (ts : List Tok) (i : Nat) (h : i < ts.length) (j : Nat) (v : Value), (tokC ts[i])[j]? = some v → (toksC ts)[i * 4 + j]? = some v
  | [], i, h, _, _, _ => absurd h (by simp)
  | t :: ts, 0, h, j, v, hj => by
    show (tokC t ++ toksC ts)[0 * 4 + j]? = some v
    have hl : j < (tokC t).length := by
      rcases Nat.lt_or_ge j (tokC t).length with h | h
      · exact h
      · rw [List.getElem?_eq_none (by simpa using h)] at hj; cases hj
    rw [Nat.zero_mul, Nat.zero_add, List.getElem?_append_left hl]
    exact hj
  | t :: ts, i + 1, h, j, v, hj => by
    show (tokC t ++ toksC ts)[(i + 1) * 4 + j]? = some v
    have h4 : (tokC t).length = 4 := rfl
    rw [List.getElem?_append_right (by omega), h4, show (i + 1) * 4 + j - 4 = i * 4 + j from by omega]
    exact toksC_get ts i (by simpa using h) j v hj
theorem TRow.at_ {w : World} {v : Value} {ts : List Tok} (h : TRow w v ts) {i : Nat} (hi : i < ts.length) : ∃ g off c, v = .slice (some ⟨g, off, none⟩) ts.length c ∧ ts.length ≤ c ∧ c ≤ maxLen ∧ g < w.heap.size ∧
    ∀ i (hi : i < ts.length), w.cell? ⟨g, off + i * 4, none⟩ = some (.int .u8 (ts[i].kind : Int)) ∧ w.cell? ⟨g, off + i * 4 + 1, none⟩ = some (.string ⟨ts[i].text.toArray⟩) ∧ w.cell? ⟨g, off + i * 4 + 2, none⟩ = some (.int .i64 ts[i].n) ∧ w.cell? ⟨g, off + i * 4 + 3, none⟩ = some (.int .i64 (ts[i].at_ : Int)) := by
  rcases h with ⟨_, rfl⟩ | ⟨g, off, c, h1, h2, h3, h4, h5⟩
  · simp at hi
  · refine ⟨g, off, c, h1, h2, h3, h4, fun i hi => ⟨?_, ?_, ?_, ?_⟩⟩
    · exact h5 (i * 4) _ (by have := toksC_get ts i hi 0 _ rfl; simpa using this)
    · exact h5 (i * 4 + 1) _ (toksC_get ts i hi 1 _ rfl)
    · exact h5 (i * 4 + 2) _ (toksC_get ts i hi 2 _ rfl)
    · exact h5 (i * 4 + 3) _ (toksC_get ts i hi 3 _ rfl)
theorem TRow.of_own {w : World} {B : Nat} {E : TypeId} {v : Value} {ts : List Tok} (h : w.ownsRow B E 4 v ts.length (toksC ts)) (hn : 0 < ts.length) : TRow w v ts := by
  obtain ⟨g, c, hv, _, hg, hr⟩ := own_range h hn
  obtain ⟨a, c', hv', h1, h2, _⟩ := own_form h
  rw [hv] at hv'
  injection hv' with _ _ e
  exact .inr ⟨g, 0, c, hv, by omega, by omega, hg, hr⟩
theorem TRow.only {S : Nat → Prop} {w w' : World} {v : Value} {ts : List Tok} (h : TRow w v ts) (ho : Only S w w') (hS : ∀ a n c, v = .slice (some a) n c → ¬ S a.block) : TRow w' v ts := by
  rcases h with h | ⟨g, off, c, h1, h2, h3, h4, h5⟩
  · exact .inl h
  · refine .inr ⟨g, off, c, h1, h2, h3, Nat.lt_of_lt_of_le h4 ho.size, fun j u hu => ?_⟩
    have := h5 j u hu
    simp only [World.cell?] at this ⊢
    rw [ho.block g h4 (hS _ _ _ h1)]
    exact this
theorem TRow.still {w w' : World} {v : Value} {ts : List Tok} (h : TRow w v ts) (ho : Only (fun _ => False) w w') : TRow w' v ts := h.only ho (fun _ _ _ _ h => h)
/-- The tokens behind so many of them. -/
theorem TRow.drop {w : World} {a : Option Addr} {n c : Nat} {ts : List Tok} (h : TRow w (.slice a n c) ts) {k : Nat} (hk : k < ts.length) : ∃ g off, a = some ⟨g, off, none⟩ ∧ n = ts.length ∧ TRow w (.slice (some ⟨g, off + k * 4, none⟩) (ts.length - k) (c - k)) (ts.drop k) := by
  rcases h with ⟨_, rfl⟩ | ⟨g, off, c', h1, h2, h3, h4, h5⟩
  · simp at hk
  · injection h1 with e1 e2 e3
    subst e3
    refine ⟨g, off, e1, e2, .inr ⟨g, off + k * 4, c - k, by rw [List.length_drop], by rw [List.length_drop]; omega, by omega, h4, fun j u hu => ?_⟩⟩
    have e : toksC ts = toksC (ts.take k) ++ toksC (ts.drop k) := by rw [← toksC_app, List.take_append_drop]
    have := h5 (k * 4 + j) u (by
      have hl : (toksC (ts.take k)).length = k * 4 := by rw [toksC_len, List.length_take]; congr 1; omega
      rw [e, List.getElem?_append_right (by omega), hl, Nat.add_sub_cancel_left]; exact hu)
    rw [Nat.add_assoc]; exact this
theorem TRow.form {w : World} {v : Value} {ts : List Tok} (h : TRow w v ts) : ∃ a c, v = .slice a ts.length c := by
  rcases h with ⟨rfl, rfl⟩ | ⟨g, off, c, rfl, _⟩
  · exact ⟨none, 0, rfl⟩
  · exact ⟨_, _, rfl⟩
def Tok.up (n : Nat) (t : Tok) : Tok := ⟨t.kind, t.text, t.n, t.at_ + n⟩
set_option maxRecDepth 100000 in
set_option maxHeartbeats 4000000 in
theorem same_true (v u : Value) (us : List Tok) (n : Nat) (w : World) (hv : TRow w v (us.map (Tok.up n))) (hu : TRow w u us) (hat : ∀ t ∈ us, t.at_ ≤ 1000000) (hn : n ≤ 1000000) :
    Calls Tryd.prog 13 #[v, u, .int .i64 n] w fun e w' => e = .returned (.bool true) ∧ Only (fun _ => False) w w' := by
  by_cases h0 : us.length = 0
  · have : us = [] := List.eq_nil_of_length_eq_zero h0
    subst this
    obtain ⟨a1, c1, rfl⟩ := hv.form
    obtain ⟨a2, c2, rfl⟩ := hu.form
    clear hv hu hat h0
    simp only [List.map_nil, List.length_nil]
    go_enter Tryd.func13, Tryd.ntmps13
    go_wp2_with fail
    go_loopw [7] (fun x wr => x = .int .i64 0 ∧ wr = w) (fun _ _ => 0)
    case atStart => exact ⟨rfl, rfl⟩
    case round =>
      obtain ⟨rfl, rfl⟩ := hrel
      go_wp2_with fail
      go_ret
      exact ⟨ret_bool (by rfl), Only.refl _ _⟩
  have h1 : 0 < (us.map (Tok.up n)).length := by rw [List.length_map]; omega
  obtain ⟨g1, o1, c1, rfl, k1, k2, k3, HC1⟩ := hv.at_ h1
  obtain ⟨g2, o2, c2, rfl, k4, k5, k6, HC2⟩ := hu.at_ (i := 0) (by omega)
  rw [List.length_map] at k1 ⊢
  have H1 := Lib.hid HC1; have H2 := Lib.hid HC2; have HAT := Lib.hid hat
  clear hv hu HC1 HC2 h1 hat
  obtain ⟨N, hN⟩ : ∃ N, us.length = N := ⟨_, rfl⟩
  rw [hN] at k1 k4 h0 ⊢
  have HN := Lib.hid hN; clear hN
  unfold maxLen at k2 k5
  go_enter Tryd.func13, Tryd.ntmps13
  go_wp2_with fail
  go_loopw [7] (fun x wr => ∃ k : Nat, x = .int .i64 (k : Int) ∧ k ≤ N ∧ ∃ q, wr = w.drewN q) (fun x _ => N - (intOf x).toNat)
  case atStart => exact ⟨0, rfl, by omega, 0, rfl⟩
  case round =>
    obtain ⟨k, rfl, hk, q, rfl⟩ := hrel
    by_cases hlt : k < N
    · have t1 : decide ((k : Int) < (N : Int)) = true := decide_eq_true (by omega)
      have hk1 : k < (us.map (Tok.up n)).length := by rw [List.length_map, HN.out]; exact hlt
      have hk2 : k < us.length := by rw [HN.out]; exact hlt
      obtain ⟨a1, a2, a3, a4⟩ := H1.out k hk1
      obtain ⟨b1, b2, b3, b4⟩ := H2.out k hk2
      have hat := HAT.out us[k] (List.getElem_mem hk2)
      rw [List.getElem_map] at a1 a2 a3 a4
      simp only [Tok.up] at a1 a2 a3 a4
      generalize us[k] = t at *
      obtain ⟨kd, tx, nn, at_⟩ := t
      simp only at a1 a2 a3 a4 b1 b2 b3 b4 hat
      have hbk : (k : Int) < (N : Int) := by omega
      clear hk1 hk2
      go_wp2_with fail
      go_quiet (fail)
      clear a1 a2 a3 a4 b1 b2 b3 b4
      go_wp2_with fail
      go_roundw
      case rel => exact ⟨k + 1, by simp, by omega, q + nq, by simp [go_sem]⟩
      case measure => simp [intOf]; omega
    · have t1 : decide ((k : Int) < (N : Int)) = false := decide_eq_false (by omega)
      go_wp2_with fail
      go_ret
      exact ⟨ret_bool (by rfl), (Only.refl _ _).drewN _⟩
def exT : List UInt8 := [123, 97, 40, 98, 58, 45, 49, 41, 35, 120]
def exToks : List Tok := [⟨4, [123], 0, 0⟩, ⟨1, [97], 0, 1⟩, ⟨4, [40], 0, 2⟩, ⟨1, [98], 0, 3⟩, ⟨4, [58], 0, 4⟩, ⟨2, [45, 49], -1, 5⟩, ⟨4, [41], 0, 7⟩, ⟨0, [], 0, 10⟩]
theorem ex_toks : toks exT = .ok exToks := by rfl
set_option maxRecDepth 100000 in
set_option maxHeartbeats 4000000 in
theorem awake05 (w : World) : Calls Tryd.prog 10 #[] w fun e w' => e = .returned (.bool true) ∧ Only (fun _ => False) w w' := by
  have T := Lib.hid (tokens_any ⟨#[123, 97, 40, 98, 58, 45, 49, 41, 35, 120]⟩ w (by unfold maxLen; decide))
  have e : (⟨#[123, 97, 40, 98, 58, 45, 49, 41, 35, 120]⟩ : ByteArray).data.toList = exT := rfl
  rw [e, ex_toks] at T
  clear e
  go_enter Tryd.func10, Tryd.ntmps10
  go_wp2_with fail
  refine T.out.mono ?_
  rintro e w1 ⟨v, rfl, how, ho⟩
  have hr := TRow.of_own how (by decide)
  obtain ⟨g, off, c, rfl, h1, h2, h3, HC⟩ := hr.at_ (i := 0) (by decide)
  have n8 : exToks.length = 8 := rfl
  rw [n8] at h1 ⊢
  have a5 := HC 5 (by decide)
  have a7 := HC 7 (by decide)
  have HO := Lib.hid ho
  clear HC hr how ho T n8
  unfold maxLen at h2
  simp only [exToks, List.getElem_cons_succ, List.getElem_cons_zero] at a5 a7
  obtain ⟨p0, p1, p2, p3⟩ := a5
  obtain ⟨q0, q1, q2, q3⟩ := a7
  go_wp2_with fail
  clear p0 p1 p2 p3 q0 q1 q2 q3
  go_ret
  exact ⟨rfl, HO.out⟩
end Go.Proofs.YtjcigaceacgjaaaDoor
