/- Package wire: the reader's Text. -/
import Derived.Test.YtoojnpafcdaflaaRdt
namespace Go.Proofs.Ytoojnpafcdaflaa
open Go Go.RowKit
set_option linter.unusedVariables false
set_option linter.unusedSimpArgs false

theorem bytes_pre {w : World} {a : Option Addr} {n c m : Nat} {l : List UInt8} (h : Bytes w (.slice a n c) l) (hm : m ≤ l.length) : Bytes w (.slice a m c) (l.take m) := by
  obtain ⟨a', c', e, h1, h2, h3⟩ := h
  cases e
  have hl : (l.take m).length = m := by rw [List.length_take]; omega
  refine ⟨_, _, by rw [hl], by omega, h2, fun hp => ?_⟩
  obtain ⟨b, off, rfl, hb, hr⟩ := h3 (by omega)
  exact ⟨b, off, rfl, hb, fun j v hv => hr j v (by
    rw [u8s_take, List.getElem?_take] at hv
    by_cases hj : j < m
    · rw [if_pos hj] at hv; exact hv
    · rw [if_neg hj] at hv; cases hv)⟩
def decT (most : Nat) (l : List UInt8) : Option (List UInt8 × List UInt8) :=
  match decU most l with
  | none => none
  | some (n, r) => if r.length < n then none else some (r.take n, r.drop n)
def RT (w : World) (b most : Nat) (l : List UInt8) (e : Ending) (w' : World) : Prop :=
  (∃ s r, decT most l = some (s, r) ∧ e = .returned (.string ⟨s.toArray⟩) ∧ ReaderAt w' b r false ∧ Only (fun k => k = b) w w') ∨ (decT most l = none ∧ e = .returned (.string ByteArray.empty) ∧ (∃ l', ReaderAt w' b l' true) ∧ Only (fun k => k = b) w w')
set_option maxRecDepth 100000 in
set_option maxHeartbeats 2000000 in
theorem rtext_any (b : Nat) (l : List UInt8) (most : Int) (w : World) (h : ReaderAt w b l false) (hm : most ≤ 9223372036854775807) :
    Calls Try.prog 34 #[.pointer (some ⟨b, 0, none⟩), .int .i64 most] w (RT w b (max most 0).toNat l) := by
  obtain ⟨mm, hmm, hmn⟩ : ∃ mm : Nat, (max most 0).toNat = mm ∧ (mm : Int) ≤ 9223372036854775807 := ⟨_, rfl, by omega⟩
  rw [hmm]
  have hu := ruint_any b l mm w h (by omega)
  have hpos : most < 0 ∧ ((mm : Nat) : Int) = 0 ∨ 0 ≤ most ∧ ((mm : Nat) : Int) = most := by omega
  have hl63 : l.length ≤ 9223372036854775807 := by obtain ⟨_, _, h2, _⟩ := h; exact h2.len
  clear h hmm
  have key : ∀ M : Int, (most < 0 ∧ M = 0 ∨ 0 ≤ most ∧ M = most) → Hid (Calls Try.prog 32 #[.pointer (some ⟨b, 0, none⟩), .int .u64 M] w (RU w b mm l)) → Calls Try.prog 34 #[.pointer (some ⟨b, 0, none⟩), .int .i64 most] w (RT w b mm l) := by
    intro M hM HU
    rcases hM with ⟨hneg, rfl⟩ | ⟨hneg, rfl⟩
    all_goals
      go_enter Try.func34, Try.ntmps34
      go_wp2_with fail
      refine HU.out.mono ?_
      rintro e w2 (⟨x, r, hd, rfl, h2, o2⟩ | ⟨hd, rfl, h2, o2⟩)
      · have hrl := (decU_le hd).2
        obtain ⟨a2, c2, d0, d1, fz, e1, e2, hB, hBb⟩ := h2.cells
        have hr63 : r.length ≤ 9223372036854775807 := by omega
        by_cases hlen : r.length < x
        · have t1 : decide ((r.length : Int) < (x : Int)) = true := by simp; omega
          have hT : decT mm l = none := by unfold decT; rw [hd]; simp only; rw [if_pos hlen]
          have HT := Lib.hid hT; have H2 := Lib.hid h2; have O2 := Lib.hid o2; clear hT h2 o2 hB hBb hd
          go_wp2_with fail
          refine (fail_any b r false _ H2.out).mono ?_
          rintro e w3 ⟨rfl, h3, o3⟩
          have H3 := Lib.hid h3; have O3 := Lib.hid o3; clear h3 o3
          go_wp2
          go_ret
          exact .inr ⟨HT.out, rfl, ⟨_, H3.out⟩, O2.out.trans O3.out⟩
        · have t1 : decide ((r.length : Int) < (x : Int)) = false := by simp; omega
          have hT : decT mm l = some (r.take x, r.drop x) := by unfold decT; rw [hd]; simp only; rw [if_neg hlen]
          have hcv := (bytes_pre hB (m := x) (by omega)).conv
          have x0 : (0 : Int) ≤ (x : Int) := by omega
          have x1 : (x : Int) ≤ (r.length : Int) := by omega
          have x2 : (x : Int) ≤ (c2 : Int) := by omega
          have hdl : (r.drop x).length = r.length - x := List.length_drop
          have hpost : ∀ v', Bytes w2 v' (r.drop x) → (0 < (r.drop x).length → ∀ q, v'.ownBlock = some q → q < b) → RT w b mm l (.returned (.string ⟨(r.take x).toArray⟩)) (w2.setCell ⟨b, 0, none⟩ v') := fun v' g1 g2 => .inl ⟨_, _, hT, rfl, (h2.put g1 g2).1, o2.trans (h2.put g1 g2).2⟩
          have HPOST := Lib.hid hpost; have HDL := Lib.hid hdl; have HB := Lib.hid hB; have HBB := Lib.hid hBb; clear hpost hdl hT h2 o2 hB hBb hd
          generalize hS : r.take x = S at hcv HPOST
          have HS := Lib.hid hS; clear hS
          go_wp2
          all_goals
            go_ret
            refine HPOST.out _ (bytes_mk HDL.out.symm (by rw [HDL.out]; omega) (by omega) (fun hp => ?_)) (fun hp q hq => ?_)
            · rw [HDL.out] at hp
              first
                | (exfalso; omega)
                | (obtain ⟨a', c', e, _, _, h3⟩ := HB.out
                   cases e
                   obtain ⟨b3, off3, e3, hb2, hr⟩ := h3 (by omega)
                   subst e3
                   refine ⟨b3, off3 + x, by first | rfl | (simp [addr_add]; done), hb2, fun j v hv => ?_⟩
                   rw [u8s_drop, List.getElem?_drop] at hv
                   rw [Nat.add_assoc]; exact hr _ _ hv)
            · rw [HDL.out] at hp
              obtain ⟨a', c', e, _, _, h3⟩ := HB.out
              cases e
              obtain ⟨b3, off3, e3, hb2, hr⟩ := h3 (by omega)
              subst e3
              exact HBB.out (by omega) q (by first | (simpa [Value.ownBlock] using hq) | (simpa [Value.ownBlock, addr_add] using hq))
      · obtain ⟨a2, c2, d0, d1, fz, e1, e2, hB, hBb⟩ := h2.cells
        have hT : decT mm l = none := by unfold decT; rw [hd]
        have HT := Lib.hid hT; have H2 := Lib.hid h2; have O2 := Lib.hid o2; clear hT h2 o2 hB hBb hd
        go_wp2_with fail
        refine (fail_any b l true _ H2.out).mono ?_
        rintro e w3 ⟨rfl, h3, o3⟩
        have H3 := Lib.hid h3; have O3 := Lib.hid o3; clear h3 o3
        go_wp2
        go_ret
        exact .inr ⟨HT.out, rfl, ⟨_, H3.out⟩, O2.out.trans O3.out⟩
  exact key _ hpos (Lib.hid hu)
end Go.Proofs.Ytoojnpafcdaflaa
