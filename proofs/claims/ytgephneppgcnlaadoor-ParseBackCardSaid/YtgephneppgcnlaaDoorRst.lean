/- parse.reader.set; the variables of an operation. -/
import Derived.Test.YtgephneppgcnlaaDoorRdS
import Derived.Test.YtgephneppgcnlaaDoorRdV
import Derived.Test.YtgephneppgcnlaaDoorMnX
namespace Go.Proofs.YtgephneppgcnlaaDoor
open Go Go.RowKit
set_option linter.unusedVariables false
set_option linter.unusedSimpArgs false

theorem vars_any (b : Nat) (all r : List Tok) (w : World) (h : RdP w b all r (24 - ((24 : Nat) : Int))) (hs : isS [40] r = true) :
    Calls Tryd.prog 54 #[.pointer (some ⟨b, 0, none⟩), .string ⟨([40] : List UInt8).toArray⟩, .string ⟨([41] : List UInt8).toArray⟩, .func (.func 55) #[.pointer (some ⟨b, 0, none⟩)] #[]] w (Ans w b all (24 - ((24 : Nat) : Int)) (rowP w.heap.size 10 vdC) (manyP varP [41] (r.length + 1) [] r.tail)) := by
  rw [← many_eq varP_takes [40] [41] hs]
  exact manyV_any varP varP_takes b all r _ [40] [41] w h (fun wx r' _ hx => variable_any b all r' wx hx)
set_option maxRecDepth 100000 in
set_option maxHeartbeats 40000000 in
theorem set_zero (b : Nat) (all r : List Tok) (w : World) (h : RdP w b all r (24 - ((0 : Nat) : Int))) :
    Calls Tryd.prog 28 #[.pointer (some ⟨b, 0, none⟩)] w (Ans w b all (24 - ((0 : Nat) : Int)) (rowP w.heap.size 7 selC) (setP 0 r)) := by
  have HD := Lib.hid (down_bad b all r (24 - ((0 : Nat) : Int)) w h (by decide) (by decide))
  have HP : ∀ w2, RdP w2 b all r (24 - ((0 : Nat) : Int) + 1) → Only (fun k => k = b) w w2 → Ans w b all (24 - ((0 : Nat) : Int)) (rowP w.heap.size 7 selC) (setP 0 r) (.panicked (faultV 5)) w2 := fun w2 h o => ⟨rfl, ⟨r, _, h, rfl, by omega, by omega⟩, o⟩
  have HPP := Lib.hid HP; clear HP h
  generalize (Ans w b all (24 - ((0 : Nat) : Int)) (rowP w.heap.size 7 selC) (setP 0 r)) = Q at *
  go_enter_defers Tryd.func28, Tryd.ntmps28
  go_wp2_with fail
  refine HD.out.mono ?_
  rintro e w2 ⟨rfl, h2, o2⟩
  exact HPP.out _ h2 o2
set_option maxRecDepth 100000 in
set_option maxHeartbeats 40000000 in
theorem set_succ (d : Nat) (IH : ∀ (b : Nat) (all r : List Tok) (w : World), RdP w b all r (24 - (d : Int)) →
    Calls Tryd.prog 28 #[.pointer (some ⟨b, 0, none⟩)] w (Ans w b all (24 - (d : Int)) (rowP w.heap.size 7 selC) (setP d r))) (b : Nat) (all r : List Tok) (w : World) (hd : d + 1 ≤ 24) (h : RdP w b all r (24 - ((d + 1 : Nat) : Int))) :
    Calls Tryd.prog 28 #[.pointer (some ⟨b, 0, none⟩)] w (Ans w b all (24 - ((d + 1 : Nat) : Int)) (rowP w.heap.size 7 selC) (setP (d + 1) r)) := by
  have HD := Lib.hid (down_ok b all r (24 - ((d + 1 : Nat) : Int)) w h (by omega) (by omega))
  have hM := fun (w1 : World) (h1 : RdP w1 b all r (24 - (d : Int))) => manyS_any (selP d (setP d)) (selP_takes d (setP_takes d)) b all r (24 - (d : Int)) [123] [125] w1 h1 (fun wx r' _ hx => selection_any d (by omega) b all r' wx (fun r w h => IH b all r w h) hx)
  have hP : setP (d + 1) r = (wantP [123] r).bind fun _ r1 => manyP (selP d (setP d)) [125] (r1.length + 1) [] r1 := by rw [setP]
  rw [← hP] at hM
  obtain ⟨dp, hdp⟩ : ∃ dp : Int, 24 - ((d + 1 : Nat) : Int) = dp := ⟨_, rfl⟩
  have hdp1 : 24 - (d : Int) = dp + 1 := by omega
  rw [hdp] at h HD ⊢
  rw [hdp1] at hM
  obtain ⟨Q, hQ⟩ : ∃ Q, Ans w b all dp (rowP w.heap.size 7 selC) (setP (d + 1) r) = Q := ⟨_, rfl⟩
  rw [hQ]
  have hd1 : 0 ≤ dp := by omega
  have hd2 : dp < 24 := by omega
  have HM := Lib.hid hM; have HQ := Lib.hid hQ
  have hmf : ∀ (fn : Fn) (first cap : Array Value) (w : World), (Instr.makeFunc fn first cap).run Tryd.prog w = .ok (.func fn first cap) w := fun _ _ _ _ => rfl
  clear hM hQ hdp hdp1 hP h
  go_enter_defers Tryd.func28, Tryd.ntmps28
  go_wp2_with fail
  refine HD.out.mono ?_
  rintro e w2 ⟨rfl, h2, o2⟩
  have J := Lib.hid (HM.out w2 h2)
  have hsz := o2.size
  have hb2 := h2.lt
  have O2 := Lib.hid o2; have HSZ := Lib.hid hsz; have HB2 := Lib.hid hb2
  clear h2 o2 hsz HD hb2
  go_wp2_with fail
  refine J.out.mono ?_
  intro e w3 ha
  cases hq : setP (d + 1) r with
  | bad a c =>
    rw [hq] at ha
    obtain ⟨rfl, ⟨r'', dp', k1, k2, k3, k4⟩, k5⟩ := ha
    refine door_bad k1 (by omega) (by omega) (fun w' h6 o6 => ?_)
    rw [← HQ.out, hq]
    exact ⟨rfl, ⟨r'', dp' - 1, h6, k2, by omega, by omega⟩, (O2.out.trans k5).trans o6⟩
  | ok xs rz =>
    rw [hq] at ha
    obtain ⟨v, rfl, hv, k1, k5⟩ := ha
    have hend : ∀ w', RdP w' b all rz (dp + 1 - 1) → Only (fun k => k = b) w3 w' → Q (.returned v) w' := fun w' h6 o6 => by
      rw [← HQ.out, hq]
      exact ⟨v, rfl, CellAt.weaken (fun q _ h => by have h : w2.heap.size ≤ q := h; have := HSZ.out; show w.heap.size ≤ q; omega) _ _ (CellAt.only o6 (fun k hk e => by have hk : w2.heap.size ≤ k := hk; have e : k = b := e; have := HB2.out; omega) _ _ hv), by rw [show dp = dp + 1 - 1 from by omega]; exact h6, (O2.out.trans k5).trans o6⟩
    have HEND := Lib.hid hend; have K1 := Lib.hid k1
    clear hend hv k1 k5 hq
    go_wp2_with fail
    exact door_ok K1.out (by omega) (by omega) (fun w' h6 o6 => ⟨v, by simp [results, Tryd.results28, go_sem], HEND.out w' h6 o6⟩)
theorem set_any : ∀ (d : Nat) (b : Nat) (all r : List Tok) (w : World), d ≤ 24 → RdP w b all r (24 - (d : Int)) →
    Calls Tryd.prog 28 #[.pointer (some ⟨b, 0, none⟩)] w (Ans w b all (24 - (d : Int)) (rowP w.heap.size 7 selC) (setP d r))
  | 0, b, all, r, w, _, h => set_zero b all r w h
  | d + 1, b, all, r, w, hd, h => set_succ d (fun b all r w h => set_any d b all r w (by omega) h) b all r w hd h
end Go.Proofs.YtgephneppgcnlaaDoor
