/- Package ledger: scan. -/
import Derived.Test.YtlkglhgndfhjeaaGsm
import Derived.Test.YtlkglhgndfhjeaaRws
namespace Go.Proofs.Ytlkglhgndfhjeaa
open Go Go.RowKit
set_option linter.unusedVariables false
set_option linter.unusedSimpArgs false
set_option maxRecDepth 100000

/-- The bytes of k blocks from a on. -/
def body (V : List (List UInt8)) (a k : Nat) : List UInt8 := ((V.drop a).take k).flatten
theorem body_succ {V : List (List UInt8)} {a k : Nat} (h : a + k < V.length) : body V a (k + 1) = body V a k ++ V.getD (a + k) [] := by
  unfold body
  have h2 : k < (V.drop a).length := by rw [List.length_drop]; omega
  rw [List.take_succ_eq_append_getElem h2, List.flatten_append, List.getElem_drop, List.getD_eq_getElem?_getD, List.getElem?_eq_getElem h]
  simp
theorem body_len {V : List (List UInt8)} (hV : ∀ r ∈ V, r.length = 64) {a k : Nat} (h : a + k ≤ V.length) : (body V a k).length = k * 64 := by
  unfold body
  rw [flat_len (size := 64) (fun x hx => hV x (List.mem_of_mem_drop (List.mem_of_mem_take hx))), List.length_take, List.length_drop]
  rw [Nat.min_eq_left (by omega)]
/-- A slice of bytes as a cell. -/
def BytesP (w : World) (G : Nat → Prop) (x : List UInt8) (cs : List Value) : Prop := ∃ a c, cs = [.slice a x.length c] ∧ Bytes w (.slice a x.length c) x ∧ (0 < x.length → ∀ k, (Value.slice a x.length c).ownBlock = some k → G k)
theorem bytesP_keeps : Keeps BytesP := fun S G w w' x cs ho hS h => by
  obtain ⟨a, c, e, h1, h2⟩ := h
  exact ⟨a, c, e, h1.only ho (fun hp k hk => hS k (h2 hp k hk)), h2⟩
theorem bytesP_weakens : Weakens BytesP := fun G G' w x cs hG h => by
  obtain ⟨a, c, e, h1, h2⟩ := h
  exact ⟨a, c, e, h1, fun hp k hk => hG k (h1.blk hp hk) (h2 hp k hk)⟩
theorem infoSl : (Try.prog.info? 22).map (fun i => (i.zero, i.size, i.bytes)) = some (some (.slice none 0 0), 1, 24) := by kernel_rfl
/-- A snapshot and records, as they are told. -/
def Recs (w : World) (G : Nat → Prop) (sv av : Value) (s : List UInt8) (rs : List (List UInt8)) : Prop :=
  BytesP w G s [sv] ∧ ∃ a c, av = .slice a rs.length c ∧ rs.length ≤ c ∧ c ≤ maxLen ∧ ListAt 1 BytesP w G a rs
theorem Recs.only {S G : Nat → Prop} {w w' : World} {sv av : Value} {s : List UInt8} {rs : List (List UInt8)} (h : Recs w G sv av s rs) (ho : Only S w w') (hS : ∀ k, G k → ¬ S k) : Recs w' G sv av s rs := by
  obtain ⟨h1, a, c, e, h2, h3, h4⟩ := h
  exact ⟨bytesP_keeps S G w w' s _ ho hS h1, a, c, e, h2, h3, h4.only bytesP_keeps ho hS⟩
theorem Recs.weaken {G G' : Nat → Prop} {w : World} {sv av : Value} {s : List UInt8} {rs : List (List UInt8)} (h : Recs w G sv av s rs) (hG : ∀ q, q < w.heap.size → G q → G' q) : Recs w G' sv av s rs := by
  obtain ⟨h1, a, c, e, h2, h3, h4⟩ := h
  exact ⟨bytesP_weakens G G' w s _ hG h1, a, c, e, h2, h3, h4.weaken bytesP_weakens hG⟩
theorem Recs.nil (w : World) (G : Nat → Prop) : Recs w G (.slice none 0 0) (.slice none 0 0) [] [] :=
  ⟨⟨none, 0, rfl, Bytes.nil w, fun h => absurd h (by decide)⟩, none, 0, rfl, Nat.le_refl _, Nat.zero_le _, ListAt.nil⟩
/-- What the scan has of frames so far. -/
structure Half (w wr : World) (v9 : Value) (xs : List (List UInt8)) (vs : List Value) : Prop where
  own : wr.ownsRow w.heap.size 22 1 v9 xs.length vs
  pcs : Pieces 1 BytesP wr (fun q => w.heap.size ≤ q ∧ v9.ownBlock ≠ some q) xs vs
  only : Only (fun _ => False) w wr
theorem Half.still {w wr wr' : World} {v9 : Value} {xs : List (List UInt8)} {vs : List Value} (h : Half w wr v9 xs vs) (ho : Only (fun _ => False) wr wr') : Half w wr' v9 xs vs :=
  ⟨own_only' h.own ho (fun _ _ h => h), h.pcs.only bytesP_keeps ho (fun _ _ h => h), h.only.trans ho⟩
/-- One more frame: its clone stands in a block of its own. -/
theorem Half.push {w wr w2 w3 : World} {v9 v9' : Value} {xs : List (List UInt8)} {vs : List Value} {x : List UInt8} {a : Option Addr} {c : Nat} (h : Half w wr v9 xs vs) (ho : Only (fun _ => False) wr w2) (hx : Own8 w2 wr.heap.size (.slice a x.length c) x)
    (ho2 : Only (fun k => v9.ownBlock = some k) w2 w3) (hown : w3.ownsRow w.heap.size 22 1 v9' (xs.length + 1) (vs ++ [.slice a x.length c])) (hn : ∀ k, v9'.ownBlock = some k → v9.ownBlock = some k ∨ w2.heap.size ≤ k) :
    Half w w3 v9' (xs ++ [x]) (vs ++ [.slice a x.length c]) := by
  have hlt : ∀ k, v9.ownBlock = some k → w.heap.size ≤ k ∧ k < wr.heap.size := fun k hk => (own_form h.own).choose_spec.choose_spec.2.2.2 k hk
  have hp2 : BytesP w2 (fun q => w.heap.size ≤ q ∧ v9.ownBlock ≠ some q) x [.slice a x.length c] := ⟨a, c, rfl, hx.bytes, fun _ k hk => ⟨Nat.le_trans h.only.size (hx.ge hk).1, fun e => by have := (hlt k e).2; have := (hx.ge hk).1; omega⟩⟩
  have hs := (h.pcs.only bytesP_keeps ho (fun _ _ h => h)).snoc rfl hp2
  have hw : Pieces 1 BytesP w2 (fun q => (w.heap.size ≤ q ∧ v9.ownBlock ≠ some q) ∧ v9'.ownBlock ≠ some q) (xs ++ [x]) (vs ++ [.slice a x.length c]) := Pieces.weaken bytesP_weakens (fun q hq hg => ⟨hg, fun e => (hn q e).elim hg.2 (fun h => by omega)⟩) hs
  have hk := hw.only bytesP_keeps ho2 (fun k hk => hk.1.2)
  refine ⟨by rw [List.length_append, List.length_singleton]; exact hown, Pieces.weaken bytesP_weakens (fun q _ h => ⟨h.1.1, h.2⟩) hk, (h.only.trans ho).trans' ho2 (fun k hk hs => by have := (hlt k hs).1; omega)⟩
set_option maxHeartbeats 8000000 in
theorem scan_any (W : World) (X : Nat → Prop) (d m : Nat) (V : List (List UInt8)) (q : Bool) (l : Nat) (f : Fl) (tv : Value) (z : Nat) (s : List UInt8) (rs : List (List UInt8)) (w : World) (h : DX W X w d V m q) (hb : Box w l d f tv) (ok : f.Ok) (hV : f.at_ + 2 * f.half ≤ V.length) (hV2 : V.length ≤ 100000)
    (hbody : body V (f.first f.side) (f.half - 1) = laid f.turn 1 (s :: rs) ++ List.replicate z 0) :
    Calls Try.prog 55 #[.pointer (some ⟨l, 0, none⟩)] w fun e w' => ∃ sv av, e = .returned (.tuple #[sv, av, .int .i64 0]) ∧ Recs w' (fun q => w.heap.size ≤ q) sv av s rs ∧ Only (fun _ => False) w w' := by
  obtain ⟨c0, c1, c2, c3, c4, c5, c6, c7, fz, hlt⟩ := hb.cells
  have hh := ok.half
  have hfi : f.first f.side + (f.half - 1) ≤ V.length := by
    unfold Fl.first
    have := ok.side
    rcases (by omega : f.side = 0 ∨ f.side = 1) with e | e <;> rw [e] <;> omega
  have hq1 : (2 : Int) ≤ (f.half : Int) := by omega
  have hq2 : (f.half : Int) ≤ 10000 := by omega
  have hk1 : ((f.half - 1 : Nat) : Int) = (f.half : Int) - 1 := by omega
  have H := Lib.hid h; have HB := Lib.hid hb; have OK := Lib.hid ok; have HFI := Lib.hid hfi; have HBODY := Lib.hid hbody; have HK1 := Lib.hid hk1
  clear h hb ok hfi hbody hV hk1
  go_enter Try.func55, Try.ntmps55
  go_wp2_with fail
  go_loopw [17, 5] (fun v17 v5 wr => ∃ (k : Nat) (L : List UInt8) (a5 : Option Addr) (c5 : Nat), v17 = .int .i64 (k : Int) ∧ k ≤ f.half - 1 ∧ v5 = .slice a5 L.length c5 ∧ Hid (L = body V (f.first f.side) k) ∧ Hid (Own8 wr w.heap.size (.slice a5 L.length c5) L) ∧ Hid (Only (fun _ => False) w wr)) (fun v _ _ => f.half - (intOf v).toNat)
  case atStart => exact ⟨0, [], none, 0, by simp, by omega, by simp, Lib.hid (by simp [body]), Lib.hid (Own8.nil _ _), Lib.hid (Only.refl _ _)⟩
  case round =>
    obtain ⟨k, L, a5, c5, rfl, hk, rfl, HL, HO5, HO⟩ := hrel
    by_cases hkh : k < f.half - 1
    · have t1 : decide ((k : Int) < (f.half : Int) - 1) = true := by simp; omega
      have hki : f.first f.side + k < V.length := by have := HFI.out; omega
      have HKI := Lib.hid hki
      have hfa : ∀ w', Only (fun _ => False) wr w' → Box w' l d f tv ∧ DX W X w' d V m q := fun w' o => ⟨HB.out.only (HO.out.trans o) (fun h => h), H.out.still (HO.out.trans o)⟩
      have HFA := Lib.hid hfa
      have hs1 : (f.first f.side : Int) ≤ 100000 := by omega
      have hs0 : (0 : Int) ≤ (f.first f.side : Int) := by omega
      have hkk : (k : Int) ≤ 10000 := by omega
      have hkk0 : (0 : Int) ≤ (k : Int) := by omega
      obtain ⟨S, hS⟩ : ∃ S, f.first f.side = S := ⟨_, rfl⟩
      obtain ⟨B, hBB⟩ : ∃ B, V.getD (S + k) [] = B := ⟨_, rfl⟩
      rw [hS] at hs1 hs0
      have HS := Lib.hid hS; have HBB := Lib.hid hBB
      clear hfa hki hS hBB
      go_upto_region 5 with (fail)
      refine wp_region_steps 17 (by kernel_rfl) rfl (by kernel_rfl) [some 21, some 22, some 23, some 24, some 25, some 26, some 27, some 28, some 29, some 30, some 31, some 32, some 33, some 20, some 34, some 35, some 7] rfl rfl (fun _ => False) [(fun v _ => v = (.pointer (some ⟨l, 0, none⟩))), (fun v _ => v = (.pointer (some ⟨l, 0, none⟩))), (fun v _ => v = (.pointer (some ⟨l, 0, none⟩))), (fun v _ => v = (.pointer (some ⟨d, 0, none⟩))), (fun v _ => v = (.pointer (some ⟨l, 0, none⟩))), (fun v _ => v = (.pointer (some ⟨l, 0, none⟩))), (fun v _ => v = (.pointer (some ⟨l, 0, none⟩))), (fun v _ => v = (.pointer (some ⟨l, 3, none⟩))), (fun v _ => v = (.int .i64 (f.side : Int))), (fun v _ => v = (.int .i64 (S : Int))), (fun v _ => v = (.int .i64 (k : Int))), (fun v _ => v = (.int .i64 ((S : Int) + (k : Int)))), (fun v w1 => ∃ g, v = .tuple #[.slice (some ⟨g, 0, none⟩) 64 64, .int .i64 0] ∧ Bytes w1 (.slice (some ⟨g, 0, none⟩) 64 64) B ∧ B.length = 64), (fun v w1 => ∃ g, v = .tuple #[.slice (some ⟨g, 0, none⟩) 64 64, .int .i64 0] ∧ Bytes w1 (.slice (some ⟨g, 0, none⟩) 64 64) B ∧ B.length = 64), (fun v w1 => ∃ g, v = .slice (some ⟨g, 0, none⟩) 64 64 ∧ Bytes w1 (.slice (some ⟨g, 0, none⟩) 64 64) B ∧ B.length = 64), (fun v _ => v = (.int .i64 0)), (fun v w1 => ∃ g, v = .slice (some ⟨g, 0, none⟩) 64 64 ∧ Bytes w1 (.slice (some ⟨g, 0, none⟩) 64 64) B ∧ B.length = 64)] rfl ⟨?_, ?_, ?_, ?_, ?_, ?_, ?_, ?_, ?_, ?_, ?_, ?_, ?_, ?_, ?_, ?_, ?_, trivial⟩ _ rfl ⟨?_, ?_, ?_, ?_, ?_, ?_, ?_, ?_, ?_, ?_, ?_, ?_, ?_, ?_, ?_, ?_, ?_, trivial⟩ ?_
      · exact Stable.is _ _
      · exact Stable.is _ _
      · exact Stable.is _ _
      · exact Stable.is _ _
      · exact Stable.is _ _
      · exact Stable.is _ _
      · exact Stable.is _ _
      · exact Stable.is _ _
      · exact Stable.is _ _
      · exact Stable.is _ _
      · exact Stable.is _ _
      · exact Stable.is _ _
      · exact fun v w1 w2 h ho => (by obtain ⟨g, e, h1, h2⟩ := h; exact ⟨g, e, h1.still ho, h2⟩)
      · exact fun v w1 w2 h ho => (by obtain ⟨g, e, h1, h2⟩ := h; exact ⟨g, e, h1.still ho, h2⟩)
      · exact fun v w1 w2 h ho => (by obtain ⟨g, e, h1, h2⟩ := h; exact ⟨g, e, h1.still ho, h2⟩)
      · exact Stable.is _ _
      · exact fun v w1 w2 h ho => (by obtain ⟨g, e, h1, h2⟩ := h; exact ⟨g, e, h1.still ho, h2⟩)
      · intro x wx ox hN TT HTT
        clear hN
        unfold StepTo
        simp only [putAll, Act.put, List.setIfInBounds_toArray, List.set_cons_succ, List.set_cons_zero]
        go_wp2_with fail
        exact ⟨rfl, _, rfl, HTT.out _ _ (rfl) (Only.refl _ _)⟩
      · intro x wx ox hN TT HTT
        have r21 : x 0 = (.pointer (some ⟨l, 0, none⟩)) := hN.1 rfl
        clear hN
        unfold StepTo
        simp only [putAll, Act.put, List.setIfInBounds_toArray, List.set_cons_succ, List.set_cons_zero, r21]
        clear r21
        go_wp2_with fail
        exact ⟨rfl, _, rfl, HTT.out _ _ (rfl) (Only.refl _ _)⟩
      · intro x wx ox hN TT HTT
        have r22 : x 1 = (.pointer (some ⟨l, 0, none⟩)) := hN.1 rfl
        clear hN
        unfold StepTo
        simp only [putAll, Act.put, List.setIfInBounds_toArray, List.set_cons_succ, List.set_cons_zero, r22]
        clear r22
        go_wp2_with fail
        exact ⟨rfl, _, rfl, HTT.out _ _ (rfl) (Only.refl _ _)⟩
      · intro x wx ox hN TT HTT
        have r23 : x 2 = (.pointer (some ⟨l, 0, none⟩)) := hN.1 rfl
        clear hN
        unfold StepTo
        simp only [putAll, Act.put, List.setIfInBounds_toArray, List.set_cons_succ, List.set_cons_zero, r23]
        clear r23
        obtain ⟨d0, _, _, d3, _, _, _, _, _, _⟩ := (HFA.out wx (((Only.refl _ wr).drew).trans ox)).1.cells
        go_wp2_with fail
        exact ⟨rfl, _, rfl, HTT.out _ _ (rfl) (Only.refl _ _)⟩
      · intro x wx ox hN TT HTT
        clear hN
        unfold StepTo
        simp only [putAll, Act.put, List.setIfInBounds_toArray, List.set_cons_succ, List.set_cons_zero]
        go_wp2_with fail
        exact ⟨rfl, _, rfl, HTT.out _ _ (rfl) (Only.refl _ _)⟩
      · intro x wx ox hN TT HTT
        clear hN
        unfold StepTo
        simp only [putAll, Act.put, List.setIfInBounds_toArray, List.set_cons_succ, List.set_cons_zero]
        go_wp2_with fail
        exact ⟨rfl, _, rfl, HTT.out _ _ (rfl) (Only.refl _ _)⟩
      · intro x wx ox hN TT HTT
        have r26 : x 5 = (.pointer (some ⟨l, 0, none⟩)) := hN.1 rfl
        clear hN
        unfold StepTo
        simp only [putAll, Act.put, List.setIfInBounds_toArray, List.set_cons_succ, List.set_cons_zero, r26]
        clear r26
        go_wp2_with fail
        exact ⟨rfl, _, rfl, HTT.out _ _ (rfl) (Only.refl _ _)⟩
      · intro x wx ox hN TT HTT
        have r27 : x 6 = (.pointer (some ⟨l, 0, none⟩)) := hN.1 rfl
        clear hN
        unfold StepTo
        simp only [putAll, Act.put, List.setIfInBounds_toArray, List.set_cons_succ, List.set_cons_zero, r27]
        clear r27
        go_wp2_with fail
        exact ⟨rfl, _, rfl, HTT.out _ _ (rfl) (Only.refl _ _)⟩
      · intro x wx ox hN TT HTT
        have r28 : x 7 = (.pointer (some ⟨l, 3, none⟩)) := hN.1 rfl
        clear hN
        unfold StepTo
        simp only [putAll, Act.put, List.setIfInBounds_toArray, List.set_cons_succ, List.set_cons_zero, r28]
        clear r28
        obtain ⟨d0, _, _, d3, _, _, _, _, _, _⟩ := (HFA.out wx (((Only.refl _ wr).drew).trans ox)).1.cells
        go_wp2_with fail
        exact ⟨rfl, _, rfl, HTT.out _ _ (rfl) (Only.refl _ _)⟩
      · intro x wx ox hN TT HTT
        have r25 : x 4 = (.pointer (some ⟨l, 0, none⟩)) := hN.1 rfl
        have r29 : x 8 = (.int .i64 (f.side : Int)) := hN.2.1 rfl
        clear hN
        unfold StepTo
        simp only [putAll, Act.put, List.setIfInBounds_toArray, List.set_cons_succ, List.set_cons_zero, r25, r29]
        clear r25 r29
        have hc := first_q wx l d f tv f.side (HFA.out wx (((Only.refl _ wr).drew).trans ox)).1 OK.out OK.out.side
        rw [HS.out] at hc
        have HC := Lib.hid hc; clear hc
        go_wp2_with fail
        refine HC.out.mono ?_
        rintro e w6 ⟨rfl, n6, rfl⟩
        go_wp2_with fail
        exact ⟨rfl, _, rfl, HTT.out _ _ (rfl) ((Only.refl _ _).drewN n6)⟩
      · intro x wx ox hN TT HTT
        clear hN
        unfold StepTo
        simp only [putAll, Act.put, List.setIfInBounds_toArray, List.set_cons_succ, List.set_cons_zero]
        go_wp2_with fail
        exact ⟨rfl, _, rfl, HTT.out _ _ (rfl) (Only.refl _ _)⟩
      · intro x wx ox hN TT HTT
        have r30 : x 9 = (.int .i64 (S : Int)) := hN.1 rfl
        have r31 : x 10 = (.int .i64 (k : Int)) := hN.2.1 rfl
        clear hN
        unfold StepTo
        simp only [putAll, Act.put, List.setIfInBounds_toArray, List.set_cons_succ, List.set_cons_zero, r30, r31]
        clear r30 r31
        go_wp2_with fail
        exact ⟨rfl, _, rfl, HTT.out _ _ (rfl) (Only.refl _ _)⟩
      · intro x wx ox hN TT HTT
        have r24 : x 3 = (.pointer (some ⟨d, 0, none⟩)) := hN.1 rfl
        have r32 : x 11 = (.int .i64 ((S : Int) + (k : Int))) := hN.2.1 rfl
        have r30 : x 9 = (.int .i64 (S : Int)) := hN.2.2.1 rfl
        clear hN
        unfold StepTo
        simp only [putAll, Act.put, List.setIfInBounds_toArray, List.set_cons_succ, List.set_cons_zero, r24, r32, r30]
        clear r24 r32 r30
        have hc := read_v W X d m V q (S + k) wx (HFA.out wx (((Only.refl _ wr).drew).trans ox)).2 (by have := HKI.out; rw [HS.out] at this; exact this)
        rw [HBB.out, Int.natCast_add] at hc
        have HC := Lib.hid hc; clear hc
        go_wp2_with fail
        refine HC.out.mono ?_
        rintro e w6 ⟨g, rfl, g1, g2, g3, g4, o6⟩
        have HX := Lib.hid g3; have HX3 := Lib.hid g4; have O6 := Lib.hid o6; clear g3 g4 o6
        go_wp2_with fail
        exact ⟨rfl, _, rfl, HTT.out _ _ (⟨g, rfl, HX.out, HX3.out⟩) (O6.out)⟩
      · intro x wx ox hN TT HTT
        have r33 : (fun (v : Value) (w1 : World) => ∃ g, v = .tuple #[.slice (some ⟨g, 0, none⟩) 64 64, .int .i64 0] ∧ Bytes w1 (.slice (some ⟨g, 0, none⟩) 64 64) B ∧ B.length = 64) (x 12) wx := hN.1 rfl
        clear hN
        unfold StepTo
        simp only [putAll, Act.put, List.setIfInBounds_toArray, List.set_cons_succ, List.set_cons_zero]
        obtain ⟨g, e1, e2, e3⟩ := r33
        simp only [e1]
        have HX := Lib.hid e2; have HX3 := Lib.hid e3; clear e1 e2 e3
        go_wp2_with fail
        exact ⟨rfl, _, rfl, HTT.out _ _ (⟨g, rfl, HX.out, HX3.out⟩) (Only.refl _ _)⟩
      · intro x wx ox hN TT HTT
        have r20 : (fun (v : Value) (w1 : World) => ∃ g, v = .tuple #[.slice (some ⟨g, 0, none⟩) 64 64, .int .i64 0] ∧ Bytes w1 (.slice (some ⟨g, 0, none⟩) 64 64) B ∧ B.length = 64) (x 13) wx := hN.1 rfl
        clear hN
        unfold StepTo
        simp only [putAll, Act.put, List.setIfInBounds_toArray, List.set_cons_succ, List.set_cons_zero]
        obtain ⟨g, e1, e2, e3⟩ := r20
        simp only [e1]
        have HX := Lib.hid e2; have HX3 := Lib.hid e3; clear e1 e2 e3
        go_wp2_with fail
        exact ⟨rfl, _, rfl, HTT.out _ _ (⟨g, rfl, HX.out, HX3.out⟩) (Only.refl _ _)⟩
      · intro x wx ox hN TT HTT
        have r20 : (fun (v : Value) (w1 : World) => ∃ g, v = .tuple #[.slice (some ⟨g, 0, none⟩) 64 64, .int .i64 0] ∧ Bytes w1 (.slice (some ⟨g, 0, none⟩) 64 64) B ∧ B.length = 64) (x 13) wx := hN.1 rfl
        clear hN
        unfold StepTo
        simp only [putAll, Act.put, List.setIfInBounds_toArray, List.set_cons_succ, List.set_cons_zero]
        obtain ⟨g, e1, e2, e3⟩ := r20
        simp only [e1]
        clear e1 e2 e3
        go_wp2_with fail
        exact ⟨rfl, _, rfl, HTT.out _ _ (rfl) (Only.refl _ _)⟩
      · intro x wx ox hN TT HTT
        have r34 : (fun (v : Value) (w1 : World) => ∃ g, v = .slice (some ⟨g, 0, none⟩) 64 64 ∧ Bytes w1 (.slice (some ⟨g, 0, none⟩) 64 64) B ∧ B.length = 64) (x 14) wx := hN.1 rfl
        have r33 : (fun (v : Value) (w1 : World) => ∃ g, v = .tuple #[.slice (some ⟨g, 0, none⟩) 64 64, .int .i64 0] ∧ Bytes w1 (.slice (some ⟨g, 0, none⟩) 64 64) B ∧ B.length = 64) (x 12) wx := hN.2.1 rfl
        have r21 : x 0 = (.pointer (some ⟨l, 0, none⟩)) := hN.2.2.1 rfl
        have r22 : x 1 = (.pointer (some ⟨l, 0, none⟩)) := hN.2.2.2.1 rfl
        have r23 : x 2 = (.pointer (some ⟨l, 0, none⟩)) := hN.2.2.2.2.1 rfl
        have r24 : x 3 = (.pointer (some ⟨d, 0, none⟩)) := hN.2.2.2.2.2.1 rfl
        have r25 : x 4 = (.pointer (some ⟨l, 0, none⟩)) := hN.2.2.2.2.2.2.1 rfl
        have r26 : x 5 = (.pointer (some ⟨l, 0, none⟩)) := hN.2.2.2.2.2.2.2.1 rfl
        have r27 : x 6 = (.pointer (some ⟨l, 0, none⟩)) := hN.2.2.2.2.2.2.2.2.1 rfl
        have r28 : x 7 = (.pointer (some ⟨l, 3, none⟩)) := hN.2.2.2.2.2.2.2.2.2.1 rfl
        have r29 : x 8 = (.int .i64 (f.side : Int)) := hN.2.2.2.2.2.2.2.2.2.2.1 rfl
        have r30 : x 9 = (.int .i64 (S : Int)) := hN.2.2.2.2.2.2.2.2.2.2.2.1 rfl
        have r31 : x 10 = (.int .i64 (k : Int)) := hN.2.2.2.2.2.2.2.2.2.2.2.2.1 rfl
        have r32 : x 11 = (.int .i64 ((S : Int) + (k : Int))) := hN.2.2.2.2.2.2.2.2.2.2.2.2.2.1 rfl
        have r20 : (fun (v : Value) (w1 : World) => ∃ g, v = .tuple #[.slice (some ⟨g, 0, none⟩) 64 64, .int .i64 0] ∧ Bytes w1 (.slice (some ⟨g, 0, none⟩) 64 64) B ∧ B.length = 64) (x 13) wx := hN.2.2.2.2.2.2.2.2.2.2.2.2.2.2.2.1 rfl
        clear hN
        unfold StepTo
        simp only [putAll, Act.put, List.setIfInBounds_toArray, List.set_cons_succ, List.set_cons_zero, r21, r22, r23, r24, r25, r26, r27, r28, r29, r30, r31, r32]
        clear r21 r22 r23 r24 r25 r26 r27 r28 r29 r30 r31 r32
        obtain ⟨g, e1, e2, e3⟩ := r34
        simp only [e1]
        have HX := Lib.hid e2; have HX3 := Lib.hid e3; clear e1 e2 e3
        go_wp2_with fail
        exact ⟨rfl, _, rfl, HTT.out _ _ (⟨g, rfl, HX.out, HX3.out⟩) (Only.refl _ _)⟩
      intro xa wxa oxa hN
      have r21 : xa 0 = (.pointer (some ⟨l, 0, none⟩)) := hN.1
      have r22 : xa 1 = (.pointer (some ⟨l, 0, none⟩)) := hN.2.1
      have r23 : xa 2 = (.pointer (some ⟨l, 0, none⟩)) := hN.2.2.1
      have r24 : xa 3 = (.pointer (some ⟨d, 0, none⟩)) := hN.2.2.2.1
      have r25 : xa 4 = (.pointer (some ⟨l, 0, none⟩)) := hN.2.2.2.2.1
      have r26 : xa 5 = (.pointer (some ⟨l, 0, none⟩)) := hN.2.2.2.2.2.1
      have r27 : xa 6 = (.pointer (some ⟨l, 0, none⟩)) := hN.2.2.2.2.2.2.1
      have r28 : xa 7 = (.pointer (some ⟨l, 3, none⟩)) := hN.2.2.2.2.2.2.2.1
      have r29 : xa 8 = (.int .i64 (f.side : Int)) := hN.2.2.2.2.2.2.2.2.1
      have r30 : xa 9 = (.int .i64 (S : Int)) := hN.2.2.2.2.2.2.2.2.2.1
      have r31 : xa 10 = (.int .i64 (k : Int)) := hN.2.2.2.2.2.2.2.2.2.2.1
      have r32 : xa 11 = (.int .i64 ((S : Int) + (k : Int))) := hN.2.2.2.2.2.2.2.2.2.2.2.1
      have r33 : (fun (v : Value) (w1 : World) => ∃ g, v = .tuple #[.slice (some ⟨g, 0, none⟩) 64 64, .int .i64 0] ∧ Bytes w1 (.slice (some ⟨g, 0, none⟩) 64 64) B ∧ B.length = 64) (xa 12) wxa := hN.2.2.2.2.2.2.2.2.2.2.2.2.1
      have r20 : (fun (v : Value) (w1 : World) => ∃ g, v = .tuple #[.slice (some ⟨g, 0, none⟩) 64 64, .int .i64 0] ∧ Bytes w1 (.slice (some ⟨g, 0, none⟩) 64 64) B ∧ B.length = 64) (xa 13) wxa := hN.2.2.2.2.2.2.2.2.2.2.2.2.2.1
      have r34 : (fun (v : Value) (w1 : World) => ∃ g, v = .slice (some ⟨g, 0, none⟩) 64 64 ∧ Bytes w1 (.slice (some ⟨g, 0, none⟩) 64 64) B ∧ B.length = 64) (xa 14) wxa := hN.2.2.2.2.2.2.2.2.2.2.2.2.2.2.1
      have r35 : xa 15 = (.int .i64 0) := hN.2.2.2.2.2.2.2.2.2.2.2.2.2.2.2.1
      have r7 : (fun (v : Value) (w1 : World) => ∃ g, v = .slice (some ⟨g, 0, none⟩) 64 64 ∧ Bytes w1 (.slice (some ⟨g, 0, none⟩) 64 64) B ∧ B.length = 64) (xa 16) wxa := hN.2.2.2.2.2.2.2.2.2.2.2.2.2.2.2.2.1
      clear hN
      simp only [putAll, Act.put, List.setIfInBounds_toArray, List.set_cons_succ, List.set_cons_zero, r21, r22, r23, r24, r25, r26, r27, r28, r29, r30, r31, r32, r35]
      clear r21 r22 r23 r24 r25 r26 r27 r28 r29 r30 r31 r32 r35
      obtain ⟨g, e1, hg, hg64⟩ := r7
      simp only [e1]
      have oa := ((Only.refl (fun _ => False) wr).drew).trans oxa
      have HG := Lib.hid hg; have HG64 := Lib.hid hg64; have OA := Lib.hid oa
      have hbl : L.length = k * 64 := by
        rw [HL.out]; exact body_len H.out.rows (by have := HFI.out; omega)
      have HBL := Lib.hid hbl
      clear r33 r20 r34 e1 hg hg64 oa hbl
      go_wp2_with ((refine wpList_append8 (o := ⟨some 41, _, _, _, _, _⟩) rfl (.tmp 39) (.tmp 40) (by rfl) w.heap.size _ _ L B (by rfl) (by rfl) (HO5.out.still OA.out) HG.out (by have := HBL.out; have := HG64.out; omega) (Nat.le_trans HO.out.size OA.out.size) ?_; intro L2 a3 c3 w3 hL2 h3 g3))
      have hO3 := g3.out.step (HO.out.trans OA.out) (fun k hk => .inr (HO5.out.ge hk).1)
      have hL3 : L2 = body V (f.first f.side) (k + 1) := by rw [hL2.out, body_succ HKI.out, HL.out, HS.out, HBB.out]
      have HL3 := Lib.hid hL3; have HO3 := Lib.hid hO3; clear hL3 hO3
      go_wp2_with fail
      go_roundw
      case rel => exact ⟨k + 1, L2, a3, c3, by simp [go_sem], by omega, rfl, HL3, h3, HO3⟩
      case measure => simp [intOf]; omega
    · have t1 : decide ((k : Int) < (f.half : Int) - 1) = false := by simp; omega
      obtain rfl : k = f.half - 1 := by omega
      have hLb := HL.out.trans HBODY.out
      have HLB := Lib.hid hLb
      have hLl : L.length ≤ 640000 := by rw [HL.out, body_len H.out.rows (by have := HFI.out; omega)]; omega
      have hsz : sizes (s :: rs) + z ≤ 640000 := by
        have := congrArg List.length hLb
        rw [List.length_append, laid_len, List.length_replicate] at this; omega
      have HSZ := Lib.hid hsz
      have hl8 : ∀ x ∈ s :: rs, x.length + 8 ≤ 640000 := by
        have : ∀ (ys : List (List UInt8)), ∀ x ∈ ys, x.length + 8 ≤ sizes ys := by
          intro ys
          induction ys with
          | nil => intro x hx; cases hx
          | cons y ys ih =>
            intro x hx
            simp only [sizes]
            rcases List.mem_cons.1 hx with rfl | h
            · omega
            · have := ih x h; omega
        intro x hx
        have := this _ x hx; omega
      have HL8 := Lib.hid hl8
      have hb5 := HO5.out.bytes
      have hfsl : (s :: rs).length ≤ 640000 := by
        have : ∀ ys : List (List UInt8), ys.length ≤ sizes ys := by
          intro ys
          induction ys with
          | nil => exact Nat.zero_le _
          | cons y ys ih => simp only [sizes, List.length_cons]; omega
        have := this (s :: rs); omega
      have HB5 := Lib.hid hb5; have HFL := Lib.hid hfsl
      obtain ⟨fs, hfs⟩ : ∃ fs, fs = s :: rs := ⟨_, rfl⟩
      rw [← hfs] at HLB HL8 HSZ HFL
      have HFS := Lib.hid hfs
      clear hLb hsz hl8 hb5 hfsl hfs t1 hkh hk
      go_upto_block 2 with (fail)
      go_cut [9] from 5 (fun v9 w' => ∃ vs a9 c9, v9 = .slice a9 fs.length c9 ∧ Hid (Half w w' (.slice a9 fs.length c9) fs vs))
      case first =>
       go_wp2_with fail
       go_loopw [5, 9, 10] (fun v5 v9 v10 wr => ∃ (dn : Nat) (done rest : List (List UInt8)) (P : List UInt8) (vs : List Value) (a5 : Option Addr) (c5 : Nat) (a9 : Option Addr) (c9 : Nat), v5 = .slice a5 P.length c5 ∧ v9 = .slice a9 done.length c9 ∧ v10 = .int .i64 (dn : Int) ∧ Hid (fs = done ++ rest) ∧ Hid (dn = done.length + 1) ∧ Hid (P = laid f.turn dn rest ++ List.replicate z 0) ∧ Hid (Bytes wr (.slice a5 P.length c5) P) ∧ Hid (0 < P.length → ∀ k, (Value.slice a5 P.length c5).ownBlock = some k → w.heap.size ≤ k ∧ (Value.slice a9 done.length c9).ownBlock ≠ some k) ∧ Hid (Half w wr (.slice a9 done.length c9) done vs)) (fun _ _ v _ => 640002 - (intOf v).toNat)
       case atStart => exact ⟨1, [], fs, L, [], a5, c5, none, 0, rfl, by simp, by simp, Lib.hid (by simp), Lib.hid (by simp), HLB, HB5, Lib.hid (fun hp k hk => ⟨(HO5.out.ge hk).1, fun h => by cases h⟩), Lib.hid ⟨own_nil _ _ _ _, rfl, HO.out⟩⟩
       case round =>
         obtain ⟨dn, done, rest, P, vs, a5, c5, a9, c9, rfl, rfl, rfl, HFD, HDN, HP, HBP, HPB, HH⟩ := hrel
         have hPl : P.length ≤ 640000 := by
           rw [HP.out, List.length_append, laid_len, List.length_replicate]
           have : sizes rest ≤ sizes fs := by
             rw [HFD.out]
             have : ∀ (a b : List (List UInt8)), sizes b ≤ sizes (a ++ b) := by
               intro a b
               induction a with
               | nil => exact Nat.le_refl _
               | cons y ys ih => simp only [List.cons_append, sizes]; omega
             exact this _ _
           have := HSZ.out; omega
         have hdn : dn ≤ 640001 := by have := HDN.out; have := HFL.out; have := congrArg List.length HFD.out; rw [List.length_append] at this; omega
         have HDNL := Lib.hid hdn
         by_cases h8 : 8 ≤ P.length
         · have t8 : decide ((8 : Int) ≤ (P.length : Int)) = true := by simp; omega
           have hkx : get32 P ≤ P.length - 8 := by
             cases rest with
             | nil =>
               have hz : P = List.replicate z 0 := by rw [HP.out]; rfl
               have : get32 P = 0 := by
                 rw [hz]; unfold get32
                 have e : ∀ i, (List.replicate z (0 : UInt8)).getD i 0 = 0 := fun i => by
                   rw [List.getD_eq_getElem?_getD, List.getElem?_replicate]; split <;> rfl
                 rw [e, e, e, e]; rfl
               omega
             | cons x rest =>
               have hx := HL8.out x (by rw [HFD.out]; simp)
               have e : P = frm f.turn dn x ++ (laid f.turn (dn + 1) rest ++ List.replicate z 0) := by rw [HP.out]; simp [laid, List.append_assoc]
               have := (whole_frm (t := f.turn) (n := dn) (p := x) (by omega) (laid f.turn (dn + 1) rest ++ List.replicate z 0)).1.2.1
               rw [← e] at this; exact this
           obtain ⟨kx, hK⟩ : ∃ kx, get32 P = kx := ⟨_, rfl⟩
           rw [hK] at hkx
           have hg1 := get_any _ P wr HBP.out (by omega)
           rw [hK] at hg1
           obtain ⟨aF, cF, hF, hbF, hoF⟩ := cutFrom HBP.out (4 + kx) (by omega) .u32
           obtain ⟨aT, cT, hT, hbT, hoT⟩ := cutTo HBP.out (4 + kx) (by omega) .u32
           have e4 : ((4 + kx : Nat) : Int) = 4 + (kx : Int) := by omega
           rw [e4] at hF hT
           obtain ⟨g1, hg1'⟩ : ∃ g1, get32 (P.drop (4 + kx)) = g1 := ⟨_, rfl⟩
           obtain ⟨mk, hmk⟩ : ∃ mk, mark f.turn dn (P.take (4 + kx)) = mk := ⟨_, rfl⟩
           obtain ⟨N, hN⟩ : ∃ N, P.length = N := ⟨_, rfl⟩
           have hdl : (P.drop (4 + kx)).length = N - (4 + kx) := by rw [List.length_drop, hN]
           have htl : (P.take (4 + kx)).length = 4 + kx := by rw [List.length_take]; omega
           have hfa : ∀ w', Only (fun _ => False) wr w' → Box w' l d f tv ∧ Bytes w' (.slice aF (N - (4 + kx)) cF) (P.drop (4 + kx)) ∧ Bytes w' (.slice aT (4 + kx) cT) (P.take (4 + kx)) := fun w' o => ⟨HB.out.only (HH.out.only.trans o) (fun h => h), by rw [← hN]; exact hbF.still o, hbT.still o⟩
           have HFA := Lib.hid hfa; have HHF := Lib.hid hF; have HHT := Lib.hid hT; have HG1 := Lib.hid hg1; have HK := Lib.hid hK; have HGE := Lib.hid hg1'; have HMK := Lib.hid hmk; have HN := Lib.hid hN; have HDL := Lib.hid hdl; have HTL := Lib.hid htl
           rw [hN] at h8 t8 hPl hkx HHF HHT HG1 ⊢
           clear hfa hF hT hg1 hK hg1' hmk hN hbF hbT e4 hdl htl hoF hoT
           have n0 : (8 : Int) ≤ (N : Int) := by omega
           have n1 : (N : Int) ≤ 640000 := by omega
           have k0 : (0 : Int) ≤ (kx : Int) := by omega
           have k1 : (kx : Int) ≤ (N : Int) - 8 := by omega
           have k2 : (kx : Int) ≤ 640000 := by omega
           have d0 : (0 : Int) ≤ (dn : Int) := by omega
           have d1 : (dn : Int) ≤ 640001 := by omega
           clear HDNL hdn
           go_wp2_with fail
           refine HG1.out.mono ?_
           rintro e w5 ⟨rfl, n5, rfl⟩
           have t9 : decide ((N : Int) - 8 < (kx : Int)) = false := by simp; omega
           have z1 : IntKind.u32.wrap ((N : Int) - 8) = (N : Int) - 8 := by rw [IntKind.wrap_u32]; omega
           have z2 : IntKind.u32.wrap (4 + (kx : Int)) = 4 + (kx : Int) := by rw [IntKind.wrap_u32]; omega
           obtain ⟨bb, hbb⟩ : ∃ bb, ((g1 : Int) != (mk : Int)) = bb := ⟨_, rfl⟩
           have HBBB := Lib.hid hbb
           go_upto_region 15 with (fail)
           refine wp_region_steps 23 (by kernel_rfl) rfl (by kernel_rfl) [some 50, some 51, some 52, some 53, some 54, some 55, some 56, some 57, some 58, some 59, some 60, some 61, some 62, some 63, some 64, some 65, some 66, some 67, some 68, some 69, some 70, some 71, some 72] rfl rfl (fun _ => False) [(fun v _ => v = (.int .u32 (kx : Int))), (fun v _ => v = (.slice a5 N c5)), (fun v _ => v = (.int .i64 (N : Int))), (fun v _ => v = (.int .i64 ((N : Int) - 8))), (fun v _ => v = (.int .u32 ((N : Int) - 8))), (fun v _ => v = (.bool false)), (fun v _ => v = (.bool false)), (fun v _ => v = (.slice a5 N c5)), (fun v _ => v = (.int .u32 (kx : Int))), (fun v _ => v = (.int .u32 (4 + (kx : Int)))), (fun v _ => v = (.slice aF (N - (4 + kx)) cF)), (fun v _ => v = (.int .u32 (g1 : Int))), (fun v _ => v = (.pointer (some ⟨l, 0, none⟩))), (fun v _ => v = (.pointer (some ⟨l, 0, none⟩))), (fun v _ => v = (.pointer (some ⟨l, 4, none⟩))), (fun v _ => v = (.int .u64 (f.turn : Int))), (fun v _ => v = (.int .i64 (dn : Int))), (fun v _ => v = (.slice a5 N c5)), (fun v _ => v = (.int .u32 (kx : Int))), (fun v _ => v = (.int .u32 (4 + (kx : Int)))), (fun v _ => v = (.slice aT (4 + kx) cT)), (fun v _ => v = (.int .u32 (mk : Int))), (fun v _ => v = (.bool bb))] rfl ⟨?_, ?_, ?_, ?_, ?_, ?_, ?_, ?_, ?_, ?_, ?_, ?_, ?_, ?_, ?_, ?_, ?_, ?_, ?_, ?_, ?_, ?_, ?_, trivial⟩ _ rfl ⟨?_, ?_, ?_, ?_, ?_, ?_, ?_, ?_, ?_, ?_, ?_, ?_, ?_, ?_, ?_, ?_, ?_, ?_, ?_, ?_, ?_, ?_, ?_, trivial⟩ ?_
           · exact Stable.is _ _
           · exact Stable.is _ _
           · exact Stable.is _ _
           · exact Stable.is _ _
           · exact Stable.is _ _
           · exact Stable.is _ _
           · exact Stable.is _ _
           · exact Stable.is _ _
           · exact Stable.is _ _
           · exact Stable.is _ _
           · exact Stable.is _ _
           · exact Stable.is _ _
           · exact Stable.is _ _
           · exact Stable.is _ _
           · exact Stable.is _ _
           · exact Stable.is _ _
           · exact Stable.is _ _
           · exact Stable.is _ _
           · exact Stable.is _ _
           · exact Stable.is _ _
           · exact Stable.is _ _
           · exact Stable.is _ _
           · exact Stable.is _ _
           · intro x wx ox hN TT HTT
             clear hN
             unfold StepTo
             simp only [putAll, Act.put, List.setIfInBounds_toArray, List.set_cons_succ, List.set_cons_zero]
             go_wp2_with fail
             exact ⟨rfl, _, rfl, HTT.out _ _ (rfl) (Only.refl _ _)⟩
           · intro x wx ox hN TT HTT
             clear hN
             unfold StepTo
             simp only [putAll, Act.put, List.setIfInBounds_toArray, List.set_cons_succ, List.set_cons_zero]
             go_wp2_with fail
             exact ⟨rfl, _, rfl, HTT.out _ _ (rfl) (Only.refl _ _)⟩
           · intro x wx ox hN TT HTT
             have r51 : x 1 = (.slice a5 N c5) := hN.1 rfl
             clear hN
             unfold StepTo
             simp only [putAll, Act.put, List.setIfInBounds_toArray, List.set_cons_succ, List.set_cons_zero, r51]
             clear r51
             go_wp2_with fail
             exact ⟨rfl, _, rfl, HTT.out _ _ (rfl) (Only.refl _ _)⟩
           · intro x wx ox hN TT HTT
             have r52 : x 2 = (.int .i64 (N : Int)) := hN.1 rfl
             clear hN
             unfold StepTo
             simp only [putAll, Act.put, List.setIfInBounds_toArray, List.set_cons_succ, List.set_cons_zero, r52]
             clear r52
             go_wp2_with fail
             exact ⟨rfl, _, rfl, HTT.out _ _ (rfl) (Only.refl _ _)⟩
           · intro x wx ox hN TT HTT
             have r53 : x 3 = (.int .i64 ((N : Int) - 8)) := hN.1 rfl
             clear hN
             unfold StepTo
             simp only [putAll, Act.put, List.setIfInBounds_toArray, List.set_cons_succ, List.set_cons_zero, r53]
             clear r53
             go_wp2_with fail
             exact ⟨rfl, _, rfl, HTT.out _ _ (rfl) (Only.refl _ _)⟩
           · intro x wx ox hN TT HTT
             have r50 : x 0 = (.int .u32 (kx : Int)) := hN.1 rfl
             have r54 : x 4 = (.int .u32 ((N : Int) - 8)) := hN.2.1 rfl
             clear hN
             unfold StepTo
             simp only [putAll, Act.put, List.setIfInBounds_toArray, List.set_cons_succ, List.set_cons_zero, r50, r54]
             clear r50 r54
             go_wp2_with fail
             exact ⟨rfl, _, rfl, HTT.out _ _ (rfl) (Only.refl _ _)⟩
           · intro x wx ox hN TT HTT
             have r55 : x 5 = (.bool false) := hN.1 rfl
             clear hN
             unfold StepTo
             simp only [putAll, Act.put, List.setIfInBounds_toArray, List.set_cons_succ, List.set_cons_zero, r55]
             clear r55
             go_wp2_with fail
             exact ⟨rfl, _, rfl, HTT.out _ _ (rfl) (Only.refl _ _)⟩
           · intro x wx ox hN TT HTT
             have r56 : x 6 = (.bool false) := hN.1 rfl
             clear hN
             unfold StepTo
             simp only [putAll, Act.put, List.setIfInBounds_toArray, List.set_cons_succ, List.set_cons_zero, r56]
             clear r56
             go_wp2_with fail
             exact ⟨rfl, _, rfl, HTT.out _ _ (rfl) (Only.refl _ _)⟩
           · intro x wx ox hN TT HTT
             have r56 : x 6 = (.bool false) := hN.1 rfl
             clear hN
             unfold StepTo
             simp only [putAll, Act.put, List.setIfInBounds_toArray, List.set_cons_succ, List.set_cons_zero, r56]
             clear r56
             go_wp2_with fail
             exact ⟨rfl, _, rfl, HTT.out _ _ (rfl) (Only.refl _ _)⟩
           · intro x wx ox hN TT HTT
             have r58 : x 8 = (.int .u32 (kx : Int)) := hN.1 rfl
             have r56 : x 6 = (.bool false) := hN.2.1 rfl
             clear hN
             unfold StepTo
             simp only [putAll, Act.put, List.setIfInBounds_toArray, List.set_cons_succ, List.set_cons_zero, r58, r56]
             clear r58 r56
             go_wp2_with fail
             exact ⟨rfl, _, rfl, HTT.out _ _ (rfl) (Only.refl _ _)⟩
           · intro x wx ox hN TT HTT
             have r57 : x 7 = (.slice a5 N c5) := hN.1 rfl
             have r59 : x 9 = (.int .u32 (4 + (kx : Int))) := hN.2.1 rfl
             have r56 : x 6 = (.bool false) := hN.2.2.1 rfl
             clear hN
             unfold StepTo
             simp only [putAll, Act.put, List.setIfInBounds_toArray, List.set_cons_succ, List.set_cons_zero, r57, r59, r56]
             clear r57 r59 r56
             have hs := HHF.out wx
             go_wp2_with fail
             exact ⟨rfl, _, rfl, HTT.out _ _ (rfl) (Only.refl _ _)⟩
           · intro x wx ox hN TT HTT
             have r60 : x 10 = (.slice aF (N - (4 + kx)) cF) := hN.1 rfl
             have r56 : x 6 = (.bool false) := hN.2.1 rfl
             clear hN
             unfold StepTo
             simp only [putAll, Act.put, List.setIfInBounds_toArray, List.set_cons_succ, List.set_cons_zero, r60, r56]
             clear r60 r56
             have hc := get_any _ _ wx (HFA.out wx (((Only.refl _ wr).drewN n5).drew.trans ox)).2.1 (by rw [HDL.out]; omega)
             rw [HGE.out] at hc
             have HC := Lib.hid hc; clear hc
             go_wp2_with fail
             refine HC.out.mono ?_
             rintro e w6 ⟨rfl, n6, rfl⟩
             go_wp2_with fail
             exact ⟨rfl, _, rfl, HTT.out _ _ (rfl) ((Only.refl _ _).drewN n6)⟩
           · intro x wx ox hN TT HTT
             have r56 : x 6 = (.bool false) := hN.1 rfl
             clear hN
             unfold StepTo
             simp only [putAll, Act.put, List.setIfInBounds_toArray, List.set_cons_succ, List.set_cons_zero, r56]
             clear r56
             go_wp2_with fail
             exact ⟨rfl, _, rfl, HTT.out _ _ (rfl) (Only.refl _ _)⟩
           · intro x wx ox hN TT HTT
             have r62 : x 12 = (.pointer (some ⟨l, 0, none⟩)) := hN.1 rfl
             have r56 : x 6 = (.bool false) := hN.2.1 rfl
             clear hN
             unfold StepTo
             simp only [putAll, Act.put, List.setIfInBounds_toArray, List.set_cons_succ, List.set_cons_zero, r62, r56]
             clear r62 r56
             go_wp2_with fail
             exact ⟨rfl, _, rfl, HTT.out _ _ (rfl) (Only.refl _ _)⟩
           · intro x wx ox hN TT HTT
             have r63 : x 13 = (.pointer (some ⟨l, 0, none⟩)) := hN.1 rfl
             have r56 : x 6 = (.bool false) := hN.2.1 rfl
             clear hN
             unfold StepTo
             simp only [putAll, Act.put, List.setIfInBounds_toArray, List.set_cons_succ, List.set_cons_zero, r63, r56]
             clear r63 r56
             go_wp2_with fail
             exact ⟨rfl, _, rfl, HTT.out _ _ (rfl) (Only.refl _ _)⟩
           · intro x wx ox hN TT HTT
             have r64 : x 14 = (.pointer (some ⟨l, 4, none⟩)) := hN.1 rfl
             have r56 : x 6 = (.bool false) := hN.2.1 rfl
             clear hN
             unfold StepTo
             simp only [putAll, Act.put, List.setIfInBounds_toArray, List.set_cons_succ, List.set_cons_zero, r64, r56]
             clear r64 r56
             obtain ⟨_, _, _, _, d4, _, _, _, _, _⟩ := (HFA.out wx (((Only.refl _ wr).drewN n5).drew.trans ox)).1.cells
             go_wp2_with fail
             exact ⟨rfl, _, rfl, HTT.out _ _ (rfl) (Only.refl _ _)⟩
           · intro x wx ox hN TT HTT
             have r56 : x 6 = (.bool false) := hN.1 rfl
             clear hN
             unfold StepTo
             simp only [putAll, Act.put, List.setIfInBounds_toArray, List.set_cons_succ, List.set_cons_zero, r56]
             clear r56
             go_wp2_with fail
             exact ⟨rfl, _, rfl, HTT.out _ _ (rfl) (Only.refl _ _)⟩
           · intro x wx ox hN TT HTT
             have r56 : x 6 = (.bool false) := hN.1 rfl
             clear hN
             unfold StepTo
             simp only [putAll, Act.put, List.setIfInBounds_toArray, List.set_cons_succ, List.set_cons_zero, r56]
             clear r56
             go_wp2_with fail
             exact ⟨rfl, _, rfl, HTT.out _ _ (rfl) (Only.refl _ _)⟩
           · intro x wx ox hN TT HTT
             have r56 : x 6 = (.bool false) := hN.1 rfl
             clear hN
             unfold StepTo
             simp only [putAll, Act.put, List.setIfInBounds_toArray, List.set_cons_succ, List.set_cons_zero, r56]
             clear r56
             go_wp2_with fail
             exact ⟨rfl, _, rfl, HTT.out _ _ (rfl) (Only.refl _ _)⟩
           · intro x wx ox hN TT HTT
             have r68 : x 18 = (.int .u32 (kx : Int)) := hN.1 rfl
             have r56 : x 6 = (.bool false) := hN.2.1 rfl
             clear hN
             unfold StepTo
             simp only [putAll, Act.put, List.setIfInBounds_toArray, List.set_cons_succ, List.set_cons_zero, r68, r56]
             clear r68 r56
             go_wp2_with fail
             exact ⟨rfl, _, rfl, HTT.out _ _ (rfl) (Only.refl _ _)⟩
           · intro x wx ox hN TT HTT
             have r67 : x 17 = (.slice a5 N c5) := hN.1 rfl
             have r69 : x 19 = (.int .u32 (4 + (kx : Int))) := hN.2.1 rfl
             have r56 : x 6 = (.bool false) := hN.2.2.1 rfl
             clear hN
             unfold StepTo
             simp only [putAll, Act.put, List.setIfInBounds_toArray, List.set_cons_succ, List.set_cons_zero, r67, r69, r56]
             clear r67 r69 r56
             have hs := HHT.out wx
             go_wp2_with fail
             exact ⟨rfl, _, rfl, HTT.out _ _ (rfl) (Only.refl _ _)⟩
           · intro x wx ox hN TT HTT
             have r65 : x 15 = (.int .u64 (f.turn : Int)) := hN.1 rfl
             have r66 : x 16 = (.int .i64 (dn : Int)) := hN.2.1 rfl
             have r70 : x 20 = (.slice aT (4 + kx) cT) := hN.2.2.1 rfl
             have r61 : x 11 = (.int .u32 (g1 : Int)) := hN.2.2.2.1 rfl
             have r56 : x 6 = (.bool false) := hN.2.2.2.2.1 rfl
             clear hN
             unfold StepTo
             simp only [putAll, Act.put, List.setIfInBounds_toArray, List.set_cons_succ, List.set_cons_zero, r65, r66, r70, r61, r56]
             clear r65 r66 r70 r61 r56
             have hc := mark_any f.turn dn _ _ wx (by have := OK.out.turn; omega) (by omega) (HFA.out wx (((Only.refl _ wr).drewN n5).drew.trans ox)).2.2 (by rw [HTL.out]; omega)
             rw [HMK.out] at hc
             have HC := Lib.hid hc; clear hc
             go_wp2_with fail
             refine HC.out.mono ?_
             rintro e w6 ⟨rfl, o6⟩
             go_wp2_with fail
             exact ⟨rfl, _, rfl, HTT.out _ _ (rfl) (o6)⟩
           · intro x wx ox hN TT HTT
             have r61 : x 11 = (.int .u32 (g1 : Int)) := hN.1 rfl
             have r71 : x 21 = (.int .u32 (mk : Int)) := hN.2.1 rfl
             have r56 : x 6 = (.bool false) := hN.2.2.1 rfl
             clear hN
             unfold StepTo
             simp only [putAll, Act.put, List.setIfInBounds_toArray, List.set_cons_succ, List.set_cons_zero, r61, r71, r56]
             clear r61 r71 r56
             go_wp2_with fail
             exact ⟨rfl, _, rfl, HTT.out _ _ (rfl) (Only.refl _ _)⟩
           intro xa wxa oxa hN
           have r50 : xa 0 = (.int .u32 (kx : Int)) := hN.1
           have r51 : xa 1 = (.slice a5 N c5) := hN.2.1
           have r52 : xa 2 = (.int .i64 (N : Int)) := hN.2.2.1
           have r53 : xa 3 = (.int .i64 ((N : Int) - 8)) := hN.2.2.2.1
           have r54 : xa 4 = (.int .u32 ((N : Int) - 8)) := hN.2.2.2.2.1
           have r55 : xa 5 = (.bool false) := hN.2.2.2.2.2.1
           have r56 : xa 6 = (.bool false) := hN.2.2.2.2.2.2.1
           have r57 : xa 7 = (.slice a5 N c5) := hN.2.2.2.2.2.2.2.1
           have r58 : xa 8 = (.int .u32 (kx : Int)) := hN.2.2.2.2.2.2.2.2.1
           have r59 : xa 9 = (.int .u32 (4 + (kx : Int))) := hN.2.2.2.2.2.2.2.2.2.1
           have r60 : xa 10 = (.slice aF (N - (4 + kx)) cF) := hN.2.2.2.2.2.2.2.2.2.2.1
           have r61 : xa 11 = (.int .u32 (g1 : Int)) := hN.2.2.2.2.2.2.2.2.2.2.2.1
           have r62 : xa 12 = (.pointer (some ⟨l, 0, none⟩)) := hN.2.2.2.2.2.2.2.2.2.2.2.2.1
           have r63 : xa 13 = (.pointer (some ⟨l, 0, none⟩)) := hN.2.2.2.2.2.2.2.2.2.2.2.2.2.1
           have r64 : xa 14 = (.pointer (some ⟨l, 4, none⟩)) := hN.2.2.2.2.2.2.2.2.2.2.2.2.2.2.1
           have r65 : xa 15 = (.int .u64 (f.turn : Int)) := hN.2.2.2.2.2.2.2.2.2.2.2.2.2.2.2.1
           have r66 : xa 16 = (.int .i64 (dn : Int)) := hN.2.2.2.2.2.2.2.2.2.2.2.2.2.2.2.2.1
           have r67 : xa 17 = (.slice a5 N c5) := hN.2.2.2.2.2.2.2.2.2.2.2.2.2.2.2.2.2.1
           have r68 : xa 18 = (.int .u32 (kx : Int)) := hN.2.2.2.2.2.2.2.2.2.2.2.2.2.2.2.2.2.2.1
           have r69 : xa 19 = (.int .u32 (4 + (kx : Int))) := hN.2.2.2.2.2.2.2.2.2.2.2.2.2.2.2.2.2.2.2.1
           have r70 : xa 20 = (.slice aT (4 + kx) cT) := hN.2.2.2.2.2.2.2.2.2.2.2.2.2.2.2.2.2.2.2.2.1
           have r71 : xa 21 = (.int .u32 (mk : Int)) := hN.2.2.2.2.2.2.2.2.2.2.2.2.2.2.2.2.2.2.2.2.2.1
           have r72 : xa 22 = (.bool bb) := hN.2.2.2.2.2.2.2.2.2.2.2.2.2.2.2.2.2.2.2.2.2.2.1
           clear hN
           simp only [putAll, Act.put, List.setIfInBounds_toArray, List.set_cons_succ, List.set_cons_zero, r50, r51, r52, r53, r54, r55, r56, r57, r58, r59, r60, r61, r62, r63, r64, r65, r66, r67, r68, r69, r70, r71, r72]
           clear r50 r51 r52 r53 r54 r55 r56 r57 r58 r59 r60 r61 r62 r63 r64 r65 r66 r67 r68 r69 r70 r71 r72
           have oa : Only (fun _ => False) wr wxa := (((Only.refl (fun _ => False) wr).drewN n5).drew).trans oxa
           have OA := Lib.hid oa
           clear oa hbb
           cases rest with
           | nil =>
             have hbt : bb = true := by
               have hz : P = List.replicate z 0 := by rw [HP.out]; rfl
               have hg0 : g1 = 0 := by
                 rw [← HGE.out, hz, List.drop_replicate]
                 unfold get32
                 have e : ∀ i, (List.replicate (z - (4 + kx)) (0 : UInt8)).getD i 0 = 0 := fun i => by
                   rw [List.getD_eq_getElem?_getD, List.getElem?_replicate]; split <;> rfl
                 rw [e, e, e, e]; rfl
               have hm := (mark_lt f.turn dn (P.take (4 + kx))).1
               rw [HMK.out] at hm
               rw [← HBBB.out, hg0]
               simp; omega
             subst hbt
             have hd : fs = done := by rw [HFD.out, List.append_nil]
             have HHd : Hid (Half w wxa (.slice a9 done.length c9) done vs) := Lib.hid (HH.out.still OA.out)
             rw [← hd] at HHd ⊢
             go_wp2_with fail
             go_meet
             case rel => exact ⟨vs, a9, c9, rfl, HHd⟩
           | cons x rest =>
             have hx := HL8.out x (by rw [HFD.out]; simp)
             have eP : P = frm f.turn dn x ++ (laid f.turn (dn + 1) rest ++ List.replicate z 0) := by rw [HP.out]; simp [laid, List.append_assoc]
             obtain ⟨hw1, hw2, hw3, hw4⟩ := whole_frm (t := f.turn) (n := dn) (p := x) (by omega) (laid f.turn (dn + 1) rest ++ List.replicate z 0)
             rw [← eP] at hw1 hw2 hw3 hw4
             rw [HK.out] at hw2
             subst hw2
             have hbt : bb = false := by
               have := hw1.2.2
               rw [HK.out, HGE.out, HMK.out] at this
               rw [← HBBB.out, this]; simp
             subst hbt
             have hbx := HBP.out.still OA.out
             obtain ⟨aC, cC, hC, hbC, hoC⟩ := cutB hbx 4 (4 + x.length) (by omega) (by have := HN.out; omega) .i64 .u32
             obtain ⟨aR, cR, hR, hbR, hoR⟩ := cutFrom hbx (8 + x.length) (by have := HN.out; omega) .u32
             have e4 : ((4 + x.length : Nat) : Int) = 4 + (x.length : Int) := by omega
             have e8 : ((8 + x.length : Nat) : Int) = 8 + (x.length : Int) := by omega
             have ex : (P.take (4 + x.length)).drop 4 = x := by rw [List.drop_take, Nat.add_sub_cancel_left]; exact hw4
             have e44 : 4 + x.length - 4 = x.length := by omega
             rw [ex, e44] at hbC
             have e0 : ((4 : Nat) : Int) = 4 := rfl
             rw [e4, e44, e0] at hC
             rw [e8] at hR
             rw [hw3] at hbR
             rw [HN.out] at hR hbR hoR hC
             have HHC := Lib.hid hC; have HHR := Lib.hid hR; have HBR := Lib.hid hbR; have HOR := Lib.hid hoR
             have HX := Lib.hid hx
             have hcl := clone_any _ x wxa hbC (by omega)
             have HCL := Lib.hid hcl
             have z3 : IntKind.u32.wrap (8 + (x.length : Int)) = 8 + (x.length : Int) := by rw [IntKind.wrap_u32]; omega
             have hHw := HH.out.still OA.out
             have HHW := Lib.hid hHw
             have hEND : ∀ w' : World, (laid f.turn (dn + 1) rest ++ List.replicate z 0).length = N - (8 + x.length) := fun _ => by
               rw [← hw3, List.length_drop, HN.out]
             have HEND := Lib.hid (hEND w)
             clear hC hR hbR hoR hx hcl hHw hbx hbC hoC eP hw1 hw3 hw4 ex e44 hEND
             have hsC := HHC.out wxa
             go_wp2_with fail
             refine HCL.out.mono ?_
             rintro e w6 ⟨v6, rfl, h6, o6⟩
             obtain ⟨a6, c6, rfl⟩ := h6.form
             have hn := heap_new w6 (.cells #[.slice a6 x.length c6] 22)
             have on := (Only.refl (fun _ => False) w6).alloc (.cells #[.slice a6 x.length c6] 22)
             have h7 := h6.still on
             have o7 := o6.trans on
             have hys : ∀ j u, [Value.slice a6 x.length c6][j]? = some u → (w6.alloc (.cells #[.slice a6 x.length c6] 22)).cell? ((⟨w6.heap.size, 0, none⟩ : Addr).add j) = some u := fun j u hu => by rw [addr_add]; exact range_of_block (cs := [Value.slice a6 x.length c6]) hn j u hu
             have how := (HHW.out.still o7).own
             have hB7 : w.heap.size ≤ (w6.alloc (.cells #[.slice a6 x.length c6] 22)).heap.size := (HHW.out.only.trans o7).size
             have hdl2 : done.length ≤ 640000 := by have := HDN.out; have := d1; omega
             have H7 := Lib.hid h7; have O7 := Lib.hid o7; have HYS := Lib.hid hys; have HOW := Lib.hid how; have HB7 := Lib.hid hB7; have HD2 := Lib.hid hdl2
             clear h6 o6 hn on h7 o7 hys how hB7 hdl2 hsC
             have hsR := HHR.out
             go_wp2_with ((refine wpList_append_own2 (o := ⟨some 81, _, _, _, _, _⟩) rfl (.tmp 74) (.tmp 80) 60 22 (by rfl) Try.underlying60 infoSl rfl (by decide) w.heap.size (.slice a9 done.length c9) done.length 1 1 vs [.slice a6 x.length c6] ⟨w6.heap.size, 0, none⟩ (by rfl) (by rfl) HOW.out (by rfl) HYS.out (by intro u hu; simp at hu; subst hu; rfl) (by have := HD2.out; unfold maxLen; omega) (by have := HD2.out; omega) HB7.out ?_; intro v' w9 q1 q2 q3))
             have hpush := HHW.out.push O7.out H7.out q2 q1 q3
             obtain ⟨a', c', e', _, _, hlt'⟩ := own_form q1
             subst e'
             clear hsR
             have hb9 : Bytes w9 (.slice aR (N - (8 + x.length)) cR) (laid f.turn (dn + 1) rest ++ List.replicate z 0) := (HBR.out.still O7.out).only q2 (fun hp k hk => (HPB.out (by have := HN.out; omega) k (by rw [HN.out]; exact HOR.out k hk)).2)
             have hp9 : 0 < (laid f.turn (dn + 1) rest ++ List.replicate z 0).length → ∀ k, (Value.slice aR (N - (8 + x.length)) cR).ownBlock = some k → w.heap.size ≤ k ∧ (Value.slice a' (done.length + 1) c').ownBlock ≠ some k := fun hp k hk => by
               have h1 := HPB.out (by have := HN.out; omega) k (by rw [HN.out]; exact HOR.out k hk)
               refine ⟨h1.1, fun e => ?_⟩
               rcases q3 k e with h | h
               · exact h1.2 h
               · have := (HBR.out.still O7.out).blk hp hk; omega
             have HPUSH := Lib.hid hpush; have HB9 := Lib.hid hb9; have HP9 := Lib.hid hp9
             have hnn : ((done ++ [x]).length : Nat) = done.length + 1 := by simp
             clear hpush hb9 hp9 q1 q2 q3 hlt' HYS HOW
             go_wp2_with fail
             go_roundw
             case rel => exact ⟨dn + 1, done ++ [x], rest, laid f.turn (dn + 1) rest ++ List.replicate z 0, _, aR, cR, a', c', by rw [HEND.out], by rw [hnn], by simp [go_sem], Lib.hid (by rw [HFD.out]; simp), Lib.hid (by rw [HDN.out, hnn]), Lib.hid rfl, by rw [HEND.out]; exact HB9, by rw [HEND.out, hnn]; exact Lib.hid (by have := HP9.out; rw [HEND.out] at this; exact this), by rw [hnn]; exact HPUSH⟩
             case measure => simp [intOf]; omega
         · have t8 : decide ((8 : Int) ≤ (P.length : Int)) = false := by simp; omega
           have hr : rest = [] := by
             cases rest with
             | nil => rfl
             | cons x rest =>
               have := congrArg List.length HP.out
               simp only [laid, List.length_append, frm_len] at this
               omega
           have hd : fs = done := by rw [HFD.out, hr, List.append_nil]
           have HHd : Hid (Half w wr (.slice a9 done.length c9) done vs) := HH
           rw [← hd] at HHd ⊢
           go_wp2_with fail
           go_meet
           case rel => exact ⟨vs, a9, c9, rfl, HHd⟩
      case rest =>
        obtain ⟨vs, a9, c9, rfl, HH⟩ := hcut
        have hpl := Pieces.list (G := fun q => w.heap.size ≤ q ∧ (Value.slice a9 fs.length c9).ownBlock ≠ some q) bytesP_weakens HH.out.pcs HH.out.own (fun q hq => hq.1)
        obtain ⟨a9', c9', e9, hc1, hc2, hla⟩ := hpl
        injection e9 with e9 _ e9'
        subst e9; subst e9'
        have hfl : 0 < fs.length := by rw [HFS.out]; simp
        obtain ⟨g9, off9, rfl, hg9, hg9l, hrow⟩ := hla hfl
        obtain ⟨fl, hfll⟩ : ∃ fl, fs.length = fl := ⟨_, rfl⟩
        have hrl : rs.length = fl - 1 := by rw [← hfll, HFS.out]; simp
        have HROW := Lib.hid hrow; have HRL := Lib.hid hrl; have HH' := Lib.hid HH.out.only; have HG9 := Lib.hid hg9; have HC1 := Lib.hid hc1; have HC2 := Lib.hid hc2
        have hrow2 := hrow
        rw [HFS.out] at hrow2
        obtain ⟨⟨cs, hcs1, hcs2, asv, cs0, rfl, hsB, hsG⟩, hrow3⟩ := hrow2
        have hcell : wc.cell? ⟨g9, off9, none⟩ = some (.slice asv s.length cs0) := hcs2 0 _ rfl
        obtain ⟨a', c', e9, hb9, hc9, ho9⟩ : ∃ a' c', sliced (some ⟨g9, off9, none⟩) 1 fl c9 1 = .slice a' (fl - 1) c' ∧ fl - 1 ≤ c' ∧ c' ≤ c9 ∧ (0 < fl - 1 → a' = some ⟨g9, off9 + 1, none⟩) := by
          refine ⟨_, _, rfl, by rw [hfll] at hc1; omega, Nat.sub_le _ _, fun hp => ?_⟩
          rw [if_neg (by rw [hfll] at hc1; omega)]
          simp [addr_add]
        have hfl1 : (1 : Int) ≤ (fl : Int) := by rw [hfll] at hfl; omega
        have hsl : ∀ w', (Instr.slice 60 (.slice (some ⟨g9, off9, none⟩) fl c9) (some (.int .i64 1)) none none).run Try.prog w' = .ok (.slice a' (fl - 1) c') w' := fun w' => by
          rw [run_slice_l w' 60 (some ⟨g9, off9, none⟩) fl c9 (by kernel_rfl) .i64 1 (by decide) hfl1, show (sizeOf (Try.prog.elem 60)).run Try.prog w' = .ok 1 w' from by kernel_rfl]
          simp only [Result.andThen]
          rw [← e9]; rfl
        have hfin : ∀ n, Recs (wc.drewN n) (fun q => w.heap.size ≤ q) (.slice asv s.length cs0) (.slice a' (fl - 1) c') s rs := fun n => by
          refine ⟨⟨asv, cs0, rfl, hsB.drewN n, hsG⟩, a', c', by rw [hrl], by rw [hrl]; exact hb9, Nat.le_trans hc9 hc2, fun hp => ?_⟩
          rw [hrl] at hp
          exact ⟨g9, off9 + 1, ho9 hp, hg9, hg9l, rowAt_only bytesP_keeps ((Only.refl (fun _ => False) wc).drewN n) (fun _ _ h => h) rs g9 (off9 + 1) hg9l hg9 hrow3⟩
        have hfl2 : fl ≤ 640000 := by have := HFL.out; rw [hfll] at this; exact this
        have q1 : (0 : Int) < (fl : Int) := by omega
        have q2 : 0 < fl := by omega
        have t3 : ((fl : Int) == 0) = false := by simp; omega
        have t4 : (fl == 0) = false := by simp; omega
        have HFIN := Lib.hid hfin
        rw [hfll]
        clear hfin hrow hrow3 hcs2 hsB hsG hla hrl hg9 hfll hc1 hc2 e9 hb9 ho9 hc9 hfl hg9l hcs1
        go_upto_region 20 with (fail)
        go_quiet (fail)
        clear hsl hcell
        go_wp2
        go_ret3
        exact ⟨_, _, rfl, HFIN.out nq, HH'.out.drewN nq⟩
end Go.Proofs.Ytlkglhgndfhjeaa
