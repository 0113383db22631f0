/- Package link: DecodeTell. -/
import Derived.Test.YtoojnpafcdaflaaLda
import Derived.Deep.CutBlock
namespace Go.Proofs.Ytoojnpafcdaflaa
open Go Go.RowKit
set_option linter.unusedVariables false
set_option linter.unusedSimpArgs false
set_option maxRecDepth 100000

def nxt {α τ : Type} (o : Option (α × List UInt8)) (g : α → List UInt8 → Option τ) : Option τ := match o with
  | none => none
  | some p => g p.1 p.2
theorem decTellB_eq (l : List UInt8) : decTellB l = nxt (decU 4 l) fun c r1 => nxt (decU 1152921504606846976 r1) fun done r2 => nxt (decQ 20 (decT 32) r2) fun ks r3 => nxt (decU 1152921504606846976 r3) fun since r4 => nxt (decU 1152921504606846976 r4) fun ver r5 => nxt (decQ 200 decE1 r5) fun xs r6 => nxt (decQ 40 (decT 200) r6) fun gs r7 => some (⟨c, done, ks, since, ver, xs, gs⟩, r7) := by
  unfold decTellB nxt
  cases decU 4 l with
  | none => rfl
  | some p =>
    obtain ⟨c, r1⟩ := p
    dsimp only
    cases decU 1152921504606846976 r1 with
    | none => rfl
    | some p =>
      obtain ⟨done, r2⟩ := p
      dsimp only
      cases decQ 20 (decT 32) r2 with
      | none => rfl
      | some p =>
        obtain ⟨ks, r3⟩ := p
        dsimp only
        cases decU 1152921504606846976 r3 with
        | none => rfl
        | some p =>
          obtain ⟨since, r4⟩ := p
          dsimp only
          cases decU 1152921504606846976 r4 with
          | none => rfl
          | some p =>
            obtain ⟨ver, r5⟩ := p
            dsimp only
            cases decQ 200 decE1 r5 with
            | none => rfl
            | some p =>
              obtain ⟨xs, r6⟩ := p
              dsimp only
              cases decQ 40 (decT 200) r6 with
              | none => rfl
              | some p =>
                obtain ⟨gs, r7⟩ := p
                rfl
/-- What is still to come of a reading: where there is no fault, the whole is g; else it is none. -/
structure Cont {τ : Type} (res : Option τ) (β : Bool) (g : Option τ) : Prop where
  good : β = false → res = g
  bad : β = true → res = none
theorem Cont.step {α τ : Type} {res : Option τ} {β β' : Bool} {o : Option (α × List UInt8)} {g : α → List UInt8 → Option τ} {x : α} {r : List UInt8} (h : Cont res β (nxt o g)) (h1 : β' = false → β = false ∧ o = some (x, r)) (h2 : β' = true → β = true ∨ o = none) : Cont res β' (g x r) :=
  ⟨fun hb => by rw [h.good (h1 hb).1, (h1 hb).2]; rfl, fun hb => by
    rcases h2 hb with h3 | h3
    · exact h.bad h3
    · cases β with
      | true => exact h.bad rfl
      | false => rw [h.good rfl, h3]; rfl⟩
theorem tell_end {m r1 : List UInt8} {β : Bool} {t : TellV} {r : List UInt8} (h0 : decU 2 m = some (2, r1)) (h : Cont (decTellB r1) β (some (t, r))) : (β = false → r = [] → TellOf m t) ∧ (¬ (β = false ∧ r = []) → ∀ a, ¬ TellOf m a) := by
  refine ⟨fun hb hr => ⟨r1, h0, by rw [h.good hb, hr]⟩, fun hne a ha => ?_⟩
  obtain ⟨r', k1, k2⟩ := ha
  rw [h0] at k1; injection k1 with k1; injection k1 with _ k1
  subst k1
  cases β with
  | true => rw [h.bad rfl] at k2; cases k2
  | false =>
    rw [h.good rfl] at k2; injection k2 with k2; injection k2 with _ k2
    exact hne ⟨rfl, k2⟩

theorem infoEnt : (Try.prog.info? 69).map (fun i => (i.zero, i.size, i.bytes)) = some (some (.agg #[.string ByteArray.empty, .string ByteArray.empty, .slice none 0 0, .slice none 0 0]), 4, 80) := by kernel_rfl
theorem zero_Tell (w : World) : (zeroValue 83).run Try.prog w = .ok (.agg #[.int .i64 0, .int .u64 0, .slice none 0 0, .int .u64 0, .int .u64 0, .slice none 0 0, .slice none 0 0]) w := by kernel_rfl
def RDt (w : World) (l : List UInt8) (e : Ending) (w' : World) : Prop :=
  Only (fun _ => False) w w' ∧
  ((∃ c : Int, OpenCode l c ∧ c ≠ 0 ∧ e = .returned (.tuple #[.agg #[.int .i64 0, .int .u64 0, .slice none 0 0, .int .u64 0, .int .u64 0, .slice none 0 0, .slice none 0 0], .int .i64 c])) ∨
   (∃ m, l = sealed m ∧ (∀ a, ¬ TellOf m a) ∧ e = .returned (.tuple #[.agg #[.int .i64 0, .int .u64 0, .slice none 0 0, .int .u64 0, .int .u64 0, .slice none 0 0, .slice none 0 0], .int .i64 3])) ∨
   (∃ m a cs, l = sealed m ∧ TellOf m a ∧ e = .returned (.tuple #[.agg cs.toArray, .int .i64 0]) ∧ TellAt w' (fun q => w.heap.size ≤ q) a cs))
/-- Ahead of a round of the loop: m things are still to come. -/
def DInvt (w : World) (b X B : Nat) (c done : Nat) (ks : List (List UInt8)) (ak : Option Addr) (ck since ver : Nat) (l5 : List UInt8) (β5 : Bool) (m : Nat) (wr : World) : Prop :=
  ∃ (ms : List (List UInt8 × List UInt8 × List (List UInt8) × List VT)) (vL : Value) (xs : List Value) (G : Nat → Prop) (r : List UInt8) (β' : Bool), wr.heap[X]? = some (.cells #[.int .i64 c, .int .u64 done, .slice ak ks.length ck, .int .u64 since, .int .u64 ver, vL, .slice none 0 0] 83 (0, 0)) ∧ wr.heap[w.heap.size]? = some (.cells #[.int .i64 0, .int .u64 0, .slice none 0 0, .int .u64 0, .int .u64 0, .slice none 0 0, .slice none 0 0] 83 (0, 0)) ∧
    wr.ownsRow B 69 4 vL ms.length xs ∧ Pieces 4 EntP wr G ms xs ∧ (∀ q, G q → B ≤ q ∧ q < wr.heap.size ∧ vL.ownBlock ≠ some q) ∧
    ListAt 1 TextP wr (fun q => w.heap.size + 1 ≤ q ∧ q < B ∧ q ≠ b ∧ q ≠ X) ak ks ∧ ReaderAt wr b r β' ∧ Only (fun _ => False) w wr ∧ B ≤ wr.heap.size ∧ LRead 200 decE1 l5 β5 ms r m β' ∧ ms.length + m ≤ 200
set_option maxHeartbeats 16000000 in
theorem dcdt_any (v : Value) (l : List UInt8) (w : World) (h : Bytes w v l) (hl : l.length ≤ 1000000000) : Calls Try.prog 52 #[v] w (RDt w l) := by
  have hz := zero_Tell
  have oa := (Only.refl (fun _ => False) w).alloc (.cells #[.int .i64 0, .int .u64 0, .slice none 0 0, .int .u64 0, .int .u64 0, .slice none 0 0, .slice none 0 0] 83)
  have hR0 := heap_new w (.cells #[.int .i64 0, .int .u64 0, .slice none 0 0, .int .u64 0, .int .u64 0, .slice none 0 0, .slice none 0 0] 83)
  have hsa : (w.alloc (.cells #[.int .i64 0, .int .u64 0, .slice none 0 0, .int .u64 0, .int .u64 0, .slice none 0 0, .slice none 0 0] 83)).heap.size = w.heap.size + 1 := by simp
  have hb := begin_any v l 2 _ (h.still oa) hl (by decide) (by decide)
  have HB0 := Lib.hid hb; have OA := Lib.hid oa; have HR0 := Lib.hid hR0; have HSA := Lib.hid hsa; clear hb oa hR0 hsa h
  go_enter Try.func52, Try.ntmps52
  go_wp2_with fail
  refine HB0.out.mono ?_
  rintro e w1 ⟨o1, hcase⟩
  have hR1 := (o1.block _ (by rw [HSA.out]; omega) (fun h => h)).trans HR0.out
  have ho1 := OA.out.trans o1
  have hsz1 : w.heap.size + 1 ≤ w1.heap.size := by rw [← HSA.out]; exact o1.size
  have H1C : Hid (∀ u ∈ ([.int .i64 0, .int .u64 0, .slice none 0 0, .int .u64 0, .int .u64 0, .slice none 0 0, .slice none 0 0] : List Value), u.oneCell' = true) := Lib.hid (by intro v hv; simp only [List.mem_cons, List.not_mem_nil, or_false] at hv; rcases hv with rfl | rfl | rfl | rfl | rfl | rfl | rfl <;> rfl)
  rcases hcase with ⟨cc, h1, h2, rfl⟩ | ⟨m, h1, h2, rfl⟩ | ⟨m, r1, b, c, r2, β2, h1, h2, rfl, h4, h5, h6, h7, h8⟩
  · have t1 : (cc != 0) = true := by simpa using h2
    have HR1 := Lib.hid hR1; have HO1 := Lib.hid ho1; have HC1 := Lib.hid h1; have HC2 := Lib.hid h2; clear hR1 ho1 h1 h2 o1 hsz1
    go_wp2_with ((refine wpList_store_box (o := ⟨none, _, _, _, _, _⟩) rfl 83 (.tmp 2) (.tmp 17) (by rfl) w.heap.size [.int .i64 0, .int .u64 0, .slice none 0 0, .int .u64 0, .int .u64 0, .slice none 0 0, .slice none 0 0] [.int .i64 0, .int .u64 0, .slice none 0 0, .int .u64 0, .int .u64 0, .slice none 0 0, .slice none 0 0] (by rfl) (by rfl) HR1.out rfl (by kernel_rfl) H1C.out ?_; intro w6 h6 o6))
    have hfin : RDt w l (.returned (.tuple #[.agg #[.int .i64 0, .int .u64 0, .slice none 0 0, .int .u64 0, .int .u64 0, .slice none 0 0, .slice none 0 0], .int .i64 cc])) w6 := ⟨HO1.out.trans' o6 (fun q hq e => by omega), .inl ⟨cc, HC1.out, HC2.out, rfl⟩⟩
    obtain ⟨z0, z1, z2, z3, z4, z5, z6⟩ := box7 h6
    exact bodyPost_ret (v := .tuple #[.agg #[.int .i64 0, .int .u64 0, .slice none 0 0, .int .u64 0, .int .u64 0, .slice none 0 0, .slice none 0 0], .int .i64 cc]) (by simp [results, Try.results52, go_sem, z0, z1, z2, z3, z4, z5, z6]) rfl hfin
  · have HR1 := Lib.hid hR1; have HO1 := Lib.hid ho1; have HC1 := Lib.hid h1; have HC2 := Lib.hid (fun a (h : TellOf m a) => h2 _ h.choose_spec.1); clear hR1 ho1 h1 h2 o1 hsz1
    go_wp2_with ((refine wpList_store_box (o := ⟨none, _, _, _, _, _⟩) rfl 83 (.tmp 2) (.tmp 17) (by rfl) w.heap.size [.int .i64 0, .int .u64 0, .slice none 0 0, .int .u64 0, .int .u64 0, .slice none 0 0, .slice none 0 0] [.int .i64 0, .int .u64 0, .slice none 0 0, .int .u64 0, .int .u64 0, .slice none 0 0, .slice none 0 0] (by rfl) (by rfl) HR1.out rfl (by kernel_rfl) H1C.out ?_; intro w6 h6 o6))
    have hfin : RDt w l (.returned (.tuple #[.agg #[.int .i64 0, .int .u64 0, .slice none 0 0, .int .u64 0, .int .u64 0, .slice none 0 0, .slice none 0 0], .int .i64 3])) w6 := ⟨HO1.out.trans' o6 (fun q hq e => by omega), .inr (.inl ⟨m, HC1.out, HC2.out, rfl⟩)⟩
    obtain ⟨z0, z1, z2, z3, z4, z5, z6⟩ := box7 h6
    exact bodyPost_ret (v := .tuple #[.agg #[.int .i64 0, .int .u64 0, .slice none 0 0, .int .u64 0, .int .u64 0, .slice none 0 0, .slice none 0 0], .int .i64 3]) (by simp [results, Try.results52, go_sem, z0, z1, z2, z3, z4, z5, z6]) rfl hfin
  -- the good way
  have hc0 : (0 : Int) ≤ (c : Int) := by omega
  have hb1 : w.heap.size + 1 ≤ b := by rw [← HSA.out]; exact h4
  have hblt := h5.lt
  have hcont0 : Cont (decTellB r1) false (decTellB r1) := ⟨fun _ => rfl, fun h => by cases h⟩
  rw [decTellB_eq r1] at hcont0
  have hcont1 := hcont0.step (β' := β2) (x := c) (r := r2) (fun hb => ⟨rfl, h7 hb⟩) (fun hb => .inr (h8 hb).2)
  rw [← decTellB_eq r1] at hcont1
  have hk := ruint_b b 1152921504606846976 r2 β2 w1 h5 (by decide)
  have HR1 := Lib.hid hR1; have HO1 := Lib.hid ho1; have HM := Lib.hid h1; have HD0 := Lib.hid h2; have HB1 := Lib.hid hb1; have HBLT := Lib.hid hblt; have HC6 := Lib.hid h6; have HCT1 := Lib.hid hcont1; have HK := Lib.hid hk; have HSZ1 := Lib.hid hsz1
  clear hR1 ho1 h1 h2 hb1 hblt h4 h5 h6 h7 h8 hk o1 hsz1 hcont0 hcont1
  go_wp2_with fail
  refine HK.out.mono ?_
  rintro e w2 ⟨done, ra, βa, rfl, hdo, h5, o2, a1, a2⟩
  have hcont := HCT1.out.step a1 (fun hb => (a2 hb).2)
  have hR2 := (o2.block _ (by have := HSZ1.out; omega) (by have := HB1.out; omega)).trans HR1.out
  have hO2 : Only (fun _ => False) w w2 := HO1.out.trans' o2 (fun q hq e => by have := HB1.out; omega)
  have hX := heap_new w2 (.cells #[.int .i64 c, .int .u64 done, .slice none 0 0, .int .u64 0, .int .u64 0, .slice none 0 0, .slice none 0 0] 83)
  have oX := (Only.refl (fun _ => False) w2).alloc (.cells #[.int .i64 c, .int .u64 done, .slice none 0 0, .int .u64 0, .int .u64 0, .slice none 0 0, .slice none 0 0] 83)
  have hsX : (w2.alloc (.cells #[.int .i64 c, .int .u64 done, .slice none 0 0, .int .u64 0, .int .u64 0, .slice none 0 0, .slice none 0 0] 83)).heap.size = w2.heap.size + 1 := by simp
  have hRX := heap_old hR2 (.cells #[.int .i64 c, .int .u64 done, .slice none 0 0, .int .u64 0, .int .u64 0, .slice none 0 0, .slice none 0 0] 83)
  have hb3 : b < w2.heap.size := h5.lt
  have hwb3 : w.heap.size < w2.heap.size := by have := HB1.out; omega
  have hOX := hO2.trans oX
  have hk := untexts_any b 20 32 ra βa _ (h5.still oX) (by decide) (by decide)
  have HCT := Lib.hid hcont; have HX := Lib.hid hX; have HSX := Lib.hid hsX; have HRX := Lib.hid hRX; have HB3 := Lib.hid hb3; have HWB := Lib.hid hwb3; have HOX := Lib.hid hOX; have HK2 := Lib.hid hk; have HDO := Lib.hid hdo
  clear hcont hR2 hO2 hX oX hsX hRX hb3 hwb3 hOX hk a1 a2 h5 o2 hdo HCT1 hz
  go_wp2_with fail
  refine HK2.out.mono ?_
  rintro e w3 ⟨ks, rb, βb, ak, ck, rfl, f1, f2, hks, f3, f4, h6, o3, a1, a2⟩
  have hcont := HCT.out.step a1 a2
  have hX3 := (o3.block w2.heap.size (by rw [HSX.out]; omega) (by have := HB3.out; omega)).trans HX.out
  have hR3 := (o3.block w.heap.size (by rw [HSX.out]; have := HWB.out; omega) (by have := HB1.out; omega)).trans HRX.out
  have hO3 : Only (fun _ => False) w w3 := HOX.out.trans' o3 (fun q hq e => by have := HB1.out; omega)
  have hs3 : w2.heap.size + 1 ≤ w3.heap.size := by rw [← HSX.out]; exact o3.size
  have hlt3 : w2.heap.size < w3.heap.size := by omega
  have hfz3 : w3.frozen? ⟨w2.heap.size, 2, none⟩ = false := by simp [World.frozen?, hX3]
  obtain ⟨z0, z1, z2, z3, z4, z5, z6⟩ := box7 hX3
  have hX3s := heap_set (o := 2) hX3 (.slice ak ks.length ck)
  have hX3s : (w3.setCell ⟨w2.heap.size, 2, none⟩ (.slice ak ks.length ck)).heap[w2.heap.size]? = some (.cells #[.int .i64 c, .int .u64 done, .slice ak ks.length ck, .int .u64 0, .int .u64 0, .slice none 0 0, .slice none 0 0] 83 (0, 0)) := by simpa using hX3s
  have o3s := (Only.refl (fun k => k = w2.heap.size) w3).setCell (p := ⟨w2.heap.size, 2, none⟩) (.inl rfl) (.slice ak ks.length ck)
  have hR3s := (o3s.block w.heap.size (by have := HWB.out; omega) (by have := HWB.out; omega)).trans hR3
  have h6s := h6.past o3s (fun k hk => by have := HB3.out; omega)
  have hO3s : Only (fun _ => False) w (w3.setCell ⟨w2.heap.size, 2, none⟩ (.slice ak ks.length ck)) := hO3.trans' o3s (fun q hq e => by have := HWB.out; omega)
  have hks3 := (hks.only textP_keeps o3s (fun q hq e => by have h : _ ≤ q := hq; rw [HSX.out] at h; omega)).weaken (G' := fun q => w.heap.size + 1 ≤ q ∧ q < w3.heap.size ∧ q ≠ b ∧ q ≠ w2.heap.size) textP_weakens (fun q hq h => by have h' : _ ≤ q := h; rw [HSX.out] at h'; have hq' : q < w3.heap.size := (by simpa [World.setCell] using hq); have := HWB.out; have := HB3.out; exact ⟨by omega, hq', by omega, by omega⟩)
  have hsz3 : (w3.setCell ⟨w2.heap.size, 2, none⟩ (.slice ak ks.length ck)).heap.size = w3.heap.size := by simp [World.setCell]
  have hu := ruint_b b 1152921504606846976 rb βb _ h6s (by decide)
  have HCT3 := Lib.hid hcont; have HX3 := Lib.hid hX3s; have HR3 := Lib.hid hR3s; have HO3 := Lib.hid hO3s; have HKS := Lib.hid hks3; have HSZ3 := Lib.hid hsz3; have HS3 := Lib.hid hs3; have HU := Lib.hid hu; have F := Lib.hid (show Fits ks.length ck from ⟨f1, f2⟩)
  clear hcont hX3 hR3 hO3 hs3 hX3s o3s hR3s h6s hO3s hks hks3 hsz3 hu a1 a2 h6 o3 f1 f2 f3 f4 HCT HX HSX HRX HOX HK2
  go_wp2_with fail
  clear z0 z1 z2 z3 z4 z5 z6 hlt3 hfz3
  refine HU.out.mono ?_
  rintro e w4 ⟨since, rc, βc, rfl, hsi, h7, o4, a1, a2⟩
  have hcont := HCT3.out.step a1 (fun hb => (a2 hb).2)
  have hu := ruint_b b 1152921504606846976 rc βc w4 h7 (by decide)
  have HCT4 := Lib.hid hcont; have HU4 := Lib.hid hu; have O4 := Lib.hid o4; have HSI := Lib.hid hsi; clear hcont hu o4 hsi h7 a1 a2
  go_wp2_with fail
  refine HU4.out.mono ?_
  rintro e w4b ⟨ver, r4, β4, rfl, hve, h8, o4b, a1, a2⟩
  have hcont := HCT4.out.step a1 (fun hb => (a2 hb).2)
  have o34 : Only (fun k => k = b) _ w4b := O4.out.trans o4b
  have hs4 : w3.heap.size ≤ w4b.heap.size := by rw [← HSZ3.out]; exact o34.size
  have hX4 := (o34.block w2.heap.size (by rw [HSZ3.out]; have := HS3.out; omega) (by have := HB3.out; omega)).trans HX3.out
  have hR4 := (o34.block w.heap.size (by rw [HSZ3.out]; have := HS3.out; have := HWB.out; omega) (by have := HB1.out; omega)).trans HR3.out
  have hO4 : Only (fun _ => False) w w4b := HO3.out.trans' o34 (fun q hq e => by have := HB1.out; omega)
  have hK4 := HKS.out.only textP_keeps o34 (fun q hq e => hq.2.2.1 e)
  have hlt4 : w2.heap.size < w4b.heap.size := by have := HS3.out; omega
  have hfz4 : w4b.frozen? ⟨w2.heap.size, 2 + 1, none⟩ = false := by simp [World.frozen?, hX4]
  have hfz5 : w4b.frozen? ⟨w2.heap.size, 2 + 2, none⟩ = false := by simp [World.frozen?, hX4]
  obtain ⟨z0, z1, z2, z3, z4, z5, z6⟩ := box7 hX4
  have hXa := heap_set (o := 2 + 1) hX4 (.int .u64 since)
  have hXa : (w4b.setCell ⟨w2.heap.size, 2 + 1, none⟩ (.int .u64 since)).heap[w2.heap.size]? = some (.cells #[.int .i64 c, .int .u64 done, .slice ak ks.length ck, .int .u64 since, .int .u64 0, .slice none 0 0, .slice none 0 0] 83 (0, 0)) := by simpa using hXa
  have hXb := heap_set (o := 2 + 2) hXa (.int .u64 ver)
  have hXb : ((w4b.setCell ⟨w2.heap.size, 2 + 1, none⟩ (.int .u64 since)).setCell ⟨w2.heap.size, 2 + 2, none⟩ (.int .u64 ver)).heap[w2.heap.size]? = some (.cells #[.int .i64 c, .int .u64 done, .slice ak ks.length ck, .int .u64 since, .int .u64 ver, .slice none 0 0, .slice none 0 0] 83 (0, 0)) := by simpa using hXb
  have oab := ((Only.refl (fun k => k = w2.heap.size) w4b).setCell (p := ⟨w2.heap.size, 2 + 1, none⟩) (.inl rfl) (.int .u64 since)).setCell (p := ⟨w2.heap.size, 2 + 2, none⟩) (.inl rfl) (.int .u64 ver)
  obtain ⟨ya0, ya1, ya2, ya3, ya4, ya5, ya6⟩ := box7 hXa
  have hRb := (oab.block w.heap.size (by have := HWB.out; omega) (by have := HWB.out; omega)).trans hR4
  have h8b := h8.past oab (fun k hk => by have := HB3.out; omega)
  have hOb := hO4.trans' oab (fun q hq e => by have := HWB.out; omega)
  have hKb := hK4.only textP_keeps oab (fun q hq e => hq.2.2.2 e)
  have hszb : ((w4b.setCell ⟨w2.heap.size, 2 + 1, none⟩ (.int .u64 since)).setCell ⟨w2.heap.size, 2 + 2, none⟩ (.int .u64 ver)).heap.size = w4b.heap.size := by simp [World.setCell]
  have hu := ruint_b b 200 r4 β4 _ h8b (by decide)
  have HCT := Lib.hid hcont; have HXB := Lib.hid hXb; have HRB := Lib.hid hRb; have HOB := Lib.hid hOb; have HKB := Lib.hid hKb; have HSZB := Lib.hid hszb; have HU5 := Lib.hid hu; have HVE := Lib.hid hve; have HS4 := Lib.hid hs4
  clear hcont o34 hs4 hX4 hR4 hO4 hK4 hXa hXb oab hRb h8b hOb hKb hszb hu a1 a2 h8 o4b hve HCT3 HX3 HR3 HO3 HKS HSZ3 HU HU4 O4 HCT4
  go_wp2_with fail
  clear z0 z1 z2 z3 z4 z5 z6 hlt4 hfz4 hfz5 ya0 ya1 ya2 ya3 ya4 ya5 ya6
  refine HU5.out.mono ?_
  rintro e w5 ⟨n, r5, β5, rfl, hn, h9, o5, c1, c2⟩
  have hlr := LRead.start (dec := decE1) c1 c2
  have hs5 : w4b.heap.size ≤ w5.heap.size := by rw [← HSZB.out]; exact o5.size
  have hs25 : w2.heap.size + 1 ≤ w5.heap.size := by have := HS3.out; have := HS4.out; omega
  have hX5 := (o5.block w2.heap.size (by rw [HSZB.out]; have := HS3.out; have := HS4.out; omega) (by have := HB3.out; omega)).trans HXB.out
  have hR5 := (o5.block w.heap.size (by rw [HSZB.out]; have := HS3.out; have := HS4.out; have := HWB.out; omega) (by have := HB1.out; omega)).trans HRB.out
  have hO5 : Only (fun _ => False) w w5 := HOB.out.trans' o5 (fun q hq e => by have := HB1.out; omega)
  have hK5 := (HKB.out.only textP_keeps o5 (fun q hq e => hq.2.2.1 e)).weaken (G' := fun q => w.heap.size + 1 ≤ q ∧ q < w5.heap.size ∧ q ≠ b ∧ q ≠ w2.heap.size) textP_weakens (fun q hq h => ⟨h.1, hq, h.2.2.1, h.2.2.2⟩)
  have hinv : DInvt w b w2.heap.size w5.heap.size c done ks ak ck since ver r4 β4 n w5 := ⟨[], .slice none 0 0, [], fun _ => False, r5, β5, hX5, hR5, own_nil _ _ _ _, rfl, (fun _ h => h.elim), hK5, h9, hO5, Nat.le_refl _, hlr, by simpa using hn⟩
  have hcb : c ≤ 9223372036854775807 := by have := HC6.out; omega
  have hdb : done < 18446744073709551616 := by have := HDO.out; omega
  have hsb : since < 18446744073709551616 := by have := HSI.out; omega
  have hvb : ver < 18446744073709551616 := by have := HVE.out; omega
  have HINV := Lib.hid hinv; have HS5 := Lib.hid hs25; have HCB := Lib.hid hcb; have HDB := Lib.hid hdb; have HSB := Lib.hid hsb; have HVB := Lib.hid hvb
  clear hlr hs5 hs25 hX5 hR5 hO5 hK5 hinv c1 c2 h9 o5 hn HU5 HXB HRB HOB HKB HSZB HR1 HO1 HB0 OA HR0 HC6 HSI HDO HVE hcb hdb hsb hvb HS3 HS4 HK
  go_wp2_with fail
  obtain ⟨Xb, hXb⟩ : ∃ x, x = w2.heap.size := ⟨_, rfl⟩
  obtain ⟨Bb, hBb⟩ : ∃ x, x = w5.heap.size := ⟨_, rfl⟩
  rw [← hXb] at HS5 HB3 HWB HINV ⊢
  rw [← hBb] at HS5 HINV
  clear hXb hBb
  go_loopw [8] (fun v wr => ∃ m' : Nat, v = .int .u64 (m' : Int) ∧ m' ≤ 200 ∧ Hid (DInvt w b Xb Bb c done ks ak ck since ver r4 β4 m' wr)) (fun v _ => (intOf v).toNat)
  case atStart => exact ⟨n, rfl, by obtain ⟨ms, _, _, _, _, _, _, _, _, _, _, _, _, _, _, _, h⟩ := HINV.out; omega, HINV⟩
  case round =>
    obtain ⟨m', rfl, hm', HIN⟩ := hrel
    obtain ⟨ms, vL, xs, G, r, β', hXc, hRc, how, hpc, hG, hkl, hrd, ho, hBs, hlr, hlen⟩ := HIN.out
    obtain ⟨aL, cL, eL, gL1, gL2, gL3⟩ := own_form how
    subst eL
    have hXlt : Xb < wr.heap.size := (Array.getElem?_eq_some_iff.1 hXc).1
    have hRlt : w.heap.size < wr.heap.size := (Array.getElem?_eq_some_iff.1 hRc).1
    have hm0 : (0 : Int) ≤ (m' : Int) := by omega
    have hm1 : (m' : Int) ≤ 200 := by omega
    have gL2n : cL ≤ 9223372036854775807 := by unfold maxLen at gL2; omega
    have hmsn : ms.length ≤ 200 := by omega
    have HXC := Lib.hid hXc; have HRC := Lib.hid hRc; have HOW := Lib.hid how; have HPC := Lib.hid hpc; have HG := Lib.hid hG; have HKL := Lib.hid hkl; have HRD := Lib.hid hrd; have HO := Lib.hid ho; have HBS := Lib.hid hBs; have HLR := Lib.hid hlr; have HLEN := Lib.hid hlen; have HFL := Lib.hid gL3; have HXL := Lib.hid hXlt; have HRL := Lib.hid hRlt; have GL1 := Lib.hid gL1; have GL2 := Lib.hid gL2; have HMSN := Lib.hid hmsn
    clear hXc hRc how hpc hG hkl hrd ho hBs hlr hlen gL3 hXlt hRlt gL1 gL2 hmsn HIN
    by_cases hp : 0 < m'
    rotate_left
    · have t1 : decide ((0 : Int) < (m' : Int)) = false := by simp; omega
      have t2 : decide (0 < m') = false := by simpa using hp
      obtain rfl : m' = 0 := by omega
      go_wp2_with fail
      have hdone := HLR.out.done
      have hcont := HCT.out.step hdone.1 hdone.2
      have hk := untexts_any b 40 200 r β' wr HRD.out (by decide) (by decide)
      have HCT8 := Lib.hid hcont; have HK8 := Lib.hid hk; clear hdone hcont hk
      refine HK8.out.mono ?_
      rintro e w8 ⟨gs, r8, β8, ag, cg, rfl, f1, f2, hgs, f3, f4, h8, o8, a1, a2⟩
      have hcont := HCT8.out.step a1 a2
      obtain ⟨hend1, hend2⟩ := tell_end HD0.out hcont
      obtain ⟨aM, cM, eM, k1, k2, k3⟩ := HPC.out.list entP_weakens HOW.out (fun q hq => (HG.out q hq).1)
      injection eM with eM1 eM2 eM3
      subst eM1; subst eM3
      have hX8 := (o8.block Xb HXL.out (by have := HB3.out; omega)).trans HXC.out
      have hR8 := (o8.block w.heap.size HRL.out (by have := HB1.out; omega)).trans HRC.out
      have hlt8 : Xb < w8.heap.size := Nat.lt_of_lt_of_le HXL.out o8.size
      have hfz8 : w8.frozen? ⟨Xb, 2 + 4, none⟩ = false := by simp [World.frozen?, hX8]
      obtain ⟨z0, z1, z2, z3, z4, z5, z6⟩ := box7 hX8
      have hX9 := heap_set (o := 6) hX8 (.slice ag gs.length cg)
      have hX9 : (w8.setCell ⟨Xb, 2 + 4, none⟩ (.slice ag gs.length cg)).heap[Xb]? = some (.cells #[.int .i64 c, .int .u64 done, .slice ak ks.length ck, .int .u64 since, .int .u64 ver, (.slice aL ms.length cL), (.slice ag gs.length cg)] 83 (0, 0)) := by simpa using hX9
      have o9 := (Only.refl (fun k => k = Xb) w8).setCell (p := ⟨Xb, 2 + 4, none⟩) (.inl rfl) (.slice ag gs.length cg)
      have o89 : Only (fun q => q = b ∨ q = Xb) wr (w8.setCell ⟨Xb, 2 + 4, none⟩ (.slice ag gs.length cg)) := (o8.mono (T := fun q => q = b ∨ q = Xb) (fun _ _ h => .inl h)).trans (o9.mono (fun _ _ h => .inr h))
      have hR9 := (o9.block w.heap.size (by have := HRL.out; have := o8.size; omega) (by have := HWB.out; omega)).trans hR8
      have h9 := h8.past o9 (fun k hk => by have := HB3.out; omega)
      have hO9 : Only (fun _ => False) w (w8.setCell ⟨Xb, 2 + 4, none⟩ (.slice ag gs.length cg)) := HO.out.trans' o89 (fun q hq e => by have := HB1.out; have := HWB.out; rcases e with e | e <;> omega)
      have hkl9 := (HKL.out.only textP_keeps o89 (fun q hq e => by rcases e with e | e; exact hq.2.2.1 e; exact hq.2.2.2 e)).weaken (G' := fun q => w.heap.size + 1 ≤ q) textP_weakens (fun q _ h => h.1)
      have hml9 := (k3.only entP_keeps o89 (fun q hq e => by have := HS5.out; have := HB3.out; rcases e with e | e <;> omega)).weaken (G' := fun q => w.heap.size + 1 ≤ q) entP_weakens (fun q _ h => by have := HS5.out; have := HWB.out; omega)
      have hgs9 := (hgs.only textP_keeps o9 (fun q hq e => by have h : wr.heap.size ≤ q := hq; have := HXL.out; omega)).weaken (G' := fun q => w.heap.size + 1 ≤ q) textP_weakens (fun q _ h => by have h' : wr.heap.size ≤ q := h; have := HRL.out; omega)
      have hE := end_any b r8 β8 (w8.setCell ⟨Xb, 2 + 4, none⟩ (.slice ag gs.length cg)) h9
      have HE := Lib.hid hE; have HX9 := Lib.hid hX9; have HR9 := Lib.hid hR9; have HO9 := Lib.hid hO9; have HKL9 := Lib.hid hkl9; have HML9 := Lib.hid hml9; have HGS9 := Lib.hid hgs9; have HEND1 := Lib.hid hend1; have HEND2 := Lib.hid hend2; have FM := Lib.hid (show Fits ms.length cL from ⟨k1, k2⟩); have FG := Lib.hid (show Fits gs.length cg from ⟨f1, f2⟩)
      clear hE hX9 hR9 hO9 hkl9 hml9 hgs9 hend1 hend2 k1 k2 k3 f1 f2 f3 f4 hX8 hR8 o9 o89 h9 h8 o8 hgs a1 a2 hcont
      go_wp2_with fail
      clear z0 z1 z2 z3 z4 z5 z6 hlt8 hfz8
      refine HE.out.mono ?_
      rintro e w9 ⟨rfl, hw9⟩
      have HW9 := Lib.hid hw9; clear hw9
      by_cases hgo : β8 = false ∧ r8 = []
      · obtain ⟨e1, e2⟩ := hgo
        subst e1; subst e2
        have hof := HEND1.out rfl rfl
        have HR9' : Hid (w9.heap[w.heap.size]? = some (.cells #[.int .i64 0, .int .u64 0, .slice none 0 0, .int .u64 0, .int .u64 0, .slice none 0 0, .slice none 0 0] 83 (0, 0))) := Lib.hid (HW9.out ▸ HR9.out)
        have hx9' : w9.heap[Xb]? = some (.cells #[.int .i64 c, .int .u64 done, .slice ak ks.length ck, .int .u64 since, .int .u64 ver, (.slice aL ms.length cL), (.slice ag gs.length cg)] 83 (0, 0)) := HW9.out ▸ HX9.out
        obtain ⟨z0, z1, z2, z3, z4, z5, z6⟩ := box7 hx9'
        have HOF := Lib.hid hof; clear hof hx9'
        have H1D : Hid (∀ u ∈ ([.int .i64 c, .int .u64 done, .slice ak ks.length ck, .int .u64 since, .int .u64 ver, (.slice aL ms.length cL), (.slice ag gs.length cg)] : List Value), u.oneCell' = true) := Lib.hid (by intro v hv; simp only [List.mem_cons, List.not_mem_nil, or_false] at hv; rcases hv with rfl | rfl | rfl | rfl | rfl | rfl | rfl <;> rfl)
        go_wp2_with ((refine wpList_store_box (o := ⟨none, _, _, _, _, _⟩) rfl 83 (.tmp 2) (.tmp 63) (by rfl) w.heap.size [.int .i64 0, .int .u64 0, .slice none 0 0, .int .u64 0, .int .u64 0, .slice none 0 0, .slice none 0 0] [.int .i64 c, .int .u64 done, .slice ak ks.length ck, .int .u64 since, .int .u64 ver, (.slice aL ms.length cL), (.slice ag gs.length cg)] (by rfl) (by rfl) HR9'.out rfl (by kernel_rfl) H1D.out ?_; intro w6 h6 o6; clear z0 z1 z2 z3 z4 z5 z6))
        obtain ⟨z0, z1, z2, z3, z4, z5, z6⟩ := box7 h6
        have o96 : Only (fun k => k = w.heap.size) (w8.setCell ⟨Xb, 2 + 4, none⟩ (.slice ag gs.length cg)) w6 := HW9.out ▸ o6
        have hk6 := (HKL9.out.only textP_keeps o96 (fun q hq e => by omega)).weaken (G' := fun q => w.heap.size ≤ q) textP_weakens (fun q _ h => by omega)
        have hm6 := (HML9.out.only entP_keeps o96 (fun q hq e => by omega)).weaken (G' := fun q => w.heap.size ≤ q) entP_weakens (fun q _ h => by omega)
        have hg6 := (HGS9.out.only textP_keeps o96 (fun q hq e => by omega)).weaken (G' := fun q => w.heap.size ≤ q) textP_weakens (fun q _ h => by omega)
        have hfin : RDt w l (.returned (.tuple #[.agg #[.int .i64 c, .int .u64 done, .slice ak ks.length ck, .int .u64 since, .int .u64 ver, (.slice aL ms.length cL), (.slice ag gs.length cg)], .int .i64 0])) w6 := ⟨HO9.out.trans' o96 (fun q hq e => by omega), .inr (.inr ⟨m, ⟨c, done, ks, since, ver, ms, gs⟩, [.int .i64 c, .int .u64 done, .slice ak ks.length ck, .int .u64 since, .int .u64 ver, (.slice aL ms.length cL), (.slice ag gs.length cg)], HM.out, HOF.out, rfl, ak, ck, aL, cL, ag, cg, rfl, HCB.out, HDB.out, HSB.out, HVB.out, F.out, FM.out, FG.out, hk6, hm6, hg6⟩)⟩
        exact bodyPost_ret (v := .tuple #[.agg #[.int .i64 c, .int .u64 done, .slice ak ks.length ck, .int .u64 since, .int .u64 ver, (.slice aL ms.length cL), (.slice ag gs.length cg)], .int .i64 0]) (by simp [results, Try.results52, go_sem, z0, z1, z2, z3, z4, z5, z6]) rfl hfin
      · have hbt : (!β8 && r8.isEmpty) = false := by
          cases β8 with
          | true => rfl
          | false => cases r8 with | nil => exact absurd ⟨rfl, rfl⟩ hgo | cons x y => rfl
        have hno : ∀ a, ¬ TellOf m a := HEND2.out hgo
        rw [hbt]
        have HR9' : Hid (w9.heap[w.heap.size]? = some (.cells #[.int .i64 0, .int .u64 0, .slice none 0 0, .int .u64 0, .int .u64 0, .slice none 0 0, .slice none 0 0] 83 (0, 0))) := Lib.hid (HW9.out ▸ HR9.out)
        have HO9' : Hid (Only (fun _ => False) w w9) := Lib.hid (HW9.out ▸ HO9.out)
        have HNO := Lib.hid hno; clear hno hgo hbt
        go_wp2_with ((refine wpList_store_box (o := ⟨none, _, _, _, _, _⟩) rfl 83 (.tmp 2) (.tmp 62) (by rfl) w.heap.size [.int .i64 0, .int .u64 0, .slice none 0 0, .int .u64 0, .int .u64 0, .slice none 0 0, .slice none 0 0] [.int .i64 0, .int .u64 0, .slice none 0 0, .int .u64 0, .int .u64 0, .slice none 0 0, .slice none 0 0] (by rfl) (by rfl) HR9'.out rfl (by kernel_rfl) H1C.out ?_; intro w6 h6 o6))
        have hfin : RDt w l (.returned (.tuple #[.agg #[.int .i64 0, .int .u64 0, .slice none 0 0, .int .u64 0, .int .u64 0, .slice none 0 0, .slice none 0 0], .int .i64 3])) w6 := ⟨HO9'.out.trans' o6 (fun q hq e => by omega), .inr (.inl ⟨m, HM.out, HNO.out, rfl⟩)⟩
        obtain ⟨z0, z1, z2, z3, z4, z5, z6⟩ := box7 h6
        exact bodyPost_ret (v := .tuple #[.agg #[.int .i64 0, .int .u64 0, .slice none 0 0, .int .u64 0, .int .u64 0, .slice none 0 0, .slice none 0 0], .int .i64 3]) (by simp [results, Try.results52, go_sem, z0, z1, z2, z3, z4, z5, z6]) rfl hfin
    have t1 : decide ((0 : Int) < (m' : Int)) = true := by simp; omega
    have t2 : decide (0 < m') = true := by simpa using hp
    obtain ⟨m2, rfl⟩ : ∃ k, m' = k + 1 := ⟨m' - 1, by omega⟩
    cases β' with
    | true =>
      go_wp2_with fail
      refine (bad_any b r true wr HRD.out).mono ?_
      rintro e w9 ⟨rfl, rfl⟩
      go_wp2_with fail
      have hdone := HLR.out.stop
      have hcont := HCT.out.step hdone.1 hdone.2
      have hk := untexts_any b 40 200 r true wr HRD.out (by decide) (by decide)
      have HCT8 := Lib.hid hcont; have HK8 := Lib.hid hk; clear hdone hcont hk
      refine HK8.out.mono ?_
      rintro e w8 ⟨gs, r8, β8, ag, cg, rfl, f1, f2, hgs, f3, f4, h8, o8, a1, a2⟩
      have hcont := HCT8.out.step a1 a2
      obtain ⟨hend1, hend2⟩ := tell_end HD0.out hcont
      obtain ⟨aM, cM, eM, k1, k2, k3⟩ := HPC.out.list entP_weakens HOW.out (fun q hq => (HG.out q hq).1)
      injection eM with eM1 eM2 eM3
      subst eM1; subst eM3
      have hX8 := (o8.block Xb HXL.out (by have := HB3.out; omega)).trans HXC.out
      have hR8 := (o8.block w.heap.size HRL.out (by have := HB1.out; omega)).trans HRC.out
      have hlt8 : Xb < w8.heap.size := Nat.lt_of_lt_of_le HXL.out o8.size
      have hfz8 : w8.frozen? ⟨Xb, 2 + 4, none⟩ = false := by simp [World.frozen?, hX8]
      obtain ⟨z0, z1, z2, z3, z4, z5, z6⟩ := box7 hX8
      have hX9 := heap_set (o := 6) hX8 (.slice ag gs.length cg)
      have hX9 : (w8.setCell ⟨Xb, 2 + 4, none⟩ (.slice ag gs.length cg)).heap[Xb]? = some (.cells #[.int .i64 c, .int .u64 done, .slice ak ks.length ck, .int .u64 since, .int .u64 ver, (.slice aL ms.length cL), (.slice ag gs.length cg)] 83 (0, 0)) := by simpa using hX9
      have o9 := (Only.refl (fun k => k = Xb) w8).setCell (p := ⟨Xb, 2 + 4, none⟩) (.inl rfl) (.slice ag gs.length cg)
      have o89 : Only (fun q => q = b ∨ q = Xb) wr (w8.setCell ⟨Xb, 2 + 4, none⟩ (.slice ag gs.length cg)) := (o8.mono (T := fun q => q = b ∨ q = Xb) (fun _ _ h => .inl h)).trans (o9.mono (fun _ _ h => .inr h))
      have hR9 := (o9.block w.heap.size (by have := HRL.out; have := o8.size; omega) (by have := HWB.out; omega)).trans hR8
      have h9 := h8.past o9 (fun k hk => by have := HB3.out; omega)
      have hO9 : Only (fun _ => False) w (w8.setCell ⟨Xb, 2 + 4, none⟩ (.slice ag gs.length cg)) := HO.out.trans' o89 (fun q hq e => by have := HB1.out; have := HWB.out; rcases e with e | e <;> omega)
      have hkl9 := (HKL.out.only textP_keeps o89 (fun q hq e => by rcases e with e | e; exact hq.2.2.1 e; exact hq.2.2.2 e)).weaken (G' := fun q => w.heap.size + 1 ≤ q) textP_weakens (fun q _ h => h.1)
      have hml9 := (k3.only entP_keeps o89 (fun q hq e => by have := HS5.out; have := HB3.out; rcases e with e | e <;> omega)).weaken (G' := fun q => w.heap.size + 1 ≤ q) entP_weakens (fun q _ h => by have := HS5.out; have := HWB.out; omega)
      have hgs9 := (hgs.only textP_keeps o9 (fun q hq e => by have h : wr.heap.size ≤ q := hq; have := HXL.out; omega)).weaken (G' := fun q => w.heap.size + 1 ≤ q) textP_weakens (fun q _ h => by have h' : wr.heap.size ≤ q := h; have := HRL.out; omega)
      have hE := end_any b r8 β8 (w8.setCell ⟨Xb, 2 + 4, none⟩ (.slice ag gs.length cg)) h9
      have HE := Lib.hid hE; have HX9 := Lib.hid hX9; have HR9 := Lib.hid hR9; have HO9 := Lib.hid hO9; have HKL9 := Lib.hid hkl9; have HML9 := Lib.hid hml9; have HGS9 := Lib.hid hgs9; have HEND1 := Lib.hid hend1; have HEND2 := Lib.hid hend2; have FM := Lib.hid (show Fits ms.length cL from ⟨k1, k2⟩); have FG := Lib.hid (show Fits gs.length cg from ⟨f1, f2⟩)
      clear hE hX9 hR9 hO9 hkl9 hml9 hgs9 hend1 hend2 k1 k2 k3 f1 f2 f3 f4 hX8 hR8 o9 o89 h9 h8 o8 hgs a1 a2 hcont
      go_wp2_with fail
      clear z0 z1 z2 z3 z4 z5 z6 hlt8 hfz8
      refine HE.out.mono ?_
      rintro e w9 ⟨rfl, hw9⟩
      have HW9 := Lib.hid hw9; clear hw9
      by_cases hgo : β8 = false ∧ r8 = []
      · obtain ⟨e1, e2⟩ := hgo
        subst e1; subst e2
        have hof := HEND1.out rfl rfl
        have HR9' : Hid (w9.heap[w.heap.size]? = some (.cells #[.int .i64 0, .int .u64 0, .slice none 0 0, .int .u64 0, .int .u64 0, .slice none 0 0, .slice none 0 0] 83 (0, 0))) := Lib.hid (HW9.out ▸ HR9.out)
        have hx9' : w9.heap[Xb]? = some (.cells #[.int .i64 c, .int .u64 done, .slice ak ks.length ck, .int .u64 since, .int .u64 ver, (.slice aL ms.length cL), (.slice ag gs.length cg)] 83 (0, 0)) := HW9.out ▸ HX9.out
        obtain ⟨z0, z1, z2, z3, z4, z5, z6⟩ := box7 hx9'
        have HOF := Lib.hid hof; clear hof hx9'
        have H1D : Hid (∀ u ∈ ([.int .i64 c, .int .u64 done, .slice ak ks.length ck, .int .u64 since, .int .u64 ver, (.slice aL ms.length cL), (.slice ag gs.length cg)] : List Value), u.oneCell' = true) := Lib.hid (by intro v hv; simp only [List.mem_cons, List.not_mem_nil, or_false] at hv; rcases hv with rfl | rfl | rfl | rfl | rfl | rfl | rfl <;> rfl)
        go_wp2_with ((refine wpList_store_box (o := ⟨none, _, _, _, _, _⟩) rfl 83 (.tmp 2) (.tmp 63) (by rfl) w.heap.size [.int .i64 0, .int .u64 0, .slice none 0 0, .int .u64 0, .int .u64 0, .slice none 0 0, .slice none 0 0] [.int .i64 c, .int .u64 done, .slice ak ks.length ck, .int .u64 since, .int .u64 ver, (.slice aL ms.length cL), (.slice ag gs.length cg)] (by rfl) (by rfl) HR9'.out rfl (by kernel_rfl) H1D.out ?_; intro w6 h6 o6; clear z0 z1 z2 z3 z4 z5 z6))
        obtain ⟨z0, z1, z2, z3, z4, z5, z6⟩ := box7 h6
        have o96 : Only (fun k => k = w.heap.size) (w8.setCell ⟨Xb, 2 + 4, none⟩ (.slice ag gs.length cg)) w6 := HW9.out ▸ o6
        have hk6 := (HKL9.out.only textP_keeps o96 (fun q hq e => by omega)).weaken (G' := fun q => w.heap.size ≤ q) textP_weakens (fun q _ h => by omega)
        have hm6 := (HML9.out.only entP_keeps o96 (fun q hq e => by omega)).weaken (G' := fun q => w.heap.size ≤ q) entP_weakens (fun q _ h => by omega)
        have hg6 := (HGS9.out.only textP_keeps o96 (fun q hq e => by omega)).weaken (G' := fun q => w.heap.size ≤ q) textP_weakens (fun q _ h => by omega)
        have hfin : RDt w l (.returned (.tuple #[.agg #[.int .i64 c, .int .u64 done, .slice ak ks.length ck, .int .u64 since, .int .u64 ver, (.slice aL ms.length cL), (.slice ag gs.length cg)], .int .i64 0])) w6 := ⟨HO9.out.trans' o96 (fun q hq e => by omega), .inr (.inr ⟨m, ⟨c, done, ks, since, ver, ms, gs⟩, [.int .i64 c, .int .u64 done, .slice ak ks.length ck, .int .u64 since, .int .u64 ver, (.slice aL ms.length cL), (.slice ag gs.length cg)], HM.out, HOF.out, rfl, ak, ck, aL, cL, ag, cg, rfl, HCB.out, HDB.out, HSB.out, HVB.out, F.out, FM.out, FG.out, hk6, hm6, hg6⟩)⟩
        exact bodyPost_ret (v := .tuple #[.agg #[.int .i64 c, .int .u64 done, .slice ak ks.length ck, .int .u64 since, .int .u64 ver, (.slice aL ms.length cL), (.slice ag gs.length cg)], .int .i64 0]) (by simp [results, Try.results52, go_sem, z0, z1, z2, z3, z4, z5, z6]) rfl hfin
      · have hbt : (!β8 && r8.isEmpty) = false := by
          cases β8 with
          | true => rfl
          | false => cases r8 with | nil => exact absurd ⟨rfl, rfl⟩ hgo | cons x y => rfl
        have hno : ∀ a, ¬ TellOf m a := HEND2.out hgo
        rw [hbt]
        have HR9' : Hid (w9.heap[w.heap.size]? = some (.cells #[.int .i64 0, .int .u64 0, .slice none 0 0, .int .u64 0, .int .u64 0, .slice none 0 0, .slice none 0 0] 83 (0, 0))) := Lib.hid (HW9.out ▸ HR9.out)
        have HO9' : Hid (Only (fun _ => False) w w9) := Lib.hid (HW9.out ▸ HO9.out)
        have HNO := Lib.hid hno; clear hno hgo hbt
        go_wp2_with ((refine wpList_store_box (o := ⟨none, _, _, _, _, _⟩) rfl 83 (.tmp 2) (.tmp 62) (by rfl) w.heap.size [.int .i64 0, .int .u64 0, .slice none 0 0, .int .u64 0, .int .u64 0, .slice none 0 0, .slice none 0 0] [.int .i64 0, .int .u64 0, .slice none 0 0, .int .u64 0, .int .u64 0, .slice none 0 0, .slice none 0 0] (by rfl) (by rfl) HR9'.out rfl (by kernel_rfl) H1C.out ?_; intro w6 h6 o6))
        have hfin : RDt w l (.returned (.tuple #[.agg #[.int .i64 0, .int .u64 0, .slice none 0 0, .int .u64 0, .int .u64 0, .slice none 0 0, .slice none 0 0], .int .i64 3])) w6 := ⟨HO9'.out.trans' o6 (fun q hq e => by omega), .inr (.inl ⟨m, HM.out, HNO.out, rfl⟩)⟩
        obtain ⟨z0, z1, z2, z3, z4, z5, z6⟩ := box7 h6
        exact bodyPost_ret (v := .tuple #[.agg #[.int .i64 0, .int .u64 0, .slice none 0 0, .int .u64 0, .int .u64 0, .slice none 0 0, .slice none 0 0], .int .i64 3]) (by simp [results, Try.results52, go_sem, z0, z1, z2, z3, z4, z5, z6]) rfl hfin
    | false =>
      go_wp2_with fail
      refine (bad_any b r false wr HRD.out).mono ?_
      rintro e w9 ⟨rfl, rfl⟩
      go_upto_region 10 with (fail)
      have HSZL : Hid (wr.heap.size ≤ wr.heap.size) := Lib.hid (Nat.le_refl _)
      refine wp_region_stepsM 9 (by kernel_rfl) rfl (by kernel_rfl) [some 46, some 47, some 48, some 49, some 50, some 51, some 52, some 53, some 54] rfl rfl 4 6 (fun q => q = b) (fun q => (Value.slice aL ms.length cL).ownBlock = some q) [5, 6, 7, 8, 9] (by kernel_rfl) [3] (by kernel_rfl) (by decide) (by decide) (.inr ⟨by decide, by decide⟩) [(fun v _ => v = (.pointer (some ⟨Xb, 2, none⟩))), (fun v _ => v = (.pointer (some ⟨Xb, 2 + 3, none⟩))), (fun v _ => v = (.slice aL ms.length cL)), (fun v _ => v = (.pointer (some ⟨b, 0, none⟩))), (fun v w1 => ∃ (x : (List UInt8 × List UInt8 × List (List UInt8) × List VT)) (d0 d1 d2 d3 : Value) (rV : List UInt8) (βV : Bool), v = .agg #[d0, d1, d2, d3] ∧ (∀ u ∈ [d0, d1, d2, d3], u.oneCell' = true) ∧ EntP w1 (fun q => wr.heap.size ≤ q) x [d0, d1, d2, d3] ∧ ReaderAt w1 b rV βV ∧ (βV = false → decE1 r = some (x, rV)) ∧ (βV = true → decE1 r = none)), (fun v w1 => ∃ (g : Nat) (x : (List UInt8 × List UInt8 × List (List UInt8) × List VT)) (cs : List Value) (rV : List UInt8) (βV : Bool), v = .slice (some ⟨g, 0, none⟩) 1 1 ∧ wr.heap.size ≤ g ∧ g < w1.heap.size ∧ cs.length = 4 ∧ (∀ u ∈ cs, u.oneCell' = true) ∧ w1.rangeAt g 0 cs ∧ EntP w1 (fun q => wr.heap.size ≤ q) x cs ∧ ReaderAt w1 b rV βV ∧ (βV = false → decE1 r = some (x, rV)) ∧ (βV = true → decE1 r = none)), (fun v w1 => ∃ (x : (List UInt8 × List UInt8 × List (List UInt8) × List VT)) (cs : List Value) (rV : List UInt8) (βV : Bool), w1.ownsRow Bb 69 4 v (ms.length + 1) (xs ++ cs) ∧ (∀ q, v.ownBlock = some q → (Value.slice aL ms.length cL).ownBlock = some q ∨ wr.heap.size ≤ q) ∧ cs.length = 4 ∧ EntP w1 (fun q => wr.heap.size ≤ q ∧ v.ownBlock ≠ some q) x cs ∧ ReaderAt w1 b rV βV ∧ (βV = false → decE1 r = some (x, rV)) ∧ (βV = true → decE1 r = none)), (fun v _ => v = (.pointer (some ⟨Xb, 2, none⟩))), (fun v _ => v = (.pointer (some ⟨Xb, 2 + 3, none⟩)))] rfl ⟨?_, ?_, ?_, ?_, ?_, ?_, ?_, ?_, ?_, trivial⟩ _ rfl ⟨?_, ?_, ?_, ?_, ?_, ?_, ?_, ?_, ?_, trivial⟩ ?_
      · exact Stable.is _ _
      · exact Stable.is _ _
      · exact Stable.is _ _
      · exact Stable.is _ _
      · intro v w1 w2 h ho
        have ho : Only (fun q => (Value.slice aL ms.length cL).ownBlock = some q) w1 w2 := ho
        exact (by obtain ⟨x, d0, d1, d2, d3, rV, βV, e1, e2, e3, e4, e5⟩ := h; exact ⟨x, d0, d1, d2, d3, rV, βV, e1, e2, entP_keeps _ _ _ _ _ _ ho (fun q hq hk => by have := HFL.out q hk; have := HSZL.out; omega) e3, e4.past ho (fun k hk => by have := HFL.out k hk; have := HS5.out; have := HB3.out; omega), e5⟩)
      · intro v w1 w2 h ho
        have ho : Only (fun q => (Value.slice aL ms.length cL).ownBlock = some q) w1 w2 := ho
        exact (by obtain ⟨g, x, cs, rV, βV, e1, e2, e3, e4, e4b, e5, e6, e7, e8⟩ := h; have hng : ¬ (Value.slice aL ms.length cL).ownBlock = some g := fun hk => (by have := HFL.out g hk; have := HSZL.out; omega); exact ⟨g, x, cs, rV, βV, e1, e2, Nat.lt_of_lt_of_le e3 ho.size, e4, e4b, range_only e5 e3 ho hng, entP_keeps _ _ _ _ _ _ ho (fun q hq hk => by have := HFL.out q hk; have := HSZL.out; omega) e6, e7.past ho (fun k hk => by have := HFL.out k hk; have := HS5.out; have := HB3.out; omega), e8⟩)
      · intro v w1 w2 h ho
        have ho : Only (fun _ => False) w1 w2 := ho
        exact (by obtain ⟨x, cs, rV, βV, e1, e2, e3, e4, e5, e6⟩ := h; exact ⟨x, cs, rV, βV, own_only' e1 ho (fun _ _ h => h), e2, e3, entP_keeps _ _ _ _ _ _ ho (fun _ _ h => h) e4, e5.still ho, e6⟩)
      · exact Stable.is _ _
      · exact Stable.is _ _
      · intro x wx ox hN TT HTT
        have ox : Only (fun q => (fun q => q = b) q ∨ (fun q => (Value.slice aL ms.length cL).ownBlock = some q) q) _ wx := ox
        clear hN
        unfold StepTo
        simp only [putAll, Act.put, List.setIfInBounds_toArray, List.set_cons_succ, List.set_cons_zero]
        go_wp2_with fail
        exact ⟨rfl, _, rfl, HTT.out _ _ (rfl) (Only.refl _ _)⟩
      · intro x wx ox hN TT HTT
        have ox : Only (fun q => (fun q => q = b) q ∨ (fun q => (Value.slice aL ms.length cL).ownBlock = some q) q) _ wx := ox
        have r46 : x 0 = (.pointer (some ⟨Xb, 2, none⟩)) := hN.1 rfl
        clear hN
        unfold StepTo
        simp only [putAll, Act.put, List.setIfInBounds_toArray, List.set_cons_succ, List.set_cons_zero, r46]
        clear r46
        go_wp2_with fail
        exact ⟨rfl, _, rfl, HTT.out _ _ (rfl) (Only.refl _ _)⟩
      · intro x wx ox hN TT HTT
        have ox : Only (fun q => (fun q => q = b) q ∨ (fun q => (Value.slice aL ms.length cL).ownBlock = some q) q) _ wx := ox
        have r47 : x 1 = (.pointer (some ⟨Xb, 2 + 3, none⟩)) := hN.1 rfl
        clear hN
        unfold StepTo
        simp only [putAll, Act.put, List.setIfInBounds_toArray, List.set_cons_succ, List.set_cons_zero, r47]
        clear r47
        have hbx := (ox.block _ HXL.out (fun h => by rcases h with h | h; (have := HB3.out; omega); (have := HFL.out _ h; have := HS5.out; omega))).trans HXC.out
        obtain ⟨z0, z1, z2, z3, z4, z5, z6⟩ := box7 hbx
        clear hbx
        go_wp2_with fail
        exact ⟨rfl, _, rfl, HTT.out _ _ (rfl) (Only.refl _ _)⟩
      · intro x wx ox hN TT HTT
        have ox : Only (fun _ => False) _ wx := ox
        clear hN
        unfold StepTo
        simp only [putAll, Act.put, List.setIfInBounds_toArray, List.set_cons_succ, List.set_cons_zero]
        go_wp2_with fail
        exact ⟨rfl, _, rfl, HTT.out _ _ (rfl) (Only.refl _ _)⟩
      · intro x wx ox hN TT HTT
        have ox : Only (fun _ => False) _ wx := ox
        have r49 : x 3 = (.pointer (some ⟨b, 0, none⟩)) := hN.1 rfl
        clear hN
        unfold StepTo
        simp only [putAll, Act.put, List.setIfInBounds_toArray, List.set_cons_succ, List.set_cons_zero, r49]
        clear r49
        have hrx := HRD.out.still (((Only.refl _ wr).drew).trans ox)
        have hsl : wr.heap.size ≤ wx.heap.size := ox.size
        have ht := ent_elem b r false wx hrx
        have HT := Lib.hid ht; have HSL := Lib.hid hsl; clear ht hrx hsl
        go_wp2_with fail
        refine HT.out.mono ?_
        rintro e w6 ⟨x, cs, rV, βV, rfl, hcl, h1c, hp6, h6, o6, k1, k2⟩
        obtain ⟨d0, d1, d2, d3, rfl⟩ := list4 hcl
        have K1 := Lib.hid k1; have K2 := Lib.hid k2; have H6 := Lib.hid h6; have O6 := Lib.hid o6; have HP6 := Lib.hid hp6; have HC6' := Lib.hid h1c; clear k1 k2 h6 o6 hp6 h1c hcl
        go_wp2_with fail
        exact ⟨rfl, _, rfl, HTT.out _ _ (⟨x, d0, d1, d2, d3, rV, βV, rfl, HC6'.out, entP_weakens _ _ _ _ _ (fun q _ h => Nat.le_trans HSL.out h) HP6.out, H6.out, fun hb => (K1.out hb).2, fun hb => (K2.out hb).resolve_left (by simp)⟩) (O6.out)⟩
      · intro x wx ox hN TT HTT
        have ox : Only (fun q => (fun q => q = b) q ∨ (fun q => (Value.slice aL ms.length cL).ownBlock = some q) q) _ wx := ox
        have r50 : (fun (v : Value) (w1 : World) => ∃ (x : (List UInt8 × List UInt8 × List (List UInt8) × List VT)) (d0 d1 d2 d3 : Value) (rV : List UInt8) (βV : Bool), v = .agg #[d0, d1, d2, d3] ∧ (∀ u ∈ [d0, d1, d2, d3], u.oneCell' = true) ∧ EntP w1 (fun q => wr.heap.size ≤ q) x [d0, d1, d2, d3] ∧ ReaderAt w1 b rV βV ∧ (βV = false → decE1 r = some (x, rV)) ∧ (βV = true → decE1 r = none)) (x 4) wx := hN.1 rfl
        clear hN
        unfold StepTo
        simp only [putAll, Act.put, List.setIfInBounds_toArray, List.set_cons_succ, List.set_cons_zero]
        obtain ⟨x, d0, d1, d2, d3, rV, βV, e1, e2, e3, e4, e5, e6⟩ := r50
        simp only [e1]
        have hn := heap_new wx (.cells #[d0, d1, d2, d3] 69)
        have on := (Only.refl (fun _ => False) wx).alloc (.cells #[d0, d1, d2, d3] 69)
        have hgl : wr.heap.size ≤ wx.heap.size := ox.size
        have K1 := Lib.hid e5; have K2 := Lib.hid e6; have H3 := Lib.hid e4; have HN := Lib.hid hn; have ON := Lib.hid on; have HGL2 := Lib.hid hgl; have HV2 := Lib.hid e3; have HONE := Lib.hid e2; clear e1 e2 e3 e4 e5 e6 hn on hgl
        go_wp2_with fail
        exact ⟨rfl, _, rfl, HTT.out _ _ (⟨wx.heap.size, x, _, rV, βV, rfl, HGL2.out, by simp, rfl, HONE.out, range_of_block HN.out, entP_keeps _ _ _ _ _ _ ON.out (fun _ _ h => h) HV2.out, H3.out.still ON.out, K1.out, K2.out⟩) (ON.out)⟩
      · intro x wx ox hN TT HTT
        have ox : Only (fun q => q = b) _ wx := ox
        have r48 : x 2 = (.slice aL ms.length cL) := hN.1 rfl
        have r51 : (fun (v : Value) (w1 : World) => ∃ (g : Nat) (x : (List UInt8 × List UInt8 × List (List UInt8) × List VT)) (cs : List Value) (rV : List UInt8) (βV : Bool), v = .slice (some ⟨g, 0, none⟩) 1 1 ∧ wr.heap.size ≤ g ∧ g < w1.heap.size ∧ cs.length = 4 ∧ (∀ u ∈ cs, u.oneCell' = true) ∧ w1.rangeAt g 0 cs ∧ EntP w1 (fun q => wr.heap.size ≤ q) x cs ∧ ReaderAt w1 b rV βV ∧ (βV = false → decE1 r = some (x, rV)) ∧ (βV = true → decE1 r = none)) (x 5) wx := hN.2.1 rfl
        have r50 : (fun (v : Value) (w1 : World) => ∃ (x : (List UInt8 × List UInt8 × List (List UInt8) × List VT)) (d0 d1 d2 d3 : Value) (rV : List UInt8) (βV : Bool), v = .agg #[d0, d1, d2, d3] ∧ (∀ u ∈ [d0, d1, d2, d3], u.oneCell' = true) ∧ EntP w1 (fun q => wr.heap.size ≤ q) x [d0, d1, d2, d3] ∧ ReaderAt w1 b rV βV ∧ (βV = false → decE1 r = some (x, rV)) ∧ (βV = true → decE1 r = none)) (x 4) wx := hN.2.2.1 rfl
        clear hN
        unfold StepTo
        simp only [putAll, Act.put, List.setIfInBounds_toArray, List.set_cons_succ, List.set_cons_zero, r48]
        clear r48
        obtain ⟨g, x, cs, rV, βV, e1, e2, e3, e4, e4b, e5, e6, e7, e8, e9⟩ := r51
        simp only [e1]
        have hox := own_only' HOW.out (((Only.refl _ wr).drew).trans ox) (fun k hk e => by have := HFL.out k hk; have := HS5.out; have := HB3.out; omega)
        have hys : ∀ j u, cs[j]? = some u → wx.cell? ((⟨g, 0, none⟩ : Addr).add j) = some u := fun j u hu => by rw [addr_add]; exact e5 j u hu
        have hsl : wr.heap.size ≤ wx.heap.size := ox.size
        have HOX := Lib.hid hox; have HYS := Lib.hid hys; have HSL := Lib.hid hsl; have K1 := Lib.hid e8; have K2 := Lib.hid e9; have H6 := Lib.hid e7; have HV6 := Lib.hid e6; have HONE := Lib.hid e4b; clear hox hys hsl e8 e9 e7 e6 e5 e1 e4b
        go_wp2_with ((refine wpList_append_own2 (o := ⟨some 52, _, _, _, _, _⟩) rfl (.tmp 48) (.tmp 51) 79 69 (by rfl) Try.underlying79 infoEnt rfl (by decide) Bb (.slice aL ms.length cL) ms.length 1 1 xs cs ⟨g, 0, none⟩ (by rfl) (by rfl) HOX.out (by rw [e4]) HYS.out HONE.out (by have := HMSN.out; unfold maxLen; omega) (by have := HMSN.out; omega) (by have := HSL.out; have := HBS.out; omega) ?_; intro v' w9 q1 q2 q3))
        have hv8 : EntP wx (fun q => wr.heap.size ≤ q ∧ v'.ownBlock ≠ some q) x cs := entP_weakens _ _ _ _ _ (fun q hq h => ⟨h, fun hv => by rcases q3 q hv with h2 | h2; (have := HFL.out q h2; have := HSZL.out; omega); omega⟩) HV6.out
        have hv9 := entP_keeps _ _ _ _ _ _ q2 (fun q hq hk => by have := HFL.out q hk; have := HSZL.out; have := hq.1; omega) hv8
        exact ⟨rfl, _, rfl, HTT.out _ _ (⟨x, cs, rV, βV, q1, fun q hq => (q3 q hq).imp _root_.id (fun h => Nat.le_trans HSL.out h), e4, hv9, H6.out.past q2 (fun k hk => by have := HFL.out k hk; have := HS5.out; have := HB3.out; omega), K1.out, K2.out⟩) (q2)⟩
      · intro x wx ox hN TT HTT
        have ox : Only (fun q => (fun q => q = b) q ∨ (fun q => (Value.slice aL ms.length cL).ownBlock = some q) q) _ wx := ox
        have r46 : x 0 = (.pointer (some ⟨Xb, 2, none⟩)) := hN.1 rfl
        have r47 : x 1 = (.pointer (some ⟨Xb, 2 + 3, none⟩)) := hN.2.1 rfl
        have r48 : x 2 = (.slice aL ms.length cL) := hN.2.2.1 rfl
        have r49 : x 3 = (.pointer (some ⟨b, 0, none⟩)) := hN.2.2.2.1 rfl
        have r50 : (fun (v : Value) (w1 : World) => ∃ (x : (List UInt8 × List UInt8 × List (List UInt8) × List VT)) (d0 d1 d2 d3 : Value) (rV : List UInt8) (βV : Bool), v = .agg #[d0, d1, d2, d3] ∧ (∀ u ∈ [d0, d1, d2, d3], u.oneCell' = true) ∧ EntP w1 (fun q => wr.heap.size ≤ q) x [d0, d1, d2, d3] ∧ ReaderAt w1 b rV βV ∧ (βV = false → decE1 r = some (x, rV)) ∧ (βV = true → decE1 r = none)) (x 4) wx := hN.2.2.2.2.1 rfl
        have r51 : (fun (v : Value) (w1 : World) => ∃ (g : Nat) (x : (List UInt8 × List UInt8 × List (List UInt8) × List VT)) (cs : List Value) (rV : List UInt8) (βV : Bool), v = .slice (some ⟨g, 0, none⟩) 1 1 ∧ wr.heap.size ≤ g ∧ g < w1.heap.size ∧ cs.length = 4 ∧ (∀ u ∈ cs, u.oneCell' = true) ∧ w1.rangeAt g 0 cs ∧ EntP w1 (fun q => wr.heap.size ≤ q) x cs ∧ ReaderAt w1 b rV βV ∧ (βV = false → decE1 r = some (x, rV)) ∧ (βV = true → decE1 r = none)) (x 5) wx := hN.2.2.2.2.2.1 rfl
        have r52 : (fun (v : Value) (w1 : World) => ∃ (x : (List UInt8 × List UInt8 × List (List UInt8) × List VT)) (cs : List Value) (rV : List UInt8) (βV : Bool), w1.ownsRow Bb 69 4 v (ms.length + 1) (xs ++ cs) ∧ (∀ q, v.ownBlock = some q → (Value.slice aL ms.length cL).ownBlock = some q ∨ wr.heap.size ≤ q) ∧ cs.length = 4 ∧ EntP w1 (fun q => wr.heap.size ≤ q ∧ v.ownBlock ≠ some q) x cs ∧ ReaderAt w1 b rV βV ∧ (βV = false → decE1 r = some (x, rV)) ∧ (βV = true → decE1 r = none)) (x 6) wx := hN.2.2.2.2.2.2.1 rfl
        clear hN
        unfold StepTo
        simp only [putAll, Act.put, List.setIfInBounds_toArray, List.set_cons_succ, List.set_cons_zero, r46, r47, r48, r49]
        clear r46 r47 r48 r49
        go_wp2_with fail
        exact ⟨rfl, _, rfl, HTT.out _ _ (rfl) (Only.refl _ _)⟩
      · intro x wx ox hN TT HTT
        have ox : Only (fun q => (fun q => q = b) q ∨ (fun q => (Value.slice aL ms.length cL).ownBlock = some q) q) _ wx := ox
        have r53 : x 7 = (.pointer (some ⟨Xb, 2, none⟩)) := hN.1 rfl
        have r46 : x 0 = (.pointer (some ⟨Xb, 2, none⟩)) := hN.2.1 rfl
        have r47 : x 1 = (.pointer (some ⟨Xb, 2 + 3, none⟩)) := hN.2.2.1 rfl
        have r48 : x 2 = (.slice aL ms.length cL) := hN.2.2.2.1 rfl
        have r49 : x 3 = (.pointer (some ⟨b, 0, none⟩)) := hN.2.2.2.2.1 rfl
        have r50 : (fun (v : Value) (w1 : World) => ∃ (x : (List UInt8 × List UInt8 × List (List UInt8) × List VT)) (d0 d1 d2 d3 : Value) (rV : List UInt8) (βV : Bool), v = .agg #[d0, d1, d2, d3] ∧ (∀ u ∈ [d0, d1, d2, d3], u.oneCell' = true) ∧ EntP w1 (fun q => wr.heap.size ≤ q) x [d0, d1, d2, d3] ∧ ReaderAt w1 b rV βV ∧ (βV = false → decE1 r = some (x, rV)) ∧ (βV = true → decE1 r = none)) (x 4) wx := hN.2.2.2.2.2.1 rfl
        have r51 : (fun (v : Value) (w1 : World) => ∃ (g : Nat) (x : (List UInt8 × List UInt8 × List (List UInt8) × List VT)) (cs : List Value) (rV : List UInt8) (βV : Bool), v = .slice (some ⟨g, 0, none⟩) 1 1 ∧ wr.heap.size ≤ g ∧ g < w1.heap.size ∧ cs.length = 4 ∧ (∀ u ∈ cs, u.oneCell' = true) ∧ w1.rangeAt g 0 cs ∧ EntP w1 (fun q => wr.heap.size ≤ q) x cs ∧ ReaderAt w1 b rV βV ∧ (βV = false → decE1 r = some (x, rV)) ∧ (βV = true → decE1 r = none)) (x 5) wx := hN.2.2.2.2.2.2.1 rfl
        have r52 : (fun (v : Value) (w1 : World) => ∃ (x : (List UInt8 × List UInt8 × List (List UInt8) × List VT)) (cs : List Value) (rV : List UInt8) (βV : Bool), w1.ownsRow Bb 69 4 v (ms.length + 1) (xs ++ cs) ∧ (∀ q, v.ownBlock = some q → (Value.slice aL ms.length cL).ownBlock = some q ∨ wr.heap.size ≤ q) ∧ cs.length = 4 ∧ EntP w1 (fun q => wr.heap.size ≤ q ∧ v.ownBlock ≠ some q) x cs ∧ ReaderAt w1 b rV βV ∧ (βV = false → decE1 r = some (x, rV)) ∧ (βV = true → decE1 r = none)) (x 6) wx := hN.2.2.2.2.2.2.2.1 rfl
        clear hN
        unfold StepTo
        simp only [putAll, Act.put, List.setIfInBounds_toArray, List.set_cons_succ, List.set_cons_zero, r53, r46, r47, r48, r49]
        clear r53 r46 r47 r48 r49
        go_wp2_with fail
        exact ⟨rfl, _, rfl, HTT.out _ _ (rfl) (Only.refl _ _)⟩
      intro xb wxb oxb hN
      have oxb : Only (fun q => (fun q => q = b) q ∨ (fun q => (Value.slice aL ms.length cL).ownBlock = some q) q) _ wxb := oxb
      have r46 : xb 0 = (.pointer (some ⟨Xb, 2, none⟩)) := hN.1
      have r47 : xb 1 = (.pointer (some ⟨Xb, 2 + 3, none⟩)) := hN.2.1
      have r48 : xb 2 = (.slice aL ms.length cL) := hN.2.2.1
      have r49 : xb 3 = (.pointer (some ⟨b, 0, none⟩)) := hN.2.2.2.1
      have r50 : (fun (v : Value) (w1 : World) => ∃ (x : (List UInt8 × List UInt8 × List (List UInt8) × List VT)) (d0 d1 d2 d3 : Value) (rV : List UInt8) (βV : Bool), v = .agg #[d0, d1, d2, d3] ∧ (∀ u ∈ [d0, d1, d2, d3], u.oneCell' = true) ∧ EntP w1 (fun q => wr.heap.size ≤ q) x [d0, d1, d2, d3] ∧ ReaderAt w1 b rV βV ∧ (βV = false → decE1 r = some (x, rV)) ∧ (βV = true → decE1 r = none)) (xb 4) wxb := hN.2.2.2.2.1
      have r51 : (fun (v : Value) (w1 : World) => ∃ (g : Nat) (x : (List UInt8 × List UInt8 × List (List UInt8) × List VT)) (cs : List Value) (rV : List UInt8) (βV : Bool), v = .slice (some ⟨g, 0, none⟩) 1 1 ∧ wr.heap.size ≤ g ∧ g < w1.heap.size ∧ cs.length = 4 ∧ (∀ u ∈ cs, u.oneCell' = true) ∧ w1.rangeAt g 0 cs ∧ EntP w1 (fun q => wr.heap.size ≤ q) x cs ∧ ReaderAt w1 b rV βV ∧ (βV = false → decE1 r = some (x, rV)) ∧ (βV = true → decE1 r = none)) (xb 5) wxb := hN.2.2.2.2.2.1
      have r52 : (fun (v : Value) (w1 : World) => ∃ (x : (List UInt8 × List UInt8 × List (List UInt8) × List VT)) (cs : List Value) (rV : List UInt8) (βV : Bool), w1.ownsRow Bb 69 4 v (ms.length + 1) (xs ++ cs) ∧ (∀ q, v.ownBlock = some q → (Value.slice aL ms.length cL).ownBlock = some q ∨ wr.heap.size ≤ q) ∧ cs.length = 4 ∧ EntP w1 (fun q => wr.heap.size ≤ q ∧ v.ownBlock ≠ some q) x cs ∧ ReaderAt w1 b rV βV ∧ (βV = false → decE1 r = some (x, rV)) ∧ (βV = true → decE1 r = none)) (xb 6) wxb := hN.2.2.2.2.2.2.1
      have r53 : xb 7 = (.pointer (some ⟨Xb, 2, none⟩)) := hN.2.2.2.2.2.2.2.1
      have r54 : xb 8 = (.pointer (some ⟨Xb, 2 + 3, none⟩)) := hN.2.2.2.2.2.2.2.2.1
      clear hN
      simp only [putAll, Act.put, List.setIfInBounds_toArray, List.set_cons_succ, List.set_cons_zero, r46, r47, r48, r49, r53, r54]
      clear r46 r47 r48 r49 r53 r54
      obtain ⟨x, cs, rV, βV, q1, q2, q3, q4, q5, p9, p10⟩ := r52
      obtain ⟨aL', cL', eL', gL1', gL2', gL3'⟩ := own_form q1
      rw [eL'] at q1 q2 q4 gL3' ⊢
      have gL2n' : cL' ≤ 9223372036854775807 := by unfold maxLen at gL2'; omega
      have hXb := (oxb.block _ HXL.out (fun h => by rcases h with h | h; (have := HB3.out; omega); (have := HFL.out _ h; have := HS5.out; omega))).trans HXC.out
      have hRb := (oxb.block _ HRL.out (fun h => by rcases h with h | h; (have := HB1.out; omega); (have := HFL.out _ h; have := HS5.out; have := HWB.out; omega))).trans HRC.out
      have hfz : ∀ o, wxb.frozen? ⟨Xb, o, none⟩ = false := fun o => by simp [World.frozen?, hXb]
      have hltb : Xb < wxb.heap.size := (Array.getElem?_eq_some_iff.1 hXb).1
      obtain ⟨z0, z1, z2, z3, z4, z5, z6⟩ := box7 hXb
      have hX6 := heap_set (o := 5) hXb (.slice aL' (ms.length + 1) cL')
      have hX6 : (wxb.setCell ⟨Xb, 2 + 3, none⟩ (.slice aL' (ms.length + 1) cL')).heap[Xb]? = some (.cells #[.int .i64 c, .int .u64 done, .slice ak ks.length ck, .int .u64 since, .int .u64 ver, (.slice aL' (ms.length + 1) cL'), .slice none 0 0] 83 (0, 0)) := by simpa using hX6
      have hR6 := heap_set_ne (a := ⟨Xb, 2 + 3, none⟩) hRb (by have := HWB.out; show w.heap.size ≠ Xb; omega) (.slice aL' (ms.length + 1) cL')
      have o6 := (Only.refl (fun k => k = Xb) wxb).setCell (p := ⟨Xb, 2 + 3, none⟩) (.inl rfl) (.slice aL' (ms.length + 1) cL')
      have hrd6 := q5.past o6 (fun k hk => by have := HB3.out; omega)
      have hob : Only (fun q => q = b ∨ q = Xb ∨ (Value.slice aL ms.length cL).ownBlock = some q) wr (wxb.setCell ⟨Xb, 2 + 3, none⟩ (.slice aL' (ms.length + 1) cL')) := ((((Only.refl _ wr).drew).trans' oxb (fun q _ h => h.imp _root_.id .inr)).trans' o6 (fun q _ h => .inr (.inl h)))
      have hsz6 : wr.heap.size ≤ (wxb.setCell ⟨Xb, 2 + 3, none⟩ (.slice aL' (ms.length + 1) cL')).heap.size := hob.size
      have hL6 := own_only' q1 o6 (fun k hk e => by rcases q2 k hk with h | h; (have := HFL.out k h; have := HS5.out; omega); (have := HXL.out; omega))
      have hC6 := HPC.out.only entP_keeps hob (fun k hk h => by have hg := HG.out k hk; have := HS5.out; have := HB3.out; rcases h with h | h | h; omega; omega; exact hg.2.2 h)
      have hO6 : Only (fun _ => False) w (wxb.setCell ⟨Xb, 2 + 3, none⟩ (.slice aL' (ms.length + 1) cL')) := HO.out.trans' hob (fun q hq h => by have := HB1.out; have := HWB.out; rcases h with h | h | h; omega; omega; (have := HFL.out q h; have := HS5.out; omega))
      have hk6 := HKL.out.only textP_keeps hob (fun q hq h => by rcases h with h | h | h; exact hq.2.2.1 h; exact hq.2.2.2 h; (have := HFL.out q h; have := hq.2.1; omega))
      have hv6 := entP_keeps _ _ _ _ _ _ o6 (fun q hq hk => by have := hq.1; have := HXL.out; omega) q4
      have hCC : Pieces 4 EntP (wxb.setCell ⟨Xb, 2 + 3, none⟩ (.slice aL' (ms.length + 1) cL')) (fun q => G q ∨ (wr.heap.size ≤ q ∧ q < (wxb.setCell ⟨Xb, 2 + 3, none⟩ (.slice aL' (ms.length + 1) cL')).heap.size ∧ (Value.slice aL' (ms.length + 1) cL').ownBlock ≠ some q)) (ms ++ [x]) (xs ++ cs) := Pieces.snoc q3 (entP_weakens _ _ _ _ _ (fun q hq h => .inr ⟨h.1, hq, h.2⟩) hv6) (hC6.weaken entP_weakens (fun q _ h => .inl h))
      have hG6 : ∀ q, (G q ∨ (wr.heap.size ≤ q ∧ q < (wxb.setCell ⟨Xb, 2 + 3, none⟩ (.slice aL' (ms.length + 1) cL')).heap.size ∧ (Value.slice aL' (ms.length + 1) cL').ownBlock ≠ some q)) → Bb ≤ q ∧ q < (wxb.setCell ⟨Xb, 2 + 3, none⟩ (.slice aL' (ms.length + 1) cL')).heap.size ∧ (Value.slice aL' (ms.length + 1) cL').ownBlock ≠ some q := fun q hq => by
        rcases hq with hq | ⟨hq1, hq2, hq3⟩
        · have hg := HG.out q hq
          refine ⟨hg.1, by omega, fun h => ?_⟩
          rcases q2 q h with h | h
          · exact hg.2.2 h
          · omega
        · exact ⟨by have := HBS.out; omega, hq2, hq3⟩
      have hLR6 := HLR.out.next p9 p10
      have hNEW : DInvt w b Xb Bb c done ks ak ck since ver r4 β4 m2 (wxb.setCell ⟨Xb, 2 + 3, none⟩ (.slice aL' (ms.length + 1) cL')) := ⟨ms ++ [x], .slice aL' (ms.length + 1) cL', xs ++ cs, _, rV, βV, hX6, hR6, by rw [List.length_append, List.length_singleton]; exact hL6, hCC, hG6, hk6, hrd6, hO6, by have := HBS.out; omega, hLR6, by have := HLEN.out; rw [List.length_append, List.length_singleton]; omega⟩
      have HNEW := Lib.hid hNEW
      clear hNEW hLR6 hG6 hCC hv6 hk6 hO6 hC6 hL6 hsz6 hob hrd6 o6 hR6 hX6 q1 q2 q3 q4 q5 p9 p10 gL1' gL2' gL3' eL' hXb hRb oxb r50 r51
      go_wp2_with fail
      go_roundw
      case rel => exact ⟨m2, by simp [go_sem], by omega, HNEW⟩
      case measure => simp [intOf]
end Go.Proofs.Ytoojnpafcdaflaa
