/- sdl.reader.one: a declaration. -/
import Derived.Test.YtgephneppgcnlaaDoorSdI
import Derived.Test.YtgephneppgcnlaaDoorSdN
namespace Go.Proofs.YtgephneppgcnlaaDoor
open Go Go.RowKit
set_option linter.unusedVariables false
set_option linter.unusedSimpArgs false

def natV : Value → Nat
  | .int _ n => n.toNat
  | _ => 0
def objQ (k : Nat) (s : List UInt8) (l : List (List UInt8)) (r : List Tok) : PR TD := (wantP [123] r).bind fun _ r1 => (manyP fdP [125] (r1.length + 1) [] r1).bind fun fs r2 => .ok ⟨k, s, fs, l⟩ r2
def td1 (r : List Tok) : PR TD := (nameP r).bind fun s r1 => if isT wImplements r1 then (namesP [38] r1.tail).bind fun l r2 => objQ 1 s l r2 else objQ 1 s [] r1
def td2 (r : List Tok) : PR TD := (nameP r).bind fun s r1 => objQ 2 s [] r1
def td3 (r : List Tok) : PR TD := (nameP r).bind fun s r1 => (wantP [61] r1).bind fun _ r2 => (namesP [124] r2).bind fun l r3 => .ok ⟨3, s, [], l⟩ r3
def td4 (r : List Tok) : PR TD := (nameP r).bind fun s r1 => (wantP [123] r1).bind fun _ r2 => (manyP plainP [125] (r2.length + 1) [] r2).bind fun l r3 => .ok ⟨4, s, [], l⟩ r3
def td5 (r : List Tok) : PR TD := (nameP r).bind fun s r1 => (wantP [123] r1).bind fun _ r2 => (manyP inP [125] (r2.length + 1) [] r2).bind fun l r3 => .ok ⟨5, s, l.map FD.of, []⟩ r3
def wordK (j : Nat) : List UInt8 := if j = 0 then wType else if j = 1 then wInterface else if j = 2 then wUnion else if j = 3 then wEnum else wInput
def tdK (j : Nat) : List Tok → PR TD := if j = 0 then td1 else if j = 1 then td2 else if j = 2 then td3 else if j = 3 then td4 else td5
theorem td_yes {r : List Tok} {j : Nat} (hj : j < 5) (h : ∀ i, i < j → isT (wordK i) r = false) (hb : isT (wordK j) r = true) : tdP r = tdK j r.tail := by
  have hk : kindN r = j + 1 := by
    unfold kindN
    have h0 := h 0; have h1 := h 1; have h2 := h 2; have h3 := h 3
    obtain rfl | rfl | rfl | rfl | rfl : j = 0 ∨ j = 1 ∨ j = 2 ∨ j = 3 ∨ j = 4 := by omega
    · rw [if_pos (show isT wType r = true from hb)]
    · rw [if_neg (by rw [show isT wType r = false from h0 (by omega)]; decide), if_pos (show isT wInterface r = true from hb)]
    · rw [if_neg (by rw [show isT wType r = false from h0 (by omega)]; decide), if_neg (by rw [show isT wInterface r = false from h1 (by omega)]; decide), if_pos (show isT wUnion r = true from hb)]
    · rw [if_neg (by rw [show isT wType r = false from h0 (by omega)]; decide), if_neg (by rw [show isT wInterface r = false from h1 (by omega)]; decide), if_neg (by rw [show isT wUnion r = false from h2 (by omega)]; decide), if_pos (show isT wEnum r = true from hb)]
    · rw [if_neg (by rw [show isT wType r = false from h0 (by omega)]; decide), if_neg (by rw [show isT wInterface r = false from h1 (by omega)]; decide), if_neg (by rw [show isT wUnion r = false from h2 (by omega)]; decide), if_neg (by rw [show isT wEnum r = false from h3 (by omega)]; decide), if_pos (show isT wInput r = true from hb)]
  unfold tdP
  rw [hk, if_neg (by omega)]
  obtain rfl | rfl | rfl | rfl | rfl : j = 0 ∨ j = 1 ∨ j = 2 ∨ j = 3 ∨ j = 4 := by omega
  all_goals rfl
theorem td_no {r : List Tok} (h : ∀ i, i < 5 → isT (wordK i) r = false) : tdP r = .bad (atT r) 4 := by
  have hk : kindN r = 0 := by
    unfold kindN
    rw [show isT wType r = false from h 0 (by omega), show isT wInterface r = false from h 1 (by omega), show isT wUnion r = false from h 2 (by omega), show isT wEnum r = false from h 3 (by omega), show isT wInput r = false from h 4 (by omega)]
    rfl
  unfold tdP
  rw [if_pos hk]
/-- Ahead of round j. -/
def OneI (w : World) (b B : Nat) (all : List Tok) (σ : PR Unit) (j : Nat) (wr : World) : Prop := Sd wr b all σ ∧ wr.heap[B]? = some (.cells #[.int .u8 0, .string ⟨#[]⟩, .slice none 0 0, .slice none 0 0] 70 (0, 0)) ∧ Only (fun k => k = b) w wr ∧ ∀ i, i < j → tst σ (isT (wordK i)) = false
set_option maxRecDepth 100000 in
set_option maxHeartbeats 40000000 in
theorem sone_any (b : Nat) (all : List Tok) (σi : PR Unit) (w : World) (h : Sd w b all σi) :
    Calls Tryd.prog 38 #[.pointer (some ⟨b, 0, none⟩)] w (SAns w b all σi (fun w' x v => aggP w.heap.size tdC w' x v) tdJ tdP) := by
  have hbl := h.lt
  obtain ⟨B, hB⟩ : ∃ B, w.heap.size = B := ⟨_, rfl⟩
  have hbB : b < B := by omega
  obtain ⟨total, htot⟩ : ∃ x, (σi.bind fun _ => tdP) = x := ⟨_, rfl⟩
  have HP : ∀ w' v, tdJ v → Sd w' b all total.unit → (∀ x q, total = .ok x q → aggP B tdC w' x v) → Only (fun k => k = b) w w' → SAns w b all σi (fun w' x v => aggP w.heap.size tdC w' x v) tdJ tdP (.returned v) w' := fun w' v q1 q2 q3 q4 => ⟨v, rfl, q1, by rw [htot]; exact q2, fun x q e => by rw [hB]; exact q3 x q (by rw [← htot]; exact e), q4⟩
  have hyes : ∀ j, j < 5 → (∀ i, i < j → tst σi (isT (wordK i)) = false) → tst σi (isT (wordK j)) = true → total = (adv σi).bind fun _ => tdK j := fun j hj h1 h2 => by
    rw [← htot]
    cases σi with
    | ok u r => exact td_yes hj h1 h2
    | bad a c => cases h2
  have hno : (∀ i, i < 5 → tst σi (isT (wordK i)) = false) → flt σi 4 = total.unit ∧ ∀ x q, total ≠ .ok x q := fun h1 => by
    rw [← htot]
    cases σi with
    | ok u r =>
      show PR.bad (atT r) 4 = (tdP r).unit ∧ ∀ x q, tdP r ≠ .ok x q
      rw [td_no h1]
      exact ⟨rfl, fun x q e => by cases e⟩
    | bad a c => exact ⟨rfl, fun x q e => by cases e⟩
  obtain ⟨wA, hwA⟩ : ∃ x, w.alloc (.cells #[.int .u8 0, .string ⟨#[]⟩, .slice none 0 0, .slice none 0 0] 70) = x := ⟨_, rfl⟩
  obtain ⟨wB, hwB⟩ : ∃ x, wA.alloc (.cells #[.string ⟨#[116, 121, 112, 101]⟩, .string ⟨#[105, 110, 116, 101, 114, 102, 97, 99, 101]⟩, .string ⟨#[117, 110, 105, 111, 110]⟩, .string ⟨#[101, 110, 117, 109]⟩, .string ⟨#[105, 110, 112, 117, 116]⟩] 120) = x := ⟨_, rfl⟩
  have hr0 : wA.heap[B]? = some (.cells #[.int .u8 0, .string ⟨#[]⟩, .slice none 0 0, .slice none 0 0] 70 (0, 0)) := by rw [← hwA, ← hB]; exact heap_new _ _
  have hsA : wA.heap.size = B + 1 := by rw [← hwA, World.size_alloc, hB]
  have hkb := heap_new wA (.cells #[.string ⟨#[116, 121, 112, 101]⟩, .string ⟨#[105, 110, 116, 101, 114, 102, 97, 99, 101]⟩, .string ⟨#[117, 110, 105, 111, 110]⟩, .string ⟨#[101, 110, 117, 109]⟩, .string ⟨#[105, 110, 112, 117, 116]⟩] 120)
  rw [hwB, hsA] at hkb
  have oB : Only (fun _ => False) w wB := by rw [← hwB, ← hwA]; exact ((Only.refl _ w).alloc _).alloc _
  have hrB : wB.heap[B]? = some (.cells #[.int .u8 0, .string ⟨#[]⟩, .slice none 0 0, .slice none 0 0] 70 (0, 0)) := by rw [← hwB]; exact heap_old hr0 _
  have hi : OneI w b B all σi 0 wB := ⟨h.still oB, hrB, oB.mono (fun _ _ h => h.elim), fun i hi => by omega⟩
  have HPP := Lib.hid HP; have HYES := Lib.hid hyes; have HNO := Lib.hid hno; have HI := Lib.hid hi; have HBB := Lib.hid hB; have HWA := Lib.hid hwA; have HWB2 := Lib.hid hwB; have HSA := Lib.hid hsA; have HKB := Lib.hid hkb; have HWB := Lib.hid (show w.heap.size ≤ B by omega)
  clear HP hyes hno hi hwA hwB hr0 hrB oB hsA hkb htot h
  generalize (SAns w b all σi (fun w' x v => aggP w.heap.size tdC w' x v) tdJ tdP) = Q at *
  clear hB hbl
  go_enter Tryd.func38, Tryd.ntmps38
  go_upto_region 1 with (fail)
  rw [HBB.out, HWA.out]
  clear HWA HBB
  go_upto_region 2 with (fail)
  rw [HSA.out, HWB2.out]
  clear HWB2 HSA
  obtain ⟨x0, x1, x2, x3, x4, xz⟩ := box5 HKB.out
  clear HKB
  go_wp2_with fail
  clear x0 x1 x2 x3 x4 xz
  go_loopw [9] (fun v9 wr => ∃ j : Nat, v9 = .int .i64 (j : Int) ∧ j ≤ 5 ∧ Hid (OneI w b B all σi j wr)) (fun v9 _ => 5 - natV v9)
  case atStart => exact ⟨0, rfl, by omega, HI⟩
  case round =>
    obtain ⟨j, rfl, hj5, hrel⟩ := hrel
    obtain ⟨hsd, hr, hon, hw⟩ := hrel.out
    have HSD := Lib.hid hsd; have HRR := Lib.hid hr; have HON := Lib.hid hon; have HWW := Lib.hid hw
    clear hsd hr hon hw hrel HI
    have hcase : j = 5 ∨ j = 0 ∨ j = 1 ∨ j = 2 ∨ j = 3 ∨ j = 4 := by omega
    clear hj5
    rcases hcase with rfl | rfl | rfl | rfl | rfl | rfl
    · -- no word
      go_wp2_with fail
      refine (sfail_any b all σi 4 (by decide) wr HSD.out).mono ?_
      rintro e w5 ⟨rfl, h5, o5⟩
      have hr5 := (o5.block B (Array.getElem?_eq_some_iff.1 HRR.out).1 (by omega)).trans HRR.out
      have H5 := Lib.hid h5; have HR5 := Lib.hid hr5; have O5 := Lib.hid (HON.out.trans o5)
      clear h5 hr5 o5
      go_wp2_with ((refine wpList_store_box (o := ⟨none, _, _, _, _, _⟩) rfl 70 (.tmp 2) (.tmp 71) (by rfl) B [.int .u8 0, .string ⟨#[]⟩, .slice none 0 0, .slice none 0 0] [.int .u8 0, .string ⟨#[]⟩, .slice none 0 0, .slice none 0 0] (by rfl) (by rfl) HR5.out (by rfl) (by kernel_rfl) (by intro u hu; simp at hu; rcases hu with rfl | rfl | rfl | rfl <;> rfl) ?_; intro w9 k1 k2))
      obtain ⟨y0, y1, y2, y3, -⟩ := boxN4 k1
      obtain ⟨hn1, hn2⟩ := HNO.out HWW.out
      exact bodyPost_ret (v := .agg #[.int .u8 0, .string ⟨#[]⟩, .slice none 0 0, .slice none 0 0]) (by simp [results, Tryd.results38, go_sem, y0, y1, y2, y3]) rfl (HPP.out w9 _ ⟨0, [], none, 0, 0, none, 0, 0, rfl⟩ (by rw [← hn1]; exact H5.out.only k2 (fun k hk e => by omega)) (fun x q e => absurd e (hn2 x q)) (O5.out.trans' k2 (fun q hq e => by have := HWB.out; omega)))
    · -- type
      have hix : ∀ wx : World, (Instr.index 120 (.agg #[.string ⟨#[116, 121, 112, 101]⟩, .string ⟨#[105, 110, 116, 101, 114, 102, 97, 99, 101]⟩, .string ⟨#[117, 110, 105, 111, 110]⟩, .string ⟨#[101, 110, 117, 109]⟩, .string ⟨#[105, 110, 112, 117, 116]⟩]) (.int .i64 0)).run Tryd.prog wx = .ok (.string ⟨#[116, 121, 112, 101]⟩) wx := fun _ => rfl
      have J := Lib.hid (stake_any b all σi wType wr HSD.out)
      unfold tookS at J
      obtain ⟨bb, hb⟩ : ∃ x, tst σi (isT wType) = x := ⟨_, rfl⟩
      rw [hb] at J
      have HBT := Lib.hid hb; clear hb
      cases bb
      · rw [if_neg (by decide)] at J
        go_wp2_with fail
        refine J.out.mono ?_
        rintro e w1 ⟨rfl, hd, o4⟩
        have hi : OneI w b B all σi 1 w1 := ⟨hd, (o4.block B (Array.getElem?_eq_some_iff.1 HRR.out).1 (by omega)).trans HRR.out, HON.out.trans o4, fun i hi => by
          rcases Nat.lt_or_ge i 0 with h | h
          · exact HWW.out i h
          · obtain rfl : i = 0 := by omega
            exact HBT.out⟩
        have HI2 := Lib.hid hi; clear hi hd o4 J
        go_wp2_with fail
        go_roundw
        case rel => first | exact ⟨1, rfl, by omega, HI2⟩ | ((repeat apply Exists.intro); exact ⟨rfl, by omega, HI2⟩)
        case measure => simp [natV]
      · rw [if_pos rfl] at J
        go_wp2_with fail
        refine J.out.mono ?_
        rintro e w0 ⟨rfl, hd, o4⟩
        obtain ⟨σ0, hσ⟩ : ∃ z, adv σi = z := ⟨_, rfl⟩
        have ht := HYES.out 0 (by omega) HWW.out HBT.out
        rw [hσ] at hd ht
        have hj := Jn.start σ0 (tdK 0)
        rw [← ht] at hj
        have hj : Jn (τ := Unit) total σ0 (fun _ => True) (fun _ => td1) := hj
        unfold td1 at hj
        have HJ0 := Lib.hid hj; have HD0 := Lib.hid hd; have HR0 := Lib.hid ((o4.block B (Array.getElem?_eq_some_iff.1 HRR.out).1 (by omega)).trans HRR.out); have HO0 := Lib.hid (HON.out.trans o4)
        clear hj hd ht hσ o4 J HBT HSD HRR HON HWW HYES HNO
        have hmf : ∀ (fn : Fn) (first cap : Array Value) (w : World), (Instr.makeFunc fn first cap).run Tryd.prog w = .ok (.func fn first cap) w := fun _ _ _ _ => rfl
        have J := Lib.hid (sname_any b all σ0 w0 HD0.out)
        go_wp2_with fail
        refine J.out.mono ?_
        rintro e w1 ⟨v, rfl, ⟨s1, rfl⟩, hd, hv, o4⟩
        have hv : ∀ x q, (σ0.bind fun _ => nameP) = .ok x q → s1 = x := fun x q e => str_inj (hv x q e)
        obtain ⟨σ1, hσ⟩ : ∃ z, (σ0.bind fun _ => nameP).unit = z := ⟨_, rfl⟩
        rw [hσ] at hd
        have hj := Jn.call (fun x => s1 = x) HJ0.out hσ.symm hv
        have HJ1 := Lib.hid hj; have HD1 := Lib.hid hd
        clear hj hd hv hσ HJ0 J
        have hr1 := (o4.block B (Array.getElem?_eq_some_iff.1 HR0.out).1 (by omega)).trans HR0.out
        have HR1 := Lib.hid hr1
        have HO1 := Lib.hid (HO0.out.trans' o4 (fun q hq e => by exact e))
        clear hr1
        clear o4
        clear HR0 HO0 HD0
        have hsz2 : B < w1.heap.size := (Array.getElem?_eq_some_iff.1 HR1.out).1
        obtain ⟨Y, hY⟩ : ∃ Y, w1.heap.size = Y := ⟨_, rfl⟩
        obtain ⟨w2, hw2⟩ : ∃ x, w1.alloc (.cells #[.int .u8 1, .string ⟨s1.toArray⟩, .slice none 0 0, .slice none 0 0] 70) = x := ⟨_, rfl⟩
        have hy2 : w2.heap[Y]? = some (.cells #[.int .u8 1, .string ⟨s1.toArray⟩, .slice none 0 0, .slice none 0 0] 70 (0, 0)) := by rw [← hw2, ← hY]; exact heap_new _ _
        have hr2 : w2.heap[B]? = some (.cells #[.int .u8 0, .string ⟨#[]⟩, .slice none 0 0, .slice none 0 0] 70 (0, 0)) := by rw [← hw2]; exact heap_old HR1.out _
        have oa2 : Only (fun _ => False) w1 w2 := by rw [← hw2]; exact (Only.refl _ _).alloc _
        rw [hY] at hsz2
        have HY2 := Lib.hid hy2; have HR2 := Lib.hid hr2; have HD2 := Lib.hid (HD1.out.still oa2); have HO2 := Lib.hid (HO1.out.trans' oa2 (fun q _ e => e.elim)); have HW2 := Lib.hid hw2; have HYY := Lib.hid hY; have HJ2 := HJ1
        clear hy2 hr2 hw2 hY oa2 HR1 HD1 HO1 HJ1
        go_upto_region 7 with (fail)
        rw [HYY.out, HW2.out]
        clear HYY HW2
        obtain ⟨y0, y1, y2, y3, yz⟩ := boxN4 HY2.out
        go_upto_region 8 with (fail)
        have J := Lib.hid (stake_any b all σ1 wImplements w2 HD2.out)
        unfold tookS at J
        obtain ⟨bb3, hb3⟩ : ∃ x, tst σ1 (isT wImplements) = x := ⟨_, rfl⟩
        rw [hb3] at J
        have HBT := Lib.hid hb3; clear hb3
        cases bb3
        ·
          rw [if_neg (by decide)] at J
          go_wp2_with fail
          refine J.out.mono ?_
          rintro e w3 ⟨rfl, hd, o4⟩
          have HJ3 := Lib.hid (HJ2.out.no HBT.out)
          have HD3 := Lib.hid hd
          clear HJ2 hd HBT J
          have hr3 := (o4.block B (Array.getElem?_eq_some_iff.1 HR2.out).1 (by omega)).trans HR2.out
          have HR3 := Lib.hid hr3
          have hy3 := (o4.block Y (Array.getElem?_eq_some_iff.1 HY2.out).1 (by omega)).trans HY2.out
          have HY3 := Lib.hid hy3
          have HO3 := Lib.hid (HO2.out.trans' o4 (fun q hq e => by exact e))
          clear hr3 hy3
          clear o4
          clear HR2 HO2 HD2 HY2
          have HJu := HJ3.out
          unfold objQ at HJu
          clear HJ3
          have HJ3 := Lib.hid HJu; clear HJu
          have J := Lib.hid (swant_any b all σ1 [123] w3 HD3.out)
          go_wp2_with fail
          refine J.out.mono ?_
          rintro e w4 ⟨rfl, hd, o4⟩
          have hv : ∀ x q, (σ1.bind fun _ => wantP [123]) = .ok x q → True := fun _ _ _ => trivial
          obtain ⟨σ4, hσ⟩ : ∃ z, (σ1.bind fun _ => wantP [123]).unit = z := ⟨_, rfl⟩
          rw [hσ] at hd
          have hj := Jn.call (fun _ => True) HJ3.out hσ.symm hv
          have HJ4 := Lib.hid hj; have HD4 := Lib.hid hd
          clear hj hd hv hσ HJ3 J
          have hr4 := (o4.block B (Array.getElem?_eq_some_iff.1 HR3.out).1 (by omega)).trans HR3.out
          have HR4 := Lib.hid hr4
          have hy4 := (o4.block Y (Array.getElem?_eq_some_iff.1 HY3.out).1 (by omega)).trans HY3.out
          have HY4 := Lib.hid hy4
          have HO4 := Lib.hid (HO3.out.trans' o4 (fun q hq e => by exact e))
          clear hr4 hy4
          clear o4
          clear HR3 HO3 HD3 HY3
          have J := Lib.hid (smanyF_any fdP fdP_takes b all σ4 [125] w4 HD4.out (fun wx σ' _ hd => sfield_any b all σ' wx hd))
          go_wp2_with fail
          refine J.out.mono ?_
          rintro e w5 ⟨v, rfl, ⟨ar5, lr5, cr5, rfl⟩, hd, hv, o4⟩
          have hsy : Y < w4.heap.size := (Array.getElem?_eq_some_iff.1 HY4.out).1
          have hv : ∀ x q, (σ4.bind fun _ => (fun r => manyP fdP [125] (r.length + 1) [] r)) = .ok x q → CellAt w5 (fun q => Y < q) (.row 11 (x.map fdC)) (.slice ar5 lr5 cr5) := fun x q e => CellAt.weaken (fun q _ h => by have h : w4.heap.size ≤ q := h; show Y < q; omega) _ _ (hv x q e)
          obtain ⟨σ5, hσ⟩ : ∃ z, (σ4.bind fun _ => (fun r => manyP fdP [125] (r.length + 1) [] r)).unit = z := ⟨_, rfl⟩
          rw [hσ] at hd
          have hj := Jn.call (fun x => CellAt w5 (fun q => Y < q) (.row 11 (x.map fdC)) (.slice ar5 lr5 cr5)) HJ4.out hσ.symm hv
          have HJ5 := Lib.hid hj; have HD5 := Lib.hid hd
          clear hj hd hv hσ HJ4 J hsy
          have hr5 := (o4.block B (Array.getElem?_eq_some_iff.1 HR4.out).1 (by omega)).trans HR4.out
          have HR5 := Lib.hid hr5
          have hy5 := (o4.block Y (Array.getElem?_eq_some_iff.1 HY4.out).1 (by omega)).trans HY4.out
          have HY5 := Lib.hid hy5
          have HO5 := Lib.hid (HO4.out.trans' o4 (fun q hq e => by exact e))
          clear hr5 hy5
          have HC5_5 := Lib.hid (Only.refl (fun k => k ≤ Y) w5)
          clear o4
          clear HR4 HO4 HD4 HY4
          obtain ⟨y0, y1, y2, y3, yz⟩ := boxN4 HY5.out
          go_upto_region 21 with (fail)
          clear y0 y1 y2 y3 yz
          have hy6 := heap_set (o := 2) HY5.out (.slice ar5 lr5 cr5)
          have hy6 : (w5.setCell ⟨Y, 2, none⟩ (.slice ar5 lr5 cr5)).heap[Y]? = some (.cells #[.int .u8 1, .string ⟨s1.toArray⟩, .slice ar5 lr5 cr5, .slice none 0 0] 70 (0, 0)) := by simpa using hy6
          have os6 : Only (fun k => k = Y) w5 (w5.setCell ⟨Y, 2, none⟩ (.slice ar5 lr5 cr5)) := (Only.refl (fun k => k = Y) _).setCell (p := ⟨Y, 2, none⟩) (.inl rfl) _
          obtain ⟨w6, hw6⟩ : ∃ x, w5.setCell ⟨Y, 2, none⟩ (.slice ar5 lr5 cr5) = x := ⟨_, rfl⟩
          rw [hw6] at hy6 os6
          rw [hw6]
          clear hw6
          have HY6 := Lib.hid hy6; have HD6 := Lib.hid (HD5.out.only os6 (fun k hk e => by omega)); have HJ6 := HJ5
          have hr6 := (os6.block B (Array.getElem?_eq_some_iff.1 HR5.out).1 (by omega)).trans HR5.out
          have HR6 := Lib.hid hr6
          have HC5_6 := Lib.hid (HC5_5.out.trans' os6 (fun q hq e => by have e : q = Y := e; show q ≤ Y; omega))
          have HO6 := Lib.hid (HO5.out.trans' os6 (fun q hq e => by have e : q = Y := e; have := HWB.out; omega))
          clear hr6
          clear hy6 os6 HJ5
          clear HR5 HO5 HD5 HY5 HC5_5
          obtain ⟨y0, y1, y2, y3, yz⟩ := boxN4 HY6.out
          go_wp2_with ((refine wpList_store_box (o := ⟨none, _, _, _, _, _⟩) rfl 70 (.tmp 2) (.tmp 67) (by rfl) B [.int .u8 0, .string ⟨#[]⟩, .slice none 0 0, .slice none 0 0] [.int .u8 1, .string ⟨s1.toArray⟩, .slice ar5 lr5 cr5, .slice none 0 0] (by rfl) (by rfl) HR6.out (by rfl) (by kernel_rfl) (by intro u hu; simp at hu; rcases hu with rfl | rfl | rfl | rfl <;> rfl) ?_; intro w9 k1 k2))
          clear y0 y1 y2 y3 yz
          obtain ⟨y0, y1, y2, y3, -⟩ := boxN4 k1
          obtain ⟨hdn, hxs⟩ := HJ6.out.done
          have hd9 : Sd w9 b all total.unit := by rw [← hdn]; exact HD6.out.only k2 (fun k hk e => by omega)
          have o5 := HC5_6.out.trans' k2 (fun q hq e => by have e : q = B := e; show q ≤ Y; omega)
          have hag : ∀ x q, total = .ok x q → aggP B tdC w9 x (.agg #[.int .u8 1, .string ⟨s1.toArray⟩, .slice ar5 lr5 cr5, .slice none 0 0]) := fun x q e => by
            obtain ⟨⟨⟨⟨u, n1⟩, u2⟩, fs1⟩, rfl, ⟨⟨⟨-, k1⟩, -⟩, k3⟩⟩ := hxs x q e
            subst k1
            exact ⟨_, rfl, CellsAt.lit rfl (CellsAt.lit rfl (CellsAt.cons (CellAt.weaken (G' := fun q => B ≤ q) (fun q _ h => by have h : Y < q := h; show B ≤ q; omega) _ _ (CellAt.only o5 (fun k hk e => by have hk : Y < k := hk; have e : k ≤ Y := e; omega) _ _ k3)) (CellsAt.cons (CellAt.nilRow _ _ _) (CellsAt.nil _ _))))⟩
          exact bodyPost_ret (v := .agg #[.int .u8 1, .string ⟨s1.toArray⟩, .slice ar5 lr5 cr5, .slice none 0 0]) (by simp [results, Tryd.results38, go_sem, y0, y1, y2, y3]) rfl (HPP.out w9 _ ⟨1, s1, ar5, lr5, cr5, none, 0, 0, rfl⟩ hd9 hag (HO6.out.trans' k2 (fun q hq e => by have := HWB.out; omega)))
        ·
          rw [if_pos rfl] at J
          go_wp2_with fail
          refine J.out.mono ?_
          rintro e w3 ⟨rfl, hd, o4⟩
          have HJ3 := Lib.hid (Jn.adv (F := fun (p : Unit × List UInt8) r => (namesP [38] r).bind fun l r2 => objQ 1 p.2 l r2) (HJ2.out.yes HBT.out))
          obtain ⟨σ3, hσ⟩ : ∃ z, adv σ1 = z := ⟨_, rfl⟩
          rw [hσ] at hd HJ3
          clear hσ
          have HD3 := Lib.hid hd
          clear HJ2 hd HBT J
          have hr3 := (o4.block B (Array.getElem?_eq_some_iff.1 HR2.out).1 (by omega)).trans HR2.out
          have HR3 := Lib.hid hr3
          have hy3 := (o4.block Y (Array.getElem?_eq_some_iff.1 HY2.out).1 (by omega)).trans HY2.out
          have HY3 := Lib.hid hy3
          have HO3 := Lib.hid (HO2.out.trans' o4 (fun q hq e => by exact e))
          clear hr3 hy3
          clear o4
          clear HR2 HO2 HD2 HY2
          have J := Lib.hid (snames_any [38] b all σ3 w3 HD3.out)
          go_wp2_with fail
          refine J.out.mono ?_
          rintro e w4 ⟨v, rfl, ⟨ar4, lr4, cr4, rfl⟩, hd, hv, o4⟩
          have hsy : Y < w3.heap.size := (Array.getElem?_eq_some_iff.1 HY3.out).1
          have hv : ∀ x q, (σ3.bind fun _ => namesP [38]) = .ok x q → CellAt w4 (fun q => Y < q) (.row 1 (x.map (fun s => [strC s]))) (.slice ar4 lr4 cr4) := fun x q e => CellAt.weaken (fun q _ h => by have h : w3.heap.size ≤ q := h; show Y < q; omega) _ _ (hv x q e)
          obtain ⟨σ4, hσ⟩ : ∃ z, (σ3.bind fun _ => namesP [38]).unit = z := ⟨_, rfl⟩
          rw [hσ] at hd
          have hj := Jn.call (fun x => CellAt w4 (fun q => Y < q) (.row 1 (x.map (fun s => [strC s]))) (.slice ar4 lr4 cr4)) HJ3.out hσ.symm hv
          have HJ4 := Lib.hid hj; have HD4 := Lib.hid hd
          clear hj hd hv hσ HJ3 J hsy
          have hr4 := (o4.block B (Array.getElem?_eq_some_iff.1 HR3.out).1 (by omega)).trans HR3.out
          have HR4 := Lib.hid hr4
          have hy4 := (o4.block Y (Array.getElem?_eq_some_iff.1 HY3.out).1 (by omega)).trans HY3.out
          have HY4 := Lib.hid hy4
          have HO4 := Lib.hid (HO3.out.trans' o4 (fun q hq e => by exact e))
          clear hr4 hy4
          have HC4_4 := Lib.hid (Only.refl (fun k => k ≤ Y) w4)
          clear o4
          clear HR3 HO3 HD3 HY3
          obtain ⟨y0, y1, y2, y3, yz⟩ := boxN4 HY4.out
          go_upto_region 10 with (fail)
          clear y0 y1 y2 y3 yz
          have hy5 := heap_set (o := 3) HY4.out (.slice ar4 lr4 cr4)
          have hy5 : (w4.setCell ⟨Y, 3, none⟩ (.slice ar4 lr4 cr4)).heap[Y]? = some (.cells #[.int .u8 1, .string ⟨s1.toArray⟩, .slice none 0 0, .slice ar4 lr4 cr4] 70 (0, 0)) := by simpa using hy5
          have os5 : Only (fun k => k = Y) w4 (w4.setCell ⟨Y, 3, none⟩ (.slice ar4 lr4 cr4)) := (Only.refl (fun k => k = Y) _).setCell (p := ⟨Y, 3, none⟩) (.inl rfl) _
          obtain ⟨w5, hw5⟩ : ∃ x, w4.setCell ⟨Y, 3, none⟩ (.slice ar4 lr4 cr4) = x := ⟨_, rfl⟩
          rw [hw5] at hy5 os5
          rw [hw5]
          clear hw5
          have HY5 := Lib.hid hy5; have HD5 := Lib.hid (HD4.out.only os5 (fun k hk e => by omega)); have HJ5 := HJ4
          have hr5 := (os5.block B (Array.getElem?_eq_some_iff.1 HR4.out).1 (by omega)).trans HR4.out
          have HR5 := Lib.hid hr5
          have HC4_5 := Lib.hid (HC4_4.out.trans' os5 (fun q hq e => by have e : q = Y := e; show q ≤ Y; omega))
          have HO5 := Lib.hid (HO4.out.trans' os5 (fun q hq e => by have e : q = Y := e; have := HWB.out; omega))
          clear hr5
          clear hy5 os5 HJ4
          clear HR4 HO4 HD4 HY4 HC4_4
          have HJu := HJ5.out
          unfold objQ at HJu
          clear HJ5
          have HJ5 := Lib.hid HJu; clear HJu
          have J := Lib.hid (swant_any b all σ4 [123] w5 HD5.out)
          go_wp2_with fail
          refine J.out.mono ?_
          rintro e w6 ⟨rfl, hd, o4⟩
          have hv : ∀ x q, (σ4.bind fun _ => wantP [123]) = .ok x q → True := fun _ _ _ => trivial
          obtain ⟨σ6, hσ⟩ : ∃ z, (σ4.bind fun _ => wantP [123]).unit = z := ⟨_, rfl⟩
          rw [hσ] at hd
          have hj := Jn.call (fun _ => True) HJ5.out hσ.symm hv
          have HJ6 := Lib.hid hj; have HD6 := Lib.hid hd
          clear hj hd hv hσ HJ5 J
          have hr6 := (o4.block B (Array.getElem?_eq_some_iff.1 HR5.out).1 (by omega)).trans HR5.out
          have HR6 := Lib.hid hr6
          have hy6 := (o4.block Y (Array.getElem?_eq_some_iff.1 HY5.out).1 (by omega)).trans HY5.out
          have HY6 := Lib.hid hy6
          have HC4_6 := Lib.hid (HC4_5.out.trans' o4 (fun q hq e => by have e : q = b := e; show q ≤ Y; omega))
          have HO6 := Lib.hid (HO5.out.trans' o4 (fun q hq e => by exact e))
          clear hr6 hy6
          clear o4
          clear HR5 HO5 HD5 HY5 HC4_5
          have J := Lib.hid (smanyF_any fdP fdP_takes b all σ6 [125] w6 HD6.out (fun wx σ' _ hd => sfield_any b all σ' wx hd))
          go_wp2_with fail
          refine J.out.mono ?_
          rintro e w7 ⟨v, rfl, ⟨ar7, lr7, cr7, rfl⟩, hd, hv, o4⟩
          have hsy : Y < w6.heap.size := (Array.getElem?_eq_some_iff.1 HY6.out).1
          have hv : ∀ x q, (σ6.bind fun _ => (fun r => manyP fdP [125] (r.length + 1) [] r)) = .ok x q → CellAt w7 (fun q => Y < q) (.row 11 (x.map fdC)) (.slice ar7 lr7 cr7) := fun x q e => CellAt.weaken (fun q _ h => by have h : w6.heap.size ≤ q := h; show Y < q; omega) _ _ (hv x q e)
          obtain ⟨σ7, hσ⟩ : ∃ z, (σ6.bind fun _ => (fun r => manyP fdP [125] (r.length + 1) [] r)).unit = z := ⟨_, rfl⟩
          rw [hσ] at hd
          have hj := Jn.call (fun x => CellAt w7 (fun q => Y < q) (.row 11 (x.map fdC)) (.slice ar7 lr7 cr7)) HJ6.out hσ.symm hv
          have HJ7 := Lib.hid hj; have HD7 := Lib.hid hd
          clear hj hd hv hσ HJ6 J hsy
          have hr7 := (o4.block B (Array.getElem?_eq_some_iff.1 HR6.out).1 (by omega)).trans HR6.out
          have HR7 := Lib.hid hr7
          have hy7 := (o4.block Y (Array.getElem?_eq_some_iff.1 HY6.out).1 (by omega)).trans HY6.out
          have HY7 := Lib.hid hy7
          have HC4_7 := Lib.hid (HC4_6.out.trans' o4 (fun q hq e => by have e : q = b := e; show q ≤ Y; omega))
          have HO7 := Lib.hid (HO6.out.trans' o4 (fun q hq e => by exact e))
          clear hr7 hy7
          have HC7_7 := Lib.hid (Only.refl (fun k => k ≤ Y) w7)
          clear o4
          clear HR6 HO6 HD6 HY6 HC4_6
          obtain ⟨y0, y1, y2, y3, yz⟩ := boxN4 HY7.out
          go_upto_region 21 with (fail)
          clear y0 y1 y2 y3 yz
          have hy8 := heap_set (o := 2) HY7.out (.slice ar7 lr7 cr7)
          have hy8 : (w7.setCell ⟨Y, 2, none⟩ (.slice ar7 lr7 cr7)).heap[Y]? = some (.cells #[.int .u8 1, .string ⟨s1.toArray⟩, .slice ar7 lr7 cr7, .slice ar4 lr4 cr4] 70 (0, 0)) := by simpa using hy8
          have os8 : Only (fun k => k = Y) w7 (w7.setCell ⟨Y, 2, none⟩ (.slice ar7 lr7 cr7)) := (Only.refl (fun k => k = Y) _).setCell (p := ⟨Y, 2, none⟩) (.inl rfl) _
          obtain ⟨w8, hw8⟩ : ∃ x, w7.setCell ⟨Y, 2, none⟩ (.slice ar7 lr7 cr7) = x := ⟨_, rfl⟩
          rw [hw8] at hy8 os8
          rw [hw8]
          clear hw8
          have HY8 := Lib.hid hy8; have HD8 := Lib.hid (HD7.out.only os8 (fun k hk e => by omega)); have HJ8 := HJ7
          have hr8 := (os8.block B (Array.getElem?_eq_some_iff.1 HR7.out).1 (by omega)).trans HR7.out
          have HR8 := Lib.hid hr8
          have HC4_8 := Lib.hid (HC4_7.out.trans' os8 (fun q hq e => by have e : q = Y := e; show q ≤ Y; omega))
          have HC7_8 := Lib.hid (HC7_7.out.trans' os8 (fun q hq e => by have e : q = Y := e; show q ≤ Y; omega))
          have HO8 := Lib.hid (HO7.out.trans' os8 (fun q hq e => by have e : q = Y := e; have := HWB.out; omega))
          clear hr8
          clear hy8 os8 HJ7
          clear HR7 HO7 HD7 HY7 HC4_7 HC7_7
          obtain ⟨y0, y1, y2, y3, yz⟩ := boxN4 HY8.out
          go_wp2_with ((refine wpList_store_box (o := ⟨none, _, _, _, _, _⟩) rfl 70 (.tmp 2) (.tmp 67) (by rfl) B [.int .u8 0, .string ⟨#[]⟩, .slice none 0 0, .slice none 0 0] [.int .u8 1, .string ⟨s1.toArray⟩, .slice ar7 lr7 cr7, .slice ar4 lr4 cr4] (by rfl) (by rfl) HR8.out (by rfl) (by kernel_rfl) (by intro u hu; simp at hu; rcases hu with rfl | rfl | rfl | rfl <;> rfl) ?_; intro w9 k1 k2))
          clear y0 y1 y2 y3 yz
          obtain ⟨y0, y1, y2, y3, -⟩ := boxN4 k1
          obtain ⟨hdn, hxs⟩ := HJ8.out.done
          have hd9 : Sd w9 b all total.unit := by rw [← hdn]; exact HD8.out.only k2 (fun k hk e => by omega)
          have o4 := HC4_8.out.trans' k2 (fun q hq e => by have e : q = B := e; show q ≤ Y; omega)
          have o7 := HC7_8.out.trans' k2 (fun q hq e => by have e : q = B := e; show q ≤ Y; omega)
          have hag : ∀ x q, total = .ok x q → aggP B tdC w9 x (.agg #[.int .u8 1, .string ⟨s1.toArray⟩, .slice ar7 lr7 cr7, .slice ar4 lr4 cr4]) := fun x q e => by
            obtain ⟨⟨⟨⟨⟨u, n1⟩, l1⟩, u2⟩, fs1⟩, rfl, ⟨⟨⟨⟨-, k1⟩, k2⟩, -⟩, k3⟩⟩ := hxs x q e
            subst k1
            exact ⟨_, rfl, CellsAt.lit rfl (CellsAt.lit rfl (CellsAt.cons (CellAt.weaken (G' := fun q => B ≤ q) (fun q _ h => by have h : Y < q := h; show B ≤ q; omega) _ _ (CellAt.only o7 (fun k hk e => by have hk : Y < k := hk; have e : k ≤ Y := e; omega) _ _ k3)) (CellsAt.cons (CellAt.weaken (G' := fun q => B ≤ q) (fun q _ h => by have h : Y < q := h; show B ≤ q; omega) _ _ (CellAt.only o4 (fun k hk e => by have hk : Y < k := hk; have e : k ≤ Y := e; omega) _ _ k2)) (CellsAt.nil _ _))))⟩
          exact bodyPost_ret (v := .agg #[.int .u8 1, .string ⟨s1.toArray⟩, .slice ar7 lr7 cr7, .slice ar4 lr4 cr4]) (by simp [results, Tryd.results38, go_sem, y0, y1, y2, y3]) rfl (HPP.out w9 _ ⟨1, s1, ar7, lr7, cr7, ar4, lr4, cr4, rfl⟩ hd9 hag (HO8.out.trans' k2 (fun q hq e => by have := HWB.out; omega)))
    · -- interface
      have hix : ∀ wx : World, (Instr.index 120 (.agg #[.string ⟨#[116, 121, 112, 101]⟩, .string ⟨#[105, 110, 116, 101, 114, 102, 97, 99, 101]⟩, .string ⟨#[117, 110, 105, 111, 110]⟩, .string ⟨#[101, 110, 117, 109]⟩, .string ⟨#[105, 110, 112, 117, 116]⟩]) (.int .i64 1)).run Tryd.prog wx = .ok (.string ⟨#[105, 110, 116, 101, 114, 102, 97, 99, 101]⟩) wx := fun _ => rfl
      have J := Lib.hid (stake_any b all σi wInterface wr HSD.out)
      unfold tookS at J
      obtain ⟨bb, hb⟩ : ∃ x, tst σi (isT wInterface) = x := ⟨_, rfl⟩
      rw [hb] at J
      have HBT := Lib.hid hb; clear hb
      cases bb
      · rw [if_neg (by decide)] at J
        go_wp2_with fail
        refine J.out.mono ?_
        rintro e w1 ⟨rfl, hd, o4⟩
        have hi : OneI w b B all σi 2 w1 := ⟨hd, (o4.block B (Array.getElem?_eq_some_iff.1 HRR.out).1 (by omega)).trans HRR.out, HON.out.trans o4, fun i hi => by
          rcases Nat.lt_or_ge i 1 with h | h
          · exact HWW.out i h
          · obtain rfl : i = 1 := by omega
            exact HBT.out⟩
        have HI2 := Lib.hid hi; clear hi hd o4 J
        go_wp2_with fail
        go_roundw
        case rel => first | exact ⟨2, rfl, by omega, HI2⟩ | ((repeat apply Exists.intro); exact ⟨rfl, by omega, HI2⟩)
        case measure => simp [natV]
      · rw [if_pos rfl] at J
        go_wp2_with fail
        refine J.out.mono ?_
        rintro e w0 ⟨rfl, hd, o4⟩
        obtain ⟨σ0, hσ⟩ : ∃ z, adv σi = z := ⟨_, rfl⟩
        have ht := HYES.out 1 (by omega) HWW.out HBT.out
        rw [hσ] at hd ht
        have hj := Jn.start σ0 (tdK 1)
        rw [← ht] at hj
        have hj : Jn (τ := Unit) total σ0 (fun _ => True) (fun _ => td2) := hj
        unfold td2 at hj
        have HJ0 := Lib.hid hj; have HD0 := Lib.hid hd; have HR0 := Lib.hid ((o4.block B (Array.getElem?_eq_some_iff.1 HRR.out).1 (by omega)).trans HRR.out); have HO0 := Lib.hid (HON.out.trans o4)
        clear hj hd ht hσ o4 J HBT HSD HRR HON HWW HYES HNO
        have hmf : ∀ (fn : Fn) (first cap : Array Value) (w : World), (Instr.makeFunc fn first cap).run Tryd.prog w = .ok (.func fn first cap) w := fun _ _ _ _ => rfl
        have J := Lib.hid (sname_any b all σ0 w0 HD0.out)
        go_wp2_with fail
        refine J.out.mono ?_
        rintro e w1 ⟨v, rfl, ⟨s1, rfl⟩, hd, hv, o4⟩
        have hv : ∀ x q, (σ0.bind fun _ => nameP) = .ok x q → s1 = x := fun x q e => str_inj (hv x q e)
        obtain ⟨σ1, hσ⟩ : ∃ z, (σ0.bind fun _ => nameP).unit = z := ⟨_, rfl⟩
        rw [hσ] at hd
        have hj := Jn.call (fun x => s1 = x) HJ0.out hσ.symm hv
        have HJ1 := Lib.hid hj; have HD1 := Lib.hid hd
        clear hj hd hv hσ HJ0 J
        have hr1 := (o4.block B (Array.getElem?_eq_some_iff.1 HR0.out).1 (by omega)).trans HR0.out
        have HR1 := Lib.hid hr1
        have HO1 := Lib.hid (HO0.out.trans' o4 (fun q hq e => by exact e))
        clear hr1
        clear o4
        clear HR0 HO0 HD0
        have hsz2 : B < w1.heap.size := (Array.getElem?_eq_some_iff.1 HR1.out).1
        obtain ⟨Y, hY⟩ : ∃ Y, w1.heap.size = Y := ⟨_, rfl⟩
        obtain ⟨w2, hw2⟩ : ∃ x, w1.alloc (.cells #[.int .u8 2, .string ⟨s1.toArray⟩, .slice none 0 0, .slice none 0 0] 70) = x := ⟨_, rfl⟩
        have hy2 : w2.heap[Y]? = some (.cells #[.int .u8 2, .string ⟨s1.toArray⟩, .slice none 0 0, .slice none 0 0] 70 (0, 0)) := by rw [← hw2, ← hY]; exact heap_new _ _
        have hr2 : w2.heap[B]? = some (.cells #[.int .u8 0, .string ⟨#[]⟩, .slice none 0 0, .slice none 0 0] 70 (0, 0)) := by rw [← hw2]; exact heap_old HR1.out _
        have oa2 : Only (fun _ => False) w1 w2 := by rw [← hw2]; exact (Only.refl _ _).alloc _
        rw [hY] at hsz2
        have HY2 := Lib.hid hy2; have HR2 := Lib.hid hr2; have HD2 := Lib.hid (HD1.out.still oa2); have HO2 := Lib.hid (HO1.out.trans' oa2 (fun q _ e => e.elim)); have HW2 := Lib.hid hw2; have HYY := Lib.hid hY; have HJ2 := HJ1
        clear hy2 hr2 hw2 hY oa2 HR1 HD1 HO1 HJ1
        go_upto_region 7 with (fail)
        rw [HYY.out, HW2.out]
        clear HYY HW2
        obtain ⟨y0, y1, y2, y3, yz⟩ := boxN4 HY2.out
        go_upto_region 10 with (fail)
        clear y0 y1 y2 y3 yz
        have HJu := HJ2.out
        unfold objQ at HJu
        clear HJ2
        have HJ2 := Lib.hid HJu; clear HJu
        have J := Lib.hid (swant_any b all σ1 [123] w2 HD2.out)
        go_wp2_with fail
        refine J.out.mono ?_
        rintro e w3 ⟨rfl, hd, o4⟩
        have hv : ∀ x q, (σ1.bind fun _ => wantP [123]) = .ok x q → True := fun _ _ _ => trivial
        obtain ⟨σ3, hσ⟩ : ∃ z, (σ1.bind fun _ => wantP [123]).unit = z := ⟨_, rfl⟩
        rw [hσ] at hd
        have hj := Jn.call (fun _ => True) HJ2.out hσ.symm hv
        have HJ3 := Lib.hid hj; have HD3 := Lib.hid hd
        clear hj hd hv hσ HJ2 J
        have hr3 := (o4.block B (Array.getElem?_eq_some_iff.1 HR2.out).1 (by omega)).trans HR2.out
        have HR3 := Lib.hid hr3
        have hy3 := (o4.block Y (Array.getElem?_eq_some_iff.1 HY2.out).1 (by omega)).trans HY2.out
        have HY3 := Lib.hid hy3
        have HO3 := Lib.hid (HO2.out.trans' o4 (fun q hq e => by exact e))
        clear hr3 hy3
        clear o4
        clear HR2 HO2 HD2 HY2
        have J := Lib.hid (smanyF_any fdP fdP_takes b all σ3 [125] w3 HD3.out (fun wx σ' _ hd => sfield_any b all σ' wx hd))
        go_wp2_with fail
        refine J.out.mono ?_
        rintro e w4 ⟨v, rfl, ⟨ar4, lr4, cr4, rfl⟩, hd, hv, o4⟩
        have hsy : Y < w3.heap.size := (Array.getElem?_eq_some_iff.1 HY3.out).1
        have hv : ∀ x q, (σ3.bind fun _ => (fun r => manyP fdP [125] (r.length + 1) [] r)) = .ok x q → CellAt w4 (fun q => Y < q) (.row 11 (x.map fdC)) (.slice ar4 lr4 cr4) := fun x q e => CellAt.weaken (fun q _ h => by have h : w3.heap.size ≤ q := h; show Y < q; omega) _ _ (hv x q e)
        obtain ⟨σ4, hσ⟩ : ∃ z, (σ3.bind fun _ => (fun r => manyP fdP [125] (r.length + 1) [] r)).unit = z := ⟨_, rfl⟩
        rw [hσ] at hd
        have hj := Jn.call (fun x => CellAt w4 (fun q => Y < q) (.row 11 (x.map fdC)) (.slice ar4 lr4 cr4)) HJ3.out hσ.symm hv
        have HJ4 := Lib.hid hj; have HD4 := Lib.hid hd
        clear hj hd hv hσ HJ3 J hsy
        have hr4 := (o4.block B (Array.getElem?_eq_some_iff.1 HR3.out).1 (by omega)).trans HR3.out
        have HR4 := Lib.hid hr4
        have hy4 := (o4.block Y (Array.getElem?_eq_some_iff.1 HY3.out).1 (by omega)).trans HY3.out
        have HY4 := Lib.hid hy4
        have HO4 := Lib.hid (HO3.out.trans' o4 (fun q hq e => by exact e))
        clear hr4 hy4
        have HC4_4 := Lib.hid (Only.refl (fun k => k ≤ Y) w4)
        clear o4
        clear HR3 HO3 HD3 HY3
        obtain ⟨y0, y1, y2, y3, yz⟩ := boxN4 HY4.out
        go_upto_region 21 with (fail)
        clear y0 y1 y2 y3 yz
        have hy5 := heap_set (o := 2) HY4.out (.slice ar4 lr4 cr4)
        have hy5 : (w4.setCell ⟨Y, 2, none⟩ (.slice ar4 lr4 cr4)).heap[Y]? = some (.cells #[.int .u8 2, .string ⟨s1.toArray⟩, .slice ar4 lr4 cr4, .slice none 0 0] 70 (0, 0)) := by simpa using hy5
        have os5 : Only (fun k => k = Y) w4 (w4.setCell ⟨Y, 2, none⟩ (.slice ar4 lr4 cr4)) := (Only.refl (fun k => k = Y) _).setCell (p := ⟨Y, 2, none⟩) (.inl rfl) _
        obtain ⟨w5, hw5⟩ : ∃ x, w4.setCell ⟨Y, 2, none⟩ (.slice ar4 lr4 cr4) = x := ⟨_, rfl⟩
        rw [hw5] at hy5 os5
        rw [hw5]
        clear hw5
        have HY5 := Lib.hid hy5; have HD5 := Lib.hid (HD4.out.only os5 (fun k hk e => by omega)); have HJ5 := HJ4
        have hr5 := (os5.block B (Array.getElem?_eq_some_iff.1 HR4.out).1 (by omega)).trans HR4.out
        have HR5 := Lib.hid hr5
        have HC4_5 := Lib.hid (HC4_4.out.trans' os5 (fun q hq e => by have e : q = Y := e; show q ≤ Y; omega))
        have HO5 := Lib.hid (HO4.out.trans' os5 (fun q hq e => by have e : q = Y := e; have := HWB.out; omega))
        clear hr5
        clear hy5 os5 HJ4
        clear HR4 HO4 HD4 HY4 HC4_4
        obtain ⟨y0, y1, y2, y3, yz⟩ := boxN4 HY5.out
        go_wp2_with ((refine wpList_store_box (o := ⟨none, _, _, _, _, _⟩) rfl 70 (.tmp 2) (.tmp 67) (by rfl) B [.int .u8 0, .string ⟨#[]⟩, .slice none 0 0, .slice none 0 0] [.int .u8 2, .string ⟨s1.toArray⟩, .slice ar4 lr4 cr4, .slice none 0 0] (by rfl) (by rfl) HR5.out (by rfl) (by kernel_rfl) (by intro u hu; simp at hu; rcases hu with rfl | rfl | rfl | rfl <;> rfl) ?_; intro w9 k1 k2))
        clear y0 y1 y2 y3 yz
        obtain ⟨y0, y1, y2, y3, -⟩ := boxN4 k1
        obtain ⟨hdn, hxs⟩ := HJ5.out.done
        have hd9 : Sd w9 b all total.unit := by rw [← hdn]; exact HD5.out.only k2 (fun k hk e => by omega)
        have o4 := HC4_5.out.trans' k2 (fun q hq e => by have e : q = B := e; show q ≤ Y; omega)
        have hag : ∀ x q, total = .ok x q → aggP B tdC w9 x (.agg #[.int .u8 2, .string ⟨s1.toArray⟩, .slice ar4 lr4 cr4, .slice none 0 0]) := fun x q e => by
          obtain ⟨⟨⟨⟨u, n1⟩, u2⟩, fs1⟩, rfl, ⟨⟨⟨-, k1⟩, -⟩, k3⟩⟩ := hxs x q e
          subst k1
          exact ⟨_, rfl, CellsAt.lit rfl (CellsAt.lit rfl (CellsAt.cons (CellAt.weaken (G' := fun q => B ≤ q) (fun q _ h => by have h : Y < q := h; show B ≤ q; omega) _ _ (CellAt.only o4 (fun k hk e => by have hk : Y < k := hk; have e : k ≤ Y := e; omega) _ _ k3)) (CellsAt.cons (CellAt.nilRow _ _ _) (CellsAt.nil _ _))))⟩
        exact bodyPost_ret (v := .agg #[.int .u8 2, .string ⟨s1.toArray⟩, .slice ar4 lr4 cr4, .slice none 0 0]) (by simp [results, Tryd.results38, go_sem, y0, y1, y2, y3]) rfl (HPP.out w9 _ ⟨2, s1, ar4, lr4, cr4, none, 0, 0, rfl⟩ hd9 hag (HO5.out.trans' k2 (fun q hq e => by have := HWB.out; omega)))
    · -- union
      have hix : ∀ wx : World, (Instr.index 120 (.agg #[.string ⟨#[116, 121, 112, 101]⟩, .string ⟨#[105, 110, 116, 101, 114, 102, 97, 99, 101]⟩, .string ⟨#[117, 110, 105, 111, 110]⟩, .string ⟨#[101, 110, 117, 109]⟩, .string ⟨#[105, 110, 112, 117, 116]⟩]) (.int .i64 2)).run Tryd.prog wx = .ok (.string ⟨#[117, 110, 105, 111, 110]⟩) wx := fun _ => rfl
      have J := Lib.hid (stake_any b all σi wUnion wr HSD.out)
      unfold tookS at J
      obtain ⟨bb, hb⟩ : ∃ x, tst σi (isT wUnion) = x := ⟨_, rfl⟩
      rw [hb] at J
      have HBT := Lib.hid hb; clear hb
      cases bb
      · rw [if_neg (by decide)] at J
        go_wp2_with fail
        refine J.out.mono ?_
        rintro e w1 ⟨rfl, hd, o4⟩
        have hi : OneI w b B all σi 3 w1 := ⟨hd, (o4.block B (Array.getElem?_eq_some_iff.1 HRR.out).1 (by omega)).trans HRR.out, HON.out.trans o4, fun i hi => by
          rcases Nat.lt_or_ge i 2 with h | h
          · exact HWW.out i h
          · obtain rfl : i = 2 := by omega
            exact HBT.out⟩
        have HI2 := Lib.hid hi; clear hi hd o4 J
        go_wp2_with fail
        go_roundw
        case rel => first | exact ⟨3, rfl, by omega, HI2⟩ | ((repeat apply Exists.intro); exact ⟨rfl, by omega, HI2⟩)
        case measure => simp [natV]
      · rw [if_pos rfl] at J
        go_wp2_with fail
        refine J.out.mono ?_
        rintro e w0 ⟨rfl, hd, o4⟩
        obtain ⟨σ0, hσ⟩ : ∃ z, adv σi = z := ⟨_, rfl⟩
        have ht := HYES.out 2 (by omega) HWW.out HBT.out
        rw [hσ] at hd ht
        have hj := Jn.start σ0 (tdK 2)
        rw [← ht] at hj
        have hj : Jn (τ := Unit) total σ0 (fun _ => True) (fun _ => td3) := hj
        unfold td3 at hj
        have HJ0 := Lib.hid hj; have HD0 := Lib.hid hd; have HR0 := Lib.hid ((o4.block B (Array.getElem?_eq_some_iff.1 HRR.out).1 (by omega)).trans HRR.out); have HO0 := Lib.hid (HON.out.trans o4)
        clear hj hd ht hσ o4 J HBT HSD HRR HON HWW HYES HNO
        have J := Lib.hid (sname_any b all σ0 w0 HD0.out)
        go_wp2_with fail
        refine J.out.mono ?_
        rintro e w1 ⟨v, rfl, ⟨s1, rfl⟩, hd, hv, o4⟩
        have hv : ∀ x q, (σ0.bind fun _ => nameP) = .ok x q → s1 = x := fun x q e => str_inj (hv x q e)
        obtain ⟨σ1, hσ⟩ : ∃ z, (σ0.bind fun _ => nameP).unit = z := ⟨_, rfl⟩
        rw [hσ] at hd
        have hj := Jn.call (fun x => s1 = x) HJ0.out hσ.symm hv
        have HJ1 := Lib.hid hj; have HD1 := Lib.hid hd
        clear hj hd hv hσ HJ0 J
        have hr1 := (o4.block B (Array.getElem?_eq_some_iff.1 HR0.out).1 (by omega)).trans HR0.out
        have HR1 := Lib.hid hr1
        have HO1 := Lib.hid (HO0.out.trans' o4 (fun q hq e => by exact e))
        clear hr1
        clear o4
        clear HR0 HO0 HD0
        have hsz2 : B < w1.heap.size := (Array.getElem?_eq_some_iff.1 HR1.out).1
        obtain ⟨Y, hY⟩ : ∃ Y, w1.heap.size = Y := ⟨_, rfl⟩
        obtain ⟨w2, hw2⟩ : ∃ x, w1.alloc (.cells #[.int .u8 3, .string ⟨s1.toArray⟩, .slice none 0 0, .slice none 0 0] 70) = x := ⟨_, rfl⟩
        have hy2 : w2.heap[Y]? = some (.cells #[.int .u8 3, .string ⟨s1.toArray⟩, .slice none 0 0, .slice none 0 0] 70 (0, 0)) := by rw [← hw2, ← hY]; exact heap_new _ _
        have hr2 : w2.heap[B]? = some (.cells #[.int .u8 0, .string ⟨#[]⟩, .slice none 0 0, .slice none 0 0] 70 (0, 0)) := by rw [← hw2]; exact heap_old HR1.out _
        have oa2 : Only (fun _ => False) w1 w2 := by rw [← hw2]; exact (Only.refl _ _).alloc _
        rw [hY] at hsz2
        have HY2 := Lib.hid hy2; have HR2 := Lib.hid hr2; have HD2 := Lib.hid (HD1.out.still oa2); have HO2 := Lib.hid (HO1.out.trans' oa2 (fun q _ e => e.elim)); have HW2 := Lib.hid hw2; have HYY := Lib.hid hY; have HJ2 := HJ1
        clear hy2 hr2 hw2 hY oa2 HR1 HD1 HO1 HJ1
        go_upto_region 7 with (fail)
        rw [HYY.out, HW2.out]
        clear HYY HW2
        obtain ⟨y0, y1, y2, y3, yz⟩ := boxN4 HY2.out
        go_upto_region 13 with (fail)
        clear y0 y1 y2 y3 yz
        have J := Lib.hid (swant_any b all σ1 [61] w2 HD2.out)
        go_wp2_with fail
        refine J.out.mono ?_
        rintro e w3 ⟨rfl, hd, o4⟩
        have hv : ∀ x q, (σ1.bind fun _ => wantP [61]) = .ok x q → True := fun _ _ _ => trivial
        obtain ⟨σ3, hσ⟩ : ∃ z, (σ1.bind fun _ => wantP [61]).unit = z := ⟨_, rfl⟩
        rw [hσ] at hd
        have hj := Jn.call (fun _ => True) HJ2.out hσ.symm hv
        have HJ3 := Lib.hid hj; have HD3 := Lib.hid hd
        clear hj hd hv hσ HJ2 J
        have hr3 := (o4.block B (Array.getElem?_eq_some_iff.1 HR2.out).1 (by omega)).trans HR2.out
        have HR3 := Lib.hid hr3
        have hy3 := (o4.block Y (Array.getElem?_eq_some_iff.1 HY2.out).1 (by omega)).trans HY2.out
        have HY3 := Lib.hid hy3
        have HO3 := Lib.hid (HO2.out.trans' o4 (fun q hq e => by exact e))
        clear hr3 hy3
        clear o4
        clear HR2 HO2 HD2 HY2
        have J := Lib.hid (snames_any [124] b all σ3 w3 HD3.out)
        go_wp2_with fail
        refine J.out.mono ?_
        rintro e w4 ⟨v, rfl, ⟨ar4, lr4, cr4, rfl⟩, hd, hv, o4⟩
        have hsy : Y < w3.heap.size := (Array.getElem?_eq_some_iff.1 HY3.out).1
        have hv : ∀ x q, (σ3.bind fun _ => namesP [124]) = .ok x q → CellAt w4 (fun q => Y < q) (.row 1 (x.map (fun s => [strC s]))) (.slice ar4 lr4 cr4) := fun x q e => CellAt.weaken (fun q _ h => by have h : w3.heap.size ≤ q := h; show Y < q; omega) _ _ (hv x q e)
        obtain ⟨σ4, hσ⟩ : ∃ z, (σ3.bind fun _ => namesP [124]).unit = z := ⟨_, rfl⟩
        rw [hσ] at hd
        have hj := Jn.call (fun x => CellAt w4 (fun q => Y < q) (.row 1 (x.map (fun s => [strC s]))) (.slice ar4 lr4 cr4)) HJ3.out hσ.symm hv
        have HJ4 := Lib.hid hj; have HD4 := Lib.hid hd
        clear hj hd hv hσ HJ3 J hsy
        have hr4 := (o4.block B (Array.getElem?_eq_some_iff.1 HR3.out).1 (by omega)).trans HR3.out
        have HR4 := Lib.hid hr4
        have hy4 := (o4.block Y (Array.getElem?_eq_some_iff.1 HY3.out).1 (by omega)).trans HY3.out
        have HY4 := Lib.hid hy4
        have HO4 := Lib.hid (HO3.out.trans' o4 (fun q hq e => by exact e))
        clear hr4 hy4
        have HC4_4 := Lib.hid (Only.refl (fun k => k ≤ Y) w4)
        clear o4
        clear HR3 HO3 HD3 HY3
        obtain ⟨y0, y1, y2, y3, yz⟩ := boxN4 HY4.out
        go_upto_region 21 with (fail)
        clear y0 y1 y2 y3 yz
        have hy5 := heap_set (o := 3) HY4.out (.slice ar4 lr4 cr4)
        have hy5 : (w4.setCell ⟨Y, 3, none⟩ (.slice ar4 lr4 cr4)).heap[Y]? = some (.cells #[.int .u8 3, .string ⟨s1.toArray⟩, .slice none 0 0, .slice ar4 lr4 cr4] 70 (0, 0)) := by simpa using hy5
        have os5 : Only (fun k => k = Y) w4 (w4.setCell ⟨Y, 3, none⟩ (.slice ar4 lr4 cr4)) := (Only.refl (fun k => k = Y) _).setCell (p := ⟨Y, 3, none⟩) (.inl rfl) _
        obtain ⟨w5, hw5⟩ : ∃ x, w4.setCell ⟨Y, 3, none⟩ (.slice ar4 lr4 cr4) = x := ⟨_, rfl⟩
        rw [hw5] at hy5 os5
        rw [hw5]
        clear hw5
        have HY5 := Lib.hid hy5; have HD5 := Lib.hid (HD4.out.only os5 (fun k hk e => by omega)); have HJ5 := HJ4
        have hr5 := (os5.block B (Array.getElem?_eq_some_iff.1 HR4.out).1 (by omega)).trans HR4.out
        have HR5 := Lib.hid hr5
        have HC4_5 := Lib.hid (HC4_4.out.trans' os5 (fun q hq e => by have e : q = Y := e; show q ≤ Y; omega))
        have HO5 := Lib.hid (HO4.out.trans' os5 (fun q hq e => by have e : q = Y := e; have := HWB.out; omega))
        clear hr5
        clear hy5 os5 HJ4
        clear HR4 HO4 HD4 HY4 HC4_4
        obtain ⟨y0, y1, y2, y3, yz⟩ := boxN4 HY5.out
        go_wp2_with ((refine wpList_store_box (o := ⟨none, _, _, _, _, _⟩) rfl 70 (.tmp 2) (.tmp 67) (by rfl) B [.int .u8 0, .string ⟨#[]⟩, .slice none 0 0, .slice none 0 0] [.int .u8 3, .string ⟨s1.toArray⟩, .slice none 0 0, .slice ar4 lr4 cr4] (by rfl) (by rfl) HR5.out (by rfl) (by kernel_rfl) (by intro u hu; simp at hu; rcases hu with rfl | rfl | rfl | rfl <;> rfl) ?_; intro w9 k1 k2))
        clear y0 y1 y2 y3 yz
        obtain ⟨y0, y1, y2, y3, -⟩ := boxN4 k1
        obtain ⟨hdn, hxs⟩ := HJ5.out.done
        have hd9 : Sd w9 b all total.unit := by rw [← hdn]; exact HD5.out.only k2 (fun k hk e => by omega)
        have o4 := HC4_5.out.trans' k2 (fun q hq e => by have e : q = B := e; show q ≤ Y; omega)
        have hag : ∀ x q, total = .ok x q → aggP B tdC w9 x (.agg #[.int .u8 3, .string ⟨s1.toArray⟩, .slice none 0 0, .slice ar4 lr4 cr4]) := fun x q e => by
          obtain ⟨⟨⟨⟨u, n1⟩, u2⟩, l1⟩, rfl, ⟨⟨⟨-, k1⟩, -⟩, k3⟩⟩ := hxs x q e
          subst k1
          exact ⟨_, rfl, CellsAt.lit rfl (CellsAt.lit rfl (CellsAt.cons (CellAt.nilRow _ _ _) (CellsAt.cons (CellAt.weaken (G' := fun q => B ≤ q) (fun q _ h => by have h : Y < q := h; show B ≤ q; omega) _ _ (CellAt.only o4 (fun k hk e => by have hk : Y < k := hk; have e : k ≤ Y := e; omega) _ _ k3)) (CellsAt.nil _ _))))⟩
        exact bodyPost_ret (v := .agg #[.int .u8 3, .string ⟨s1.toArray⟩, .slice none 0 0, .slice ar4 lr4 cr4]) (by simp [results, Tryd.results38, go_sem, y0, y1, y2, y3]) rfl (HPP.out w9 _ ⟨3, s1, none, 0, 0, ar4, lr4, cr4, rfl⟩ hd9 hag (HO5.out.trans' k2 (fun q hq e => by have := HWB.out; omega)))
    · -- enum
      have hix : ∀ wx : World, (Instr.index 120 (.agg #[.string ⟨#[116, 121, 112, 101]⟩, .string ⟨#[105, 110, 116, 101, 114, 102, 97, 99, 101]⟩, .string ⟨#[117, 110, 105, 111, 110]⟩, .string ⟨#[101, 110, 117, 109]⟩, .string ⟨#[105, 110, 112, 117, 116]⟩]) (.int .i64 3)).run Tryd.prog wx = .ok (.string ⟨#[101, 110, 117, 109]⟩) wx := fun _ => rfl
      have J := Lib.hid (stake_any b all σi wEnum wr HSD.out)
      unfold tookS at J
      obtain ⟨bb, hb⟩ : ∃ x, tst σi (isT wEnum) = x := ⟨_, rfl⟩
      rw [hb] at J
      have HBT := Lib.hid hb; clear hb
      cases bb
      · rw [if_neg (by decide)] at J
        go_wp2_with fail
        refine J.out.mono ?_
        rintro e w1 ⟨rfl, hd, o4⟩
        have hi : OneI w b B all σi 4 w1 := ⟨hd, (o4.block B (Array.getElem?_eq_some_iff.1 HRR.out).1 (by omega)).trans HRR.out, HON.out.trans o4, fun i hi => by
          rcases Nat.lt_or_ge i 3 with h | h
          · exact HWW.out i h
          · obtain rfl : i = 3 := by omega
            exact HBT.out⟩
        have HI2 := Lib.hid hi; clear hi hd o4 J
        go_wp2_with fail
        go_roundw
        case rel => first | exact ⟨4, rfl, by omega, HI2⟩ | ((repeat apply Exists.intro); exact ⟨rfl, by omega, HI2⟩)
        case measure => simp [natV]
      · rw [if_pos rfl] at J
        go_wp2_with fail
        refine J.out.mono ?_
        rintro e w0 ⟨rfl, hd, o4⟩
        obtain ⟨σ0, hσ⟩ : ∃ z, adv σi = z := ⟨_, rfl⟩
        have ht := HYES.out 3 (by omega) HWW.out HBT.out
        rw [hσ] at hd ht
        have hj := Jn.start σ0 (tdK 3)
        rw [← ht] at hj
        have hj : Jn (τ := Unit) total σ0 (fun _ => True) (fun _ => td4) := hj
        unfold td4 at hj
        have HJ0 := Lib.hid hj; have HD0 := Lib.hid hd; have HR0 := Lib.hid ((o4.block B (Array.getElem?_eq_some_iff.1 HRR.out).1 (by omega)).trans HRR.out); have HO0 := Lib.hid (HON.out.trans o4)
        clear hj hd ht hσ o4 J HBT HSD HRR HON HWW HYES HNO
        have hmf : ∀ (fn : Fn) (first cap : Array Value) (w : World), (Instr.makeFunc fn first cap).run Tryd.prog w = .ok (.func fn first cap) w := fun _ _ _ _ => rfl
        have J := Lib.hid (sname_any b all σ0 w0 HD0.out)
        go_wp2_with fail
        refine J.out.mono ?_
        rintro e w1 ⟨v, rfl, ⟨s1, rfl⟩, hd, hv, o4⟩
        have hv : ∀ x q, (σ0.bind fun _ => nameP) = .ok x q → s1 = x := fun x q e => str_inj (hv x q e)
        obtain ⟨σ1, hσ⟩ : ∃ z, (σ0.bind fun _ => nameP).unit = z := ⟨_, rfl⟩
        rw [hσ] at hd
        have hj := Jn.call (fun x => s1 = x) HJ0.out hσ.symm hv
        have HJ1 := Lib.hid hj; have HD1 := Lib.hid hd
        clear hj hd hv hσ HJ0 J
        have hr1 := (o4.block B (Array.getElem?_eq_some_iff.1 HR0.out).1 (by omega)).trans HR0.out
        have HR1 := Lib.hid hr1
        have HO1 := Lib.hid (HO0.out.trans' o4 (fun q hq e => by exact e))
        clear hr1
        clear o4
        clear HR0 HO0 HD0
        have hsz2 : B < w1.heap.size := (Array.getElem?_eq_some_iff.1 HR1.out).1
        obtain ⟨Y, hY⟩ : ∃ Y, w1.heap.size = Y := ⟨_, rfl⟩
        obtain ⟨w2, hw2⟩ : ∃ x, w1.alloc (.cells #[.int .u8 4, .string ⟨s1.toArray⟩, .slice none 0 0, .slice none 0 0] 70) = x := ⟨_, rfl⟩
        have hy2 : w2.heap[Y]? = some (.cells #[.int .u8 4, .string ⟨s1.toArray⟩, .slice none 0 0, .slice none 0 0] 70 (0, 0)) := by rw [← hw2, ← hY]; exact heap_new _ _
        have hr2 : w2.heap[B]? = some (.cells #[.int .u8 0, .string ⟨#[]⟩, .slice none 0 0, .slice none 0 0] 70 (0, 0)) := by rw [← hw2]; exact heap_old HR1.out _
        have oa2 : Only (fun _ => False) w1 w2 := by rw [← hw2]; exact (Only.refl _ _).alloc _
        rw [hY] at hsz2
        have HY2 := Lib.hid hy2; have HR2 := Lib.hid hr2; have HD2 := Lib.hid (HD1.out.still oa2); have HO2 := Lib.hid (HO1.out.trans' oa2 (fun q _ e => e.elim)); have HW2 := Lib.hid hw2; have HYY := Lib.hid hY; have HJ2 := HJ1
        clear hy2 hr2 hw2 hY oa2 HR1 HD1 HO1 HJ1
        go_upto_region 7 with (fail)
        rw [HYY.out, HW2.out]
        clear HYY HW2
        obtain ⟨y0, y1, y2, y3, yz⟩ := boxN4 HY2.out
        go_upto_region 16 with (fail)
        clear y0 y1 y2 y3 yz
        have J := Lib.hid (swant_any b all σ1 [123] w2 HD2.out)
        go_wp2_with fail
        refine J.out.mono ?_
        rintro e w3 ⟨rfl, hd, o4⟩
        have hv : ∀ x q, (σ1.bind fun _ => wantP [123]) = .ok x q → True := fun _ _ _ => trivial
        obtain ⟨σ3, hσ⟩ : ∃ z, (σ1.bind fun _ => wantP [123]).unit = z := ⟨_, rfl⟩
        rw [hσ] at hd
        have hj := Jn.call (fun _ => True) HJ2.out hσ.symm hv
        have HJ3 := Lib.hid hj; have HD3 := Lib.hid hd
        clear hj hd hv hσ HJ2 J
        have hr3 := (o4.block B (Array.getElem?_eq_some_iff.1 HR2.out).1 (by omega)).trans HR2.out
        have HR3 := Lib.hid hr3
        have hy3 := (o4.block Y (Array.getElem?_eq_some_iff.1 HY2.out).1 (by omega)).trans HY2.out
        have HY3 := Lib.hid hy3
        have HO3 := Lib.hid (HO2.out.trans' o4 (fun q hq e => by exact e))
        clear hr3 hy3
        clear o4
        clear HR2 HO2 HD2 HY2
        have J := Lib.hid (smanyS_any plainP plainP_takes b all σ3 [125] w3 HD3.out (fun wx σ' _ hd => splain_any b all σ' wx hd))
        go_wp2_with fail
        refine J.out.mono ?_
        rintro e w4 ⟨v, rfl, ⟨ar4, lr4, cr4, rfl⟩, hd, hv, o4⟩
        have hsy : Y < w3.heap.size := (Array.getElem?_eq_some_iff.1 HY3.out).1
        have hv : ∀ x q, (σ3.bind fun _ => (fun r => manyP plainP [125] (r.length + 1) [] r)) = .ok x q → CellAt w4 (fun q => Y < q) (.row 1 (x.map (fun s => [strC s]))) (.slice ar4 lr4 cr4) := fun x q e => CellAt.weaken (fun q _ h => by have h : w3.heap.size ≤ q := h; show Y < q; omega) _ _ (hv x q e)
        obtain ⟨σ4, hσ⟩ : ∃ z, (σ3.bind fun _ => (fun r => manyP plainP [125] (r.length + 1) [] r)).unit = z := ⟨_, rfl⟩
        rw [hσ] at hd
        have hj := Jn.call (fun x => CellAt w4 (fun q => Y < q) (.row 1 (x.map (fun s => [strC s]))) (.slice ar4 lr4 cr4)) HJ3.out hσ.symm hv
        have HJ4 := Lib.hid hj; have HD4 := Lib.hid hd
        clear hj hd hv hσ HJ3 J hsy
        have hr4 := (o4.block B (Array.getElem?_eq_some_iff.1 HR3.out).1 (by omega)).trans HR3.out
        have HR4 := Lib.hid hr4
        have hy4 := (o4.block Y (Array.getElem?_eq_some_iff.1 HY3.out).1 (by omega)).trans HY3.out
        have HY4 := Lib.hid hy4
        have HO4 := Lib.hid (HO3.out.trans' o4 (fun q hq e => by exact e))
        clear hr4 hy4
        have HC4_4 := Lib.hid (Only.refl (fun k => k ≤ Y) w4)
        clear o4
        clear HR3 HO3 HD3 HY3
        obtain ⟨y0, y1, y2, y3, yz⟩ := boxN4 HY4.out
        go_upto_region 21 with (fail)
        clear y0 y1 y2 y3 yz
        have hy5 := heap_set (o := 3) HY4.out (.slice ar4 lr4 cr4)
        have hy5 : (w4.setCell ⟨Y, 3, none⟩ (.slice ar4 lr4 cr4)).heap[Y]? = some (.cells #[.int .u8 4, .string ⟨s1.toArray⟩, .slice none 0 0, .slice ar4 lr4 cr4] 70 (0, 0)) := by simpa using hy5
        have os5 : Only (fun k => k = Y) w4 (w4.setCell ⟨Y, 3, none⟩ (.slice ar4 lr4 cr4)) := (Only.refl (fun k => k = Y) _).setCell (p := ⟨Y, 3, none⟩) (.inl rfl) _
        obtain ⟨w5, hw5⟩ : ∃ x, w4.setCell ⟨Y, 3, none⟩ (.slice ar4 lr4 cr4) = x := ⟨_, rfl⟩
        rw [hw5] at hy5 os5
        rw [hw5]
        clear hw5
        have HY5 := Lib.hid hy5; have HD5 := Lib.hid (HD4.out.only os5 (fun k hk e => by omega)); have HJ5 := HJ4
        have hr5 := (os5.block B (Array.getElem?_eq_some_iff.1 HR4.out).1 (by omega)).trans HR4.out
        have HR5 := Lib.hid hr5
        have HC4_5 := Lib.hid (HC4_4.out.trans' os5 (fun q hq e => by have e : q = Y := e; show q ≤ Y; omega))
        have HO5 := Lib.hid (HO4.out.trans' os5 (fun q hq e => by have e : q = Y := e; have := HWB.out; omega))
        clear hr5
        clear hy5 os5 HJ4
        clear HR4 HO4 HD4 HY4 HC4_4
        obtain ⟨y0, y1, y2, y3, yz⟩ := boxN4 HY5.out
        go_wp2_with ((refine wpList_store_box (o := ⟨none, _, _, _, _, _⟩) rfl 70 (.tmp 2) (.tmp 67) (by rfl) B [.int .u8 0, .string ⟨#[]⟩, .slice none 0 0, .slice none 0 0] [.int .u8 4, .string ⟨s1.toArray⟩, .slice none 0 0, .slice ar4 lr4 cr4] (by rfl) (by rfl) HR5.out (by rfl) (by kernel_rfl) (by intro u hu; simp at hu; rcases hu with rfl | rfl | rfl | rfl <;> rfl) ?_; intro w9 k1 k2))
        clear y0 y1 y2 y3 yz
        obtain ⟨y0, y1, y2, y3, -⟩ := boxN4 k1
        obtain ⟨hdn, hxs⟩ := HJ5.out.done
        have hd9 : Sd w9 b all total.unit := by rw [← hdn]; exact HD5.out.only k2 (fun k hk e => by omega)
        have o4 := HC4_5.out.trans' k2 (fun q hq e => by have e : q = B := e; show q ≤ Y; omega)
        have hag : ∀ x q, total = .ok x q → aggP B tdC w9 x (.agg #[.int .u8 4, .string ⟨s1.toArray⟩, .slice none 0 0, .slice ar4 lr4 cr4]) := fun x q e => by
          obtain ⟨⟨⟨⟨u, n1⟩, u2⟩, l1⟩, rfl, ⟨⟨⟨-, k1⟩, -⟩, k3⟩⟩ := hxs x q e
          subst k1
          exact ⟨_, rfl, CellsAt.lit rfl (CellsAt.lit rfl (CellsAt.cons (CellAt.nilRow _ _ _) (CellsAt.cons (CellAt.weaken (G' := fun q => B ≤ q) (fun q _ h => by have h : Y < q := h; show B ≤ q; omega) _ _ (CellAt.only o4 (fun k hk e => by have hk : Y < k := hk; have e : k ≤ Y := e; omega) _ _ k3)) (CellsAt.nil _ _))))⟩
        exact bodyPost_ret (v := .agg #[.int .u8 4, .string ⟨s1.toArray⟩, .slice none 0 0, .slice ar4 lr4 cr4]) (by simp [results, Tryd.results38, go_sem, y0, y1, y2, y3]) rfl (HPP.out w9 _ ⟨4, s1, none, 0, 0, ar4, lr4, cr4, rfl⟩ hd9 hag (HO5.out.trans' k2 (fun q hq e => by have := HWB.out; omega)))
    · -- input
      have hix : ∀ wx : World, (Instr.index 120 (.agg #[.string ⟨#[116, 121, 112, 101]⟩, .string ⟨#[105, 110, 116, 101, 114, 102, 97, 99, 101]⟩, .string ⟨#[117, 110, 105, 111, 110]⟩, .string ⟨#[101, 110, 117, 109]⟩, .string ⟨#[105, 110, 112, 117, 116]⟩]) (.int .i64 4)).run Tryd.prog wx = .ok (.string ⟨#[105, 110, 112, 117, 116]⟩) wx := fun _ => rfl
      have J := Lib.hid (stake_any b all σi wInput wr HSD.out)
      unfold tookS at J
      obtain ⟨bb, hb⟩ : ∃ x, tst σi (isT wInput) = x := ⟨_, rfl⟩
      rw [hb] at J
      have HBT := Lib.hid hb; clear hb
      cases bb
      · rw [if_neg (by decide)] at J
        go_wp2_with fail
        refine J.out.mono ?_
        rintro e w1 ⟨rfl, hd, o4⟩
        have hi : OneI w b B all σi 5 w1 := ⟨hd, (o4.block B (Array.getElem?_eq_some_iff.1 HRR.out).1 (by omega)).trans HRR.out, HON.out.trans o4, fun i hi => by
          rcases Nat.lt_or_ge i 4 with h | h
          · exact HWW.out i h
          · obtain rfl : i = 4 := by omega
            exact HBT.out⟩
        have HI2 := Lib.hid hi; clear hi hd o4 J
        go_wp2_with fail
        go_roundw
        case rel => first | exact ⟨5, rfl, by omega, HI2⟩ | ((repeat apply Exists.intro); exact ⟨rfl, by omega, HI2⟩)
        case measure => simp [natV]
      · rw [if_pos rfl] at J
        go_wp2_with fail
        refine J.out.mono ?_
        rintro e w0 ⟨rfl, hd, o4⟩
        obtain ⟨σ0, hσ⟩ : ∃ z, adv σi = z := ⟨_, rfl⟩
        have ht := HYES.out 4 (by omega) HWW.out HBT.out
        rw [hσ] at hd ht
        have hj := Jn.start σ0 (tdK 4)
        rw [← ht] at hj
        have hj : Jn (τ := Unit) total σ0 (fun _ => True) (fun _ => td5) := hj
        unfold td5 at hj
        have HJ0 := Lib.hid hj; have HD0 := Lib.hid hd; have HR0 := Lib.hid ((o4.block B (Array.getElem?_eq_some_iff.1 HRR.out).1 (by omega)).trans HRR.out); have HO0 := Lib.hid (HON.out.trans o4)
        clear hj hd ht hσ o4 J HBT HSD HRR HON HWW HYES HNO
        have hmf : ∀ (fn : Fn) (first cap : Array Value) (w : World), (Instr.makeFunc fn first cap).run Tryd.prog w = .ok (.func fn first cap) w := fun _ _ _ _ => rfl
        have J := Lib.hid (sname_any b all σ0 w0 HD0.out)
        go_wp2_with fail
        refine J.out.mono ?_
        rintro e w1 ⟨v, rfl, ⟨s1, rfl⟩, hd, hv, o4⟩
        have hv : ∀ x q, (σ0.bind fun _ => nameP) = .ok x q → s1 = x := fun x q e => str_inj (hv x q e)
        obtain ⟨σ1, hσ⟩ : ∃ z, (σ0.bind fun _ => nameP).unit = z := ⟨_, rfl⟩
        rw [hσ] at hd
        have hj := Jn.call (fun x => s1 = x) HJ0.out hσ.symm hv
        have HJ1 := Lib.hid hj; have HD1 := Lib.hid hd
        clear hj hd hv hσ HJ0 J
        have hr1 := (o4.block B (Array.getElem?_eq_some_iff.1 HR0.out).1 (by omega)).trans HR0.out
        have HR1 := Lib.hid hr1
        have HO1 := Lib.hid (HO0.out.trans' o4 (fun q hq e => by exact e))
        clear hr1
        clear o4
        clear HR0 HO0 HD0
        have hsz2 : B < w1.heap.size := (Array.getElem?_eq_some_iff.1 HR1.out).1
        obtain ⟨Y, hY⟩ : ∃ Y, w1.heap.size = Y := ⟨_, rfl⟩
        obtain ⟨w2, hw2⟩ : ∃ x, w1.alloc (.cells #[.int .u8 5, .string ⟨s1.toArray⟩, .slice none 0 0, .slice none 0 0] 70) = x := ⟨_, rfl⟩
        have hy2 : w2.heap[Y]? = some (.cells #[.int .u8 5, .string ⟨s1.toArray⟩, .slice none 0 0, .slice none 0 0] 70 (0, 0)) := by rw [← hw2, ← hY]; exact heap_new _ _
        have hr2 : w2.heap[B]? = some (.cells #[.int .u8 0, .string ⟨#[]⟩, .slice none 0 0, .slice none 0 0] 70 (0, 0)) := by rw [← hw2]; exact heap_old HR1.out _
        have oa2 : Only (fun _ => False) w1 w2 := by rw [← hw2]; exact (Only.refl _ _).alloc _
        rw [hY] at hsz2
        have HY2 := Lib.hid hy2; have HR2 := Lib.hid hr2; have HD2 := Lib.hid (HD1.out.still oa2); have HO2 := Lib.hid (HO1.out.trans' oa2 (fun q _ e => e.elim)); have HW2 := Lib.hid hw2; have HYY := Lib.hid hY; have HJ2 := HJ1
        clear hy2 hr2 hw2 hY oa2 HR1 HD1 HO1 HJ1
        go_upto_region 7 with (fail)
        rw [HYY.out, HW2.out]
        clear HYY HW2
        obtain ⟨y0, y1, y2, y3, yz⟩ := boxN4 HY2.out
        go_upto_region 19 with (fail)
        clear y0 y1 y2 y3 yz
        have J := Lib.hid (swant_any b all σ1 [123] w2 HD2.out)
        go_wp2_with fail
        refine J.out.mono ?_
        rintro e w3 ⟨rfl, hd, o4⟩
        have hv : ∀ x q, (σ1.bind fun _ => wantP [123]) = .ok x q → True := fun _ _ _ => trivial
        obtain ⟨σ3, hσ⟩ : ∃ z, (σ1.bind fun _ => wantP [123]).unit = z := ⟨_, rfl⟩
        rw [hσ] at hd
        have hj := Jn.call (fun _ => True) HJ2.out hσ.symm hv
        have HJ3 := Lib.hid hj; have HD3 := Lib.hid hd
        clear hj hd hv hσ HJ2 J
        have hr3 := (o4.block B (Array.getElem?_eq_some_iff.1 HR2.out).1 (by omega)).trans HR2.out
        have HR3 := Lib.hid hr3
        have hy3 := (o4.block Y (Array.getElem?_eq_some_iff.1 HY2.out).1 (by omega)).trans HY2.out
        have HY3 := Lib.hid hy3
        have HO3 := Lib.hid (HO2.out.trans' o4 (fun q hq e => by exact e))
        clear hr3 hy3
        clear o4
        clear HR2 HO2 HD2 HY2
        have J := Lib.hid (smanyI_any inP inP_takes b all σ3 [125] w3 HD3.out (fun wx σ' _ hd => sinput_any b all σ' wx hd))
        go_wp2_with fail
        refine J.out.mono ?_
        rintro e w4 ⟨v, rfl, ⟨ar4, lr4, cr4, rfl⟩, hd, hv, o4⟩
        have hsy : Y < w3.heap.size := (Array.getElem?_eq_some_iff.1 HY3.out).1
        have hv : ∀ x q, (σ3.bind fun _ => (fun r => manyP inP [125] (r.length + 1) [] r)) = .ok x q → CellAt w4 (fun q => Y < q) (.row 11 (x.map inC)) (.slice ar4 lr4 cr4) := fun x q e => CellAt.weaken (fun q _ h => by have h : w3.heap.size ≤ q := h; show Y < q; omega) _ _ (hv x q e)
        obtain ⟨σ4, hσ⟩ : ∃ z, (σ3.bind fun _ => (fun r => manyP inP [125] (r.length + 1) [] r)).unit = z := ⟨_, rfl⟩
        rw [hσ] at hd
        have hj := Jn.call (fun x => CellAt w4 (fun q => Y < q) (.row 11 (x.map inC)) (.slice ar4 lr4 cr4)) HJ3.out hσ.symm hv
        have HJ4 := Lib.hid hj; have HD4 := Lib.hid hd
        clear hj hd hv hσ HJ3 J hsy
        have hr4 := (o4.block B (Array.getElem?_eq_some_iff.1 HR3.out).1 (by omega)).trans HR3.out
        have HR4 := Lib.hid hr4
        have hy4 := (o4.block Y (Array.getElem?_eq_some_iff.1 HY3.out).1 (by omega)).trans HY3.out
        have HY4 := Lib.hid hy4
        have HO4 := Lib.hid (HO3.out.trans' o4 (fun q hq e => by exact e))
        clear hr4 hy4
        have HC4_4 := Lib.hid (Only.refl (fun k => k ≤ Y) w4)
        clear o4
        clear HR3 HO3 HD3 HY3
        obtain ⟨y0, y1, y2, y3, yz⟩ := boxN4 HY4.out
        go_upto_region 21 with (fail)
        clear y0 y1 y2 y3 yz
        have hy5 := heap_set (o := 2) HY4.out (.slice ar4 lr4 cr4)
        have hy5 : (w4.setCell ⟨Y, 2, none⟩ (.slice ar4 lr4 cr4)).heap[Y]? = some (.cells #[.int .u8 5, .string ⟨s1.toArray⟩, .slice ar4 lr4 cr4, .slice none 0 0] 70 (0, 0)) := by simpa using hy5
        have os5 : Only (fun k => k = Y) w4 (w4.setCell ⟨Y, 2, none⟩ (.slice ar4 lr4 cr4)) := (Only.refl (fun k => k = Y) _).setCell (p := ⟨Y, 2, none⟩) (.inl rfl) _
        obtain ⟨w5, hw5⟩ : ∃ x, w4.setCell ⟨Y, 2, none⟩ (.slice ar4 lr4 cr4) = x := ⟨_, rfl⟩
        rw [hw5] at hy5 os5
        rw [hw5]
        clear hw5
        have HY5 := Lib.hid hy5; have HD5 := Lib.hid (HD4.out.only os5 (fun k hk e => by omega)); have HJ5 := HJ4
        have hr5 := (os5.block B (Array.getElem?_eq_some_iff.1 HR4.out).1 (by omega)).trans HR4.out
        have HR5 := Lib.hid hr5
        have HC4_5 := Lib.hid (HC4_4.out.trans' os5 (fun q hq e => by have e : q = Y := e; show q ≤ Y; omega))
        have HO5 := Lib.hid (HO4.out.trans' os5 (fun q hq e => by have e : q = Y := e; have := HWB.out; omega))
        clear hr5
        clear hy5 os5 HJ4
        clear HR4 HO4 HD4 HY4 HC4_4
        obtain ⟨y0, y1, y2, y3, yz⟩ := boxN4 HY5.out
        go_wp2_with ((refine wpList_store_box (o := ⟨none, _, _, _, _, _⟩) rfl 70 (.tmp 2) (.tmp 67) (by rfl) B [.int .u8 0, .string ⟨#[]⟩, .slice none 0 0, .slice none 0 0] [.int .u8 5, .string ⟨s1.toArray⟩, .slice ar4 lr4 cr4, .slice none 0 0] (by rfl) (by rfl) HR5.out (by rfl) (by kernel_rfl) (by intro u hu; simp at hu; rcases hu with rfl | rfl | rfl | rfl <;> rfl) ?_; intro w9 k1 k2))
        clear y0 y1 y2 y3 yz
        obtain ⟨y0, y1, y2, y3, -⟩ := boxN4 k1
        obtain ⟨hdn, hxs⟩ := HJ5.out.done
        have hd9 : Sd w9 b all total.unit := by rw [← hdn]; exact HD5.out.only k2 (fun k hk e => by omega)
        have o4 := HC4_5.out.trans' k2 (fun q hq e => by have e : q = B := e; show q ≤ Y; omega)
        have hag : ∀ x q, total = .ok x q → aggP B tdC w9 x (.agg #[.int .u8 5, .string ⟨s1.toArray⟩, .slice ar4 lr4 cr4, .slice none 0 0]) := fun x q e => by
          obtain ⟨⟨⟨⟨u, n1⟩, u2⟩, l1⟩, rfl, ⟨⟨⟨-, k1⟩, -⟩, k3⟩⟩ := hxs x q e
          subst k1
          exact ⟨_, rfl, CellsAt.lit rfl (CellsAt.lit rfl (CellsAt.cons (by rw [List.map_map]; exact CellAt.weaken (G' := fun q => B ≤ q) (fun q _ h => by have h : Y < q := h; show B ≤ q; omega) _ _ (CellAt.only o4 (fun k hk e => by have hk : Y < k := hk; have e : k ≤ Y := e; omega) _ _ k3)) (CellsAt.cons (CellAt.nilRow _ _ _) (CellsAt.nil _ _))))⟩
        exact bodyPost_ret (v := .agg #[.int .u8 5, .string ⟨s1.toArray⟩, .slice ar4 lr4 cr4, .slice none 0 0]) (by simp [results, Tryd.results38, go_sem, y0, y1, y2, y3]) rfl (HPP.out w9 _ ⟨5, s1, ar4, lr4, cr4, none, 0, 0, rfl⟩ hd9 hag (HO5.out.trans' k2 (fun q hq e => by have := HWB.out; omega)))
end Go.Proofs.YtgephneppgcnlaaDoor
