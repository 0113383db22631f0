/- sdl.reader: a plain name; names with a sign between. sdl.reader.one: a declaration. sdl.Types. The forms of declarations in memory. The law's example (columbarylaw07.awake). -/
import Derived.Test.YtgephneppgcnlaaGreatDoorSdL
import Derived.Test.YtgephneppgcnlaaGreatDoorSdI
import Derived.Test.YtgephneppgcnlaaGreatDoorTdk
import Derived.Test.YtgephneppgcnlaaGreatDoorSdM
import Derived.Deep.QuietTactic
import Derived.BigQuiet
namespace Go.Proofs.YtgephneppgcnlaaGreatDoor
open Go Go.RowKit
set_option linter.unusedVariables false
set_option linter.unusedSimpArgs false

set_option maxRecDepth 100000 in
theorem splain_any (b : Nat) (all : List Tok) (σ : PR Unit) (w : World) (h : Sd w b all σ) :
    Calls Tryz.prog 24 #[.pointer (some ⟨b, 0, none⟩)] w (SAns w b all σ (fun _ (s : List UInt8) v => v = .string ⟨s.toArray⟩) strJ plainP) := by
  have I : ∀ wx, Only (fun _ => False) w wx → ∀ s, Calls Tryz.prog 46 #[.pointer (some ⟨b, 0, none⟩), .string ⟨s.toArray⟩] wx fun e w' => e = .returned (.bool (tst σ (isT s))) ∧ Only (fun _ => False) wx w' := fun wx o s => sis_any b all σ s wx (h.still o)
  obtain ⟨b1, hb1⟩ : ∃ x, tst σ (isT wTrue) = x := ⟨_, rfl⟩
  obtain ⟨b2, hb2⟩ : ∃ x, tst σ (isT wFalse) = x := ⟨_, rfl⟩
  obtain ⟨b3, hb3⟩ : ∃ x, tst σ (isT wNull) = x := ⟨_, rfl⟩
  have hyes : b1 = true ∨ b2 = true ∨ b3 = true → (σ.bind fun _ => plainP) = ((flt σ 4).bind fun _ _ => (.bad 0 0 : PR (List UInt8))) := fun hb => by
    cases σ with
    | ok u r =>
      show plainP r = .bad (atT r) 4
      unfold plainP
      have h1 : isT wTrue r = b1 := hb1
      have h2 : isT wFalse r = b2 := hb2
      have h3 : isT wNull r = b3 := hb3
      rw [h1, h2, h3]
      rcases hb with hb | hb | hb <;> subst hb <;> simp
    | bad a c => rfl
  have hno : b1 = false → b2 = false → b3 = false → (σ.bind fun _ => plainP) = σ.bind fun _ => nameP := fun e1 e2 e3 => by
    cases σ with
    | ok u r =>
      show plainP r = nameP r
      unfold plainP
      have h1 : isT wTrue r = b1 := hb1
      have h2 : isT wFalse r = b2 := hb2
      have h3 : isT wNull r = b3 := hb3
      rw [h1, h2, h3, e1, e2, e3, if_neg (by decide)]
    | bad a c => rfl
  have J1 := Lib.hid (fun wx o => hb1 ▸ I wx o wTrue); have J2 := Lib.hid (fun wx o => hb2 ▸ I wx o wFalse); have J3 := Lib.hid (fun wx o => hb3 ▸ I wx o wNull)
  have H := Lib.hid h
  -- a fault, then a name
  have HB : b1 = true ∨ b2 = true ∨ b3 = true → ∀ wx, Only (fun _ => False) w wx → ∀ w2, Sd w2 b all (flt σ 4) → Only (fun k => k = b) wx w2 → ∀ e w3, SAns w2 b all (flt σ 4) (fun _ (s : List UInt8) v => v = .string ⟨s.toArray⟩) strJ nameP e w3 → SAns w b all σ (fun _ (s : List UInt8) v => v = .string ⟨s.toArray⟩) strJ plainP e w3 := fun hb wx o w2 h2 o2 e w3 ⟨v, q1, q2, q3, q4, q5⟩ => by
    have hh := hyes hb
    have hbad : ∃ a c, flt σ 4 = .bad a c := by cases σ with | ok u r => exact ⟨_, _, rfl⟩ | bad a c => exact ⟨_, _, rfl⟩
    obtain ⟨a, c, hbad⟩ := hbad
    rw [hbad] at hh q3
    refine ⟨v, q1, q2, ?_, fun x q e => ?_, ((o.mono (T := fun k => k = b) (fun _ _ h => h.elim)).trans o2).trans q5⟩
    · rw [hh]; exact q3
    · rw [hh] at e; cases e
  have HN : b1 = false → b2 = false → b3 = false → ∀ wx, Only (fun _ => False) w wx → ∀ e w3, SAns wx b all σ (fun _ (s : List UInt8) v => v = .string ⟨s.toArray⟩) strJ nameP e w3 → SAns w b all σ (fun _ (s : List UInt8) v => v = .string ⟨s.toArray⟩) strJ plainP e w3 := fun e1 e2 e3 wx o e w3 ⟨v, q1, q2, q3, q4, q5⟩ => by
    have hh := hno e1 e2 e3
    refine ⟨v, q1, q2, ?_, fun x q e => q4 x q (by rw [← hh]; exact e), (o.mono (T := fun k => k = b) (fun _ _ h => h.elim)).trans q5⟩
    rw [hh]; exact q3
  have HBB := Lib.hid HB; have HNN := Lib.hid HN
  clear HB HN hyes hno I hb1 hb2 hb3 h
  generalize (SAns w b all σ (fun _ (s : List UInt8) v => v = .string ⟨s.toArray⟩) strJ plainP) = Q at *
  cases b1
  · cases b2
    · cases b3
      · go_enter Tryz.func24, Tryz.ntmps24
        go_wp2_with fail
        refine (J1.out w (Only.refl _ _)).mono ?_
        rintro e w1 ⟨rfl, o1⟩
        have O1 := Lib.hid o1; clear o1
        go_wp2_with fail
        refine (J2.out w1 O1.out).mono ?_
        rintro e w2 ⟨rfl, o2⟩
        have O2 := Lib.hid (O1.out.trans o2); clear o2
        go_wp2_with fail
        refine (J3.out w2 O2.out).mono ?_
        rintro e w3 ⟨rfl, o3⟩
        have O3 := Lib.hid (O2.out.trans o3); clear o3
        go_wp2_with fail
        refine (sname_any b all σ w3 (H.out.still O3.out)).mono ?_
        intro e w4 hs
        have HS := Lib.hid (HNN.out (by simp) (by simp) (by simp) w3 O3.out _ _ hs)
        obtain ⟨v, rfl, ⟨s4, rfl⟩, -⟩ := hs
        go_wp2_with fail
        first
          | exact HS.out
          | (go_ret; exact HS.out)
      · go_enter Tryz.func24, Tryz.ntmps24
        go_wp2_with fail
        refine (J1.out w (Only.refl _ _)).mono ?_
        rintro e w1 ⟨rfl, o1⟩
        have O1 := Lib.hid o1; clear o1
        go_wp2_with fail
        refine (J2.out w1 O1.out).mono ?_
        rintro e w2 ⟨rfl, o2⟩
        have O2 := Lib.hid (O1.out.trans o2); clear o2
        go_wp2_with fail
        refine (J3.out w2 O2.out).mono ?_
        rintro e w3 ⟨rfl, o3⟩
        have O3 := Lib.hid (O2.out.trans o3); clear o3
        go_wp2_with fail
        refine (sfail_any b all σ 4 (by decide) w3 (H.out.still O3.out)).mono ?_
        rintro e w5 ⟨rfl, h5, o5⟩
        have H5 := Lib.hid h5; have O5 := Lib.hid o5; clear h5 o5
        go_wp2_with fail
        refine (sname_any b all _ w5 H5.out).mono ?_
        intro e w4 hs
        have HS := Lib.hid (HBB.out (by simp) w3 O3.out w5 H5.out O5.out _ _ hs)
        obtain ⟨v, rfl, ⟨s4, rfl⟩, -⟩ := hs
        go_wp2_with fail
        first
          | exact HS.out
          | (go_ret; exact HS.out)
    · go_enter Tryz.func24, Tryz.ntmps24
      go_wp2_with fail
      refine (J1.out w (Only.refl _ _)).mono ?_
      rintro e w1 ⟨rfl, o1⟩
      have O1 := Lib.hid o1; clear o1
      go_wp2_with fail
      refine (J2.out w1 O1.out).mono ?_
      rintro e w3 ⟨rfl, o2⟩
      have O3 := Lib.hid (O1.out.trans o2); clear o2
      go_wp2_with fail
      refine (sfail_any b all σ 4 (by decide) w3 (H.out.still O3.out)).mono ?_
      rintro e w5 ⟨rfl, h5, o5⟩
      have H5 := Lib.hid h5; have O5 := Lib.hid o5; clear h5 o5
      go_wp2_with fail
      refine (sname_any b all _ w5 H5.out).mono ?_
      intro e w4 hs
      have HS := Lib.hid (HBB.out (by simp) w3 O3.out w5 H5.out O5.out _ _ hs)
      obtain ⟨v, rfl, ⟨s4, rfl⟩, -⟩ := hs
      go_wp2_with fail
      first
        | exact HS.out
        | (go_ret; exact HS.out)
  · go_enter Tryz.func24, Tryz.ntmps24
    go_wp2_with fail
    refine (J1.out w (Only.refl _ _)).mono ?_
    rintro e w3 ⟨rfl, o1⟩
    have O3 := Lib.hid o1; clear o1
    go_wp2_with fail
    refine (sfail_any b all σ 4 (by decide) w3 (H.out.still O3.out)).mono ?_
    rintro e w5 ⟨rfl, h5, o5⟩
    have H5 := Lib.hid h5; have O5 := Lib.hid o5; clear h5 o5
    go_wp2_with fail
    refine (sname_any b all _ w5 H5.out).mono ?_
    intro e w4 hs
    have HS := Lib.hid (HBB.out (by simp) w3 O3.out w5 H5.out O5.out _ _ hs)
    obtain ⟨v, rfl, ⟨s4, rfl⟩, -⟩ := hs
    go_wp2_with fail
    first
      | exact HS.out
      | (go_ret; exact HS.out)
/-! ### Names with a sign between -/
def NMI (w : World) (b : Nat) (all : List Tok) (sg : List UInt8) (total : PR (List (List UInt8))) (v : Value) (wr : World) : Prop :=
  ∃ (σ : PR Unit) (n : Nat) (xs : List Value), Sd wr b all σ ∧ wr.ownsRow w.heap.size 9 1 v n xs ∧ n ≤ 1000001 ∧ 0 < n ∧ Only (fun k => k = b) w wr ∧ (match σ with
    | .ok _ r => n + r.length ≤ 1000001 ∧ ∃ acc : List (List UInt8), acc.length = n ∧ Chk wr (fun q => w.heap.size ≤ q ∧ v.ownBlock ≠ some q ∧ q < wr.heap.size) 1 (acc.map fun s => [strC s]) xs ∧ total = moreP sg (r.length + 1) acc r
    | .bad a e => total = .bad a e)
theorem own_one {w : World} {B G : Nat} {T : TypeId} {x : Value} (h : w.heap[G]? = some (.cells #[x] T (0, 0))) (hB : B ≤ G) : w.ownsRow B T 1 (.slice (some ⟨G, 0, none⟩) 1 1) 1 [x] := ⟨rfl, .inr ⟨G, 1, #[x], rfl, hB, h, Nat.le_refl _, by unfold maxLen; omega, rfl, rfl⟩⟩
set_option maxRecDepth 100000 in
set_option maxHeartbeats 40000000 in
theorem snames_any (sg : List UInt8) (b : Nat) (all : List Tok) (σ0 : PR Unit) (w : World) (h : Sd w b all σ0) :
    Calls Tryz.prog 22 #[.pointer (some ⟨b, 0, none⟩), .string ⟨sg.toArray⟩] w (SAns w b all σ0 (rowP w.heap.size 1 (fun s => [strC s])) rowJ (namesP sg)) := by
  have hbl := h.lt
  obtain ⟨total, htot⟩ : ∃ x, (σ0.bind fun _ => namesP sg) = x := ⟨_, rfl⟩
  obtain ⟨Q, hQ⟩ : ∃ Q, SAns w b all σ0 (rowP w.heap.size 1 (fun s => [strC s])) rowJ (namesP sg) = Q := ⟨_, rfl⟩
  rw [hQ]
  have fo : ∀ w' (a : Option Addr) (l e : Nat) σ, Sd w' b all σ → σ = total.unit → (∀ x q, total = .ok x q → CellAt w' (fun q => w.heap.size ≤ q) (.row 1 (x.map fun s => [strC s])) (.slice a l e)) → Only (fun k => k = b) w w' → Q (.returned (.slice a l e)) w' := fun w' a l e σ h1 h2 h3 h4 => by
    rw [← hQ]; exact ⟨_, rfl, ⟨a, l, e, rfl⟩, by rw [htot, ← h2]; exact h1, fun x q e => h3 x q (by rw [← htot]; exact e), h4⟩
  have T := Lib.hid (stake_any b all σ0 sg w h)
  unfold tookS at T
  -- what stands behind the first sign
  obtain ⟨σ1, hσ1⟩ : ∃ z, (if tst σ0 (isT sg) = true then adv σ0 else σ0) = z := ⟨_, rfl⟩
  have htot2 : total = σ1.bind fun _ r => (nameP r).bind fun s r1 => moreP sg (r1.length + 1) [s] r1 := by
    rw [← htot, ← hσ1]
    cases σ0 with
    | ok u r =>
      show namesP sg r = _
      unfold namesP
      show _ = (if isT sg r = true then PR.ok () r.tail else PR.ok () r).bind _
      by_cases hb : isT sg r = true
      · rw [if_pos hb, if_pos hb]; rfl
      · rw [if_neg hb, if_neg hb]; rfl
    | bad a c => rfl
  rw [hσ1] at T
  obtain ⟨bb, hbb⟩ : ∃ x, tst σ0 (isT sg) = x := ⟨_, rfl⟩
  rw [hbb] at T
  have FO := Lib.hid fo; have HT2 := Lib.hid htot2
  clear fo hQ htot htot2 h hσ1 hbb
  go_enter Tryz.func22, Tryz.ntmps22
  go_wp2_with fail
  refine T.out.mono ?_
  rintro e w1 ⟨rfl, h1, o1⟩
  have J := Lib.hid (sname_any b all σ1 w1 h1)
  have H1 := Lib.hid h1; have O1 := Lib.hid o1
  clear h1 o1 T
  go_wp2_with fail
  refine J.out.mono ?_
  rintro e w2 ⟨v, rfl, ⟨s1, rfl⟩, hd2, hv, o2⟩
  have hg := heap_new w2 (.cells #[.string ⟨s1.toArray⟩] 9)
  have on := (Only.refl (fun _ => False) w2).alloc (.cells #[.string ⟨s1.toArray⟩] 9)
  obtain ⟨w3, hw3⟩ : ∃ x, w2.alloc (.cells #[.string ⟨s1.toArray⟩] 9) = x := ⟨_, rfl⟩
  obtain ⟨G, hG⟩ : ∃ G, w2.heap.size = G := ⟨_, rfl⟩
  rw [hw3] at hg on
  rw [hG] at hg
  have hGB : w.heap.size ≤ G := by have := O1.out.size; have := o2.size; omega
  have hi : NMI w b all sg total (.slice (some ⟨G, 0, none⟩) 1 1) w3 := by
    refine ⟨_, 1, _, hd2.still on, own_one hg hGB, by omega, by omega, (O1.out.trans o2).trans' on (fun _ _ h => h.elim), ?_⟩
    have h1 := H1.out
    have ht := HT2.out
    cases σ1 with
    | ok u r =>
      have hfew := h1.few
      have ht : total = (nameP r).bind fun s r1 => moreP sg (r1.length + 1) [s] r1 := ht
      show match (nameP r).unit with | .ok _ r => _ | .bad a e => _
      cases hq : nameP r with
      | ok s q =>
        have hs : s1 = s := str_inj (hv s q hq)
        subst hs
        have hl := nameP_len hq
        rw [hq] at ht
        refine ⟨by omega, [s1], rfl, ?_, ht⟩
        exact ⟨[.string ⟨s1.toArray⟩], [], rfl, rfl, CellsAt.lit rfl (CellsAt.nil _ _), rfl⟩
      | bad a c => rw [hq] at ht; exact ht
    | bad a c => exact ht
  have HI := Lib.hid hi; have HG := Lib.hid hG; have HW3 := Lib.hid hw3
  clear hi hg on hw3 hG hGB hd2 hv o2 HT2 H1 O1 J
  go_wp2_with fail
  rw [HG.out, HW3.out]
  clear HG HW3
  go_loopw [5] (fun v5 wr => Hid (NMI w b all sg total v5 wr)) (fun _ wr => muS wr b all)
  case atStart => exact HI
  case round =>
    obtain ⟨σ, n, xs, hsd, hown, hn, hn0, hon, hsm⟩ := hrel.out
    obtain ⟨aL, cL, eL, fL1, fL2, fL3⟩ := own_form hown
    subst eL
    have hbz := hbl
    have T := Lib.hid (stake_any b all σ sg wr hsd)
    unfold tookS at T
    obtain ⟨bb, hbb⟩ : ∃ x, tst σ (isT sg) = x := ⟨_, rfl⟩
    rw [hbb] at T
    have HOW := Lib.hid hown; have HON := Lib.hid hon; have HSD := Lib.hid hsd; have HSM := Lib.hid hsm; have HFL := Lib.hid fL3; have HN := Lib.hid hn; have HBB := Lib.hid hbb
    clear hown hon hsd hrel HI fL3 hn hsm hbb fL2
    cases bb with
    | false =>
      rw [if_neg (by decide)] at T
      go_wp2_with fail
      refine T.out.mono ?_
      rintro e w4 ⟨rfl, hd4, o4⟩
      have hend : Q (.returned (.slice aL n cL)) w4 := by
        have hbb := HBB.out
        have hsm := HSM.out
        refine FO.out _ _ _ _ σ hd4 ?_ (fun x q ht => ?_) (HON.out.trans o4)
        · cases σ with
          | ok u r =>
            obtain ⟨-, acc, -, -, h3⟩ := hsm
            have hbb : isT sg r = false := hbb
            rw [h3, moreP, if_neg (by rw [hbb]; decide)]; rfl
          | bad a d => have hsm : total = .bad a d := hsm; rw [hsm]; rfl
        · cases σ with
          | ok u r =>
            obtain ⟨-, acc, h1, h2, h3⟩ := hsm
            have hbb : isT sg r = false := hbb
            rw [h3, moreP, if_neg (by rw [hbb]; decide)] at ht; injection ht with ht _; subst ht
            have hrow : OwnRow w4 w.heap.size 9 1 (.slice aL n cL) (acc.map fun s => [strC s]) := OwnRow.only (w := wr) ⟨xs, by rw [List.length_map, h1]; exact HOW.out, h2⟩ o4 (fun k h1 h2 e => by have e : k = b := e; omega)
            exact CellAt.weaken (fun q _ h => h) _ _ hrow.cell |> fun h => by have := h; simpa [h1] using this
          | bad a d => have hsm : total = .bad a d := hsm; rw [hsm] at ht; cases ht
      have HEND := Lib.hid hend
      clear hend hd4 o4 HSM HBB HOW
      go_wp2_with fail
      first
        | exact HEND.out
        | (go_ret; exact HEND.out)
    | true =>
      rw [if_pos rfl] at T
      obtain ⟨r, hr⟩ : ∃ r, σ = .ok () r := by
        have := HBB.out
        cases σ with
        | ok u r => exact ⟨r, rfl⟩
        | bad a c => cases this
      subst hr
      have hbr : isT sg r = true := HBB.out
      have hmu := muS_ok HSD.out
      obtain ⟨hfew, acc, hacc, hchk, htot⟩ := HSM.out
      rw [moreP, if_pos hbr] at htot
      have htl := isT_len hbr
      have HMU := Lib.hid hmu; have HFEW := Lib.hid hfew; have HACC := Lib.hid hacc; have HCHK := Lib.hid hchk; have HTOT := Lib.hid htot; have HTL := Lib.hid htl
      have HGL := Lib.hid HON.out.size
      clear hmu hfew hacc hchk htot HSM HSD HBB hbr htl
      go_wp2_with fail
      refine T.out.mono ?_
      rintro e w4 ⟨rfl, hd4, o4⟩
      have hd4 : Sd w4 b all (.ok () r.tail) := hd4
      have J := Lib.hid (sname_any b all _ w4 hd4)
      have O4 := Lib.hid o4; clear o4 hd4 T
      go_wp2_with fail
      refine J.out.mono ?_
      rintro ee w2 ⟨v, rfl, ⟨s0, rfl⟩, hd2, hv, o2'⟩
      have o2 := O4.out.trans o2'
      have hg := heap_new w2 (.cells #[.string ⟨s0.toArray⟩] 9)
      have hg2 : w2.heap.size = (w2.alloc (.cells #[.string ⟨s0.toArray⟩] 9)).heap.size - 1 := by simp
      have on := (Only.refl (fun _ => False) w2).alloc (.cells #[.string ⟨s0.toArray⟩] 9)
      have hs2 : wr.heap.size ≤ w2.heap.size := o2.size
      have p1 := own_only' (own_only' HOW.out o2 (fun k hk e => by have := (HFL.out k hk).1; have := HGL.out; omega)) on (fun _ _ h => h)
      have p2 := (HCHK.out.only o2 (fun k hk e => by have := hk.1; have := HGL.out; omega)).only on (fun _ _ h => h)
      have hd3 := hd2.still on
      have ho3 := (HON.out.trans o2).trans' on (fun _ _ h => h.elim)
      have hv3 : ∀ x q, nameP r.tail = .ok x q → s0 = x := fun x q e => str_inj (hv x q e)
      obtain ⟨G, hG⟩ : ∃ G, w2.heap.size = G := ⟨_, rfl⟩
      rw [hG] at hg hs2 hg2
      obtain ⟨w3, hw3⟩ : ∃ w3, w2.alloc (.cells #[.string ⟨s0.toArray⟩] 9) = w3 := ⟨_, rfl⟩
      rw [hw3] at hg on p1 p2 hd3 ho3 hg2
      have hys : ∀ j u, ([.string ⟨s0.toArray⟩] : List Value)[j]? = some u → w3.cell? ((⟨G, 0, none⟩ : Addr).add j) = some u := fun j u hu => by rw [addr_add]; exact range_of_block hg j u hu
      have hone : ∀ u ∈ ([.string ⟨s0.toArray⟩] : List Value), u.oneCell' = true := by intro u hu; simp at hu; rcases hu with rfl; rfl
      have HP1 := Lib.hid p1; have HP2 := Lib.hid p2; have HYS := Lib.hid hys; have HONE := Lib.hid hone; have HV3 := Lib.hid hv3; have HD3 := Lib.hid hd3; have HO3 := Lib.hid ho3; have HG := Lib.hid hG; have HW3 := Lib.hid hw3; have HS2 := Lib.hid hs2; have HG2 := Lib.hid hg2
      clear p1 p2 hys hone hv3 hd3 ho3 hG hw3 hs2 hg2 hg on hv hd2 o2 o2' J HOW HCHK O4
      go_wp2_with ((rw [HG.out, HW3.out]; refine wpList_append_own2 (o := ⟨some 19, _, _, _, _, _⟩) rfl (.tmp 15) (.tmp 18) 32 9 (by rfl) Tryz.underlying32 infoStr rfl (by decide) w.heap.size (.slice aL n cL) n 1 1 xs [.string ⟨s0.toArray⟩] ⟨G, 0, none⟩ (by rfl) (by rfl) HP1.out (by rfl) HYS.out HONE.out (by have := HN.out; unfold maxLen; omega) (by have := HN.out; omega) (by have := HG2.out; have := HS2.out; have := HGL.out; omega) ?_; intro v' w9 q1 q2 q3))
      have hfl2 := HFL.out
      obtain ⟨aL', cL', eL', gL1, gL2, gL3⟩ := own_form q1
      subst eL'
      have hqo : Only (fun k => k = b) w w9 := HO3.out.trans' q2 (fun q hq h => by have := (hfl2 q h).1; omega)
      have hd9 := HD3.out.only q2 (fun k hk h => by have := (hfl2 k h).1; omega)
      have hi : NMI w b all sg total (.slice aL' (n + 1) cL') w9 ∧ muS w9 b all < muS wr b all := by
        have htot := HTOT.out
        have hmu := HMU.out
        have hfew := HFEW.out
        have htl := HTL.out
        have hchk9 : ∀ x q, nameP r.tail = .ok x q → Chk w9 (fun q => w.heap.size ≤ q ∧ (Value.slice aL' (n + 1) cL').ownBlock ≠ some q ∧ q < w9.heap.size) 1 ((acc ++ [x]).map fun s => [strC s]) (xs ++ [.string ⟨s0.toArray⟩]) := fun x q e => by
          have hx : CellsAt w3 (fun q => w.heap.size ≤ q ∧ (Value.slice aL n cL).ownBlock ≠ some q ∧ q < wr.heap.size) [strC x] [.string ⟨s0.toArray⟩] := by rw [HV3.out x q e]; exact CellsAt.lit rfl (CellsAt.nil _ _)
          have := ((Chk.snoc rfl hx HP2.out).only q2 (fun k hk => hk.2.1)).weaken (G' := fun q => w.heap.size ≤ q ∧ (Value.slice aL' (n + 1) cL').ownBlock ≠ some q ∧ q < w9.heap.size) (fun q hq h => ⟨h.1, fun e2 => by
            rcases q3 q e2 with h2 | h2
            · exact h.2.1 h2
            · have := h.2.2; have := HG2.out; have := HS2.out; omega, hq⟩)
          rw [List.map_append, List.map_singleton]; exact this
        cases hq : nameP r.tail with
        | bad a d =>
          have hσ : ((PR.ok () r.tail : PR Unit).bind fun _ => nameP).unit = .bad a d := by show (nameP r.tail).unit = _; rw [hq]; rfl
          rw [hσ] at hd9
          rw [hq] at htot
          refine ⟨⟨.bad a d, n + 1, _, hd9, q1, by omega, by omega, hqo, htot⟩, ?_⟩
          rw [hmu, muS_bad hd9]; omega
        | ok x r2 =>
          have hσ : ((PR.ok () r.tail : PR Unit).bind fun _ => nameP).unit = .ok () r2 := by show (nameP r.tail).unit = _; rw [hq]; rfl
          rw [hσ] at hd9
          have hl := nameP_len hq
          rw [hq] at htot
          have htot : total = moreP sg r.length (acc ++ [x]) r2 := htot
          refine ⟨⟨.ok () r2, n + 1, _, hd9, q1, by omega, by omega, hqo, ⟨by omega, acc ++ [x], by rw [List.length_append, List.length_singleton, HACC.out], hchk9 x r2 hq, by rw [htot]; exact moreP_fuel sg _ _ _ _ (by omega) (by omega)⟩⟩, ?_⟩
          rw [hmu, muS_ok hd9]; omega
      have HI2 := Lib.hid hi.1; have HLT := Lib.hid hi.2
      clear hi hd9 hqo q1 q2 q3 gL1 gL2 gL3 hfl2 HP1 HP2 HYS HONE HV3 HFL HD3 HO3 HTOT
      go_wp2_with fail
      go_roundw
      case rel => first | exact HI2 | ((repeat apply Exists.intro); exact HI2)
      case measure => exact HLT.out
end Go.Proofs.YtgephneppgcnlaaGreatDoor
namespace Go.Proofs.YtgephneppgcnlaaGreatDoor
open Go Go.RowKit
set_option linter.unusedVariables false
set_option linter.unusedSimpArgs false

def natV : Value → Nat
  | .int _ n => n.toNat
  | _ => 0
/-- Ahead of round j. -/
def OneI (w : World) (b B : Nat) (all : List Tok) (σ : PR Unit) (j : Nat) (wr : World) : Prop := Sd wr b all σ ∧ wr.heap[B]? = some (.cells #[.int .u8 0, .string ⟨#[]⟩, .slice none 0 0, .slice none 0 0] 34 (0, 0)) ∧ Only (fun k => k = b) w wr ∧ ∀ i, i < j → tst σ (isT (wordK i)) = false
set_option maxRecDepth 100000 in
set_option maxHeartbeats 40000000 in
theorem sone_any (b : Nat) (all : List Tok) (σi : PR Unit) (w : World) (h : Sd w b all σi) :
    Calls Tryz.prog 9 #[.pointer (some ⟨b, 0, none⟩)] w (SAns w b all σi (fun w' x v => aggP w.heap.size tdC w' x v) tdJ tdP) := by
  have hbl := h.lt
  obtain ⟨B, hB⟩ : ∃ B, w.heap.size = B := ⟨_, rfl⟩
  have hbB : b < B := by omega
  obtain ⟨total, htot⟩ : ∃ x, (σi.bind fun _ => tdP) = x := ⟨_, rfl⟩
  have HP : ∀ w' v, tdJ v → Sd w' b all total.unit → (∀ x q, total = .ok x q → aggP B tdC w' x v) → Only (fun k => k = b) w w' → SAns w b all σi (fun w' x v => aggP w.heap.size tdC w' x v) tdJ tdP (.returned v) w' := fun w' v q1 q2 q3 q4 => ⟨v, rfl, q1, by rw [htot]; exact q2, fun x q e => by rw [hB]; exact q3 x q (by rw [← htot]; exact e), q4⟩
  have hyes : ∀ j, j < 5 → (∀ i, i < j → tst σi (isT (wordK i)) = false) → tst σi (isT (wordK j)) = true → total = (adv σi).bind fun _ => tdK j := fun j hj h1 h2 => by
    rw [← htot]
    cases σi with
    | ok u r => exact td_yes hj h1 h2
    | bad a c => cases h2
  have hno : (∀ i, i < 5 → tst σi (isT (wordK i)) = false) → flt σi 4 = total.unit ∧ ∀ x q, total ≠ .ok x q := fun h1 => by
    rw [← htot]
    cases σi with
    | ok u r =>
      show PR.bad (atT r) 4 = (tdP r).unit ∧ ∀ x q, tdP r ≠ .ok x q
      rw [td_no h1]
      exact ⟨rfl, fun x q e => by cases e⟩
    | bad a c => exact ⟨rfl, fun x q e => by cases e⟩
  obtain ⟨wA, hwA⟩ : ∃ x, w.alloc (.cells #[.int .u8 0, .string ⟨#[]⟩, .slice none 0 0, .slice none 0 0] 34) = x := ⟨_, rfl⟩
  obtain ⟨wB, hwB⟩ : ∃ x, wA.alloc (.cells #[.string ⟨#[116, 121, 112, 101]⟩, .string ⟨#[105, 110, 116, 101, 114, 102, 97, 99, 101]⟩, .string ⟨#[117, 110, 105, 111, 110]⟩, .string ⟨#[101, 110, 117, 109]⟩, .string ⟨#[105, 110, 112, 117, 116]⟩] 64) = x := ⟨_, rfl⟩
  have hr0 : wA.heap[B]? = some (.cells #[.int .u8 0, .string ⟨#[]⟩, .slice none 0 0, .slice none 0 0] 34 (0, 0)) := by rw [← hwA, ← hB]; exact heap_new _ _
  have hsA : wA.heap.size = B + 1 := by rw [← hwA, World.size_alloc, hB]
  have hkb := heap_new wA (.cells #[.string ⟨#[116, 121, 112, 101]⟩, .string ⟨#[105, 110, 116, 101, 114, 102, 97, 99, 101]⟩, .string ⟨#[117, 110, 105, 111, 110]⟩, .string ⟨#[101, 110, 117, 109]⟩, .string ⟨#[105, 110, 112, 117, 116]⟩] 64)
  rw [hwB, hsA] at hkb
  have oB : Only (fun _ => False) w wB := by rw [← hwB, ← hwA]; exact ((Only.refl _ w).alloc _).alloc _
  have hrB : wB.heap[B]? = some (.cells #[.int .u8 0, .string ⟨#[]⟩, .slice none 0 0, .slice none 0 0] 34 (0, 0)) := by rw [← hwB]; exact heap_old hr0 _
  have hi : OneI w b B all σi 0 wB := ⟨h.still oB, hrB, oB.mono (fun _ _ h => h.elim), fun i hi => by omega⟩
  have HPP := Lib.hid HP; have HYES := Lib.hid hyes; have HNO := Lib.hid hno; have HI := Lib.hid hi; have HBB := Lib.hid hB; have HWA := Lib.hid hwA; have HWB2 := Lib.hid hwB; have HSA := Lib.hid hsA; have HKB := Lib.hid hkb; have HWB := Lib.hid (show w.heap.size ≤ B by omega)
  clear HP hyes hno hi hwA hwB hr0 hrB oB hsA hkb htot h
  generalize (SAns w b all σi (fun w' x v => aggP w.heap.size tdC w' x v) tdJ tdP) = Q at *
  clear hB hbl
  go_enter Tryz.func9, Tryz.ntmps9
  go_upto_region 1 with (fail)
  rw [HBB.out, HWA.out]
  clear HWA HBB
  go_upto_region 2 with (fail)
  rw [HSA.out, HWB2.out]
  clear HWB2 HSA
  obtain ⟨x0, x1, x2, x3, x4, xz⟩ := box5 HKB.out
  clear HKB
  go_wp2_with fail
  clear x0 x1 x2 x3 x4 xz
  go_loopw [9] (fun v9 wr => ∃ j : Nat, v9 = .int .i64 (j : Int) ∧ j ≤ 5 ∧ Hid (OneI w b B all σi j wr)) (fun v9 _ => 5 - natV v9)
  case atStart => exact ⟨0, rfl, by omega, HI⟩
  case round =>
    obtain ⟨j, rfl, hj5, hrel⟩ := hrel
    obtain ⟨hsd, hr, hon, hw⟩ := hrel.out
    have HSD := Lib.hid hsd; have HRR := Lib.hid hr; have HON := Lib.hid hon; have HWW := Lib.hid hw
    clear hsd hr hon hw hrel HI
    have hcase : j = 5 ∨ j = 0 ∨ j = 1 ∨ j = 2 ∨ j = 3 ∨ j = 4 := by omega
    clear hj5
    rcases hcase with rfl | rfl | rfl | rfl | rfl | rfl
    · -- no word
      go_wp2_with fail
      refine (sfail_any b all σi 4 (by decide) wr HSD.out).mono ?_
      rintro e w5 ⟨rfl, h5, o5⟩
      have hr5 := (o5.block B (Array.getElem?_eq_some_iff.1 HRR.out).1 (by omega)).trans HRR.out
      have H5 := Lib.hid h5; have HR5 := Lib.hid hr5; have O5 := Lib.hid (HON.out.trans o5)
      clear h5 hr5 o5
      go_wp2_with ((refine wpList_store_box (o := ⟨none, _, _, _, _, _⟩) rfl 34 (.tmp 2) (.tmp 71) (by rfl) B [.int .u8 0, .string ⟨#[]⟩, .slice none 0 0, .slice none 0 0] [.int .u8 0, .string ⟨#[]⟩, .slice none 0 0, .slice none 0 0] (by rfl) (by rfl) HR5.out (by rfl) (by kernel_rfl) (by intro u hu; simp at hu; rcases hu with rfl | rfl | rfl | rfl <;> rfl) ?_; intro w9 k1 k2))
      obtain ⟨y0, y1, y2, y3, -⟩ := boxN4 k1
      obtain ⟨hn1, hn2⟩ := HNO.out HWW.out
      exact bodyPost_ret (v := .agg #[.int .u8 0, .string ⟨#[]⟩, .slice none 0 0, .slice none 0 0]) (by simp [results, Tryz.results9, go_sem, y0, y1, y2, y3]) rfl (HPP.out w9 _ ⟨0, [], none, 0, 0, none, 0, 0, rfl⟩ (by rw [← hn1]; exact H5.out.only k2 (fun k hk e => by omega)) (fun x q e => absurd e (hn2 x q)) (O5.out.trans' k2 (fun q hq e => by have := HWB.out; omega)))
    · -- type
      have hix : ∀ wx : World, (Instr.index 64 (.agg #[.string ⟨#[116, 121, 112, 101]⟩, .string ⟨#[105, 110, 116, 101, 114, 102, 97, 99, 101]⟩, .string ⟨#[117, 110, 105, 111, 110]⟩, .string ⟨#[101, 110, 117, 109]⟩, .string ⟨#[105, 110, 112, 117, 116]⟩]) (.int .i64 0)).run Tryz.prog wx = .ok (.string ⟨#[116, 121, 112, 101]⟩) wx := fun _ => rfl
      have J := Lib.hid (stake_any b all σi wType wr HSD.out)
      unfold tookS at J
      obtain ⟨bb, hb⟩ : ∃ x, tst σi (isT wType) = x := ⟨_, rfl⟩
      rw [hb] at J
      have HBT := Lib.hid hb; clear hb
      cases bb
      · rw [if_neg (by decide)] at J
        go_wp2_with fail
        refine J.out.mono ?_
        rintro e w1 ⟨rfl, hd, o4⟩
        have hi : OneI w b B all σi 1 w1 := ⟨hd, (o4.block B (Array.getElem?_eq_some_iff.1 HRR.out).1 (by omega)).trans HRR.out, HON.out.trans o4, fun i hi => by
          rcases Nat.lt_or_ge i 0 with h | h
          · exact HWW.out i h
          · obtain rfl : i = 0 := by omega
            exact HBT.out⟩
        have HI2 := Lib.hid hi; clear hi hd o4 J
        go_wp2_with fail
        go_roundw
        case rel => first | exact ⟨1, rfl, by omega, HI2⟩ | ((repeat apply Exists.intro); exact ⟨rfl, by omega, HI2⟩)
        case measure => simp [natV]
      · rw [if_pos rfl] at J
        go_wp2_with fail
        refine J.out.mono ?_
        rintro e w0 ⟨rfl, hd, o4⟩
        obtain ⟨σ0, hσ⟩ : ∃ z, adv σi = z := ⟨_, rfl⟩
        have ht := HYES.out 0 (by omega) HWW.out HBT.out
        rw [hσ] at hd ht
        have hj := Jn.start σ0 (tdK 0)
        rw [← ht] at hj
        have hj : Jn (τ := Unit) total σ0 (fun _ => True) (fun _ => td1) := hj
        unfold td1 at hj
        have HJ0 := Lib.hid hj; have HD0 := Lib.hid hd; have HR0 := Lib.hid ((o4.block B (Array.getElem?_eq_some_iff.1 HRR.out).1 (by omega)).trans HRR.out); have HO0 := Lib.hid (HON.out.trans o4)
        clear hj hd ht hσ o4 J HBT HSD HRR HON HWW HYES HNO
        have hmf : ∀ (fn : Fn) (first cap : Array Value) (w : World), (Instr.makeFunc fn first cap).run Tryz.prog w = .ok (.func fn first cap) w := fun _ _ _ _ => rfl
        have J := Lib.hid (sname_any b all σ0 w0 HD0.out)
        go_wp2_with fail
        refine J.out.mono ?_
        rintro e w1 ⟨v, rfl, ⟨s1, rfl⟩, hd, hv, o4⟩
        have hv : ∀ x q, (σ0.bind fun _ => nameP) = .ok x q → s1 = x := fun x q e => str_inj (hv x q e)
        obtain ⟨σ1, hσ⟩ : ∃ z, (σ0.bind fun _ => nameP).unit = z := ⟨_, rfl⟩
        rw [hσ] at hd
        have hj := Jn.call (fun x => s1 = x) HJ0.out hσ.symm hv
        have HJ1 := Lib.hid hj; have HD1 := Lib.hid hd
        clear hj hd hv hσ HJ0 J
        have hr1 := (o4.block B (Array.getElem?_eq_some_iff.1 HR0.out).1 (by omega)).trans HR0.out
        have HR1 := Lib.hid hr1
        have HO1 := Lib.hid (HO0.out.trans' o4 (fun q hq e => by exact e))
        clear hr1
        clear o4
        clear HR0 HO0 HD0
        have hsz2 : B < w1.heap.size := (Array.getElem?_eq_some_iff.1 HR1.out).1
        obtain ⟨Y, hY⟩ : ∃ Y, w1.heap.size = Y := ⟨_, rfl⟩
        obtain ⟨w2, hw2⟩ : ∃ x, w1.alloc (.cells #[.int .u8 1, .string ⟨s1.toArray⟩, .slice none 0 0, .slice none 0 0] 34) = x := ⟨_, rfl⟩
        have hy2 : w2.heap[Y]? = some (.cells #[.int .u8 1, .string ⟨s1.toArray⟩, .slice none 0 0, .slice none 0 0] 34 (0, 0)) := by rw [← hw2, ← hY]; exact heap_new _ _
        have hr2 : w2.heap[B]? = some (.cells #[.int .u8 0, .string ⟨#[]⟩, .slice none 0 0, .slice none 0 0] 34 (0, 0)) := by rw [← hw2]; exact heap_old HR1.out _
        have oa2 : Only (fun _ => False) w1 w2 := by rw [← hw2]; exact (Only.refl _ _).alloc _
        rw [hY] at hsz2
        have HY2 := Lib.hid hy2; have HR2 := Lib.hid hr2; have HD2 := Lib.hid (HD1.out.still oa2); have HO2 := Lib.hid (HO1.out.trans' oa2 (fun q _ e => e.elim)); have HW2 := Lib.hid hw2; have HYY := Lib.hid hY; have HJ2 := HJ1
        clear hy2 hr2 hw2 hY oa2 HR1 HD1 HO1 HJ1
        go_upto_region 7 with (fail)
        rw [HYY.out, HW2.out]
        clear HYY HW2
        obtain ⟨y0, y1, y2, y3, yz⟩ := boxN4 HY2.out
        go_upto_region 8 with (fail)
        have J := Lib.hid (stake_any b all σ1 wImplements w2 HD2.out)
        unfold tookS at J
        obtain ⟨bb3, hb3⟩ : ∃ x, tst σ1 (isT wImplements) = x := ⟨_, rfl⟩
        rw [hb3] at J
        have HBT := Lib.hid hb3; clear hb3
        cases bb3
        ·
          rw [if_neg (by decide)] at J
          go_wp2_with fail
          refine J.out.mono ?_
          rintro e w3 ⟨rfl, hd, o4⟩
          have HJ3 := Lib.hid (HJ2.out.no HBT.out)
          have HD3 := Lib.hid hd
          clear HJ2 hd HBT J
          have hr3 := (o4.block B (Array.getElem?_eq_some_iff.1 HR2.out).1 (by omega)).trans HR2.out
          have HR3 := Lib.hid hr3
          have hy3 := (o4.block Y (Array.getElem?_eq_some_iff.1 HY2.out).1 (by omega)).trans HY2.out
          have HY3 := Lib.hid hy3
          have HO3 := Lib.hid (HO2.out.trans' o4 (fun q hq e => by exact e))
          clear hr3 hy3
          clear o4
          clear HR2 HO2 HD2 HY2
          have HJu := HJ3.out
          unfold objQ at HJu
          clear HJ3
          have HJ3 := Lib.hid HJu; clear HJu
          have J := Lib.hid (swant_any b all σ1 [123] w3 HD3.out)
          go_wp2_with fail
          refine J.out.mono ?_
          rintro e w4 ⟨rfl, hd, o4⟩
          have hv : ∀ x q, (σ1.bind fun _ => wantP [123]) = .ok x q → True := fun _ _ _ => trivial
          obtain ⟨σ4, hσ⟩ : ∃ z, (σ1.bind fun _ => wantP [123]).unit = z := ⟨_, rfl⟩
          rw [hσ] at hd
          have hj := Jn.call (fun _ => True) HJ3.out hσ.symm hv
          have HJ4 := Lib.hid hj; have HD4 := Lib.hid hd
          clear hj hd hv hσ HJ3 J
          have hr4 := (o4.block B (Array.getElem?_eq_some_iff.1 HR3.out).1 (by omega)).trans HR3.out
          have HR4 := Lib.hid hr4
          have hy4 := (o4.block Y (Array.getElem?_eq_some_iff.1 HY3.out).1 (by omega)).trans HY3.out
          have HY4 := Lib.hid hy4
          have HO4 := Lib.hid (HO3.out.trans' o4 (fun q hq e => by exact e))
          clear hr4 hy4
          clear o4
          clear HR3 HO3 HD3 HY3
          have J := Lib.hid (smanyF_any fdP fdP_takes b all σ4 [125] w4 HD4.out (fun wx σ' _ hd => sfield_any b all σ' wx hd))
          go_wp2_with fail
          refine J.out.mono ?_
          rintro e w5 ⟨v, rfl, ⟨ar5, lr5, cr5, rfl⟩, hd, hv, o4⟩
          have hsy : Y < w4.heap.size := (Array.getElem?_eq_some_iff.1 HY4.out).1
          have hv : ∀ x q, (σ4.bind fun _ => (fun r => manyP fdP [125] (r.length + 1) [] r)) = .ok x q → CellAt w5 (fun q => Y < q) (.row 11 (x.map fdC)) (.slice ar5 lr5 cr5) := fun x q e => CellAt.weaken (fun q _ h => by have h : w4.heap.size ≤ q := h; show Y < q; omega) _ _ (hv x q e)
          obtain ⟨σ5, hσ⟩ : ∃ z, (σ4.bind fun _ => (fun r => manyP fdP [125] (r.length + 1) [] r)).unit = z := ⟨_, rfl⟩
          rw [hσ] at hd
          have hj := Jn.call (fun x => CellAt w5 (fun q => Y < q) (.row 11 (x.map fdC)) (.slice ar5 lr5 cr5)) HJ4.out hσ.symm hv
          have HJ5 := Lib.hid hj; have HD5 := Lib.hid hd
          clear hj hd hv hσ HJ4 J hsy
          have hr5 := (o4.block B (Array.getElem?_eq_some_iff.1 HR4.out).1 (by omega)).trans HR4.out
          have HR5 := Lib.hid hr5
          have hy5 := (o4.block Y (Array.getElem?_eq_some_iff.1 HY4.out).1 (by omega)).trans HY4.out
          have HY5 := Lib.hid hy5
          have HO5 := Lib.hid (HO4.out.trans' o4 (fun q hq e => by exact e))
          clear hr5 hy5
          have HC5_5 := Lib.hid (Only.refl (fun k => k ≤ Y) w5)
          clear o4
          clear HR4 HO4 HD4 HY4
          obtain ⟨y0, y1, y2, y3, yz⟩ := boxN4 HY5.out
          go_upto_region 21 with (fail)
          clear y0 y1 y2 y3 yz
          have hy6 := heap_set (o := 2) HY5.out (.slice ar5 lr5 cr5)
          have hy6 : (w5.setCell ⟨Y, 2, none⟩ (.slice ar5 lr5 cr5)).heap[Y]? = some (.cells #[.int .u8 1, .string ⟨s1.toArray⟩, .slice ar5 lr5 cr5, .slice none 0 0] 34 (0, 0)) := by simpa using hy6
          have os6 : Only (fun k => k = Y) w5 (w5.setCell ⟨Y, 2, none⟩ (.slice ar5 lr5 cr5)) := (Only.refl (fun k => k = Y) _).setCell (p := ⟨Y, 2, none⟩) (.inl rfl) _
          obtain ⟨w6, hw6⟩ : ∃ x, w5.setCell ⟨Y, 2, none⟩ (.slice ar5 lr5 cr5) = x := ⟨_, rfl⟩
          rw [hw6] at hy6 os6
          rw [hw6]
          clear hw6
          have HY6 := Lib.hid hy6; have HD6 := Lib.hid (HD5.out.only os6 (fun k hk e => by omega)); have HJ6 := HJ5
          have hr6 := (os6.block B (Array.getElem?_eq_some_iff.1 HR5.out).1 (by omega)).trans HR5.out
          have HR6 := Lib.hid hr6
          have HC5_6 := Lib.hid (HC5_5.out.trans' os6 (fun q hq e => by have e : q = Y := e; show q ≤ Y; omega))
          have HO6 := Lib.hid (HO5.out.trans' os6 (fun q hq e => by have e : q = Y := e; have := HWB.out; omega))
          clear hr6
          clear hy6 os6 HJ5
          clear HR5 HO5 HD5 HY5 HC5_5
          obtain ⟨y0, y1, y2, y3, yz⟩ := boxN4 HY6.out
          go_wp2_with ((refine wpList_store_box (o := ⟨none, _, _, _, _, _⟩) rfl 34 (.tmp 2) (.tmp 67) (by rfl) B [.int .u8 0, .string ⟨#[]⟩, .slice none 0 0, .slice none 0 0] [.int .u8 1, .string ⟨s1.toArray⟩, .slice ar5 lr5 cr5, .slice none 0 0] (by rfl) (by rfl) HR6.out (by rfl) (by kernel_rfl) (by intro u hu; simp at hu; rcases hu with rfl | rfl | rfl | rfl <;> rfl) ?_; intro w9 k1 k2))
          clear y0 y1 y2 y3 yz
          obtain ⟨y0, y1, y2, y3, -⟩ := boxN4 k1
          obtain ⟨hdn, hxs⟩ := HJ6.out.done
          have hd9 : Sd w9 b all total.unit := by rw [← hdn]; exact HD6.out.only k2 (fun k hk e => by omega)
          have o5 := HC5_6.out.trans' k2 (fun q hq e => by have e : q = B := e; show q ≤ Y; omega)
          have hag : ∀ x q, total = .ok x q → aggP B tdC w9 x (.agg #[.int .u8 1, .string ⟨s1.toArray⟩, .slice ar5 lr5 cr5, .slice none 0 0]) := fun x q e => by
            obtain ⟨⟨⟨⟨u, n1⟩, u2⟩, fs1⟩, rfl, ⟨⟨⟨-, k1⟩, -⟩, k3⟩⟩ := hxs x q e
            subst k1
            exact ⟨_, rfl, CellsAt.lit rfl (CellsAt.lit rfl (CellsAt.cons (CellAt.weaken (G' := fun q => B ≤ q) (fun q _ h => by have h : Y < q := h; show B ≤ q; omega) _ _ (CellAt.only o5 (fun k hk e => by have hk : Y < k := hk; have e : k ≤ Y := e; omega) _ _ k3)) (CellsAt.cons (CellAt.nilRow _ _ _) (CellsAt.nil _ _))))⟩
          exact bodyPost_ret (v := .agg #[.int .u8 1, .string ⟨s1.toArray⟩, .slice ar5 lr5 cr5, .slice none 0 0]) (by simp [results, Tryz.results9, go_sem, y0, y1, y2, y3]) rfl (HPP.out w9 _ ⟨1, s1, ar5, lr5, cr5, none, 0, 0, rfl⟩ hd9 hag (HO6.out.trans' k2 (fun q hq e => by have := HWB.out; omega)))
        ·
          rw [if_pos rfl] at J
          go_wp2_with fail
          refine J.out.mono ?_
          rintro e w3 ⟨rfl, hd, o4⟩
          have HJ3 := Lib.hid (Jn.adv (F := fun (p : Unit × List UInt8) r => (namesP [38] r).bind fun l r2 => objQ 1 p.2 l r2) (HJ2.out.yes HBT.out))
          obtain ⟨σ3, hσ⟩ : ∃ z, adv σ1 = z := ⟨_, rfl⟩
          rw [hσ] at hd HJ3
          clear hσ
          have HD3 := Lib.hid hd
          clear HJ2 hd HBT J
          have hr3 := (o4.block B (Array.getElem?_eq_some_iff.1 HR2.out).1 (by omega)).trans HR2.out
          have HR3 := Lib.hid hr3
          have hy3 := (o4.block Y (Array.getElem?_eq_some_iff.1 HY2.out).1 (by omega)).trans HY2.out
          have HY3 := Lib.hid hy3
          have HO3 := Lib.hid (HO2.out.trans' o4 (fun q hq e => by exact e))
          clear hr3 hy3
          clear o4
          clear HR2 HO2 HD2 HY2
          have J := Lib.hid (snames_any [38] b all σ3 w3 HD3.out)
          go_wp2_with fail
          refine J.out.mono ?_
          rintro e w4 ⟨v, rfl, ⟨ar4, lr4, cr4, rfl⟩, hd, hv, o4⟩
          have hsy : Y < w3.heap.size := (Array.getElem?_eq_some_iff.1 HY3.out).1
          have hv : ∀ x q, (σ3.bind fun _ => namesP [38]) = .ok x q → CellAt w4 (fun q => Y < q) (.row 1 (x.map (fun s => [strC s]))) (.slice ar4 lr4 cr4) := fun x q e => CellAt.weaken (fun q _ h => by have h : w3.heap.size ≤ q := h; show Y < q; omega) _ _ (hv x q e)
          obtain ⟨σ4, hσ⟩ : ∃ z, (σ3.bind fun _ => namesP [38]).unit = z := ⟨_, rfl⟩
          rw [hσ] at hd
          have hj := Jn.call (fun x => CellAt w4 (fun q => Y < q) (.row 1 (x.map (fun s => [strC s]))) (.slice ar4 lr4 cr4)) HJ3.out hσ.symm hv
          have HJ4 := Lib.hid hj; have HD4 := Lib.hid hd
          clear hj hd hv hσ HJ3 J hsy
          have hr4 := (o4.block B (Array.getElem?_eq_some_iff.1 HR3.out).1 (by omega)).trans HR3.out
          have HR4 := Lib.hid hr4
          have hy4 := (o4.block Y (Array.getElem?_eq_some_iff.1 HY3.out).1 (by omega)).trans HY3.out
          have HY4 := Lib.hid hy4
          have HO4 := Lib.hid (HO3.out.trans' o4 (fun q hq e => by exact e))
          clear hr4 hy4
          have HC4_4 := Lib.hid (Only.refl (fun k => k ≤ Y) w4)
          clear o4
          clear HR3 HO3 HD3 HY3
          obtain ⟨y0, y1, y2, y3, yz⟩ := boxN4 HY4.out
          go_upto_region 10 with (fail)
          clear y0 y1 y2 y3 yz
          have hy5 := heap_set (o := 3) HY4.out (.slice ar4 lr4 cr4)
          have hy5 : (w4.setCell ⟨Y, 3, none⟩ (.slice ar4 lr4 cr4)).heap[Y]? = some (.cells #[.int .u8 1, .string ⟨s1.toArray⟩, .slice none 0 0, .slice ar4 lr4 cr4] 34 (0, 0)) := by simpa using hy5
          have os5 : Only (fun k => k = Y) w4 (w4.setCell ⟨Y, 3, none⟩ (.slice ar4 lr4 cr4)) := (Only.refl (fun k => k = Y) _).setCell (p := ⟨Y, 3, none⟩) (.inl rfl) _
          obtain ⟨w5, hw5⟩ : ∃ x, w4.setCell ⟨Y, 3, none⟩ (.slice ar4 lr4 cr4) = x := ⟨_, rfl⟩
          rw [hw5] at hy5 os5
          rw [hw5]
          clear hw5
          have HY5 := Lib.hid hy5; have HD5 := Lib.hid (HD4.out.only os5 (fun k hk e => by omega)); have HJ5 := HJ4
          have hr5 := (os5.block B (Array.getElem?_eq_some_iff.1 HR4.out).1 (by omega)).trans HR4.out
          have HR5 := Lib.hid hr5
          have HC4_5 := Lib.hid (HC4_4.out.trans' os5 (fun q hq e => by have e : q = Y := e; show q ≤ Y; omega))
          have HO5 := Lib.hid (HO4.out.trans' os5 (fun q hq e => by have e : q = Y := e; have := HWB.out; omega))
          clear hr5
          clear hy5 os5 HJ4
          clear HR4 HO4 HD4 HY4 HC4_4
          have HJu := HJ5.out
          unfold objQ at HJu
          clear HJ5
          have HJ5 := Lib.hid HJu; clear HJu
          have J := Lib.hid (swant_any b all σ4 [123] w5 HD5.out)
          go_wp2_with fail
          refine J.out.mono ?_
          rintro e w6 ⟨rfl, hd, o4⟩
          have hv : ∀ x q, (σ4.bind fun _ => wantP [123]) = .ok x q → True := fun _ _ _ => trivial
          obtain ⟨σ6, hσ⟩ : ∃ z, (σ4.bind fun _ => wantP [123]).unit = z := ⟨_, rfl⟩
          rw [hσ] at hd
          have hj := Jn.call (fun _ => True) HJ5.out hσ.symm hv
          have HJ6 := Lib.hid hj; have HD6 := Lib.hid hd
          clear hj hd hv hσ HJ5 J
          have hr6 := (o4.block B (Array.getElem?_eq_some_iff.1 HR5.out).1 (by omega)).trans HR5.out
          have HR6 := Lib.hid hr6
          have hy6 := (o4.block Y (Array.getElem?_eq_some_iff.1 HY5.out).1 (by omega)).trans HY5.out
          have HY6 := Lib.hid hy6
          have HC4_6 := Lib.hid (HC4_5.out.trans' o4 (fun q hq e => by have e : q = b := e; show q ≤ Y; omega))
          have HO6 := Lib.hid (HO5.out.trans' o4 (fun q hq e => by exact e))
          clear hr6 hy6
          clear o4
          clear HR5 HO5 HD5 HY5 HC4_5
          have J := Lib.hid (smanyF_any fdP fdP_takes b all σ6 [125] w6 HD6.out (fun wx σ' _ hd => sfield_any b all σ' wx hd))
          go_wp2_with fail
          refine J.out.mono ?_
          rintro e w7 ⟨v, rfl, ⟨ar7, lr7, cr7, rfl⟩, hd, hv, o4⟩
          have hsy : Y < w6.heap.size := (Array.getElem?_eq_some_iff.1 HY6.out).1
          have hv : ∀ x q, (σ6.bind fun _ => (fun r => manyP fdP [125] (r.length + 1) [] r)) = .ok x q → CellAt w7 (fun q => Y < q) (.row 11 (x.map fdC)) (.slice ar7 lr7 cr7) := fun x q e => CellAt.weaken (fun q _ h => by have h : w6.heap.size ≤ q := h; show Y < q; omega) _ _ (hv x q e)
          obtain ⟨σ7, hσ⟩ : ∃ z, (σ6.bind fun _ => (fun r => manyP fdP [125] (r.length + 1) [] r)).unit = z := ⟨_, rfl⟩
          rw [hσ] at hd
          have hj := Jn.call (fun x => CellAt w7 (fun q => Y < q) (.row 11 (x.map fdC)) (.slice ar7 lr7 cr7)) HJ6.out hσ.symm hv
          have HJ7 := Lib.hid hj; have HD7 := Lib.hid hd
          clear hj hd hv hσ HJ6 J hsy
          have hr7 := (o4.block B (Array.getElem?_eq_some_iff.1 HR6.out).1 (by omega)).trans HR6.out
          have HR7 := Lib.hid hr7
          have hy7 := (o4.block Y (Array.getElem?_eq_some_iff.1 HY6.out).1 (by omega)).trans HY6.out
          have HY7 := Lib.hid hy7
          have HC4_7 := Lib.hid (HC4_6.out.trans' o4 (fun q hq e => by have e : q = b := e; show q ≤ Y; omega))
          have HO7 := Lib.hid (HO6.out.trans' o4 (fun q hq e => by exact e))
          clear hr7 hy7
          have HC7_7 := Lib.hid (Only.refl (fun k => k ≤ Y) w7)
          clear o4
          clear HR6 HO6 HD6 HY6 HC4_6
          obtain ⟨y0, y1, y2, y3, yz⟩ := boxN4 HY7.out
          go_upto_region 21 with (fail)
          clear y0 y1 y2 y3 yz
          have hy8 := heap_set (o := 2) HY7.out (.slice ar7 lr7 cr7)
          have hy8 : (w7.setCell ⟨Y, 2, none⟩ (.slice ar7 lr7 cr7)).heap[Y]? = some (.cells #[.int .u8 1, .string ⟨s1.toArray⟩, .slice ar7 lr7 cr7, .slice ar4 lr4 cr4] 34 (0, 0)) := by simpa using hy8
          have os8 : Only (fun k => k = Y) w7 (w7.setCell ⟨Y, 2, none⟩ (.slice ar7 lr7 cr7)) := (Only.refl (fun k => k = Y) _).setCell (p := ⟨Y, 2, none⟩) (.inl rfl) _
          obtain ⟨w8, hw8⟩ : ∃ x, w7.setCell ⟨Y, 2, none⟩ (.slice ar7 lr7 cr7) = x := ⟨_, rfl⟩
          rw [hw8] at hy8 os8
          rw [hw8]
          clear hw8
          have HY8 := Lib.hid hy8; have HD8 := Lib.hid (HD7.out.only os8 (fun k hk e => by omega)); have HJ8 := HJ7
          have hr8 := (os8.block B (Array.getElem?_eq_some_iff.1 HR7.out).1 (by omega)).trans HR7.out
          have HR8 := Lib.hid hr8
          have HC4_8 := Lib.hid (HC4_7.out.trans' os8 (fun q hq e => by have e : q = Y := e; show q ≤ Y; omega))
          have HC7_8 := Lib.hid (HC7_7.out.trans' os8 (fun q hq e => by have e : q = Y := e; show q ≤ Y; omega))
          have HO8 := Lib.hid (HO7.out.trans' os8 (fun q hq e => by have e : q = Y := e; have := HWB.out; omega))
          clear hr8
          clear hy8 os8 HJ7
          clear HR7 HO7 HD7 HY7 HC4_7 HC7_7
          obtain ⟨y0, y1, y2, y3, yz⟩ := boxN4 HY8.out
          go_wp2_with ((refine wpList_store_box (o := ⟨none, _, _, _, _, _⟩) rfl 34 (.tmp 2) (.tmp 67) (by rfl) B [.int .u8 0, .string ⟨#[]⟩, .slice none 0 0, .slice none 0 0] [.int .u8 1, .string ⟨s1.toArray⟩, .slice ar7 lr7 cr7, .slice ar4 lr4 cr4] (by rfl) (by rfl) HR8.out (by rfl) (by kernel_rfl) (by intro u hu; simp at hu; rcases hu with rfl | rfl | rfl | rfl <;> rfl) ?_; intro w9 k1 k2))
          clear y0 y1 y2 y3 yz
          obtain ⟨y0, y1, y2, y3, -⟩ := boxN4 k1
          obtain ⟨hdn, hxs⟩ := HJ8.out.done
          have hd9 : Sd w9 b all total.unit := by rw [← hdn]; exact HD8.out.only k2 (fun k hk e => by omega)
          have o4 := HC4_8.out.trans' k2 (fun q hq e => by have e : q = B := e; show q ≤ Y; omega)
          have o7 := HC7_8.out.trans' k2 (fun q hq e => by have e : q = B := e; show q ≤ Y; omega)
          have hag : ∀ x q, total = .ok x q → aggP B tdC w9 x (.agg #[.int .u8 1, .string ⟨s1.toArray⟩, .slice ar7 lr7 cr7, .slice ar4 lr4 cr4]) := fun x q e => by
            obtain ⟨⟨⟨⟨⟨u, n1⟩, l1⟩, u2⟩, fs1⟩, rfl, ⟨⟨⟨⟨-, k1⟩, k2⟩, -⟩, k3⟩⟩ := hxs x q e
            subst k1
            exact ⟨_, rfl, CellsAt.lit rfl (CellsAt.lit rfl (CellsAt.cons (CellAt.weaken (G' := fun q => B ≤ q) (fun q _ h => by have h : Y < q := h; show B ≤ q; omega) _ _ (CellAt.only o7 (fun k hk e => by have hk : Y < k := hk; have e : k ≤ Y := e; omega) _ _ k3)) (CellsAt.cons (CellAt.weaken (G' := fun q => B ≤ q) (fun q _ h => by have h : Y < q := h; show B ≤ q; omega) _ _ (CellAt.only o4 (fun k hk e => by have hk : Y < k := hk; have e : k ≤ Y := e; omega) _ _ k2)) (CellsAt.nil _ _))))⟩
          exact bodyPost_ret (v := .agg #[.int .u8 1, .string ⟨s1.toArray⟩, .slice ar7 lr7 cr7, .slice ar4 lr4 cr4]) (by simp [results, Tryz.results9, go_sem, y0, y1, y2, y3]) rfl (HPP.out w9 _ ⟨1, s1, ar7, lr7, cr7, ar4, lr4, cr4, rfl⟩ hd9 hag (HO8.out.trans' k2 (fun q hq e => by have := HWB.out; omega)))
    · -- interface
      have hix : ∀ wx : World, (Instr.index 64 (.agg #[.string ⟨#[116, 121, 112, 101]⟩, .string ⟨#[105, 110, 116, 101, 114, 102, 97, 99, 101]⟩, .string ⟨#[117, 110, 105, 111, 110]⟩, .string ⟨#[101, 110, 117, 109]⟩, .string ⟨#[105, 110, 112, 117, 116]⟩]) (.int .i64 1)).run Tryz.prog wx = .ok (.string ⟨#[105, 110, 116, 101, 114, 102, 97, 99, 101]⟩) wx := fun _ => rfl
      have J := Lib.hid (stake_any b all σi wInterface wr HSD.out)
      unfold tookS at J
      obtain ⟨bb, hb⟩ : ∃ x, tst σi (isT wInterface) = x := ⟨_, rfl⟩
      rw [hb] at J
      have HBT := Lib.hid hb; clear hb
      cases bb
      · rw [if_neg (by decide)] at J
        go_wp2_with fail
        refine J.out.mono ?_
        rintro e w1 ⟨rfl, hd, o4⟩
        have hi : OneI w b B all σi 2 w1 := ⟨hd, (o4.block B (Array.getElem?_eq_some_iff.1 HRR.out).1 (by omega)).trans HRR.out, HON.out.trans o4, fun i hi => by
          rcases Nat.lt_or_ge i 1 with h | h
          · exact HWW.out i h
          · obtain rfl : i = 1 := by omega
            exact HBT.out⟩
        have HI2 := Lib.hid hi; clear hi hd o4 J
        go_wp2_with fail
        go_roundw
        case rel => first | exact ⟨2, rfl, by omega, HI2⟩ | ((repeat apply Exists.intro); exact ⟨rfl, by omega, HI2⟩)
        case measure => simp [natV]
      · rw [if_pos rfl] at J
        go_wp2_with fail
        refine J.out.mono ?_
        rintro e w0 ⟨rfl, hd, o4⟩
        obtain ⟨σ0, hσ⟩ : ∃ z, adv σi = z := ⟨_, rfl⟩
        have ht := HYES.out 1 (by omega) HWW.out HBT.out
        rw [hσ] at hd ht
        have hj := Jn.start σ0 (tdK 1)
        rw [← ht] at hj
        have hj : Jn (τ := Unit) total σ0 (fun _ => True) (fun _ => td2) := hj
        unfold td2 at hj
        have HJ0 := Lib.hid hj; have HD0 := Lib.hid hd; have HR0 := Lib.hid ((o4.block B (Array.getElem?_eq_some_iff.1 HRR.out).1 (by omega)).trans HRR.out); have HO0 := Lib.hid (HON.out.trans o4)
        clear hj hd ht hσ o4 J HBT HSD HRR HON HWW HYES HNO
        have hmf : ∀ (fn : Fn) (first cap : Array Value) (w : World), (Instr.makeFunc fn first cap).run Tryz.prog w = .ok (.func fn first cap) w := fun _ _ _ _ => rfl
        have J := Lib.hid (sname_any b all σ0 w0 HD0.out)
        go_wp2_with fail
        refine J.out.mono ?_
        rintro e w1 ⟨v, rfl, ⟨s1, rfl⟩, hd, hv, o4⟩
        have hv : ∀ x q, (σ0.bind fun _ => nameP) = .ok x q → s1 = x := fun x q e => str_inj (hv x q e)
        obtain ⟨σ1, hσ⟩ : ∃ z, (σ0.bind fun _ => nameP).unit = z := ⟨_, rfl⟩
        rw [hσ] at hd
        have hj := Jn.call (fun x => s1 = x) HJ0.out hσ.symm hv
        have HJ1 := Lib.hid hj; have HD1 := Lib.hid hd
        clear hj hd hv hσ HJ0 J
        have hr1 := (o4.block B (Array.getElem?_eq_some_iff.1 HR0.out).1 (by omega)).trans HR0.out
        have HR1 := Lib.hid hr1
        have HO1 := Lib.hid (HO0.out.trans' o4 (fun q hq e => by exact e))
        clear hr1
        clear o4
        clear HR0 HO0 HD0
        have hsz2 : B < w1.heap.size := (Array.getElem?_eq_some_iff.1 HR1.out).1
        obtain ⟨Y, hY⟩ : ∃ Y, w1.heap.size = Y := ⟨_, rfl⟩
        obtain ⟨w2, hw2⟩ : ∃ x, w1.alloc (.cells #[.int .u8 2, .string ⟨s1.toArray⟩, .slice none 0 0, .slice none 0 0] 34) = x := ⟨_, rfl⟩
        have hy2 : w2.heap[Y]? = some (.cells #[.int .u8 2, .string ⟨s1.toArray⟩, .slice none 0 0, .slice none 0 0] 34 (0, 0)) := by rw [← hw2, ← hY]; exact heap_new _ _
        have hr2 : w2.heap[B]? = some (.cells #[.int .u8 0, .string ⟨#[]⟩, .slice none 0 0, .slice none 0 0] 34 (0, 0)) := by rw [← hw2]; exact heap_old HR1.out _
        have oa2 : Only (fun _ => False) w1 w2 := by rw [← hw2]; exact (Only.refl _ _).alloc _
        rw [hY] at hsz2
        have HY2 := Lib.hid hy2; have HR2 := Lib.hid hr2; have HD2 := Lib.hid (HD1.out.still oa2); have HO2 := Lib.hid (HO1.out.trans' oa2 (fun q _ e => e.elim)); have HW2 := Lib.hid hw2; have HYY := Lib.hid hY; have HJ2 := HJ1
        clear hy2 hr2 hw2 hY oa2 HR1 HD1 HO1 HJ1
        go_upto_region 7 with (fail)
        rw [HYY.out, HW2.out]
        clear HYY HW2
        obtain ⟨y0, y1, y2, y3, yz⟩ := boxN4 HY2.out
        go_upto_region 10 with (fail)
        clear y0 y1 y2 y3 yz
        have HJu := HJ2.out
        unfold objQ at HJu
        clear HJ2
        have HJ2 := Lib.hid HJu; clear HJu
        have J := Lib.hid (swant_any b all σ1 [123] w2 HD2.out)
        go_wp2_with fail
        refine J.out.mono ?_
        rintro e w3 ⟨rfl, hd, o4⟩
        have hv : ∀ x q, (σ1.bind fun _ => wantP [123]) = .ok x q → True := fun _ _ _ => trivial
        obtain ⟨σ3, hσ⟩ : ∃ z, (σ1.bind fun _ => wantP [123]).unit = z := ⟨_, rfl⟩
        rw [hσ] at hd
        have hj := Jn.call (fun _ => True) HJ2.out hσ.symm hv
        have HJ3 := Lib.hid hj; have HD3 := Lib.hid hd
        clear hj hd hv hσ HJ2 J
        have hr3 := (o4.block B (Array.getElem?_eq_some_iff.1 HR2.out).1 (by omega)).trans HR2.out
        have HR3 := Lib.hid hr3
        have hy3 := (o4.block Y (Array.getElem?_eq_some_iff.1 HY2.out).1 (by omega)).trans HY2.out
        have HY3 := Lib.hid hy3
        have HO3 := Lib.hid (HO2.out.trans' o4 (fun q hq e => by exact e))
        clear hr3 hy3
        clear o4
        clear HR2 HO2 HD2 HY2
        have J := Lib.hid (smanyF_any fdP fdP_takes b all σ3 [125] w3 HD3.out (fun wx σ' _ hd => sfield_any b all σ' wx hd))
        go_wp2_with fail
        refine J.out.mono ?_
        rintro e w4 ⟨v, rfl, ⟨ar4, lr4, cr4, rfl⟩, hd, hv, o4⟩
        have hsy : Y < w3.heap.size := (Array.getElem?_eq_some_iff.1 HY3.out).1
        have hv : ∀ x q, (σ3.bind fun _ => (fun r => manyP fdP [125] (r.length + 1) [] r)) = .ok x q → CellAt w4 (fun q => Y < q) (.row 11 (x.map fdC)) (.slice ar4 lr4 cr4) := fun x q e => CellAt.weaken (fun q _ h => by have h : w3.heap.size ≤ q := h; show Y < q; omega) _ _ (hv x q e)
        obtain ⟨σ4, hσ⟩ : ∃ z, (σ3.bind fun _ => (fun r => manyP fdP [125] (r.length + 1) [] r)).unit = z := ⟨_, rfl⟩
        rw [hσ] at hd
        have hj := Jn.call (fun x => CellAt w4 (fun q => Y < q) (.row 11 (x.map fdC)) (.slice ar4 lr4 cr4)) HJ3.out hσ.symm hv
        have HJ4 := Lib.hid hj; have HD4 := Lib.hid hd
        clear hj hd hv hσ HJ3 J hsy
        have hr4 := (o4.block B (Array.getElem?_eq_some_iff.1 HR3.out).1 (by omega)).trans HR3.out
        have HR4 := Lib.hid hr4
        have hy4 := (o4.block Y (Array.getElem?_eq_some_iff.1 HY3.out).1 (by omega)).trans HY3.out
        have HY4 := Lib.hid hy4
        have HO4 := Lib.hid (HO3.out.trans' o4 (fun q hq e => by exact e))
        clear hr4 hy4
        have HC4_4 := Lib.hid (Only.refl (fun k => k ≤ Y) w4)
        clear o4
        clear HR3 HO3 HD3 HY3
        obtain ⟨y0, y1, y2, y3, yz⟩ := boxN4 HY4.out
        go_upto_region 21 with (fail)
        clear y0 y1 y2 y3 yz
        have hy5 := heap_set (o := 2) HY4.out (.slice ar4 lr4 cr4)
        have hy5 : (w4.setCell ⟨Y, 2, none⟩ (.slice ar4 lr4 cr4)).heap[Y]? = some (.cells #[.int .u8 2, .string ⟨s1.toArray⟩, .slice ar4 lr4 cr4, .slice none 0 0] 34 (0, 0)) := by simpa using hy5
        have os5 : Only (fun k => k = Y) w4 (w4.setCell ⟨Y, 2, none⟩ (.slice ar4 lr4 cr4)) := (Only.refl (fun k => k = Y) _).setCell (p := ⟨Y, 2, none⟩) (.inl rfl) _
        obtain ⟨w5, hw5⟩ : ∃ x, w4.setCell ⟨Y, 2, none⟩ (.slice ar4 lr4 cr4) = x := ⟨_, rfl⟩
        rw [hw5] at hy5 os5
        rw [hw5]
        clear hw5
        have HY5 := Lib.hid hy5; have HD5 := Lib.hid (HD4.out.only os5 (fun k hk e => by omega)); have HJ5 := HJ4
        have hr5 := (os5.block B (Array.getElem?_eq_some_iff.1 HR4.out).1 (by omega)).trans HR4.out
        have HR5 := Lib.hid hr5
        have HC4_5 := Lib.hid (HC4_4.out.trans' os5 (fun q hq e => by have e : q = Y := e; show q ≤ Y; omega))
        have HO5 := Lib.hid (HO4.out.trans' os5 (fun q hq e => by have e : q = Y := e; have := HWB.out; omega))
        clear hr5
        clear hy5 os5 HJ4
        clear HR4 HO4 HD4 HY4 HC4_4
        obtain ⟨y0, y1, y2, y3, yz⟩ := boxN4 HY5.out
        go_wp2_with ((refine wpList_store_box (o := ⟨none, _, _, _, _, _⟩) rfl 34 (.tmp 2) (.tmp 67) (by rfl) B [.int .u8 0, .string ⟨#[]⟩, .slice none 0 0, .slice none 0 0] [.int .u8 2, .string ⟨s1.toArray⟩, .slice ar4 lr4 cr4, .slice none 0 0] (by rfl) (by rfl) HR5.out (by rfl) (by kernel_rfl) (by intro u hu; simp at hu; rcases hu with rfl | rfl | rfl | rfl <;> rfl) ?_; intro w9 k1 k2))
        clear y0 y1 y2 y3 yz
        obtain ⟨y0, y1, y2, y3, -⟩ := boxN4 k1
        obtain ⟨hdn, hxs⟩ := HJ5.out.done
        have hd9 : Sd w9 b all total.unit := by rw [← hdn]; exact HD5.out.only k2 (fun k hk e => by omega)
        have o4 := HC4_5.out.trans' k2 (fun q hq e => by have e : q = B := e; show q ≤ Y; omega)
        have hag : ∀ x q, total = .ok x q → aggP B tdC w9 x (.agg #[.int .u8 2, .string ⟨s1.toArray⟩, .slice ar4 lr4 cr4, .slice none 0 0]) := fun x q e => by
          obtain ⟨⟨⟨⟨u, n1⟩, u2⟩, fs1⟩, rfl, ⟨⟨⟨-, k1⟩, -⟩, k3⟩⟩ := hxs x q e
          subst k1
          exact ⟨_, rfl, CellsAt.lit rfl (CellsAt.lit rfl (CellsAt.cons (CellAt.weaken (G' := fun q => B ≤ q) (fun q _ h => by have h : Y < q := h; show B ≤ q; omega) _ _ (CellAt.only o4 (fun k hk e => by have hk : Y < k := hk; have e : k ≤ Y := e; omega) _ _ k3)) (CellsAt.cons (CellAt.nilRow _ _ _) (CellsAt.nil _ _))))⟩
        exact bodyPost_ret (v := .agg #[.int .u8 2, .string ⟨s1.toArray⟩, .slice ar4 lr4 cr4, .slice none 0 0]) (by simp [results, Tryz.results9, go_sem, y0, y1, y2, y3]) rfl (HPP.out w9 _ ⟨2, s1, ar4, lr4, cr4, none, 0, 0, rfl⟩ hd9 hag (HO5.out.trans' k2 (fun q hq e => by have := HWB.out; omega)))
    · -- union
      have hix : ∀ wx : World, (Instr.index 64 (.agg #[.string ⟨#[116, 121, 112, 101]⟩, .string ⟨#[105, 110, 116, 101, 114, 102, 97, 99, 101]⟩, .string ⟨#[117, 110, 105, 111, 110]⟩, .string ⟨#[101, 110, 117, 109]⟩, .string ⟨#[105, 110, 112, 117, 116]⟩]) (.int .i64 2)).run Tryz.prog wx = .ok (.string ⟨#[117, 110, 105, 111, 110]⟩) wx := fun _ => rfl
      have J := Lib.hid (stake_any b all σi wUnion wr HSD.out)
      unfold tookS at J
      obtain ⟨bb, hb⟩ : ∃ x, tst σi (isT wUnion) = x := ⟨_, rfl⟩
      rw [hb] at J
      have HBT := Lib.hid hb; clear hb
      cases bb
      · rw [if_neg (by decide)] at J
        go_wp2_with fail
        refine J.out.mono ?_
        rintro e w1 ⟨rfl, hd, o4⟩
        have hi : OneI w b B all σi 3 w1 := ⟨hd, (o4.block B (Array.getElem?_eq_some_iff.1 HRR.out).1 (by omega)).trans HRR.out, HON.out.trans o4, fun i hi => by
          rcases Nat.lt_or_ge i 2 with h | h
          · exact HWW.out i h
          · obtain rfl : i = 2 := by omega
            exact HBT.out⟩
        have HI2 := Lib.hid hi; clear hi hd o4 J
        go_wp2_with fail
        go_roundw
        case rel => first | exact ⟨3, rfl, by omega, HI2⟩ | ((repeat apply Exists.intro); exact ⟨rfl, by omega, HI2⟩)
        case measure => simp [natV]
      · rw [if_pos rfl] at J
        go_wp2_with fail
        refine J.out.mono ?_
        rintro e w0 ⟨rfl, hd, o4⟩
        obtain ⟨σ0, hσ⟩ : ∃ z, adv σi = z := ⟨_, rfl⟩
        have ht := HYES.out 2 (by omega) HWW.out HBT.out
        rw [hσ] at hd ht
        have hj := Jn.start σ0 (tdK 2)
        rw [← ht] at hj
        have hj : Jn (τ := Unit) total σ0 (fun _ => True) (fun _ => td3) := hj
        unfold td3 at hj
        have HJ0 := Lib.hid hj; have HD0 := Lib.hid hd; have HR0 := Lib.hid ((o4.block B (Array.getElem?_eq_some_iff.1 HRR.out).1 (by omega)).trans HRR.out); have HO0 := Lib.hid (HON.out.trans o4)
        clear hj hd ht hσ o4 J HBT HSD HRR HON HWW HYES HNO
        have J := Lib.hid (sname_any b all σ0 w0 HD0.out)
        go_wp2_with fail
        refine J.out.mono ?_
        rintro e w1 ⟨v, rfl, ⟨s1, rfl⟩, hd, hv, o4⟩
        have hv : ∀ x q, (σ0.bind fun _ => nameP) = .ok x q → s1 = x := fun x q e => str_inj (hv x q e)
        obtain ⟨σ1, hσ⟩ : ∃ z, (σ0.bind fun _ => nameP).unit = z := ⟨_, rfl⟩
        rw [hσ] at hd
        have hj := Jn.call (fun x => s1 = x) HJ0.out hσ.symm hv
        have HJ1 := Lib.hid hj; have HD1 := Lib.hid hd
        clear hj hd hv hσ HJ0 J
        have hr1 := (o4.block B (Array.getElem?_eq_some_iff.1 HR0.out).1 (by omega)).trans HR0.out
        have HR1 := Lib.hid hr1
        have HO1 := Lib.hid (HO0.out.trans' o4 (fun q hq e => by exact e))
        clear hr1
        clear o4
        clear HR0 HO0 HD0
        have hsz2 : B < w1.heap.size := (Array.getElem?_eq_some_iff.1 HR1.out).1
        obtain ⟨Y, hY⟩ : ∃ Y, w1.heap.size = Y := ⟨_, rfl⟩
        obtain ⟨w2, hw2⟩ : ∃ x, w1.alloc (.cells #[.int .u8 3, .string ⟨s1.toArray⟩, .slice none 0 0, .slice none 0 0] 34) = x := ⟨_, rfl⟩
        have hy2 : w2.heap[Y]? = some (.cells #[.int .u8 3, .string ⟨s1.toArray⟩, .slice none 0 0, .slice none 0 0] 34 (0, 0)) := by rw [← hw2, ← hY]; exact heap_new _ _
        have hr2 : w2.heap[B]? = some (.cells #[.int .u8 0, .string ⟨#[]⟩, .slice none 0 0, .slice none 0 0] 34 (0, 0)) := by rw [← hw2]; exact heap_old HR1.out _
        have oa2 : Only (fun _ => False) w1 w2 := by rw [← hw2]; exact (Only.refl _ _).alloc _
        rw [hY] at hsz2
        have HY2 := Lib.hid hy2; have HR2 := Lib.hid hr2; have HD2 := Lib.hid (HD1.out.still oa2); have HO2 := Lib.hid (HO1.out.trans' oa2 (fun q _ e => e.elim)); have HW2 := Lib.hid hw2; have HYY := Lib.hid hY; have HJ2 := HJ1
        clear hy2 hr2 hw2 hY oa2 HR1 HD1 HO1 HJ1
        go_upto_region 7 with (fail)
        rw [HYY.out, HW2.out]
        clear HYY HW2
        obtain ⟨y0, y1, y2, y3, yz⟩ := boxN4 HY2.out
        go_upto_region 13 with (fail)
        clear y0 y1 y2 y3 yz
        have J := Lib.hid (swant_any b all σ1 [61] w2 HD2.out)
        go_wp2_with fail
        refine J.out.mono ?_
        rintro e w3 ⟨rfl, hd, o4⟩
        have hv : ∀ x q, (σ1.bind fun _ => wantP [61]) = .ok x q → True := fun _ _ _ => trivial
        obtain ⟨σ3, hσ⟩ : ∃ z, (σ1.bind fun _ => wantP [61]).unit = z := ⟨_, rfl⟩
        rw [hσ] at hd
        have hj := Jn.call (fun _ => True) HJ2.out hσ.symm hv
        have HJ3 := Lib.hid hj; have HD3 := Lib.hid hd
        clear hj hd hv hσ HJ2 J
        have hr3 := (o4.block B (Array.getElem?_eq_some_iff.1 HR2.out).1 (by omega)).trans HR2.out
        have HR3 := Lib.hid hr3
        have hy3 := (o4.block Y (Array.getElem?_eq_some_iff.1 HY2.out).1 (by omega)).trans HY2.out
        have HY3 := Lib.hid hy3
        have HO3 := Lib.hid (HO2.out.trans' o4 (fun q hq e => by exact e))
        clear hr3 hy3
        clear o4
        clear HR2 HO2 HD2 HY2
        have J := Lib.hid (snames_any [124] b all σ3 w3 HD3.out)
        go_wp2_with fail
        refine J.out.mono ?_
        rintro e w4 ⟨v, rfl, ⟨ar4, lr4, cr4, rfl⟩, hd, hv, o4⟩
        have hsy : Y < w3.heap.size := (Array.getElem?_eq_some_iff.1 HY3.out).1
        have hv : ∀ x q, (σ3.bind fun _ => namesP [124]) = .ok x q → CellAt w4 (fun q => Y < q) (.row 1 (x.map (fun s => [strC s]))) (.slice ar4 lr4 cr4) := fun x q e => CellAt.weaken (fun q _ h => by have h : w3.heap.size ≤ q := h; show Y < q; omega) _ _ (hv x q e)
        obtain ⟨σ4, hσ⟩ : ∃ z, (σ3.bind fun _ => namesP [124]).unit = z := ⟨_, rfl⟩
        rw [hσ] at hd
        have hj := Jn.call (fun x => CellAt w4 (fun q => Y < q) (.row 1 (x.map (fun s => [strC s]))) (.slice ar4 lr4 cr4)) HJ3.out hσ.symm hv
        have HJ4 := Lib.hid hj; have HD4 := Lib.hid hd
        clear hj hd hv hσ HJ3 J hsy
        have hr4 := (o4.block B (Array.getElem?_eq_some_iff.1 HR3.out).1 (by omega)).trans HR3.out
        have HR4 := Lib.hid hr4
        have hy4 := (o4.block Y (Array.getElem?_eq_some_iff.1 HY3.out).1 (by omega)).trans HY3.out
        have HY4 := Lib.hid hy4
        have HO4 := Lib.hid (HO3.out.trans' o4 (fun q hq e => by exact e))
        clear hr4 hy4
        have HC4_4 := Lib.hid (Only.refl (fun k => k ≤ Y) w4)
        clear o4
        clear HR3 HO3 HD3 HY3
        obtain ⟨y0, y1, y2, y3, yz⟩ := boxN4 HY4.out
        go_upto_region 21 with (fail)
        clear y0 y1 y2 y3 yz
        have hy5 := heap_set (o := 3) HY4.out (.slice ar4 lr4 cr4)
        have hy5 : (w4.setCell ⟨Y, 3, none⟩ (.slice ar4 lr4 cr4)).heap[Y]? = some (.cells #[.int .u8 3, .string ⟨s1.toArray⟩, .slice none 0 0, .slice ar4 lr4 cr4] 34 (0, 0)) := by simpa using hy5
        have os5 : Only (fun k => k = Y) w4 (w4.setCell ⟨Y, 3, none⟩ (.slice ar4 lr4 cr4)) := (Only.refl (fun k => k = Y) _).setCell (p := ⟨Y, 3, none⟩) (.inl rfl) _
        obtain ⟨w5, hw5⟩ : ∃ x, w4.setCell ⟨Y, 3, none⟩ (.slice ar4 lr4 cr4) = x := ⟨_, rfl⟩
        rw [hw5] at hy5 os5
        rw [hw5]
        clear hw5
        have HY5 := Lib.hid hy5; have HD5 := Lib.hid (HD4.out.only os5 (fun k hk e => by omega)); have HJ5 := HJ4
        have hr5 := (os5.block B (Array.getElem?_eq_some_iff.1 HR4.out).1 (by omega)).trans HR4.out
        have HR5 := Lib.hid hr5
        have HC4_5 := Lib.hid (HC4_4.out.trans' os5 (fun q hq e => by have e : q = Y := e; show q ≤ Y; omega))
        have HO5 := Lib.hid (HO4.out.trans' os5 (fun q hq e => by have e : q = Y := e; have := HWB.out; omega))
        clear hr5
        clear hy5 os5 HJ4
        clear HR4 HO4 HD4 HY4 HC4_4
        obtain ⟨y0, y1, y2, y3, yz⟩ := boxN4 HY5.out
        go_wp2_with ((refine wpList_store_box (o := ⟨none, _, _, _, _, _⟩) rfl 34 (.tmp 2) (.tmp 67) (by rfl) B [.int .u8 0, .string ⟨#[]⟩, .slice none 0 0, .slice none 0 0] [.int .u8 3, .string ⟨s1.toArray⟩, .slice none 0 0, .slice ar4 lr4 cr4] (by rfl) (by rfl) HR5.out (by rfl) (by kernel_rfl) (by intro u hu; simp at hu; rcases hu with rfl | rfl | rfl | rfl <;> rfl) ?_; intro w9 k1 k2))
        clear y0 y1 y2 y3 yz
        obtain ⟨y0, y1, y2, y3, -⟩ := boxN4 k1
        obtain ⟨hdn, hxs⟩ := HJ5.out.done
        have hd9 : Sd w9 b all total.unit := by rw [← hdn]; exact HD5.out.only k2 (fun k hk e => by omega)
        have o4 := HC4_5.out.trans' k2 (fun q hq e => by have e : q = B := e; show q ≤ Y; omega)
        have hag : ∀ x q, total = .ok x q → aggP B tdC w9 x (.agg #[.int .u8 3, .string ⟨s1.toArray⟩, .slice none 0 0, .slice ar4 lr4 cr4]) := fun x q e => by
          obtain ⟨⟨⟨⟨u, n1⟩, u2⟩, l1⟩, rfl, ⟨⟨⟨-, k1⟩, -⟩, k3⟩⟩ := hxs x q e
          subst k1
          exact ⟨_, rfl, CellsAt.lit rfl (CellsAt.lit rfl (CellsAt.cons (CellAt.nilRow _ _ _) (CellsAt.cons (CellAt.weaken (G' := fun q => B ≤ q) (fun q _ h => by have h : Y < q := h; show B ≤ q; omega) _ _ (CellAt.only o4 (fun k hk e => by have hk : Y < k := hk; have e : k ≤ Y := e; omega) _ _ k3)) (CellsAt.nil _ _))))⟩
        exact bodyPost_ret (v := .agg #[.int .u8 3, .string ⟨s1.toArray⟩, .slice none 0 0, .slice ar4 lr4 cr4]) (by simp [results, Tryz.results9, go_sem, y0, y1, y2, y3]) rfl (HPP.out w9 _ ⟨3, s1, none, 0, 0, ar4, lr4, cr4, rfl⟩ hd9 hag (HO5.out.trans' k2 (fun q hq e => by have := HWB.out; omega)))
    · -- enum
      have hix : ∀ wx : World, (Instr.index 64 (.agg #[.string ⟨#[116, 121, 112, 101]⟩, .string ⟨#[105, 110, 116, 101, 114, 102, 97, 99, 101]⟩, .string ⟨#[117, 110, 105, 111, 110]⟩, .string ⟨#[101, 110, 117, 109]⟩, .string ⟨#[105, 110, 112, 117, 116]⟩]) (.int .i64 3)).run Tryz.prog wx = .ok (.string ⟨#[101, 110, 117, 109]⟩) wx := fun _ => rfl
      have J := Lib.hid (stake_any b all σi wEnum wr HSD.out)
      unfold tookS at J
      obtain ⟨bb, hb⟩ : ∃ x, tst σi (isT wEnum) = x := ⟨_, rfl⟩
      rw [hb] at J
      have HBT := Lib.hid hb; clear hb
      cases bb
      · rw [if_neg (by decide)] at J
        go_wp2_with fail
        refine J.out.mono ?_
        rintro e w1 ⟨rfl, hd, o4⟩
        have hi : OneI w b B all σi 4 w1 := ⟨hd, (o4.block B (Array.getElem?_eq_some_iff.1 HRR.out).1 (by omega)).trans HRR.out, HON.out.trans o4, fun i hi => by
          rcases Nat.lt_or_ge i 3 with h | h
          · exact HWW.out i h
          · obtain rfl : i = 3 := by omega
            exact HBT.out⟩
        have HI2 := Lib.hid hi; clear hi hd o4 J
        go_wp2_with fail
        go_roundw
        case rel => first | exact ⟨4, rfl, by omega, HI2⟩ | ((repeat apply Exists.intro); exact ⟨rfl, by omega, HI2⟩)
        case measure => simp [natV]
      · rw [if_pos rfl] at J
        go_wp2_with fail
        refine J.out.mono ?_
        rintro e w0 ⟨rfl, hd, o4⟩
        obtain ⟨σ0, hσ⟩ : ∃ z, adv σi = z := ⟨_, rfl⟩
        have ht := HYES.out 3 (by omega) HWW.out HBT.out
        rw [hσ] at hd ht
        have hj := Jn.start σ0 (tdK 3)
        rw [← ht] at hj
        have hj : Jn (τ := Unit) total σ0 (fun _ => True) (fun _ => td4) := hj
        unfold td4 at hj
        have HJ0 := Lib.hid hj; have HD0 := Lib.hid hd; have HR0 := Lib.hid ((o4.block B (Array.getElem?_eq_some_iff.1 HRR.out).1 (by omega)).trans HRR.out); have HO0 := Lib.hid (HON.out.trans o4)
        clear hj hd ht hσ o4 J HBT HSD HRR HON HWW HYES HNO
        have hmf : ∀ (fn : Fn) (first cap : Array Value) (w : World), (Instr.makeFunc fn first cap).run Tryz.prog w = .ok (.func fn first cap) w := fun _ _ _ _ => rfl
        have J := Lib.hid (sname_any b all σ0 w0 HD0.out)
        go_wp2_with fail
        refine J.out.mono ?_
        rintro e w1 ⟨v, rfl, ⟨s1, rfl⟩, hd, hv, o4⟩
        have hv : ∀ x q, (σ0.bind fun _ => nameP) = .ok x q → s1 = x := fun x q e => str_inj (hv x q e)
        obtain ⟨σ1, hσ⟩ : ∃ z, (σ0.bind fun _ => nameP).unit = z := ⟨_, rfl⟩
        rw [hσ] at hd
        have hj := Jn.call (fun x => s1 = x) HJ0.out hσ.symm hv
        have HJ1 := Lib.hid hj; have HD1 := Lib.hid hd
        clear hj hd hv hσ HJ0 J
        have hr1 := (o4.block B (Array.getElem?_eq_some_iff.1 HR0.out).1 (by omega)).trans HR0.out
        have HR1 := Lib.hid hr1
        have HO1 := Lib.hid (HO0.out.trans' o4 (fun q hq e => by exact e))
        clear hr1
        clear o4
        clear HR0 HO0 HD0
        have hsz2 : B < w1.heap.size := (Array.getElem?_eq_some_iff.1 HR1.out).1
        obtain ⟨Y, hY⟩ : ∃ Y, w1.heap.size = Y := ⟨_, rfl⟩
        obtain ⟨w2, hw2⟩ : ∃ x, w1.alloc (.cells #[.int .u8 4, .string ⟨s1.toArray⟩, .slice none 0 0, .slice none 0 0] 34) = x := ⟨_, rfl⟩
        have hy2 : w2.heap[Y]? = some (.cells #[.int .u8 4, .string ⟨s1.toArray⟩, .slice none 0 0, .slice none 0 0] 34 (0, 0)) := by rw [← hw2, ← hY]; exact heap_new _ _
        have hr2 : w2.heap[B]? = some (.cells #[.int .u8 0, .string ⟨#[]⟩, .slice none 0 0, .slice none 0 0] 34 (0, 0)) := by rw [← hw2]; exact heap_old HR1.out _
        have oa2 : Only (fun _ => False) w1 w2 := by rw [← hw2]; exact (Only.refl _ _).alloc _
        rw [hY] at hsz2
        have HY2 := Lib.hid hy2; have HR2 := Lib.hid hr2; have HD2 := Lib.hid (HD1.out.still oa2); have HO2 := Lib.hid (HO1.out.trans' oa2 (fun q _ e => e.elim)); have HW2 := Lib.hid hw2; have HYY := Lib.hid hY; have HJ2 := HJ1
        clear hy2 hr2 hw2 hY oa2 HR1 HD1 HO1 HJ1
        go_upto_region 7 with (fail)
        rw [HYY.out, HW2.out]
        clear HYY HW2
        obtain ⟨y0, y1, y2, y3, yz⟩ := boxN4 HY2.out
        go_upto_region 16 with (fail)
        clear y0 y1 y2 y3 yz
        have J := Lib.hid (swant_any b all σ1 [123] w2 HD2.out)
        go_wp2_with fail
        refine J.out.mono ?_
        rintro e w3 ⟨rfl, hd, o4⟩
        have hv : ∀ x q, (σ1.bind fun _ => wantP [123]) = .ok x q → True := fun _ _ _ => trivial
        obtain ⟨σ3, hσ⟩ : ∃ z, (σ1.bind fun _ => wantP [123]).unit = z := ⟨_, rfl⟩
        rw [hσ] at hd
        have hj := Jn.call (fun _ => True) HJ2.out hσ.symm hv
        have HJ3 := Lib.hid hj; have HD3 := Lib.hid hd
        clear hj hd hv hσ HJ2 J
        have hr3 := (o4.block B (Array.getElem?_eq_some_iff.1 HR2.out).1 (by omega)).trans HR2.out
        have HR3 := Lib.hid hr3
        have hy3 := (o4.block Y (Array.getElem?_eq_some_iff.1 HY2.out).1 (by omega)).trans HY2.out
        have HY3 := Lib.hid hy3
        have HO3 := Lib.hid (HO2.out.trans' o4 (fun q hq e => by exact e))
        clear hr3 hy3
        clear o4
        clear HR2 HO2 HD2 HY2
        have J := Lib.hid (smanyS_any plainP plainP_takes b all σ3 [125] w3 HD3.out (fun wx σ' _ hd => splain_any b all σ' wx hd))
        go_wp2_with fail
        refine J.out.mono ?_
        rintro e w4 ⟨v, rfl, ⟨ar4, lr4, cr4, rfl⟩, hd, hv, o4⟩
        have hsy : Y < w3.heap.size := (Array.getElem?_eq_some_iff.1 HY3.out).1
        have hv : ∀ x q, (σ3.bind fun _ => (fun r => manyP plainP [125] (r.length + 1) [] r)) = .ok x q → CellAt w4 (fun q => Y < q) (.row 1 (x.map (fun s => [strC s]))) (.slice ar4 lr4 cr4) := fun x q e => CellAt.weaken (fun q _ h => by have h : w3.heap.size ≤ q := h; show Y < q; omega) _ _ (hv x q e)
        obtain ⟨σ4, hσ⟩ : ∃ z, (σ3.bind fun _ => (fun r => manyP plainP [125] (r.length + 1) [] r)).unit = z := ⟨_, rfl⟩
        rw [hσ] at hd
        have hj := Jn.call (fun x => CellAt w4 (fun q => Y < q) (.row 1 (x.map (fun s => [strC s]))) (.slice ar4 lr4 cr4)) HJ3.out hσ.symm hv
        have HJ4 := Lib.hid hj; have HD4 := Lib.hid hd
        clear hj hd hv hσ HJ3 J hsy
        have hr4 := (o4.block B (Array.getElem?_eq_some_iff.1 HR3.out).1 (by omega)).trans HR3.out
        have HR4 := Lib.hid hr4
        have hy4 := (o4.block Y (Array.getElem?_eq_some_iff.1 HY3.out).1 (by omega)).trans HY3.out
        have HY4 := Lib.hid hy4
        have HO4 := Lib.hid (HO3.out.trans' o4 (fun q hq e => by exact e))
        clear hr4 hy4
        have HC4_4 := Lib.hid (Only.refl (fun k => k ≤ Y) w4)
        clear o4
        clear HR3 HO3 HD3 HY3
        obtain ⟨y0, y1, y2, y3, yz⟩ := boxN4 HY4.out
        go_upto_region 21 with (fail)
        clear y0 y1 y2 y3 yz
        have hy5 := heap_set (o := 3) HY4.out (.slice ar4 lr4 cr4)
        have hy5 : (w4.setCell ⟨Y, 3, none⟩ (.slice ar4 lr4 cr4)).heap[Y]? = some (.cells #[.int .u8 4, .string ⟨s1.toArray⟩, .slice none 0 0, .slice ar4 lr4 cr4] 34 (0, 0)) := by simpa using hy5
        have os5 : Only (fun k => k = Y) w4 (w4.setCell ⟨Y, 3, none⟩ (.slice ar4 lr4 cr4)) := (Only.refl (fun k => k = Y) _).setCell (p := ⟨Y, 3, none⟩) (.inl rfl) _
        obtain ⟨w5, hw5⟩ : ∃ x, w4.setCell ⟨Y, 3, none⟩ (.slice ar4 lr4 cr4) = x := ⟨_, rfl⟩
        rw [hw5] at hy5 os5
        rw [hw5]
        clear hw5
        have HY5 := Lib.hid hy5; have HD5 := Lib.hid (HD4.out.only os5 (fun k hk e => by omega)); have HJ5 := HJ4
        have hr5 := (os5.block B (Array.getElem?_eq_some_iff.1 HR4.out).1 (by omega)).trans HR4.out
        have HR5 := Lib.hid hr5
        have HC4_5 := Lib.hid (HC4_4.out.trans' os5 (fun q hq e => by have e : q = Y := e; show q ≤ Y; omega))
        have HO5 := Lib.hid (HO4.out.trans' os5 (fun q hq e => by have e : q = Y := e; have := HWB.out; omega))
        clear hr5
        clear hy5 os5 HJ4
        clear HR4 HO4 HD4 HY4 HC4_4
        obtain ⟨y0, y1, y2, y3, yz⟩ := boxN4 HY5.out
        go_wp2_with ((refine wpList_store_box (o := ⟨none, _, _, _, _, _⟩) rfl 34 (.tmp 2) (.tmp 67) (by rfl) B [.int .u8 0, .string ⟨#[]⟩, .slice none 0 0, .slice none 0 0] [.int .u8 4, .string ⟨s1.toArray⟩, .slice none 0 0, .slice ar4 lr4 cr4] (by rfl) (by rfl) HR5.out (by rfl) (by kernel_rfl) (by intro u hu; simp at hu; rcases hu with rfl | rfl | rfl | rfl <;> rfl) ?_; intro w9 k1 k2))
        clear y0 y1 y2 y3 yz
        obtain ⟨y0, y1, y2, y3, -⟩ := boxN4 k1
        obtain ⟨hdn, hxs⟩ := HJ5.out.done
        have hd9 : Sd w9 b all total.unit := by rw [← hdn]; exact HD5.out.only k2 (fun k hk e => by omega)
        have o4 := HC4_5.out.trans' k2 (fun q hq e => by have e : q = B := e; show q ≤ Y; omega)
        have hag : ∀ x q, total = .ok x q → aggP B tdC w9 x (.agg #[.int .u8 4, .string ⟨s1.toArray⟩, .slice none 0 0, .slice ar4 lr4 cr4]) := fun x q e => by
          obtain ⟨⟨⟨⟨u, n1⟩, u2⟩, l1⟩, rfl, ⟨⟨⟨-, k1⟩, -⟩, k3⟩⟩ := hxs x q e
          subst k1
          exact ⟨_, rfl, CellsAt.lit rfl (CellsAt.lit rfl (CellsAt.cons (CellAt.nilRow _ _ _) (CellsAt.cons (CellAt.weaken (G' := fun q => B ≤ q) (fun q _ h => by have h : Y < q := h; show B ≤ q; omega) _ _ (CellAt.only o4 (fun k hk e => by have hk : Y < k := hk; have e : k ≤ Y := e; omega) _ _ k3)) (CellsAt.nil _ _))))⟩
        exact bodyPost_ret (v := .agg #[.int .u8 4, .string ⟨s1.toArray⟩, .slice none 0 0, .slice ar4 lr4 cr4]) (by simp [results, Tryz.results9, go_sem, y0, y1, y2, y3]) rfl (HPP.out w9 _ ⟨4, s1, none, 0, 0, ar4, lr4, cr4, rfl⟩ hd9 hag (HO5.out.trans' k2 (fun q hq e => by have := HWB.out; omega)))
    · -- input
      have hix : ∀ wx : World, (Instr.index 64 (.agg #[.string ⟨#[116, 121, 112, 101]⟩, .string ⟨#[105, 110, 116, 101, 114, 102, 97, 99, 101]⟩, .string ⟨#[117, 110, 105, 111, 110]⟩, .string ⟨#[101, 110, 117, 109]⟩, .string ⟨#[105, 110, 112, 117, 116]⟩]) (.int .i64 4)).run Tryz.prog wx = .ok (.string ⟨#[105, 110, 112, 117, 116]⟩) wx := fun _ => rfl
      have J := Lib.hid (stake_any b all σi wInput wr HSD.out)
      unfold tookS at J
      obtain ⟨bb, hb⟩ : ∃ x, tst σi (isT wInput) = x := ⟨_, rfl⟩
      rw [hb] at J
      have HBT := Lib.hid hb; clear hb
      cases bb
      · rw [if_neg (by decide)] at J
        go_wp2_with fail
        refine J.out.mono ?_
        rintro e w1 ⟨rfl, hd, o4⟩
        have hi : OneI w b B all σi 5 w1 := ⟨hd, (o4.block B (Array.getElem?_eq_some_iff.1 HRR.out).1 (by omega)).trans HRR.out, HON.out.trans o4, fun i hi => by
          rcases Nat.lt_or_ge i 4 with h | h
          · exact HWW.out i h
          · obtain rfl : i = 4 := by omega
            exact HBT.out⟩
        have HI2 := Lib.hid hi; clear hi hd o4 J
        go_wp2_with fail
        go_roundw
        case rel => first | exact ⟨5, rfl, by omega, HI2⟩ | ((repeat apply Exists.intro); exact ⟨rfl, by omega, HI2⟩)
        case measure => simp [natV]
      · rw [if_pos rfl] at J
        go_wp2_with fail
        refine J.out.mono ?_
        rintro e w0 ⟨rfl, hd, o4⟩
        obtain ⟨σ0, hσ⟩ : ∃ z, adv σi = z := ⟨_, rfl⟩
        have ht := HYES.out 4 (by omega) HWW.out HBT.out
        rw [hσ] at hd ht
        have hj := Jn.start σ0 (tdK 4)
        rw [← ht] at hj
        have hj : Jn (τ := Unit) total σ0 (fun _ => True) (fun _ => td5) := hj
        unfold td5 at hj
        have HJ0 := Lib.hid hj; have HD0 := Lib.hid hd; have HR0 := Lib.hid ((o4.block B (Array.getElem?_eq_some_iff.1 HRR.out).1 (by omega)).trans HRR.out); have HO0 := Lib.hid (HON.out.trans o4)
        clear hj hd ht hσ o4 J HBT HSD HRR HON HWW HYES HNO
        have hmf : ∀ (fn : Fn) (first cap : Array Value) (w : World), (Instr.makeFunc fn first cap).run Tryz.prog w = .ok (.func fn first cap) w := fun _ _ _ _ => rfl
        have J := Lib.hid (sname_any b all σ0 w0 HD0.out)
        go_wp2_with fail
        refine J.out.mono ?_
        rintro e w1 ⟨v, rfl, ⟨s1, rfl⟩, hd, hv, o4⟩
        have hv : ∀ x q, (σ0.bind fun _ => nameP) = .ok x q → s1 = x := fun x q e => str_inj (hv x q e)
        obtain ⟨σ1, hσ⟩ : ∃ z, (σ0.bind fun _ => nameP).unit = z := ⟨_, rfl⟩
        rw [hσ] at hd
        have hj := Jn.call (fun x => s1 = x) HJ0.out hσ.symm hv
        have HJ1 := Lib.hid hj; have HD1 := Lib.hid hd
        clear hj hd hv hσ HJ0 J
        have hr1 := (o4.block B (Array.getElem?_eq_some_iff.1 HR0.out).1 (by omega)).trans HR0.out
        have HR1 := Lib.hid hr1
        have HO1 := Lib.hid (HO0.out.trans' o4 (fun q hq e => by exact e))
        clear hr1
        clear o4
        clear HR0 HO0 HD0
        have hsz2 : B < w1.heap.size := (Array.getElem?_eq_some_iff.1 HR1.out).1
        obtain ⟨Y, hY⟩ : ∃ Y, w1.heap.size = Y := ⟨_, rfl⟩
        obtain ⟨w2, hw2⟩ : ∃ x, w1.alloc (.cells #[.int .u8 5, .string ⟨s1.toArray⟩, .slice none 0 0, .slice none 0 0] 34) = x := ⟨_, rfl⟩
        have hy2 : w2.heap[Y]? = some (.cells #[.int .u8 5, .string ⟨s1.toArray⟩, .slice none 0 0, .slice none 0 0] 34 (0, 0)) := by rw [← hw2, ← hY]; exact heap_new _ _
        have hr2 : w2.heap[B]? = some (.cells #[.int .u8 0, .string ⟨#[]⟩, .slice none 0 0, .slice none 0 0] 34 (0, 0)) := by rw [← hw2]; exact heap_old HR1.out _
        have oa2 : Only (fun _ => False) w1 w2 := by rw [← hw2]; exact (Only.refl _ _).alloc _
        rw [hY] at hsz2
        have HY2 := Lib.hid hy2; have HR2 := Lib.hid hr2; have HD2 := Lib.hid (HD1.out.still oa2); have HO2 := Lib.hid (HO1.out.trans' oa2 (fun q _ e => e.elim)); have HW2 := Lib.hid hw2; have HYY := Lib.hid hY; have HJ2 := HJ1
        clear hy2 hr2 hw2 hY oa2 HR1 HD1 HO1 HJ1
        go_upto_region 7 with (fail)
        rw [HYY.out, HW2.out]
        clear HYY HW2
        obtain ⟨y0, y1, y2, y3, yz⟩ := boxN4 HY2.out
        go_upto_region 19 with (fail)
        clear y0 y1 y2 y3 yz
        have J := Lib.hid (swant_any b all σ1 [123] w2 HD2.out)
        go_wp2_with fail
        refine J.out.mono ?_
        rintro e w3 ⟨rfl, hd, o4⟩
        have hv : ∀ x q, (σ1.bind fun _ => wantP [123]) = .ok x q → True := fun _ _ _ => trivial
        obtain ⟨σ3, hσ⟩ : ∃ z, (σ1.bind fun _ => wantP [123]).unit = z := ⟨_, rfl⟩
        rw [hσ] at hd
        have hj := Jn.call (fun _ => True) HJ2.out hσ.symm hv
        have HJ3 := Lib.hid hj; have HD3 := Lib.hid hd
        clear hj hd hv hσ HJ2 J
        have hr3 := (o4.block B (Array.getElem?_eq_some_iff.1 HR2.out).1 (by omega)).trans HR2.out
        have HR3 := Lib.hid hr3
        have hy3 := (o4.block Y (Array.getElem?_eq_some_iff.1 HY2.out).1 (by omega)).trans HY2.out
        have HY3 := Lib.hid hy3
        have HO3 := Lib.hid (HO2.out.trans' o4 (fun q hq e => by exact e))
        clear hr3 hy3
        clear o4
        clear HR2 HO2 HD2 HY2
        have J := Lib.hid (smanyI_any inP inP_takes b all σ3 [125] w3 HD3.out (fun wx σ' _ hd => sinput_any b all σ' wx hd))
        go_wp2_with fail
        refine J.out.mono ?_
        rintro e w4 ⟨v, rfl, ⟨ar4, lr4, cr4, rfl⟩, hd, hv, o4⟩
        have hsy : Y < w3.heap.size := (Array.getElem?_eq_some_iff.1 HY3.out).1
        have hv : ∀ x q, (σ3.bind fun _ => (fun r => manyP inP [125] (r.length + 1) [] r)) = .ok x q → CellAt w4 (fun q => Y < q) (.row 11 (x.map inC)) (.slice ar4 lr4 cr4) := fun x q e => CellAt.weaken (fun q _ h => by have h : w3.heap.size ≤ q := h; show Y < q; omega) _ _ (hv x q e)
        obtain ⟨σ4, hσ⟩ : ∃ z, (σ3.bind fun _ => (fun r => manyP inP [125] (r.length + 1) [] r)).unit = z := ⟨_, rfl⟩
        rw [hσ] at hd
        have hj := Jn.call (fun x => CellAt w4 (fun q => Y < q) (.row 11 (x.map inC)) (.slice ar4 lr4 cr4)) HJ3.out hσ.symm hv
        have HJ4 := Lib.hid hj; have HD4 := Lib.hid hd
        clear hj hd hv hσ HJ3 J hsy
        have hr4 := (o4.block B (Array.getElem?_eq_some_iff.1 HR3.out).1 (by omega)).trans HR3.out
        have HR4 := Lib.hid hr4
        have hy4 := (o4.block Y (Array.getElem?_eq_some_iff.1 HY3.out).1 (by omega)).trans HY3.out
        have HY4 := Lib.hid hy4
        have HO4 := Lib.hid (HO3.out.trans' o4 (fun q hq e => by exact e))
        clear hr4 hy4
        have HC4_4 := Lib.hid (Only.refl (fun k => k ≤ Y) w4)
        clear o4
        clear HR3 HO3 HD3 HY3
        obtain ⟨y0, y1, y2, y3, yz⟩ := boxN4 HY4.out
        go_upto_region 21 with (fail)
        clear y0 y1 y2 y3 yz
        have hy5 := heap_set (o := 2) HY4.out (.slice ar4 lr4 cr4)
        have hy5 : (w4.setCell ⟨Y, 2, none⟩ (.slice ar4 lr4 cr4)).heap[Y]? = some (.cells #[.int .u8 5, .string ⟨s1.toArray⟩, .slice ar4 lr4 cr4, .slice none 0 0] 34 (0, 0)) := by simpa using hy5
        have os5 : Only (fun k => k = Y) w4 (w4.setCell ⟨Y, 2, none⟩ (.slice ar4 lr4 cr4)) := (Only.refl (fun k => k = Y) _).setCell (p := ⟨Y, 2, none⟩) (.inl rfl) _
        obtain ⟨w5, hw5⟩ : ∃ x, w4.setCell ⟨Y, 2, none⟩ (.slice ar4 lr4 cr4) = x := ⟨_, rfl⟩
        rw [hw5] at hy5 os5
        rw [hw5]
        clear hw5
        have HY5 := Lib.hid hy5; have HD5 := Lib.hid (HD4.out.only os5 (fun k hk e => by omega)); have HJ5 := HJ4
        have hr5 := (os5.block B (Array.getElem?_eq_some_iff.1 HR4.out).1 (by omega)).trans HR4.out
        have HR5 := Lib.hid hr5
        have HC4_5 := Lib.hid (HC4_4.out.trans' os5 (fun q hq e => by have e : q = Y := e; show q ≤ Y; omega))
        have HO5 := Lib.hid (HO4.out.trans' os5 (fun q hq e => by have e : q = Y := e; have := HWB.out; omega))
        clear hr5
        clear hy5 os5 HJ4
        clear HR4 HO4 HD4 HY4 HC4_4
        obtain ⟨y0, y1, y2, y3, yz⟩ := boxN4 HY5.out
        go_wp2_with ((refine wpList_store_box (o := ⟨none, _, _, _, _, _⟩) rfl 34 (.tmp 2) (.tmp 67) (by rfl) B [.int .u8 0, .string ⟨#[]⟩, .slice none 0 0, .slice none 0 0] [.int .u8 5, .string ⟨s1.toArray⟩, .slice ar4 lr4 cr4, .slice none 0 0] (by rfl) (by rfl) HR5.out (by rfl) (by kernel_rfl) (by intro u hu; simp at hu; rcases hu with rfl | rfl | rfl | rfl <;> rfl) ?_; intro w9 k1 k2))
        clear y0 y1 y2 y3 yz
        obtain ⟨y0, y1, y2, y3, -⟩ := boxN4 k1
        obtain ⟨hdn, hxs⟩ := HJ5.out.done
        have hd9 : Sd w9 b all total.unit := by rw [← hdn]; exact HD5.out.only k2 (fun k hk e => by omega)
        have o4 := HC4_5.out.trans' k2 (fun q hq e => by have e : q = B := e; show q ≤ Y; omega)
        have hag : ∀ x q, total = .ok x q → aggP B tdC w9 x (.agg #[.int .u8 5, .string ⟨s1.toArray⟩, .slice ar4 lr4 cr4, .slice none 0 0]) := fun x q e => by
          obtain ⟨⟨⟨⟨u, n1⟩, u2⟩, l1⟩, rfl, ⟨⟨⟨-, k1⟩, -⟩, k3⟩⟩ := hxs x q e
          subst k1
          exact ⟨_, rfl, CellsAt.lit rfl (CellsAt.lit rfl (CellsAt.cons (by rw [List.map_map]; exact CellAt.weaken (G' := fun q => B ≤ q) (fun q _ h => by have h : Y < q := h; show B ≤ q; omega) _ _ (CellAt.only o4 (fun k hk e => by have hk : Y < k := hk; have e : k ≤ Y := e; omega) _ _ k3)) (CellsAt.cons (CellAt.nilRow _ _ _) (CellsAt.nil _ _))))⟩
        exact bodyPost_ret (v := .agg #[.int .u8 5, .string ⟨s1.toArray⟩, .slice ar4 lr4 cr4, .slice none 0 0]) (by simp [results, Tryz.results9, go_sem, y0, y1, y2, y3]) rfl (HPP.out w9 _ ⟨5, s1, ar4, lr4, cr4, none, 0, 0, rfl⟩ hd9 hag (HO5.out.trans' k2 (fun q hq e => by have := HWB.out; omega)))
end Go.Proofs.YtgephneppgcnlaaGreatDoor
namespace Go.Proofs.YtgephneppgcnlaaGreatDoor
open Go Go.RowKit
set_option linter.unusedVariables false
set_option linter.unusedSimpArgs false

/-- What sdl.Types hands back. -/
def TysRes (w : World) (p : TR1) (e : Ending) (w' : World) : Prop := match p with
  | .ok l => ∃ a c, e = .returned (.tuple #[.slice a l.length c, .int .i64 0, .int .i64 0]) ∧ CellAt w' (fun q => w.heap.size ≤ q) (.row 4 (l.map tdC)) (.slice a l.length c) ∧ Only (fun _ => False) w w'
  | .bad x c => e = .returned (.tuple #[.slice none 0 0, .int .i64 (x : Int), .int .i64 (c : Int)]) ∧ Only (fun _ => False) w w'
theorem infoTd : (Tryz.prog.info? 34).map (fun i => (i.zero, i.size, i.bytes)) = some (some (.agg #[.int .u8 0, .string ByteArray.empty, .slice none 0 0, .slice none 0 0]), 4, 72) := by kernel_rfl
def tysE (total : PR (List TD)) : TR1 := match total with | .ok d _ => .ok d | .bad a e => .bad a e
/-- Ahead of a round: n declarations stand in the row. -/
def TYI (w : World) (b : Nat) (all : List Tok) (total : PR (List TD)) (v : Value) (more : Bool) (wr : World) : Prop :=
  ∃ (σ : PR Unit) (n : Nat) (xs : List Value), Sd wr b all σ ∧ wr.ownsRow (b + 1) 34 4 v n xs ∧ n ≤ 1000000 ∧ Only (fun _ => False) w wr ∧ (match σ with
    | .ok _ r => n + r.length ≤ 1000000 ∧ ∃ acc : List TD, acc.length = n ∧ Chk wr (fun q => b + 1 ≤ q ∧ v.ownBlock ≠ some q ∧ q < wr.heap.size) 4 (acc.map tdC) xs ∧ (if more = true then total = tysF (r.length + 1) acc r else total = .ok acc r)
    | .bad a e => total = .bad a e)
theorem Sd.tok {w : World} {b : Nat} {all : List Tok} {σ : PR Unit} (h : Sd w b all σ) : ∃ (g off c N : Nat) (t : Tok) (i e : Nat), w.cell? ⟨b, 0, none⟩ = some (.slice (some ⟨g, off, none⟩) N c) ∧ w.cell? ⟨b, 1, none⟩ = some (.int .i64 (i : Int)) ∧ w.cell? ⟨b, 2, none⟩ = some (.int .i64 (e : Int)) ∧ (∀ o, w.frozen? ⟨b, o, none⟩ = false) ∧ i < N ∧ N ≤ c ∧ N ≤ 1000000 ∧ c ≤ 9223372036854775807 ∧ w.cell? ⟨g, off + i * 4, none⟩ = some (.int .u8 (t.kind : Int)) ∧ w.cell? ⟨g, off + i * 4 + 3, none⟩ = some (.int .i64 (t.at_ : Int)) ∧ ((e = 0 ∧ ∃ r, σ = .ok () (t :: r)) ∨ (e ≠ 0 ∧ σ = .bad t.at_ e)) := by
  obtain ⟨r, e, h, hs⟩ := h
  obtain ⟨g, off, c, N, t, r', rfl, i, c0, c1, c2, fz, hi, hc, hN, hcm, hgb, a1, a2, a3, a4⟩ := h.next
  refine ⟨g, off, c, N, t, i, e, c0, c1, c2, fz, hi, hc, hN, hcm, a1, a4, ?_⟩
  by_cases he : e = 0
  · subst he; exact .inl ⟨rfl, r', hs⟩
  · exact .inr ⟨he, by rw [hs, st_bad he]; rfl⟩
set_option maxRecDepth 100000 in
set_option maxHeartbeats 40000000 in
theorem stypes_any (s : List UInt8) (w : World) (hs : s.length ≤ maxLen) :
    Calls Tryz.prog 5 #[.string ⟨s.toArray⟩] w (TysRes w (tysP s)) := by
  obtain ⟨Q, hQ⟩ : ∃ Q, TysRes w (tysP s) = Q := ⟨_, rfl⟩
  rw [hQ]
  have J := Lib.hid (tokens_any ⟨s.toArray⟩ w hs)
  rw [show (⟨s.toArray⟩ : ByteArray).data.toList = s from rfl] at J
  have hdp : tysP s = match toks s with | .bad a e => .bad a e | .ok ts => tysE (tysF (ts.length + 1) [] ts) := by
    unfold tysP
    cases toks s with
    | bad a e => rfl
    | ok ts =>
      show (match tysF (ts.length + 1) [] ts with | .ok d _ => TR1.ok d | .bad a e => .bad a e) = tysE (tysF (ts.length + 1) [] ts)
      generalize tysF (ts.length + 1) [] ts = z
      cases z <;> rfl
  cases ht : toks s with
  | bad a c =>
    rw [ht] at J hdp
    have hc := toks_bad ht
    have hne : ((c : Int) != 0) = true := by simp; omega
    have HP := Lib.hid (show ∀ w', Only (fun _ => False) w w' → Q (.returned (.tuple #[.slice none 0 0, .int .i64 (a : Int), .int .i64 (c : Int)])) w' from fun w' h => by rw [← hQ, hdp]; exact ⟨rfl, h⟩)
    clear hQ ht hs hdp hc
    go_enter Tryz.func5, Tryz.ntmps5
    go_wp2_with fail
    refine J.out.mono ?_
    rintro e w1 ⟨rfl, o1⟩
    have HE := Lib.hid (HP.out w1 o1); clear o1
    go_wp2_with fail
    first
      | exact HE.out
      | (go_ret; exact HE.out)
  | ok ts =>
    rw [ht] at J hdp
    obtain ⟨he, hl⟩ := toks_end ht
    obtain ⟨total, hR⟩ : ∃ R, tysF (ts.length + 1) [] ts = R := ⟨_, rfl⟩
    simp only [hR] at hdp
    have hfo : ∀ d rest w' a c, total = .ok d rest → CellAt w' (fun q => w.heap.size ≤ q) (.row 4 (d.map tdC)) (.slice a d.length c) → Only (fun _ => False) w w' → Q (.returned (.tuple #[.slice a d.length c, .int .i64 0, .int .i64 0])) w' := fun d rest w' a c h1 h2 h3 => by
      rw [← hQ, hdp, h1]; exact ⟨a, c, rfl, h2, h3⟩
    have hfb : ∀ a c w', total = .bad a c → Only (fun _ => False) w w' → Q (.returned (.tuple #[.slice none 0 0, .int .i64 (a : Int), .int .i64 (c : Int)])) w' := fun a c w' h1 h3 => by
      rw [← hQ, hdp, h1]; exact ⟨rfl, h3⟩
    have FO := Lib.hid hfo; have FB := Lib.hid hfb; have HTE := Lib.hid he; have HTL := Lib.hid hl; have HR := Lib.hid hR
    clear hQ ht hs he hl hR hdp hfo hfb
    go_enter Tryz.func5, Tryz.ntmps5
    go_wp2_with fail
    refine J.out.mono ?_
    rintro e w1 ⟨v, rfl, hv, o1⟩
    have hpos : 0 < ts.length := by have h1 := HTE.out; cases ts with | nil => exact h1.elim | cons t u => simp
    obtain ⟨g, cg, rfl, hgB, hgz, -⟩ := own_range hv hpos
    have htr := TRow.of_own hv hpos
    obtain ⟨b, hb⟩ : ∃ b, w1.heap.size = b := ⟨_, rfl⟩
    obtain ⟨w2, hw2⟩ : ∃ x, w1.alloc (.cells #[.slice (some ⟨g, 0, none⟩) ts.length cg, .int .i64 0, .int .i64 0] 48) = x := ⟨_, rfl⟩
    have oa2 : Only (fun _ => False) w1 w2 := by rw [← hw2]; exact (Only.refl _ w1).alloc _
    have hb2 : w2.heap[b]? = some (.cells #[.slice (some ⟨g, 0, none⟩) ts.length cg, .int .i64 0, .int .i64 0] 48 (0, 0)) := by rw [← hw2, ← hb]; exact heap_new _ _
    have hwb : w.heap.size ≤ b := by have := o1.size; omega
    have hrd : Sd w2 b ts (.ok () ts) := ⟨ts, 0, ⟨⟨g, 0, cg, 0, hb2, htr.still oa2, by omega, rfl, by simp⟩, HTE.out, by have := HTL.out; omega⟩, rfl⟩
    have hi : TYI w b ts total (.slice none 0 0) true w2 := ⟨.ok () ts, 0, [], hrd, own_nil _ _ _ _, by omega, o1.trans oa2, by have := HTL.out; omega, [], rfl, rfl, HR.out.symm⟩
    have HI := Lib.hid hi; have HB := Lib.hid hb; have HW2 := Lib.hid hw2
    clear hi hb hw2 oa2 hb2 hrd htr hv o1 hgB hgz hpos J HTE HTL HR
    go_wp2_with fail
    rw [HB.out, HW2.out]
    clear HB HW2
    go_loopw [9, 10] (fun v9 v10 wr => ∃ more : Bool, v10 = .bool more ∧ Hid (TYI w b ts total v9 more wr)) (fun _ _ wr => muS wr b ts)
    case atStart => exact ⟨true, rfl, HI⟩
    case round =>
      obtain ⟨more, rfl, hrel⟩ := hrel
      obtain ⟨σ, n, xs, hsd, hown, hn, hon, hsm⟩ := hrel.out
      obtain ⟨aL, cL, eL, fL1, fL2, fL3⟩ := own_form hown
      subst eL
      have hblt := hsd.lt
      have HOW := Lib.hid hown; have HON := Lib.hid hon; have HSD := Lib.hid hsd; have HSM := Lib.hid hsm; have HFL := Lib.hid fL3; have HN := Lib.hid hn
      clear hown hon hsd hrel HI fL3 hn fL2
      -- what is told in the end
      have hcell : ∀ acc : List TD, acc.length = n → Chk wr (fun q => b + 1 ≤ q ∧ (Value.slice aL n cL).ownBlock ≠ some q ∧ q < wr.heap.size) 4 (acc.map tdC) xs → CellAt wr (fun q => w.heap.size ≤ q) (.row 4 (acc.map tdC)) (.slice aL acc.length cL) := fun acc hl hc => by
        rw [hl]
        exact CellAt.weaken (fun q _ h => by have h : b + 1 ≤ q := h; show w.heap.size ≤ q; omega) _ _ (OwnRow.cell (B := b + 1) (T := 34) ⟨xs, by rw [List.length_map, hl]; exact HOW.out, hc⟩)
      have HCELL := Lib.hid hcell
      clear hcell
      obtain ⟨g, off, c, N, t, i, e, c0, c1, c2, fz, hi, hc, hNN, hcm, a1, a4, hcase⟩ := HSD.out.tok
      have hiN : (i : Int) < (N : Int) := by omega
      rcases hcase with ⟨rfl, r, rfl⟩ | ⟨he, rfl⟩
      · cases more with
        | false =>
          obtain ⟨-, acc, h1, h2, h3⟩ := hsm
          rw [if_neg (by decide)] at h3
          have hend := FO.out acc _ wr aL cL h3 (HCELL.out acc h1 h2) HON.out
          rw [h1] at hend
          have HEND := Lib.hid hend
          clear hend h1 h2 h3 HSM HOW HCELL a4
          go_wp2_with fail
          clear c0 c1 c2 fz a1
          first
            | exact HEND.out
            | (go_ret; exact HEND.out)
        | true =>
          obtain ⟨hfew, acc, hacc, hchk, htot⟩ := hsm
          rw [if_pos rfl] at htot
          have hmu := muS_ok HSD.out
          have J := Lib.hid (sone_any b ts _ wr HSD.out)
          have HMU := Lib.hid hmu; have HFEW := Lib.hid hfew; have HACC := Lib.hid hacc; have HCHK := Lib.hid hchk; have HTOT := Lib.hid htot
          clear hmu hfew hacc hchk htot HSM HSD a1 a4
          go_wp2_with fail
          refine J.out.mono ?_
          rintro ee w2 ⟨v, rfl, ⟨k, s0, a0, l0, e0, a1, l1, e1, rfl⟩, hd2, hv, o2⟩
          clear c0 c1 c2 fz
          have hg := heap_new w2 (.cells #[.int .u8 (k : Int), .string ⟨s0.toArray⟩, .slice a0 l0 e0, .slice a1 l1 e1] 34)
          have hg2 : w2.heap.size = (w2.alloc (.cells #[.int .u8 (k : Int), .string ⟨s0.toArray⟩, .slice a0 l0 e0, .slice a1 l1 e1] 34)).heap.size - 1 := by simp
          have on := (Only.refl (fun _ => False) w2).alloc (.cells #[.int .u8 (k : Int), .string ⟨s0.toArray⟩, .slice a0 l0 e0, .slice a1 l1 e1] 34)
          have hs2 : wr.heap.size ≤ w2.heap.size := o2.size
          have p1 := own_only' (own_only' HOW.out o2 (fun k hk e => by have := (HFL.out k hk).1; omega)) on (fun _ _ h => h)
          have p2 := (HCHK.out.only o2 (fun k hk e => by have := hk.1; omega)).only on (fun _ _ h => h)
          have hd3 := hd2.still on
          have ho3 : Only (fun _ => False) w (w2.alloc (.cells #[.int .u8 (k : Int), .string ⟨s0.toArray⟩, .slice a0 l0 e0, .slice a1 l1 e1] 34)) := (HON.out.trans' o2 (fun q hq h => by omega)).trans on
          have hv3 : ∀ x q, tdP (t :: r) = .ok x q → CellsAt (w2.alloc (.cells #[.int .u8 (k : Int), .string ⟨s0.toArray⟩, .slice a0 l0 e0, .slice a1 l1 e1] 34)) (fun q => wr.heap.size ≤ q) (tdC x) [.int .u8 (k : Int), .string ⟨s0.toArray⟩, .slice a0 l0 e0, .slice a1 l1 e1] := fun x q e => CellsAt.only on (fun _ _ h => h) _ _ (agg_cells (hv x q e))
          obtain ⟨G, hG⟩ : ∃ G, w2.heap.size = G := ⟨_, rfl⟩
          rw [hG] at hg hs2 hg2
          obtain ⟨w3, hw3⟩ : ∃ w3, w2.alloc (.cells #[.int .u8 (k : Int), .string ⟨s0.toArray⟩, .slice a0 l0 e0, .slice a1 l1 e1] 34) = w3 := ⟨_, rfl⟩
          rw [hw3] at hg on p1 p2 hd3 ho3 hg2 hv3
          have hys : ∀ j u, ([.int .u8 (k : Int), .string ⟨s0.toArray⟩, .slice a0 l0 e0, .slice a1 l1 e1] : List Value)[j]? = some u → w3.cell? ((⟨G, 0, none⟩ : Addr).add j) = some u := fun j u hu => by rw [addr_add]; exact range_of_block hg j u hu
          have hone : ∀ u ∈ ([.int .u8 (k : Int), .string ⟨s0.toArray⟩, .slice a0 l0 e0, .slice a1 l1 e1] : List Value), u.oneCell' = true := by intro u hu; simp at hu; rcases hu with rfl | rfl | rfl | rfl <;> rfl
          have HP1 := Lib.hid p1; have HP2 := Lib.hid p2; have HYS := Lib.hid hys; have HONE := Lib.hid hone; have HV3 := Lib.hid hv3; have HD3 := Lib.hid hd3; have HO3 := Lib.hid ho3; have HG := Lib.hid hG; have HW3 := Lib.hid hw3; have HS2 := Lib.hid hs2; have HG2 := Lib.hid hg2
          clear p1 p2 hys hone hv3 hd3 ho3 hG hw3 hs2 hg2 hg on hv hd2 o2 J HOW HCHK HCELL
          go_wp2_with ((rw [HG.out, HW3.out]; refine wpList_append_own2 (o := ⟨some 48, _, _, _, _, _⟩) rfl (.tmp 44) (.tmp 47) 23 34 (by rfl) Tryz.underlying23 infoTd rfl (by decide) (b + 1) (.slice aL n cL) n 1 1 xs [.int .u8 (k : Int), .string ⟨s0.toArray⟩, .slice a0 l0 e0, .slice a1 l1 e1] ⟨G, 0, none⟩ (by rfl) (by rfl) HP1.out (by rfl) HYS.out HONE.out (by have := HN.out; have := HFEW.out; simp at this; unfold maxLen; omega) (by have := HN.out; omega) (by have := HG2.out; have := HS2.out; omega) ?_; intro v' w9 q1 q2 q3))
          have hfl2 := HFL.out
          obtain ⟨aL', cL', eL', gL1, gL2, gL3⟩ := own_form q1
          subst eL'
          have hqo : Only (fun _ => False) w w9 := HO3.out.trans' q2 (fun q hq h => by have := (hfl2 q h).1; omega)
          have hd9 := HD3.out.only q2 (fun k hk h => by have := (hfl2 k h).1; omega)
          have hchk9 : ∀ x q, tdP (t :: r) = .ok x q → Chk w9 (fun q => b + 1 ≤ q ∧ (Value.slice aL' (n + 1) cL').ownBlock ≠ some q ∧ q < w9.heap.size) 4 ((acc ++ [x]).map tdC) (xs ++ [.int .u8 (k : Int), .string ⟨s0.toArray⟩, .slice a0 l0 e0, .slice a1 l1 e1]) := fun x q e => by
            have hx : CellsAt w3 (fun q => b + 1 ≤ q ∧ (Value.slice aL n cL).ownBlock ≠ some q ∧ q < w3.heap.size) (tdC x) [.int .u8 (k : Int), .string ⟨s0.toArray⟩, .slice a0 l0 e0, .slice a1 l1 e1] := CellsAt.weaken (fun q hq h => by have h1 : wr.heap.size ≤ q := h; exact ⟨by omega, fun hvv => (by have := (hfl2 q hvv).2; omega), hq⟩) _ _ (HV3.out x q e)
            have := ((Chk.snoc rfl hx (HP2.out.weaken (fun q hq h => ⟨h.1, h.2.1, hq⟩))).only q2 (fun k hk => hk.2.1)).weaken (G' := fun q => b + 1 ≤ q ∧ (Value.slice aL' (n + 1) cL').ownBlock ≠ some q ∧ q < w9.heap.size) (fun q hq h => ⟨h.1, fun e2 => by
              rcases q3 q e2 with h2 | h2
              · exact h.2.1 h2
              · have := h.2.2; omega, hq⟩)
            rw [List.map_append, List.map_singleton]; exact this
          have HC9 := Lib.hid hchk9; have HQO := Lib.hid hqo; have HQ1 := Lib.hid q1; have HD9 := Lib.hid hd9
          clear hchk9 hqo hd9 q1 q2 q3 gL2 gL3 gL1 hfl2 HP1 HP2 HYS HONE HV3 HFL HD3 HO3
          obtain ⟨g', off', c', N', t', i', e', c0, c1, c2, fz, hi', hc', hNN', hcm', a1', a4', hcase'⟩ := HD9.out.tok
          have hiN' : (i' : Int) < (N' : Int) := by omega
          have hnext : ∀ wz, Only (fun _ => False) w9 wz → TYI w b ts total (.slice aL' (n + 1) cL') ((t'.kind : Int) != 0) wz ∧ muS wz b ts < muS wr b ts := fun wz oz => by
            have htot := HTOT.out
            rw [tysF] at htot
            have hmu := HMU.out
            have hch := HC9.out
            have hfew := HFEW.out
            simp only [List.length_cons] at hfew
            have hd9 := HD9.out
            have hownz := own_only' HQ1.out oz (fun _ _ h => h)
            cases hq : tdP (t :: r) with
            | bad a d =>
              have hσ : ((PR.ok () (t :: r) : PR Unit).bind fun _ => tdP).unit = .bad a d := by show (tdP (t :: r)).unit = _; rw [hq]; rfl
              rw [hσ] at hd9
              rw [hq] at htot
              refine ⟨⟨.bad a d, n + 1, _, hd9.still oz, hownz, by omega, HQO.out.trans oz, htot⟩, ?_⟩
              rw [hmu, muS_bad (hd9.still oz)]; omega
            | ok x r2 =>
              have hσ : ((PR.ok () (t :: r) : PR Unit).bind fun _ => tdP).unit = .ok () r2 := by show (tdP (t :: r)).unit = _; rw [hq]; rfl
              have hlt := tdP_takes (t :: r) x r2 hq
              simp only [List.length_cons] at hlt
              rw [hσ] at hd9 hcase'
              rw [hq] at htot
              have htot : total = if isK 0 r2 then PR.ok (acc ++ [x]) r2 else tysF (t :: r).length (acc ++ [x]) r2 := htot
              have hk2 : isK 0 r2 = !((t'.kind : Int) != 0) := by
                rcases hcase' with ⟨_, r3, hr3⟩ | ⟨_, hbad⟩
                · injection hr3 with _ hr3; subst hr3
                  show decide (t'.kind = 0) = _
                  by_cases hk : t'.kind = 0
                  · rw [hk]; rfl
                  · rw [decide_eq_false hk]; simp; omega
                · cases hbad
              refine ⟨⟨.ok () r2, n + 1, _, hd9.still oz, hownz, by omega, HQO.out.trans oz, ⟨by omega, acc ++ [x], by rw [List.length_append, List.length_singleton, HACC.out], ((hch x r2 hq).only oz (fun _ _ h => h)).weaken (fun q hq h => ⟨h.1, h.2.1, hq⟩), ?_⟩⟩, ?_⟩
              · rw [hk2] at htot
                cases hk3 : ((t'.kind : Int) != 0) with
                | true =>
                  rw [hk3] at htot
                  rw [if_pos rfl, htot, if_neg (by decide)]
                  exact tysF_fuel _ _ _ _ (by simp only [List.length_cons]; omega) (by omega)
                | false =>
                  rw [hk3] at htot
                  rw [if_neg (by decide), htot, if_pos (by decide)]
              · rw [hmu, muS_ok (hd9.still oz)]; simp only [List.length_cons]; omega
          have HNX := Lib.hid hnext
          clear hnext hcase' HC9 HQO HQ1 HD9 HTOT a4' hblt c2 fz
          obtain ⟨k', hk'⟩ : ∃ z : Bool, ((t'.kind : Int) != 0) = z := ⟨_, rfl⟩
          rw [hk'] at HNX
          go_upto_region 8 with (fail)
          go_quiet (fail)
          clear c0 c1 a1' hk'
          obtain ⟨hz1, hz2⟩ := HNX.out _ ((Only.refl (fun _ => False) w9).drewN nq)
          have HI2 := Lib.hid hz1; have HLT := Lib.hid hz2
          clear hz1 hz2 HNX
          go_wp2_with fail
          go_roundw
          case rel => first | exact ⟨k', rfl, HI2⟩ | ((repeat apply Exists.intro); refine ⟨?_, rfl⟩; exact ⟨k', rfl, HI2⟩)
          case measure => exact HLT.out
      · have t1 : ((e : Int) == 0) = false := by simp; omega
        have t2 : ((e : Int) != 0) = true := by simp; omega
        have htot : total = .bad t.at_ e := hsm
        have hend := fun wz oz => FB.out _ _ wz htot (HON.out.trans oz)
        have HEND := Lib.hid hend
        clear hend hsm htot HSM HOW HCELL he a1
        cases more with
        | false =>
          go_upto_region 11 with (fail)
          go_quiet (fail)
          clear c0 c1 c2 fz a4
          have HE := Lib.hid (HEND.out _ ((Only.refl (fun _ => False) wr).drewN nq))
          go_wp2_with fail
          first
            | exact HE.out
            | (go_ret; exact HE.out)
        | true =>
          go_upto_region 11 with (fail)
          go_quiet (fail)
          clear c0 c1 c2 fz a4
          have HE := Lib.hid (HEND.out _ ((Only.refl (fun _ => False) wr).drewN nq))
          go_wp2_with fail
          first
            | exact HE.out
            | (go_ret; exact HE.out)
end Go.Proofs.YtgephneppgcnlaaGreatDoor
namespace Go.Proofs.YtgephneppgcnlaaGreatDoor
open Go Go.RowKit
set_option linter.unusedVariables false
set_option linter.unusedSimpArgs false

theorem in_cells {w : World} {G : Nat → Prop} {o : IN} {vs : List Value} (h : CellsAt w G (inC o) vs) : ∃ gv ts us, vs = .string ⟨o.name.toArray⟩ :: gv :: (ts ++ .bool o.has :: us) ∧ CellAt w G (.row 11 []) gv ∧ CellsAt w G (trC o.t) ts ∧ CellsAt w G (valC o.v) us := by
  obtain ⟨v, us, rfl, h1, h⟩ := cells_cons h
  obtain ⟨gv, us, rfl, hg, h⟩ := cells_cons h
  obtain ⟨ts, us, rfl, h2, h⟩ := CellsAt.split h
  obtain ⟨v3, us, rfl, h3, h4⟩ := cells_cons h
  have e1 := lit_eq h1; have e3 := lit_eq h3
  subst e1; subst e3
  exact ⟨_, _, _, rfl, hg, h2, h4⟩
theorem fd_cells {w : World} {G : Nat → Prop} {o : FD} {vs : List Value} (h : CellsAt w G (fdC o) vs) : ∃ gv ts us, vs = .string ⟨o.name.toArray⟩ :: gv :: (ts ++ .bool o.has :: us) ∧ CellAt w G (.row 11 (o.args.map inC)) gv ∧ CellsAt w G (trC o.t) ts ∧ CellsAt w G (valC o.v) us := by
  obtain ⟨v, us, rfl, h1, h⟩ := cells_cons h
  obtain ⟨gv, us, rfl, hg, h⟩ := cells_cons h
  obtain ⟨ts, us, rfl, h2, h⟩ := CellsAt.split h
  obtain ⟨v3, us, rfl, h3, h4⟩ := cells_cons h
  have e1 := lit_eq h1; have e3 := lit_eq h3
  subst e1; subst e3
  exact ⟨_, _, _, rfl, hg, h2, h4⟩
theorem td_cells {w : World} {G : Nat → Prop} {o : TD} {vs : List Value} (h : CellsAt w G (tdC o) vs) : ∃ fv nv, vs = [.int .u8 (o.kind : Int), .string ⟨o.name.toArray⟩, fv, nv] ∧ CellAt w G (.row 11 (o.fields.map fdC)) fv ∧ CellAt w G (.row 1 (o.names.map fun s => [strC s])) nv := by
  obtain ⟨v1, us, rfl, h1, h⟩ := cells_cons h
  obtain ⟨v2, us, rfl, h2, h⟩ := cells_cons h
  obtain ⟨v3, us, rfl, h3, h⟩ := cells_cons h
  obtain ⟨v4, us, rfl, h4, h⟩ := cells_cons h
  have := cells_nil h; subst this
  have e1 := lit_eq h1; have e2 := lit_eq h2
  subst e1; subst e2
  exact ⟨_, _, rfl, h3, h4⟩
end Go.Proofs.YtgephneppgcnlaaGreatDoor
namespace Go.Proofs.YtgephneppgcnlaaGreatDoor
open Go Go.RowKit
set_option linter.unusedVariables false
set_option linter.unusedSimpArgs false

/-- type A { b(c: Int = 3): [B!]! } -/
def awk7T : List UInt8 := [116, 121, 112, 101, 32, 65, 32, 123, 32, 98, 40, 99, 58, 32, 73, 110, 116, 32, 61, 32, 51, 41, 58, 32, 91, 66, 33, 93, 33, 32, 125]
def awk7I : IN := ⟨[99], .nm [73, 110, 116] false, true, .mk 1 3 [] [] []⟩
def awk7F : FD := ⟨[98], [awk7I], .ls (.nm [66] true) true, false, VT.zero⟩
def awk7D : TD := ⟨1, [65], [awk7F], []⟩
theorem awk7_doc : tysP awk7T = .ok [awk7D] := by rfl
set_option maxRecDepth 100000 in
set_option maxHeartbeats 4000000 in
theorem awake07 (w : World) : Calls Tryz.prog 4 #[] w fun e w' => e = .returned (.bool true) ∧ Only (fun _ => False) w w' := by
  have T := Lib.hid (stypes_any awk7T w (by unfold maxLen; decide))
  rw [awk7_doc] at T
  go_enter Tryz.func4, Tryz.ntmps4
  go_wp2_with fail
  refine T.out.mono ?_
  rintro e w1 ⟨a, c, rfl, hd, ho⟩
  simp only [List.length_singleton] at hd ⊢
  obtain ⟨b1, f1, d1, vs, e, hm1, hm2, -, hr1, hc1⟩ := row_at hd 0 (by decide)
  injection e with e1 e2 e3; subst e1; subst e3; clear e2
  have hc1 : CellsAt _ _ (tdC awk7D) vs := hc1
  obtain ⟨fv, nv, rfl, hf, -⟩ := td_cells hc1
  obtain ⟨b2, f2, c3, us, rfl, hm3, hm4, -, hr2, hc2⟩ := row_at hf 0 (by decide)
  have hc2 : CellsAt _ _ (fdC awk7F) us := hc2
  obtain ⟨gv, ts, us, rfl, hg, ht, -⟩ := fd_cells hc2
  obtain ⟨b3, f3, c4, xs, rfl, hm5, hm6, -, hr3, hc3⟩ := row_at hg 0 (by decide)
  have hc3 : CellsAt _ _ (inC awk7I) xs := hc3
  obtain ⟨gv2, ts2, us2, rfl, -, ht2, hv2⟩ := in_cells hc3
  obtain ⟨tv, rfl, hof⟩ := tr_ls_cells ht
  obtain ⟨s2, a2, l2, c2', bb2, rfl⟩ := trC_form2 ht2
  obtain ⟨kv, lv, rfl, -, -⟩ := val_cells hv2
  obtain ⟨b4, f4, c5, ys, rfl, hm7, hm8, -, hr4, hc4⟩ := row_at hof 0 (by decide)
  have hc4 : CellsAt _ _ (trC (.nm [66] true)) ys := hc4
  have p1 : w1.cell? ⟨b1, f1, none⟩ = some (.int .u8 1) := by have := hr1 0 _ rfl; simpa [awk7D, awk7F, awk7I] using this
  have p2 : w1.cell? ⟨b1, f1 + 2, none⟩ = some (.slice (some ⟨b2, f2, none⟩) 1 c3) := by have := hr1 2 _ rfl; simpa [awk7D, awk7F, awk7I] using this
  have p3 : w1.cell? ⟨b2, f2 + 1, none⟩ = some (.slice (some ⟨b3, f3, none⟩) 1 c4) := by have := hr2 1 _ rfl; simpa [awk7D, awk7F, awk7I] using this
  have p4 : w1.cell? ⟨b2, f2 + 3, none⟩ = some (.slice (some ⟨b4, f4, none⟩) 1 c5) := by have := hr2 3 _ rfl; simpa [awk7D, awk7F, awk7I] using this
  have p5 : w1.cell? ⟨b2, f2 + 4, none⟩ = some (.bool true) := by have := hr2 4 _ rfl; simpa [awk7D, awk7F, awk7I] using this
  have p6 : w1.cell? ⟨b3, f3 + 7, none⟩ = some (.int .i64 3) := by have := hr3 7 _ rfl; simpa [awk7D, awk7F, awk7I] using this
  have p7 : w1.cell? ⟨b4, f4, none⟩ = some (.string ⟨#[66]⟩) := by
    rcases tr_cells hc4 with rfl | ⟨_, _, rfl⟩ <;> (have := hr4 0 _ rfl; simpa [awk7D, awk7F, awk7I] using this)
  have HO := Lib.hid ho
  have p4' : w1.cell? ⟨b2, f2 + 2 + 1, none⟩ = some (.slice (some ⟨b4, f4, none⟩) 1 c5) := p4
  have p5' : w1.cell? ⟨b2, f2 + 2 + 2, none⟩ = some (.bool true) := p5
  have p6' : w1.cell? ⟨b3, f3 + 6 + 1, none⟩ = some (.int .i64 3) := p6
  have hm1 : 1 ≤ c := hm1
  have hm3 : 1 ≤ c3 := hm3
  have hm5 : 1 ≤ c4 := hm5
  have hm7 : 1 ≤ c5 := hm7
  clear hd ho T hc1 hc2 hc3 hc4 hf hg ht ht2 hv2 hof hr1 hr2 hr3 hr4
  go_wp2_with fail
  clear p1 p2 p3 p4 p5 p6 p7 p4' p5' p6'
  go_ret
  exact ⟨rfl, HO.out⟩
end Go.Proofs.YtgephneppgcnlaaGreatDoor
