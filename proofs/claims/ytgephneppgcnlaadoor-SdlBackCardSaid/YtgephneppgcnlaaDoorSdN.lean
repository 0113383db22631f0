/- sdl.reader: a plain name; names with a sign between. -/
import Derived.Test.YtgephneppgcnlaaDoorSdL
namespace Go.Proofs.YtgephneppgcnlaaDoor
open Go Go.RowKit
set_option linter.unusedVariables false
set_option linter.unusedSimpArgs false

set_option maxRecDepth 100000 in
theorem splain_any (b : Nat) (all : List Tok) (σ : PR Unit) (w : World) (h : Sd w b all σ) :
    Calls Tryd.prog 69 #[.pointer (some ⟨b, 0, none⟩)] w (SAns w b all σ (fun _ (s : List UInt8) v => v = .string ⟨s.toArray⟩) strJ plainP) := by
  have I : ∀ wx, Only (fun _ => False) w wx → ∀ s, Calls Tryd.prog 89 #[.pointer (some ⟨b, 0, none⟩), .string ⟨s.toArray⟩] wx fun e w' => e = .returned (.bool (tst σ (isT s))) ∧ Only (fun _ => False) wx w' := fun wx o s => sis_any b all σ s wx (h.still o)
  obtain ⟨b1, hb1⟩ : ∃ x, tst σ (isT wTrue) = x := ⟨_, rfl⟩
  obtain ⟨b2, hb2⟩ : ∃ x, tst σ (isT wFalse) = x := ⟨_, rfl⟩
  obtain ⟨b3, hb3⟩ : ∃ x, tst σ (isT wNull) = x := ⟨_, rfl⟩
  have hyes : b1 = true ∨ b2 = true ∨ b3 = true → (σ.bind fun _ => plainP) = ((flt σ 4).bind fun _ _ => (.bad 0 0 : PR (List UInt8))) := fun hb => by
    cases σ with
    | ok u r =>
      show plainP r = .bad (atT r) 4
      unfold plainP
      have h1 : isT wTrue r = b1 := hb1
      have h2 : isT wFalse r = b2 := hb2
      have h3 : isT wNull r = b3 := hb3
      rw [h1, h2, h3]
      rcases hb with hb | hb | hb <;> subst hb <;> simp
    | bad a c => rfl
  have hno : b1 = false → b2 = false → b3 = false → (σ.bind fun _ => plainP) = σ.bind fun _ => nameP := fun e1 e2 e3 => by
    cases σ with
    | ok u r =>
      show plainP r = nameP r
      unfold plainP
      have h1 : isT wTrue r = b1 := hb1
      have h2 : isT wFalse r = b2 := hb2
      have h3 : isT wNull r = b3 := hb3
      rw [h1, h2, h3, e1, e2, e3, if_neg (by decide)]
    | bad a c => rfl
  have J1 := Lib.hid (fun wx o => hb1 ▸ I wx o wTrue); have J2 := Lib.hid (fun wx o => hb2 ▸ I wx o wFalse); have J3 := Lib.hid (fun wx o => hb3 ▸ I wx o wNull)
  have H := Lib.hid h
  -- a fault, then a name
  have HB : b1 = true ∨ b2 = true ∨ b3 = true → ∀ wx, Only (fun _ => False) w wx → ∀ w2, Sd w2 b all (flt σ 4) → Only (fun k => k = b) wx w2 → ∀ e w3, SAns w2 b all (flt σ 4) (fun _ (s : List UInt8) v => v = .string ⟨s.toArray⟩) strJ nameP e w3 → SAns w b all σ (fun _ (s : List UInt8) v => v = .string ⟨s.toArray⟩) strJ plainP e w3 := fun hb wx o w2 h2 o2 e w3 ⟨v, q1, q2, q3, q4, q5⟩ => by
    have hh := hyes hb
    have hbad : ∃ a c, flt σ 4 = .bad a c := by cases σ with | ok u r => exact ⟨_, _, rfl⟩ | bad a c => exact ⟨_, _, rfl⟩
    obtain ⟨a, c, hbad⟩ := hbad
    rw [hbad] at hh q3
    refine ⟨v, q1, q2, ?_, fun x q e => ?_, ((o.mono (T := fun k => k = b) (fun _ _ h => h.elim)).trans o2).trans q5⟩
    · rw [hh]; exact q3
    · rw [hh] at e; cases e
  have HN : b1 = false → b2 = false → b3 = false → ∀ wx, Only (fun _ => False) w wx → ∀ e w3, SAns wx b all σ (fun _ (s : List UInt8) v => v = .string ⟨s.toArray⟩) strJ nameP e w3 → SAns w b all σ (fun _ (s : List UInt8) v => v = .string ⟨s.toArray⟩) strJ plainP e w3 := fun e1 e2 e3 wx o e w3 ⟨v, q1, q2, q3, q4, q5⟩ => by
    have hh := hno e1 e2 e3
    refine ⟨v, q1, q2, ?_, fun x q e => q4 x q (by rw [← hh]; exact e), (o.mono (T := fun k => k = b) (fun _ _ h => h.elim)).trans q5⟩
    rw [hh]; exact q3
  have HBB := Lib.hid HB; have HNN := Lib.hid HN
  clear HB HN hyes hno I hb1 hb2 hb3 h
  generalize (SAns w b all σ (fun _ (s : List UInt8) v => v = .string ⟨s.toArray⟩) strJ plainP) = Q at *
  cases b1
  · cases b2
    · cases b3
      · go_enter Tryd.func69, Tryd.ntmps69
        go_wp2_with fail
        refine (J1.out w (Only.refl _ _)).mono ?_
        rintro e w1 ⟨rfl, o1⟩
        have O1 := Lib.hid o1; clear o1
        go_wp2_with fail
        refine (J2.out w1 O1.out).mono ?_
        rintro e w2 ⟨rfl, o2⟩
        have O2 := Lib.hid (O1.out.trans o2); clear o2
        go_wp2_with fail
        refine (J3.out w2 O2.out).mono ?_
        rintro e w3 ⟨rfl, o3⟩
        have O3 := Lib.hid (O2.out.trans o3); clear o3
        go_wp2_with fail
        refine (sname_any b all σ w3 (H.out.still O3.out)).mono ?_
        intro e w4 hs
        have HS := Lib.hid (HNN.out (by simp) (by simp) (by simp) w3 O3.out _ _ hs)
        obtain ⟨v, rfl, ⟨s4, rfl⟩, -⟩ := hs
        go_wp2_with fail
        first
          | exact HS.out
          | (go_ret; exact HS.out)
      · go_enter Tryd.func69, Tryd.ntmps69
        go_wp2_with fail
        refine (J1.out w (Only.refl _ _)).mono ?_
        rintro e w1 ⟨rfl, o1⟩
        have O1 := Lib.hid o1; clear o1
        go_wp2_with fail
        refine (J2.out w1 O1.out).mono ?_
        rintro e w2 ⟨rfl, o2⟩
        have O2 := Lib.hid (O1.out.trans o2); clear o2
        go_wp2_with fail
        refine (J3.out w2 O2.out).mono ?_
        rintro e w3 ⟨rfl, o3⟩
        have O3 := Lib.hid (O2.out.trans o3); clear o3
        go_wp2_with fail
        refine (sfail_any b all σ 4 (by decide) w3 (H.out.still O3.out)).mono ?_
        rintro e w5 ⟨rfl, h5, o5⟩
        have H5 := Lib.hid h5; have O5 := Lib.hid o5; clear h5 o5
        go_wp2_with fail
        refine (sname_any b all _ w5 H5.out).mono ?_
        intro e w4 hs
        have HS := Lib.hid (HBB.out (by simp) w3 O3.out w5 H5.out O5.out _ _ hs)
        obtain ⟨v, rfl, ⟨s4, rfl⟩, -⟩ := hs
        go_wp2_with fail
        first
          | exact HS.out
          | (go_ret; exact HS.out)
    · go_enter Tryd.func69, Tryd.ntmps69
      go_wp2_with fail
      refine (J1.out w (Only.refl _ _)).mono ?_
      rintro e w1 ⟨rfl, o1⟩
      have O1 := Lib.hid o1; clear o1
      go_wp2_with fail
      refine (J2.out w1 O1.out).mono ?_
      rintro e w3 ⟨rfl, o2⟩
      have O3 := Lib.hid (O1.out.trans o2); clear o2
      go_wp2_with fail
      refine (sfail_any b all σ 4 (by decide) w3 (H.out.still O3.out)).mono ?_
      rintro e w5 ⟨rfl, h5, o5⟩
      have H5 := Lib.hid h5; have O5 := Lib.hid o5; clear h5 o5
      go_wp2_with fail
      refine (sname_any b all _ w5 H5.out).mono ?_
      intro e w4 hs
      have HS := Lib.hid (HBB.out (by simp) w3 O3.out w5 H5.out O5.out _ _ hs)
      obtain ⟨v, rfl, ⟨s4, rfl⟩, -⟩ := hs
      go_wp2_with fail
      first
        | exact HS.out
        | (go_ret; exact HS.out)
  · go_enter Tryd.func69, Tryd.ntmps69
    go_wp2_with fail
    refine (J1.out w (Only.refl _ _)).mono ?_
    rintro e w3 ⟨rfl, o1⟩
    have O3 := Lib.hid o1; clear o1
    go_wp2_with fail
    refine (sfail_any b all σ 4 (by decide) w3 (H.out.still O3.out)).mono ?_
    rintro e w5 ⟨rfl, h5, o5⟩
    have H5 := Lib.hid h5; have O5 := Lib.hid o5; clear h5 o5
    go_wp2_with fail
    refine (sname_any b all _ w5 H5.out).mono ?_
    intro e w4 hs
    have HS := Lib.hid (HBB.out (by simp) w3 O3.out w5 H5.out O5.out _ _ hs)
    obtain ⟨v, rfl, ⟨s4, rfl⟩, -⟩ := hs
    go_wp2_with fail
    first
      | exact HS.out
      | (go_ret; exact HS.out)
/-! ### Names with a sign between -/
def NMI (w : World) (b : Nat) (all : List Tok) (sg : List UInt8) (total : PR (List (List UInt8))) (v : Value) (wr : World) : Prop :=
  ∃ (σ : PR Unit) (n : Nat) (xs : List Value), Sd wr b all σ ∧ wr.ownsRow w.heap.size 9 1 v n xs ∧ n ≤ 1000001 ∧ 0 < n ∧ Only (fun k => k = b) w wr ∧ (match σ with
    | .ok _ r => n + r.length ≤ 1000001 ∧ ∃ acc : List (List UInt8), acc.length = n ∧ Chk wr (fun q => w.heap.size ≤ q ∧ v.ownBlock ≠ some q ∧ q < wr.heap.size) 1 (acc.map fun s => [strC s]) xs ∧ total = moreP sg (r.length + 1) acc r
    | .bad a e => total = .bad a e)
theorem own_one {w : World} {B G : Nat} {T : TypeId} {x : Value} (h : w.heap[G]? = some (.cells #[x] T (0, 0))) (hB : B ≤ G) : w.ownsRow B T 1 (.slice (some ⟨G, 0, none⟩) 1 1) 1 [x] := ⟨rfl, .inr ⟨G, 1, #[x], rfl, hB, h, Nat.le_refl _, by unfold maxLen; omega, rfl, rfl⟩⟩
set_option maxRecDepth 100000 in
set_option maxHeartbeats 40000000 in
theorem snames_any (sg : List UInt8) (b : Nat) (all : List Tok) (σ0 : PR Unit) (w : World) (h : Sd w b all σ0) :
    Calls Tryd.prog 67 #[.pointer (some ⟨b, 0, none⟩), .string ⟨sg.toArray⟩] w (SAns w b all σ0 (rowP w.heap.size 1 (fun s => [strC s])) rowJ (namesP sg)) := by
  have hbl := h.lt
  obtain ⟨total, htot⟩ : ∃ x, (σ0.bind fun _ => namesP sg) = x := ⟨_, rfl⟩
  obtain ⟨Q, hQ⟩ : ∃ Q, SAns w b all σ0 (rowP w.heap.size 1 (fun s => [strC s])) rowJ (namesP sg) = Q := ⟨_, rfl⟩
  rw [hQ]
  have fo : ∀ w' (a : Option Addr) (l e : Nat) σ, Sd w' b all σ → σ = total.unit → (∀ x q, total = .ok x q → CellAt w' (fun q => w.heap.size ≤ q) (.row 1 (x.map fun s => [strC s])) (.slice a l e)) → Only (fun k => k = b) w w' → Q (.returned (.slice a l e)) w' := fun w' a l e σ h1 h2 h3 h4 => by
    rw [← hQ]; exact ⟨_, rfl, ⟨a, l, e, rfl⟩, by rw [htot, ← h2]; exact h1, fun x q e => h3 x q (by rw [← htot]; exact e), h4⟩
  have T := Lib.hid (stake_any b all σ0 sg w h)
  unfold tookS at T
  -- what stands behind the first sign
  obtain ⟨σ1, hσ1⟩ : ∃ z, (if tst σ0 (isT sg) = true then adv σ0 else σ0) = z := ⟨_, rfl⟩
  have htot2 : total = σ1.bind fun _ r => (nameP r).bind fun s r1 => moreP sg (r1.length + 1) [s] r1 := by
    rw [← htot, ← hσ1]
    cases σ0 with
    | ok u r =>
      show namesP sg r = _
      unfold namesP
      show _ = (if isT sg r = true then PR.ok () r.tail else PR.ok () r).bind _
      by_cases hb : isT sg r = true
      · rw [if_pos hb, if_pos hb]; rfl
      · rw [if_neg hb, if_neg hb]; rfl
    | bad a c => rfl
  rw [hσ1] at T
  obtain ⟨bb, hbb⟩ : ∃ x, tst σ0 (isT sg) = x := ⟨_, rfl⟩
  rw [hbb] at T
  have FO := Lib.hid fo; have HT2 := Lib.hid htot2
  clear fo hQ htot htot2 h hσ1 hbb
  go_enter Tryd.func67, Tryd.ntmps67
  go_wp2_with fail
  refine T.out.mono ?_
  rintro e w1 ⟨rfl, h1, o1⟩
  have J := Lib.hid (sname_any b all σ1 w1 h1)
  have H1 := Lib.hid h1; have O1 := Lib.hid o1
  clear h1 o1 T
  go_wp2_with fail
  refine J.out.mono ?_
  rintro e w2 ⟨v, rfl, ⟨s1, rfl⟩, hd2, hv, o2⟩
  have hg := heap_new w2 (.cells #[.string ⟨s1.toArray⟩] 9)
  have on := (Only.refl (fun _ => False) w2).alloc (.cells #[.string ⟨s1.toArray⟩] 9)
  obtain ⟨w3, hw3⟩ : ∃ x, w2.alloc (.cells #[.string ⟨s1.toArray⟩] 9) = x := ⟨_, rfl⟩
  obtain ⟨G, hG⟩ : ∃ G, w2.heap.size = G := ⟨_, rfl⟩
  rw [hw3] at hg on
  rw [hG] at hg
  have hGB : w.heap.size ≤ G := by have := O1.out.size; have := o2.size; omega
  have hi : NMI w b all sg total (.slice (some ⟨G, 0, none⟩) 1 1) w3 := by
    refine ⟨_, 1, _, hd2.still on, own_one hg hGB, by omega, by omega, (O1.out.trans o2).trans' on (fun _ _ h => h.elim), ?_⟩
    have h1 := H1.out
    have ht := HT2.out
    cases σ1 with
    | ok u r =>
      have hfew := h1.few
      have ht : total = (nameP r).bind fun s r1 => moreP sg (r1.length + 1) [s] r1 := ht
      show match (nameP r).unit with | .ok _ r => _ | .bad a e => _
      cases hq : nameP r with
      | ok s q =>
        have hs : s1 = s := str_inj (hv s q hq)
        subst hs
        have hl := nameP_len hq
        rw [hq] at ht
        refine ⟨by omega, [s1], rfl, ?_, ht⟩
        exact ⟨[.string ⟨s1.toArray⟩], [], rfl, rfl, CellsAt.lit rfl (CellsAt.nil _ _), rfl⟩
      | bad a c => rw [hq] at ht; exact ht
    | bad a c => exact ht
  have HI := Lib.hid hi; have HG := Lib.hid hG; have HW3 := Lib.hid hw3
  clear hi hg on hw3 hG hGB hd2 hv o2 HT2 H1 O1 J
  go_wp2_with fail
  rw [HG.out, HW3.out]
  clear HG HW3
  go_loopw [5] (fun v5 wr => Hid (NMI w b all sg total v5 wr)) (fun _ wr => muS wr b all)
  case atStart => exact HI
  case round =>
    obtain ⟨σ, n, xs, hsd, hown, hn, hn0, hon, hsm⟩ := hrel.out
    obtain ⟨aL, cL, eL, fL1, fL2, fL3⟩ := own_form hown
    subst eL
    have hbz := hbl
    have T := Lib.hid (stake_any b all σ sg wr hsd)
    unfold tookS at T
    obtain ⟨bb, hbb⟩ : ∃ x, tst σ (isT sg) = x := ⟨_, rfl⟩
    rw [hbb] at T
    have HOW := Lib.hid hown; have HON := Lib.hid hon; have HSD := Lib.hid hsd; have HSM := Lib.hid hsm; have HFL := Lib.hid fL3; have HN := Lib.hid hn; have HBB := Lib.hid hbb
    clear hown hon hsd hrel HI fL3 hn hsm hbb fL2
    cases bb with
    | false =>
      rw [if_neg (by decide)] at T
      go_wp2_with fail
      refine T.out.mono ?_
      rintro e w4 ⟨rfl, hd4, o4⟩
      have hend : Q (.returned (.slice aL n cL)) w4 := by
        have hbb := HBB.out
        have hsm := HSM.out
        refine FO.out _ _ _ _ σ hd4 ?_ (fun x q ht => ?_) (HON.out.trans o4)
        · cases σ with
          | ok u r =>
            obtain ⟨-, acc, -, -, h3⟩ := hsm
            have hbb : isT sg r = false := hbb
            rw [h3, moreP, if_neg (by rw [hbb]; decide)]; rfl
          | bad a d => have hsm : total = .bad a d := hsm; rw [hsm]; rfl
        · cases σ with
          | ok u r =>
            obtain ⟨-, acc, h1, h2, h3⟩ := hsm
            have hbb : isT sg r = false := hbb
            rw [h3, moreP, if_neg (by rw [hbb]; decide)] at ht; injection ht with ht _; subst ht
            have hrow : OwnRow w4 w.heap.size 9 1 (.slice aL n cL) (acc.map fun s => [strC s]) := OwnRow.only (w := wr) ⟨xs, by rw [List.length_map, h1]; exact HOW.out, h2⟩ o4 (fun k h1 h2 e => by have e : k = b := e; omega)
            exact CellAt.weaken (fun q _ h => h) _ _ hrow.cell |> fun h => by have := h; simpa [h1] using this
          | bad a d => have hsm : total = .bad a d := hsm; rw [hsm] at ht; cases ht
      have HEND := Lib.hid hend
      clear hend hd4 o4 HSM HBB HOW
      go_wp2_with fail
      first
        | exact HEND.out
        | (go_ret; exact HEND.out)
    | true =>
      rw [if_pos rfl] at T
      obtain ⟨r, hr⟩ : ∃ r, σ = .ok () r := by
        have := HBB.out
        cases σ with
        | ok u r => exact ⟨r, rfl⟩
        | bad a c => cases this
      subst hr
      have hbr : isT sg r = true := HBB.out
      have hmu := muS_ok HSD.out
      obtain ⟨hfew, acc, hacc, hchk, htot⟩ := HSM.out
      rw [moreP, if_pos hbr] at htot
      have htl := isT_len hbr
      have HMU := Lib.hid hmu; have HFEW := Lib.hid hfew; have HACC := Lib.hid hacc; have HCHK := Lib.hid hchk; have HTOT := Lib.hid htot; have HTL := Lib.hid htl
      have HGL := Lib.hid HON.out.size
      clear hmu hfew hacc hchk htot HSM HSD HBB hbr htl
      go_wp2_with fail
      refine T.out.mono ?_
      rintro e w4 ⟨rfl, hd4, o4⟩
      have hd4 : Sd w4 b all (.ok () r.tail) := hd4
      have J := Lib.hid (sname_any b all _ w4 hd4)
      have O4 := Lib.hid o4; clear o4 hd4 T
      go_wp2_with fail
      refine J.out.mono ?_
      rintro ee w2 ⟨v, rfl, ⟨s0, rfl⟩, hd2, hv, o2'⟩
      have o2 := O4.out.trans o2'
      have hg := heap_new w2 (.cells #[.string ⟨s0.toArray⟩] 9)
      have hg2 : w2.heap.size = (w2.alloc (.cells #[.string ⟨s0.toArray⟩] 9)).heap.size - 1 := by simp
      have on := (Only.refl (fun _ => False) w2).alloc (.cells #[.string ⟨s0.toArray⟩] 9)
      have hs2 : wr.heap.size ≤ w2.heap.size := o2.size
      have p1 := own_only' (own_only' HOW.out o2 (fun k hk e => by have := (HFL.out k hk).1; have := HGL.out; omega)) on (fun _ _ h => h)
      have p2 := (HCHK.out.only o2 (fun k hk e => by have := hk.1; have := HGL.out; omega)).only on (fun _ _ h => h)
      have hd3 := hd2.still on
      have ho3 := (HON.out.trans o2).trans' on (fun _ _ h => h.elim)
      have hv3 : ∀ x q, nameP r.tail = .ok x q → s0 = x := fun x q e => str_inj (hv x q e)
      obtain ⟨G, hG⟩ : ∃ G, w2.heap.size = G := ⟨_, rfl⟩
      rw [hG] at hg hs2 hg2
      obtain ⟨w3, hw3⟩ : ∃ w3, w2.alloc (.cells #[.string ⟨s0.toArray⟩] 9) = w3 := ⟨_, rfl⟩
      rw [hw3] at hg on p1 p2 hd3 ho3 hg2
      have hys : ∀ j u, ([.string ⟨s0.toArray⟩] : List Value)[j]? = some u → w3.cell? ((⟨G, 0, none⟩ : Addr).add j) = some u := fun j u hu => by rw [addr_add]; exact range_of_block hg j u hu
      have hone : ∀ u ∈ ([.string ⟨s0.toArray⟩] : List Value), u.oneCell' = true := by intro u hu; simp at hu; rcases hu with rfl; rfl
      have HP1 := Lib.hid p1; have HP2 := Lib.hid p2; have HYS := Lib.hid hys; have HONE := Lib.hid hone; have HV3 := Lib.hid hv3; have HD3 := Lib.hid hd3; have HO3 := Lib.hid ho3; have HG := Lib.hid hG; have HW3 := Lib.hid hw3; have HS2 := Lib.hid hs2; have HG2 := Lib.hid hg2
      clear p1 p2 hys hone hv3 hd3 ho3 hG hw3 hs2 hg2 hg on hv hd2 o2 o2' J HOW HCHK O4
      go_wp2_with ((rw [HG.out, HW3.out]; refine wpList_append_own2 (o := ⟨some 19, _, _, _, _, _⟩) rfl (.tmp 15) (.tmp 18) 35 9 (by rfl) Tryd.underlying35 infoStr rfl (by decide) w.heap.size (.slice aL n cL) n 1 1 xs [.string ⟨s0.toArray⟩] ⟨G, 0, none⟩ (by rfl) (by rfl) HP1.out (by rfl) HYS.out HONE.out (by have := HN.out; unfold maxLen; omega) (by have := HN.out; omega) (by have := HG2.out; have := HS2.out; have := HGL.out; omega) ?_; intro v' w9 q1 q2 q3))
      have hfl2 := HFL.out
      obtain ⟨aL', cL', eL', gL1, gL2, gL3⟩ := own_form q1
      subst eL'
      have hqo : Only (fun k => k = b) w w9 := HO3.out.trans' q2 (fun q hq h => by have := (hfl2 q h).1; omega)
      have hd9 := HD3.out.only q2 (fun k hk h => by have := (hfl2 k h).1; omega)
      have hi : NMI w b all sg total (.slice aL' (n + 1) cL') w9 ∧ muS w9 b all < muS wr b all := by
        have htot := HTOT.out
        have hmu := HMU.out
        have hfew := HFEW.out
        have htl := HTL.out
        have hchk9 : ∀ x q, nameP r.tail = .ok x q → Chk w9 (fun q => w.heap.size ≤ q ∧ (Value.slice aL' (n + 1) cL').ownBlock ≠ some q ∧ q < w9.heap.size) 1 ((acc ++ [x]).map fun s => [strC s]) (xs ++ [.string ⟨s0.toArray⟩]) := fun x q e => by
          have hx : CellsAt w3 (fun q => w.heap.size ≤ q ∧ (Value.slice aL n cL).ownBlock ≠ some q ∧ q < wr.heap.size) [strC x] [.string ⟨s0.toArray⟩] := by rw [HV3.out x q e]; exact CellsAt.lit rfl (CellsAt.nil _ _)
          have := ((Chk.snoc rfl hx HP2.out).only q2 (fun k hk => hk.2.1)).weaken (G' := fun q => w.heap.size ≤ q ∧ (Value.slice aL' (n + 1) cL').ownBlock ≠ some q ∧ q < w9.heap.size) (fun q hq h => ⟨h.1, fun e2 => by
            rcases q3 q e2 with h2 | h2
            · exact h.2.1 h2
            · have := h.2.2; have := HG2.out; have := HS2.out; omega, hq⟩)
          rw [List.map_append, List.map_singleton]; exact this
        cases hq : nameP r.tail with
        | bad a d =>
          have hσ : ((PR.ok () r.tail : PR Unit).bind fun _ => nameP).unit = .bad a d := by show (nameP r.tail).unit = _; rw [hq]; rfl
          rw [hσ] at hd9
          rw [hq] at htot
          refine ⟨⟨.bad a d, n + 1, _, hd9, q1, by omega, by omega, hqo, htot⟩, ?_⟩
          rw [hmu, muS_bad hd9]; omega
        | ok x r2 =>
          have hσ : ((PR.ok () r.tail : PR Unit).bind fun _ => nameP).unit = .ok () r2 := by show (nameP r.tail).unit = _; rw [hq]; rfl
          rw [hσ] at hd9
          have hl := nameP_len hq
          rw [hq] at htot
          have htot : total = moreP sg r.length (acc ++ [x]) r2 := htot
          refine ⟨⟨.ok () r2, n + 1, _, hd9, q1, by omega, by omega, hqo, ⟨by omega, acc ++ [x], by rw [List.length_append, List.length_singleton, HACC.out], hchk9 x r2 hq, by rw [htot]; exact moreP_fuel sg _ _ _ _ (by omega) (by omega)⟩⟩, ?_⟩
          rw [hmu, muS_ok hd9]; omega
      have HI2 := Lib.hid hi.1; have HLT := Lib.hid hi.2
      clear hi hd9 hqo q1 q2 q3 gL1 gL2 gL3 hfl2 HP1 HP2 HYS HONE HV3 HFL HD3 HO3 HTOT
      go_wp2_with fail
      go_roundw
      case rel => first | exact HI2 | ((repeat apply Exists.intro); exact HI2)
      case measure => exact HLT.out
end Go.Proofs.YtgephneppgcnlaaDoor
