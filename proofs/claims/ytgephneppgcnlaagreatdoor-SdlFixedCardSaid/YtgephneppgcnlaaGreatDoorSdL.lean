/- sdl.many: things up to a sign, at least one. -/
import Derived.Test.YtgephneppgcnlaaGreatDoorSdM
namespace Go.Proofs.YtgephneppgcnlaaGreatDoor
open Go Go.RowKit
set_option linter.unusedVariables false
set_option linter.unusedSimpArgs false

/-- How many tokens a reader without a fault has yet, and one more; 0 behind a fault. -/
def muS (w : World) (b : Nat) (all : List Tok) : Nat := match w.cell? ⟨b, 2, none⟩ with
  | some (.int _ e) => if e = 0 then (match w.cell? ⟨b, 1, none⟩ with | some (.int _ i) => all.length - i.toNat + 1 | _ => 0) else 0
  | _ => 0
theorem muS_ok {w : World} {b : Nat} {all r : List Tok} (h : Sd w b all (.ok () r)) : muS w b all = r.length + 1 := by
  obtain ⟨r', e, h, hs⟩ := h
  by_cases he : e = 0
  · subst he
    rw [st_ok] at hs; injection hs with _ hs; subst hs
    obtain ⟨g, off, c, i, h1, h2, h3, h4, h5⟩ := h.row
    obtain ⟨c0, c1, c2, -⟩ := boxN3 h1
    unfold muS
    rw [c2, c1]
    simp; omega
  · rw [st_bad he] at hs; cases hs
theorem muS_bad {w : World} {b : Nat} {all : List Tok} {a c : Nat} (h : Sd w b all (.bad a c)) : muS w b all = 0 := by
  obtain ⟨r', e, h, hs⟩ := h
  by_cases he : e = 0
  · subst he; cases hs
  · obtain ⟨g, off, c, i, h1, h2, h3, h4, h5⟩ := h.row
    obtain ⟨c0, c1, c2, -⟩ := boxN3 h1
    unfold muS
    rw [c2]
    simp; omega
theorem Sd.few {w : World} {b : Nat} {all r : List Tok} (h : Sd w b all (.ok () r)) : r.length ≤ 1000000 ∧ 0 < r.length := by
  obtain ⟨r', e, h, hs⟩ := h
  by_cases he : e = 0
  · subst he
    rw [st_ok] at hs; injection hs with _ hs; subst hs
    obtain ⟨g, off, c, i, h1, h2, h3, h4, h5⟩ := h.row
    have h8 := h.few
    have h9 := h.ends
    refine ⟨by omega, ?_⟩
    cases r with
    | nil => exact h9.elim
    | cons t u => simp
  · rw [st_bad he] at hs; cases hs
/-- The reader's error, as the walk reads it. -/
theorem Sd.err {w : World} {b : Nat} {all : List Tok} {σ : PR Unit} (h : Sd w b all σ) : ∃ e : Nat, w.cell? ⟨b, 2, none⟩ = some (.int .i64 (e : Int)) ∧ ((∃ r, σ = .ok () r ∧ e = 0) ∨ (∃ a, σ = .bad a e ∧ e ≠ 0)) := by
  obtain ⟨r', e, h, hs⟩ := h
  obtain ⟨g, off, c, i, h1, -⟩ := h.row
  refine ⟨e, (boxN3 h1).2.2.1, ?_⟩
  by_cases he : e = 0
  · subst he; exact .inl ⟨r', hs, rfl⟩
  · exact .inr ⟨_, by rw [hs, st_bad he], he⟩
/-- Ahead of a round: n things stand in the row. -/
def SMI {α : Type} (B : Nat) (N : Nat) (enc : α → List Cell) (p : List Tok → PR α) (c : List UInt8) (total : PR (List α)) (v : Value) (n : Nat) (xs : List Value) (more : Bool) (wr : World) : PR Unit → Prop
  | .ok _ r => n + r.length ≤ 1000000 ∧ ∃ acc : List α, acc.length = n ∧ Chk wr (fun q => B ≤ q ∧ v.ownBlock ≠ some q ∧ q < wr.heap.size) N (acc.map enc) xs ∧ (if more = true then total = manyP p c (r.length + 1) acc r else total = .ok acc r)
  | .bad a e => total = .bad a e
def SMInv {α : Type} (w : World) (b : Nat) (all : List Tok) (T : TypeId) (N : Nat) (enc : α → List Cell) (p : List Tok → PR α) (c : List UInt8) (total : PR (List α)) (v : Value) (more : Bool) (wr : World) : Prop :=
  ∃ (σ : PR Unit) (n : Nat) (xs : List Value), Sd wr b all σ ∧ wr.ownsRow w.heap.size T N v n xs ∧ n ≤ 1000000 ∧ Only (fun k => k = b) w wr ∧ SMI w.heap.size N enc p c total v n xs more wr σ
theorem infoFd : (Tryz.prog.info? 42).map (fun i => (i.zero, i.size, i.bytes)) = some (some (.agg #[.string ByteArray.empty, .slice none 0 0, .string ByteArray.empty, .slice none 0 0, .bool false, .bool false, .int .u8 0, .int .i64 0, .string ByteArray.empty, .slice none 0 0, .slice none 0 0]), 11, 176) := by kernel_rfl
set_option maxRecDepth 100000 in
set_option maxHeartbeats 40000000 in
theorem smanyS_any (p : List Tok → PR (List UInt8)) (hp : Takes p) (b : Nat) (all : List Tok) (σ0 : PR Unit) (c : List UInt8) (w : World) (h : Sd w b all σ0)
    (HF : ∀ wx σ', Only (fun k => k = b) w wx → Sd wx b all σ' → Calls Tryz.prog 24 #[.pointer (some ⟨b, 0, none⟩)] wx (SAns wx b all σ' (fun w' x v => v = .string ⟨x.toArray⟩) strJ p)) :
    Calls Tryz.prog 23 #[.pointer (some ⟨b, 0, none⟩), .string ⟨c.toArray⟩, .func (.func 24) #[.pointer (some ⟨b, 0, none⟩)] #[]] w (SAns w b all σ0 (rowP w.heap.size 1 (fun s => [strC s])) rowJ (fun r => manyP p c (r.length + 1) [] r)) := by
  have hbl := h.lt
  obtain ⟨total, htot⟩ : ∃ x, (σ0.bind fun _ => fun r => manyP p c (r.length + 1) [] r) = x := ⟨_, rfl⟩
  obtain ⟨Q, hQ⟩ : ∃ Q, SAns w b all σ0 (rowP w.heap.size 1 (fun s => [strC s])) rowJ (fun r => manyP p c (r.length + 1) [] r) = Q := ⟨_, rfl⟩
  rw [hQ]
  have fo : ∀ w' (a : Option Addr) (l e : Nat) σ, Sd w' b all σ → σ = total.unit → (∀ x q, total = .ok x q → CellAt w' (fun q => w.heap.size ≤ q) (.row 1 (x.map (fun s => [strC s]))) (.slice a l e)) → Only (fun k => k = b) w w' → Q (.returned (.slice a l e)) w' := fun w' a l e σ h1 h2 h3 h4 => by
    rw [← hQ]; exact ⟨_, rfl, ⟨a, l, e, rfl⟩, by rw [htot, ← h2]; exact h1, fun x q e => h3 x q (by rw [← htot]; exact e), h4⟩
  have hi : SMInv w b all 9 1 (fun s => [strC s]) p c total (.slice none 0 0) true w := by
    refine ⟨σ0, 0, [], h, own_nil _ _ _ _, by omega, Only.refl _ _, ?_⟩
    cases σ0 with
    | ok u r => exact ⟨by have := h.few.1; omega, [], rfl, rfl, htot.symm⟩
    | bad a e => exact htot.symm
  have FO := Lib.hid fo; have HFH := Lib.hid HF; have HI := Lib.hid hi; have HTK := Lib.hid hp
  clear fo HF hi hp hQ htot h
  go_enter Tryz.func23, Tryz.ntmps23
  go_wp2_with fail
  go_loopw [7, 8] (fun v7 v8 wr => ∃ more : Bool, v8 = .bool more ∧ Hid (SMInv w b all 9 1 (fun s => [strC s]) p c total v7 more wr)) (fun _ _ wr => muS wr b all)
  case atStart => exact ⟨true, rfl, HI⟩
  case round =>
    obtain ⟨more, rfl, hrel⟩ := hrel
    obtain ⟨σ, n, xs, hsd, hown, hn, hon, hsm⟩ := hrel.out
    obtain ⟨aL, cL, eL, fL1, fL2, fL3⟩ := own_form hown
    subst eL
    have hbz := hbl
    obtain ⟨e, ce, hσ⟩ := hsd.err
    have hfz : ∀ o, wr.frozen? ⟨b, o, none⟩ = false := by
      obtain ⟨r', e', h1, _⟩ := hsd
      obtain ⟨g, off, c', i, h2, -⟩ := h1.row
      exact (boxN3 h2).2.2.2
    have HOW := Lib.hid hown; have HON := Lib.hid hon; have HSD := Lib.hid hsd; have HSM := Lib.hid hsm; have HFL := Lib.hid fL3; have HN := Lib.hid hn
    have hcell : ∀ rs : List (List Cell), rs.length = n → Chk wr (fun q => w.heap.size ≤ q ∧ (Value.slice aL n cL).ownBlock ≠ some q ∧ q < wr.heap.size) 1 rs xs → CellAt wr (fun q => w.heap.size ≤ q) (.row 1 rs) (.slice aL n cL) := fun rs hl hc => OwnRow.cell (B := w.heap.size) (T := 9) ⟨xs, by rw [hl]; exact hown, hc⟩
    have HCELL := Lib.hid hcell
    clear hcell hown hon hsd hrel HI fL3 hn
    cases more with
    | false =>
      have hend : Q (.returned (.slice aL n cL)) wr := by
        refine FO.out _ _ _ _ σ HSD.out ?_ (fun x q ht => ?_) HON.out
        · cases σ with
          | ok u r =>
            obtain ⟨-, acc, -, -, h3⟩ := hsm
            rw [if_neg (by decide)] at h3; rw [h3]; rfl
          | bad a d => have hsm : total = .bad a d := hsm; rw [hsm]; rfl
        · cases σ with
          | ok u r =>
            obtain ⟨-, acc, h1, h2, h3⟩ := hsm
            rw [if_neg (by decide)] at h3; rw [h3] at ht; injection ht with ht _; subst ht
            exact HCELL.out _ (by rw [List.length_map]; exact h1) h2
          | bad a d => have hsm : total = .bad a d := hsm; rw [hsm] at ht; cases ht
      have HEND := Lib.hid hend
      clear hend hsm hσ HSM HOW HCELL fL2
      go_wp2_with fail
      clear ce hfz
      first
        | exact HEND.out
        | (go_ret; exact HEND.out)
    | true =>
      rcases hσ with ⟨r, rfl, rfl⟩ | ⟨a, rfl, he⟩
      · -- no fault yet
        obtain ⟨hfew, acc, hacc, hchk, htot⟩ := hsm
        rw [if_pos rfl] at htot
        have hmu := muS_ok HSD.out
        have hpos := HSD.out.few.2
        have J := Lib.hid (HFH.out wr (.ok () r) HON.out HSD.out)
        have HMU := Lib.hid hmu; have HFEW := Lib.hid hfew; have HACC := Lib.hid hacc; have HCHK := Lib.hid hchk; have HTOT := Lib.hid htot
        have HGL := Lib.hid HON.out.size
        clear hmu hfew hacc hchk htot HSM HSD fL2
        go_wp2_with fail
        refine J.out.mono ?_
        rintro ee w2 ⟨v, rfl, ⟨s0, rfl⟩, hd2, hv, o2⟩
        clear ce hfz
        have hg := heap_new w2 (.cells #[.string ⟨s0.toArray⟩] 9)
        have hg2 : w2.heap.size = (w2.alloc (.cells #[.string ⟨s0.toArray⟩] 9)).heap.size - 1 := by simp
        have on := (Only.refl (fun _ => False) w2).alloc (.cells #[.string ⟨s0.toArray⟩] 9)
        have hs2 : wr.heap.size ≤ w2.heap.size := o2.size
        have p1 := own_only' (own_only' HOW.out o2 (fun k hk e => by have := (HFL.out k hk).1; have := HGL.out; omega)) on (fun _ _ h => h)
        have p2 := (HCHK.out.only o2 (fun k hk e => by have := hk.1; have := HGL.out; omega)).only on (fun _ _ h => h)
        have hd3 := hd2.still on
        have ho3 := (HON.out.trans o2).trans' on (fun _ _ h => h.elim)
        have hv3 : ∀ x q, p r = .ok x q → CellsAt (w2.alloc (.cells #[.string ⟨s0.toArray⟩] 9)) (fun q => wr.heap.size ≤ q ∧ q < w2.heap.size + 1) ((fun s => [strC s]) x) [.string ⟨s0.toArray⟩] := fun x q e => by
          have := (show CellsAt w2 (fun q => wr.heap.size ≤ q) [strC x] [.string ⟨s0.toArray⟩] from by rw [str_inj (hv x q e)]; exact CellsAt.lit rfl (CellsAt.nil _ _))
          exact CellsAt.weaken (fun q hq h => ⟨h, by rw [World.size_alloc] at hq; exact hq⟩) _ _ (CellsAt.only on (fun _ _ h => h) _ _ this)
        obtain ⟨G, hG⟩ : ∃ G, w2.heap.size = G := ⟨_, rfl⟩
        rw [hG] at hg hs2 hg2 hv3
        obtain ⟨w3, hw3⟩ : ∃ w3, w2.alloc (.cells #[.string ⟨s0.toArray⟩] 9) = w3 := ⟨_, rfl⟩
        rw [hw3] at hg on p1 p2 hd3 ho3 hg2 hv3
        have hys : ∀ j u, ([.string ⟨s0.toArray⟩] : List Value)[j]? = some u → w3.cell? ((⟨G, 0, none⟩ : Addr).add j) = some u := fun j u hu => by rw [addr_add]; exact range_of_block hg j u hu
        have hone : ∀ u ∈ ([.string ⟨s0.toArray⟩] : List Value), u.oneCell' = true := by intro u hu; simp at hu; rcases hu with rfl <;> rfl
        have HP1 := Lib.hid p1; have HP2 := Lib.hid p2; have HYS := Lib.hid hys; have HONE := Lib.hid hone; have HV3 := Lib.hid hv3; have HD3 := Lib.hid hd3; have HO3 := Lib.hid ho3; have HG := Lib.hid hG; have HW3 := Lib.hid hw3; have HS2 := Lib.hid hs2; have HG2 := Lib.hid hg2
        clear p1 p2 hys hone hv3 hd3 ho3 hG hw3 hs2 hg2 hg on hv hd2 o2 J HOW HCHK HCELL
        go_wp2_with ((rw [HG.out, HW3.out]; refine wpList_append_own2 (o := ⟨some 25, _, _, _, _, _⟩) rfl (.tmp 21) (.tmp 24) 32 9 (by rfl) Tryz.underlying32 infoStr rfl (by decide) w.heap.size (.slice aL n cL) n 1 1 xs [.string ⟨s0.toArray⟩] ⟨G, 0, none⟩ (by rfl) (by rfl) HP1.out (by rfl) HYS.out HONE.out (by have := HN.out; unfold maxLen; omega) (by have := HN.out; omega) (by have := HG2.out; have := HS2.out; have := HGL.out; omega) ?_; intro v' w9 q1 q2 q3))
        have hfl2 := HFL.out
        obtain ⟨aL', cL', eL', gL1, gL2, gL3⟩ := own_form q1
        subst eL'
        have hqo : Only (fun k => k = b) w w9 := HO3.out.trans' q2 (fun q hq h => by have := (hfl2 q h).1; omega)
        have hd9 := HD3.out.only q2 (fun k hk h => by have := (hfl2 k h).1; omega)
        have T := Lib.hid (stake_any b all _ c w9 hd9)
        unfold tookS at T
        have hchk9 : ∀ x q, p r = .ok x q → Chk w9 (fun q => w.heap.size ≤ q ∧ (Value.slice aL' (n + 1) cL').ownBlock ≠ some q ∧ q < w9.heap.size) 1 ((acc ++ [x]).map (fun s => [strC s])) (xs ++ [.string ⟨s0.toArray⟩]) := fun x q e => by
          have hx : CellsAt w3 (fun q => w.heap.size ≤ q ∧ (Value.slice aL n cL).ownBlock ≠ some q ∧ q < w3.heap.size) ((fun s => [strC s]) x) [.string ⟨s0.toArray⟩] := CellsAt.weaken (fun q hq h => by have h1 := h.1; have := HGL.out; exact ⟨by omega, fun hvv => (by have := (hfl2 q hvv).2; omega), hq⟩) _ _ (HV3.out x q e)
          have hrow := OwnRow.append (rs := acc.map (fun s => [strC s])) (r := (fun s => [strC s]) x) (v' := .slice aL' (n + 1) cL') (by rw [List.length_map, HACC.out]; exact HP1.out) (HP2.out.weaken (fun q hq h => ⟨h.1, h.2.1, hq⟩)) rfl hx (by rw [List.length_map, HACC.out]; exact q1) q2 q3
          have := ((Chk.snoc rfl hx (HP2.out.weaken (fun q hq h => ⟨h.1, h.2.1, hq⟩))).only q2 (fun k hk => hk.2.1)).weaken (G' := fun q => w.heap.size ≤ q ∧ (Value.slice aL' (n + 1) cL').ownBlock ≠ some q ∧ q < w9.heap.size) (fun q hq h => ⟨h.1, fun e2 => by
            rcases q3 q e2 with h2 | h2
            · exact h.2.1 h2
            · have := h.2.2; omega, hq⟩)
          rw [List.map_append, List.map_singleton]; exact this
        have HC9 := Lib.hid hchk9; have HQO := Lib.hid hqo; have HQ1 := Lib.hid q1
        clear hchk9 hqo hd9 q1 q2 q3 gL2 gL3 gL1 hfl2 HP1 HP2 HYS HONE HV3 HFL HD3 HO3
        obtain ⟨bb, hb⟩ : ∃ x, tst ((PR.ok () r : PR Unit).bind fun _ => p).unit (isT c) = x := ⟨_, rfl⟩
        rw [hb] at T
        have HB := Lib.hid hb; clear hb
        cases bb with
        | true =>
          rw [if_pos rfl] at T
          go_wp2_with fail
          refine T.out.mono ?_
          rintro e w10 ⟨rfl, hd10, o10⟩
          have hi : SMInv w b all 9 1 (fun s => [strC s]) p c total (.slice aL' (n + 1) cL') false w10 ∧ muS w10 b all < muS wr b all := by
            have hb := HB.out
            have htot := HTOT.out
            rw [manyP] at htot
            have hmu := HMU.out
            have hch := HC9.out
            have hfew := HFEW.out
            cases hq : p r with
            | bad a d => rw [show ((PR.ok () r : PR Unit).bind fun _ => p).unit = .bad a d from by show (p r).unit = _; rw [hq]; rfl] at hb; cases hb
            | ok x r2 =>
              have hσ : ((PR.ok () r : PR Unit).bind fun _ => p).unit = .ok () r2 := by show (p r).unit = _; rw [hq]; rfl
              rw [hσ] at hb hd10
              have hb : isT c r2 = true := hb
              have hd10 : Sd w10 b all (.ok () r2.tail) := hd10
              rw [hq] at htot
              have htot : total = if isT c r2 then PR.ok (acc ++ [x]) r2.tail else manyP p c r.length (acc ++ [x]) r2 := htot
              rw [if_pos hb] at htot
              have hlt := HTK.out r x r2 hq
              have htl := isT_len hb
              refine ⟨⟨.ok () r2.tail, n + 1, _, hd10, own_only' HQ1.out o10 (fun k hk e => by have := (own_form HQ1.out).choose_spec; obtain ⟨_, _, _, _, _, hz⟩ := own_form HQ1.out; have := (hz k hk).1; have := hbl; omega), by omega, HQO.out.trans o10, ⟨by omega, acc ++ [x], by rw [List.length_append, List.length_singleton, HACC.out], ((hch x r2 hq).only o10 (fun k hk e => by have := hk.1; omega)).weaken (fun q hq h => ⟨h.1, h.2.1, hq⟩), by rw [if_neg (by decide)]; exact htot⟩⟩, ?_⟩
              rw [hmu, muS_ok hd10]; omega
          have HI2 := Lib.hid hi.1; have HLT := Lib.hid hi.2
          clear hi hd10 o10 T HTOT HC9 HQ1 HB
          go_wp2_with fail
          go_roundw
          case rel => first | exact ⟨false, rfl, HI2⟩ | ((repeat apply Exists.intro); refine ⟨?_, rfl⟩; exact ⟨false, rfl, HI2⟩)
          case measure => exact HLT.out
        | false =>
          rw [if_neg (by decide)] at T
          go_wp2_with fail
          refine T.out.mono ?_
          rintro e w10 ⟨rfl, hd10, o10⟩
          have hi : SMInv w b all 9 1 (fun s => [strC s]) p c total (.slice aL' (n + 1) cL') true w10 ∧ muS w10 b all < muS wr b all := by
            have hb := HB.out
            have htot := HTOT.out
            rw [manyP] at htot
            have hmu := HMU.out
            have hch := HC9.out
            have hfew := HFEW.out
            have hown10 : w10.ownsRow w.heap.size 9 1 (.slice aL' (n + 1) cL') (n + 1) (xs ++ [.string ⟨s0.toArray⟩]) := own_only' HQ1.out o10 (fun k hk e => by obtain ⟨_, _, _, _, _, hz⟩ := own_form HQ1.out; have := (hz k hk).1; omega)
            cases hq : p r with
            | bad a d =>
              have hσ : ((PR.ok () r : PR Unit).bind fun _ => p).unit = .bad a d := by show (p r).unit = _; rw [hq]; rfl
              rw [hσ] at hd10
              rw [hq] at htot
              refine ⟨⟨.bad a d, n + 1, _, hd10, hown10, by omega, HQO.out.trans o10, htot⟩, ?_⟩
              rw [hmu, muS_bad hd10]; omega
            | ok x r2 =>
              have hσ : ((PR.ok () r : PR Unit).bind fun _ => p).unit = .ok () r2 := by show (p r).unit = _; rw [hq]; rfl
              rw [hσ] at hb hd10
              have hb : isT c r2 = false := hb
              rw [hq] at htot
              have htot : total = if isT c r2 then PR.ok (acc ++ [x]) r2.tail else manyP p c r.length (acc ++ [x]) r2 := htot
              rw [if_neg (by rw [hb]; decide)] at htot
              have hlt := HTK.out r x r2 hq
              refine ⟨⟨.ok () r2, n + 1, _, hd10, hown10, by omega, HQO.out.trans o10, ⟨by omega, acc ++ [x], by rw [List.length_append, List.length_singleton, HACC.out], ((hch x r2 hq).only o10 (fun k hk e => by have := hk.1; omega)).weaken (fun q hq h => ⟨h.1, h.2.1, hq⟩), by rw [if_pos rfl, htot]; exact manyP_fuel HTK.out c _ _ _ _ (by omega) (by omega)⟩⟩, ?_⟩
              rw [hmu, muS_ok hd10]; omega
          have HI2 := Lib.hid hi.1; have HLT := Lib.hid hi.2
          clear hi hd10 o10 T HTOT HC9 HQ1 HB
          go_wp2_with fail
          go_roundw
          case rel => first | exact ⟨true, rfl, HI2⟩ | ((repeat apply Exists.intro); refine ⟨?_, rfl⟩; exact ⟨true, rfl, HI2⟩)
          case measure => exact HLT.out
      · -- a fault: the loop ends
        have t1 : ((e : Int) == 0) = false := by simp; omega
        have htot : total = .bad a e := hsm
        have hend : Q (.returned (.slice aL n cL)) wr := FO.out _ _ _ _ (.bad a e) HSD.out (by rw [htot]; rfl) (fun x q ht => by rw [htot] at ht; cases ht) HON.out
        have HEND := Lib.hid hend
        clear hend hsm htot HSM HOW HCELL fL2 he
        go_wp2_with fail
        clear ce hfz
        first
          | exact HEND.out
          | (go_ret; exact HEND.out)
set_option maxRecDepth 100000 in
set_option maxHeartbeats 40000000 in
theorem smanyI_any (p : List Tok → PR IN) (hp : Takes p) (b : Nat) (all : List Tok) (σ0 : PR Unit) (c : List UInt8) (w : World) (h : Sd w b all σ0)
    (HF : ∀ wx σ', Only (fun k => k = b) w wx → Sd wx b all σ' → Calls Tryz.prog 26 #[.pointer (some ⟨b, 0, none⟩)] wx (SAns wx b all σ' (fun w' x v => aggP wx.heap.size inC w' x v) fdJ p)) :
    Calls Tryz.prog 25 #[.pointer (some ⟨b, 0, none⟩), .string ⟨c.toArray⟩, .func (.func 26) #[.pointer (some ⟨b, 0, none⟩)] #[]] w (SAns w b all σ0 (rowP w.heap.size 11 inC) rowJ (fun r => manyP p c (r.length + 1) [] r)) := by
  have hbl := h.lt
  obtain ⟨total, htot⟩ : ∃ x, (σ0.bind fun _ => fun r => manyP p c (r.length + 1) [] r) = x := ⟨_, rfl⟩
  obtain ⟨Q, hQ⟩ : ∃ Q, SAns w b all σ0 (rowP w.heap.size 11 inC) rowJ (fun r => manyP p c (r.length + 1) [] r) = Q := ⟨_, rfl⟩
  rw [hQ]
  have fo : ∀ w' (a : Option Addr) (l e : Nat) σ, Sd w' b all σ → σ = total.unit → (∀ x q, total = .ok x q → CellAt w' (fun q => w.heap.size ≤ q) (.row 11 (x.map inC)) (.slice a l e)) → Only (fun k => k = b) w w' → Q (.returned (.slice a l e)) w' := fun w' a l e σ h1 h2 h3 h4 => by
    rw [← hQ]; exact ⟨_, rfl, ⟨a, l, e, rfl⟩, by rw [htot, ← h2]; exact h1, fun x q e => h3 x q (by rw [← htot]; exact e), h4⟩
  have hi : SMInv w b all 42 11 inC p c total (.slice none 0 0) true w := by
    refine ⟨σ0, 0, [], h, own_nil _ _ _ _, by omega, Only.refl _ _, ?_⟩
    cases σ0 with
    | ok u r => exact ⟨by have := h.few.1; omega, [], rfl, rfl, htot.symm⟩
    | bad a e => exact htot.symm
  have FO := Lib.hid fo; have HFH := Lib.hid HF; have HI := Lib.hid hi; have HTK := Lib.hid hp
  clear fo HF hi hp hQ htot h
  go_enter Tryz.func25, Tryz.ntmps25
  go_wp2_with fail
  go_loopw [7, 8] (fun v7 v8 wr => ∃ more : Bool, v8 = .bool more ∧ Hid (SMInv w b all 42 11 inC p c total v7 more wr)) (fun _ _ wr => muS wr b all)
  case atStart => exact ⟨true, rfl, HI⟩
  case round =>
    obtain ⟨more, rfl, hrel⟩ := hrel
    obtain ⟨σ, n, xs, hsd, hown, hn, hon, hsm⟩ := hrel.out
    obtain ⟨aL, cL, eL, fL1, fL2, fL3⟩ := own_form hown
    subst eL
    have hbz := hbl
    obtain ⟨e, ce, hσ⟩ := hsd.err
    have hfz : ∀ o, wr.frozen? ⟨b, o, none⟩ = false := by
      obtain ⟨r', e', h1, _⟩ := hsd
      obtain ⟨g, off, c', i, h2, -⟩ := h1.row
      exact (boxN3 h2).2.2.2
    have HOW := Lib.hid hown; have HON := Lib.hid hon; have HSD := Lib.hid hsd; have HSM := Lib.hid hsm; have HFL := Lib.hid fL3; have HN := Lib.hid hn
    have hcell : ∀ rs : List (List Cell), rs.length = n → Chk wr (fun q => w.heap.size ≤ q ∧ (Value.slice aL n cL).ownBlock ≠ some q ∧ q < wr.heap.size) 11 rs xs → CellAt wr (fun q => w.heap.size ≤ q) (.row 11 rs) (.slice aL n cL) := fun rs hl hc => OwnRow.cell (B := w.heap.size) (T := 42) ⟨xs, by rw [hl]; exact hown, hc⟩
    have HCELL := Lib.hid hcell
    clear hcell hown hon hsd hrel HI fL3 hn
    cases more with
    | false =>
      have hend : Q (.returned (.slice aL n cL)) wr := by
        refine FO.out _ _ _ _ σ HSD.out ?_ (fun x q ht => ?_) HON.out
        · cases σ with
          | ok u r =>
            obtain ⟨-, acc, -, -, h3⟩ := hsm
            rw [if_neg (by decide)] at h3; rw [h3]; rfl
          | bad a d => have hsm : total = .bad a d := hsm; rw [hsm]; rfl
        · cases σ with
          | ok u r =>
            obtain ⟨-, acc, h1, h2, h3⟩ := hsm
            rw [if_neg (by decide)] at h3; rw [h3] at ht; injection ht with ht _; subst ht
            exact HCELL.out _ (by rw [List.length_map]; exact h1) h2
          | bad a d => have hsm : total = .bad a d := hsm; rw [hsm] at ht; cases ht
      have HEND := Lib.hid hend
      clear hend hsm hσ HSM HOW HCELL fL2
      go_wp2_with fail
      clear ce hfz
      first
        | exact HEND.out
        | (go_ret; exact HEND.out)
    | true =>
      rcases hσ with ⟨r, rfl, rfl⟩ | ⟨a, rfl, he⟩
      · -- no fault yet
        obtain ⟨hfew, acc, hacc, hchk, htot⟩ := hsm
        rw [if_pos rfl] at htot
        have hmu := muS_ok HSD.out
        have hpos := HSD.out.few.2
        have J := Lib.hid (HFH.out wr (.ok () r) HON.out HSD.out)
        have HMU := Lib.hid hmu; have HFEW := Lib.hid hfew; have HACC := Lib.hid hacc; have HCHK := Lib.hid hchk; have HTOT := Lib.hid htot
        have HGL := Lib.hid HON.out.size
        clear hmu hfew hacc hchk htot HSM HSD fL2
        go_wp2_with fail
        refine J.out.mono ?_
        rintro ee w2 ⟨v, rfl, ⟨s0, a0, l0, e0, s1, a1, l1, e1, b1, b2, k, m0, s2, a2, l2, e2, a3, l3, e3, rfl⟩, hd2, hv, o2⟩
        clear ce hfz
        have hg := heap_new w2 (.cells #[.string ⟨s0.toArray⟩, .slice a0 l0 e0, .string ⟨s1.toArray⟩, .slice a1 l1 e1, .bool b1, .bool b2, .int .u8 (k : Int), .int .i64 m0, .string ⟨s2.toArray⟩, .slice a2 l2 e2, .slice a3 l3 e3] 42)
        have hg2 : w2.heap.size = (w2.alloc (.cells #[.string ⟨s0.toArray⟩, .slice a0 l0 e0, .string ⟨s1.toArray⟩, .slice a1 l1 e1, .bool b1, .bool b2, .int .u8 (k : Int), .int .i64 m0, .string ⟨s2.toArray⟩, .slice a2 l2 e2, .slice a3 l3 e3] 42)).heap.size - 1 := by simp
        have on := (Only.refl (fun _ => False) w2).alloc (.cells #[.string ⟨s0.toArray⟩, .slice a0 l0 e0, .string ⟨s1.toArray⟩, .slice a1 l1 e1, .bool b1, .bool b2, .int .u8 (k : Int), .int .i64 m0, .string ⟨s2.toArray⟩, .slice a2 l2 e2, .slice a3 l3 e3] 42)
        have hs2 : wr.heap.size ≤ w2.heap.size := o2.size
        have p1 := own_only' (own_only' HOW.out o2 (fun k hk e => by have := (HFL.out k hk).1; have := HGL.out; omega)) on (fun _ _ h => h)
        have p2 := (HCHK.out.only o2 (fun k hk e => by have := hk.1; have := HGL.out; omega)).only on (fun _ _ h => h)
        have hd3 := hd2.still on
        have ho3 := (HON.out.trans o2).trans' on (fun _ _ h => h.elim)
        have hv3 : ∀ x q, p r = .ok x q → CellsAt (w2.alloc (.cells #[.string ⟨s0.toArray⟩, .slice a0 l0 e0, .string ⟨s1.toArray⟩, .slice a1 l1 e1, .bool b1, .bool b2, .int .u8 (k : Int), .int .i64 m0, .string ⟨s2.toArray⟩, .slice a2 l2 e2, .slice a3 l3 e3] 42)) (fun q => wr.heap.size ≤ q ∧ q < w2.heap.size + 1) (inC x) [.string ⟨s0.toArray⟩, .slice a0 l0 e0, .string ⟨s1.toArray⟩, .slice a1 l1 e1, .bool b1, .bool b2, .int .u8 (k : Int), .int .i64 m0, .string ⟨s2.toArray⟩, .slice a2 l2 e2, .slice a3 l3 e3] := fun x q e => by
          have := agg_cells (hv x q e)
          exact CellsAt.weaken (fun q hq h => ⟨h, by rw [World.size_alloc] at hq; exact hq⟩) _ _ (CellsAt.only on (fun _ _ h => h) _ _ this)
        obtain ⟨G, hG⟩ : ∃ G, w2.heap.size = G := ⟨_, rfl⟩
        rw [hG] at hg hs2 hg2 hv3
        obtain ⟨w3, hw3⟩ : ∃ w3, w2.alloc (.cells #[.string ⟨s0.toArray⟩, .slice a0 l0 e0, .string ⟨s1.toArray⟩, .slice a1 l1 e1, .bool b1, .bool b2, .int .u8 (k : Int), .int .i64 m0, .string ⟨s2.toArray⟩, .slice a2 l2 e2, .slice a3 l3 e3] 42) = w3 := ⟨_, rfl⟩
        rw [hw3] at hg on p1 p2 hd3 ho3 hg2 hv3
        have hys : ∀ j u, ([.string ⟨s0.toArray⟩, .slice a0 l0 e0, .string ⟨s1.toArray⟩, .slice a1 l1 e1, .bool b1, .bool b2, .int .u8 (k : Int), .int .i64 m0, .string ⟨s2.toArray⟩, .slice a2 l2 e2, .slice a3 l3 e3] : List Value)[j]? = some u → w3.cell? ((⟨G, 0, none⟩ : Addr).add j) = some u := fun j u hu => by rw [addr_add]; exact range_of_block hg j u hu
        have hone : ∀ u ∈ ([.string ⟨s0.toArray⟩, .slice a0 l0 e0, .string ⟨s1.toArray⟩, .slice a1 l1 e1, .bool b1, .bool b2, .int .u8 (k : Int), .int .i64 m0, .string ⟨s2.toArray⟩, .slice a2 l2 e2, .slice a3 l3 e3] : List Value), u.oneCell' = true := by intro u hu; simp at hu; rcases hu with rfl | rfl | rfl | rfl | rfl | rfl | rfl | rfl | rfl | rfl | rfl <;> rfl
        have HP1 := Lib.hid p1; have HP2 := Lib.hid p2; have HYS := Lib.hid hys; have HONE := Lib.hid hone; have HV3 := Lib.hid hv3; have HD3 := Lib.hid hd3; have HO3 := Lib.hid ho3; have HG := Lib.hid hG; have HW3 := Lib.hid hw3; have HS2 := Lib.hid hs2; have HG2 := Lib.hid hg2
        clear p1 p2 hys hone hv3 hd3 ho3 hG hw3 hs2 hg2 hg on hv hd2 o2 J HOW HCHK HCELL
        go_wp2_with ((rw [HG.out, HW3.out]; refine wpList_append_own2 (o := ⟨some 25, _, _, _, _, _⟩) rfl (.tmp 21) (.tmp 24) 31 42 (by rfl) Tryz.underlying31 infoFd rfl (by decide) w.heap.size (.slice aL n cL) n 1 1 xs [.string ⟨s0.toArray⟩, .slice a0 l0 e0, .string ⟨s1.toArray⟩, .slice a1 l1 e1, .bool b1, .bool b2, .int .u8 (k : Int), .int .i64 m0, .string ⟨s2.toArray⟩, .slice a2 l2 e2, .slice a3 l3 e3] ⟨G, 0, none⟩ (by rfl) (by rfl) HP1.out (by rfl) HYS.out HONE.out (by have := HN.out; unfold maxLen; omega) (by have := HN.out; omega) (by have := HG2.out; have := HS2.out; have := HGL.out; omega) ?_; intro v' w9 q1 q2 q3))
        have hfl2 := HFL.out
        obtain ⟨aL', cL', eL', gL1, gL2, gL3⟩ := own_form q1
        subst eL'
        have hqo : Only (fun k => k = b) w w9 := HO3.out.trans' q2 (fun q hq h => by have := (hfl2 q h).1; omega)
        have hd9 := HD3.out.only q2 (fun k hk h => by have := (hfl2 k h).1; omega)
        have T := Lib.hid (stake_any b all _ c w9 hd9)
        unfold tookS at T
        have hchk9 : ∀ x q, p r = .ok x q → Chk w9 (fun q => w.heap.size ≤ q ∧ (Value.slice aL' (n + 1) cL').ownBlock ≠ some q ∧ q < w9.heap.size) 11 ((acc ++ [x]).map inC) (xs ++ [.string ⟨s0.toArray⟩, .slice a0 l0 e0, .string ⟨s1.toArray⟩, .slice a1 l1 e1, .bool b1, .bool b2, .int .u8 (k : Int), .int .i64 m0, .string ⟨s2.toArray⟩, .slice a2 l2 e2, .slice a3 l3 e3]) := fun x q e => by
          have hx : CellsAt w3 (fun q => w.heap.size ≤ q ∧ (Value.slice aL n cL).ownBlock ≠ some q ∧ q < w3.heap.size) (inC x) [.string ⟨s0.toArray⟩, .slice a0 l0 e0, .string ⟨s1.toArray⟩, .slice a1 l1 e1, .bool b1, .bool b2, .int .u8 (k : Int), .int .i64 m0, .string ⟨s2.toArray⟩, .slice a2 l2 e2, .slice a3 l3 e3] := CellsAt.weaken (fun q hq h => by have h1 := h.1; have := HGL.out; exact ⟨by omega, fun hvv => (by have := (hfl2 q hvv).2; omega), hq⟩) _ _ (HV3.out x q e)
          have hrow := OwnRow.append (rs := acc.map inC) (r := inC x) (v' := .slice aL' (n + 1) cL') (by rw [List.length_map, HACC.out]; exact HP1.out) (HP2.out.weaken (fun q hq h => ⟨h.1, h.2.1, hq⟩)) rfl hx (by rw [List.length_map, HACC.out]; exact q1) q2 q3
          have := ((Chk.snoc rfl hx (HP2.out.weaken (fun q hq h => ⟨h.1, h.2.1, hq⟩))).only q2 (fun k hk => hk.2.1)).weaken (G' := fun q => w.heap.size ≤ q ∧ (Value.slice aL' (n + 1) cL').ownBlock ≠ some q ∧ q < w9.heap.size) (fun q hq h => ⟨h.1, fun e2 => by
            rcases q3 q e2 with h2 | h2
            · exact h.2.1 h2
            · have := h.2.2; omega, hq⟩)
          rw [List.map_append, List.map_singleton]; exact this
        have HC9 := Lib.hid hchk9; have HQO := Lib.hid hqo; have HQ1 := Lib.hid q1
        clear hchk9 hqo hd9 q1 q2 q3 gL2 gL3 gL1 hfl2 HP1 HP2 HYS HONE HV3 HFL HD3 HO3
        obtain ⟨bb, hb⟩ : ∃ x, tst ((PR.ok () r : PR Unit).bind fun _ => p).unit (isT c) = x := ⟨_, rfl⟩
        rw [hb] at T
        have HB := Lib.hid hb; clear hb
        cases bb with
        | true =>
          rw [if_pos rfl] at T
          go_wp2_with fail
          refine T.out.mono ?_
          rintro e w10 ⟨rfl, hd10, o10⟩
          have hi : SMInv w b all 42 11 inC p c total (.slice aL' (n + 1) cL') false w10 ∧ muS w10 b all < muS wr b all := by
            have hb := HB.out
            have htot := HTOT.out
            rw [manyP] at htot
            have hmu := HMU.out
            have hch := HC9.out
            have hfew := HFEW.out
            cases hq : p r with
            | bad a d => rw [show ((PR.ok () r : PR Unit).bind fun _ => p).unit = .bad a d from by show (p r).unit = _; rw [hq]; rfl] at hb; cases hb
            | ok x r2 =>
              have hσ : ((PR.ok () r : PR Unit).bind fun _ => p).unit = .ok () r2 := by show (p r).unit = _; rw [hq]; rfl
              rw [hσ] at hb hd10
              have hb : isT c r2 = true := hb
              have hd10 : Sd w10 b all (.ok () r2.tail) := hd10
              rw [hq] at htot
              have htot : total = if isT c r2 then PR.ok (acc ++ [x]) r2.tail else manyP p c r.length (acc ++ [x]) r2 := htot
              rw [if_pos hb] at htot
              have hlt := HTK.out r x r2 hq
              have htl := isT_len hb
              refine ⟨⟨.ok () r2.tail, n + 1, _, hd10, own_only' HQ1.out o10 (fun k hk e => by have := (own_form HQ1.out).choose_spec; obtain ⟨_, _, _, _, _, hz⟩ := own_form HQ1.out; have := (hz k hk).1; have := hbl; omega), by omega, HQO.out.trans o10, ⟨by omega, acc ++ [x], by rw [List.length_append, List.length_singleton, HACC.out], ((hch x r2 hq).only o10 (fun k hk e => by have := hk.1; omega)).weaken (fun q hq h => ⟨h.1, h.2.1, hq⟩), by rw [if_neg (by decide)]; exact htot⟩⟩, ?_⟩
              rw [hmu, muS_ok hd10]; omega
          have HI2 := Lib.hid hi.1; have HLT := Lib.hid hi.2
          clear hi hd10 o10 T HTOT HC9 HQ1 HB
          go_wp2_with fail
          go_roundw
          case rel => first | exact ⟨false, rfl, HI2⟩ | ((repeat apply Exists.intro); refine ⟨?_, rfl⟩; exact ⟨false, rfl, HI2⟩)
          case measure => exact HLT.out
        | false =>
          rw [if_neg (by decide)] at T
          go_wp2_with fail
          refine T.out.mono ?_
          rintro e w10 ⟨rfl, hd10, o10⟩
          have hi : SMInv w b all 42 11 inC p c total (.slice aL' (n + 1) cL') true w10 ∧ muS w10 b all < muS wr b all := by
            have hb := HB.out
            have htot := HTOT.out
            rw [manyP] at htot
            have hmu := HMU.out
            have hch := HC9.out
            have hfew := HFEW.out
            have hown10 : w10.ownsRow w.heap.size 42 11 (.slice aL' (n + 1) cL') (n + 1) (xs ++ [.string ⟨s0.toArray⟩, .slice a0 l0 e0, .string ⟨s1.toArray⟩, .slice a1 l1 e1, .bool b1, .bool b2, .int .u8 (k : Int), .int .i64 m0, .string ⟨s2.toArray⟩, .slice a2 l2 e2, .slice a3 l3 e3]) := own_only' HQ1.out o10 (fun k hk e => by obtain ⟨_, _, _, _, _, hz⟩ := own_form HQ1.out; have := (hz k hk).1; omega)
            cases hq : p r with
            | bad a d =>
              have hσ : ((PR.ok () r : PR Unit).bind fun _ => p).unit = .bad a d := by show (p r).unit = _; rw [hq]; rfl
              rw [hσ] at hd10
              rw [hq] at htot
              refine ⟨⟨.bad a d, n + 1, _, hd10, hown10, by omega, HQO.out.trans o10, htot⟩, ?_⟩
              rw [hmu, muS_bad hd10]; omega
            | ok x r2 =>
              have hσ : ((PR.ok () r : PR Unit).bind fun _ => p).unit = .ok () r2 := by show (p r).unit = _; rw [hq]; rfl
              rw [hσ] at hb hd10
              have hb : isT c r2 = false := hb
              rw [hq] at htot
              have htot : total = if isT c r2 then PR.ok (acc ++ [x]) r2.tail else manyP p c r.length (acc ++ [x]) r2 := htot
              rw [if_neg (by rw [hb]; decide)] at htot
              have hlt := HTK.out r x r2 hq
              refine ⟨⟨.ok () r2, n + 1, _, hd10, hown10, by omega, HQO.out.trans o10, ⟨by omega, acc ++ [x], by rw [List.length_append, List.length_singleton, HACC.out], ((hch x r2 hq).only o10 (fun k hk e => by have := hk.1; omega)).weaken (fun q hq h => ⟨h.1, h.2.1, hq⟩), by rw [if_pos rfl, htot]; exact manyP_fuel HTK.out c _ _ _ _ (by omega) (by omega)⟩⟩, ?_⟩
              rw [hmu, muS_ok hd10]; omega
          have HI2 := Lib.hid hi.1; have HLT := Lib.hid hi.2
          clear hi hd10 o10 T HTOT HC9 HQ1 HB
          go_wp2_with fail
          go_roundw
          case rel => first | exact ⟨true, rfl, HI2⟩ | ((repeat apply Exists.intro); refine ⟨?_, rfl⟩; exact ⟨true, rfl, HI2⟩)
          case measure => exact HLT.out
      · -- a fault: the loop ends
        have t1 : ((e : Int) == 0) = false := by simp; omega
        have htot : total = .bad a e := hsm
        have hend : Q (.returned (.slice aL n cL)) wr := FO.out _ _ _ _ (.bad a e) HSD.out (by rw [htot]; rfl) (fun x q ht => by rw [htot] at ht; cases ht) HON.out
        have HEND := Lib.hid hend
        clear hend hsm htot HSM HOW HCELL fL2 he
        go_wp2_with fail
        clear ce hfz
        first
          | exact HEND.out
          | (go_ret; exact HEND.out)
set_option maxRecDepth 100000 in
set_option maxHeartbeats 40000000 in
theorem smanyF_any (p : List Tok → PR FD) (hp : Takes p) (b : Nat) (all : List Tok) (σ0 : PR Unit) (c : List UInt8) (w : World) (h : Sd w b all σ0)
    (HF : ∀ wx σ', Only (fun k => k = b) w wx → Sd wx b all σ' → Calls Tryz.prog 27 #[.pointer (some ⟨b, 0, none⟩)] wx (SAns wx b all σ' (fun w' x v => aggP wx.heap.size fdC w' x v) fdJ p)) :
    Calls Tryz.prog 25 #[.pointer (some ⟨b, 0, none⟩), .string ⟨c.toArray⟩, .func (.func 27) #[.pointer (some ⟨b, 0, none⟩)] #[]] w (SAns w b all σ0 (rowP w.heap.size 11 fdC) rowJ (fun r => manyP p c (r.length + 1) [] r)) := by
  have hbl := h.lt
  obtain ⟨total, htot⟩ : ∃ x, (σ0.bind fun _ => fun r => manyP p c (r.length + 1) [] r) = x := ⟨_, rfl⟩
  obtain ⟨Q, hQ⟩ : ∃ Q, SAns w b all σ0 (rowP w.heap.size 11 fdC) rowJ (fun r => manyP p c (r.length + 1) [] r) = Q := ⟨_, rfl⟩
  rw [hQ]
  have fo : ∀ w' (a : Option Addr) (l e : Nat) σ, Sd w' b all σ → σ = total.unit → (∀ x q, total = .ok x q → CellAt w' (fun q => w.heap.size ≤ q) (.row 11 (x.map fdC)) (.slice a l e)) → Only (fun k => k = b) w w' → Q (.returned (.slice a l e)) w' := fun w' a l e σ h1 h2 h3 h4 => by
    rw [← hQ]; exact ⟨_, rfl, ⟨a, l, e, rfl⟩, by rw [htot, ← h2]; exact h1, fun x q e => h3 x q (by rw [← htot]; exact e), h4⟩
  have hi : SMInv w b all 42 11 fdC p c total (.slice none 0 0) true w := by
    refine ⟨σ0, 0, [], h, own_nil _ _ _ _, by omega, Only.refl _ _, ?_⟩
    cases σ0 with
    | ok u r => exact ⟨by have := h.few.1; omega, [], rfl, rfl, htot.symm⟩
    | bad a e => exact htot.symm
  have FO := Lib.hid fo; have HFH := Lib.hid HF; have HI := Lib.hid hi; have HTK := Lib.hid hp
  clear fo HF hi hp hQ htot h
  go_enter Tryz.func25, Tryz.ntmps25
  go_wp2_with fail
  go_loopw [7, 8] (fun v7 v8 wr => ∃ more : Bool, v8 = .bool more ∧ Hid (SMInv w b all 42 11 fdC p c total v7 more wr)) (fun _ _ wr => muS wr b all)
  case atStart => exact ⟨true, rfl, HI⟩
  case round =>
    obtain ⟨more, rfl, hrel⟩ := hrel
    obtain ⟨σ, n, xs, hsd, hown, hn, hon, hsm⟩ := hrel.out
    obtain ⟨aL, cL, eL, fL1, fL2, fL3⟩ := own_form hown
    subst eL
    have hbz := hbl
    obtain ⟨e, ce, hσ⟩ := hsd.err
    have hfz : ∀ o, wr.frozen? ⟨b, o, none⟩ = false := by
      obtain ⟨r', e', h1, _⟩ := hsd
      obtain ⟨g, off, c', i, h2, -⟩ := h1.row
      exact (boxN3 h2).2.2.2
    have HOW := Lib.hid hown; have HON := Lib.hid hon; have HSD := Lib.hid hsd; have HSM := Lib.hid hsm; have HFL := Lib.hid fL3; have HN := Lib.hid hn
    have hcell : ∀ rs : List (List Cell), rs.length = n → Chk wr (fun q => w.heap.size ≤ q ∧ (Value.slice aL n cL).ownBlock ≠ some q ∧ q < wr.heap.size) 11 rs xs → CellAt wr (fun q => w.heap.size ≤ q) (.row 11 rs) (.slice aL n cL) := fun rs hl hc => OwnRow.cell (B := w.heap.size) (T := 42) ⟨xs, by rw [hl]; exact hown, hc⟩
    have HCELL := Lib.hid hcell
    clear hcell hown hon hsd hrel HI fL3 hn
    cases more with
    | false =>
      have hend : Q (.returned (.slice aL n cL)) wr := by
        refine FO.out _ _ _ _ σ HSD.out ?_ (fun x q ht => ?_) HON.out
        · cases σ with
          | ok u r =>
            obtain ⟨-, acc, -, -, h3⟩ := hsm
            rw [if_neg (by decide)] at h3; rw [h3]; rfl
          | bad a d => have hsm : total = .bad a d := hsm; rw [hsm]; rfl
        · cases σ with
          | ok u r =>
            obtain ⟨-, acc, h1, h2, h3⟩ := hsm
            rw [if_neg (by decide)] at h3; rw [h3] at ht; injection ht with ht _; subst ht
            exact HCELL.out _ (by rw [List.length_map]; exact h1) h2
          | bad a d => have hsm : total = .bad a d := hsm; rw [hsm] at ht; cases ht
      have HEND := Lib.hid hend
      clear hend hsm hσ HSM HOW HCELL fL2
      go_wp2_with fail
      clear ce hfz
      first
        | exact HEND.out
        | (go_ret; exact HEND.out)
    | true =>
      rcases hσ with ⟨r, rfl, rfl⟩ | ⟨a, rfl, he⟩
      · -- no fault yet
        obtain ⟨hfew, acc, hacc, hchk, htot⟩ := hsm
        rw [if_pos rfl] at htot
        have hmu := muS_ok HSD.out
        have hpos := HSD.out.few.2
        have J := Lib.hid (HFH.out wr (.ok () r) HON.out HSD.out)
        have HMU := Lib.hid hmu; have HFEW := Lib.hid hfew; have HACC := Lib.hid hacc; have HCHK := Lib.hid hchk; have HTOT := Lib.hid htot
        have HGL := Lib.hid HON.out.size
        clear hmu hfew hacc hchk htot HSM HSD fL2
        go_wp2_with fail
        refine J.out.mono ?_
        rintro ee w2 ⟨v, rfl, ⟨s0, a0, l0, e0, s1, a1, l1, e1, b1, b2, k, m0, s2, a2, l2, e2, a3, l3, e3, rfl⟩, hd2, hv, o2⟩
        clear ce hfz
        have hg := heap_new w2 (.cells #[.string ⟨s0.toArray⟩, .slice a0 l0 e0, .string ⟨s1.toArray⟩, .slice a1 l1 e1, .bool b1, .bool b2, .int .u8 (k : Int), .int .i64 m0, .string ⟨s2.toArray⟩, .slice a2 l2 e2, .slice a3 l3 e3] 42)
        have hg2 : w2.heap.size = (w2.alloc (.cells #[.string ⟨s0.toArray⟩, .slice a0 l0 e0, .string ⟨s1.toArray⟩, .slice a1 l1 e1, .bool b1, .bool b2, .int .u8 (k : Int), .int .i64 m0, .string ⟨s2.toArray⟩, .slice a2 l2 e2, .slice a3 l3 e3] 42)).heap.size - 1 := by simp
        have on := (Only.refl (fun _ => False) w2).alloc (.cells #[.string ⟨s0.toArray⟩, .slice a0 l0 e0, .string ⟨s1.toArray⟩, .slice a1 l1 e1, .bool b1, .bool b2, .int .u8 (k : Int), .int .i64 m0, .string ⟨s2.toArray⟩, .slice a2 l2 e2, .slice a3 l3 e3] 42)
        have hs2 : wr.heap.size ≤ w2.heap.size := o2.size
        have p1 := own_only' (own_only' HOW.out o2 (fun k hk e => by have := (HFL.out k hk).1; have := HGL.out; omega)) on (fun _ _ h => h)
        have p2 := (HCHK.out.only o2 (fun k hk e => by have := hk.1; have := HGL.out; omega)).only on (fun _ _ h => h)
        have hd3 := hd2.still on
        have ho3 := (HON.out.trans o2).trans' on (fun _ _ h => h.elim)
        have hv3 : ∀ x q, p r = .ok x q → CellsAt (w2.alloc (.cells #[.string ⟨s0.toArray⟩, .slice a0 l0 e0, .string ⟨s1.toArray⟩, .slice a1 l1 e1, .bool b1, .bool b2, .int .u8 (k : Int), .int .i64 m0, .string ⟨s2.toArray⟩, .slice a2 l2 e2, .slice a3 l3 e3] 42)) (fun q => wr.heap.size ≤ q ∧ q < w2.heap.size + 1) (fdC x) [.string ⟨s0.toArray⟩, .slice a0 l0 e0, .string ⟨s1.toArray⟩, .slice a1 l1 e1, .bool b1, .bool b2, .int .u8 (k : Int), .int .i64 m0, .string ⟨s2.toArray⟩, .slice a2 l2 e2, .slice a3 l3 e3] := fun x q e => by
          have := agg_cells (hv x q e)
          exact CellsAt.weaken (fun q hq h => ⟨h, by rw [World.size_alloc] at hq; exact hq⟩) _ _ (CellsAt.only on (fun _ _ h => h) _ _ this)
        obtain ⟨G, hG⟩ : ∃ G, w2.heap.size = G := ⟨_, rfl⟩
        rw [hG] at hg hs2 hg2 hv3
        obtain ⟨w3, hw3⟩ : ∃ w3, w2.alloc (.cells #[.string ⟨s0.toArray⟩, .slice a0 l0 e0, .string ⟨s1.toArray⟩, .slice a1 l1 e1, .bool b1, .bool b2, .int .u8 (k : Int), .int .i64 m0, .string ⟨s2.toArray⟩, .slice a2 l2 e2, .slice a3 l3 e3] 42) = w3 := ⟨_, rfl⟩
        rw [hw3] at hg on p1 p2 hd3 ho3 hg2 hv3
        have hys : ∀ j u, ([.string ⟨s0.toArray⟩, .slice a0 l0 e0, .string ⟨s1.toArray⟩, .slice a1 l1 e1, .bool b1, .bool b2, .int .u8 (k : Int), .int .i64 m0, .string ⟨s2.toArray⟩, .slice a2 l2 e2, .slice a3 l3 e3] : List Value)[j]? = some u → w3.cell? ((⟨G, 0, none⟩ : Addr).add j) = some u := fun j u hu => by rw [addr_add]; exact range_of_block hg j u hu
        have hone : ∀ u ∈ ([.string ⟨s0.toArray⟩, .slice a0 l0 e0, .string ⟨s1.toArray⟩, .slice a1 l1 e1, .bool b1, .bool b2, .int .u8 (k : Int), .int .i64 m0, .string ⟨s2.toArray⟩, .slice a2 l2 e2, .slice a3 l3 e3] : List Value), u.oneCell' = true := by intro u hu; simp at hu; rcases hu with rfl | rfl | rfl | rfl | rfl | rfl | rfl | rfl | rfl | rfl | rfl <;> rfl
        have HP1 := Lib.hid p1; have HP2 := Lib.hid p2; have HYS := Lib.hid hys; have HONE := Lib.hid hone; have HV3 := Lib.hid hv3; have HD3 := Lib.hid hd3; have HO3 := Lib.hid ho3; have HG := Lib.hid hG; have HW3 := Lib.hid hw3; have HS2 := Lib.hid hs2; have HG2 := Lib.hid hg2
        clear p1 p2 hys hone hv3 hd3 ho3 hG hw3 hs2 hg2 hg on hv hd2 o2 J HOW HCHK HCELL
        go_wp2_with ((rw [HG.out, HW3.out]; refine wpList_append_own2 (o := ⟨some 25, _, _, _, _, _⟩) rfl (.tmp 21) (.tmp 24) 31 42 (by rfl) Tryz.underlying31 infoFd rfl (by decide) w.heap.size (.slice aL n cL) n 1 1 xs [.string ⟨s0.toArray⟩, .slice a0 l0 e0, .string ⟨s1.toArray⟩, .slice a1 l1 e1, .bool b1, .bool b2, .int .u8 (k : Int), .int .i64 m0, .string ⟨s2.toArray⟩, .slice a2 l2 e2, .slice a3 l3 e3] ⟨G, 0, none⟩ (by rfl) (by rfl) HP1.out (by rfl) HYS.out HONE.out (by have := HN.out; unfold maxLen; omega) (by have := HN.out; omega) (by have := HG2.out; have := HS2.out; have := HGL.out; omega) ?_; intro v' w9 q1 q2 q3))
        have hfl2 := HFL.out
        obtain ⟨aL', cL', eL', gL1, gL2, gL3⟩ := own_form q1
        subst eL'
        have hqo : Only (fun k => k = b) w w9 := HO3.out.trans' q2 (fun q hq h => by have := (hfl2 q h).1; omega)
        have hd9 := HD3.out.only q2 (fun k hk h => by have := (hfl2 k h).1; omega)
        have T := Lib.hid (stake_any b all _ c w9 hd9)
        unfold tookS at T
        have hchk9 : ∀ x q, p r = .ok x q → Chk w9 (fun q => w.heap.size ≤ q ∧ (Value.slice aL' (n + 1) cL').ownBlock ≠ some q ∧ q < w9.heap.size) 11 ((acc ++ [x]).map fdC) (xs ++ [.string ⟨s0.toArray⟩, .slice a0 l0 e0, .string ⟨s1.toArray⟩, .slice a1 l1 e1, .bool b1, .bool b2, .int .u8 (k : Int), .int .i64 m0, .string ⟨s2.toArray⟩, .slice a2 l2 e2, .slice a3 l3 e3]) := fun x q e => by
          have hx : CellsAt w3 (fun q => w.heap.size ≤ q ∧ (Value.slice aL n cL).ownBlock ≠ some q ∧ q < w3.heap.size) (fdC x) [.string ⟨s0.toArray⟩, .slice a0 l0 e0, .string ⟨s1.toArray⟩, .slice a1 l1 e1, .bool b1, .bool b2, .int .u8 (k : Int), .int .i64 m0, .string ⟨s2.toArray⟩, .slice a2 l2 e2, .slice a3 l3 e3] := CellsAt.weaken (fun q hq h => by have h1 := h.1; have := HGL.out; exact ⟨by omega, fun hvv => (by have := (hfl2 q hvv).2; omega), hq⟩) _ _ (HV3.out x q e)
          have hrow := OwnRow.append (rs := acc.map fdC) (r := fdC x) (v' := .slice aL' (n + 1) cL') (by rw [List.length_map, HACC.out]; exact HP1.out) (HP2.out.weaken (fun q hq h => ⟨h.1, h.2.1, hq⟩)) rfl hx (by rw [List.length_map, HACC.out]; exact q1) q2 q3
          have := ((Chk.snoc rfl hx (HP2.out.weaken (fun q hq h => ⟨h.1, h.2.1, hq⟩))).only q2 (fun k hk => hk.2.1)).weaken (G' := fun q => w.heap.size ≤ q ∧ (Value.slice aL' (n + 1) cL').ownBlock ≠ some q ∧ q < w9.heap.size) (fun q hq h => ⟨h.1, fun e2 => by
            rcases q3 q e2 with h2 | h2
            · exact h.2.1 h2
            · have := h.2.2; omega, hq⟩)
          rw [List.map_append, List.map_singleton]; exact this
        have HC9 := Lib.hid hchk9; have HQO := Lib.hid hqo; have HQ1 := Lib.hid q1
        clear hchk9 hqo hd9 q1 q2 q3 gL2 gL3 gL1 hfl2 HP1 HP2 HYS HONE HV3 HFL HD3 HO3
        obtain ⟨bb, hb⟩ : ∃ x, tst ((PR.ok () r : PR Unit).bind fun _ => p).unit (isT c) = x := ⟨_, rfl⟩
        rw [hb] at T
        have HB := Lib.hid hb; clear hb
        cases bb with
        | true =>
          rw [if_pos rfl] at T
          go_wp2_with fail
          refine T.out.mono ?_
          rintro e w10 ⟨rfl, hd10, o10⟩
          have hi : SMInv w b all 42 11 fdC p c total (.slice aL' (n + 1) cL') false w10 ∧ muS w10 b all < muS wr b all := by
            have hb := HB.out
            have htot := HTOT.out
            rw [manyP] at htot
            have hmu := HMU.out
            have hch := HC9.out
            have hfew := HFEW.out
            cases hq : p r with
            | bad a d => rw [show ((PR.ok () r : PR Unit).bind fun _ => p).unit = .bad a d from by show (p r).unit = _; rw [hq]; rfl] at hb; cases hb
            | ok x r2 =>
              have hσ : ((PR.ok () r : PR Unit).bind fun _ => p).unit = .ok () r2 := by show (p r).unit = _; rw [hq]; rfl
              rw [hσ] at hb hd10
              have hb : isT c r2 = true := hb
              have hd10 : Sd w10 b all (.ok () r2.tail) := hd10
              rw [hq] at htot
              have htot : total = if isT c r2 then PR.ok (acc ++ [x]) r2.tail else manyP p c r.length (acc ++ [x]) r2 := htot
              rw [if_pos hb] at htot
              have hlt := HTK.out r x r2 hq
              have htl := isT_len hb
              refine ⟨⟨.ok () r2.tail, n + 1, _, hd10, own_only' HQ1.out o10 (fun k hk e => by have := (own_form HQ1.out).choose_spec; obtain ⟨_, _, _, _, _, hz⟩ := own_form HQ1.out; have := (hz k hk).1; have := hbl; omega), by omega, HQO.out.trans o10, ⟨by omega, acc ++ [x], by rw [List.length_append, List.length_singleton, HACC.out], ((hch x r2 hq).only o10 (fun k hk e => by have := hk.1; omega)).weaken (fun q hq h => ⟨h.1, h.2.1, hq⟩), by rw [if_neg (by decide)]; exact htot⟩⟩, ?_⟩
              rw [hmu, muS_ok hd10]; omega
          have HI2 := Lib.hid hi.1; have HLT := Lib.hid hi.2
          clear hi hd10 o10 T HTOT HC9 HQ1 HB
          go_wp2_with fail
          go_roundw
          case rel => first | exact ⟨false, rfl, HI2⟩ | ((repeat apply Exists.intro); refine ⟨?_, rfl⟩; exact ⟨false, rfl, HI2⟩)
          case measure => exact HLT.out
        | false =>
          rw [if_neg (by decide)] at T
          go_wp2_with fail
          refine T.out.mono ?_
          rintro e w10 ⟨rfl, hd10, o10⟩
          have hi : SMInv w b all 42 11 fdC p c total (.slice aL' (n + 1) cL') true w10 ∧ muS w10 b all < muS wr b all := by
            have hb := HB.out
            have htot := HTOT.out
            rw [manyP] at htot
            have hmu := HMU.out
            have hch := HC9.out
            have hfew := HFEW.out
            have hown10 : w10.ownsRow w.heap.size 42 11 (.slice aL' (n + 1) cL') (n + 1) (xs ++ [.string ⟨s0.toArray⟩, .slice a0 l0 e0, .string ⟨s1.toArray⟩, .slice a1 l1 e1, .bool b1, .bool b2, .int .u8 (k : Int), .int .i64 m0, .string ⟨s2.toArray⟩, .slice a2 l2 e2, .slice a3 l3 e3]) := own_only' HQ1.out o10 (fun k hk e => by obtain ⟨_, _, _, _, _, hz⟩ := own_form HQ1.out; have := (hz k hk).1; omega)
            cases hq : p r with
            | bad a d =>
              have hσ : ((PR.ok () r : PR Unit).bind fun _ => p).unit = .bad a d := by show (p r).unit = _; rw [hq]; rfl
              rw [hσ] at hd10
              rw [hq] at htot
              refine ⟨⟨.bad a d, n + 1, _, hd10, hown10, by omega, HQO.out.trans o10, htot⟩, ?_⟩
              rw [hmu, muS_bad hd10]; omega
            | ok x r2 =>
              have hσ : ((PR.ok () r : PR Unit).bind fun _ => p).unit = .ok () r2 := by show (p r).unit = _; rw [hq]; rfl
              rw [hσ] at hb hd10
              have hb : isT c r2 = false := hb
              rw [hq] at htot
              have htot : total = if isT c r2 then PR.ok (acc ++ [x]) r2.tail else manyP p c r.length (acc ++ [x]) r2 := htot
              rw [if_neg (by rw [hb]; decide)] at htot
              have hlt := HTK.out r x r2 hq
              refine ⟨⟨.ok () r2, n + 1, _, hd10, hown10, by omega, HQO.out.trans o10, ⟨by omega, acc ++ [x], by rw [List.length_append, List.length_singleton, HACC.out], ((hch x r2 hq).only o10 (fun k hk e => by have := hk.1; omega)).weaken (fun q hq h => ⟨h.1, h.2.1, hq⟩), by rw [if_pos rfl, htot]; exact manyP_fuel HTK.out c _ _ _ _ (by omega) (by omega)⟩⟩, ?_⟩
              rw [hmu, muS_ok hd10]; omega
          have HI2 := Lib.hid hi.1; have HLT := Lib.hid hi.2
          clear hi hd10 o10 T HTOT HC9 HQ1 HB
          go_wp2_with fail
          go_roundw
          case rel => first | exact ⟨true, rfl, HI2⟩ | ((repeat apply Exists.intro); refine ⟨?_, rfl⟩; exact ⟨true, rfl, HI2⟩)
          case measure => exact HLT.out
      · -- a fault: the loop ends
        have t1 : ((e : Int) == 0) = false := by simp; omega
        have htot : total = .bad a e := hsm
        have hend : Q (.returned (.slice aL n cL)) wr := FO.out _ _ _ _ (.bad a e) HSD.out (by rw [htot]; rfl) (fun x q ht => by rw [htot] at ht; cases ht) HON.out
        have HEND := Lib.hid hend
        clear hend hsm htot HSM HOW HCELL fL2 he
        go_wp2_with fail
        clear ce hfz
        first
          | exact HEND.out
          | (go_ret; exact HEND.out)
end Go.Proofs.YtgephneppgcnlaaGreatDoor
