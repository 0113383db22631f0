/- sdl.Types. -/
import Derived.Test.YtgephneppgcnlaaDoorSdO
namespace Go.Proofs.YtgephneppgcnlaaDoor
open Go Go.RowKit
set_option linter.unusedVariables false
set_option linter.unusedSimpArgs false

/-- What sdl.Types hands back. -/
def TysRes (w : World) (p : TR1) (e : Ending) (w' : World) : Prop := match p with
  | .ok l => ∃ a c, e = .returned (.tuple #[.slice a l.length c, .int .i64 0, .int .i64 0]) ∧ CellAt w' (fun q => w.heap.size ≤ q) (.row 4 (l.map tdC)) (.slice a l.length c) ∧ Only (fun _ => False) w w'
  | .bad x c => e = .returned (.tuple #[.slice none 0 0, .int .i64 (x : Int), .int .i64 (c : Int)]) ∧ Only (fun _ => False) w w'
theorem infoTd : (Tryd.prog.info? 70).map (fun i => (i.zero, i.size, i.bytes)) = some (some (.agg #[.int .u8 0, .string ByteArray.empty, .slice none 0 0, .slice none 0 0]), 4, 72) := by kernel_rfl
def tysE (total : PR (List TD)) : TR1 := match total with | .ok d _ => .ok d | .bad a e => .bad a e
/-- Ahead of a round: n declarations stand in the row. -/
def TYI (w : World) (b : Nat) (all : List Tok) (total : PR (List TD)) (v : Value) (more : Bool) (wr : World) : Prop :=
  ∃ (σ : PR Unit) (n : Nat) (xs : List Value), Sd wr b all σ ∧ wr.ownsRow (b + 1) 70 4 v n xs ∧ n ≤ 1000000 ∧ Only (fun _ => False) w wr ∧ (match σ with
    | .ok _ r => n + r.length ≤ 1000000 ∧ ∃ acc : List TD, acc.length = n ∧ Chk wr (fun q => b + 1 ≤ q ∧ v.ownBlock ≠ some q ∧ q < wr.heap.size) 4 (acc.map tdC) xs ∧ (if more = true then total = tysF (r.length + 1) acc r else total = .ok acc r)
    | .bad a e => total = .bad a e)
theorem Sd.tok {w : World} {b : Nat} {all : List Tok} {σ : PR Unit} (h : Sd w b all σ) : ∃ (g off c N : Nat) (t : Tok) (i e : Nat), w.cell? ⟨b, 0, none⟩ = some (.slice (some ⟨g, off, none⟩) N c) ∧ w.cell? ⟨b, 1, none⟩ = some (.int .i64 (i : Int)) ∧ w.cell? ⟨b, 2, none⟩ = some (.int .i64 (e : Int)) ∧ (∀ o, w.frozen? ⟨b, o, none⟩ = false) ∧ i < N ∧ N ≤ c ∧ N ≤ 1000000 ∧ c ≤ 9223372036854775807 ∧ w.cell? ⟨g, off + i * 4, none⟩ = some (.int .u8 (t.kind : Int)) ∧ w.cell? ⟨g, off + i * 4 + 3, none⟩ = some (.int .i64 (t.at_ : Int)) ∧ ((e = 0 ∧ ∃ r, σ = .ok () (t :: r)) ∨ (e ≠ 0 ∧ σ = .bad t.at_ e)) := by
  obtain ⟨r, e, h, hs⟩ := h
  obtain ⟨g, off, c, N, t, r', rfl, i, c0, c1, c2, fz, hi, hc, hN, hcm, hgb, a1, a2, a3, a4⟩ := h.next
  refine ⟨g, off, c, N, t, i, e, c0, c1, c2, fz, hi, hc, hN, hcm, a1, a4, ?_⟩
  by_cases he : e = 0
  · subst he; exact .inl ⟨rfl, r', hs⟩
  · exact .inr ⟨he, by rw [hs, st_bad he]; rfl⟩
set_option maxRecDepth 100000 in
set_option maxHeartbeats 40000000 in
theorem stypes_any (s : List UInt8) (w : World) (hs : s.length ≤ maxLen) :
    Calls Tryd.prog 20 #[.string ⟨s.toArray⟩] w (TysRes w (tysP s)) := by
  obtain ⟨Q, hQ⟩ : ∃ Q, TysRes w (tysP s) = Q := ⟨_, rfl⟩
  rw [hQ]
  have J := Lib.hid (tokens_any ⟨s.toArray⟩ w hs)
  rw [show (⟨s.toArray⟩ : ByteArray).data.toList = s from rfl] at J
  have hdp : tysP s = match toks s with | .bad a e => .bad a e | .ok ts => tysE (tysF (ts.length + 1) [] ts) := by
    unfold tysP
    cases toks s with
    | bad a e => rfl
    | ok ts =>
      show (match tysF (ts.length + 1) [] ts with | .ok d _ => TR1.ok d | .bad a e => .bad a e) = tysE (tysF (ts.length + 1) [] ts)
      generalize tysF (ts.length + 1) [] ts = z
      cases z <;> rfl
  cases ht : toks s with
  | bad a c =>
    rw [ht] at J hdp
    have hc := toks_bad ht
    have hne : ((c : Int) != 0) = true := by simp; omega
    have HP := Lib.hid (show ∀ w', Only (fun _ => False) w w' → Q (.returned (.tuple #[.slice none 0 0, .int .i64 (a : Int), .int .i64 (c : Int)])) w' from fun w' h => by rw [← hQ, hdp]; exact ⟨rfl, h⟩)
    clear hQ ht hs hdp hc
    go_enter Tryd.func20, Tryd.ntmps20
    go_wp2_with fail
    refine J.out.mono ?_
    rintro e w1 ⟨rfl, o1⟩
    have HE := Lib.hid (HP.out w1 o1); clear o1
    go_wp2_with fail
    first
      | exact HE.out
      | (go_ret; exact HE.out)
  | ok ts =>
    rw [ht] at J hdp
    obtain ⟨he, hl⟩ := toks_end ht
    obtain ⟨total, hR⟩ : ∃ R, tysF (ts.length + 1) [] ts = R := ⟨_, rfl⟩
    simp only [hR] at hdp
    have hfo : ∀ d rest w' a c, total = .ok d rest → CellAt w' (fun q => w.heap.size ≤ q) (.row 4 (d.map tdC)) (.slice a d.length c) → Only (fun _ => False) w w' → Q (.returned (.tuple #[.slice a d.length c, .int .i64 0, .int .i64 0])) w' := fun d rest w' a c h1 h2 h3 => by
      rw [← hQ, hdp, h1]; exact ⟨a, c, rfl, h2, h3⟩
    have hfb : ∀ a c w', total = .bad a c → Only (fun _ => False) w w' → Q (.returned (.tuple #[.slice none 0 0, .int .i64 (a : Int), .int .i64 (c : Int)])) w' := fun a c w' h1 h3 => by
      rw [← hQ, hdp, h1]; exact ⟨rfl, h3⟩
    have FO := Lib.hid hfo; have FB := Lib.hid hfb; have HTE := Lib.hid he; have HTL := Lib.hid hl; have HR := Lib.hid hR
    clear hQ ht hs he hl hR hdp hfo hfb
    go_enter Tryd.func20, Tryd.ntmps20
    go_wp2_with fail
    refine J.out.mono ?_
    rintro e w1 ⟨v, rfl, hv, o1⟩
    have hpos : 0 < ts.length := by have h1 := HTE.out; cases ts with | nil => exact h1.elim | cons t u => simp
    obtain ⟨g, cg, rfl, hgB, hgz, -⟩ := own_range hv hpos
    have htr := TRow.of_own hv hpos
    obtain ⟨b, hb⟩ : ∃ b, w1.heap.size = b := ⟨_, rfl⟩
    obtain ⟨w2, hw2⟩ : ∃ x, w1.alloc (.cells #[.slice (some ⟨g, 0, none⟩) ts.length cg, .int .i64 0, .int .i64 0] 96) = x := ⟨_, rfl⟩
    have oa2 : Only (fun _ => False) w1 w2 := by rw [← hw2]; exact (Only.refl _ w1).alloc _
    have hb2 : w2.heap[b]? = some (.cells #[.slice (some ⟨g, 0, none⟩) ts.length cg, .int .i64 0, .int .i64 0] 96 (0, 0)) := by rw [← hw2, ← hb]; exact heap_new _ _
    have hwb : w.heap.size ≤ b := by have := o1.size; omega
    have hrd : Sd w2 b ts (.ok () ts) := ⟨ts, 0, ⟨⟨g, 0, cg, 0, hb2, htr.still oa2, by omega, rfl, by simp⟩, HTE.out, by have := HTL.out; omega⟩, rfl⟩
    have hi : TYI w b ts total (.slice none 0 0) true w2 := ⟨.ok () ts, 0, [], hrd, own_nil _ _ _ _, by omega, o1.trans oa2, by have := HTL.out; omega, [], rfl, rfl, HR.out.symm⟩
    have HI := Lib.hid hi; have HB := Lib.hid hb; have HW2 := Lib.hid hw2
    clear hi hb hw2 oa2 hb2 hrd htr hv o1 hgB hgz hpos J HTE HTL HR
    go_wp2_with fail
    rw [HB.out, HW2.out]
    clear HB HW2
    go_loopw [9, 10] (fun v9 v10 wr => ∃ more : Bool, v10 = .bool more ∧ Hid (TYI w b ts total v9 more wr)) (fun _ _ wr => muS wr b ts)
    case atStart => exact ⟨true, rfl, HI⟩
    case round =>
      obtain ⟨more, rfl, hrel⟩ := hrel
      obtain ⟨σ, n, xs, hsd, hown, hn, hon, hsm⟩ := hrel.out
      obtain ⟨aL, cL, eL, fL1, fL2, fL3⟩ := own_form hown
      subst eL
      have hblt := hsd.lt
      have HOW := Lib.hid hown; have HON := Lib.hid hon; have HSD := Lib.hid hsd; have HSM := Lib.hid hsm; have HFL := Lib.hid fL3; have HN := Lib.hid hn
      clear hown hon hsd hrel HI fL3 hn fL2
      -- what is told in the end
      have hcell : ∀ acc : List TD, acc.length = n → Chk wr (fun q => b + 1 ≤ q ∧ (Value.slice aL n cL).ownBlock ≠ some q ∧ q < wr.heap.size) 4 (acc.map tdC) xs → CellAt wr (fun q => w.heap.size ≤ q) (.row 4 (acc.map tdC)) (.slice aL acc.length cL) := fun acc hl hc => by
        rw [hl]
        exact CellAt.weaken (fun q _ h => by have h : b + 1 ≤ q := h; show w.heap.size ≤ q; omega) _ _ (OwnRow.cell (B := b + 1) (T := 70) ⟨xs, by rw [List.length_map, hl]; exact HOW.out, hc⟩)
      have HCELL := Lib.hid hcell
      clear hcell
      obtain ⟨g, off, c, N, t, i, e, c0, c1, c2, fz, hi, hc, hNN, hcm, a1, a4, hcase⟩ := HSD.out.tok
      have hiN : (i : Int) < (N : Int) := by omega
      rcases hcase with ⟨rfl, r, rfl⟩ | ⟨he, rfl⟩
      · cases more with
        | false =>
          obtain ⟨-, acc, h1, h2, h3⟩ := hsm
          rw [if_neg (by decide)] at h3
          have hend := FO.out acc _ wr aL cL h3 (HCELL.out acc h1 h2) HON.out
          rw [h1] at hend
          have HEND := Lib.hid hend
          clear hend h1 h2 h3 HSM HOW HCELL a4
          go_wp2_with fail
          clear c0 c1 c2 fz a1
          first
            | exact HEND.out
            | (go_ret; exact HEND.out)
        | true =>
          obtain ⟨hfew, acc, hacc, hchk, htot⟩ := hsm
          rw [if_pos rfl] at htot
          have hmu := muS_ok HSD.out
          have J := Lib.hid (sone_any b ts _ wr HSD.out)
          have HMU := Lib.hid hmu; have HFEW := Lib.hid hfew; have HACC := Lib.hid hacc; have HCHK := Lib.hid hchk; have HTOT := Lib.hid htot
          clear hmu hfew hacc hchk htot HSM HSD a1 a4
          go_wp2_with fail
          refine J.out.mono ?_
          rintro ee w2 ⟨v, rfl, ⟨k, s0, a0, l0, e0, a1, l1, e1, rfl⟩, hd2, hv, o2⟩
          clear c0 c1 c2 fz
          have hg := heap_new w2 (.cells #[.int .u8 (k : Int), .string ⟨s0.toArray⟩, .slice a0 l0 e0, .slice a1 l1 e1] 70)
          have hg2 : w2.heap.size = (w2.alloc (.cells #[.int .u8 (k : Int), .string ⟨s0.toArray⟩, .slice a0 l0 e0, .slice a1 l1 e1] 70)).heap.size - 1 := by simp
          have on := (Only.refl (fun _ => False) w2).alloc (.cells #[.int .u8 (k : Int), .string ⟨s0.toArray⟩, .slice a0 l0 e0, .slice a1 l1 e1] 70)
          have hs2 : wr.heap.size ≤ w2.heap.size := o2.size
          have p1 := own_only' (own_only' HOW.out o2 (fun k hk e => by have := (HFL.out k hk).1; omega)) on (fun _ _ h => h)
          have p2 := (HCHK.out.only o2 (fun k hk e => by have := hk.1; omega)).only on (fun _ _ h => h)
          have hd3 := hd2.still on
          have ho3 : Only (fun _ => False) w (w2.alloc (.cells #[.int .u8 (k : Int), .string ⟨s0.toArray⟩, .slice a0 l0 e0, .slice a1 l1 e1] 70)) := (HON.out.trans' o2 (fun q hq h => by omega)).trans on
          have hv3 : ∀ x q, tdP (t :: r) = .ok x q → CellsAt (w2.alloc (.cells #[.int .u8 (k : Int), .string ⟨s0.toArray⟩, .slice a0 l0 e0, .slice a1 l1 e1] 70)) (fun q => wr.heap.size ≤ q) (tdC x) [.int .u8 (k : Int), .string ⟨s0.toArray⟩, .slice a0 l0 e0, .slice a1 l1 e1] := fun x q e => CellsAt.only on (fun _ _ h => h) _ _ (agg_cells (hv x q e))
          obtain ⟨G, hG⟩ : ∃ G, w2.heap.size = G := ⟨_, rfl⟩
          rw [hG] at hg hs2 hg2
          obtain ⟨w3, hw3⟩ : ∃ w3, w2.alloc (.cells #[.int .u8 (k : Int), .string ⟨s0.toArray⟩, .slice a0 l0 e0, .slice a1 l1 e1] 70) = w3 := ⟨_, rfl⟩
          rw [hw3] at hg on p1 p2 hd3 ho3 hg2 hv3
          have hys : ∀ j u, ([.int .u8 (k : Int), .string ⟨s0.toArray⟩, .slice a0 l0 e0, .slice a1 l1 e1] : List Value)[j]? = some u → w3.cell? ((⟨G, 0, none⟩ : Addr).add j) = some u := fun j u hu => by rw [addr_add]; exact range_of_block hg j u hu
          have hone : ∀ u ∈ ([.int .u8 (k : Int), .string ⟨s0.toArray⟩, .slice a0 l0 e0, .slice a1 l1 e1] : List Value), u.oneCell' = true := by intro u hu; simp at hu; rcases hu with rfl | rfl | rfl | rfl <;> rfl
          have HP1 := Lib.hid p1; have HP2 := Lib.hid p2; have HYS := Lib.hid hys; have HONE := Lib.hid hone; have HV3 := Lib.hid hv3; have HD3 := Lib.hid hd3; have HO3 := Lib.hid ho3; have HG := Lib.hid hG; have HW3 := Lib.hid hw3; have HS2 := Lib.hid hs2; have HG2 := Lib.hid hg2
          clear p1 p2 hys hone hv3 hd3 ho3 hG hw3 hs2 hg2 hg on hv hd2 o2 J HOW HCHK HCELL
          go_wp2_with ((rw [HG.out, HW3.out]; refine wpList_append_own2 (o := ⟨some 48, _, _, _, _, _⟩) rfl (.tmp 44) (.tmp 47) 63 70 (by rfl) Tryd.underlying63 infoTd rfl (by decide) (b + 1) (.slice aL n cL) n 1 1 xs [.int .u8 (k : Int), .string ⟨s0.toArray⟩, .slice a0 l0 e0, .slice a1 l1 e1] ⟨G, 0, none⟩ (by rfl) (by rfl) HP1.out (by rfl) HYS.out HONE.out (by have := HN.out; have := HFEW.out; simp at this; unfold maxLen; omega) (by have := HN.out; omega) (by have := HG2.out; have := HS2.out; omega) ?_; intro v' w9 q1 q2 q3))
          have hfl2 := HFL.out
          obtain ⟨aL', cL', eL', gL1, gL2, gL3⟩ := own_form q1
          subst eL'
          have hqo : Only (fun _ => False) w w9 := HO3.out.trans' q2 (fun q hq h => by have := (hfl2 q h).1; omega)
          have hd9 := HD3.out.only q2 (fun k hk h => by have := (hfl2 k h).1; omega)
          have hchk9 : ∀ x q, tdP (t :: r) = .ok x q → Chk w9 (fun q => b + 1 ≤ q ∧ (Value.slice aL' (n + 1) cL').ownBlock ≠ some q ∧ q < w9.heap.size) 4 ((acc ++ [x]).map tdC) (xs ++ [.int .u8 (k : Int), .string ⟨s0.toArray⟩, .slice a0 l0 e0, .slice a1 l1 e1]) := fun x q e => by
            have hx : CellsAt w3 (fun q => b + 1 ≤ q ∧ (Value.slice aL n cL).ownBlock ≠ some q ∧ q < w3.heap.size) (tdC x) [.int .u8 (k : Int), .string ⟨s0.toArray⟩, .slice a0 l0 e0, .slice a1 l1 e1] := CellsAt.weaken (fun q hq h => by have h1 : wr.heap.size ≤ q := h; exact ⟨by omega, fun hvv => (by have := (hfl2 q hvv).2; omega), hq⟩) _ _ (HV3.out x q e)
            have := ((Chk.snoc rfl hx (HP2.out.weaken (fun q hq h => ⟨h.1, h.2.1, hq⟩))).only q2 (fun k hk => hk.2.1)).weaken (G' := fun q => b + 1 ≤ q ∧ (Value.slice aL' (n + 1) cL').ownBlock ≠ some q ∧ q < w9.heap.size) (fun q hq h => ⟨h.1, fun e2 => by
              rcases q3 q e2 with h2 | h2
              · exact h.2.1 h2
              · have := h.2.2; omega, hq⟩)
            rw [List.map_append, List.map_singleton]; exact this
          have HC9 := Lib.hid hchk9; have HQO := Lib.hid hqo; have HQ1 := Lib.hid q1; have HD9 := Lib.hid hd9
          clear hchk9 hqo hd9 q1 q2 q3 gL2 gL3 gL1 hfl2 HP1 HP2 HYS HONE HV3 HFL HD3 HO3
          obtain ⟨g', off', c', N', t', i', e', c0, c1, c2, fz, hi', hc', hNN', hcm', a1', a4', hcase'⟩ := HD9.out.tok
          have hiN' : (i' : Int) < (N' : Int) := by omega
          have hnext : ∀ wz, Only (fun _ => False) w9 wz → TYI w b ts total (.slice aL' (n + 1) cL') ((t'.kind : Int) != 0) wz ∧ muS wz b ts < muS wr b ts := fun wz oz => by
            have htot := HTOT.out
            rw [tysF] at htot
            have hmu := HMU.out
            have hch := HC9.out
            have hfew := HFEW.out
            simp only [List.length_cons] at hfew
            have hd9 := HD9.out
            have hownz := own_only' HQ1.out oz (fun _ _ h => h)
            cases hq : tdP (t :: r) with
            | bad a d =>
              have hσ : ((PR.ok () (t :: r) : PR Unit).bind fun _ => tdP).unit = .bad a d := by show (tdP (t :: r)).unit = _; rw [hq]; rfl
              rw [hσ] at hd9
              rw [hq] at htot
              refine ⟨⟨.bad a d, n + 1, _, hd9.still oz, hownz, by omega, HQO.out.trans oz, htot⟩, ?_⟩
              rw [hmu, muS_bad (hd9.still oz)]; omega
            | ok x r2 =>
              have hσ : ((PR.ok () (t :: r) : PR Unit).bind fun _ => tdP).unit = .ok () r2 := by show (tdP (t :: r)).unit = _; rw [hq]; rfl
              have hlt := tdP_takes (t :: r) x r2 hq
              simp only [List.length_cons] at hlt
              rw [hσ] at hd9 hcase'
              rw [hq] at htot
              have htot : total = if isK 0 r2 then PR.ok (acc ++ [x]) r2 else tysF (t :: r).length (acc ++ [x]) r2 := htot
              have hk2 : isK 0 r2 = !((t'.kind : Int) != 0) := by
                rcases hcase' with ⟨_, r3, hr3⟩ | ⟨_, hbad⟩
                · injection hr3 with _ hr3; subst hr3
                  show decide (t'.kind = 0) = _
                  by_cases hk : t'.kind = 0
                  · rw [hk]; rfl
                  · rw [decide_eq_false hk]; simp; omega
                · cases hbad
              refine ⟨⟨.ok () r2, n + 1, _, hd9.still oz, hownz, by omega, HQO.out.trans oz, ⟨by omega, acc ++ [x], by rw [List.length_append, List.length_singleton, HACC.out], ((hch x r2 hq).only oz (fun _ _ h => h)).weaken (fun q hq h => ⟨h.1, h.2.1, hq⟩), ?_⟩⟩, ?_⟩
              · rw [hk2] at htot
                cases hk3 : ((t'.kind : Int) != 0) with
                | true =>
                  rw [hk3] at htot
                  rw [if_pos rfl, htot, if_neg (by decide)]
                  exact tysF_fuel _ _ _ _ (by simp only [List.length_cons]; omega) (by omega)
                | false =>
                  rw [hk3] at htot
                  rw [if_neg (by decide), htot, if_pos (by decide)]
              · rw [hmu, muS_ok (hd9.still oz)]; simp only [List.length_cons]; omega
          have HNX := Lib.hid hnext
          clear hnext hcase' HC9 HQO HQ1 HD9 HTOT a4' hblt c2 fz
          obtain ⟨k', hk'⟩ : ∃ z : Bool, ((t'.kind : Int) != 0) = z := ⟨_, rfl⟩
          rw [hk'] at HNX
          go_upto_region 8 with (fail)
          go_quiet (fail)
          clear c0 c1 a1' hk'
          obtain ⟨hz1, hz2⟩ := HNX.out _ ((Only.refl (fun _ => False) w9).drewN nq)
          have HI2 := Lib.hid hz1; have HLT := Lib.hid hz2
          clear hz1 hz2 HNX
          go_wp2_with fail
          go_roundw
          case rel => first | exact ⟨k', rfl, HI2⟩ | ((repeat apply Exists.intro); refine ⟨?_, rfl⟩; exact ⟨k', rfl, HI2⟩)
          case measure => exact HLT.out
      · have t1 : ((e : Int) == 0) = false := by simp; omega
        have t2 : ((e : Int) != 0) = true := by simp; omega
        have htot : total = .bad t.at_ e := hsm
        have hend := fun wz oz => FB.out _ _ wz htot (HON.out.trans oz)
        have HEND := Lib.hid hend
        clear hend hsm htot HSM HOW HCELL he a1
        cases more with
        | false =>
          go_upto_region 11 with (fail)
          go_quiet (fail)
          clear c0 c1 c2 fz a4
          have HE := Lib.hid (HEND.out _ ((Only.refl (fun _ => False) wr).drewN nq))
          go_wp2_with fail
          first
            | exact HE.out
            | (go_ret; exact HE.out)
        | true =>
          go_upto_region 11 with (fail)
          go_quiet (fail)
          clear c0 c1 c2 fz a4
          have HE := Lib.hid (HEND.out _ ((Only.refl (fun _ => False) wr).drewN nq))
          go_wp2_with fail
          first
            | exact HE.out
            | (go_ret; exact HE.out)
end Go.Proofs.YtgephneppgcnlaaDoor
