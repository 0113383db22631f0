/- columbarylaw01.BlockKeeps: the walk. -/
import Derived.Test.YtlkglhgndfhjeaaBlkP
import Derived.Deep.AppendLies
namespace Go.Proofs.Ytlkglhgndfhjeaa
open Go Go.RowKit
set_option linter.unusedVariables false
set_option linter.unusedSimpArgs false

theorem pad64_take (l : List UInt8) : (pad64 l).take l.length = l := by unfold pad64; simp
theorem pad64_head {l : List UInt8} (h : 0 < l.length) (hl : l.length ≤ 64) : ∃ x, (u8s (pad64 l))[0]? = some (.int .u8 x) ∧ 0 ≤ x ∧ x ≤ 255 := by
  refine ⟨((pad64 l)[0]'(by rw [pad64_len hl]; decide)).toNat, ?_, by omega, ?_⟩
  · unfold u8s; rw [List.getElem?_map, List.getElem?_eq_getElem (by rw [pad64_len hl]; decide)]; rfl
  · have := ((pad64 l)[0]'(by rw [pad64_len hl]; decide)).toNat_lt; omega
theorem told_cell {w w' : World} {l : List UInt8} {v : Value} (h : Told w (pad64 l) v w') (h0 : 0 < l.length) (hl : l.length ≤ 64) :
    ∃ g x, w.heap.size ≤ g ∧ v = .slice (some ⟨g, 0, none⟩) 64 64 ∧ g < w'.heap.size ∧ w'.cell? ⟨g, 0, none⟩ = some (.int .u8 x) ∧ w'.frozen? ⟨g, 0, none⟩ = false ∧ 0 ≤ x ∧ x ≤ 255 ∧
      Bytes w' (.slice (some ⟨g, 0, none⟩) l.length 64) l := by
  obtain ⟨g, hg, rfl, hb⟩ := h
  obtain ⟨x, hx, x0, x1⟩ := pad64_head h0 hl
  refine ⟨g, x, hg, rfl, (Array.getElem?_eq_some_iff.1 hb).1, ?_, by simp [World.frozen?, hb], x0, x1, ?_⟩
  · simp only [World.cell?, hb]
    rw [List.getElem?_toArray]; exact hx
  · have := bytes_block hb (lo := 0) (n := l.length) (cap := 64) (by rw [pad64_len hl]; omega) hl (by omega)
    rw [List.drop_zero, pad64_take] at this; exact this

set_option maxRecDepth 100000 in
set_option maxHeartbeats 4000000 in
theorem keeps_walk (a0 : Option Addr) (len0 cap0 : Nat) (z0 : List Int) (w : World) (hr0 : IsRow .u8 w a0 len0 cap0 z0) :
    Calls Try.prog 4 #[.slice a0 len0 cap0] w fun e w' => e = .returned (.bool true) ∧ Below w.heap.size w w' := by
  obtain ⟨l, hl, hb, hk⟩ := bytes_row hr0
  have HL := Lib.hid hl; have HB := Lib.hid hb; have HK := Lib.hid hk
  have hlen0 := hr0.len_le
  clear hr0 hl hb hk
  by_cases h0 : len0 = 0
  · have e0 : ((len0 : Int) == 0) = true := by simp [h0]
    have HE0 := Lib.hid h0; clear h0
    go_enter Try.func4, Try.ntmps4
    go_wp2_with fail
    refine (awake_any _).mono ?_
    rintro e w1 ⟨rfl, o1⟩
    go_wp2_with fail
    refine (awake_any _).mono ?_
    rintro e w2 ⟨rfl, o2⟩
    go_wp2
    go_ret
    exact ⟨rfl, (o1.trans o2).still⟩
  · have e0 : ((len0 : Int) == 0) = false := by simp [h0]
    by_cases h64 : len0 ≤ 64
    · have e64 : decide ((64 : Int) < (len0 : Int)) = false := by simp; omega
      have hp : 0 < len0 := by omega
      have hpi : (0 : Int) < (len0 : Int) := by omega
      have hi64 : (len0 : Int) ≤ 64 := by omega
      have hil : (0 : Int) ≤ (len0 : Int) := by omega
      have hl0 : 0 < l.length := by rw [HL.out]; exact hp
      have hl64 : l.length ≤ 64 := by rw [HL.out]; exact h64
      have HL0 := Lib.hid hl0; have HL64 := Lib.hid hl64; clear hl0 hl64
      obtain ⟨ad0, rfl, hs0⟩ := (HB.out : Bytes w (.slice a0 len0 cap0) l).src (by rw [u8s_len]; exact HL0.out)
      have HS0 := Lib.hid hs0; clear hs0
      have hf1 : Fine (wrote (fresh 1) 0 l) 1 := (Fine.fresh 1).wrote (by decide) ⟨by decide, by decide⟩ l
      obtain ⟨c0, c1, c2, c3, c4⟩ := wrote_calm (st := fresh 1) rfl rfl 0 l
      have hv1 : (view (wrote (fresh 1) 0 l)).getD 0 [] = pad64 l := by rw [view_wrote]; rfl
      obtain ⟨d0, d1, d2, d3, d4⟩ := synced_calm c1 c2
      have hf2 : Fine (synced (wrote (fresh 1) 0 l)) 2 := hf1.synced (by decide)
      have hv2 : (view (synced (wrote (fresh 1) 0 l))).getD 0 [] = pad64 l := by rw [view_synced]; exact hv1
      have hk1 : lookE (wrote (fresh 1) 0 l) 0 = 0 := look0 (by decide) (by rw [c3]; decide) c1
      have hk2 : lookE (synced (wrote (fresh 1) 0 l)) 0 = 0 := look0 (by decide) (by rw [d4, view_len, c3]; decide) d1
      have F1 := Lib.hid hf1; have F2 := Lib.hid hf2; have V1 := Lib.hid hv1; have V2 := Lib.hid hv2; have K1 := Lib.hid hk1; have K2 := Lib.hid hk2
      have hb0 : (begun (fresh 1)).off = false := c0
      have B0 := Lib.hid hb0
      clear c0 c1 c2 c3 c4 d0 d1 d2 d3 d4 hf1 hf2 hv1 hv2 hk1 hk2 hb0
      obtain ⟨i0, hi, hz0, hz1, hz2⟩ := info_parts infoU8
      have HI := Lib.hid (And.intro hi (And.intro hz0 (And.intro hz1 hz2))); clear hi hz0 hz1 hz2
      go_enter Try.func4, Try.ntmps4
      go_wp2_with fail
      refine (awake_any _).mono ?_
      rintro e w1 ⟨rfl, o1⟩
      have hN : Calls Try.prog 17 #[.int .i64 1] w1 _ := new_own w 1 w1 o1 (by decide) (by decide)
      have HN := Lib.hid hN; have O1 := Lib.hid o1; clear hN o1
      go_wp2_with fail
      refine HN.out.mono ?_
      rintro e w2 ⟨b, rfl, h2, o2⟩
      have H2 := Lib.hid h2; clear h2 o2
      have hsrc : ∀ j u, (u8s l)[j]? = some u → w2.cell? (ad0.add j) = some u := by
        obtain ⟨ad, e, hs⟩ := (HB.out.only H2.out.old (fun _ _ _ h => h) : Bytes w2 (.slice (some ad0) len0 cap0) l).src (by rw [u8s_len]; exact HL0.out)
        cases e; exact hs
      have HSRC := Lib.hid hsrc; clear hsrc
      go_upto_region 4 with (fail)
      refine wp_region_lit ?_
      refine wpList_plain rfl fun J hJ => ?_; go_simp; refine hJ _ _ ?_; clear hJ J
      refine wpList_append_lies w2 rfl (.const (.slice none 0 0)) (.tmp 29) 22 rfl w2.heap.size 5 i0 (.int .u8 0) 1 1 Try.underlying22 HI.out.1 HI.out.2.1 HI.out.2.2.1 HI.out.2.2.2 rfl (by decide) (.slice none 0 0) 0 [] (by rfl) ⟨by simp, .inl ⟨rfl, rfl⟩⟩ ad0 len0 cap0 (u8s l) (by rfl) (by rw [u8s_len, HL.out, Nat.mul_one]) HSRC.out u8s_one hp (by simp only [maxLen]; omega) (by omega) (Nat.le_refl _) w2.heap.size rfl ?_
      intro g cap w3 hown hgrow hat hlt
      have hge : g = w2.heap.size := by
        rcases hat with h | h
        · cases h
        · exact h
      have o3 : Only (fun _ => False) w2 w3 := (Only.refl _ w2).grown hgrow (by intro k hk; cases hk)
      have hrw := (Row.of_own hown).2
      simp only [Nat.zero_add, List.nil_append, Nat.mul_one] at hrw ⊢
      obtain ⟨cur, hh, hcap, hcm, hcur⟩ : ∃ cur, w3.heap[g]? = some (.cells cur 5) ∧ len0 ≤ cap ∧ cap ≤ maxLen ∧ ∀ j, j < len0 → cur[j]? = (u8s l)[j]? := by
        rcases hrw with ⟨e, _⟩ | ⟨g', off, cap', cur, e, _, hh, h3, h4, h5, h6⟩
        · cases e
        · injection e with e1 e2 e3
          injection e1 with e1
          injection e1 with e4 e5 e6
          subst e4; subst e5; subst e3
          exact ⟨cur, hh, h3, h4, fun j hj => by have := h6 j hj; rwa [Nat.zero_add] at this⟩
      have hb3 : Bytes w3 (.slice (some ⟨g, 0, none⟩) len0 cap) l := by
        refine ⟨_, cap, by rw [HL.out], by rw [HL.out]; exact hcap, by unfold maxLen at hcm; omega, fun _ => ⟨g, 0, rfl, hlt, fun j v hv => ?_⟩⟩
        have hj : j < len0 := by have := (List.getElem?_eq_some_iff.1 hv).1; rw [u8s_len, HL.out] at this; exact this
        simp only [World.cell?, hh]
        rw [Nat.zero_add, hcur j hj]; exact hv
      obtain ⟨x, hx, hx0, hx1⟩ : ∃ x : Int, (u8s l)[0]? = some (.int .u8 x) ∧ 0 ≤ x ∧ x ≤ 255 := by
        refine ⟨(l[0]'HL0.out).toNat, ?_, by omega, by have := (l[0]'HL0.out).toNat_lt; omega⟩
        unfold u8s; rw [List.getElem?_map, List.getElem?_eq_getElem HL0.out]; rfl
      have hgc : ∀ w' : World, w'.heap[g]? = w3.heap[g]? → w'.cell? ⟨g, 0, none⟩ = some (.int .u8 x) ∧ w'.frozen? ⟨g, 0, none⟩ = false := by
        intro w' he
        rw [hh] at he
        refine ⟨?_, by simp [World.frozen?, he]⟩
        simp only [World.cell?, he]
        rw [hcur 0 hp]; exact hx
      have hcapi : (len0 : Int) ≤ (cap : Int) := by omega
      have HGC := Lib.hid hgc; have HB3 := Lib.hid hb3; have H3 := Lib.hid (H2.out.only o3 (fun _ h => h.elim)); have HGE := Lib.hid hge
      have hlt3 : g < w3.heap.size := hlt
      clear hgc hb3 o3 hrw hh hcur hcm hx hown hgrow hat hge hlt
      go_wp2_with fail
      have hx3 : OwnX w (fun k => k = g) w3 b (fresh 1) := H3.out.x (fun k hk e => by have := HGE.out; omega)
      have HX3 := Lib.hid hx3; clear hx3
      refine (write_x w (fun k => k = g) b (fresh 1) 0 0 _ l _ HX3.out (by rfl) HB3.out HL64.out (fun _ k hk => .inr (by cases hk; rfl)) (fun k e => by subst e; exact hlt3) (Fine.fresh 1)).mono ?_
      rintro e w4 ⟨rfl, h4, o4⟩
      rw [B0.out]
      obtain ⟨q1, q2⟩ := HGC.out w4 (o4.block _ hlt3 (fun h => h.2 rfl))
      have hlt4 : g < w4.heap.size := Nat.lt_of_lt_of_le hlt3 o4.size
      have H4 := Lib.hid h4; clear h4 o4
      go_upto_region 8 with (fail)
      generalize hY : bits BinOp.xor IntKind.u8 x 1 = y
      have h5 := H4.out.only ((Only.refl (fun k => k = g) w4).setCell (p := ⟨g, 0, none⟩) (.inl rfl) (.int .u8 y)) (fun k _ e => by subst e; exact ⟨by have := HX3.out.old.size; have := HGE.out; have := H2.out.old.size; omega, rfl⟩)
      have hlt5 : g < (w4.setCell ⟨g, 0, none⟩ (.int .u8 y)).heap.size := by simpa using hlt4
      generalize w4.setCell ⟨g, 0, none⟩ (.int .u8 y) = w5 at h5 hlt5 ⊢
      have H5 := Lib.hid h5.guard; clear h5 q1 q2
      have hr := read_x w _ b _ 1 0 w5 H5.out K1.out F1.out
      rw [V1.out] at hr
      have HR := Lib.hid hr; clear hr
      go_wp2_with fail
      refine HR.out.mono ?_
      rintro e w6 ⟨v6, rfl, ht6, h6, o6⟩
      obtain ⟨ga, x6, hga, rfl, hga2, q1, q2, x60, x61, hba⟩ := told_cell ht6 HL0.out HL64.out
      rw [HL.out] at hba
      have cA : ∀ n, (convert 22 9 (.slice (some ⟨ga, 0, none⟩) len0 64)).run Try.prog (w6.drewN n) = .ok (.string ⟨l.toArray⟩) (w6.drewN n) := fun n => (hba.drewN n).conv
      have cP : ∀ n, (convert 22 9 (.slice (some ad0) len0 cap0)).run Try.prog (w6.drewN n) = .ok (.string ⟨l.toArray⟩) (w6.drewN n) := fun n => ((HB.out.only h6.old (fun _ _ _ h => h)).drewN n).conv
      have s56 : w5.heap.size ≤ w6.heap.size := o6.size
      have H6 := Lib.hid h6; clear h6 o6 ht6 hba
      go_upto_region 9 with (fail)
      go_quiet (fail)
      clear cA cP
      go_upto_region 12 with (fail)
      generalize hY6 : bits BinOp.xor IntKind.u8 x6 2 = y6
      have h7 := H6.out.only (((Only.refl (fun k => k = ga) w6).drewN nq).setCell (p := ⟨ga, 0, none⟩) (.inl rfl) (.int .u8 y6)) (fun k _ e => by subst e; exact ⟨Nat.le_trans H5.out.old.size hga, .inr hga⟩)
      have hlt7 : ga < ((w6.drewN nq).setCell ⟨ga, 0, none⟩ (.int .u8 y6)).heap.size := by simpa using hga2
      have s67 : w6.heap.size ≤ ((w6.drewN nq).setCell ⟨ga, 0, none⟩ (.int .u8 y6)).heap.size := by simp
      generalize (w6.drewN nq).setCell ⟨ga, 0, none⟩ (.int .u8 y6) = w7 at h7 hlt7 s67 ⊢
      have H7 := Lib.hid h7; clear h7 q1 q2 H6
      go_wp2_with fail
      refine (sync_x w _ b _ 1 w7 H7.out K1.out F1.out).mono ?_
      rintro e w8 ⟨rfl, h8, o8⟩
      have s78 : w7.heap.size ≤ w8.heap.size := o8.size
      have H8 := Lib.hid h8; clear h8 o8 H7
      have hr8 := read_x w _ b _ 2 0 w8 H8.out K2.out F2.out
      rw [V2.out] at hr8
      have HR8 := Lib.hid hr8; clear hr8
      go_wp2_with fail
      refine HR8.out.mono ?_
      rintro e w9 ⟨v9, rfl, ht9, h9, o9⟩
      obtain ⟨gb, x9, hgb, rfl, hgb2, q1, q2, x90, x91, _⟩ := told_cell ht9 HL0.out HL64.out
      have H9 := Lib.hid h9.guard; have O9 := Lib.hid o9; clear h9 o9 ht9
      have hgb0 : w.heap.size ≤ gb := Nat.le_trans H8.out.old.size hgb
      have hgx : w5.heap.size ≤ gb := by omega
      go_upto_region 15 with (fail)
      generalize hY9 : bits BinOp.xor IntKind.u8 x9 4 = y9
      have h10 := H9.out.only ((Only.refl (fun k => k = gb) w9).setCell (p := ⟨gb, 0, none⟩) (.inl rfl) (.int .u8 y9)) (fun k _ e => by subst e; exact ⟨hgb0, .inl (.inr hgx)⟩)
      generalize w9.setCell ⟨gb, 0, none⟩ (.int .u8 y9) = w10 at h10 ⊢
      have H10 := Lib.hid h10; clear h10 q1 q2 H9
      have hr10 := read_x w _ b _ 2 0 w10 H10.out K2.out F2.out
      rw [V2.out] at hr10
      have HR10 := Lib.hid hr10; clear hr10
      go_wp2_with fail
      refine HR10.out.mono ?_
      rintro e w11 ⟨v11, rfl, ht11, h11, o11⟩
      obtain ⟨gc, x11, hgc, rfl, hgc2, q1, q2, x110, x111, hbc⟩ := told_cell ht11 HL0.out HL64.out
      rw [HL.out] at hbc
      have cA : ∀ n, (convert 22 9 (.slice (some ⟨gc, 0, none⟩) len0 64)).run Try.prog (w11.drewN n) = .ok (.string ⟨l.toArray⟩) (w11.drewN n) := fun n => (hbc.drewN n).conv
      have cP : ∀ n, (convert 22 9 (.slice (some ad0) len0 cap0)).run Try.prog (w11.drewN n) = .ok (.string ⟨l.toArray⟩) (w11.drewN n) := fun n => ((HB.out.only h11.old (fun _ _ _ h => h)).drewN n).conv
      have H11 := Lib.hid h11; clear h11 o11 ht11 hbc q1 q2
      go_upto_region 16 with (fail)
      go_quiet (fail)
      go_wp2
      go_ret
      exact ⟨rfl, (H11.out.old.drewN _).still⟩
    · have e64 : decide ((64 : Int) < (len0 : Int)) = true := by simp; omega
      go_enter Try.func4, Try.ntmps4
      go_wp2_with fail
      refine (awake_any _).mono ?_
      rintro e w1 ⟨rfl, o1⟩
      go_wp2_with fail
      refine (awake_any _).mono ?_
      rintro e w2 ⟨rfl, o2⟩
      go_wp2
      go_ret
      exact ⟨rfl, (o1.trans o2).still⟩
end Go.Proofs.Ytlkglhgndfhjeaa
