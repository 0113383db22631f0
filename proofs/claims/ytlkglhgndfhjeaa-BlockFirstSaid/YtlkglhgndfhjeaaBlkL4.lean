/- columbarylaw01.BlockFirst: the walk. -/
import Derived.Test.YtlkglhgndfhjeaaBlkL3
namespace Go.Proofs.Ytlkglhgndfhjeaa
open Go Go.RowKit Go.ChangeShapes Go.WideShapes
set_option linter.unusedVariables false
set_option linter.unusedSimpArgs false

/-- Two disks, apart from one another. -/
structure Two (W : World) (a b : Nat) (sa sb : Dk) (m : Nat) (w : World) : Prop where
  ex : ∃ Fa Fb : Nat → Prop, DiskAt w Fa a sa ∧ DiskAt w Fb b sb ∧ (∀ k, Fa k → W.heap.size ≤ k ∧ k < w.heap.size ∧ ¬ Fb k) ∧ (∀ k, Fb k → W.heap.size ≤ k ∧ k < w.heap.size)
  old : Only (fun _ => False) W w
  fa : Fine sa m
  fb : Fine sb m
  oa : sa.off = false
  ob : sb.off = false
  aa : sa.armed = 0
  ab : sb.armed = 0
  na : sa.sure.length = 4
  nb : sb.sure.length = 4
theorem Two.xa {W w : World} {a b m : Nat} {sa sb : Dk} (h : Two W a b sa sb m w) : ∃ X : Nat → Prop, OwnX W X w a sa ∧ (∀ k, X k → k < w.heap.size) ∧ ∃ Fb : Nat → Prop, DiskAt w Fb b sb ∧ ∀ k, Fb k → X k ∧ W.heap.size ≤ k := by
  obtain ⟨Fa, Fb, h1, h2, h3, h4⟩ := h.ex
  exact ⟨Fb, ⟨Fa, h1, h3, h.old⟩, fun k hk => (h4 k hk).2, Fb, h2, fun k hk => ⟨hk, (h4 k hk).1⟩⟩
theorem Two.swap {W w : World} {a b m : Nat} {sa sb : Dk} (h : Two W a b sa sb m w) : Two W b a sb sa m w := by
  obtain ⟨Fa, Fb, h1, h2, h3, h4⟩ := h.ex
  exact ⟨⟨Fb, Fa, h2, h1, fun k hk => ⟨(h4 k hk).1, (h4 k hk).2, fun ha => (h3 k ha).2.2 hk⟩, fun k hk => ⟨(h3 k hk).1, (h3 k hk).2.1⟩⟩, h.old, h.fb, h.fa, h.ob, h.oa, h.ab, h.aa, h.nb, h.na⟩
theorem Two.only {W w w' : World} {a b m : Nat} {sa sb : Dk} (h : Two W a b sa sb m w) (ho : Only (fun _ => False) w w') : Two W a b sa sb m w' := by
  obtain ⟨Fa, Fb, h1, h2, h3, h4⟩ := h.ex
  exact ⟨⟨Fa, Fb, h1.only ho (fun _ _ _ h => h), h2.only ho (fun _ _ _ h => h), fun k hk => ⟨(h3 k hk).1, Nat.lt_of_lt_of_le (h3 k hk).2.1 ho.size, (h3 k hk).2.2⟩, fun k hk => ⟨(h4 k hk).1, Nat.lt_of_lt_of_le (h4 k hk).2 ho.size⟩⟩, h.old.trans ho, h.fa, h.fb, h.oa, h.ob, h.aa, h.ab, h.na, h.nb⟩
theorem Two.more {W w : World} {a b m k : Nat} {sa sb : Dk} (h : Two W a b sa sb m w) (hk : m ≤ k) (hm : k ≤ 1000000000) : Two W a b sa sb k w :=
  ⟨h.ex, h.old, h.fa.mono hk hm, h.fb.mono hk hm, h.oa, h.ob, h.aa, h.ab, h.na, h.nb⟩
theorem two_write (W : World) (a b m : Nat) (sa sb : Dk) (i : Int) (v : Value) (l : List UInt8) (w : World) (h : Two W a b sa sb m w) (hi : 0 ≤ i ∧ i < 4) (hv : Bytes w v l) (h64 : l.length ≤ 64) (hvB : 0 < l.length → ∀ k, v.ownBlock = some k → k < W.heap.size) (hm : m + 1 ≤ 1000000000) :
    Calls Try.prog 18 #[.pointer (some ⟨a, 0, none⟩), .int .i64 i, v] w fun e w' => e = .returned (.int .i64 0) ∧ Two W a b (wrote sa i l) sb (m + 1) w' ∧ Only (fun k => W.heap.size ≤ k) w w' := by
  obtain ⟨Fa, Fb, h1, h2, h3, h4⟩ := h.ex
  have hl : lookE sa i = 0 := look0 hi.1 (by rw [h.na]; exact hi.2) h.oa
  refine (write_x W Fb a sa m i v l w ⟨Fa, h1, h3, h.old⟩ hl hv h64 (fun hp k hk => .inl (hvB hp k hk)) (fun k hk => (h4 k hk).2) h.fa).mono ?_
  rintro e w' ⟨he, ⟨Fa', g1, g2, g3⟩, ho⟩
  have hb : (begun sa).off = false := by rw [begun_armed0 sa h.aa]; exact h.oa
  obtain ⟨c0, c1, c2, c3, c4⟩ := wrote_calm h.oa h.aa i l
  refine ⟨by rw [he, hb]; rfl, ⟨⟨Fa', Fb, g1, h2.only ho (fun k hk _ hs => hs.2 hk), g2, fun k hk => ⟨(h4 k hk).1, Nat.lt_of_lt_of_le (h4 k hk).2 ho.size⟩⟩, g3, h.fa.wrote hm (by rw [h.na]; exact hi) l, h.fb.mono (by omega) hm, c1, h.ob, c2, h.ab, by rw [c3]; exact h.na, h.nb⟩, ho.mono (fun k _ hk => hk.1)⟩
theorem two_restart (W : World) (a b m : Nat) (sa sb : Dk) (keep torn : Int) (w : World) (h : Two W a b sa sb m w) :
    Calls Try.prog 20 #[.pointer (some ⟨a, 0, none⟩), .int .i64 keep, .int .i64 torn] w fun e w' => e = .returned (.int .i64 0) ∧ Two W a b (restarted sa keep torn) sb m w' ∧ Only (fun k => W.heap.size ≤ k) w w' := by
  obtain ⟨Fa, Fb, h1, h2, h3, h4⟩ := h.ex
  refine (restart_x W Fb a sa m keep torn w ⟨Fa, h1, h3, h.old⟩ h.fa).mono ?_
  rintro e w' ⟨he, ⟨Fa', g1, g2, g3⟩, ho⟩
  exact ⟨he, ⟨⟨Fa', Fb, g1, h2.only ho (fun k hk _ hs => hs.2 hk), g2, fun k hk => ⟨(h4 k hk).1, Nat.lt_of_lt_of_le (h4 k hk).2 ho.size⟩⟩, g3, h.fa.restarted keep torn, h.fb, rfl, h.ob, rfl, h.ab, by rw [restarted_len]; exact h.na, h.nb⟩, ho.mono (fun k _ hk => hk.1)⟩
theorem two_read (W : World) (a b m i : Nat) (sa sb : Dk) (w : World) (h : Two W a b sa sb m w) (hi : i < 4) :
    Calls Try.prog 21 #[.pointer (some ⟨a, 0, none⟩), .int .i64 i] w fun e w' => ∃ v, e = .returned (.tuple #[v, .int .i64 0]) ∧ Bytes w' v ((view sa).getD i []) ∧ Two W a b sa sb m w' ∧ Only (fun _ => False) w w' := by
  obtain ⟨Fa, Fb, h1, h2, h3, h4⟩ := h.ex
  have hl : lookE sa i = 0 := look0 (by omega) (by rw [h.na]; omega) h.oa
  refine (read_x W Fb a sa m i w ⟨Fa, h1, h3, h.old⟩ hl h.fa).mono ?_
  rintro e w' ⟨v, he, ht, _, ho⟩
  exact ⟨v, he, bytes_told ht (disk_len64 h1 (by rw [h.na]; exact hi)), h.only ho, ho⟩
theorem two_new (W : World) (w : World) (hW : Only (fun _ => False) W w) (a : Nat) (h : Own W w.heap.size w a (fresh 4)) :
    Calls Try.prog 17 #[.int .i64 4] w fun e w' => ∃ b, e = .returned (.tuple #[.pointer (some ⟨b, 0, none⟩), .int .i64 0]) ∧ Two W a b (fresh 4) (fresh 4) 0 w' := by
  obtain ⟨F, h1, h2, h3⟩ := h
  refine (new_any 4 w (by decide) (by decide)).mono ?_
  rintro e w' ⟨b, he, hb, hd, ho⟩
  exact ⟨b, he, ⟨F, _, h1.only ho (fun _ _ _ h => h), hd, fun k hk => ⟨(h2 k hk).1, Nat.lt_of_lt_of_le (h2 k hk).2 ho.size, fun hx => by have := (h2 k hk).2; have := hx.1; omega⟩, fun k hk => ⟨Nat.le_trans h3.size hk.1, hk.2⟩⟩, h3.trans ho, Fine.fresh 4, Fine.fresh 4, rfl, rfl, rfl, rfl, rfl, rfl⟩

/-- The writes so far. -/
def wrt (l : List (Int × List UInt8)) : Dk := { fresh 4 with wait := l.map fun p => (p.1, pad64 p.2), ops := l.length }
theorem wrt_snoc (l : List (Int × List UInt8)) (i : Int) (p : List UInt8) : wrote (wrt l) i p = wrt (l ++ [(i, p)]) := by
  unfold wrote
  rw [begun_armed0 _ rfl]
  simp [wrt]
theorem first_view (l : List (Int × List UInt8)) (k : Nat) : view (restarted (wrt l) k 0) = view (wrt (l.take k)) := by
  rw [view_restarted]
  have hk : kept (wrt l) k = min k l.length := by
    unfold kept
    have : (wrt l).wait.length = l.length := by simp [wrt]
    rw [this]; omega
  have hs : settled (wrt l).sure ((wrt l).wait.take (kept (wrt l) k)) = view (wrt (l.take k)) := by
    unfold view
    show settled (fresh 4).sure _ = settled (fresh 4).sure _
    rw [hk]
    congr 1
    show List.take (min k l.length) (l.map _) = (l.take k).map _
    rw [← List.map_take]
    congr 1
    rw [List.take_eq_take_iff]; omega
  rw [hs]
  cases hg : (wrt l).wait[kept (wrt l) k]? with
  | none => rfl
  | some p =>
    show (view (wrt (l.take k))).set p.1.toNat (p.2.take 0 ++ ((view (wrt (l.take k))).getD p.1.toNat []).drop 0) = _
    rw [List.take_zero, List.nil_append, List.drop_zero]
    generalize view (wrt (l.take k)) = s
    apply List.ext_getElem?
    intro j
    rw [List.getElem?_set, List.getD_eq_getElem?_getD]
    by_cases hj : p.1.toNat = j
    · subst hj
      rw [if_pos rfl]
      by_cases hlt : p.1.toNat < s.length
      · rw [if_pos hlt, List.getElem?_eq_getElem hlt]; rfl
      · rw [if_neg hlt, List.getElem?_eq_none (by omega)]
    · rw [if_neg hj]

set_option maxRecDepth 100000 in
set_option maxHeartbeats 4000000 in
theorem first0 (v : Value) (len : Nat) (keep : Int) (w : World) (h : Elems w w.heap.size 5 (fun cs => ∃ c, IsAct1 w w.heap.size c cs) v len) (hk0 : 0 ≤ keep) (hk1 : keep ≤ 255) :
    Calls Try.prog 5 #[v, .int .u8 keep] w fun e w' => e = .returned (.bool true) ∧ Below w.heap.size w w' := by
  obtain ⟨ac, cap, acts, rfl, hc1, hc2, hal, hact⟩ := acts_list h
  have hlen : len ≤ 9223372036854775807 := by omega
  have HAL := Lib.hid hal; have HACT := Lib.hid hact; clear hal hact h
  go_enter Try.func5, Try.ntmps5
  go_wp2_with fail
  refine (awake_any _).mono ?_
  rintro e w1 ⟨rfl, o1⟩
  have hN : Calls Try.prog 17 #[.int .i64 4] w1 _ := new_own w 4 w1 o1 (by decide) (by decide)
  have HN := Lib.hid hN; have O1 := Lib.hid o1; clear hN o1
  go_wp2_with fail
  refine HN.out.mono ?_
  rintro e w2 ⟨a, rfl, h2, o2⟩
  have hM := two_new w w2 (O1.out.trans o2) a h2
  have HM := Lib.hid hM; clear hM h2 o2
  go_wp2_with fail
  refine HM.out.mono ?_
  rintro e w3 ⟨b, rfl, h3⟩
  have H3 : Hid (Two w a b (wrt []) (wrt ([].take 0)) 0 w3) := Lib.hid h3
  clear h3
  go_upto_region 7 with (fail)
  obtain ⟨k, hke, hk20⟩ : ∃ k : Nat, keep % 20 = (k : Int) ∧ k ≤ 20 := ⟨(keep % 20).toNat, by omega, by omega⟩
  rw [hke]
  have HKE := Lib.hid hke; clear hke
  go_upto_block 0 with (fail)
  go_cut [] from 27 (fun w' => ∃ L : List (Int × List UInt8), Hid (Two w a b (wrt L) (wrt (L.take k)) 40 w'))
  case first =>
    go_wp2_with fail
    go_loopw [9, 11] (fun v9 v11 wr => ∃ (i : Nat) (L : List (Int × List UInt8)), v11 = .int .i64 (i : Int) ∧ v9 = .int .i64 (L.length : Int) ∧ L.length ≤ i ∧ i ≤ 20 ∧ i ≤ len ∧ Hid (Two w a b (wrt L) (wrt (L.take k)) (2 * i) wr)) (fun _ v _ => 20 - (intOf v).toNat)
    case atStart => exact ⟨0, [], by simp, by simp, by simp, by omega, by omega, Lib.hid (by simpa using H3.out)⟩
    case round =>
      obtain ⟨i, L, rfl, rfl, hLi, hi20, hil, HC⟩ := hrel
      by_cases hlt : i < len ∧ i < 20
      · obtain ⟨hl1, hl2⟩ := hlt
        have t1 : decide ((i : Int) < (len : Int)) = true := by simp; omega
        have t2 : decide ((i : Int) < 20) = true := by simp; omega
        obtain ⟨bs, off, vp, rfl, hbs, k0, k1, k2, k3, k4, hold, kb, ib, nb, kkb⟩ := HACT.out i (by rw [HAL.out]; exact hl1)
        have hand := and3 (acts[i]'(by rw [HAL.out]; exact hl1)).i
        have hj : 0 ≤ (acts[i]'(by rw [HAL.out]; exact hl1)).i % 4 ∧ (acts[i]'(by rw [HAL.out]; exact hl1)).i % 4 < 4 := by omega
        generalize (acts[i]'(by rw [HAL.out]; exact hl1)).i = I at *
        generalize (acts[i]'(by rw [HAL.out]; exact hl1)).p = l at *
        clear k0 k3 k4 kb nb kkb
        obtain ⟨J, hJ⟩ : ∃ J, I % 4 = J := ⟨_, rfl⟩
        rw [hJ] at hand hj
        clear hJ
        have hold2 := hold.1.only (HC.out.old) (fun _ _ _ h => h)
        obtain ⟨ap, cp, rfl, hb1, hb2, hb3⟩ := hold2
        have hb63 : l.length ≤ 9223372036854775807 := by omega
        have HOLD := Lib.hid hold; clear hold hb3
        have g1 : wr.cell? ⟨bs, off + i * 5 + 1, none⟩ = some (.int .i64 I) := by
          rw [cell_only HC.out.old (a := ⟨bs, _, none⟩) hbs (fun h => h), Nat.add_assoc]; exact k1
        have g2 : wr.cell? ⟨bs, off + i * 5 + 2, none⟩ = some (.slice ap l.length cp) := by
          rw [cell_only HC.out.old (a := ⟨bs, _, none⟩) hbs (fun h => h), Nat.add_assoc]; exact k2
        have hbw : bs < wr.drew.heap.size := Nat.lt_of_lt_of_le hbs HC.out.old.size
        have ii0 : (0 : Int) ≤ (i : Int) := by omega
        have ii1 : (i : Int) < (len : Int) := by omega
        clear k1 k2
        by_cases hp : l.length ≤ 64
        · have p1 : decide ((64 : Int) < (l.length : Int)) = false := by simp; omega
          have HCd := Lib.hid (HC.out.only ((Only.refl (fun _ => False) wr).drew))
          go_upto_region 11 with (fail)
          go_region_held3 (fun w' => w'.cell? ⟨bs, off + i * 5 + 1, none⟩ = some (.int .i64 I) ∧ w'.cell? ⟨bs, off + i * 5 + 2, none⟩ = some (.slice ap l.length cp)) (first | exact ⟨g1, g2⟩ | exact ⟨(cell_only o4 (a := ⟨bs, _, none⟩) hbw (fun e => by have e1 : w.heap.size ≤ bs := e; omega)).trans g1, (cell_only o4 (a := ⟨bs, _, none⟩) hbw (fun e => by have e1 : w.heap.size ≤ bs := e; omega)).trans g2⟩)
            ((go_at_call 18; refine (two_write w a b (2 * i) (wrt L) (wrt (L.take k)) J _ l _ HCd.out hj (HOLD.out.1.only HCd.out.old (fun _ _ _ h => h)) hp (fun h k hk => HOLD.out.2 h k hk) (by omega)).mono ?_; rintro e w4 ⟨rfl, h4, o4⟩))
          have g1' : w4.cell? ⟨bs, off + i * 5 + 1, none⟩ = some (.int .i64 I) := (cell_only o4 (a := ⟨bs, _, none⟩) hbw (fun e => by have e1 : w.heap.size ≤ bs := e; omega)).trans g1
          have g2' : w4.cell? ⟨bs, off + i * 5 + 2, none⟩ = some (.slice ap l.length cp) := (cell_only o4 (a := ⟨bs, _, none⟩) hbw (fun e => by have e1 : w.heap.size ≤ bs := e; omega)).trans g2
          have hbw4 : bs < w4.drew.heap.size := Nat.lt_of_lt_of_le hbw o4.size
          rw [wrt_snoc] at h4
          have H4 := Lib.hid h4; clear h4 o4 g1 g2
          by_cases hn : L.length < k
          · have n1 : decide ((L.length : Int) < (k : Int)) = true := by simp; omega
            have hc5 := (H4.out.only ((Only.refl (fun _ => False) w4).drew)).swap
            have HCe := Lib.hid hc5; clear hc5
            go_upto_region 13 with (fail)
            go_region_held3 (fun w' => w'.cell? ⟨bs, off + i * 5 + 1, none⟩ = some (.int .i64 I) ∧ w'.cell? ⟨bs, off + i * 5 + 2, none⟩ = some (.slice ap l.length cp)) (first | exact ⟨g1', g2'⟩ | exact ⟨(cell_only o5 (a := ⟨bs, _, none⟩) hbw4 (fun e => by have e1 : w.heap.size ≤ bs := e; omega)).trans g1', (cell_only o5 (a := ⟨bs, _, none⟩) hbw4 (fun e => by have e1 : w.heap.size ≤ bs := e; omega)).trans g2'⟩)
              ((go_at_call 18; refine (two_write w b a (2 * i + 1) (wrt (L.take k)) (wrt (L ++ [(J, l)])) J _ l _ HCe.out hj (HOLD.out.1.only HCe.out.old (fun _ _ _ h => h)) hp (fun h k hk => HOLD.out.2 h k hk) (by omega)).mono ?_; rintro e w5 ⟨rfl, h5, o5⟩))
            have h6 := h5.swap
            rw [wrt_snoc, List.take_of_length_le (by omega)] at h6
            have e6 : (L ++ [(J, l)]).take k = L ++ [(J, l)] := List.take_of_length_le (by simp; omega)
            have H6 : Hid (Two w a b (wrt (L ++ [(J, l)])) (wrt ((L ++ [(J, l)]).take k)) (2 * (i + 1)) w5) := Lib.hid (by rw [e6]; exact h6)
            clear h5 o5 h6 e6 g1' g2'
            go_wp2_with fail
            go_roundw
            case rel => exact ⟨i + 1, L ++ [(J, l)], by simp [go_sem], by simp [go_sem], by simp; omega, by omega, by omega, H6⟩
            case measure => simp [intOf]; omega
          · have n1 : decide ((L.length : Int) < (k : Int)) = false := by simp; omega
            have e6 : (L ++ [(J, l)]).take k = L.take k := List.take_append_of_le_length (by omega)
            have H6 : Hid (Two w a b (wrt (L ++ [(J, l)])) (wrt ((L ++ [(J, l)]).take k)) (2 * (i + 1)) w4) := Lib.hid (by rw [e6]; exact H4.out.more (by omega) (by omega))
            clear e6 g1' g2'
            go_wp2_with fail
            go_roundw
            case rel => exact ⟨i + 1, L ++ [(J, l)], by simp [go_sem], by simp [go_sem], by simp; omega, by omega, by omega, H6⟩
            case measure => simp [intOf]; omega
        · have p1 : decide ((64 : Int) < (l.length : Int)) = true := by simp; omega
          go_wp2_with fail
          go_roundw
          case rel => exact ⟨i + 1, L, by simp [go_sem], rfl, by omega, by omega, by omega, Lib.hid (HC.out.more (by omega) (by omega))⟩
          case measure => simp [intOf]; omega
      · by_cases hl1 : i < len
        · have t1 : decide ((i : Int) < (len : Int)) = true := by simp; omega
          have t2 : decide ((i : Int) < 20) = false := by simp; omega
          go_wp2_with fail
          go_meet
          case rel => exact ⟨L, Lib.hid (HC.out.more (by omega) (by omega))⟩
        · have t1 : decide ((i : Int) < (len : Int)) = false := by simp; omega
          go_wp2_with fail
          go_meet
          case rel => exact ⟨L, Lib.hid (HC.out.more (by omega) (by omega))⟩
  case rest =>
    obtain ⟨L, HC⟩ := hcut
    have hfv := first_view L k
    have HFV := Lib.hid hfv; clear hfv
    go_wp2_with fail
    refine (two_restart w a b 40 (wrt L) (wrt (L.take k)) k 0 _ HC.out).mono ?_
    rintro e w4 ⟨rfl, h4, o4⟩
    have H4 := Lib.hid h4; clear h4 o4
    go_wp2_with fail
    go_loopw [12] (fun v wr => ∃ (i : Nat), v = .int .i64 (i : Int) ∧ i ≤ 4 ∧ Hid (Two w a b (restarted (wrt L) k 0) (wrt (L.take k)) 40 wr)) (fun v _ => 4 - (intOf v).toNat)
    case atStart => exact ⟨0, by simp, by omega, H4⟩
    case round =>
      obtain ⟨i, rfl, hi4, HT⟩ := hrel
      by_cases hlt : i < 4
      · have t1 : decide ((i : Int) < 4) = true := by simp; omega
        go_wp2_with fail
        refine (two_read w a b 40 i _ _ _ HT.out hlt).mono ?_
        rintro e w5 ⟨v5, rfl, hb5, h5, o5⟩
        rw [HFV.out] at hb5
        have HB5 := Lib.hid hb5; have H5 := Lib.hid h5; clear hb5 h5 o5
        go_wp2_with fail
        refine (two_read w b a 40 i _ _ _ H5.out.swap hlt).mono ?_
        rintro e w6 ⟨v6, rfl, hb6, h6, o6⟩
        have c6 := hb6.conv
        have c5 := (HB5.out.only o6 (fun _ _ _ h => h)).conv
        generalize (view (wrt (L.take k))).getD i [] = ss at c5 c6
        have H6 := Lib.hid h6.swap; clear hb6 h6 o6 HB5
        go_wp2_with fail
        go_roundw
        case rel => exact ⟨i + 1, by simp [go_sem], by omega, H6⟩
        case measure => simp [intOf]; omega
      · have hke : i = 4 := by omega
        subst hke
        have t1 : decide (((4 : Nat) : Int) < 4) = false := by decide
        go_wp2
        go_ret
        exact ⟨rfl, HT.out.old.still⟩

theorem first_walk (v : Value) (keep : Int) (w : World) {H : Type} {enc : TypeId × Value → H} {d : DataW H} {p : List MemPlace} {base : Nat}
    (h : DataW.Trod enc Try.prog w 0 (fun _ => true) true 35 v d p) (hv : Value.okWide Try.prog w .any base 35 v) (w1 : (Lit.int .u8 keep).wf = true) :
    Calls Try.prog 5 #[v, .int .u8 keep] w fun e w' => e = .returned (.bool true) ∧ Below w.heap.size w w' := by
  obtain ⟨len, hel⟩ := acts1_of_trod (okWide_slice Try.underlying35 hv) h
  exact first0 v len keep w hel (u8_bd w1).1 (u8_bd w1).2
end Go.Proofs.Ytlkglhgndfhjeaa
