/- columbarylaw01.BlockPlays: the walk. -/
import Derived.Test.YtlkglhgndfhjeaaRkP
import Derived.Test.YtlkglhgndfhjeaaChn
import Derived.BigQuiet
import Derived.Deep.QuietTactic
namespace Go.Proofs.Ytlkglhgndfhjeaa
open Go Go.RowKit Go.ChangeShapes Go.WideShapes
set_option linter.unusedVariables false
set_option linter.unusedSimpArgs false
set_option maxRecDepth 100000

/-- Within an act: its copy lies at ba. -/
def InAct (W : World) (ba d m : Nat) (k i : Int) (vp : Value) (n q : Int) (s t : Dk) (w : World) : Prop :=
  Pair W (fun k => k = ba) w d m s t ∧ w.heap[ba]? = some (.cells #[.int .u8 k, .int .i64 i, vp, .int .i64 n, .int .i64 q] 37 (0, 0))
theorem InAct.next {W w w' : World} {ba d m : Nat} {k i n q : Int} {vp : Value} {s t s' t' : Dk} (h : InAct W ba d m k i vp n q s t w) (hp : Pair W (fun k => k = ba) w' d m s' t') (ho : Only (fun k => W.heap.size ≤ k ∧ ¬ k = ba) w w') : InAct W ba d m k i vp n q s' t' w' :=
  ⟨hp, by rw [ho.block ba (Array.getElem?_eq_some_iff.1 h.2).1 (fun h => h.2 rfl)]; exact h.2⟩
theorem InAct.facts {W w : World} {ba d m : Nat} {k i n q : Int} {vp : Value} {s t : Dk} (h : InAct W ba d m k i vp n q s t w) : w.cell? ⟨ba, 0, none⟩ = some (.int .u8 k) ∧ w.cell? ⟨ba, 1, none⟩ = some (.int .i64 i) ∧ w.cell? ⟨ba, 2, none⟩ = some vp ∧ w.cell? ⟨ba, 3, none⟩ = some (.int .i64 n) ∧ w.cell? ⟨ba, 4, none⟩ = some (.int .i64 q) := by
  have h := h.2
  refine ⟨?_, ?_, ?_, ?_, ?_⟩ <;> simp [World.cell?, h]
theorem InAct.y {W w : World} {ba d m : Nat} {k i n q : Int} {vp : Value} {s t : Dk} (h : InAct W ba d m k i vp n q s t w) : ∀ j, j = ba → j < w.heap.size := fun j hj => by subst hj; exact (Array.getElem?_eq_some_iff.1 h.2).1

set_option maxHeartbeats 8000000 in
theorem plays0 (N : Nat) (v : Value) (len : Nat) (w : World) (hN1 : 1 ≤ N) (hN2 : N ≤ 4096) (h : Elems w w.heap.size 5 (fun cs => ∃ c, IsAct1 w w.heap.size c cs) v len) :
    Calls Try.prog 8 #[.int .i64 (N : Int), v] w fun e w' => e = .returned (.bool true) ∧ Below w.heap.size w w' := by
  obtain ⟨a, cap, acts, rfl, hc1, hc2, hal, hact⟩ := acts_list h
  have hlen : len ≤ 9223372036854775807 := by omega
  have HAL := Lib.hid hal; have HACT := Lib.hid hact; clear hal hact h
  go_enter Try.func8, Try.ntmps8
  go_wp2_with fail
  refine (awake_any _).mono ?_
  rintro e w1 ⟨rfl, o1⟩
  have hN := pair_new w N w1 o1 hN1 hN2
  have HN := Lib.hid hN; clear hN o1
  go_wp2_with fail
  refine HN.out.mono ?_
  rintro e w2 ⟨d, rfl, hm⟩
  go_wp2_with fail
  refine hm.out.mono ?_
  rintro e w3 ⟨rfl, h3⟩
  generalize w2.heap.size = m at *
  have H3 := Lib.hid h3; clear h3 hm
  have hsn : (fresh N).sure.length = N := by simp [fresh]
  have HSN := Lib.hid hsn; clear hsn HN
  go_upto_block 0 with (fail)
  go_cut [] from 9 to 188 (fun w' => ∃ (s : Dk), Hid (Pair w (fun _ => False) w' d m s s) ∧ Hid (Fine s 80) ∧ Hid (s.sure.length = N))
  case first =>
    go_wp2_with fail
    go_loopw [9] (fun v wr => ∃ (i : Nat) (s : Dk), v = .int .i64 (i : Int) ∧ i ≤ 80 ∧ i ≤ len ∧ Hid (Pair w (fun _ => False) wr d m s s) ∧ Hid (Fine s i) ∧ Hid (s.sure.length = N)) (fun v _ => 80 - (intOf v).toNat)
    case atStart => exact ⟨0, fresh N, by simp, by omega, by omega, H3, Lib.hid (Fine.fresh N), HSN⟩
    case round =>
      obtain ⟨i, s, rfl, hi80, hil, HP, HF, HS⟩ := hrel
      by_cases hlt : i < len ∧ i < 80
      · obtain ⟨hl1, hl2⟩ := hlt
        have t1 : decide ((i : Int) < (len : Int)) = true := by simp; omega
        have t2 : decide ((i : Int) < 80) = true := by simp; omega
        obtain ⟨bs, off, vp, rfl, hbs, k0, k1, k2, k3, k4, hold, kb, ib, nb, kkb⟩ := HACT.out i (by rw [HAL.out]; exact hl1)
        generalize (acts[i]'(by rw [HAL.out]; exact hl1)).kind = K at *
        generalize (acts[i]'(by rw [HAL.out]; exact hl1)).i = I at *
        generalize (acts[i]'(by rw [HAL.out]; exact hl1)).p = l at *
        generalize (acts[i]'(by rw [HAL.out]; exact hl1)).n = NN at *
        generalize (acts[i]'(by rw [HAL.out]; exact hl1)).k = KK at *
        have hW := HP.out.old
        have g0 : wr.cell? ⟨bs, off + i * 5, none⟩ = some (.int .u8 K) := by rw [cell_only hW (a := ⟨bs, _, none⟩) hbs (fun h => h)]; exact k0
        have g1 : wr.cell? ⟨bs, off + i * 5 + 1, none⟩ = some (.int .i64 I) := by rw [cell_only hW (a := ⟨bs, _, none⟩) hbs (fun h => h), Nat.add_assoc]; exact k1
        have g2 : wr.cell? ⟨bs, off + i * 5 + 2, none⟩ = some vp := by rw [cell_only hW (a := ⟨bs, _, none⟩) hbs (fun h => h), Nat.add_assoc]; exact k2
        have g3 : wr.cell? ⟨bs, off + i * 5 + 3, none⟩ = some (.int .i64 NN) := by rw [cell_only hW (a := ⟨bs, _, none⟩) hbs (fun h => h), Nat.add_assoc]; exact k3
        have g4 : wr.cell? ⟨bs, off + i * 5 + 4, none⟩ = some (.int .i64 KK) := by rw [cell_only hW (a := ⟨bs, _, none⟩) hbs (fun h => h), Nat.add_assoc]; exact k4
        have ii0 : (0 : Int) ≤ (i : Int) := by omega
        have ii1 : (i : Int) < (len : Int) := by omega
        obtain ⟨ap, cp, rfl, hb1, hb2, hb3⟩ := hold.1
        have HOLD := Lib.hid hold; have HKB := Lib.hid kb; have HIB := Lib.hid ib; have HNB := Lib.hid nb; have HKK := Lib.hid kkb
        clear hold kb ib nb kkb k0 k1 k2 k3 k4 hW hb1 hb2 hb3
        go_upto_region 11 with (fail)
        obtain ⟨ba, hba⟩ : ∃ ba, ba = wr.heap.size := ⟨_, rfl⟩
        have hin0 : InAct w ba d m K I (.slice ap l.length cp) NN KK s s (wr.alloc (.cells #[.int .u8 K, .int .i64 I, .slice ap l.length cp, .int .i64 NN, .int .i64 KK] 37)) :=
          ⟨(HP.out.mono (Z := fun k => k = ba) (fun k hk => .inr (by omega))).only ((Only.refl (fun _ => False) wr).alloc _) (fun _ _ h => h.elim), by rw [hba]; exact heap_new _ _⟩
        rw [← hba]
        generalize wr.alloc (.cells #[.int .u8 K, .int .i64 I, .slice ap l.length cp, .int .i64 NN, .int .i64 KK] 37) = wa at *
        obtain ⟨f0, f1, f2, f3, f4⟩ := hin0.facts
        have HIN := Lib.hid hin0
        have hkb1 := HKB.out.1
        have hkb2 := HKB.out.2
        clear hin0 g0 g1 g2 g3 g4 hba HP
        go_upto_block 2 with (fail)
        obtain ⟨r, hr, hr0, hr1⟩ : ∃ r, K % 10 = r ∧ 0 ≤ r ∧ r < 10 := ⟨_, rfl, by omega, by omega⟩
        rw [hr]
        clear hr hkb1 hkb2
        go_cut [11] from 63 to 127 (fun v w' => v = .bool true ∧ ∃ s', Hid (InAct w ba d m K I (.slice ap l.length cp) NN KK s' s' w') ∧ Hid (Fine s' (i + 1)) ∧ Hid (s'.sure.length = N))
        case first =>
          have hwa0 : InAct w ba d m K I (.slice ap l.length cp) NN KK s s wa.drew := ⟨HIN.out.1.only ((Only.refl (fun _ => False) wa).drew) (fun _ _ h => h.elim), HIN.out.2⟩
          have HIN0 := Lib.hid hwa0; clear hwa0
          obtain ⟨s1, E1, hs1⟩ : ∃ s1 E1, dwr s I l = (s1, E1) := ⟨_, _, rfl⟩
          obtain ⟨s2, E2, hs2⟩ : ∃ s2 E2, dsy s = (s2, E2) := ⟨_, _, rfl⟩
          have hf1 := dwr_fine HF.out (by omega) I l
          have hf2 := dsy_fine HF.out (by omega)
          rw [hs1] at hf1
          rw [hs2] at hf2
          rw [HS.out] at hf1 hf2
          have hm1 : Fine s (i + 1) := HF.out.mono (by omega) (by omega)
          have HF1 := Lib.hid hf1; have HF2 := Lib.hid hf2; have HS1 := Lib.hid hs1; have HS2 := Lib.hid hs2; have HM1 := Lib.hid hm1
          clear hf1 hf2 hs1 hs2 hm1
          have hcs : (r = 0 ∨ r = 1 ∨ r = 2 ∨ r = 3 ∨ r = 4) ∨ (r = 5 ∨ r = 6) ∨ r = 7 ∨ r = 8 ∨ r = 9 := by omega
          clear hr0 hr1
          rcases hcs with hcs | hcs | rfl | rfl | rfl
          · rcases hcs with rfl | rfl | rfl | rfl | rfl
            all_goals
              go_upto_region 18 with (fail)
              refine wp_region_chain 13 (by kernel_rfl) rfl (by kernel_rfl) [some 72, some 73, some 74, some 75, some 76, some 77, some 78, some 79, some 80, some 81, some 82, some 83, some 84] rfl rfl [5, 11] [none, none, none, none, none, some 0, none, none, none, none, none, some 1, none] (by kernel_rfl) (fun t => match t with | 0 => (fun w' => InAct w ba d m K I (.slice ap l.length cp) NN KK s s w') | 1 => (fun w' => InAct w ba d m K I (.slice ap l.length cp) NN KK s1 s w') | _ + 2 => (fun w' => InAct w ba d m K I (.slice ap l.length cp) NN KK s1 s1 w') : Nat → World → Prop) (fun w' => w'.cell? ⟨ba, 0, none⟩ = some (.int .u8 K) ∧ w'.cell? ⟨ba, 1, none⟩ = some (.int .i64 I) ∧ w'.cell? ⟨ba, 2, none⟩ = some (.slice ap l.length cp) ∧ w'.cell? ⟨ba, 3, none⟩ = some (.int .i64 NN) ∧ w'.cell? ⟨ba, 4, none⟩ = some (.int .i64 KK)) (fun t => match t with | 0 => fun w' _ hs => hs.facts | 1 => fun w' _ hs => hs.facts | _ + 2 => fun w' _ hs => hs.facts) (HIN0.out) [(fun v => v = (.pointer (some ⟨d, 0, none⟩))), (fun v => v = (.pointer (some ⟨ba, 1, none⟩))), (fun v => v = (.int .i64 I)), (fun v => v = (.pointer (some ⟨ba, 2, none⟩))), (fun v => v = (.slice ap l.length cp)), (fun v => v = (.int .i64 E1)), (fun v => v = (.pointer (some ⟨m, 0, none⟩))), (fun v => v = (.pointer (some ⟨ba, 1, none⟩))), (fun v => v = (.int .i64 I)), (fun v => v = (.pointer (some ⟨ba, 2, none⟩))), (fun v => v = (.slice ap l.length cp)), (fun v => v = (.int .i64 E1)), (fun v => v = (.bool true))] rfl _ rfl ⟨?_, ?_, ?_, ?_, ?_, ?_, ?_, ?_, ?_, ?_, ?_, ?_, ?_, trivial⟩ ?_
              · intro x wx hkx hN TT HTT
                have hkx : (fun w' => w'.cell? ⟨ba, 0, none⟩ = some (.int .u8 K) ∧ w'.cell? ⟨ba, 1, none⟩ = some (.int .i64 I) ∧ w'.cell? ⟨ba, 2, none⟩ = some (.slice ap l.length cp) ∧ w'.cell? ⟨ba, 3, none⟩ = some (.int .i64 NN) ∧ w'.cell? ⟨ba, 4, none⟩ = some (.int .i64 KK)) wx := hkx
                clear hN
                unfold StepTo
                simp only [putAll, Act.put, List.setIfInBounds_toArray, List.set_cons_succ, List.set_cons_zero]
                go_wp2_with fail
                exact ⟨rfl, _, rfl, HTT.out _ (rfl)⟩
              · intro x wx hkx hN TT HTT
                have hkx : (fun w' => w'.cell? ⟨ba, 0, none⟩ = some (.int .u8 K) ∧ w'.cell? ⟨ba, 1, none⟩ = some (.int .i64 I) ∧ w'.cell? ⟨ba, 2, none⟩ = some (.slice ap l.length cp) ∧ w'.cell? ⟨ba, 3, none⟩ = some (.int .i64 NN) ∧ w'.cell? ⟨ba, 4, none⟩ = some (.int .i64 KK)) wx := hkx
                clear hN
                unfold StepTo
                simp only [putAll, Act.put, List.setIfInBounds_toArray, List.set_cons_succ, List.set_cons_zero]
                go_wp2_with fail
                exact ⟨rfl, _, rfl, HTT.out _ (rfl)⟩
              · intro x wx hkx hN TT HTT
                have hkx : (fun w' => w'.cell? ⟨ba, 0, none⟩ = some (.int .u8 K) ∧ w'.cell? ⟨ba, 1, none⟩ = some (.int .i64 I) ∧ w'.cell? ⟨ba, 2, none⟩ = some (.slice ap l.length cp) ∧ w'.cell? ⟨ba, 3, none⟩ = some (.int .i64 NN) ∧ w'.cell? ⟨ba, 4, none⟩ = some (.int .i64 KK)) wx := hkx
                have r73 : x 1 = (.pointer (some ⟨ba, 1, none⟩)) := hN.1 rfl
                clear hN
                unfold StepTo
                simp only [putAll, Act.put, List.setIfInBounds_toArray, List.set_cons_succ, List.set_cons_zero, r73]
                clear r73
                obtain ⟨c0, c1, c2, c3, c4⟩ := hkx
                go_wp2_with fail
                exact ⟨rfl, _, rfl, HTT.out _ (rfl)⟩
              · intro x wx hkx hN TT HTT
                have hkx : (fun w' => w'.cell? ⟨ba, 0, none⟩ = some (.int .u8 K) ∧ w'.cell? ⟨ba, 1, none⟩ = some (.int .i64 I) ∧ w'.cell? ⟨ba, 2, none⟩ = some (.slice ap l.length cp) ∧ w'.cell? ⟨ba, 3, none⟩ = some (.int .i64 NN) ∧ w'.cell? ⟨ba, 4, none⟩ = some (.int .i64 KK)) wx := hkx
                clear hN
                unfold StepTo
                simp only [putAll, Act.put, List.setIfInBounds_toArray, List.set_cons_succ, List.set_cons_zero]
                go_wp2_with fail
                exact ⟨rfl, _, rfl, HTT.out _ (rfl)⟩
              · intro x wx hkx hN TT HTT
                have hkx : (fun w' => w'.cell? ⟨ba, 0, none⟩ = some (.int .u8 K) ∧ w'.cell? ⟨ba, 1, none⟩ = some (.int .i64 I) ∧ w'.cell? ⟨ba, 2, none⟩ = some (.slice ap l.length cp) ∧ w'.cell? ⟨ba, 3, none⟩ = some (.int .i64 NN) ∧ w'.cell? ⟨ba, 4, none⟩ = some (.int .i64 KK)) wx := hkx
                have r75 : x 3 = (.pointer (some ⟨ba, 2, none⟩)) := hN.1 rfl
                clear hN
                unfold StepTo
                simp only [putAll, Act.put, List.setIfInBounds_toArray, List.set_cons_succ, List.set_cons_zero, r75]
                clear r75
                obtain ⟨c0, c1, c2, c3, c4⟩ := hkx
                go_wp2_with fail
                exact ⟨rfl, _, rfl, HTT.out _ (rfl)⟩
              · intro x wx hst hN TT HTT
                have hst : (fun w' => InAct w ba d m K I (.slice ap l.length cp) NN KK s s w') wx := hst
                have r72 : x 0 = (.pointer (some ⟨d, 0, none⟩)) := hN.1 rfl
                have r74 : x 2 = (.int .i64 I) := hN.2.1 rfl
                have r76 : x 4 = (.slice ap l.length cp) := hN.2.2.1 rfl
                clear hN
                unfold StepTo
                simp only [putAll, Act.put, List.setIfInBounds_toArray, List.set_cons_succ, List.set_cons_zero, r72, r74, r76]
                clear r72 r74 r76
                have hc := pair_dwr w (fun k => k = ba) d m s s i I (.slice ap l.length cp) l wx hst.1 HF.out (HOLD.out.1.only hst.1.old (fun _ _ _ h => h)) HOLD.out.2 hst.y
                rw [HS1.out] at hc
                have HCC := Lib.hid hc; have HST := Lib.hid hst; clear hc hst
                go_wp2_with fail
                refine HCC.out.mono ?_
                rintro e w7 ⟨rfl, hp, ho⟩
                have hn := HST.out.next hp ho
                have HN := Lib.hid hn; clear hn hp ho
                go_wp2_with fail
                exact ⟨rfl, _, rfl, HTT.out _ _ (rfl) (HN.out)⟩
              · intro x wx hkx hN TT HTT
                have hkx : (fun w' => w'.cell? ⟨ba, 0, none⟩ = some (.int .u8 K) ∧ w'.cell? ⟨ba, 1, none⟩ = some (.int .i64 I) ∧ w'.cell? ⟨ba, 2, none⟩ = some (.slice ap l.length cp) ∧ w'.cell? ⟨ba, 3, none⟩ = some (.int .i64 NN) ∧ w'.cell? ⟨ba, 4, none⟩ = some (.int .i64 KK)) wx := hkx
                clear hN
                unfold StepTo
                simp only [putAll, Act.put, List.setIfInBounds_toArray, List.set_cons_succ, List.set_cons_zero]
                go_wp2_with fail
                exact ⟨rfl, _, rfl, HTT.out _ (rfl)⟩
              · intro x wx hkx hN TT HTT
                have hkx : (fun w' => w'.cell? ⟨ba, 0, none⟩ = some (.int .u8 K) ∧ w'.cell? ⟨ba, 1, none⟩ = some (.int .i64 I) ∧ w'.cell? ⟨ba, 2, none⟩ = some (.slice ap l.length cp) ∧ w'.cell? ⟨ba, 3, none⟩ = some (.int .i64 NN) ∧ w'.cell? ⟨ba, 4, none⟩ = some (.int .i64 KK)) wx := hkx
                clear hN
                unfold StepTo
                simp only [putAll, Act.put, List.setIfInBounds_toArray, List.set_cons_succ, List.set_cons_zero]
                go_wp2_with fail
                exact ⟨rfl, _, rfl, HTT.out _ (rfl)⟩
              · intro x wx hkx hN TT HTT
                have hkx : (fun w' => w'.cell? ⟨ba, 0, none⟩ = some (.int .u8 K) ∧ w'.cell? ⟨ba, 1, none⟩ = some (.int .i64 I) ∧ w'.cell? ⟨ba, 2, none⟩ = some (.slice ap l.length cp) ∧ w'.cell? ⟨ba, 3, none⟩ = some (.int .i64 NN) ∧ w'.cell? ⟨ba, 4, none⟩ = some (.int .i64 KK)) wx := hkx
                have r79 : x 7 = (.pointer (some ⟨ba, 1, none⟩)) := hN.1 rfl
                clear hN
                unfold StepTo
                simp only [putAll, Act.put, List.setIfInBounds_toArray, List.set_cons_succ, List.set_cons_zero, r79]
                clear r79
                obtain ⟨c0, c1, c2, c3, c4⟩ := hkx
                go_wp2_with fail
                exact ⟨rfl, _, rfl, HTT.out _ (rfl)⟩
              · intro x wx hkx hN TT HTT
                have hkx : (fun w' => w'.cell? ⟨ba, 0, none⟩ = some (.int .u8 K) ∧ w'.cell? ⟨ba, 1, none⟩ = some (.int .i64 I) ∧ w'.cell? ⟨ba, 2, none⟩ = some (.slice ap l.length cp) ∧ w'.cell? ⟨ba, 3, none⟩ = some (.int .i64 NN) ∧ w'.cell? ⟨ba, 4, none⟩ = some (.int .i64 KK)) wx := hkx
                clear hN
                unfold StepTo
                simp only [putAll, Act.put, List.setIfInBounds_toArray, List.set_cons_succ, List.set_cons_zero]
                go_wp2_with fail
                exact ⟨rfl, _, rfl, HTT.out _ (rfl)⟩
              · intro x wx hkx hN TT HTT
                have hkx : (fun w' => w'.cell? ⟨ba, 0, none⟩ = some (.int .u8 K) ∧ w'.cell? ⟨ba, 1, none⟩ = some (.int .i64 I) ∧ w'.cell? ⟨ba, 2, none⟩ = some (.slice ap l.length cp) ∧ w'.cell? ⟨ba, 3, none⟩ = some (.int .i64 NN) ∧ w'.cell? ⟨ba, 4, none⟩ = some (.int .i64 KK)) wx := hkx
                have r81 : x 9 = (.pointer (some ⟨ba, 2, none⟩)) := hN.1 rfl
                clear hN
                unfold StepTo
                simp only [putAll, Act.put, List.setIfInBounds_toArray, List.set_cons_succ, List.set_cons_zero, r81]
                clear r81
                obtain ⟨c0, c1, c2, c3, c4⟩ := hkx
                go_wp2_with fail
                exact ⟨rfl, _, rfl, HTT.out _ (rfl)⟩
              · intro x wx hst hN TT HTT
                have hst : (fun w' => InAct w ba d m K I (.slice ap l.length cp) NN KK s1 s w') wx := hst
                have r78 : x 6 = (.pointer (some ⟨m, 0, none⟩)) := hN.1 rfl
                have r80 : x 8 = (.int .i64 I) := hN.2.1 rfl
                have r82 : x 10 = (.slice ap l.length cp) := hN.2.2.1 rfl
                have r77 : x 5 = (.int .i64 E1) := hN.2.2.2.1 rfl
                clear hN
                unfold StepTo
                simp only [putAll, Act.put, List.setIfInBounds_toArray, List.set_cons_succ, List.set_cons_zero, r78, r80, r82, r77]
                clear r78 r80 r82 r77
                have hc := pair_mwr w (fun k => k = ba) d m s1 s i I (.slice ap l.length cp) l wx hst.1 HF.out (HOLD.out.1.only hst.1.old (fun _ _ _ h => h)) HOLD.out.2 hst.y
                rw [HS1.out] at hc
                have HCC := Lib.hid hc; have HST := Lib.hid hst; clear hc hst
                go_wp2_with fail
                refine HCC.out.mono ?_
                rintro e w7 ⟨rfl, hp, ho⟩
                have hn := HST.out.next hp ho
                have HN := Lib.hid hn; clear hn hp ho
                go_wp2_with fail
                exact ⟨rfl, _, rfl, HTT.out _ _ (rfl) (HN.out)⟩
              · intro x wx hkx hN TT HTT
                have hkx : (fun w' => w'.cell? ⟨ba, 0, none⟩ = some (.int .u8 K) ∧ w'.cell? ⟨ba, 1, none⟩ = some (.int .i64 I) ∧ w'.cell? ⟨ba, 2, none⟩ = some (.slice ap l.length cp) ∧ w'.cell? ⟨ba, 3, none⟩ = some (.int .i64 NN) ∧ w'.cell? ⟨ba, 4, none⟩ = some (.int .i64 KK)) wx := hkx
                have r77 : x 5 = (.int .i64 E1) := hN.1 rfl
                have r83 : x 11 = (.int .i64 E1) := hN.2.1 rfl
                clear hN
                unfold StepTo
                simp only [putAll, Act.put, List.setIfInBounds_toArray, List.set_cons_succ, List.set_cons_zero, r77, r83]
                clear r77 r83
                go_wp2_with fail
                exact ⟨rfl, _, rfl, HTT.out _ (rfl)⟩
              intro xa wxa hsta hN
              have hsta : (fun w' => InAct w ba d m K I (.slice ap l.length cp) NN KK s1 s1 w') wxa := hsta
              have r72 : xa 0 = (.pointer (some ⟨d, 0, none⟩)) := hN.1
              have r73 : xa 1 = (.pointer (some ⟨ba, 1, none⟩)) := hN.2.1
              have r74 : xa 2 = (.int .i64 I) := hN.2.2.1
              have r75 : xa 3 = (.pointer (some ⟨ba, 2, none⟩)) := hN.2.2.2.1
              have r76 : xa 4 = (.slice ap l.length cp) := hN.2.2.2.2.1
              have r77 : xa 5 = (.int .i64 E1) := hN.2.2.2.2.2.1
              have r78 : xa 6 = (.pointer (some ⟨m, 0, none⟩)) := hN.2.2.2.2.2.2.1
              have r79 : xa 7 = (.pointer (some ⟨ba, 1, none⟩)) := hN.2.2.2.2.2.2.2.1
              have r80 : xa 8 = (.int .i64 I) := hN.2.2.2.2.2.2.2.2.1
              have r81 : xa 9 = (.pointer (some ⟨ba, 2, none⟩)) := hN.2.2.2.2.2.2.2.2.2.1
              have r82 : xa 10 = (.slice ap l.length cp) := hN.2.2.2.2.2.2.2.2.2.2.1
              have r83 : xa 11 = (.int .i64 E1) := hN.2.2.2.2.2.2.2.2.2.2.2.1
              have r84 : xa 12 = (.bool true) := hN.2.2.2.2.2.2.2.2.2.2.2.2.1
              clear hN
              simp only [putAll, Act.put, List.setIfInBounds_toArray, List.set_cons_succ, List.set_cons_zero, r72, r73, r74, r75, r76, r77, r78, r79, r80, r81, r82, r83, r84]
              clear r72 r73 r74 r75 r76 r77 r78 r79 r80 r81 r82 r83 r84
              have HSTA := Lib.hid hsta; clear hsta
              go_wp2_with fail
              go_meet
              case rel => exact ⟨rfl, s1, HSTA, Lib.hid HF1.out.1, Lib.hid HF1.out.2⟩
          · have hd := pair_dsy w (fun k => k = ba) d m s s i wa HIN.out.1 HF.out (by rw [HS.out]; omega) HIN.out.y
            have hm' := fun w' (h : Pair w (fun k => k = ba) w' d m s2 s) hy => pair_msy w (fun k => k = ba) d m s2 s i w' h HF.out hy
            rw [HS2.out] at hd hm'
            have HD := Lib.hid hd; have HM := Lib.hid hm'; clear hd hm'
            rcases hcs with rfl | rfl
            all_goals
              go_wp2_with fail
              refine HD.out.mono ?_
              rintro e w4 ⟨rfl, hp4, ho4⟩
              have hn4 := HIN.out.next hp4 ho4
              have hm4 := HM.out w4 hp4 hn4.y
              have HN4 := Lib.hid hn4; have HM4 := Lib.hid hm4; clear hn4 hm4 hp4 ho4
              go_wp2_with fail
              refine HM4.out.mono ?_
              rintro e w5 ⟨rfl, hp5, ho5⟩
              have HN5 := Lib.hid (HN4.out.next hp5 ho5); clear hp5 ho5
              go_wp2_with fail
              go_meet
              case rel => exact ⟨rfl, s2, HN5, Lib.hid HF2.out.1, Lib.hid HF2.out.2⟩
          · by_cases hneg : NN < 0
            · have t3 : decide (NN < 0) = true := by simpa using hneg
              have ha := arm_neg d NN wa hneg
              have HA := Lib.hid ha; clear ha
              go_wp2_with fail
              refine HA.out.mono ?_
              rintro e w4 ⟨rfl, rfl⟩
              go_wp2_with fail
              go_meet
              case rel => exact ⟨rfl, s, HIN, HM1, HS⟩
            · have t3 : decide (NN < 0) = false := by simpa using hneg
              have hnn : 0 ≤ NN := by omega
              obtain ⟨pm, om⟩ := HIN.out.1.arm HIN.out.y NN
              have hn4 := HIN.out.next pm om
              obtain ⟨_, _, _, _, _, _, _, x3, _, xz, _, _⟩ := HIN.out.1.ref.cells
              have xz3 := xz 3
              have hda := pair_darm w (fun k => k = ba) d m s { s with armed := NN } NN _ pm hnn hn4.y
              have hfa : Fine { s with armed := NN } (i + 1) := ⟨HM1.out.ops, ⟨hnn, HNB.out.2⟩, HM1.out.wait, HM1.out.ix, HM1.out.small⟩
              have g3 := hn4.facts.2.2.2.1
              have HN4 := Lib.hid hn4; have HDA := Lib.hid hda; have HFA := Lib.hid hfa
              clear hn4 hda hfa xz pm om
              go_wp2_with fail
              refine HDA.out.mono ?_
              rintro e w5 ⟨rfl, hp5, ho5⟩
              have HN5 := Lib.hid (HN4.out.next hp5 ho5); clear hp5 ho5
              go_wp2_with fail
              go_meet
              case rel => exact ⟨rfl, _, HN5, HFA, HS⟩
          · have hm0 := pair_mrs w (fun k => k = ba) d m s s i NN KK wa HIN.out.1 HF.out HIN.out.y
            have HM0 := Lib.hid hm0; clear hm0
            go_wp2_with fail
            refine HM0.out.mono ?_
            rintro e w4 ⟨rfl, hp4, ho4⟩
            have hn4 := HIN.out.next hp4 ho4
            have hd4 := pair_drs w (fun k => k = ba) d m s (restarted s NN KK) i NN KK w4 hp4 HF.out hn4.y
            obtain ⟨c0, c1, c2, c3, c4⟩ := hn4.facts
            have HN4 := Lib.hid hn4; have HD4 := Lib.hid hd4; clear hn4 hd4 hp4 ho4
            go_wp2_with fail
            refine HD4.out.mono ?_
            rintro e w5 ⟨rfl, hp5, ho5⟩
            have HN5 := Lib.hid (HN4.out.next hp5 ho5); clear hp5 ho5
            go_wp2_with fail
            go_meet
            case rel => exact ⟨rfl, _, HN5, Lib.hid (HM1.out.restarted NN KK), Lib.hid (by rw [restarted_len]; exact HS.out)⟩
          · go_wp2_with fail
            go_meet
            case rel => exact ⟨rfl, s, HIN, HM1, HS⟩
        case rest =>
          obtain ⟨rfl, s', HI', HF', HS'⟩ := hcut
          obtain ⟨c0, c1, c2, c3, c4⟩ := HI'.out.facts
          have hrd := pair_drd w (fun k => k = ba) d m s' s' (i + 1) I wc HI'.out.1 HF'.out
          have HRD := Lib.hid hrd; clear hrd
          generalize hL : rdL s' I = L at HRD
          have HL := Lib.hid hL; clear hL
          generalize hE : lookE s' I = E at HRD
          have HE := Lib.hid hE; clear hE f0 f1 f2 f3 f4
          go_wp2_with fail
          refine HRD.out.mono ?_
          rintro e w4 ⟨v4, rfl, hb4, hp4, ho4⟩
          have hmr := pair_mrd w (fun k => k = ba) d m s' s' (i + 1) I w4 hp4 HF'.out
          rw [HL.out, HE.out] at hmr
          have hn4 := HI'.out.next hp4 (ho4.mono (fun _ _ h => h.elim))
          obtain ⟨x0, x1, x2, x3, x4⟩ := hn4.facts
          have hcv : ∀ n, (convert 22 9 v4).run Try.prog (w4.drewN n) = .ok (.string ⟨L.toArray⟩) (w4.drewN n) := fun n => (hb4.drewN n).conv
          have HMR := Lib.hid hmr; have HN4 := Lib.hid hn4; have HCV := Lib.hid hcv; clear hmr hn4 hcv hb4 hp4 ho4 c0 c1 c2 c3 c4
          go_wp2_with fail
          refine HMR.out.mono ?_
          rintro e w5 ⟨rfl, rfl⟩
          go_upto_region 32 with (fail)
          obtain ⟨aS, aL, cS, cL, c0, c1, c2, c3, c4, fz, _, _⟩ := HN4.out.1.ref.cells
          have hcv := HCV.out
          have hoff : ((!s'.off) == s'.off) = false := by cases s'.off <;> rfl
          clear fz
          go_quiet ((first | (go_at_call 22; exact Calls.quiet_of_same ((dwait_any _ d s' _ (HN4.out.1.disk.only ((Only.refl (fun _ => False) _).drewN _) (fun _ _ _ h => h))).mono fun e w' ⟨h1, h2⟩ => ⟨h1, h2.symm⟩)) | (go_at_call 25; exact Calls.quiet_of_same ((dops_any _ d s' _ (HN4.out.1.disk.only ((Only.refl (fun _ => False) _).drewN _) (fun _ _ _ h => h))).mono fun e w' ⟨h1, h2⟩ => ⟨h1, h2.symm⟩)) | (go_at_call 24; exact Calls.quiet_of_same ((don_any _ d s' _ (HN4.out.1.disk.only ((Only.refl (fun _ => False) _).drewN _) (fun _ _ _ h => h))).mono fun e w' ⟨h1, h2⟩ => ⟨h1, h2.symm⟩)) | (go_at_call 31; exact Calls.quiet_of_same ((dlen_any _ d s' _ (HN4.out.1.disk.only ((Only.refl (fun _ => False) _).drewN _) (fun _ _ _ h => h))).mono fun e w' ⟨h1, h2⟩ => ⟨by rw [h1, HS'.out], h2.symm⟩))))
          clear hcv hoff c0 c1 c2 c3 c4 x0 x1 x2 x3 x4
          have hp5 := (HN4.out.1.only ((Only.refl (fun _ => False) w4).drewN nq) (fun _ _ h => h.elim)).mono (Z := fun _ => False) (fun _ h => h.elim)
          have HP5 := Lib.hid hp5; clear hp5
          go_wp2_with fail
          go_roundw
          case rel => exact ⟨i + 1, s', by simp [go_sem], by omega, by omega, HP5, HF', HS'⟩
          case measure => simp [intOf]; omega
      · by_cases hl1 : i < len
        · have t1 : decide ((i : Int) < (len : Int)) = true := by simp; omega
          have t2 : decide ((i : Int) < 80) = false := by simp; omega
          go_wp2_with fail
          go_meet
          case rel => exact ⟨s, HP, Lib.hid (HF.out.mono hi80 (by decide)), HS⟩
        · have t1 : decide ((i : Int) < (len : Int)) = false := by simp; omega
          go_wp2_with fail
          go_meet
          case rel => exact ⟨s, HP, Lib.hid (HF.out.mono hi80 (by decide)), HS⟩
  case rest =>
    obtain ⟨s, HP, HF, HS⟩ := hcut
    have hd := pair_drs w (fun _ => False) d m s s 80 0 0 _ HP.out HF.out (fun _ h => h.elim)
    have HD := Lib.hid hd; clear hd
    go_wp2_with fail
    refine HD.out.mono ?_
    rintro e w4 ⟨rfl, hp4, ho4⟩
    have hm4 := pair_mrs w (fun _ => False) d m (restarted s 0 0) s 80 0 0 w4 hp4 HF.out (fun _ h => h.elim)
    have HM4 := Lib.hid hm4; clear hm4 hp4 ho4
    go_wp2_with fail
    refine HM4.out.mono ?_
    rintro e w5 ⟨rfl, hp5, ho5⟩
    have hf5 := HF.out.restarted 0 0
    have hs5 : (restarted s 0 0).sure.length = N := by rw [restarted_len]; exact HS.out
    have hw5 : (restarted s 0 0).wait = [] := rfl
    have ho5' : (restarted s 0 0).off = false := rfl
    generalize restarted s 0 0 = z at hp5 hf5 hs5 hw5 ho5'
    have HP5 := Lib.hid hp5; have HF5 := Lib.hid hf5; have HS5 := Lib.hid hs5; have HW5 := Lib.hid hw5; have HO5 := Lib.hid ho5'
    clear hp5 hf5 hs5 hw5 ho5' ho5 HD HM4
    have hN0 : (1 : Int) ≤ (N : Int) := by omega
    have hN9 : (N : Int) ≤ 4096 := by omega
    go_wp2_with fail
    go_loopw [16] (fun v wr => ∃ (k : Nat), v = .int .i64 (k : Int) ∧ k ≤ 200 ∧ k ≤ N ∧ Hid (Pair w (fun _ => False) wr d m z z)) (fun v _ => 200 - (intOf v).toNat)
    case atStart => exact ⟨0, by simp, by omega, by omega, HP5⟩
    case round =>
      obtain ⟨k, rfl, hk2, hkN, HP⟩ := hrel
      by_cases hlt : k < N ∧ k < 200
      · obtain ⟨hl1, hl2⟩ := hlt
        have t1 : decide ((k : Int) < (N : Int)) = true := by simp; omega
        have t2 : decide ((k : Int) < 200) = true := by simp; omega
        have ii0 : (0 : Int) ≤ (k : Int) := by omega
        have ii1 : (k : Int) < (N : Int) := by omega
        have hrd := pair_drd w (fun _ => False) d m z z 80 k wr HP.out HF5.out
        have hlk : lookE z (k : Int) = 0 := look0 (by omega) (by rw [HS5.out]; exact ii1) HO5.out
        have hkz : k < z.sure.length := by rw [HS5.out]; exact hl1
        have hrl : rdL z (k : Int) = z.sure[k] := by
          unfold rdL
          rw [if_neg (by rw [hlk]; decide), Int.toNat_natCast]
          unfold view
          rw [HW5.out, List.getD_eq_getElem?_getD, List.getElem?_eq_getElem (by simpa [settled] using hkz)]
          rfl
        rw [hrl, hlk] at hrd
        obtain ⟨L, hL⟩ : ∃ L, z.sure[k] = L := ⟨_, rfl⟩
        rw [hL] at hrd
        have HRD := Lib.hid hrd; have HL := Lib.hid hL; clear hrd hL hrl hlk
        go_wp2_with fail
        refine HRD.out.mono ?_
        rintro e w6 ⟨v6, rfl, hb6, hp6, ho6⟩
        have hcv : ∀ n, (convert 22 9 v6).run Try.prog (w6.drewN n) = .ok (.string ⟨L.toArray⟩) (w6.drewN n) := fun n => (hb6.drewN n).conv
        obtain ⟨aS, aL, cS, cL, c0, _, _, _, _, _, hS6, _⟩ := hp6.ref.cells
        obtain ⟨gs, rfl, _, f2⟩ := sure_cell hS6 rfl hkz
        rw [HL.out] at f2
        rw [HS5.out] at c0
        have HP6 := Lib.hid hp6; clear hp6 hb6 ho6 hS6
        go_upto_region 40 with (fail)
        go_quiet (fail)
        clear hcv c0 f2
        have HP7 := Lib.hid (HP6.out.only ((Only.refl (fun _ => False) w6).drewN nq) (fun _ _ h => h.elim))
        go_wp2_with fail
        go_roundw
        case rel => exact ⟨k + 1, by simp [go_sem], by omega, by omega, HP7⟩
        case measure => simp [intOf]; omega
      · by_cases hl1 : k < N
        · have t1 : decide ((k : Int) < (N : Int)) = true := by simp; omega
          have t2 : decide ((k : Int) < 200) = false := by simp; omega
          go_wp2_with fail
          go_ret
          exact ⟨rfl, HP.out.old.still⟩
        · have t1 : decide ((k : Int) < (N : Int)) = false := by simp; omega
          go_wp2_with fail
          go_ret
          exact ⟨rfl, HP.out.old.still⟩
theorem plays_walk (n : Int) (v : Value) (w : World) {H : Type} {enc : TypeId × Value → H} {d : DataW H} {p : List MemPlace} {base : Nat}
    (w1 : (Lit.int .i64 n).wf = true) (h : DataW.Trod enc Try.prog w 0 (fun _ => true) true 35 v d p) (hv : Value.okWide Try.prog w .any base 35 v) :
    Calls Try.prog 8 #[.int .i64 n, v] w fun e w' => e = .returned (.bool true) ∧ Below w.heap.size w w' := by
  obtain ⟨len, hel⟩ := acts1_of_trod (okWide_slice Try.underlying35 hv) h
  by_cases hn : n < 1 ∨ 4096 < n
  · go_enter Try.func8, Try.ntmps8
    go_wp2_with fail
    refine (awake_any _).mono ?_
    rintro e w1 ⟨rfl, o1⟩
    have O1 := Lib.hid o1; clear o1
    go_wp2_with fail
    refine (new_bad n _ hn).mono ?_
    rintro e w2 ⟨rfl, o2⟩
    have O2 := Lib.hid o2; clear o2
    go_wp2_with fail
    refine (rkNew_bad n _ hn).mono ?_
    rintro e w3 ⟨rfl, rfl⟩
    go_wp2_with fail
    go_ret
    exact ⟨rfl, (O1.out.trans O2.out).still⟩
  · obtain ⟨N, rfl⟩ := Int.eq_ofNat_of_zero_le (show 0 ≤ n by omega)
    exact plays0 N v len w (by omega) (by omega) hel
end Go.Proofs.Ytlkglhgndfhjeaa
