/- . -/
import Derived.Test.YtnkpoddbbdmipaaGreatDoorRows
import Derived.Test.YtnkpoddbbdmipaaGreatDoorUaReads
import Derived.Test.YtnkpoddbbdmipaaGreatDoorUaQrp
import Derived.SizedLaws
namespace Go.Proofs.YtnkpoddbbdmipaaGreatDoor
open Go Go.RowKit
set_option linter.unusedVariables false
set_option linter.unusedSimpArgs false
inductive TT where
 | mk (s : List UInt8) (of : List TT) (b : Bool)
mutual
def ttC : TT → List Cell
 | .mk s of b => [strC s, .row 3 (ttCs of), boolC b]
def ttCs : List TT → List (List Cell)
 | [] => []
 | t :: l => ttC t :: ttCs l
end
theorem ttCs_map : ∀ l, ttCs l = l.map ttC
 | [] => by rw [ttCs]; rfl
 | t :: l => by rw [ttCs, ttCs_map l]; rfl
inductive TSz : TT → Prop
 | mk (s : List UInt8) (of : List TT) (b : Bool) (hs : s.length ≤ 140737488351232) (ho : ∀ t ∈ of, TSz t) : TSz (.mk s of b)
theorem tt_rows {w : World} {G : Nat → Prop} {b : Nat} : ∀ (len off : Nat), (∀ i, i < len → ∃ cs, cs.length = 3 ∧ w.rangeAt b (off + i * 3) cs ∧ ∃ t, CellsAt w G (ttC t) cs ∧ TSz t) → ∃ ts : List TT, ts.length = len ∧ RowsAt w G 3 (ts.map ttC) b off ∧ ∀ t ∈ ts, TSz t
 | 0, _, _ => ⟨[], rfl, (by simp [RowsAt]), (fun t ht => by cases ht)⟩
 | len + 1, off, h => by
  obtain ⟨cs, h1, h2, t, h3, h4⟩ := h 0 (by omega); rw [Nat.zero_mul, Nat.add_zero] at h2
  obtain ⟨ts, k1, k2, k3⟩ := tt_rows len (off + 3) (fun i hi => by
   have := h (i + 1) (by omega); rw [show off + (i + 1) * 3 = off + 3 + i * 3 from by omega] at this
   exact this)
  refine ⟨t :: ts, by simp [k1], ?_, fun u hu => ?_⟩
  ·rw [List.map_cons]; simp only [RowsAt]; exact ⟨⟨cs, h1, h2, h3⟩, k2⟩
  ·rcases List.mem_cons.1 hu with rfl | hu
   ·exact h4
   ·exact k3 u hu
theorem list3 {α : Type} {cs : List α} (h : cs.length = 3) : ∃ a b c, cs = [a, b, c] := by
 match cs, h with
 | [a, b, c], _ => exact ⟨a, b, c, rfl⟩
theorem tref_cells : Tryz.prog.cellsOf 41 = 3 := by kernel_rfl
variable {H : Type} {enc : TypeId × Value → H}
theorem weightsAll_mem {P : Program} {e : TypeId} : ∀ {l : List (DataW H)} {d : DataW H}, d ∈ l → ∀ n ∈ d.weights P e, n ∈ DataW.weightsAll P e l
 | x :: l, d, hd, n, hn => by
  simp only [DataW.weightsAll, List.mem_append]
  rcases List.mem_cons.1 hd with rfl | hd
  ·exact .inl hn
  ·exact .inr (weightsAll_mem hd n hn)
theorem tt_of_trod (w : World) : ∀ (fuel : Nat) (cs : List Value) (x : DataW H × List MemPlace), DataW.trod enc Tryz.prog w 0 (fun _ => true) true fuel 41 cs = some x → (∀ n ∈ x.1.weights Tryz.prog 41, n ≤ 140737488351232) → ∃ t, CellsAt w (fun q => q < w.heap.size) (ttC t) cs ∧ TSz t := by
 intro fuel
 induction fuel using Nat.strongRecOn with
 | _ fuel ih =>
  intro cs x hx hwt; obtain ⟨xs, m, rfl, rfl, hl, hxl, hf⟩ := DataW.trod_struct Tryz.underlying41 hx; obtain ⟨e0, e1, e2, rfl⟩ := list3 (hl.trans tref_cells); obtain ⟨y0, y1, y2, rfl⟩ := list3 (hxl.trans rfl)
  have hwt : ∀ n ∈ DataW.weightsEach Tryz.prog [9, 39, 4] [y0.1, y1.1, y2.1], n ≤ 140737488351232 := fun n hn => hwt n (by
   have e : DataW.weights Tryz.prog 41 (.agg ([y0, y1, y2].map (·.1))) = DataW.weightsEach Tryz.prog [9, 39, 4] [y0.1, y1.1, y2.1] := by
    simp [DataW.weights, Tryz.underlying41]
   rw [e]; exact hn)
  have f0 := field_at hf 0 9 0 1 rfl (by kernel_rfl); have f1 := field_at hf 1 39 1 1 rfl (by kernel_rfl); have f2 := field_at hf 2 4 2 1 rfl (by kernel_rfl); obtain ⟨s, g0, z0, -⟩ := DataW.trod_string Tryz.underlying9 f0; obtain ⟨bb, g2, z2⟩ := DataW.trod_bool Tryz.underlying4 f2; simp at g0 g2; subst g0; subst g2; have hs : s.size ≤ 140737488351232 := by
   have h := hwt s.data.toList.length (by rw [z0]; simp [DataW.weightsEach, DataW.weights]); rw [Array.length_toList] at h; exact h
  have hof : ∃ (of : List TT) (a : Option Addr) (c : Nat), e1 = .slice a of.length c ∧ of.length ≤ c ∧ c ≤ 9223372036854775807 ∧ (∀ t ∈ of, TSz t) ∧ (0 < of.length → ∃ b off, a = some ⟨b, off, none⟩ ∧ b < w.heap.size ∧ RowsAt w (fun q => q < w.heap.size) 3 (of.map ttC) b off) := by
   rcases DataW.trod_slice Tryz.underlying39 f1 with ⟨h1, _⟩ | ⟨a, len, cap, elems, rest, n, hn, h1, hz1, hb, hll, hm, hlen, hel, _, _⟩
   ·simp at h1; subst h1; exact ⟨[], none, 0, rfl, by simp, by omega, (fun t ht => by cases ht), fun h => by simp at h⟩
   ·simp at h1; subst h1; have hm' : cap ≤ 9223372036854775807 := by unfold maxLen at hm; omega
    by_cases h0 : len = 0
    ·subst h0; exact ⟨[], some a, cap, rfl, by simp, hm', (fun t ht => by cases ht), fun h => by simp at h⟩
    have hwe : ∀ i (hi : i < elems.length), ∀ k ∈ (elems[i].1).weights Tryz.prog 41, k ≤ 140737488351232 := fun i hi k hk => hwt k (by
     rw [z0, hz1]; simp only [DataW.weightsEach, DataW.weights, Tryz.underlying39, List.mem_append, List.mem_cons]
     exact .inr (.inl (.inr (.inl (weightsAll_mem (List.mem_map.2 ⟨elems[i], List.getElem_mem hi, rfl⟩) k hk)))))
    have hget : ∀ i (hi : i < len), ∃ cs', w.cells? 0 (a.add (i * Tryz.prog.cellsOf 41)) (Tryz.prog.cellsOf 41) = some cs' ∧ DataW.trod enc Tryz.prog w 0 (fun _ => true) true n 41 cs' = some (elems[i]'(by omega)) := by
     intro i hi; have := hel i hi; rw [List.getElem?_eq_getElem (by omega)] at this; exact Option.bind_eq_some_iff.1 this
    obtain ⟨b, off, spot⟩ := a; have hsp : spot = none := by
     obtain ⟨cs', h1, _⟩ := hget 0 (by omega); obtain ⟨hlen', hcell⟩ := (World.cells?_some h1).2; have hc0 := hcell 0 (by rw [tref_cells]; decide); have hx : ∃ x, cs'[0]? = some x := ⟨cs'[0]'(by rw [hlen', tref_cells]; decide), List.getElem?_eq_getElem _⟩; obtain ⟨x, hx⟩ := hx; rw [hx] at hc0; simpa [Addr.add] using World.cell?_spot hc0
    subst hsp; have hblk : b < w.heap.size := by
     obtain ⟨cs', h1, _⟩ := hget 0 (by omega); have hblk := World.cells?_block h1 (by rw [tref_cells]; decide); rw [addr_add] at hblk; exact hblk
    obtain ⟨ts, k1, k2, k3⟩ := tt_rows (w := w) (G := fun q => q < w.heap.size) (b := b) len off (fun i hi => by
     obtain ⟨cs', h1, h2⟩ := hget i hi; obtain ⟨hlen', hcell⟩ := (World.cells?_some h1).2; rw [tref_cells] at hlen' hcell; refine ⟨cs', hlen', fun j v hv => ?_, ih n (by omega) cs' _ h2 (hwe i (by omega))⟩
     have hj : j < 3 := by have := (List.getElem?_eq_some_iff.1 hv).1; omega
     have := hcell j hj; rw [Go.Deep.add_add, addr_add, hv] at this
     rw [← this, Nat.add_assoc])
    refine ⟨ts, some ⟨b, off, none⟩, cap, by rw [k1], by rw [k1]; exact hll, hm', k3, fun _ => ⟨b, off, rfl, hblk, k2⟩⟩
  obtain ⟨of, a, c, rfl, h1, h2, h3, h4⟩ := hof; refine ⟨.mk s.data.toList of bb, ?_, .mk _ _ _ (by rw [Array.length_toList]; exact hs) h3⟩
  rw [ttC, ttCs_map]; refine CellsAt.lit (by rfl) (CellsAt.cons ?_ (CellsAt.lit rfl (CellsAt.nil _ _)))
  simp only [CellAt, List.length_map]
  exact ⟨a, c, rfl, h1, h2, fun hp => by
   obtain ⟨b, off, q1, q2, q3⟩ := h4 hp
   exact ⟨b, off, q1, q2, q2, q3⟩⟩
end Go.Proofs.YtnkpoddbbdmipaaGreatDoor
