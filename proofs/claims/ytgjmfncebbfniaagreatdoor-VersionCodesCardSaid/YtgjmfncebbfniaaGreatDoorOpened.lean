/- Arguments of the laws of package version, opened: bytes, ints, files, edits. -/
import Derived.Test.YtgjmfncebbfniaaGreatDoorCodes
import Derived.OpenShut
import Derived.Deep.Slices
import Derived.Deep.Fields
import Derived.ChangeSame
import Derived.ChangeSlices
import Derived.Lib.SmallJoins
import Derived.WideKeyArgs
namespace Go.Proofs.YtgjmfncebbfniaaGreatDoor
set_option maxRecDepth 100000
open Go Go.RowKit Go.ChangeShapes Go.WideShapes Go.Deep Go.Joins

theorem spot_none {w : World} {a : Addr} {u : Value} (h : w.cell? a = some u) : a = ⟨a.block, a.off, none⟩ := by
  obtain ⟨b, o, s⟩ := a
  rcases s with _ | s
  · rfl
  · unfold World.cell? at h
    split at h <;> simp at h
theorem add_off (b o i : Nat) : (⟨b, o, none⟩ : Addr).add i = ⟨b, o + i, none⟩ := by
  unfold Addr.add
  split
  · next h => subst h; rfl
  · rfl
theorem BY_of {zs : List Int} (h : ∀ z ∈ zs, (Lit.int .u8 z).wf = true) : BY (zs.map fun z => UInt8.ofNat z.toNat) = zs.map (Value.int .u8) := by
  unfold BY
  rw [List.map_map]
  refine List.map_congr_left fun z hz => ?_
  have hw := h z hz
  simp only [Lit.wf, Bool.and_eq_true, decide_eq_true_eq] at hw
  have h1 : 0 ≤ z ∧ z ≤ 255 := hw
  simp only [Function.comp]
  have : ((UInt8.ofNat z.toNat).toNat : Int) = z := by
    rw [UInt8.toNat_ofNat']
    omega
  rw [this]
theorem exists_list {α : Type} {p : Nat → α → Prop} : ∀ (n : Nat), (∀ i, i < n → ∃ x, p i x) → ∃ l : List α, l.length = n ∧ ∀ i x, l[i]? = some x → p i x
  | 0, _ => ⟨[], rfl, fun i x h => by simp at h⟩
  | n + 1, h => by
    obtain ⟨l, hl, hp⟩ := exists_list n (fun i hi => h i (by omega))
    obtain ⟨x, hx⟩ := h n (by omega)
    refine ⟨l ++ [x], by simp [hl], fun i y hy => ?_⟩
    by_cases hi : i < l.length
    · rw [List.getElem?_append_left hi] at hy; exact hp i y hy
    · rw [List.getElem?_append_right (by omega)] at hy
      have h0 : i - l.length = 0 := by
        by_cases h0 : i - l.length = 0
        · exact h0
        · rw [List.getElem?_eq_none (by simp; omega)] at hy; cases hy
      rw [h0] at hy
      simp at hy
      subst hy
      rwa [show i = n by omega]
section
variable {H : Type} {enc : TypeId × Value → H} {w : World}
theorem bytes_open {fuel : Nat} {cs : List Value} {x : DataW H × List MemPlace} (h : DataW.trod enc Tryz.prog w 0 (fun _ => true) true fuel 26 cs = some x) :
    ∃ A n c xs, cs = [.slice A n c] ∧ n ≤ c ∧ c ≤ maxLen ∧ Reads w w.heap.size 1 A n (BY xs) := by
  rcases open_ints (k := .u8) (e := 5) Tryz.underlying26 Tryz.underlying5 (by kernel_rfl) h with ⟨rfl, _⟩ | ⟨a, len, cap, zs, rfl, _, hl, hm, hz, _, hc, hw⟩
  · exact ⟨none, 0, 0, [], rfl, Nat.le_refl _, by unfold maxLen; omega, Reads.none_⟩
  · simp only [if_true] at hz
    refine ⟨some a, len, cap, (zs.take len).map fun z => UInt8.ofNat z.toNat, rfl, hl, hm, ?_⟩
    rw [BY_of (fun z hz => hw z (List.mem_of_mem_take hz))]
    refine ⟨by simp; omega, fun hn => ⟨a, rfl, ?_, fun j u hj => ?_⟩⟩
    · have := World.block_lt_of_cell? w _ (hc 0 (by omega))
      rwa [block_of_add] at this
    · obtain ⟨hj1, hj2⟩ := List.getElem?_eq_some_iff.1 hj
      simp at hj1
      rw [hc j (by omega), ← hj2]
      simp [List.getD, List.getElem?_eq_getElem (show j < zs.length by omega)]
theorem ints_open {fuel : Nat} {cs : List Value} {x : DataW H × List MemPlace} (h : DataW.trod enc Tryz.prog w 0 (fun _ => true) true fuel 23 cs = some x) :
    ∃ A n c zs, cs = [.slice A n c] ∧ n ≤ c ∧ c ≤ maxLen ∧ Ints w w.heap.size A n zs := by
  rcases open_ints (k := .i64) (e := 3) Tryz.underlying23 Tryz.underlying3 (by kernel_rfl) h with ⟨rfl, _⟩ | ⟨a, len, cap, zs, rfl, _, hl, hm, hz, _, hc, hw⟩
  · exact ⟨none, 0, 0, [], rfl, Nat.le_refl _, by unfold maxLen; omega, rfl, fun h => absurd h (by omega)⟩
  · simp only [if_true] at hz
    refine ⟨some a, len, cap, zs.take len, rfl, hl, hm, by simp; omega, fun hn => ?_⟩
    have h0 := hc 0 (by omega)
    have hb := World.block_lt_of_cell? w _ h0
    rw [block_of_add] at hb
    have ha : a = ⟨a.block, a.off, none⟩ := spot_none (u := .int .i64 (zs.getD 0 0)) (by simpa [Addr.add] using h0)
    refine ⟨a.block, a.off, by rw [← ha], hb, fun i z hi => ?_⟩
    obtain ⟨hi1, hi2⟩ := List.getElem?_eq_some_iff.1 hi
    simp at hi1
    rw [← add_off, ← ha, hc i (by omega), ← hi2]
    simp [List.getD, List.getElem?_eq_getElem (show i < zs.length by omega)]
theorem file_open {n : Nat} {cs : List Value} {x : DataW H × List MemPlace} {a : Addr} (h : DataW.trod enc Tryz.prog w 0 (fun _ => true) true n 76 cs = some x) (hc : w.cells? 0 a (Tryz.prog.cellsOf 76) = some cs) :
    ∃ f, FileCells w w.heap.size a.block a.off f := by
  rw [show Tryz.prog.cellsOf 76 = 6 by kernel_rfl] at hc
  obtain ⟨_, hlen, hat⟩ := World.cells?_some hc
  obtain ⟨ys, m, _, _, hys, hyl, hf⟩ := DataW.trod_struct Tryz.underlying76 h
  match cs, hlen with
  | [c0, c1, c2, c3, c4, c5], _ =>
    have g0 : w.cell? (a.add 0) = some c0 := hat 0 (by omega)
    have g1 : w.cell? (a.add 1) = some c1 := hat 1 (by omega)
    have g2 : w.cell? (a.add 2) = some c2 := hat 2 (by omega)
    have g3 : w.cell? (a.add 3) = some c3 := hat 3 (by omega)
    have g4 : w.cell? (a.add 4) = some c4 := hat 4 (by omega)
    have g5 : w.cell? (a.add 5) = some c5 := hat 5 (by omega)
    have ha : a = ⟨a.block, a.off, none⟩ := spot_none (u := c0) (by simpa [Addr.add] using g0)
    match ys, hyl with
    | [y0, y1, y2, y3, y4, y5], _ =>
      have t0 : DataW.trod enc Tryz.prog w 0 (fun _ => true) true m 3 (([c0, c1, c2, c3, c4, c5].drop 0).take (Tryz.prog.cellsOf 3)) = some y0 := hf 0 _ rfl
      have t1 : DataW.trod enc Tryz.prog w 0 (fun _ => true) true m 3 (([c0, c1, c2, c3, c4, c5].drop 1).take (Tryz.prog.cellsOf 3)) = some y1 := hf 1 _ rfl
      have t2 : DataW.trod enc Tryz.prog w 0 (fun _ => true) true m 26 (([c0, c1, c2, c3, c4, c5].drop 2).take (Tryz.prog.cellsOf 26)) = some y2 := hf 2 _ rfl
      have t3 : DataW.trod enc Tryz.prog w 0 (fun _ => true) true m 26 (([c0, c1, c2, c3, c4, c5].drop 3).take (Tryz.prog.cellsOf 26)) = some y3 := hf 3 _ rfl
      have t4 : DataW.trod enc Tryz.prog w 0 (fun _ => true) true m 3 (([c0, c1, c2, c3, c4, c5].drop 4).take (Tryz.prog.cellsOf 3)) = some y4 := hf 4 _ rfl
      have t5 : DataW.trod enc Tryz.prog w 0 (fun _ => true) true m 3 (([c0, c1, c2, c3, c4, c5].drop 5).take (Tryz.prog.cellsOf 3)) = some y5 := hf 5 _ rfl
      rw [show Tryz.prog.cellsOf 3 = 1 by kernel_rfl] at t0 t1 t4 t5
      rw [show Tryz.prog.cellsOf 26 = 1 by kernel_rfl] at t2 t3
      obtain ⟨z0, e0, _⟩ := DataW.trod_int Tryz.underlying3 t0
      obtain ⟨z1, e1, _⟩ := DataW.trod_int Tryz.underlying3 t1
      obtain ⟨A1, n1, k1, x1, e2, l1, _, r1⟩ := bytes_open t2
      obtain ⟨A2, n2, k2, x2, e3, l2, _, r2⟩ := bytes_open t3
      obtain ⟨z4, e4, _⟩ := DataW.trod_int Tryz.underlying3 t4
      obtain ⟨z5, e5, _⟩ := DataW.trod_int Tryz.underlying3 t5
      simp only [List.drop_zero, List.drop_succ_cons, List.take_succ_cons, List.take_zero, List.cons.injEq, and_true] at e0 e1 e2 e3 e4 e5
      subst e0 e1 e2 e3 e4 e5
      rw [ha] at g0 g1 g2 g3 g4 g5
      rw [add_off] at g0 g1 g2 g3 g4 g5
      exact ⟨⟨z0, z1, x1, x2, z4, z5⟩, ⟨A1, n1, k1, A2, n2, k2, g0, g1, g2, g3, g4, g5, r1, l1, r2, l2⟩⟩
theorem files_open {fuel : Nat} {cs : List Value} {x : DataW H × List MemPlace} (h : DataW.trod enc Tryz.prog w 0 (fun _ => true) true fuel 22 cs = some x) :
    ∃ A n c fs, cs = [.slice A n c] ∧ n ≤ c ∧ c ≤ maxLen ∧ Files w w.heap.size A n fs := by
  rcases open_slice Tryz.underlying22 h with ⟨rfl, _⟩ | ⟨a, len, cap, m, n, D, Pl, rfl, _, hl, hm, hmm, _, hx⟩
  · exact ⟨none, 0, 0, [], rfl, Nat.le_refl _, by unfold maxLen; omega, rfl, fun h => absurd h (by omega)⟩
  · simp only [if_true] at hmm
    subst hmm
    have each : ∀ i, i < len → ∃ f, FileCells w w.heap.size a.block (a.off + i * 6) f := fun i hi => by
      obtain ⟨cs', h1, h2⟩ := hx i (by omega)
      obtain ⟨f, hf⟩ := file_open h2 h1
      rw [show Tryz.prog.cellsOf 76 = 6 by kernel_rfl, block_of_add] at hf
      rw [show (a.add (i * 6)).off = a.off + i * 6 by unfold Addr.add; split <;> simp_all] at hf
      exact ⟨f, hf⟩
    obtain ⟨l, hll, hp⟩ := exists_list len each
    refine ⟨some a, len, m, l, rfl, hl, hm, hll, fun hn => ?_⟩
    obtain ⟨cs', h1, h2⟩ := hx 0 (by omega)
    rw [show Tryz.prog.cellsOf 76 = 6 by kernel_rfl] at h1
    obtain ⟨_, hlen, hat⟩ := World.cells?_some h1
    have g0 := hat 0 (by omega)
    rw [List.getElem?_eq_getElem (by omega)] at g0
    have g1 : w.cell? a = some (cs'[0]'(by omega)) := by simpa [Addr.add] using g0
    refine ⟨a.block, a.off, by rw [← spot_none g1], World.block_lt_of_cell? w _ g1, hp⟩
theorem edit_open {r : Reach} {b0 : Nat} {v : Value} {d : DataW H} {p : List MemPlace} (hv : Value.okWide Tryz.prog w r b0 25 v) (h : DataW.Trod enc Tryz.prog w 0 (fun _ => true) true 25 v d p) :
    ∃ (ed : EditD) (A A' : Option Addr) (n c n' c' : Nat), v = .agg #[.slice A n c, .slice A' n' c', .int .i64 ed.log, .int .i64 ed.next] ∧ n ≤ maxLen ∧ n' ≤ maxLen ∧ Files w w.heap.size A n ed.add ∧ Ints w w.heap.size A' n' ed.drop := by
  obtain ⟨v0, v1, v2, v3, y0, y1, y2, y3, n, rfl, _, _, t0, t1, t2, t3⟩ := open_agg4 Tryz.underlying25 (by kernel_rfl) (by kernel_rfl) hv h
  obtain ⟨A, n1, c1, fs, e0, l0, m0, hF⟩ := files_open t0
  obtain ⟨A', n2, c2, zs, e1, l1, m1, hI⟩ := ints_open t1
  obtain ⟨z2, e2, _⟩ := DataW.trod_int Tryz.underlying3 t2
  obtain ⟨z3, e3, _⟩ := DataW.trod_int Tryz.underlying3 t3
  simp only [List.cons.injEq, and_true] at e0 e1 e2 e3
  subst e0 e1 e2 e3
  exact ⟨⟨fs, zs, z2, z3⟩, A, A', n1, c1, n2, c2, rfl, by omega, by omega, hF, hI⟩
end
end Go.Proofs.YtgjmfncebbfniaaGreatDoor
