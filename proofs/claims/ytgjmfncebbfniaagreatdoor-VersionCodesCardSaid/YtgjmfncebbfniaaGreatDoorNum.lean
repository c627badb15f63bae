/- Contracts of slices.Reverse at bytes, code.Number, code.Text. -/
import Derived.Test.YtgjmfncebbfniaaGreatDoorCode
import Derived.BigRegion
import Derived.ChangeAlike
namespace Go.Proofs.YtgjmfncebbfniaaGreatDoor
set_option maxRecDepth 100000
open Go Go.RowKit

/-- A list, its first and last k elements exchanged. -/
def RevTo (xs ys : List UInt8) (k : Nat) : Prop := ys.length = xs.length ∧ ∀ j, j < xs.length → ys[j]? = if j < k ∨ xs.length ≤ j + k then xs[xs.length - 1 - j]? else xs[j]?
theorem RevTo.zero (xs : List UInt8) : RevTo xs xs 0 := ⟨rfl, fun j hj => by rw [if_neg (by omega)]⟩
theorem RevTo.done {xs ys : List UInt8} {k : Nat} (h : RevTo xs ys k) (hk : xs.length ≤ 2 * k + 1) : ys = xs.reverse := by
  apply List.ext_getElem?
  intro j
  by_cases hj : j < xs.length
  · rw [h.2 j hj, List.getElem?_reverse hj]
    split
    · rfl
    · congr 1; omega
  · rw [List.getElem?_eq_none (by rw [h.1]; omega), List.getElem?_eq_none (by simp; omega)]
theorem RevTo.step {xs ys : List UInt8} {k : Nat} (h : RevTo xs ys k) (hk : 2 * k + 1 < xs.length) (a b : UInt8) (ha : ys[k]? = some a) (hb : ys[xs.length - 1 - k]? = some b) : RevTo xs ((ys.set k b).set (xs.length - 1 - k) a) (k + 1) := by
  refine ⟨by simp [h.1], fun j hj => ?_⟩
  have ha' := h.2 k (by omega)
  have hb' := h.2 (xs.length - 1 - k) (by omega)
  rw [if_neg (by omega)] at ha' hb'
  rw [List.getElem?_set, List.getElem?_set]
  by_cases h1 : xs.length - 1 - k = j
  · rw [if_pos h1, if_pos (by simp [h.1]; omega), if_pos (by omega)]
    rw [← ha, ha', ← h1]; congr 1; omega
  · rw [if_neg h1]
    by_cases h2 : k = j
    · rw [if_pos h2, if_pos (by rw [h.1]; omega), if_pos (by omega), ← hb, hb', ← h2]
    · rw [if_neg h2, h.2 j hj]
      by_cases h3 : j < k ∨ xs.length ≤ j + k
      · rw [if_pos h3, if_pos (by omega)]
      · rw [if_neg h3, if_neg (by omega)]

theorem OwnB.set_ {w : World} {base g n c : Nat} {ys : List UInt8} (h : OwnB w base (.slice (some ⟨g, 0, none⟩) n c) ys) (hn : n = ys.length) (j : Nat) (b : UInt8) :
    OwnB (w.setCell ⟨g, j, none⟩ (.int .u8 (b.toNat : Int))) base (.slice (some ⟨g, 0, none⟩) n c) (ys.set j b) ∧ w.grownBy (w.setCell ⟨g, j, none⟩ (.int .u8 (b.toNat : Int))) (some g) := by
  subst hn
  have := World.ownsRow.stored h j (.int .u8 (b.toNat : Int))
  refine ⟨?_, this.2⟩
  unfold OwnB
  rw [List.length_set]
  have e : BY (ys.set j b) = (BY ys).set j (.int .u8 (b.toNat : Int)) := by simp [BY, List.map_set]
  rw [e]
  exact this.1
theorem reverse_bytes (g base c : Nat) (xs : List UInt8) (w : World) (hlen : xs.length ≤ lim) (hown : OwnB w base (.slice (some ⟨g, 0, none⟩) xs.length c) xs) :
    Calls Tryz.prog 94 #[.slice (some ⟨g, 0, none⟩) xs.length c] w fun e w' => e = .returned (.tuple #[]) ∧ OwnB w' base (.slice (some ⟨g, 0, none⟩) xs.length c) xs.reverse ∧ w.grownBy w' (some g) := by
  have hm := lim_le hlen
  go_enter Tryz.func94, Tryz.ntmps94
  go_wp2
  go_loopw [2, 3] (fun i j wr => ∃ (k : Nat) (ys : List UInt8), i = .int .i64 k ∧ j = .int .i64 ((xs.length : Int) - 1 - k) ∧ 2 * k ≤ xs.length + 1 ∧ OwnB wr base (.slice (some ⟨g, 0, none⟩) xs.length c) ys ∧ w.grownBy wr (some g) ∧ RevTo xs ys k) (fun _ j _ => (intOf j + 1).toNat)
  case atStart => exact ⟨0, xs, rfl, by simp, by omega, hown, World.grownBy.refl _ _, RevTo.zero xs⟩
  case round =>
    obtain ⟨k, ys, rfl, rfl, hk, ho, hg, hrev⟩ := hrel
    by_cases hlt : (k : Int) < (xs.length : Int) - 1 - k
    · obtain ⟨jn, hj⟩ : ∃ jn : Nat, (xs.length : Int) - 1 - (k : Int) = (jn : Int) := ⟨xs.length - 1 - k, by omega⟩
      have hl := hrev.1
      have hk2 : k < ys.length := by omega
      have hj2 : jn < ys.length := by omega
      have c1 : wr.cell? ⟨g, k, none⟩ = some (.int .u8 (ys[k].toNat : Int)) := by
        have := World.ownsRow.cellAt (g := g) (cap := c) (n := ys.length) (xs := BY ys) (by have := ho; unfold OwnB at this; rw [hl] at this ⊢; exact this) k (by omega)
        rw [this]; simp [BY, hk2]
      have c2 : wr.cell? ⟨g, jn, none⟩ = some (.int .u8 (ys[jn].toNat : Int)) := by
        have := World.ownsRow.cellAt (g := g) (cap := c) (n := ys.length) (xs := BY ys) (by have := ho; unfold OwnB at this; rw [hl] at this ⊢; exact this) jn (by omega)
        rw [this]; simp [BY, hj2]
      have f1 : ∀ j, wr.frozen? ⟨g, j, none⟩ = false := fun j => World.ownsRow.frozenAt (g := g) (cap := c) (n := ys.length) (xs := BY ys) (by have := ho; unfold OwnB at this; rw [hl] at this ⊢; exact this) j
      have hne : k ≠ jn := by omega
      have hjx : (jn : Int) < xs.length := by omega
      have hkx : (k : Int) < xs.length := by omega
      have HJ := hide hj
      rw [hj]
      clear hj hl
      have hlt' : (k : Int) < (jn : Int) := by have := HJ.out; omega
      clear hlt
      go_wp2
      go_region
      go_wp2
      go_roundw
      case rel =>
        obtain ⟨o1, g1⟩ := ho.set_ hrev.1.symm k ys[jn]
        obtain ⟨o2, g2⟩ := o1.set_ (by simp [hrev.1]) jn ys[k]
        refine ⟨k + 1, (ys.set k ys[jn]).set jn ys[k], by go_num, ?_, by have := HJ.out; omega, o2, ?_, ?_⟩
        · have := HJ.out; go_num
        · exact only_drew ((hg.trans g1).trans g2)
        · have := hrev.step (by have := HJ.out; omega) ys[k] ys[jn] (by simp [hk2]) (by have := HJ.out; rw [show xs.length - 1 - k = jn from by omega]; simp [hj2])
          have e := HJ.out
          rwa [show xs.length - 1 - k = jn from by omega] at this
      case measure => first | (simp [intOf]; done) | (simp [intOf]; omega)
    · go_wp2
      go_end0
      have := hrev.done (by omega)
      subst this
      exact ⟨rfl, ho, hg⟩

theorem Below.of_grown {B : Nat} {w w1 w2 : World} {v : Value} (h : Below B w w1) (hg : w1.grownBy w2 v.ownBlock) (hB : B ≤ w1.heap.size) (hv : ∀ g, v.ownBlock = some g → B ≤ g) : Below B w w2 := h.grown hg hB hv

theorem code_number (n : Int) (w : World) (h0 : 0 ≤ n) (h1 : n < 18446744073709551616) :
    Calls Tryz.prog 34 #[.int .u64 n] w fun e w' => ∃ v, e = .returned v ∧ OwnB w' w.heap.size v (num7 n.toNat) ∧ Below w.heap.size w w' := by
  go_enter Tryz.func34, Tryz.ntmps34
  go_wp2
  go_loopw [0, 3] (fun x v wr => ∃ (k : Int) (xs : List UInt8), x = .int .u64 k ∧ OwnB wr w.heap.size v xs ∧ Below w.heap.size w wr ∧ numUp k.toNat xs.reverse = num7 n.toNat ∧ 0 ≤ k ∧ k < 18446744073709551616 ∧ w.heap.size < wr.heap.size ∧ 0 < xs.length)
    (fun x _ _ => (intOf x).toNat)
  case atStart =>
    refine ⟨n / 128, [UInt8.ofNat (n % 128).toNat], rfl, OwnB.new w _ _ _ (BY_sing _ (by omega) (by omega)).symm (Nat.le_refl _) (by simp [maxLen]), (Below.refl _ _).alloc (Nat.le_refl _) _, ?_, by omega, by omega, by simp, by simp⟩
    rw [num7, show (n / 128).toNat = n.toNat / 128 from by omega, show (n % 128).toNat = n.toNat % 128 from by omega]; rfl
  case round =>
    obtain ⟨k, xs, rfl, hown, hbel, hup, hk0, hk, hsz, hpos⟩ := hrel
    have H := hide hup
    clear hup
    have hl : (numUp k.toNat xs.reverse).length ≤ 10 := by rw [H.out]; exact num7_len _ (by omega)
    have hx : xs.length ≤ 10 := by have := Nat.le_trans (numUp_ge _ _) hl; simpa using this
    clear hl
    by_cases h0 : (0 : Int) < k
    · have hw := hbel.size
      have hor := or128 (k % 128) (by omega) (by omega)
      go_wp2_with (at_builtin; refine app_bytes rfl _ _ rfl w.heap.size _ xs [UInt8.ofNat (k % 128 + 128).toNat] rfl (hown.alloc _) _ _ _ _ rfl (by rw [BY_sing _ (by omega) (by omega)]; exact Reads.new wr _ _ (wr.heap.size + 1) (by omega)) (by simp; omega) (by simp; omega) ?_; intro v1 w1 hown1 hg1 hat1)
      go_roundw
      case rel =>
        refine ⟨k / 128, _, rfl, hown1, (hbel.alloc hw _).grown hg1 (by simp; omega) (fun g hg => (World.ownsRow.lt hown g hg).1), ?_, by omega, by omega, by have := hg1.size; simp at this; omega, by simp⟩
        rw [← H.out, numUp_pos (n := k.toNat) (by omega), show (k % 128 + 128).toNat = k.toNat % 128 + 128 from by omega, show (k / 128).toNat = k.toNat / 128 from by omega]; simp
      case measure => simp [intOf]; omega
    · obtain rfl : k = 0 := by omega
      have e := H.out
      rw [Int.toNat_zero, numUp_zero] at e
      obtain ⟨g, c, rfl, hg⟩ := hown.head hpos
      have HE := hide e
      clear e
      go_wp2_with (go_at_call 94; refine (reverse_bytes g w.heap.size c xs wr (by unfold lim; omega) hown).mono ?_; rintro e w1 ⟨rfl, hown1, hg1⟩)
      go_ret
      rw [HE.out] at hown1
      exact ⟨_, rfl, hown1, hbel.grown hg1 hbel.size (fun k hk => by injection hk with hk; omega)⟩

theorem code_text (A : Option Addr) (n c : Nat) (xs : List UInt8) (w : World) (hlen : n ≤ lim) (hr : Reads w w.heap.size 1 A n (BY xs)) :
    Calls Tryz.prog 35 #[.slice A n c] w fun e w' => ∃ v, e = .returned v ∧ OwnB w' w.heap.size v (text7 xs) ∧ Below w.heap.size w w' := by
  have hn := hr.blen
  have hx : xs.length ≤ n := by omega
  have hl := num7_len n (by unfold lim at hlen; omega)
  have hm := lim_le hlen
  have HN := hide hn
  clear hn
  go_enter Tryz.func35, Tryz.ntmps35
  go_wp2_with (first
    | (go_at_call 34; refine (code_number _ _ (by omega) (by omega)).mono ?_; rintro e w1 ⟨v1, rfl, hown1, hb1⟩)
    | (at_builtin; refine app_bytes rfl _ _ rfl w.heap.size _ _ xs rfl hown1 _ _ _ _ rfl (hr.below hb1) (by unfold lim at hlen; simp; omega) hb1.size ?_; intro v2 w2 hown2 hg2 hat2))
  go_ret
  refine ⟨_, rfl, ?_, hb1.grown hg2 hb1.size (fun g hg => (World.ownsRow.lt hown1 g hg).1)⟩
  have := HN.out
  rw [text7, ← this]
  simpa using hown2
end Go.Proofs.YtgjmfncebbfniaaGreatDoor
