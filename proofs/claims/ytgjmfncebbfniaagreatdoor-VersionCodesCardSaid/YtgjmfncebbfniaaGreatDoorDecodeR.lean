/- The state of the reference's decoding. -/
import Derived.Test.YtgjmfncebbfniaaGreatDoorDecodeB
import Derived.Test.YtgjmfncebbfniaaGreatDoorReadR
import Derived.Test.YtgjmfncebbfniaaGreatDoorRefEnc
namespace Go.Proofs.YtgjmfncebbfniaaGreatDoor
set_option maxRecDepth 100000
open Go Go.RowKit

/-- The state of the reference's decoding: the reader, the result's place, the edit that is put together. -/
structure RefSt (w W : World) (s : Bool × List UInt8) (av dv : Value) (lg nx : Int) (fs : List FileD) (zs : List Int) : Prop where
  bel : Below w.heap.size w W
  rd : RdC W w.heap.size (w.heap.size + 1) s
  rb : Blk W w.heap.size 25 #[.slice none 0 0, .slice none 0 0, .int .i64 0, .int .i64 0]
  ob : Blk W (w.heap.size + 2) 25 #[av, dv, .int .i64 lg, .int .i64 nx]
  fs : OwnF W w.heap.size av fs
  zs : OwnI W w.heap.size dv zs
section
variable {w W W1 : World} {s s' : Bool × List UInt8} {av dv av' dv' : Value} {lg nx : Int} {fs fs' : List FileD} {zs zs' : List Int}
theorem RefSt.size (h : RefSt w W s av dv lg nx fs zs) : w.heap.size + 2 < W.heap.size := h.ob.lt
theorem RefSt.num (h : RefSt w W s av dv lg nx fs zs) (hrd : RdC W1 w.heap.size (w.heap.size + 1) s') (hk : Kept (fun k => k = w.heap.size + 1) W W1) : RefSt w W1 s' av dv lg nx fs zs := by
  obtain ⟨A, n, c, hbb, _⟩ := h.rd.ex
  obtain ⟨cells, hrow, hc⟩ := h.fs
  have hz := h.zs
  refine ⟨h.bel.trans (hk.below h.bel.size (by rintro k rfl; omega)), hrd, h.rb.kept hk (by omega), h.ob.kept hk (by omega),
    OwnF.kept ⟨cells, hrow, hc⟩ hk ?_ h.rd.free, OwnI.kept hz hk ?_⟩
  · rintro g hg rfl; exact own_blk_ne hrow hbb (by decide) hg
  · rintro g hg rfl; exact own_blk_ne hz hbb (by decide) hg
theorem RefSt.call (h : RefSt w W s av dv lg nx fs zs) (hb : Below W.heap.size W W1) : RefSt w W1 s av dv lg nx fs zs :=
  ⟨h.bel.trans (hb.mono h.bel.size), h.rd.call hb, h.rb.below hb h.rb.lt, h.ob.below hb h.ob.lt, h.fs.call hb, h.zs.call hb⟩
theorem RefSt.alloc (h : RefSt w W s av dv lg nx fs zs) (o : Obj) : RefSt w (W.alloc o) s av dv lg nx fs zs := h.call ((Below.refl _ _).alloc (Nat.le_refl _) _)
theorem RefSt.drew (h : RefSt w W s av dv lg nx fs zs) : RefSt w W.drew s av dv lg nx fs zs := ⟨h.bel.drew, h.rd.call ⟨rfl, rfl, rfl, Nat.le_refl _, fun _ _ => rfl⟩, h.rb, h.ob, h.fs.call ⟨rfl, rfl, rfl, Nat.le_refl _, fun _ _ => rfl⟩, h.zs⟩
theorem RefSt.put_f (h : RefSt w W s av dv lg nx fs zs) (ho : OwnF W1 w.heap.size av' fs') (hg : W.grownBy W1 av.ownBlock) : RefSt w (W1.setCell ⟨w.heap.size + 2, 0, none⟩ av') s av' dv lg nx fs' zs := by
  obtain ⟨A, n, c, hbb, _⟩ := h.rd.ex
  obtain ⟨cells, hrow, hc⟩ := h.fs
  obtain ⟨cells', hrow', hc'⟩ := ho
  have hk := Kept.of_grown hg
  have hf := Free5.own hrow (Nat.le_refl _) (by decide)
  have hob : Blk W1 (w.heap.size + 2) 25 _ := h.ob.kept hk (fun e => own_blk_ne hrow h.ob (by decide) e)
  have hrb : Blk W1 w.heap.size 25 _ := h.rb.kept hk (fun e => own_blk_ne hrow h.rb (by decide) e)
  have hrd := h.rd.kept hk (fun e => own_blk_ne hrow hbb (by decide) e) hf
  have hzs : OwnI W1 w.heap.size dv zs := h.zs.kept hk (own_own_ne hrow h.zs (by decide))
  have hk2 : Kept (fun k => k = w.heap.size + 2) W1 (W1.setCell ⟨w.heap.size + 2, 0, none⟩ av') := Kept.one _ _ _ _
  have hf2 := Free5.blk hob (show w.heap.size ≤ w.heap.size + 2 by omega) (by decide)
  exact ⟨(h.bel.grown hg h.bel.size (fun g hg => (World.ownsRow.lt hrow g hg).1)).setCell (by simp) _, hrd.kept hk2 (by omega) hf2, hrb.kept hk2 (by omega), hob.set_ 0 _,
    OwnF.kept ⟨cells', hrow', hc'⟩ hk2 (by rintro g hg rfl; exact own_blk_ne hrow' hob (by decide) hg) hf2, hzs.kept hk2 (by rintro g hg rfl; exact own_blk_ne hzs hob (by decide) hg)⟩
theorem RefSt.put_z (h : RefSt w W s av dv lg nx fs zs) (ho : OwnI W1 w.heap.size dv' zs') (hg : W.grownBy W1 dv.ownBlock) : RefSt w (W1.setCell ⟨w.heap.size + 2, 1, none⟩ dv') s av dv' lg nx fs zs' := by
  obtain ⟨A, n, c, hbb, _⟩ := h.rd.ex
  have hrow := h.zs
  have hk := Kept.of_grown hg
  have hf := Free5.own hrow (Nat.le_refl _) (by decide)
  obtain ⟨cells, hrowf, hc⟩ := h.fs
  have hob : Blk W1 (w.heap.size + 2) 25 _ := h.ob.kept hk (fun e => own_blk_ne hrow h.ob (by decide) e)
  have hrb : Blk W1 w.heap.size 25 _ := h.rb.kept hk (fun e => own_blk_ne hrow h.rb (by decide) e)
  have hrd := h.rd.kept hk (fun e => own_blk_ne hrow hbb (by decide) e) hf
  have hfs : OwnF W1 w.heap.size av fs := OwnF.kept ⟨cells, hrowf, hc⟩ hk (own_own_ne hrow hrowf (by decide)) hf
  have hk2 : Kept (fun k => k = w.heap.size + 2) W1 (W1.setCell ⟨w.heap.size + 2, 1, none⟩ dv') := Kept.one _ _ _ _
  have hf2 := Free5.blk hob (show w.heap.size ≤ w.heap.size + 2 by omega) (by decide)
  obtain ⟨cells1, hrow1, _⟩ := hfs
  exact ⟨(h.bel.grown hg h.bel.size (fun g hg => (World.ownsRow.lt hrow g hg).1)).setCell (by simp) _, hrd.kept hk2 (by omega) hf2, hrb.kept hk2 (by omega), hob.set_ 1 _,
    OwnF.kept ⟨cells1, hrow1, by assumption⟩ hk2 (by rintro g hg rfl; exact own_blk_ne hrow1 hob (by decide) hg) hf2, ho.kept hk2 (by rintro g hg rfl; exact own_blk_ne ho hob (by decide) hg)⟩
theorem RefSt.keep (h : RefSt w W s av dv lg nx fs zs) (hk2 : Kept (fun k => k = w.heap.size + 2) W W1) {l' n' : Int} (hb : Below w.heap.size w W1) (ho : Blk W1 (w.heap.size + 2) 25 #[av, dv, .int .i64 l', .int .i64 n']) : RefSt w W1 s av dv l' n' fs zs := by
  have hf := Free5.blk h.ob (show w.heap.size ≤ w.heap.size + 2 by omega) (by decide)
  obtain ⟨cells, hrow, hc⟩ := h.fs
  have hz := h.zs
  exact ⟨hb, h.rd.kept hk2 (by omega) hf, h.rb.kept hk2 (by omega), ho,
    OwnF.kept ⟨cells, hrow, hc⟩ hk2 (by rintro g hg rfl; exact own_blk_ne hrow h.ob (by decide) hg) hf, hz.kept hk2 (by rintro g hg rfl; exact own_blk_ne hz h.ob (by decide) hg)⟩
theorem RefSt.put_l (h : RefSt w W s av dv lg nx fs zs) (x : Int) : RefSt w (W.setCell ⟨w.heap.size + 2, 2, none⟩ (.int .i64 x)) s av dv x nx fs zs :=
  h.keep (Kept.one _ _ _ _) (h.bel.setCell (by simp) _) (h.ob.set_ 2 _)
theorem RefSt.put_n (h : RefSt w W s av dv lg nx fs zs) (x : Int) : RefSt w (W.setCell ⟨w.heap.size + 2, 3, none⟩ (.int .i64 x)) s av dv lg x fs zs :=
  h.keep (Kept.one _ _ _ _) (h.bel.setCell (by simp) _) (h.ob.set_ 3 _)
theorem RefSt.setF (h : RefSt w W s av dv lg nx fs zs) {g : Nat} {cells : Array Value} (hG : Blk W g 76 cells) (hg : w.heap.size + 2 < g) (hv : ∀ b, av.ownBlock = some b → b < g) (j : Nat) (v : Value) : RefSt w (W.setCell ⟨g, j, none⟩ v) s av dv lg nx fs zs := by
  have hk : Kept (fun k => k = g) W (W.setCell ⟨g, j, none⟩ v) := Kept.one _ _ _ _
  have hf := Free5.blk hG (show w.heap.size ≤ g by omega) (by decide)
  have hz := h.zs
  exact ⟨h.bel.setCell (by simp; omega) _, h.rd.kept hk (by omega) hf, h.rb.kept hk (by omega), h.ob.kept hk (by omega),
    OwnF.kept h.fs hk (by rintro b hb rfl; exact absurd (hv _ hb) (Nat.lt_irrefl _)) hf, hz.kept hk (by rintro b hb rfl; exact own_blk_ne hz hG (by decide) hb)⟩
end
theorem rdFsR_step {k N : Nat} (h : k < N) (s : Bool × List UInt8) (ha : s.1 = false) : rdFsR (N - k) s = ((rdF 1099511627776 1099511627776 s).1 :: (rdFsR (N - (k + 1)) (rdF 1099511627776 1099511627776 s).2).1, (rdFsR (N - (k + 1)) (rdF 1099511627776 1099511627776 s).2).2) := by
  rw [show N - k = (N - (k + 1)) + 1 from by omega]; simp [rdFsR, ha]
theorem rdIntsR_step {k N : Nat} (h : k < N) (s : Bool × List UInt8) (ha : s.1 = false) : rdIntsR (N - k) s = ((rdN 1099511627776 s).1 :: (rdIntsR (N - (k + 1)) (rdN 1099511627776 s).2).1, (rdIntsR (N - (k + 1)) (rdN 1099511627776 s).2).2) := by
  rw [show N - k = (N - (k + 1)) + 1 from by omega]; simp [rdIntsR, ha]
theorem rdFsR_end {N k : Nat} (s : Bool × List UInt8) (h : k = N ∨ s.1 = true) : rdFsR (N - k) s = ([], s) := by
  rcases h with rfl | h
  · simp [rdFsR]
  · cases hN : N - k with
    | zero => simp [rdFsR]
    | succ m => simp [rdFsR, h]
theorem rdIntsR_end {N k : Nat} (s : Bool × List UInt8) (h : k = N ∨ s.1 = true) : rdIntsR (N - k) s = ([], s) := by
  rcases h with rfl | h
  · simp [rdIntsR]
  · cases hN : N - k with
    | zero => simp [rdIntsR]
    | succ m => simp [rdIntsR, h]
end Go.Proofs.YtgjmfncebbfniaaGreatDoor
