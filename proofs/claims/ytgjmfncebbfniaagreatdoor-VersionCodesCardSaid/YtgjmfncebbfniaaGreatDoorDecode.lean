/- Contract of version.Decode. -/
import Derived.Test.YtgjmfncebbfniaaGreatDoorOwnF
import Derived.Deep.RegionLaw
import Derived.Deep.DeepCutAuto
import Derived.Outline
namespace Go.Proofs.YtgjmfncebbfniaaGreatDoor
set_option maxRecDepth 100000
open Go Go.RowKit

theorem own_own_ne {w : World} {b1 b2 s1 s2 n1 n2 : Nat} {e1 e2 : TypeId} {v u : Value} {xs ys : List Value} (h : w.ownsRow b1 e1 s1 v n1 xs) (h' : w.ownsRow b2 e2 s2 u n2 ys) (he : e1 ≠ e2) : ∀ g, u.ownBlock = some g → ¬ v.ownBlock = some g := by
  intro g hu hv
  rcases h.2 with ⟨rfl, _⟩ | ⟨g1, cap, cur, rfl, _, hh, _⟩
  · simp [Value.ownBlock] at hv
  · rcases h'.2 with ⟨rfl, _⟩ | ⟨g2, cap', cur', rfl, _, hh', _⟩
    · simp [Value.ownBlock] at hu
    · have a : g1 = g := by simpa [Value.ownBlock] using hv
      have b : g2 = g := by simpa [Value.ownBlock] using hu
      subst a b
      rw [hh] at hh'
      injection hh' with hh'
      injection hh' with _ hh'
      exact he hh'

/-- The state of a decoding: the reader, the result's place, the edit that is put together. -/
structure DecSt (w W : World) (s : Bool × List UInt8) (av dv : Value) (fs : List FileD) (zs : List Int) : Prop where
  bel : Below w.heap.size w W
  rd : RdSt W w.heap.size w.heap.size (w.heap.size + 2) s
  rb : Blk W (w.heap.size + 1) 25 #[.slice none 0 0, .slice none 0 0, .int .i64 0, .int .i64 0]
  ob : Blk W (w.heap.size + 3) 25 #[av, dv, .int .i64 0, .int .i64 0]
  fs : OwnF W w.heap.size av fs
  zs : OwnI W w.heap.size dv zs
section
variable {w W W1 : World} {s s' : Bool × List UInt8} {av dv av' dv' : Value} {fs fs' : List FileD} {zs zs' : List Int}
theorem DecSt.size (h : DecSt w W s av dv fs zs) : w.heap.size + 3 < W.heap.size := h.ob.lt
theorem DecSt.num (h : DecSt w W s av dv fs zs) (hrd : RdSt W1 w.heap.size w.heap.size (w.heap.size + 2) s') (hk : Kept (Two w.heap.size (w.heap.size + 2)) W W1) : DecSt w W1 s' av dv fs zs := by
  obtain ⟨A, n, c, hbb, _⟩ := h.rd.ex
  obtain ⟨cells, hrow, hc⟩ := h.fs
  have hz := h.zs
  refine ⟨h.bel.trans (hk.below h.bel.size (by rintro k (rfl | rfl) <;> omega)), hrd, h.rb.kept hk (by rintro (e | e) <;> omega), h.ob.kept hk (by rintro (e | e) <;> omega),
    OwnF.kept ⟨cells, hrow, hc⟩ hk ?_ (Two.free h.rd), OwnI.kept hz hk ?_⟩
  · rintro g hg (rfl | rfl)
    · exact own_blk_ne hrow hbb (by decide) hg
    · exact own_blk_ne hrow h.rd.am (by decide) hg
  · rintro g hg (rfl | rfl)
    · exact own_blk_ne hz hbb (by decide) hg
    · exact own_blk_ne hz h.rd.am (by decide) hg
theorem DecSt.call (h : DecSt w W s av dv fs zs) (hb : Below W.heap.size W W1) : DecSt w W1 s av dv fs zs :=
  ⟨h.bel.trans (hb.mono h.bel.size), h.rd.call hb, h.rb.below hb h.rb.lt, h.ob.below hb h.ob.lt, h.fs.call hb, h.zs.call hb⟩
theorem DecSt.alloc (h : DecSt w W s av dv fs zs) (o : Obj) : DecSt w (W.alloc o) s av dv fs zs := h.call ((Below.refl _ _).alloc (Nat.le_refl _) _)
theorem DecSt.drew (h : DecSt w W s av dv fs zs) : DecSt w W.drew s av dv fs zs := ⟨h.bel.drew, h.rd.call ⟨rfl, rfl, rfl, Nat.le_refl _, fun _ _ => rfl⟩, h.rb, h.ob, h.fs.call ⟨rfl, rfl, rfl, Nat.le_refl _, fun _ _ => rfl⟩, h.zs⟩
theorem DecSt.put_f (h : DecSt w W s av dv fs zs) (ho : OwnF W1 w.heap.size av' fs') (hg : W.grownBy W1 av.ownBlock) : DecSt w (W1.setCell ⟨w.heap.size + 3, 0, none⟩ av') s av' dv fs' zs := by
  obtain ⟨A, n, c, hbb, _⟩ := h.rd.ex
  obtain ⟨cells, hrow, hc⟩ := h.fs
  obtain ⟨cells', hrow', hc'⟩ := ho
  have hk := Kept.of_grown hg
  have hf := Free5.own hrow (Nat.le_refl _) (by decide)
  have hob : Blk W1 (w.heap.size + 3) 25 _ := h.ob.kept hk (fun e => own_blk_ne hrow h.ob (by decide) e)
  have hrb : Blk W1 (w.heap.size + 1) 25 _ := h.rb.kept hk (fun e => own_blk_ne hrow h.rb (by decide) e)
  have hrd := h.rd.kept hk (fun e => own_blk_ne hrow hbb (by decide) e) (fun e => own_blk_ne hrow h.rd.am (by decide) e) hf
  have hzs : OwnI W1 w.heap.size dv zs := h.zs.kept hk (own_own_ne hrow h.zs (by decide))
  have hk2 : Kept (fun k => k = w.heap.size + 3) W1 (W1.setCell ⟨w.heap.size + 3, 0, none⟩ av') := Kept.one _ _ _ _
  have hf2 := Free5.blk hob (show w.heap.size ≤ w.heap.size + 3 by omega) (by decide)
  exact ⟨(h.bel.grown hg h.bel.size (fun g hg => (World.ownsRow.lt hrow g hg).1)).setCell (by simp) _, hrd.kept hk2 (by omega) (by omega) hf2, hrb.kept hk2 (by omega), hob.set_ 0 _,
    OwnF.kept ⟨cells', hrow', hc'⟩ hk2 (by rintro g hg rfl; exact own_blk_ne hrow' hob (by decide) hg) hf2, hzs.kept hk2 (by rintro g hg rfl; exact own_blk_ne hzs hob (by decide) hg)⟩
theorem DecSt.put_z (h : DecSt w W s av dv fs zs) (ho : OwnI W1 w.heap.size dv' zs') (hg : W.grownBy W1 dv.ownBlock) : DecSt w (W1.setCell ⟨w.heap.size + 3, 1, none⟩ dv') s av dv' fs zs' := by
  obtain ⟨A, n, c, hbb, _⟩ := h.rd.ex
  have hrow := h.zs
  have hk := Kept.of_grown hg
  have hf := Free5.own hrow (Nat.le_refl _) (by decide)
  obtain ⟨cells, hrowf, hc⟩ := h.fs
  have hob : Blk W1 (w.heap.size + 3) 25 _ := h.ob.kept hk (fun e => own_blk_ne hrow h.ob (by decide) e)
  have hrb : Blk W1 (w.heap.size + 1) 25 _ := h.rb.kept hk (fun e => own_blk_ne hrow h.rb (by decide) e)
  have hrd := h.rd.kept hk (fun e => own_blk_ne hrow hbb (by decide) e) (fun e => own_blk_ne hrow h.rd.am (by decide) e) hf
  have hfs : OwnF W1 w.heap.size av fs := OwnF.kept ⟨cells, hrowf, hc⟩ hk (own_own_ne hrow hrowf (by decide)) hf
  have hk2 : Kept (fun k => k = w.heap.size + 3) W1 (W1.setCell ⟨w.heap.size + 3, 1, none⟩ dv') := Kept.one _ _ _ _
  have hf2 := Free5.blk hob (show w.heap.size ≤ w.heap.size + 3 by omega) (by decide)
  obtain ⟨cells1, hrow1, _⟩ := hfs
  exact ⟨(h.bel.grown hg h.bel.size (fun g hg => (World.ownsRow.lt hrow g hg).1)).setCell (by simp) _, hrd.kept hk2 (by omega) (by omega) hf2, hrb.kept hk2 (by omega), hob.set_ 1 _,
    OwnF.kept ⟨cells1, hrow1, by assumption⟩ hk2 (by rintro g hg rfl; exact own_blk_ne hrow1 hob (by decide) hg) hf2, ho.kept hk2 (by rintro g hg rfl; exact own_blk_ne ho hob (by decide) hg)⟩
/-- The state of a decoding, all read. -/
structure FinSt (w W : World) (s : Bool × List UInt8) (av dv : Value) (fs : List FileD) (zs : List Int) (lg nx : Int) : Prop where
  bel : Below w.heap.size w W
  rd : RdSt W w.heap.size w.heap.size (w.heap.size + 2) s
  rb : Blk W (w.heap.size + 1) 25 #[.slice none 0 0, .slice none 0 0, .int .i64 0, .int .i64 0]
  ob : Blk W (w.heap.size + 3) 25 #[av, dv, .int .i64 lg, .int .i64 nx]
  fs : OwnF W w.heap.size av fs
  zs : OwnI W w.heap.size dv zs
theorem DecSt.fin (h : DecSt w W s av dv fs zs) (lg nx : Int) : FinSt w ((W.setCell ⟨w.heap.size + 3, 2, none⟩ (.int .i64 lg)).setCell ⟨w.heap.size + 3, 3, none⟩ (.int .i64 nx)) s av dv fs zs lg nx := by
  have hk : Kept (fun k => k = w.heap.size + 3) W ((W.setCell ⟨w.heap.size + 3, 2, none⟩ (.int .i64 lg)).setCell ⟨w.heap.size + 3, 3, none⟩ (.int .i64 nx)) := (Kept.one _ _ _ _).trans (Kept.one _ _ _ _)
  have hf := Free5.blk h.ob (show w.heap.size ≤ w.heap.size + 3 by omega) (by decide)
  obtain ⟨cells, hrow, hc⟩ := h.fs
  have hz := h.zs
  exact ⟨(h.bel.setCell (by simp) _).setCell (by simp) _, h.rd.kept hk (by omega) (by omega) hf, h.rb.kept hk (by omega), (h.ob.set_ 2 _).set_ 3 _,
    OwnF.kept ⟨cells, hrow, hc⟩ hk (by rintro g hg rfl; exact own_blk_ne hrow h.ob (by decide) hg) hf, hz.kept hk (by rintro g hg rfl; exact own_blk_ne hz h.ob (by decide) hg)⟩
end
end Go.Proofs.YtgjmfncebbfniaaGreatDoor
