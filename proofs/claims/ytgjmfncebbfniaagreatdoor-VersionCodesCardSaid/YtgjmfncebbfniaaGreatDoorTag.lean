/- Blocks by the type of their cells; a frame that names the blocks that may turn, kept by types. -/
import Derived.Test.YtgjmfncebbfniaaGreatDoorOwnF
import Derived.Test.YtgjmfncebbfniaaGreatDoorDir
namespace Go.Proofs.YtgjmfncebbfniaaGreatDoor
set_option maxRecDepth 100000
open Go Go.RowKit Go.Maps

/-- The type of a block's cells; none: it is no row of cells. -/
def tag (w : World) (k : Nat) : Option TypeId := match w.heap[k]? with
  | some (.cells _ t _) => some t
  | _ => none
section
variable {w W W1 : World} {S T : Nat → Prop} {g k : Nat} {t : TypeId} {cs : Array Value}
theorem Blk.tag (h : Blk w g t cs) : tag w g = some t := by unfold Blk at h; simp [Proofs.YtgjmfncebbfniaaGreatDoor.tag, h]
theorem own_tag {base size n : Nat} {e : TypeId} {v : Value} {xs : List Value} (h : w.ownsRow base e size v n xs) (hg : v.ownBlock = some g) : tag w g = some e := by
  rcases h.2 with ⟨rfl, _⟩ | ⟨g', cap, cur, rfl, _, hh, _⟩
  · simp [Value.ownBlock] at hg
  · have : g' = g := by simpa [Value.ownBlock] using hg
    subst this
    simp [tag, hh]
theorem map_tag {P : Program} {kt : TypeId} {R : Value → Option (DataW Unit × List MemPlace)} {b n : Nat} {D : DataW Unit} (h : w.ownsMap P kt R b n D) : tag w b = none := by
  obtain ⟨es, clock, hb, _⟩ := h
  simp [tag, hb]
theorem Kept.tag (h : Kept T w W) (hk : k < w.heap.size) (hT : ¬ T k) : tag W k = tag w k := by unfold Proofs.YtgjmfncebbfniaaGreatDoor.tag; rw [h.block k hk hT]
/-- The blocks of T hold cells of none of these types, where they lie in S. -/
def Off (w : World) (S T : Nat → Prop) (ts : List (Option TypeId)) : Prop := ∀ k, T k → S k → ∀ t ∈ ts, tag w k ≠ t
theorem Off.blk {ts : List (Option TypeId)} (h : Off w S T ts) (hb : Blk w g t cs) (hS : S g) (ht : some t ∈ ts) : ¬ T g := fun hT => h g hT hS _ ht hb.tag
theorem Off.own {ts : List (Option TypeId)} {base size n : Nat} {e : TypeId} {v : Value} {xs : List Value} (h : Off w S T ts) (hr : w.ownsRow base e size v n xs) (hS : ∀ g, v.ownBlock = some g → S g) (ht : some e ∈ ts) : ∀ g, v.ownBlock = some g → ¬ T g :=
  fun g hg hT => h g hT (hS g hg) _ ht (own_tag hr hg)
theorem Off.away {ts : List (Option TypeId)} (h : ∀ k, T k → ¬ S k) : Off w S T ts := fun k hT hS => absurd hS (h k hT)
theorem Off.one {ts : List (Option TypeId)} {t0 : Option TypeId} (hb : tag w g = t0) (h : t0 ∉ ts) : Off w S (fun k => k = g) ts := by
  rintro k rfl _ t ht e
  exact h (by rw [← hb, e]; exact ht)
theorem Off.same {ts : List (Option TypeId)} {t0 : Option TypeId} (hb : ∀ k, T k → tag w k = t0) (h : t0 ∉ ts) : Off w S T ts := by
  intro k hk _ t ht e
  exact h (by rw [← hb k hk, e]; exact ht)
theorem Off.sub {ts ts' : List (Option TypeId)} (h : Off w S T ts) (hs : ∀ t ∈ ts', t ∈ ts) : Off w S T ts' := fun k a b t ht => h k a b t (hs t ht)
theorem Off.never {ts : List (Option TypeId)} : Off w S (fun _ => False) ts := fun _ h => h.elim
theorem ownsMap_kept {P : Program} {kt : TypeId} {R : Value → Option (DataW Unit × List MemPlace)} {b n : Nat} {D : DataW Unit} (h : w.ownsMap P kt R b n D) (hk : Kept T w W) (hT : ¬ T b) : W.ownsMap P kt R b n D := by
  have hlt := h.lt
  obtain ⟨es, clock, hb, F, hs, hD⟩ := h
  exact ⟨es, clock, (hk.block b hlt hT).trans hb, F, hs, hD⟩
end
end Go.Proofs.YtgjmfncebbfniaaGreatDoor
