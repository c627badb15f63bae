/- The closure that package version's Encode writes its bytes by. -/
import Derived.Test.YtgjmfncebbfniaaGreatDoorEnc
import Derived.Deep.RegionHeld3
import Derived.Deep.RegionLaw
import Derived.Deep.DeepMust
namespace Go.Proofs.YtgjmfncebbfniaaGreatDoor
set_option maxRecDepth 100000
open Go Go.RowKit

/-- Of what lay below B nothing has turned, nor of any block that holds neither bytes nor a captured slice of bytes. -/
structure Keeps (B : Nat) (w W : World) : Prop where
  bel : Below B w W
  blk : ∀ k t cs, Blk w k t cs → t ≠ 5 → t ≠ 26 → Blk W k t cs
/-- The captured variable cb holds a slice that owns the bytes xs. -/
structure Cap (W : World) (B cb : Nat) (xs : List UInt8) : Prop where
  ex : ∃ v, Blk W cb 26 #[v] ∧ OwnB W B v xs
section
variable {w W W' : World} {B cb : Nat} {xs ys : List UInt8} {v v' : Value}
theorem Keeps.refl (B : Nat) (w : World) : Keeps B w w := ⟨Below.refl _ _, fun _ _ _ h _ _ => h⟩
theorem Keeps.trans {w' : World} (h : Keeps B w W) (k : Keeps B W w') : Keeps B w w' := ⟨h.bel.trans k.bel, fun i t cs hi h1 h2 => k.blk i t cs (h.blk i t cs hi h1 h2) h1 h2⟩
theorem Keeps.call (h : Keeps B w W) (hb : Below W.heap.size W W') (hB : B ≤ W.heap.size) : Keeps B w W' :=
  h.trans ⟨hb.mono hB, fun _ _ _ hi _ _ => hi.below hb hi.lt⟩
theorem Keeps.app (h : Keeps B w W) (ho : OwnB W B v xs) (hg : W.grownBy W' v.ownBlock) (hB : B ≤ W.heap.size) : Keeps B w W' :=
  h.trans ⟨(Below.refl _ _).grown hg hB (fun g hg => (World.ownsRow.lt ho g hg).1), fun _ _ _ hi h1 _ => hi.grown hg (fun e => own_blk_ne ho hi (Ne.symm h1) e.symm)⟩
theorem Keeps.store (h : Keeps B w W) {cs : Array Value} (hb : Blk W cb 26 cs) (hB : B ≤ cb) (u : Value) : Keeps B w (W.setCell ⟨cb, 0, none⟩ u) :=
  h.trans ⟨(Below.refl _ _).setCell hB u, fun _ _ _ hi _ h2 => hi.far (hi.ne_ hb h2) u⟩
theorem Keeps.alloc (h : Keeps B w W) (o : Obj) (hB : B ≤ W.heap.size) : Keeps B w (W.alloc o) := h.call ((Below.refl _ _).alloc (Nat.le_refl _) _) hB
theorem Cap.alloc (h : Cap W B cb xs) (o : Obj) : Cap (W.alloc o) B cb xs := by
  obtain ⟨v, h1, h2⟩ := h.ex
  exact ⟨v, h1.alloc o, h2.alloc o⟩
theorem Keeps.drew (h : Keeps B w W) : Keeps B w W.drew := ⟨h.bel.drew, h.blk⟩
theorem Keeps.undrew (h : Keeps B w.drew W) : Keeps B w W := ⟨⟨h.bel.os, h.bel.tape, h.bel.output, h.bel.size, h.bel.block⟩, h.blk⟩
theorem Cap.call (h : Cap W B cb xs) (hb : Below W.heap.size W W') : Cap W' B cb xs := by
  obtain ⟨v, h1, h2⟩ := h.ex
  exact ⟨v, h1.below hb h1.lt, h2.below hb⟩
end

/-- What the closure leaves. -/
def CapPost (w : World) (B cb : Nat) (ys : List UInt8) (e : Ending) (W : World) : Prop := e = .returned (.tuple #[]) ∧ Cap W B cb ys ∧ Keeps B w W

theorem encode_numbers (A : Option Addr) (n c : Nat) (zs : List Int) (B cb : Nat) (xs : List UInt8) (w : World) (hn : n ≤ 1000) (hx : xs.length ≤ 1000000) (hs : ∀ z ∈ zs, Small z) (hB : B ≤ cb) (hcap : Cap w B cb xs)
    (hI : ∀ W, Keeps B w W → Ints W W.heap.size A n zs) :
    Calls Tryz.prog 33 #[.slice A n c, .pointer (some ⟨cb, 0, none⟩)] w (CapPost w B cb (xs ++ encInts zs)) := by
  have HI := hide (hI w (Keeps.refl _ _)).1
  have HS := hide hs
  have HII := hide hI
  clear hs hI
  go_enter Tryz.func33, Tryz.ntmps33
  go_wp2
  go_loopw [7] (fun i wr => ∃ k : Nat, k ≤ n ∧ i = .int .i64 k ∧ Cap wr B cb (xs ++ encInts (zs.take k)) ∧ Keeps B w wr) (fun i _ => n - (intOf i).toNat)
  case atStart => exact ⟨0, Nat.zero_le _, rfl, by simpa [encInts] using hcap, Keeps.refl _ _⟩
  case round =>
    obtain ⟨k, hk, rfl, hcr, hkeep⟩ := hrel
    by_cases hlt : k < n
    · obtain ⟨b, off, hx, rfl, hbB, hc⟩ := (HII.out wr hkeep).at_ hlt
      have hz := HS.out zs[k] (List.getElem_mem hx)
      have hl := encInts_len (zs.take k) (fun z hz => HS.out z (List.mem_of_mem_take hz))
      have hl2 : (zs.take k).length ≤ k := List.length_take_le _ _
      have hl3 : (xs ++ encInts (zs.take k)).length ≤ 1010000 := by rw [List.length_append]; omega
      have HE := hide (encInts_snoc zs k hx)
      obtain ⟨v, hcb, hown⟩ := hcr.ex
      have hBw : B ≤ wr.heap.size := by have := hcb.lt; omega
      have hq : wr.cell? ⟨cb, 0, none⟩ = some v := hcb.cell 0
      clear hl hl2
      unfold Small at hz
      generalize zs[k] = z at *
      obtain ⟨hz0, hz1⟩ := hz
      have hl4 := num7_len z.toNat (by omega)
      have hwz : IntKind.u64.wrap z = z := by rw [IntKind.wrap_u64]; omega
      generalize hacc : xs ++ encInts (zs.take k) = acc at *
      have HA := hide hacc
      clear hacc
      go_wp2
      go_region_law (first
        | (have _tok := hown1; refine step_app_bytes rfl (.tmp 11) (.tmp 14) rfl B v acc (num7 z.toNat) rfl (hown.drew.below hb1) _ A1 _ c1 rfl hr1 (by omega) (Nat.le_trans hBw hb1.size) ?_; intro v2 w2 hown2 hg2 hat2; have hcb2 : Blk w2 cb 26 #[v] := hcb1.grown hg2 (fun e => own_blk_ne hown hcb (by decide) e.symm); have hq2 := hcb2.cell 0; have hf2 := hcb2.frozen 0; obtain ⟨A2, n2, c2, rfl, hn2, hc2, hr2⟩ := hown2.form2)
        | (go_simp; go_at_call 34; refine (code_number z _ (by omega) (by omega)).mono ?_; rintro e w1 ⟨v1, rfl, hown1, hb1⟩; obtain ⟨A1, c1, rfl, hc1, hm1, hr1⟩ := hown1.form; have hcb1 : Blk w1 cb 26 #[v] := hcb.drew.below hb1 hcb.lt; have hq1 := hcb1.cell 0; have hf1 := hcb1.frozen 0))
      all_goals go_wp2
      all_goals go_roundw
      case rel | rel =>
        refine ⟨k + 1, by omega, by go_num, ⟨_, hcb2.set_ 0 _, ?_⟩, ?_⟩
        · rw [HE.out, ← List.append_assoc, HA.out]
          exact hown2.far (own_blk_ne hown2 hcb2 (by decide)) _
        · exact (((hkeep.drew.call hb1 hBw).app (hown.drew.below hb1) hg2 (Nat.le_trans hBw hb1.size))).store hcb2 hB _
      all_goals (simp [intOf]; omega)
    · go_wp2
      go_end0
      have := HI.out
      rw [List.take_of_length_le (by omega)] at hcr
      exact ⟨rfl, hcr, hkeep⟩

theorem Ints.of_blk {W : World} {g : Nat} (zs : List Int) {cs : Array Value} (h : Blk W g 3 cs) (hcs : cs = (zs.map (Value.int .i64)).toArray) : Ints W W.heap.size (some ⟨g, 0, none⟩) zs.length zs :=
  ⟨rfl, fun _ => ⟨_, _, rfl, h.lt, fun i z hz => by
    rw [Nat.zero_add, h.cell, hcs]
    simp [hz]⟩⟩
/-- The closure called with numbers that stand in the text. -/
theorem encode_lit (zs : List Int) (n B cb : Nat) (xs : List UInt8) (W : World) (hn : n = zs.length) (hn1 : n ≤ 1000) (hx : xs.length ≤ 1000000) (hs : ∀ z ∈ zs, Small z) (hB : B ≤ cb) (hcap : Cap W B cb xs) (g : Nat) (hg : g = W.heap.size) :
    Calls Tryz.prog 33 #[.slice (some ⟨g, 0, none⟩) n n, .pointer (some ⟨cb, 0, none⟩)] (W.alloc (.cells (zs.map (Value.int .i64)).toArray 3)) (CapPost (W.alloc (.cells (zs.map (Value.int .i64)).toArray 3)) B cb (xs ++ encInts zs)) := by
  subst hn hg
  exact encode_numbers _ _ _ zs B cb xs _ hn1 hx hs hB (hcap.alloc _) (fun W' hk => Ints.of_blk zs (hk.blk _ _ _ (Blk.new W 3 _) (by decide) (by decide)) rfl)
end Go.Proofs.YtgjmfncebbfniaaGreatDoor
