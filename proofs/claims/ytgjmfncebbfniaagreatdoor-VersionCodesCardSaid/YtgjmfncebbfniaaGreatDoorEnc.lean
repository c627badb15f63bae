/- The plain encoding of edits; the reference's numbers. -/
import Derived.Test.YtgjmfncebbfniaaGreatDoorRefFile
import Derived.Test.YtgjmfncebbfniaaGreatDoorNum
namespace Go.Proofs.YtgjmfncebbfniaaGreatDoor
set_option maxRecDepth 100000
open Go Go.RowKit

def encInts (zs : List Int) : List UInt8 := zs.flatMap fun z => num7 z.toNat
def encFile (f : FileD) : List UInt8 := encInts [f.number, f.level] ++ text7 f.first ++ text7 f.last ++ encInts [f.low, f.high]
def encEdit (e : EditD) : List UInt8 := encInts [e.add.length] ++ e.add.flatMap encFile ++ encInts [e.drop.length] ++ encInts e.drop ++ encInts [e.log, e.next]
/-- Numbers that an encoding takes. -/
def Small (z : Int) : Prop := 0 ≤ z ∧ z ≤ 1099511627776
theorem small_one {n : Nat} (h : n ≤ 50) : ∀ z ∈ [(n : Int)], Small z := by
  intro z hz; simp at hz; unfold Small; omega
theorem small_two {a b : Int} (ha : 0 ≤ a ∧ a ≤ 1099511627776) (hb : 0 ≤ b ∧ b ≤ 1099511627776) : ∀ z ∈ [a, b], Small z := by
  intro z hz
  simp at hz
  rcases hz with rfl | rfl
  · exact ha
  · exact hb
theorem encInts_snoc (zs : List Int) (k : Nat) (hk : k < zs.length) : encInts (zs.take (k + 1)) = encInts (zs.take k) ++ num7 zs[k].toNat := by
  unfold encInts
  rw [List.take_succ_eq_append_getElem hk, List.flatMap_append]; simp
theorem encInts_len (zs : List Int) (h : ∀ z ∈ zs, Small z) : (encInts zs).length ≤ 10 * zs.length := by
  induction zs with
  | nil => simp [encInts]
  | cons z r ih =>
    have h1 := ih (fun x hx => h x (List.mem_cons_of_mem _ hx))
    have h2 := num7_len z.toNat (by have := h z (List.mem_cons_self ..); unfold Small at this; omega)
    simp only [encInts, List.flatMap_cons, List.length_append, List.length_cons] at *
    omega
theorem text7_len (xs : List UInt8) (h : xs.length ≤ 65536) : (text7 xs).length ≤ 10 + xs.length := by
  have := num7_len xs.length (by omega)
  simp [text7]; omega
theorem encFile_len (f : FileD) (h : okFile f = true) : (encFile f).length ≤ 2000 := by
  have := okFile_iff.1 h
  have h1 := encInts_len [f.number, f.level] (by intro z hz; simp at hz; unfold Small; omega)
  have h2 := encInts_len [f.low, f.high] (by intro z hz; simp at hz; unfold Small; omega)
  have h3 := text7_len f.first (by omega)
  have h4 := text7_len f.last (by omega)
  simp only [encFile, List.length_append, List.length_cons, List.length_nil] at *
  omega
theorem encFiles_len (fs : List FileD) (h : ∀ f ∈ fs, okFile f = true) : (fs.flatMap encFile).length ≤ 2000 * fs.length := by
  induction fs with
  | nil => simp
  | cons f r ih =>
    have h1 := ih (fun x hx => h x (List.mem_cons_of_mem _ hx))
    have h2 := encFile_len f (h f (List.mem_cons_self ..))
    simp only [List.flatMap_cons, List.length_append, List.length_cons] at *
    omega
theorem encFiles_snoc (fs : List FileD) (k : Nat) (hk : k < fs.length) : (fs.take (k + 1)).flatMap encFile = (fs.take k).flatMap encFile ++ encFile fs[k] := by
  rw [List.take_succ_eq_append_getElem hk, List.flatMap_append]; simp

theorem Ints.new (w : World) (zs : List Int) (B : Nat) (hB : w.heap.size < B) : Ints (w.alloc (.cells (zs.map (Value.int .i64)).toArray 3)) B (some ⟨w.heap.size, 0, none⟩) zs.length zs :=
  ⟨rfl, fun _ => ⟨_, _, rfl, hB, fun i z hz => by
    rw [Nat.zero_add, (Blk.new w 3 _).cell]
    simp [hz]⟩⟩
/-- The state of an encoding's round: W0 as it was when the call began, the row that grows, the boxed file. -/
structure RowSt (W0 W : World) (v : Value) (xs : List UInt8) (fb : Nat) (t : TypeId) (cs : Array Value) : Prop where
  bel : Below W0.heap.size W0 W
  own : OwnB W W0.heap.size v xs
  blk : Blk W fb t cs
section
variable {W0 W W1 : World} {v v' : Value} {xs ys : List UInt8} {fb : Nat} {t : TypeId} {cs : Array Value}
theorem RowSt.call (h : RowSt W0 W v xs fb t cs) (hb : Below W.heap.size W W1) : RowSt W0 W1 v xs fb t cs :=
  ⟨h.bel.trans (hb.mono h.bel.size), h.own.below hb, h.blk.below hb h.blk.lt⟩
theorem RowSt.alloc (h : RowSt W0 W v xs fb t cs) (o : Obj) : RowSt W0 (W.alloc o) v xs fb t cs := h.call ((Below.refl _ _).alloc (Nat.le_refl _) _)
theorem RowSt.app (h : RowSt W0 W v xs fb t cs) (ht : 5 ≠ t) (ho : OwnB W1 W0.heap.size v' ys) (hg : W.grownBy W1 v.ownBlock) : RowSt W0 W1 v' ys fb t cs :=
  ⟨h.bel.grown hg h.bel.size (fun g hg => (World.ownsRow.lt h.own g hg).1), ho, h.blk.grown hg (fun e => own_blk_ne h.own h.blk ht e.symm)⟩
end
theorem ref_numbers (A : Option Addr) (n c : Nat) (zs : List Int) (w : World) (hn : n ≤ 1000) (hs : ∀ z ∈ zs, Small z) (hI : Ints w w.heap.size A n zs) :
    Calls Tryz.prog 37 #[.slice A n c] w fun e w' => ∃ v, e = .returned v ∧ OwnB w' w.heap.size v (encInts zs) ∧ Below w.heap.size w w' := by
  have HI := hide hI.1
  have HS := hide hs
  clear hs
  go_enter Tryz.func37, Tryz.ntmps37
  go_wp2
  go_loopw [3, 4] (fun v i wr => ∃ k : Nat, k ≤ n ∧ i = .int .i64 k ∧ OwnB wr w.heap.size v (encInts (zs.take k)) ∧ Below w.heap.size w wr) (fun _ i _ => n - (intOf i).toNat)
  case atStart => exact ⟨0, Nat.zero_le _, rfl, OwnB.nil _ _, Below.refl _ _⟩
  case round =>
    obtain ⟨k, hk, rfl, hown, hb⟩ := hrel
    by_cases hlt : k < n
    · obtain ⟨b, off, hx, rfl, hbB, hc⟩ := hI.at_ hlt
      have h0 := (hb.cell (p := ⟨b, off + k, none⟩) hbB).trans hc
      have hz := HS.out zs[k] (List.getElem_mem hx)
      have hl := encInts_len (zs.take k) (fun z hz => HS.out z (List.mem_of_mem_take hz))
      have hl2 : (zs.take k).length ≤ k := List.length_take_le _ _
      have hl3 : (encInts (zs.take k)).length ≤ 10000 := by omega
      have HE := hide (encInts_snoc zs k hx)
      clear hc hl hl2
      unfold Small at hz
      generalize zs[k] = z at *
      obtain ⟨hz0, hz1⟩ := hz
      have hl4 := num7_len z.toNat (by omega)
      go_wp2_with (first
        | (go_at_call 96; refine (ref_number z _ (by omega) (by omega)).mono ?_; rintro e w1 ⟨v1, rfl, hown1, hb1⟩; obtain ⟨A1, c1, rfl, hc1, hm1, hr1⟩ := hown1.form)
        | (at_builtin; refine app_bytes rfl _ _ rfl w.heap.size _ _ (num7 z.toNat) rfl (hown.below hb1) _ _ _ _ rfl hr1 (by omega) (Nat.le_trans hb.size hb1.size) ?_; intro v2 w2 hown2 hg2 hat2))
      go_roundw
      case rel => exact ⟨k + 1, by omega, by go_num, by rw [HE.out]; exact hown2, (hb.trans (hb1.mono hb.size)).grown hg2 (Nat.le_trans hb.size hb1.size) (fun g hg => (World.ownsRow.lt hown g hg).1)⟩
      case measure => simp [intOf]; omega
    · go_wp2
      go_ret
      have := HI.out
      rw [List.take_of_length_le (by omega)] at hown
      exact ⟨_, rfl, hown, hb⟩
end Go.Proofs.YtgjmfncebbfniaaGreatDoor
