/- A frame that names the blocks that may turn; the closures that package version's Decode reads by. -/
import Derived.Test.YtgjmfncebbfniaaGreatDoorDec
import Derived.Test.YtgjmfncebbfniaaGreatDoorEdit
namespace Go.Proofs.YtgjmfncebbfniaaGreatDoor
set_option maxRecDepth 100000
open Go Go.RowKit

/-- Nothing has turned but the blocks S, and what is new. -/
structure Kept (S : Nat → Prop) (w W : World) : Prop where
  os : W.os = w.os
  tape : W.tape = w.tape
  output : W.output = w.output
  size : w.heap.size ≤ W.heap.size
  block : ∀ k, k < w.heap.size → ¬ S k → W.heap[k]? = w.heap[k]?
section
variable {S : Nat → Prop} {w W W' : World}
theorem Kept.refl (S : Nat → Prop) (w : World) : Kept S w w := ⟨rfl, rfl, rfl, Nat.le_refl _, fun _ _ _ => rfl⟩
theorem Kept.trans (h : Kept S w W) (k : Kept S W W') : Kept S w W' :=
  ⟨k.os.trans h.os, k.tape.trans h.tape, k.output.trans h.output, Nat.le_trans h.size k.size, fun i hi hs => (k.block i (Nat.lt_of_lt_of_le hi h.size) hs).trans (h.block i hi hs)⟩
theorem Kept.of_below (h : Below w.heap.size w W) : Kept S w W := ⟨h.os, h.tape, h.output, h.size, fun k hk _ => h.block k hk⟩
theorem Kept.call (h : Kept S w W) (hb : Below W.heap.size W W') : Kept S w W' := h.trans (Kept.of_below hb)
theorem Kept.alloc (h : Kept S w W) (o : Obj) : Kept S w (W.alloc o) := h.call ((Below.refl _ _).alloc (Nat.le_refl _) _)
theorem Kept.drew (h : Kept S w W) : Kept S w W.drew := ⟨h.os, h.tape, h.output, h.size, h.block⟩
theorem Kept.drewN (h : Kept S w W) (n : Nat) : Kept S w (W.drewN n) := ⟨h.os, h.tape, h.output, h.size, h.block⟩
theorem Kept.store (h : Kept S w W) {p : Addr} (hp : S p.block ∨ w.heap.size ≤ p.block) (u : Value) : Kept S w (W.setCell p u) :=
  ⟨h.os, h.tape, h.output, by simpa [World.setCell] using h.size, fun k hk hs => (Below.heap_setCell W p u k (by
    rintro rfl
    rcases hp with hp | hp
    · exact hs hp
    · omega)).trans (h.block k hk hs)⟩
theorem Kept.mono {S' : Nat → Prop} (h : Kept S w W) (hs : ∀ k, k < w.heap.size → S k → S' k) : Kept S' w W :=
  ⟨h.os, h.tape, h.output, h.size, fun k hk hn => h.block k hk (fun e => hn (hs k hk e))⟩
theorem Kept.below {B : Nat} (h : Kept S w W) (hB : B ≤ w.heap.size) (hs : ∀ k, S k → B ≤ k) : Below B w W :=
  ⟨h.os, h.tape, h.output, h.size, fun k hk => h.block k (by omega) (fun e => by have := hs k e; omega)⟩
theorem Blk.kept {g : Nat} {t : TypeId} {cs : Array Value} (h : Blk w g t cs) (hk : Kept S w W) (hs : ¬ S g) : Blk W g t cs := (hk.block g h.lt hs).trans h
theorem Kept.cell (h : Kept S w W) {p : Addr} (hp : p.block < w.heap.size) (hs : ¬ S p.block) : W.cell? p = w.cell? p := World.cell?_of_block (h.block p.block hp hs)
/-- Bytes read as they did: no block that may turn holds a byte. -/
theorem Reads.kept {B : Nat} {A : Option Addr} {n : Nat} {xs : List UInt8} (h : Reads w B 1 A n (BY xs)) (hk : Kept S w W) (hs : ∀ k, S k → ∀ o c, w.cell? ⟨k, o, none⟩ ≠ some (.int .u8 c)) : Reads W W.heap.size 1 A n (BY xs) := by
  refine ⟨h.1, fun hn => ?_⟩
  obtain ⟨b, off, rfl, _, hc⟩ := h.spot hn (by omega)
  have hl : 0 < xs.length := by have := h.1; rw [BY_len] at this; omega
  have h0 := hc 0 (.int .u8 (xs[0].toNat : Int)) (by simp [BY, hl])
  have hb : b < w.heap.size := World.block_lt_of_cell? w _ h0
  have hS : ¬ S b := fun e => hs b e _ _ h0
  refine ⟨_, rfl, Nat.lt_of_lt_of_le hb hk.size, fun j u hu => ?_⟩
  have := hc j u hu
  rw [← hk.cell (p := ⟨b, off + j, none⟩) hb hS] at this
  unfold Addr.add
  split
  · rename_i e; subst e; exact this
  · exact this
end

/-- The blocks S lie from B on and hold no bytes. -/
def Free5 (w : World) (B : Nat) (S : Nat → Prop) : Prop := ∀ k, S k → B ≤ k ∧ ∀ cs fz, w.heap[k]? ≠ some (.cells cs 5 fz)
theorem RdB.kept {S : Nat → Prop} {w W : World} {B n : Nat} {A : Option Addr} {xs : List UInt8} (h : RdB w B A n xs) (hk : Kept S w W) (hs : Free5 w B S) : RdB W B A n xs := by
  refine ⟨⟨h.1.1, fun hn => ?_⟩, fun hn ad e => ?_⟩
  · obtain ⟨ad, rfl, hb, hc⟩ := h.1.2 hn
    have hS : ¬ S ad.block := fun e => by
      rcases h.2 hn ad rfl with h1 | ⟨cs, fz, h1⟩
      · have := (hs _ e).1; omega
      · exact (hs _ e).2 _ _ h1
    exact ⟨ad, rfl, Nat.lt_of_lt_of_le hb hk.size, fun j u hu => (hk.cell (p := ad.add j) (by rw [block_of_add]; exact hb) (by rw [block_of_add]; exact hS)).trans (hc j u hu)⟩
  · rcases h.2 hn ad e with h1 | ⟨cs, fz, h1⟩
    · exact .inl h1
    · exact .inr ⟨cs, fz, by rw [hk.block _ (lt_of_block h1) (fun e => (hs _ e).2 _ _ h1)]; exact h1⟩
theorem Free5.blk {w : World} {B g : Nat} {t : TypeId} {cs : Array Value} (h : Blk w g t cs) (hB : B ≤ g) (ht : t ≠ 5) : Free5 w B (fun k => k = g) := by
  rintro k rfl
  refine ⟨hB, fun cs' fz e => ?_⟩
  unfold Blk at h
  rw [h] at e
  injection e with e
  injection e with _ e
  exact ht e
theorem Free5.or {w : World} {B : Nat} {S T : Nat → Prop} (h : Free5 w B S) (h' : Free5 w B T) : Free5 w B (fun k => S k ∨ T k) := by
  rintro k (e | e)
  · exact h k e
  · exact h' k e
theorem Free5.own {w : World} {base B size n : Nat} {e : TypeId} {v : Value} {xs : List Value} (h : w.ownsRow base e size v n xs) (hB : B ≤ base) (he : e ≠ 5) : Free5 w B (fun k => v.ownBlock = some k) := by
  intro k hk
  refine ⟨Nat.le_trans hB (World.ownsRow.lt h k hk).1, fun cs' fz e' => ?_⟩
  rcases h.2 with ⟨rfl, _⟩ | ⟨g, cap, cur, rfl, _, hh, _⟩
  · simp [Value.ownBlock] at hk
  · have : g = k := by simpa [Value.ownBlock] using hk
    subst this
    rw [hh] at e'
    injection e' with e'
    injection e' with _ e'
    exact he e'
theorem Kept.of_grown {w W : World} {v : Value} (h : w.grownBy W v.ownBlock) : Kept (fun k => v.ownBlock = some k) w W := ⟨h.os, h.tape, h.output, h.size, fun k hk hn => h.block k hk (fun e => hn e.symm)⟩

theorem Kept.one (W : World) (g j : Nat) (u : Value) : Kept (fun k => k = g) W (W.setCell ⟨g, j, none⟩ u) := (Kept.refl (fun k => k = g) W).store (p := ⟨g, j, none⟩) (.inl rfl) u
/-- The reader's two variables: the bytes that are left, whether something was amiss. -/
structure RdSt (W : World) (B bb am : Nat) (s : Bool × List UInt8) : Prop where
  ex : ∃ A n c, Blk W bb 26 #[.slice A n c] ∧ RdB W B A n s.2 ∧ n ≤ c ∧ n ≤ lim
  le : B ≤ bb ∧ B ≤ am
  am : Blk W am 4 #[.bool s.1]
/-- The two blocks. -/
def Two (bb am : Nat) : Nat → Prop := fun k => k = bb ∨ k = am
section
variable {W W1 : World} {B bb am : Nat} {s : Bool × List UInt8}
theorem Two.free (h : RdSt W B bb am s) : Free5 W B (Two bb am) := by
  obtain ⟨A, n, c, hb, _⟩ := h.ex
  exact (Free5.blk hb h.le.1 (by decide)).or (Free5.blk h.am h.le.2 (by decide))
theorem RdSt.ne_ (h : RdSt W B bb am s) : bb ≠ am := by
  obtain ⟨A, n, c, hb, _⟩ := h.ex
  exact hb.ne_ h.am (by decide)
theorem RdSt.call (h : RdSt W B bb am s) (hb : Below W.heap.size W W1) : RdSt W1 B bb am s := by
  obtain ⟨A, n, c, h1, h2, h3, h4⟩ := h.ex
  exact ⟨⟨A, n, c, h1.below hb h1.lt, h2.lift hb, h3, h4⟩, h.le, h.am.below hb h.am.lt⟩
theorem RdSt.kept {S : Nat → Prop} (h : RdSt W B bb am s) (hk : Kept S W W1) (hb : ¬ S bb) (ha : ¬ S am) (hs : Free5 W B S) : RdSt W1 B bb am s := by
  obtain ⟨A, n, c, h1, h2, h3, h4⟩ := h.ex
  exact ⟨⟨A, n, c, h1.kept hk hb, h2.kept hk hs, h3, h4⟩, h.le, h.am.kept hk ha⟩
/-- The variable of bytes is written. -/
theorem RdSt.set_b (h : RdSt W B bb am s) {A : Option Addr} {n c : Nat} {ys : List UInt8} (hr : RdB W B A n ys) (hc : n ≤ c) (hl : n ≤ lim) : RdSt (W.setCell ⟨bb, 0, none⟩ (.slice A n c)) B bb am (s.1, ys) := by
  obtain ⟨A0, n0, c0, h1, _⟩ := h.ex
  have hk : Kept (Two bb am) W (W.setCell ⟨bb, 0, none⟩ (.slice A n c)) := (Kept.refl _ _).store (.inl (.inl rfl)) _
  exact ⟨⟨A, n, c, h1.set_ 0 _, hr.kept hk (Two.free h), hc, hl⟩, h.le, h.am.far (Ne.symm h.ne_) _⟩
theorem RdSt.set_a (h : RdSt W B bb am s) (x : Bool) : RdSt (W.setCell ⟨am, 0, none⟩ (.bool x)) B bb am (x, s.2) := by
  obtain ⟨A0, n0, c0, h1, h2, h3, h4⟩ := h.ex
  have hk : Kept (Two bb am) W (W.setCell ⟨am, 0, none⟩ (.bool x)) := (Kept.refl _ _).store (.inl (.inr rfl)) _
  exact ⟨⟨A0, n0, c0, h1.far h.ne_ _, h2.kept hk (Two.free h), h3, h4⟩, h.le, h.am.set_ 0 _⟩
end
end Go.Proofs.YtgjmfncebbfniaaGreatDoor
