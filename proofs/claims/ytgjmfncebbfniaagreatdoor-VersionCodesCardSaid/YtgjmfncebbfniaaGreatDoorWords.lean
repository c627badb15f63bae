/- Owned rows of bytes, ints and other elements in this program; appends onto them. -/
import Derived.Test.YtgjmfncebbfniaaGreatDoorProg
import Derived.Test.YtgjmfncebbfniaaGreatDoorBase
import Derived.Test.YtgjmfncebbfniaaGreatDoorCheck
import Derived.Lib.Hide
namespace Go.Proofs.YtgjmfncebbfniaaGreatDoor
set_option maxRecDepth 100000
open Go Go.RowKit

theorem info_u8 : (Tryz.prog.info? 5).map (fun i => (i.zero, i.size, i.bytes)) = some (some (.int .u8 0), 1, 1) := by kernel_rfl
theorem info_int : (Tryz.prog.info? 3).map (fun i => (i.zero, i.size, i.bytes)) = some (some (.int .i64 0), 1, 8) := by kernel_rfl

/-- A bound on lengths, behind a name (a great numeral in the context stops the walk). -/
def lim : Nat := 1099511627776
theorem lim_le {n : Nat} (h : n ≤ lim) : n ≤ 9223372036854775807 := Nat.le_trans h (by unfold lim; omega)
/-- The slice value v owns a row of bytes. -/
def OwnB (w : World) (base : Nat) (v : Value) (xs : List UInt8) : Prop := w.ownsRow base 5 1 v xs.length (BY xs)
theorem BY_one (xs : List UInt8) : ∀ u ∈ BY xs, u.oneCell' = true := by
  intro u hu
  simp only [BY, List.mem_map] at hu
  obtain ⟨c, _, rfl⟩ := hu
  rfl
theorem BY_append (xs ys : List UInt8) : BY (xs ++ ys) = BY xs ++ BY ys := by simp [BY]
theorem BY_cons (x : UInt8) (ys : List UInt8) : BY (x :: ys) = .int .u8 (x.toNat : Int) :: BY ys := by simp [BY]
theorem byte_of (x : Int) (h0 : 0 ≤ x) (h1 : x < 256) : ((UInt8.ofNat x.toNat).toNat : Int) = x := by
  rw [UInt8.toNat_ofNat']; omega
theorem BY_sing (x : Int) (h0 : 0 ≤ x) (h1 : x < 256) : BY [UInt8.ofNat x.toNat] = [.int .u8 x] := by
  simp only [BY, List.map_cons, List.map_nil, byte_of x h0 h1]

theorem add_zero_ (a : Addr) : a.add 0 = a := by simp [Addr.add]
theorem headD_at {xs : List UInt8} (h : 0 < xs.length) : xs.headD 0 = xs[0] := by cases xs with
  | nil => simp at h
  | cons => rfl
theorem bcell {W w1 : World} (hb : Below W.heap.size W w1) : (∀ b o, b < W.heap.size → w1.cell? ⟨b, o, none⟩ = W.cell? ⟨b, o, none⟩) ∧ (∀ b o, b < W.heap.size → w1.frozen? ⟨b, o, none⟩ = W.frozen? ⟨b, o, none⟩) :=
  ⟨fun b o h => hb.cell (p := ⟨b, o, none⟩) h, fun b o h => hb.frozen (p := ⟨b, o, none⟩) h⟩
theorem ownBlock_ge {a : Addr} {n c B g : Nat} (h : (Value.slice (some a) n c).ownBlock = some g) (hB : B ≤ a.block) : B ≤ g := by
  have : a.block = g := by simpa [Value.ownBlock] using h
  omega
section
variable {w w' : World} {base B : Nat} {v : Value} {xs ys : List UInt8}
theorem OwnB.nil (w : World) (base : Nat) : OwnB w base (.slice none 0 0) [] := World.ownsRow_nil w base _ _
theorem OwnB.alloc (h : OwnB w base v xs) (o : Obj) : OwnB (w.alloc o) base v xs := World.ownsRow.alloc h o
theorem OwnB.drew (h : OwnB w base v xs) : OwnB w.drew base v xs := h
theorem OwnB.drewN (h : OwnB w base v xs) (n : Nat) : OwnB (w.drewN n) base v xs := h
theorem OwnB.far (h : OwnB w base v xs) {a : Addr} (ha : v.ownBlock ≠ some a.block) (u : Value) : OwnB (w.setCell a u) base v xs := ownsRow_setCell_other h ha u
theorem OwnB.less {base' : Nat} (h : OwnB w base v xs) (hb : base' ≤ base) : OwnB w base' v xs := by
  obtain ⟨h1, h2⟩ := h
  refine ⟨h1, ?_⟩
  rcases h2 with h2 | ⟨g, cap, cur, hv, hg, r⟩
  · exact .inl h2
  · exact .inr ⟨g, cap, cur, hv, Nat.le_trans hb hg, r⟩
theorem OwnB.below (h : OwnB w base v xs) (hb : Below w.heap.size w w') : OwnB w' base v xs := by
  obtain ⟨h1, h2⟩ := h
  refine ⟨h1, ?_⟩
  rcases h2 with h2 | ⟨g, cap, cur, hv, hg, hh, r⟩
  · exact .inl h2
  · exact .inr ⟨g, cap, cur, hv, hg, by rw [hb.block g (lt_of_block hh)]; exact hh, r⟩
theorem OwnB.belowB (h : OwnB w base v xs) (hb : Below B w w') (hB : ∀ g, v.ownBlock = some g → g < B) : OwnB w' base v xs := by
  obtain ⟨h1, h2⟩ := h
  refine ⟨h1, ?_⟩
  rcases h2 with h2 | ⟨g, cap, cur, rfl, hg, hh, r⟩
  · exact .inl h2
  · exact .inr ⟨g, cap, cur, rfl, hg, by rw [hb.block g (hB g rfl)]; exact hh, r⟩
theorem OwnB.head (h : OwnB w base v xs) (hpos : 0 < xs.length) : ∃ g c, v = .slice (some ⟨g, 0, none⟩) xs.length c ∧ base ≤ g := by
  obtain ⟨h1, h2⟩ := h
  rcases h2 with ⟨rfl, h2⟩ | ⟨g, cap, cur, rfl, hg, hh, hle, hm, r⟩
  · omega
  · exact ⟨g, cap, rfl, hg⟩
theorem OwnB.form (h : OwnB w base v xs) : ∃ A c, v = .slice A xs.length c ∧ xs.length ≤ c ∧ c ≤ maxLen ∧ Reads w w.heap.size 1 A xs.length (BY xs) := by
  have hf := h
  obtain ⟨h1, h2⟩ := h
  rcases h2 with ⟨rfl, h2⟩ | ⟨g, cap, cur, rfl, hg, hh, hle, hm, r⟩
  · have : xs = [] := by cases xs with
      | nil => rfl
      | cons x r => simp at h2
    subst this
    exact ⟨none, 0, rfl, Nat.le_refl _, by unfold maxLen; omega, Reads.none_⟩
  · exact ⟨_, cap, rfl, by simpa using hle, hm, Reads.of_own hf⟩
theorem OwnB.form2 (h : OwnB w base v xs) : ∃ A n c, v = .slice A n c ∧ Hid (n = xs.length) ∧ n ≤ c ∧ Reads w w.heap.size 1 A n (BY xs) := by
  obtain ⟨A, c, e, h1, _, h2⟩ := h.form
  exact ⟨A, _, c, e, rfl, h1, h2⟩
end

section
variable {w : World} {ops : Array Oper} {rest : List Oper} {o : Oper} {a : Act} {Q : Exit → Act → World → Prop}
/-- append(s, x...) of bytes, s the call's own. -/
theorem app_bytes (hgd : o.guard = none) (s x : Operand) (ho : o.op = .call { callee := .builtin .append, args := #[s, x], argTypes := #[26, 26] })
    (base : Nat) (v : Value) (xs ys : List UInt8) (hs : a.eval s = v) (hown : OwnB w base v xs) (B : Nat) (A : Option Addr) (m c : Nat) (hx : a.eval x = .slice A m c)
    (hr : Reads w B 1 A m (BY ys)) (hbound : xs.length + ys.length ≤ 140737488355328) (hbase : base ≤ w.heap.size)
    (h : ∀ v' w', OwnB w' base v' (xs ++ ys) → w.grownBy w' v.ownBlock → (v'.ownBlock = v.ownBlock ∨ v'.ownBlock = some w.heap.size) → wpList Tryz.prog ops Q rest (a.put o.dst v') w') : wpList Tryz.prog ops Q (o :: rest) a w := by
  obtain ⟨i0, hi, hz0, hz1, hz2⟩ := info_parts info_u8
  have hm : m = ys.length := by have := hr.1; rw [BY_len] at this; omega
  subst hm
  refine wpList_append_any w hgd s x _ ho base 5 i0 _ 1 1 Tryz.underlying26 hi hz0 hz1 hz2 rfl (by omega) v xs.length (BY xs) hs hown B A ys.length c (BY ys) hx hr (BY_one ys) (by unfold maxLen; omega) (by omega) hbase ?_
  intro v' w' h1 h2 h3
  exact h v' w' (by unfold OwnB; rw [List.length_append, BY_append]; exact h1) h2 h3
/-- The same in a region that draws. -/
theorem step_app_bytes {K : Act → World → Prop} {E : Prop} (hgd : o.guard = none) (s x : Operand) (ho : o.op = .call { callee := .builtin .append, args := #[s, x], argTypes := #[26, 26] })
    (base : Nat) (v : Value) (xs ys : List UInt8) (hs : a.eval s = v) (hown : OwnB w base v xs) (B : Nat) (A : Option Addr) (m c : Nat) (hx : a.eval x = .slice A m c)
    (hr : Reads w B 1 A m (BY ys)) (hbound : xs.length + ys.length ≤ 140737488355328) (hbase : base ≤ w.heap.size)
    (h : ∀ v' w', OwnB w' base v' (xs ++ ys) → w.grownBy w' v.ownBlock → (v'.ownBlock = v.ownBlock ∨ v'.ownBlock = some w.heap.size) → K (a.put o.dst v') w') :
    if Region.wanted o (yielded ops a.tmps) = true then Oper.wp Tryz.prog o a w K Q else E := by
  obtain ⟨i0, hi, hz0, hz1, hz2⟩ := info_parts info_u8
  have hm : m = ys.length := by have := hr.1; rw [BY_len] at this; omega
  subst hm
  refine step_append_any w hgd s x _ ho base 5 i0 _ 1 1 Tryz.underlying26 hi hz0 hz1 hz2 rfl (by omega) v xs.length (BY xs) hs hown B A ys.length c (BY ys) hx hr (BY_one ys) (by unfold maxLen; omega) (by omega) hbase ?_
  intro v' w' h1 h2 h3
  exact h v' w' (by unfold OwnB; rw [List.length_append, BY_append]; exact h1) h2 h3
end

/-- Bytes that read as a list, and lie below B or in a block of bytes: no row of another kind that grows from B on touches them. -/
def RdB (w : World) (B : Nat) (A : Option Addr) (n : Nat) (xs : List UInt8) : Prop :=
  Reads w w.heap.size 1 A n (BY xs) ∧ (0 < n → ∀ ad, A = some ad → ad.block < B ∨ ∃ cs fz, w.heap[ad.block]? = some (.cells cs 5 fz))
section
variable {w W : World} {B n k c : Nat} {A : Option Addr} {xs : List UInt8}
theorem RdB.of_reads (h : Reads w w.heap.size 1 A n (BY xs)) : RdB w w.heap.size A n xs :=
  ⟨h, fun hn ad e => by obtain ⟨ad', e', hb, _⟩ := h.2 hn; rw [e] at e'; injection e' with e'; subst e'; exact .inl hb⟩
theorem RdB.of_readsB (h : Reads w B 1 A n (BY xs)) (hB : B ≤ w.heap.size) : RdB w B A n xs :=
  ⟨h.more hB, fun hn ad e => by obtain ⟨ad', e', hb, _⟩ := h.2 hn; rw [e] at e'; injection e' with e'; subst e'; exact .inl hb⟩
theorem RdB.of_own {base : Nat} {v : Value} (h : OwnB w base v xs) : ∃ A n c, v = .slice A n c ∧ Hid (n = xs.length) ∧ n ≤ c ∧ RdB w B A n xs := by
  obtain ⟨A, n, c, rfl, hn, hc, hr⟩ := h.form2
  refine ⟨A, n, c, rfl, hn, hc, hr, fun h0 ad e => ?_⟩
  rcases h.2 with ⟨e', _⟩ | ⟨g, cap, cur, e', hg, hh, _⟩
  · injection e' with e1; rw [e] at e1; cases e1
  · injection e' with e1; rw [e] at e1; injection e1 with e1; subst e1
    exact .inr ⟨_, _, hh⟩
theorem RdB.zero {A : Option Addr} (hn : n = 0) (hx : xs = []) : RdB w B A n xs := ⟨Reads.zeroB A hn hx, fun h => absurd h (by omega)⟩
theorem RdB.lift (h : RdB w B A n xs) (hb : Below w.heap.size w W) : RdB W B A n xs := by
  refine ⟨(h.1.below hb).more hb.size, fun hn ad e => ?_⟩
  rcases h.2 hn ad e with h1 | ⟨cs, fz, h1⟩
  · exact .inl h1
  · exact .inr ⟨cs, fz, by rw [hb.block _ (lt_of_block h1)]; exact h1⟩
theorem RdB.drew (h : RdB w B A n xs) : RdB w.drew B A n xs := h
theorem RdB.drewN (h : RdB w B A n xs) (k : Nat) : RdB (w.drewN k) B A n xs := h
theorem RdB.cutS {b off : Nat} (h : RdB w B (some ⟨b, off, none⟩) n xs) (hk : k ≤ n) (hc : n ≤ c) : RdB w B (if c = k then some ⟨b, off, none⟩ else some ⟨b, off + k, none⟩) (n - k) (xs.drop k) := by
  refine ⟨h.1.cutB hk hc, fun h0 ad e => ?_⟩
  rw [if_neg (by omega)] at e
  injection e with e
  subst e
  exact h.2 (by omega) ⟨b, off, none⟩ rfl
theorem RdB.cutM (h : RdB w B A n xs) (hk : k ≤ n) : RdB w B (A.map (fun x => x.add k)) (n - k) (xs.drop k) := by
  refine ⟨h.1.cutM hk, fun h0 ad e => ?_⟩
  rcases A with _ | a
  · cases e
  · simp only [Option.map_some, Option.some.injEq] at e
    subst e
    rw [block_of_add]
    exact h.2 (by omega) a rfl
theorem RdB.len (h : RdB w B A n xs) : n = xs.length := h.1.blen
theorem RdB.less {B' : Nat} (h : RdB w B A n xs) (hB : B ≤ B') : RdB w B' A n xs := ⟨h.1, fun hn ad e => (h.2 hn ad e).imp (fun h => by omega) id⟩
end

/-- A new block read as a list. -/
theorem Reads.new (w : World) (cs : List Value) (t : TypeId) (B : Nat) (hB : w.heap.size < B) : Reads (w.alloc (.cells cs.toArray t)) B 1 (some ⟨w.heap.size, 0, none⟩) cs.length cs := by
  refine ⟨by simp, fun _ => ⟨_, rfl, hB, fun j u hu => ?_⟩⟩
  have : (⟨w.heap.size, 0, none⟩ : Addr).add j = ⟨w.heap.size, j, none⟩ := by unfold Addr.add; split <;> simp_all
  rw [this, (Blk.new w t cs.toArray).cell]
  simpa using hu
/-- A new block owned: what a literal of bytes makes. -/
theorem OwnB.new (w : World) (base : Nat) (xs : List UInt8) (cs : List Value) (hcs : cs = BY xs) (hb : base ≤ w.heap.size) (hm : xs.length ≤ maxLen) :
    OwnB (w.alloc (.cells cs.toArray 5)) base (.slice (some ⟨w.heap.size, 0, none⟩) xs.length xs.length) xs := by
  subst hcs
  have := World.ownsRow_lit (base := base) (e := 5) (size := 1) w (BY xs).toArray xs.length hb hm (by simp [BY])
  unfold OwnB
  simpa using this
end Go.Proofs.YtgjmfncebbfniaaGreatDoor
