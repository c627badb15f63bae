/- Owned rows of files and of ints; appends onto them. -/
import Derived.Test.YtgjmfncebbfniaaGreatDoorRead
namespace Go.Proofs.YtgjmfncebbfniaaGreatDoor
set_option maxRecDepth 100000
open Go Go.RowKit

theorem info_file : (Tryz.prog.info? 76).map (fun i => (i.zero, i.size, i.bytes)) = some (some (.agg #[.int .i64 0, .int .i64 0, .slice none 0 0, .slice none 0 0, .int .i64 0, .int .i64 0]), 6, 80) := by kernel_rfl

theorem ownsRow_kept {S : Nat → Prop} {w W : World} {base size n : Nat} {e : TypeId} {v : Value} {xs : List Value} (h : w.ownsRow base e size v n xs) (hk : Kept S w W) (hS : ∀ g, v.ownBlock = some g → ¬ S g) : W.ownsRow base e size v n xs := by
  obtain ⟨h1, h2⟩ := h
  refine ⟨h1, ?_⟩
  rcases h2 with h2 | ⟨g, cap, cur, rfl, hg, hh, r⟩
  · exact .inl h2
  · exact .inr ⟨g, cap, cur, rfl, hg, by rw [hk.block g (lt_of_block hh) (hS g rfl)]; exact hh, r⟩
theorem OwnB.kept {S : Nat → Prop} {w W : World} {base : Nat} {v : Value} {xs : List UInt8} (h : OwnB w base v xs) (hk : Kept S w W) (hS : ∀ g, v.ownBlock = some g → ¬ S g) : OwnB W base v xs := ownsRow_kept h hk hS

/-- The row v of ints is the call's own. -/
def OwnI (w : World) (base : Nat) (v : Value) (zs : List Int) : Prop := w.ownsRow base 3 1 v zs.length (zs.map (Value.int .i64))
/-- The cells of one file. -/
def FCells (f : FileD) (A1 : Option Addr) (n1 c1 : Nat) (A2 : Option Addr) (n2 c2 : Nat) : List Value := [.int .i64 f.number, .int .i64 f.level, .slice A1 n1 c1, .slice A2 n2 c2, .int .i64 f.low, .int .i64 f.high]
def FText (w : World) (B : Nat) (f : FileD) (A1 : Option Addr) (n1 c1 : Nat) (A2 : Option Addr) (n2 c2 : Nat) : Prop := RdB w B A1 n1 f.first ∧ n1 ≤ c1 ∧ RdB w B A2 n2 f.last ∧ n2 ≤ c2
/-- The row v of files is the call's own. -/
def OwnF (w : World) (base : Nat) (v : Value) (fs : List FileD) : Prop :=
  ∃ cells, w.ownsRow base 76 6 v fs.length cells ∧ ∀ i f, fs[i]? = some f → ∃ A1 n1 c1 A2 n2 c2, FText w base f A1 n1 c1 A2 n2 c2 ∧ ∀ j, j < 6 → cells[i * 6 + j]? = (FCells f A1 n1 c1 A2 n2 c2)[j]?
section
variable {w W W' : World} {base : Nat} {v v' : Value} {zs ys : List Int} {fs : List FileD} {S : Nat → Prop}
theorem OwnI.nil (w : World) (base : Nat) : OwnI w base (.slice none 0 0) [] := World.ownsRow_nil w base _ _
theorem OwnI.kept (h : OwnI w base v zs) (hk : Kept S w W) (hS : ∀ g, v.ownBlock = some g → ¬ S g) : OwnI W base v zs := ownsRow_kept h hk hS
theorem ownBlock_lt {e : TypeId} {size n : Nat} {xs : List Value} (h : w.ownsRow base e size v n xs) : ∀ g, v.ownBlock = some g → g < w.heap.size := fun g hg => (World.ownsRow.lt h g hg).2
theorem OwnI.call (h : OwnI w base v zs) (hb : Below w.heap.size w W) : OwnI W base v zs := h.kept (S := fun _ => False) (Kept.of_below hb) (fun _ _ h => h)
theorem OwnI.form (h : OwnI w base v zs) : ∃ A n c, v = .slice A n c ∧ Hid (n = zs.length) ∧ n ≤ c ∧ Ints w w.heap.size A n zs := by
  have hf := h
  obtain ⟨h1, h2⟩ := h
  rcases h2 with ⟨rfl, h2⟩ | ⟨g, cap, cur, rfl, hg, hh, hle, hm, r⟩
  · have : zs = [] := by cases zs with
      | nil => rfl
      | cons x r => simp at h2
    subst this
    exact ⟨none, 0, 0, rfl, rfl, Nat.le_refl _, rfl, fun h => absurd h (by omega)⟩
  · refine ⟨_, _, cap, rfl, rfl, hle, rfl, fun _ => ⟨g, 0, rfl, lt_of_block hh, fun i z hz => ?_⟩⟩
    have hi := (List.getElem?_eq_some_iff.1 hz).1
    rw [Nat.zero_add, World.ownsRow.cellAt hf i (by omega)]
    simp [hz]
theorem OwnF.nil (w : World) (base : Nat) : OwnF w base (.slice none 0 0) [] := ⟨[], World.ownsRow_nil w base _ _, fun i f hf => by simp at hf⟩
theorem FText.lift {B : Nat} {f : FileD} {A1 : Option Addr} {n1 c1 : Nat} {A2 : Option Addr} {n2 c2 : Nat} (h : FText w B f A1 n1 c1 A2 n2 c2) (hb : Below w.heap.size w W) : FText W B f A1 n1 c1 A2 n2 c2 :=
  ⟨h.1.lift hb, h.2.1, h.2.2.1.lift hb, h.2.2.2⟩
theorem FText.kept {B : Nat} {f : FileD} {A1 : Option Addr} {n1 c1 : Nat} {A2 : Option Addr} {n2 c2 : Nat} (h : FText w B f A1 n1 c1 A2 n2 c2) (hk : Kept S w W) (hs : Free5 w B S) : FText W B f A1 n1 c1 A2 n2 c2 :=
  ⟨h.1.kept hk hs, h.2.1, h.2.2.1.kept hk hs, h.2.2.2⟩
theorem OwnF.kept (h : OwnF w base v fs) (hk : Kept S w W) (hS : ∀ g, v.ownBlock = some g → ¬ S g) (hs : Free5 w base S) : OwnF W base v fs := by
  obtain ⟨cells, h1, h2⟩ := h
  refine ⟨cells, ownsRow_kept h1 hk hS, fun i f hf => ?_⟩
  obtain ⟨A1, n1, c1, A2, n2, c2, ht, hj⟩ := h2 i f hf
  exact ⟨A1, n1, c1, A2, n2, c2, ht.kept hk hs, hj⟩
theorem OwnF.call (h : OwnF w base v fs) (hb : Below w.heap.size w W) : OwnF W base v fs := h.kept (S := fun _ => False) (Kept.of_below hb) (fun _ _ h => h) (fun _ h => h.elim)
theorem OwnF.form (h : OwnF w base v fs) : ∃ A n c, v = .slice A n c ∧ Hid (n = fs.length) ∧ n ≤ c ∧ Files w w.heap.size A n fs := by
  obtain ⟨cells, hf, hc⟩ := h
  have hf0 := hf
  obtain ⟨h1, h2⟩ := hf
  rcases h2 with ⟨rfl, h2⟩ | ⟨g, cap, cur, rfl, hg, hh, hle, hm, r⟩
  · have : fs = [] := by cases fs with
      | nil => rfl
      | cons x r => simp at h2
    subst this
    exact ⟨none, 0, 0, rfl, rfl, Nat.le_refl _, rfl, fun h => absurd h (by omega)⟩
  · refine ⟨_, _, cap, rfl, rfl, hle, rfl, fun _ => ⟨g, 0, rfl, lt_of_block hh, fun i f hf => ?_⟩⟩
    have hi := (List.getElem?_eq_some_iff.1 hf).1
    obtain ⟨A1, n1, c1, A2, n2, c2, ⟨⟨r1, _⟩, l1, ⟨r2, _⟩, l2⟩, hj⟩ := hc i f hf
    have hcell : ∀ j, j < 6 → w.cell? ⟨g, 0 + i * 6 + j, none⟩ = (FCells f A1 n1 c1 A2 n2 c2)[j]? := fun j hj6 => by
      rw [Nat.zero_add, World.ownsRow.cellAt hf0 (i * 6 + j) (by omega)]
      exact hj j hj6
    exact ⟨A1, n1, c1, A2, n2, c2, hcell 0 (by omega), hcell 1 (by omega), hcell 2 (by omega), hcell 3 (by omega), hcell 4 (by omega), hcell 5 (by omega), r1, l1, r2, l2⟩
theorem OwnF.files {A : Option Addr} {n c : Nat} (h : OwnF w base (.slice A n c) fs) : Files w w.heap.size A n fs := by
  obtain ⟨A', n', c', e, _, _, h'⟩ := h.form
  injection e with e1 e2
  subst e1 e2
  exact h'
theorem OwnI.ints {A : Option Addr} {n c : Nat} (h : OwnI w base (.slice A n c) zs) : Ints w w.heap.size A n zs := by
  obtain ⟨A', n', c', e, _, _, h'⟩ := h.form
  injection e with e1 e2
  subst e1 e2
  exact h'
end
section
variable {w : World} {ops : Array Oper} {rest : List Oper} {o : Oper} {a : Act} {Q : Exit → Act → World → Prop}
/-- append(s, f) of one file, which a literal has laid in the block g. -/
theorem app_file (hgd : o.guard = none) (s x : Operand) (ho : o.op = .call { callee := .builtin .append, args := #[s, x], argTypes := #[22, 22] })
    (base : Nat) (v : Value) (fs : List FileD) (hs : a.eval s = v) (hown : OwnF w base v fs) (g : Nat) (f : FileD) (A1 : Option Addr) (n1 c1 : Nat) (A2 : Option Addr) (n2 c2 : Nat) (hx : a.eval x = .slice (some ⟨g, 0, none⟩) 1 1)
    (hblk : Blk w g 76 (FCells f A1 n1 c1 A2 n2 c2).toArray) (ht : FText w base f A1 n1 c1 A2 n2 c2) (hbound : fs.length ≤ 1000) (hbase : base ≤ w.heap.size)
    (h : ∀ v' w', OwnF w' base v' (fs ++ [f]) → w.grownBy w' v.ownBlock → (v'.ownBlock = v.ownBlock ∨ v'.ownBlock = some w.heap.size) → wpList Tryz.prog ops Q rest (a.put o.dst v') w') : wpList Tryz.prog ops Q (o :: rest) a w := by
  obtain ⟨i0, hi, hz0, hz1, hz2⟩ := info_parts info_file
  obtain ⟨cells, hrow, hc⟩ := hown
  have hr : Reads w (g + 1) 6 (some ⟨g, 0, none⟩) 1 (FCells f A1 n1 c1 A2 n2 c2) := Reads.of_spot rfl (by omega) (fun j u hu => by
    rw [Nat.zero_add, hblk.cell]; simpa using hu)
  have hlen : cells.length = fs.length * 6 := hrow.1
  refine wpList_append_any w hgd s x _ ho base 76 i0 _ 6 80 Tryz.underlying22 hi hz0 hz1 hz2 rfl (by omega) v fs.length cells hs hrow _ _ 1 1 _ hx hr (by intro u hu; simp [FCells] at hu; rcases hu with rfl | rfl | rfl | rfl | rfl | rfl <;> rfl) (by unfold maxLen; omega) (by omega) hbase ?_
  intro v' w' h1 h2 h3
  have hk : Kept (fun k => v.ownBlock = some k) w w' := ⟨h2.os, h2.tape, h2.output, h2.size, fun k hk hn => h2.block k hk (fun e => hn e.symm)⟩
  have hfree := Free5.own hrow (Nat.le_refl _) (by decide)
  refine h v' w' ⟨cells ++ FCells f A1 n1 c1 A2 n2 c2, by rw [List.length_append]; exact h1, fun i f' hf' => ?_⟩ h2 h3
  by_cases hi : i < fs.length
  · rw [List.getElem?_append_left hi] at hf'
    obtain ⟨B1, m1, d1, B2, m2, d2, ht', hj⟩ := hc i f' hf'
    refine ⟨B1, m1, d1, B2, m2, d2, ht'.kept hk hfree, fun j hj6 => ?_⟩
    rw [List.getElem?_append_left (by omega)]
    exact hj j hj6
  · rw [List.getElem?_append_right (by omega)] at hf'
    have h0 : i - fs.length = 0 := by
      rcases Nat.eq_zero_or_pos (i - fs.length) with e | e
      · exact e
      · rw [List.getElem?_eq_none (by simp; omega)] at hf'; cases hf'
    rw [h0] at hf'
    simp only [List.getElem?_cons_zero, Option.some.injEq] at hf'
    subst hf'
    refine ⟨A1, n1, c1, A2, n2, c2, ht.kept hk hfree, fun j hj6 => ?_⟩
    rw [List.getElem?_append_right (by omega)]
    congr 1; omega
/-- append(s, z) of one int, in a region that draws. -/
theorem step_app_int {K : Act → World → Prop} {E : Prop} (hgd : o.guard = none) (s x : Operand) (ho : o.op = .call { callee := .builtin .append, args := #[s, x], argTypes := #[23, 23] })
    (base : Nat) (v : Value) (zs : List Int) (hs : a.eval s = v) (hown : OwnI w base v zs) (g : Nat) (z : Int) (hx : a.eval x = .slice (some ⟨g, 0, none⟩) 1 1) (hblk : Blk w g 3 #[.int .i64 z]) (hbound : zs.length ≤ 1000000) (hbase : base ≤ w.heap.size)
    (h : ∀ v' w', OwnI w' base v' (zs ++ [z]) → w.grownBy w' v.ownBlock → (v'.ownBlock = v.ownBlock ∨ v'.ownBlock = some w.heap.size) → K (a.put o.dst v') w') :
    if Region.wanted o (yielded ops a.tmps) = true then Oper.wp Tryz.prog o a w K Q else E := by
  obtain ⟨i0, hi, hz0, hz1, hz2⟩ := info_parts info_int
  have hr : Reads w (g + 1) 1 (some ⟨g, 0, none⟩) 1 [.int .i64 z] := Reads.of_spot rfl (by omega) (fun j u hu => by
    rw [Nat.zero_add, hblk.cell]; simpa using hu)
  refine step_append_any w hgd s x _ ho base 3 i0 _ 1 8 Tryz.underlying23 hi hz0 hz1 hz2 rfl (by omega) v zs.length (zs.map (Value.int .i64)) hs hown _ _ 1 1 _ hx hr (by intro u hu; simp at hu; subst hu; rfl) (by unfold maxLen; omega) (by omega) hbase ?_
  intro v' w' h1 h2 h3
  exact h v' w' (by unfold OwnI; rw [List.length_append, List.map_append]; exact h1) h2 h3
end
end Go.Proofs.YtgjmfncebbfniaaGreatDoor
