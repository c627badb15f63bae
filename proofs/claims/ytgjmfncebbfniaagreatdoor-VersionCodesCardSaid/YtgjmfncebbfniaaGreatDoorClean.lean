/- Package version: clean. -/
import Derived.Test.YtgjmfncebbfniaaGreatDoorBeginA
import Derived.Test.YtgjmfncebbfniaaGreatDoorFiles
namespace Go.Proofs.YtgjmfncebbfniaaGreatDoor
set_option maxRecDepth 100000
open Go Go.RowKit

def liveP (sd : StD) (t : Int) : Bool := sd.files.any fun f => decide (f.number = t)
def goesP (sd : StD) (ln nm : Nm) : Bool := (decide (0 < numP manP nm) && !(nm == ln)) || (decide (0 < numP tabP nm) && !(liveP sd (numP tabP nm)))
def cleanOps (l : List Nm) : List (StoD → Int × StoD) := l.map (fun nm s => s.remove nm) ++ if l = [] then [] else [StoD.syncDir]
def cleanP (sd : StD) (ln : Nm) (st : StoD) : Int × StoD := seqP (cleanOps (st.names.filter (goesP sd ln))) st
theorem info_vfun : (Tryz.prog.info? 108).map (fun i => (i.zero, i.size, i.bytes)) = some (some .nilFunc, 1, 8) := by kernel_rfl
section
variable {W : World} {B sb bb p1 q n c N : Nat} {S : Nat → Prop} {V : StoV} {st : StoD} {nm : Nm}
set_option maxHeartbeats 1000000 in
theorem clean_2 (hs : Sto W B S sb V st) (hB : B ≤ W.heap.size) (hf : st.Fit N) (hN : N ≤ 59000) (h1 : W.cell? ⟨p1, 0, none⟩ = some (ptr bb)) (h4 : W.cell? ⟨q, 0, none⟩ = some (str nm)) (hbb : W.cell? ⟨bb, 0, none⟩ = some (ptr sb)) :
    Calls Tryz.prog 117 #[ptr p1, ptr q] W (OpPost W B S sb (.int .i64 (st.remove nm).1) (st.remove nm).2) := by
  have HC := hide (store_remove W.drew B S sb V st nm hs.drew hB (Nat.le_trans hf.nn (by unfold lim; omega)) (Nat.le_trans hf.nk (by unfold lim; omega)))
  clear hs hf
  go_enter Tryz.func117, Tryz.ntmps117
  go_wp2
  go_region_law (first | (go_simp; go_at_call 110; refine (unhide HC).mono ?_; intro e w1 hop; obtain ⟨rfl, hop2⟩ := hop; have HOP := hide hop2; clear hop2))
  all_goals go_wp2
  all_goals go_ret
  all_goals exact ⟨rfl, (Kept.refl S W).drew.trans HOP.out.1, HOP.out.2⟩
end
theorem clean_1 (w : World) (r : Nat) (t : Int) (hr : Blk w r 3 #[.int .i64 t]) : FilePred 116 #[ptr r] (fun f => decide (f.number = t)) w := by
  intro W f A1 A2 n1 c1 n2 c2 hb r1 r2
  show Calls Tryz.prog 116 #[.agg #[.int .i64 f.number, .int .i64 f.level, .slice A1 n1 c1, .slice A2 n2 c2, .int .i64 f.low, .int .i64 f.high], ptr r] W _
  have hrW := (hr.below hb hr.lt)
  have hc := hrW.cell 0
  have hlt := hrW.lt
  clear hr
  go_enter Tryz.func116, Tryz.ntmps116
  go_wp2
  go_ret
  refine ⟨ret_bool ?_, (Below.refl _ _).alloc (Nat.le_refl _) _⟩
  rw [Bool.eq_iff_iff]; simp
/-- The changes of clean, as function values: a box with a name for each. -/
def rmFn (p1 : Nat) (x : Nat × Nm) : FnV := ⟨117, #[], #[ptr p1, ptr x.1]⟩
def syFn (sb : Nat) : FnV := ⟨73, #[ptr sb], #[]⟩
theorem doesAll_sync {w4 : World} {B sb N : Nat} {S : Nat → Prop} (hB : B ≤ w4.heap.size) : DoesAll w4 B S sb N [syFn sb] [StoD.syncDir] :=
  ⟨⟨enters_of Tryz.func73 (by kernel_rfl) rfl, fun W st' hi hf' => hi.op hB (fun S' V' hs' hBW hp => store_syncDir W B S' sb V' st' hs' hBW)⟩, fun st' hf' => hf'.syncDir.more (by omega), trivial⟩
theorem doesAll_clean {w4 : World} {B sb bb p1 : Nat} {S : Nat → Prop} (hB : B ≤ w4.heap.size) (c1 : w4.cell? ⟨p1, 0, none⟩ = some (ptr bb)) (l1 : p1 < w4.heap.size) (h1S : ¬ S p1) (c0 : w4.cell? ⟨bb, 0, none⟩ = some (ptr sb)) (l0 : bb < w4.heap.size) (h0S : ¬ S bb) {fs : List FnV} {ops : List (StoD → Int × StoD)} :
    ∀ (l : List (Nat × Nm)) (N : Nat), (∀ x ∈ l, w4.cell? ⟨x.1, 0, none⟩ = some (str x.2) ∧ x.1 < w4.heap.size ∧ ¬ S x.1) → N + 6 * l.length ≤ 59000 → DoesAll w4 B S sb (N + 6 * l.length) fs ops → DoesAll w4 B S sb N (l.map (rmFn p1) ++ fs) (l.map (fun x s => s.remove x.2) ++ ops)
  | [], N, _, _, h => h
  | x :: r, N, hx, hN, h => by
    obtain ⟨hc, hl, hS⟩ := hx x List.mem_cons_self
    simp only [List.length_cons] at hN h
    refine ⟨⟨enters_of Tryz.func117 (by kernel_rfl) rfl, fun W st' hi hf' => hi.op hB (fun S' V' hs' hBW hp => clean_2 hs' hBW hf' (by omega) (hi.cell c1 l1 h1S) (hi.cell hc hl hS) (hi.cell c0 l0 h0S))⟩, fun st' hf' => (hf'.remove x.2).more (by omega), ?_⟩
    exact doesAll_clean hB c1 l1 h1S c0 l0 h0S r (N + 6) (fun y hy => hx y (List.mem_cons_of_mem _ hy)) (by omega) (by rw [show N + 6 + 6 * r.length = N + 6 * (r.length + 1) by omega]; exact h)
/-- A row of texts, in a block of texts. -/
def StrsT (w : World) (A : Option Addr) (n : Nat) (ns : List Nm) : Prop := Strs w A n ns ∧ (0 < n → ∀ ad, A = some ad → tag w ad.block = tStr)
theorem StrsT.lt {w : World} {A : Option Addr} {n : Nat} {ns : List Nm} (h : StrsT w A n ns) (hn : 0 < n) {ad : Addr} (e : A = some ad) : ad.block < w.heap.size := by
  obtain ⟨b, off, e', hb, _⟩ := h.1.2 hn
  rw [e] at e'; injection e' with e'; subst e'; exact hb
theorem StrsT.call {w W : World} {A : Option Addr} {n : Nat} {ns : List Nm} (h : StrsT w A n ns) (hb : Below w.heap.size w W) : StrsT W A n ns :=
  ⟨h.1.call hb, fun hn ad e => by rw [Kept.tag (Kept.of_below (S := fun _ => False) hb) (h.lt hn e) id]; exact h.2 hn ad e⟩
theorem StrsT.grown {w W : World} {A : Option Addr} {n base size m : Nat} {ns : List Nm} {e : TypeId} {v : Value} {xs : List Value} (h : StrsT w A n ns) (hg : w.grownBy W v.ownBlock) (hr : w.ownsRow base e size v m xs) (he : some e ≠ tStr) : StrsT W A n ns := by
  have hno : ∀ ad, 0 < n → A = some ad → ¬ v.ownBlock = some ad.block := fun ad hn ea eo => by
    have h1 := own_tag hr eo
    rw [h.2 hn ad ea] at h1
    exact he h1.symm
  have hk := Kept.of_grown hg
  exact ⟨h.1.kept hk (fun hn ad ea => hno ad hn ea), fun hn ad ea => by rw [Kept.tag hk (h.lt hn ea) (hno ad hn ea)]; exact h.2 hn ad ea⟩
theorem strsT_of_own {w : World} {base n c : Nat} {A : Option Addr} {ns : List Nm} (h : w.ownsRow base 9 1 (.slice A n c) n (ns.map str)) : StrsT w A n ns :=
  ⟨strs_of_own h, fun hn ad e => by
    obtain ⟨g, cap, e2, _⟩ := h.form hn
    injection e2 with e2
    rw [e] at e2; injection e2 with e2; subst e2
    exact own_tag h (by rw [e]; simp [Value.ownBlock])⟩
/-- The steps that have been put together: a row of function values, their boxes. -/
structure Steps (W : World) (base p1 : Nat) (v : Value) (l : List (Nat × Nm)) : Prop where
  row : W.ownsRow base 108 1 v l.length (l.map fun x => (rmFn p1 x).val)
  box : ∀ x ∈ l, Blk W x.1 9 #[str x.2] ∧ base ≤ x.1
theorem Steps.call {W W' : World} {base p1 : Nat} {v : Value} {l : List (Nat × Nm)} (h : Steps W base p1 v l) (hb : Below W.heap.size W W') : Steps W' base p1 v l :=
  ⟨ownsRow_kept h.row (Kept.of_below (S := fun _ => False) hb) (fun _ _ h => h), fun x hx => ⟨(h.box x hx).1.below hb (h.box x hx).1.lt, (h.box x hx).2⟩⟩
theorem Steps.alloc' {W : World} {base p1 : Nat} {v : Value} {l : List (Nat × Nm)} (h : Steps W base p1 v l) (o : Obj) : Steps (W.alloc o) base p1 v l := h.call ((Below.refl _ _).alloc (Nat.le_refl _) _)
theorem Steps.push {W W1 : World} {base p1 q : Nat} {v v' : Value} {l : List (Nat × Nm)} {nm : Nm} (h : Steps W base p1 v l) (hq : Blk W q 9 #[str nm]) (hbq : base ≤ q) (hr : W1.ownsRow base 108 1 v' (l.length + 1) ((l.map fun x => (rmFn p1 x).val) ++ [(rmFn p1 (q, nm)).val])) (hg : W.grownBy W1 v.ownBlock) : Steps W1 base p1 v' (l ++ [(q, nm)]) := by
  have hk := Kept.of_grown hg
  have hne : ∀ g t cs, Blk W g t cs → t ≠ 108 → ¬ v.ownBlock = some g := fun g t cs hb ht e => by
    have h1 := own_tag h.row e
    rw [hb.tag] at h1
    injection h1 with h1
    exact ht h1
  refine ⟨by simpa using hr, fun x hx => ?_⟩
  rcases List.mem_append.1 hx with h1 | h1
  · exact ⟨(h.box x h1).1.kept hk (hne _ _ _ (h.box x h1).1 (by decide)), (h.box x h1).2⟩
  · rw [List.mem_singleton.1 h1]
    exact ⟨hq.kept hk (hne _ _ _ hq (by decide)), hbq⟩
theorem row_of_own {w0 : World} {base m cap : Nat} {A : Option Addr} {S : Nat → Prop} {fs : List FnV} (h : w0.ownsRow base 108 1 (.slice A m cap) m (fs.map FnV.val)) (hS : ∀ k, S k → k < base) : ∀ W, Kept S w0 W → Row A fs W := by
  intro W hk b off e i f hi
  have hl := h.1
  simp only [List.length_map, Nat.mul_one] at hl
  have hi' := (List.getElem?_eq_some_iff.1 hi).1
  obtain ⟨g, cap', e2, hg, hlt⟩ := h.form (by omega)
  injection e2 with e2
  rw [e] at e2; injection e2 with e2; injection e2 with e3 e4
  subst e3 e4 e
  rw [Nat.zero_add, hk.cell (p := ⟨b, i, none⟩) hlt (fun hs => by have := hS b hs; omega)]
  rw [World.ownsRow.cellAt h i (by simp; omega)]
  simp [hi]
theorem cleanOps_map (l : List (Nat × Nm)) (h : l ≠ []) : cleanOps (l.map (·.2)) = l.map (fun x s => s.remove x.2) ++ [StoD.syncDir] := by
  unfold cleanOps
  rw [if_neg (by simpa using h), List.map_map]
  rfl
end Go.Proofs.YtgjmfncebbfniaaGreatDoor
