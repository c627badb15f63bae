/- Package version: what a book writes, change by change. -/
import Derived.Test.YtgjmfncebbfniaaGreatDoorFit
import Derived.Test.YtgjmfncebbfniaaGreatDoorAll
import Derived.Test.YtgjmfncebbfniaaGreatDoorStoI
import Derived.Deep.RegionLaw
namespace Go.Proofs.YtgjmfncebbfniaaGreatDoor
set_option maxRecDepth 100000
open Go Go.RowKit

/-- The store is st, since w0. -/
def OpInv (w0 : World) (B : Nat) (S : Nat → Prop) (sb : Nat) (st : StoD) (W : World) : Prop := Kept S w0 W ∧ ∃ S' V, Sto W B S' sb V st ∧ (∀ k, S k → S' k) ∧ ∀ k, S' k → Plus S w0 W k
section
variable {w0 W W' : World} {B sb : Nat} {S : Nat → Prop} {st st' : StoD} {v : Value} {e : Ending}
theorem OpInv.start {V : StoV} (h : Sto w0 B S sb V st) : OpInv w0 B S sb st w0 := ⟨Kept.refl _ _, S, V, h, fun _ h => h, fun _ h => .inl h⟩
theorem OpInv.call (h : OpInv w0 B S sb st W) (hb : Below W.heap.size W W') : OpInv w0 B S sb st W' := by
  obtain ⟨hk, S', V, hs, h1, h2⟩ := h
  refine ⟨hk.call hb, S', V, hs.call hb, h1, fun k hk' => ?_⟩
  have := hb.size
  rcases h2 k hk' with h3 | h3
  · exact .inl h3
  · exact .inr ⟨h3.1, by omega⟩
theorem OpInv.alloc (h : OpInv w0 B S sb st W) (o : Obj) : OpInv w0 B S sb st (W.alloc o) := h.call ((Below.refl _ _).alloc (Nat.le_refl _) _)
theorem OpInv.drewN (h : OpInv w0 B S sb st W) (n : Nat) : OpInv w0 B S sb st (W.drewN n) := h.call ⟨rfl, rfl, rfl, Nat.le_refl _, fun _ _ => rfl⟩
theorem OpInv.drew (h : OpInv w0 B S sb st W) : OpInv w0 B S sb st W.drew := h.call ⟨rfl, rfl, rfl, Nat.le_refl _, fun _ _ => rfl⟩
/-- An operation on it. -/
theorem OpInv.op (h : OpInv w0 B S sb st W) (hB : B ≤ w0.heap.size) {P : FuncId} {args : Array Value} {r : Int × StoD}
    (hc : ∀ (S' : Nat → Prop) (V : StoV), Sto W B S' sb V st → B ≤ W.heap.size → (∀ k, S' k → Plus S w0 W k) → Calls Tryz.prog P args W (OpPost W B S' sb (.int .i64 r.1) r.2)) :
    Calls Tryz.prog P args W (IntPost fun z W' => z = r.1 ∧ OpInv w0 B S sb r.2 W') := by
  obtain ⟨hk, S', V, hs, h1, h2⟩ := h
  refine (hc S' V hs (Nat.le_trans hB hk.size) h2).mono ?_
  rintro e W' ⟨rfl, hk', S2, V2, hs2, g1, g2⟩
  have hz := hk.size
  have hz' := hk'.size
  refine ⟨r.1, rfl, rfl, ⟨hk'.os.trans hk.os, hk'.tape.trans hk.tape, hk'.output.trans hk.output, Nat.le_trans hz hz', fun j hj hn => (hk'.block j (by omega) (fun hS' => by
    rcases h2 j hS' with h3 | h3
    · exact hn h3
    · omega)).trans (hk.block j hj hn)⟩, S2, V2, hs2, fun k h => g1 k (h1 k h), fun k h => ?_⟩
  rcases g2 k h with h3 | h3
  · rcases h2 k h3 with h4 | h4
    · exact .inl h4
    · exact .inr ⟨h4.1, by omega⟩
  · exact .inr ⟨by omega, h3.2⟩
theorem OpInv.cell (h : OpInv w0 B S sb st W) {p : Nat} {i : Nat} {u : Value} (hc : w0.cell? ⟨p, i, none⟩ = some u) (hp : p < w0.heap.size) (hS : ¬ S p) : W.cell? ⟨p, i, none⟩ = some u := (h.1.cell (p := ⟨p, i, none⟩) hp hS).trans hc
end
/-- Changes of a store, one behind the other, till one is not OK. -/
def seqP : List (StoD → Int × StoD) → StoD → Int × StoD
  | [], st => (0, st)
  | op :: r, st => if (op st).1 = 0 then seqP r (op st).2 else op st
/-- The function value does the change, in whatever world is since w0. -/
def Does (w0 : World) (B : Nat) (S : Nat → Prop) (sb : Nat) (G : StoD → Prop) (f : FnV) (op : StoD → Int × StoD) : Prop :=
  (∀ args w, (callFunc f.g args).run Tryz.prog w = .ok (.enter f.g args) w) ∧ ∀ W st, OpInv w0 B S sb st W → G st → Calls Tryz.prog f.g (f.bd ++ f.cp) W (IntPost fun z W' => z = (op st).1 ∧ OpInv w0 B S sb (op st).2 W')
/-- Each change does, and keeps what the next one asks. -/
def DoesAll (w0 : World) (B : Nat) (S : Nat → Prop) (sb : Nat) : Nat → List FnV → List (StoD → Int × StoD) → Prop
  | _, [], [] => True
  | N, f :: fs, op :: ops => Does w0 B S sb (fun st => st.Fit N) f op ∧ (∀ st, st.Fit N → (op st).2.Fit (N + 6)) ∧ DoesAll w0 B S sb (N + 6) fs ops
  | _, _, _ => False
theorem DoesAll.len {w0 : World} {B sb : Nat} {S : Nat → Prop} : ∀ {N : Nat} {fs : List FnV} {ops : List (StoD → Int × StoD)}, DoesAll w0 B S sb N fs ops → ops.length = fs.length
  | _, [], [], _ => rfl
  | _, _ :: _, _ :: _, h => by simp [DoesAll.len h.2.2]
  | _, [], _ :: _, h => h.elim
  | _, _ :: _, [], h => h.elim
theorem chain_does {w0 : World} {B sb : Nat} {S : Nat → Prop} {Rd : World → Prop} (hRd : ∀ W, Kept S w0 W → Rd W) :
    ∀ (N : Nat) (fs : List FnV) (ops : List (StoD → Int × StoD)) (W : World) (st : StoD), DoesAll w0 B S sb N fs ops → OpInv w0 B S sb st W → st.Fit N →
      Chain Rd fs W (fun z W' => z = (seqP ops st).1 ∧ OpInv w0 B S sb (seqP ops st).2 W')
  | _, [], [], W, st, _, hi, _ => ⟨rfl, hi⟩
  | N, f :: fs, op :: ops, W, st, h, hi, hf => by
    obtain ⟨h1, h2, h3⟩ := h
    refine ⟨hRd W hi.1, h1.1, (h1.2 W st hi hf).mono ?_⟩
    rintro e W' ⟨z, rfl, hz, hi'⟩
    refine ⟨z, rfl, ?_⟩
    subst hz
    by_cases h0 : (op st).1 = 0
    · rw [if_pos h0]
      have hrec := chain_does hRd (N + 6) fs ops W' (op st).2 h3 hi' (h2 st hf)
      have e : seqP (op :: ops) st = seqP ops (op st).2 := by rw [seqP, if_pos h0]
      rw [e]
      exact hrec
    · rw [if_neg h0]
      have e : seqP (op :: ops) st = op st := by rw [seqP, if_neg h0]
      rw [e]
      exact ⟨rfl, hi'⟩
  | _, [], _ :: _, _, _, h, _, _ => h.elim
  | _, _ :: _, [], _, _, h, _, _ => h.elim
theorem seqP_fit {w0 : World} {B sb : Nat} {S : Nat → Prop} : ∀ {N : Nat} {fs : List FnV} {ops : List (StoD → Int × StoD)} {st : StoD}, DoesAll w0 B S sb N fs ops → st.Fit N → (seqP ops st).2.Fit (N + 6 * ops.length)
  | N, [], [], st, _, hf => hf
  | N, f :: fs, op :: ops, st, h, hf => by
    rw [seqP]
    split
    · exact (seqP_fit h.2.2 (h.2.1 st hf)).more (by simp; omega)
    · exact (h.2.1 st hf).more (by simp; omega)
  | _, [], _ :: _, _, h, _ => h.elim
  | _, _ :: _, [], _, h, _ => h.elim

theorem chain_mono {Rd : World → Prop} {Q Q' : Int → World → Prop} (hq : ∀ z W, Q z W → Q' z W) : ∀ (fs : List FnV) (W : World), Chain Rd fs W Q → Chain Rd fs W Q'
  | [], W, h => hq 0 W h
  | f :: fs, W, h => by
    refine ⟨h.1, h.2.1, h.2.2.mono ?_⟩
    rintro e W' ⟨z, rfl, hz⟩
    refine ⟨z, rfl, ?_⟩
    by_cases h0 : z = 0
    · rw [if_pos h0] at hz ⊢; exact chain_mono hq fs W' hz
    · rw [if_neg h0] at hz ⊢; exact hq z W' hz
section
variable {W : World} {B sb bb p3 p4 p5 : Nat} {S : Nat → Prop} {V : StoV} {st : StoD} {nm : Nm}
set_option maxHeartbeats 1000000 in
theorem write_1 (hs : Sto W B S sb V st) (hB : B ≤ W.heap.size) (hf : st.Fit 60000) (h3 : W.cell? ⟨p3, 0, none⟩ = some (ptr bb)) (h4 : W.cell? ⟨p4, 0, none⟩ = some (str nm)) (hbb : W.cell? ⟨bb, 0, none⟩ = some (ptr sb)) :
    Calls Tryz.prog 167 #[ptr p3, ptr p4] W (OpPost W B S sb (.int .i64 (st.create nm).1) (st.create nm).2) := by
  have HC := hide (store_create W.drew B S sb V st nm hs.drew hB hf.ok (Nat.le_trans hf.nn (by unfold lim; omega)) (Nat.le_trans hf.nk (by unfold lim; omega)))
  clear hs hf
  go_enter Tryz.func167, Tryz.ntmps167
  go_wp2
  go_region_law (first | (go_simp; go_at_call 67; refine (unhide HC).mono ?_; intro e w1 hop; obtain ⟨rfl, hop2⟩ := hop; have HOP := hide hop2; clear hop2))
  all_goals go_wp2
  all_goals go_ret
  all_goals exact ⟨rfl, (Kept.refl S W).drew.trans HOP.out.1, HOP.out.2⟩
set_option maxHeartbeats 1000000 in
theorem write_3 (hs : Sto W B S sb V st) (hf : st.Fit 60000) (h3 : W.cell? ⟨p3, 0, none⟩ = some (ptr bb)) (h4 : W.cell? ⟨p4, 0, none⟩ = some (str nm)) (hbb : W.cell? ⟨bb, 0, none⟩ = some (ptr sb)) :
    Calls Tryz.prog 169 #[ptr p3, ptr p4] W (OpPost W B S sb (.int .i64 (st.sync nm).1) (st.sync nm).2) := by
  have HC := hide (store_sync W.drew B S sb V st nm hs.drew hf.ok.nowI)
  clear hs hf
  go_enter Tryz.func169, Tryz.ntmps169
  go_wp2
  go_region_law (first | (go_simp; go_at_call 71; refine (unhide HC).mono ?_; intro e w1 hop; obtain ⟨rfl, hop2⟩ := hop; have HOP := hide hop2; clear hop2))
  all_goals go_wp2
  all_goals go_ret
  all_goals exact ⟨rfl, (Kept.refl S W).drew.trans HOP.out.1, HOP.out.2⟩
/-- Bytes that are read, and lie in no block of S. -/
def RdS (w : World) (S : Nat → Prop) (A : Option Addr) (n : Nat) (xs : List UInt8) : Prop := Reads w w.heap.size 1 A n (BY xs) ∧ n ≤ lim ∧ (0 < n → ∀ ad, A = some ad → ¬ S ad.block)
theorem RdS.kept {w : World} {T : Nat → Prop} {A : Option Addr} {n : Nat} {xs : List UInt8} (h : RdS w S A n xs) (hk : Kept T w W) (hT : ∀ k, T k → S k) : Reads W W.heap.size 1 A n (BY xs) := by
  refine ⟨h.1.1, fun hn => ?_⟩
  obtain ⟨ad, rfl, hb, hc⟩ := h.1.2 hn
  have hS : ¬ T ad.block := fun e => h.2.2 hn ad rfl (hT _ e)
  exact ⟨ad, rfl, Nat.lt_of_lt_of_le hb hk.size, fun j u hu => (hk.cell (p := ad.add j) (by rw [block_of_add]; exact hb) (by rw [block_of_add]; exact hS)).trans (hc j u hu)⟩
theorem RdS.later {w : World} {S' : Nat → Prop} {A : Option Addr} {n : Nat} {xs : List UInt8} (h : RdS w S A n xs) (hk : Kept S w W) (hS : ∀ k, S' k → Plus S w W k) : RdS W S' A n xs := by
  refine ⟨h.kept hk (fun _ h => h), h.2.1, fun hn ad e hs => ?_⟩
  obtain ⟨ad', e', hb, _⟩ := h.1.2 hn
  rw [e] at e'; injection e' with e'; subst e'
  rcases hS _ hs with h1 | h1
  · exact h.2.2 hn ad e h1
  · omega
set_option maxHeartbeats 1000000 in
theorem write_2 {A : Option Addr} {n c : Nat} {xs : List UInt8} (hs : Sto W B S sb V st) (hB : B ≤ W.heap.size) (hf : st.Fit 60000) (h3 : W.cell? ⟨p3, 0, none⟩ = some (ptr bb)) (h4 : W.cell? ⟨p4, 0, none⟩ = some (str nm)) (h5 : W.cell? ⟨p5, 0, none⟩ = some (.slice A n c)) (hbb : W.cell? ⟨bb, 0, none⟩ = some (ptr sb)) (hrd : RdS W S A n xs) :
    Calls Tryz.prog 168 #[ptr p3, ptr p4, ptr p5] W (OpPost W B S sb (.int .i64 (st.append nm xs).1) (st.append nm xs).2) := by
  have HC := hide (store_append W.drew B S sb V st nm A n c xs hs.drew hB hf.ok.nowI hf.ok.nowR (hf.size_le (by omega)) hf.r0 hf.r1 hrd.1 hrd.2.1 (fun W1 hk => hrd.kept (W := W1) ((Kept.refl (fun k => k = sb) W).drew.trans hk) (fun k e => by subst e; exact hs.ssb)))
  clear hs hf hrd
  go_enter Tryz.func168, Tryz.ntmps168
  go_wp2
  go_region_law (first | (go_simp; go_at_call 69; refine (unhide HC).mono ?_; intro e w1 hop; obtain ⟨rfl, hop2⟩ := hop; have HOP := hide hop2; clear hop2))
  all_goals go_wp2
  all_goals go_ret
  all_goals exact ⟨rfl, (Kept.refl S W).drew.trans HOP.out.1, HOP.out.2⟩
end
def writeP (nm : Nm) (xs : List UInt8) : StoD → Int × StoD := seqP [fun s => s.create nm, fun s => s.append nm xs, fun s => s.sync nm]
theorem row_of_blk {w0 : World} {g : Nat} {t : TypeId} {S : Nat → Prop} {fs : List FnV} (h : Blk w0 g t (fs.map FnV.val).toArray) (hS : ¬ S g) : ∀ W, Kept S w0 W → Row (some ⟨g, 0, none⟩) fs W := by
  intro W hk b off e i f hi
  injection e with e
  injection e with e1 e2
  subst e1 e2
  rw [Nat.zero_add, (h.kept hk hS).cell]
  simp [hi]
theorem OpInv.post {w w0 W : World} {B sb : Nat} {S : Nat → Prop} {st : StoD} {z : Int} (hb : Below w.heap.size w w0) (h : OpInv w0 B S sb st W) : OpPost w B S sb (.int .i64 z) st (.returned (.int .i64 z)) W := by
  obtain ⟨hk, S', V, hs, h1, h2⟩ := h
  have := hb.size
  refine ⟨rfl, (Kept.of_below hb).trans hk, S', V, hs, h1, fun k hk' => ?_⟩
  rcases h2 k hk' with h3 | h3
  · exact .inl h3
  · exact .inr ⟨by omega, h3.2⟩
set_option maxHeartbeats 1000000 in
theorem version_write (w : World) (B : Nat) (S : Nat → Prop) (sb bb : Nat) (V : StoV) (st : StoD) (N : Nat) (nm : Nm) (A : Option Addr) (n c : Nat) (xs : List UInt8) (hs : Sto w B S sb V st) (hB : B ≤ w.heap.size) (hf : st.Fit N) (hN : N ≤ 59000) (hbb : w.cell? ⟨bb, 0, none⟩ = some (ptr sb)) (hbl : bb < w.heap.size) (hbS : ¬ S bb) (hrd : RdS w S A n xs) :
    Calls Tryz.prog 112 #[ptr bb, str nm, .slice A n c] w (OpPost w B S sb (.int .i64 (writeP nm xs st).1) (writeP nm xs st).2) := by
  obtain ⟨fs, hfs⟩ : ∃ fs : List FnV, fs = [⟨167, #[], #[ptr w.heap.size, ptr (w.heap.size + 1)]⟩, ⟨168, #[], #[ptr w.heap.size, ptr (w.heap.size + 1), ptr (w.heap.size + 2)]⟩, ⟨169, #[], #[ptr w.heap.size, ptr (w.heap.size + 1)]⟩] := ⟨_, rfl⟩
  obtain ⟨w3, hw3⟩ : ∃ w3, w3 = ((w.alloc (.cells #[ptr bb] 43)).alloc (.cells #[str nm] 9)).alloc (.cells #[.slice A n c] 26) := ⟨_, rfl⟩
  have hs3 : w3.heap.size = w.heap.size + 3 := by rw [hw3]; simp
  obtain ⟨w4, hw4⟩ : ∃ w4, w4 = w3.alloc (.cells (fs.map FnV.val).toArray 108) := ⟨_, rfl⟩
  have hs4 : w4.heap.size = w.heap.size + 4 := by rw [hw4]; simp [hs3]
  have hbel : Below w.heap.size w w4 := by rw [hw4, hw3]; exact ((((Below.refl _ _).alloc (Nat.le_refl _) _).alloc (by simp) _).alloc (by simp; omega) _).alloc (by simp; omega) _
  have hrow : Blk w4 (w.heap.size + 3) 108 (fs.map FnV.val).toArray := by rw [hw4, ← hs3]; exact Blk.new w3 _ _
  have c3 : w4.cell? ⟨w.heap.size, 0, none⟩ = some (ptr bb) := by rw [hw4, hw3]; exact ((((Blk.new w 43 #[ptr bb]).alloc _).alloc _).alloc _).cell 0
  have c4 : w4.cell? ⟨w.heap.size + 1, 0, none⟩ = some (str nm) := by
    have := (Blk.new (w.alloc (.cells #[ptr bb] 43)) 9 #[str nm])
    have h2 := ((this.alloc (.cells #[.slice A n c] 26)).alloc (.cells (fs.map FnV.val).toArray 108)).cell 0
    rw [hw4, hw3]
    simpa using h2
  have c5 : w4.cell? ⟨w.heap.size + 2, 0, none⟩ = some (.slice A n c) := by
    have := (Blk.new ((w.alloc (.cells #[ptr bb] 43)).alloc (.cells #[str nm] 9)) 26 #[.slice A n c])
    have h2 := (this.alloc (.cells (fs.map FnV.val).toArray 108)).cell 0
    rw [hw4, hw3]
    simpa using h2
  have cb : w4.cell? ⟨bb, 0, none⟩ = some (ptr sb) := (hbel.cell (p := ⟨bb, 0, none⟩) hbl).trans hbb
  have hno : ∀ j, w.heap.size ≤ j → ¬ S j := fun j hj hS => by have := (hs.lt j hS).2; omega
  have hrd4 : RdS w4 S A n xs := hrd.later (Kept.of_below hbel) (fun _ h => .inl h)
  have hB4 : B ≤ w4.heap.size := by omega
  have hall : DoesAll w4 B S sb N fs [fun s => s.create nm, fun s => s.append nm xs, fun s => s.sync nm] := by
    rw [hfs]
    refine ⟨⟨enters_of Tryz.func167 (by kernel_rfl) rfl, fun W st' hi hf' => hi.op hB4 (fun S' V' hs' hBW _ => write_1 hs' hBW (hf'.more (by omega)) (hi.cell c3 (by omega) (hno _ (by omega))) (hi.cell c4 (by omega) (hno _ (by omega))) (hi.cell cb (by omega) hbS))⟩, fun st' hf' => (hf'.create nm).more (by omega),
      ⟨enters_of Tryz.func168 (by kernel_rfl) rfl, fun W st' hi hf' => hi.op hB4 (fun S' V' hs' hBW hp => write_2 hs' hBW (hf'.more (by omega)) (hi.cell c3 (by omega) (hno _ (by omega))) (hi.cell c4 (by omega) (hno _ (by omega))) (hi.cell c5 (by omega) (hno _ (by omega))) (hi.cell cb (by omega) hbS) (hrd4.later hi.1 hp))⟩, fun st' hf' => (hf'.append nm xs).more (by omega),
      ⟨enters_of Tryz.func169 (by kernel_rfl) rfl, fun W st' hi hf' => hi.op hB4 (fun S' V' hs' hBW _ => write_3 hs' (hf'.more (by omega)) (hi.cell c3 (by omega) (hno _ (by omega))) (hi.cell c4 (by omega) (hno _ (by omega))) (hi.cell cb (by omega) hbS))⟩, fun st' hf' => (hf'.sync nm).more (by omega), trivial⟩
  have hlen : fs.length = 3 := by rw [hfs]; rfl
  have HA := hide (version_all (some ⟨w.heap.size + 3, 0, none⟩) 3 3 fs w4 (fun z W => OpPost w B S sb (.int .i64 (writeP nm xs st).1) (writeP nm xs st).2 (.returned (.int .i64 z)) W) hlen (by omega) (fun _ => ⟨_, _, rfl⟩) (by
    have h1 := chain_does (Rd := Row (some ⟨w.heap.size + 3, 0, none⟩) fs) (row_of_blk hrow (hno _ (by omega))) N fs _ w4 st hall (OpInv.start (hs.call hbel)) hf
    exact chain_mono (fun z W ⟨hz, hi⟩ => by subst hz; exact OpInv.post hbel hi) fs w4 h1))
  rw [hw4, hw3, hfs] at HA
  clear hall hrow c3 c4 c5 cb hno hrd4 hB4 hbel hs4 hw4 hs3 hw3 hlen hfs hrd hf hs
  go_enter Tryz.func112, Tryz.ntmps112
  go_wp2_with fail
  refine (unhide HA).mono ?_
  rintro e w5 ⟨z, rfl, hq⟩
  have HQ := hide hq
  clear hq HA
  go_wp2
  go_ret
  exact HQ.out
end Go.Proofs.YtgjmfncebbfniaaGreatDoor
