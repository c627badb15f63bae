/- Package version: the changes of begin. -/
/- Package version: begin. -/
import Derived.Test.YtgjmfncebbfniaaGreatDoorBook
import Derived.Deep.RegionHeld3
import Derived.Test.YtgjmfncebbfniaaGreatDoorNumb
import Derived.Deep.DeepCutAuto
import Derived.Outline
import Derived.IntWalk
namespace Go.Proofs.YtgjmfncebbfniaaGreatDoor
set_option maxRecDepth 100000
open Go Go.RowKit

abbrev curN : Nm := [99, 117, 114, 114, 101, 110, 116]
abbrev scrN : Nm := [99, 117, 114, 114, 101, 110, 116, 46, 110, 101, 119]
theorem writeP_fit {st : StoD} {N : Nat} (h : st.Fit N) (nm : Nm) (xs : List UInt8) : (writeP nm xs st).2.Fit (N + 2) := by
  unfold writeP
  simp only [seqP]
  split
  · split
    · split
      · exact (((h.create nm).append nm xs).sync nm)
      · exact ((h.create nm).append nm xs).sync nm
    · exact (h.create nm).append nm xs
  · exact h.create nm
section
variable {W : World} {B sb bb p1 p9 n c N : Nat} {S : Nat → Prop} {V : StoV} {st : StoD} {nm : Nm} {A : Option Addr} {xs : List UInt8}
set_option maxHeartbeats 1000000 in
theorem begin_1 (hs : Sto W B S sb V st) (hB : B ≤ W.heap.size) (hf : st.Fit N) (hN : N ≤ 59000) (h1 : W.cell? ⟨p1, 0, none⟩ = some (ptr bb)) (h9 : W.cell? ⟨p9, 0, none⟩ = some (.slice A n c)) (hb0 : W.cell? ⟨bb, 0, none⟩ = some (ptr sb)) (hb1 : W.cell? ⟨bb, 1, none⟩ = some (str nm)) (hbS : ¬ S bb) (hrd : RdS W S A n xs) :
    Calls Tryz.prog 111 #[ptr p1, ptr p9] W (OpPost W B S sb (.int .i64 (writeP nm xs st).1) (writeP nm xs st).2) := by
  have hbl : bb < W.heap.size := World.block_lt_of_cell? W _ hb0
  have HC := hide (version_write W.drew B S sb bb V st N nm A n c xs hs.drew hB hf hN hb0 hbl hbS (hrd.later (Kept.refl _ _).drew (fun _ h => .inl h)))
  clear hs hf hrd hb0
  go_enter Tryz.func111, Tryz.ntmps111
  go_wp2
  go_region_law (first | (go_simp; go_at_call 112; refine (unhide HC).mono ?_; intro e w1 hop; obtain ⟨rfl, hop2⟩ := hop; have HOP := hide hop2; clear hop2))
  all_goals go_wp2
  all_goals go_ret
  all_goals exact ⟨rfl, (Kept.refl S W).drew.trans HOP.out.1, HOP.out.2⟩
set_option maxHeartbeats 1000000 in
theorem begin_2 (hs : Sto W B S sb V st) (hB : B ≤ W.heap.size) (hf : st.Fit N) (hN : N ≤ 59000) (h1 : W.cell? ⟨p1, 0, none⟩ = some (ptr bb)) (hb0 : W.cell? ⟨bb, 0, none⟩ = some (ptr sb)) (hb1 : W.cell? ⟨bb, 1, none⟩ = some (str nm)) (hbS : ¬ S bb) (hnm : nm.length ≤ 1000) :
    Calls Tryz.prog 113 #[ptr p1] W (OpPost W B S sb (.int .i64 (writeP scrN nm st).1) (writeP scrN nm st).2) := by
  have hbl : bb < W.heap.size := World.block_lt_of_cell? W _ hb0
  have hpl : p1 < W.heap.size := World.block_lt_of_cell? W _ h1
  have hconv := Lib.run_convert_string_bytes (P := Tryz.prog) W.drew 9 26 5 ⟨nm.toArray⟩ Tryz.underlying9 Tryz.underlying26 Tryz.underlying5
  have hcell := hide (bytesWorld_cell W.drew nm)
  have hbel : Below W.drew.heap.size W.drew (Lib.bytesWorld W.drew 5 ⟨nm.toArray⟩) := Lib.bytesWorld_below W.drew _ _
  have hlt := Lib.bytesWorld_at_new W.drew 5 ⟨nm.toArray⟩
  rw [size_arr] at hconv
  generalize Lib.bytesWorld W.drew 5 ⟨nm.toArray⟩ = W1 at hconv hcell hbel hlt
  generalize grownCap W.drew nm.length 0 5 = cc at hconv
  have hszd : W.drew.heap.size = W.heap.size := rfl
  have hlt1 : W.heap.size < W1.heap.size := lt_of_block hlt
  have h11 : W1.cell? ⟨p1, 0, none⟩ = some (ptr bb) := (hbel.cell (p := ⟨p1, 0, none⟩) hpl).trans h1
  have hb01 : W1.cell? ⟨bb, 0, none⟩ = some (ptr sb) := (hbel.cell (p := ⟨bb, 0, none⟩) hbl).trans hb0
  have hrd : RdS W1 S (some ⟨W.heap.size, 0, none⟩) nm.length nm := by
    refine ⟨⟨by simp [BY], fun _ => ⟨⟨W.heap.size, 0, none⟩, rfl, hlt1, fun j u hu => ?_⟩⟩, by unfold lim; omega, fun h0 ad e hS => ?_⟩
    · obtain ⟨hj, rfl⟩ := BY_at hu
      have := hcell.out j hj
      unfold Addr.add
      split
      · rename_i e; subst e; exact this
      · simpa using this
    · injection e with e; subst e
      have := (hs.lt _ hS).2
      simp at this
  have HC := hide (version_write W1 B S sb bb V st N scrN (some ⟨W.heap.size, 0, none⟩) nm.length cc nm (hs.drew.call hbel) (by omega) hf hN hb01 (by omega) hbS hrd)
  have HB := hide hbel
  clear hs hf hrd hb0 hlt hcell hbel hb01
  go_enter Tryz.func113, Tryz.ntmps113
  go_wp2
  go_region_law (first | (go_simp; go_at_call 112; refine (unhide HC).mono ?_; intro e w1 hop; obtain ⟨rfl, hop2⟩ := hop; have HOP := hide hop2; clear hop2))
  all_goals go_wp2
  all_goals go_ret
  all_goals exact OpPost.then ((Kept.refl S W).drew.call HB.out) ⟨rfl, HOP.out⟩
set_option maxHeartbeats 1000000 in
theorem begin_3 (hs : Sto W B S sb V st) (hB : B ≤ W.heap.size) (hf : st.Fit N) (hN : N ≤ 59000) (h1 : W.cell? ⟨p1, 0, none⟩ = some (ptr bb)) (hb0 : W.cell? ⟨bb, 0, none⟩ = some (ptr sb)) :
    Calls Tryz.prog 114 #[ptr p1] W (OpPost W B S sb (.int .i64 (st.rename scrN curN).1) (st.rename scrN curN).2) := by
  have HC := hide (store_rename W B S sb V st scrN curN hs hB (Nat.le_trans hf.nn (by unfold lim; omega)) (Nat.le_trans hf.nk (by unfold lim; omega)))
  clear hs hf
  go_enter Tryz.func114, Tryz.ntmps114
  go_wp2_with (go_at_call 115; refine (unhide HC).mono ?_; intro e w1 hop; obtain ⟨rfl, hop2⟩ := hop; have HOP := hide hop2; clear hop2)
  go_ret
  exact ⟨rfl, HOP.out⟩
end
/-- The changes of begin, as function values. -/
def beginFs (p1 p9 sb : Nat) : List FnV := [⟨111, #[], #[ptr p1, ptr p9]⟩, ⟨113, #[], #[ptr p1]⟩, ⟨114, #[], #[ptr p1]⟩, ⟨73, #[ptr sb], #[]⟩]
def beginOps (ln : Nm) (f : List UInt8) : List (StoD → Int × StoD) := [writeP ln f, writeP scrN ln, fun s => s.rename scrN curN, StoD.syncDir]
theorem begin_chain {wx : World} {B sb bb p1 p9 n c N : Nat} {S : Nat → Prop} {V : StoV} {st : StoD} {ln : Nm} {A : Option Addr} {xs : List UInt8} (hs : Sto wx B S sb V st) (hB : B ≤ wx.heap.size) (hf : st.Fit N) (hN : N ≤ 58000) (h1 : wx.cell? ⟨p1, 0, none⟩ = some (ptr bb)) (h9 : wx.cell? ⟨p9, 0, none⟩ = some (.slice A n c))
    (hb0 : wx.cell? ⟨bb, 0, none⟩ = some (ptr sb)) (hb1 : wx.cell? ⟨bb, 1, none⟩ = some (str ln)) (hbS : ¬ S bb) (h1S : ¬ S p1) (h9S : ¬ S p9) (hln : ln.length ≤ 1000) (hrd : RdS wx S A n xs) :
    Calls Tryz.prog 53 #[.slice (some ⟨wx.heap.size, 0, none⟩) 4 4] (wx.alloc (.cells ((beginFs p1 p9 sb).map FnV.val).toArray 108)) (IntPost fun z W => z = (seqP (beginOps ln xs) st).1 ∧ OpInv (wx.alloc (.cells ((beginFs p1 p9 sb).map FnV.val).toArray 108)) B S sb (seqP (beginOps ln xs) st).2 W) := by
  have hbel : Below wx.heap.size wx (wx.alloc (.cells ((beginFs p1 p9 sb).map FnV.val).toArray 108)) := (Below.refl _ _).alloc (Nat.le_refl _) _
  have hrow : Blk (wx.alloc (.cells ((beginFs p1 p9 sb).map FnV.val).toArray 108)) wx.heap.size 108 ((beginFs p1 p9 sb).map FnV.val).toArray := Blk.new wx _ _
  have hsz : (wx.alloc (.cells ((beginFs p1 p9 sb).map FnV.val).toArray 108)).heap.size = wx.heap.size + 1 := by simp
  generalize wx.alloc (.cells ((beginFs p1 p9 sb).map FnV.val).toArray 108) = w4 at *
  have l1 := World.block_lt_of_cell? wx _ h1
  have l9 := World.block_lt_of_cell? wx _ h9
  have lb := World.block_lt_of_cell? wx _ hb0
  simp only at l1 l9 lb
  have c1 : w4.cell? ⟨p1, 0, none⟩ = some (ptr bb) := (hbel.cell (p := ⟨p1, 0, none⟩) l1).trans h1
  have c9 : w4.cell? ⟨p9, 0, none⟩ = some (.slice A n c) := (hbel.cell (p := ⟨p9, 0, none⟩) l9).trans h9
  have c0 : w4.cell? ⟨bb, 0, none⟩ = some (ptr sb) := (hbel.cell (p := ⟨bb, 0, none⟩) lb).trans hb0
  have cn : w4.cell? ⟨bb, 1, none⟩ = some (str ln) := (hbel.cell (p := ⟨bb, 1, none⟩) lb).trans hb1
  have hrd4 : RdS w4 S A n xs := hrd.later (Kept.of_below hbel) (fun _ h => .inl h)
  have hB4 : B ≤ w4.heap.size := by omega
  have hnb : ∀ {W : World} {S' : Nat → Prop}, (∀ k, S' k → Plus S w4 W k) → ¬ S' bb := fun hp e => by
    rcases hp _ e with h | h
    · exact hbS h
    · omega
  have hall : DoesAll w4 B S sb N (beginFs p1 p9 sb) (beginOps ln xs) := by
    refine ⟨⟨enters_of Tryz.func111 (by kernel_rfl) rfl, fun W st' hi hf' => hi.op hB4 (fun S' V' hs' hBW hp => begin_1 hs' hBW hf' (by omega) (hi.cell c1 (by omega) h1S) (hi.cell c9 (by omega) h9S) (hi.cell c0 (by omega) hbS) (hi.cell cn (by omega) hbS) (hnb hp) (hrd4.later hi.1 hp))⟩, fun st' hf' => (writeP_fit hf' ln xs).more (by omega),
      ⟨enters_of Tryz.func113 (by kernel_rfl) rfl, fun W st' hi hf' => hi.op hB4 (fun S' V' hs' hBW hp => begin_2 hs' hBW hf' (by omega) (hi.cell c1 (by omega) h1S) (hi.cell c0 (by omega) hbS) (hi.cell cn (by omega) hbS) (hnb hp) hln)⟩, fun st' hf' => (writeP_fit hf' scrN ln).more (by omega),
      ⟨enters_of Tryz.func114 (by kernel_rfl) rfl, fun W st' hi hf' => hi.op hB4 (fun S' V' hs' hBW hp => begin_3 hs' hBW hf' (by omega) (hi.cell c1 (by omega) h1S) (hi.cell c0 (by omega) hbS))⟩, fun st' hf' => (hf'.rename scrN curN).more (by omega),
      ⟨enters_of Tryz.func73 (by kernel_rfl) rfl, fun W st' hi hf' => hi.op hB4 (fun S' V' hs' hBW hp => store_syncDir W B S' sb V' st' hs' hBW)⟩, fun st' hf' => hf'.syncDir.more (by omega), trivial⟩
  exact version_all (some ⟨wx.heap.size, 0, none⟩) 4 4 (beginFs p1 p9 sb) w4 _ rfl (by omega) (fun _ => ⟨_, _, rfl⟩)
    (chain_does (Rd := Row (some ⟨wx.heap.size, 0, none⟩) (beginFs p1 p9 sb)) (row_of_blk hrow (fun e => by have := (hs.lt _ e).2; omega)) N (beginFs p1 p9 sb) (beginOps ln xs) w4 st hall (OpInv.start (hs.call hbel)) hf)
end Go.Proofs.YtgjmfncebbfniaaGreatDoor

namespace Go.Proofs.YtgjmfncebbfniaaGreatDoor
set_option maxRecDepth 100000
open Go Go.RowKit

def manP : Nm := [109, 97, 110, 45]
def tabP : Nm := [116, 97, 98, 45]
def lastP (names : List Nm) : Int := names.foldl (fun m n => max m (numP manP n)) 0
def listP (names : List Nm) : Nm := manP ++ pad 6 (lastP names + 1).toNat
def scrP (st : StoD) : Int × StoD := if scrN ∈ st.names then st.remove scrN else (0, st)
def beginP (sd : StD) (st : StoD) : Int × StoD :=
  if (scrP st).1 ≠ 0 then scrP st else if 999999 ≤ lastP st.names then (2, (scrP st).2) else match framedP ⟨sd.files, [], sd.log, sd.next⟩ with
    | none => (2, (scrP st).2)
    | some f => seqP (beginOps (listP st.names) f) (scrP st).2

/-- The store is st, since w0; the blocks X may have turned too. -/
def InvX (X : Nat → Prop) (w0 : World) (B : Nat) (S : Nat → Prop) (sb : Nat) (st : StoD) (W : World) : Prop := Kept (fun k => S k ∨ X k) w0 W ∧ ∃ S' V, Sto W B S' sb V st ∧ (∀ k, S k → S' k) ∧ ∀ k, S' k → Plus S w0 W k
section
variable {w0 W W' : World} {B sb : Nat} {S X : Nat → Prop} {st st' : StoD} {v : Value} {e : Ending}
theorem InvX.start {V : StoV} (h : Sto w0 B S sb V st) : InvX X w0 B S sb st w0 := ⟨Kept.refl _ _, S, V, h, fun _ h => h, fun _ h => .inl h⟩
theorem InvX.call (h : InvX X w0 B S sb st W) (hb : Below W.heap.size W W') : InvX X w0 B S sb st W' := by
  obtain ⟨hk, S', V, hs, h1, h2⟩ := h
  refine ⟨hk.call hb, S', V, hs.call hb, h1, fun k hk' => ?_⟩
  have := hb.size
  rcases h2 k hk' with h3 | h3
  · exact .inl h3
  · exact .inr ⟨h3.1, by omega⟩
theorem InvX.drew (h : InvX X w0 B S sb st W) : InvX X w0 B S sb st W.drew := h.call ⟨rfl, rfl, rfl, Nat.le_refl _, fun _ _ => rfl⟩
theorem InvX.alloc (h : InvX X w0 B S sb st W) (o : Obj) : InvX X w0 B S sb st (W.alloc o) := h.call ((Below.refl _ _).alloc (Nat.le_refl _) _)
theorem InvX.mono {X' : Nat → Prop} (h : InvX X w0 B S sb st W) (hX : ∀ k, X k → X' k) : InvX X' w0 B S sb st W := ⟨h.1.mono (fun k _ e => e.imp id (hX k)), h.2⟩
/-- A block that is X's, and not the store's, is written. -/
theorem InvX.store (h : InvX X w0 B S sb st W) {p i : Nat} (u : Value) (hX : X p) (hS : ¬ S p) (hp : p < w0.heap.size) : InvX X w0 B S sb st (W.setCell ⟨p, i, none⟩ u) := by
  obtain ⟨hk, S', V, hs, h1, h2⟩ := h
  have hsz : (W.setCell ⟨p, i, none⟩ u).heap.size = W.heap.size := by simp [World.setCell]
  have hnp : ¬ S' p := fun e => by
    rcases h2 p e with h3 | h3
    · exact hS h3
    · omega
  refine ⟨hk.store (.inl (.inr hX)) _, S', V, hs.keepS (Kept.one W p i u) (fun k e => by subst e; exact hnp), h1, fun k hk' => ?_⟩
  rcases h2 k hk' with h3 | h3
  · exact .inl h3
  · exact .inr ⟨h3.1, by omega⟩
theorem InvX.cell (h : InvX X w0 B S sb st W) {p : Nat} {i : Nat} {u : Value} (hc : w0.cell? ⟨p, i, none⟩ = some u) (hp : p < w0.heap.size) (hS : ¬ S p) (hX : ¬ X p) : W.cell? ⟨p, i, none⟩ = some u :=
  (h.1.cell (p := ⟨p, i, none⟩) hp (fun e => e.elim hS hX)).trans hc
theorem InvX.step {w1 : World} {S' : Nat → Prop} (hk : Kept (fun k => S k ∨ X k) w0 W) (h1 : ∀ k, S k → S' k) (h2 : ∀ k, S' k → Plus S w0 W k) (hop : OpPost W B S' sb v st' e w1) : e = .returned v ∧ InvX X w0 B S sb st' w1 := by
  obtain ⟨he, hk', S2, V2, hs2, g1, g2⟩ := hop
  have hz := hk.size
  have hz' := hk'.size
  refine ⟨he, ⟨hk'.os.trans hk.os, hk'.tape.trans hk.tape, hk'.output.trans hk.output, Nat.le_trans hz hz', fun j hj hn => (hk'.block j (by omega) (fun hS' => by
    rcases h2 j hS' with h3 | h3
    · exact hn (.inl h3)
    · omega)).trans (hk.block j hj hn)⟩, S2, V2, hs2, fun k h => g1 k (h1 k h), fun k h => ?_⟩
  rcases g2 k h with h3 | h3
  · rcases h2 k h3 with h4 | h4
    · exact .inl h4
    · exact .inr ⟨h4.1, by omega⟩
  · exact .inr ⟨by omega, h3.2⟩
end
theorem InvX.pre {w w0 W : World} {B sb : Nat} {S X : Nat → Prop} {st : StoD} (h : InvX X w0 B S sb st W) (hb : Below w.heap.size w w0) : InvX X w B S sb st W := by
  obtain ⟨hk, S', V, hs, h1, h2⟩ := h
  have := hb.size
  exact ⟨(Kept.of_below hb).trans hk, S', V, hs, h1, fun k hk' => (h2 k hk').elim .inl (fun h3 => .inr ⟨by omega, h3.2⟩)⟩
/-- What begin leaves. -/
def BeginPost (w : World) (B : Nat) (S : Nat → Prop) (sb bb : Nat) (sd : StD) (br : Bool) (A : Option Addr) (n c : Nat) (r : Int × StoD) (ln : Nm) (e : Ending) (W : World) : Prop :=
  e = .returned (.int .i64 r.1) ∧ InvX (fun k => k = bb) w B S sb r.2 W ∧ (r.1 = 0 → Blk W bb 102 #[ptr sb, str ln, .slice A n c, .int .i64 sd.log, .int .i64 sd.next, .bool br])
theorem InvX.chain {w0 W W1 W2 : World} {B sb : Nat} {S S' X : Nat → Prop} {st' : StoD} (hk : Kept (fun k => S k ∨ X k) w0 W) (h1 : ∀ k, S k → S' k) (h2 : ∀ k, S' k → Plus S w0 W k) (hb : Below W.heap.size W W1) (h : OpInv W1 B S' sb st' W2) : InvX X w0 B S sb st' W2 := by
  obtain ⟨hk', S2, V2, hs2, g1, g2⟩ := h
  have z1 := hk.size
  have z2 := hb.size
  have z3 := hk'.size
  refine ⟨⟨hk'.os.trans (hb.os.trans hk.os), hk'.tape.trans (hb.tape.trans hk.tape), hk'.output.trans (hb.output.trans hk.output), by omega, fun j hj hn => (hk'.block j (by omega) (fun hS' => ?_)).trans ((hb.block j (by omega)).trans (hk.block j hj hn))⟩, S2, V2, hs2, fun k h => g1 k (h1 k h), fun k h => ?_⟩
  · rcases h2 j hS' with h3 | h3
    · exact hn (.inl h3)
    · omega
  · rcases g2 k h with h3 | h3
    · rcases h2 k h3 with h4 | h4
      · exact .inl h4
      · exact .inr ⟨h4.1, by omega⟩
    · exact .inr ⟨by omega, h3.2⟩
theorem RdS.of_own {W : World} {base n c : Nat} {S : Nat → Prop} {A : Option Addr} {xs : List UInt8} (h : OwnB W base (.slice A n c) xs) (hl : xs.length ≤ 100000) (hS : ∀ k, S k → k < base) : RdS W S A n xs := by
  obtain ⟨A', n', c', e, hn, _, hr⟩ := h.form2
  injection e with e1 e2 e3
  subst e1 e2
  refine ⟨hr, by have := hn.out; unfold lim; omega, fun h0 ad e => ?_⟩
  obtain ⟨g, c2, e4, hg⟩ := h.head (by have := hn.out; omega)
  injection e4 with e5
  rw [e] at e5
  injection e5 with e5
  subst e5
  intro hS'
  have := hS _ hS'
  simp only at this
  omega
theorem framedP_len {ed : EditD} {xs : List UInt8} (h : framedP ed = some xs) : xs.length ≤ 100000 := by
  unfold framedP at h
  generalize (if okEdit ed = true then encEdit ed else []) = X at h
  by_cases hb : 65536 < X.length
  · rw [if_pos hb] at h; cases h
  · rw [if_neg hb] at h
    injection h with h
    subst h
    have h1 := text7_len X (by omega)
    simp only [frameP, bodyP, List.length_append, List.length_cons, be4_len]
    omega
theorem Strs.kept {w W : World} {T : Nat → Prop} {A : Option Addr} {n : Nat} {ns : List Nm} (h : Strs w A n ns) (hk : Kept T w W) (hA : 0 < n → ∀ ad, A = some ad → ¬ T ad.block) : Strs W A n ns :=
  ⟨h.1, fun hn => by
    obtain ⟨b, off, e, hb, hc⟩ := h.2 hn
    exact ⟨b, off, e, Nat.lt_of_lt_of_le hb hk.size, fun i s hi => (hk.cell (p := ⟨b, off + i, none⟩) hb (hA hn ⟨b, off, none⟩ e)).trans (hc i s hi)⟩⟩
theorem contains_str (A : Option Addr) (n c : Nat) (ns : List Nm) (x : Nm) (w : World) (hs : Strs w A n ns) (hn : n ≤ 9223372036854775807) : Calls Tryz.prog 49 #[.slice A n c, str x] w fun e w' => e = .returned (.bool (decide (x ∈ ns))) ∧ w = w' := by
  rcases Nat.eq_zero_or_pos n with h0 | h0
  · subst h0
    have hnil : ns = [] := List.eq_nil_of_length_eq_zero hs.1
    subst hnil
    exact (Tryz.slices_Contains_string_empty A c ⟨x.toArray⟩ w).mono fun e w' ⟨h1, h2⟩ => ⟨by rw [h1]; simp, h2.symm⟩
  · obtain ⟨b, off, rfl, _, hc⟩ := hs.2 h0
    have hl := hs.1
    refine (Tryz.slices_Contains_string b off n c (ns.map fun s => ⟨s.toArray⟩) ⟨x.toArray⟩ w (by simp; omega) hn (fun j hj => by
      simp only [List.length_map] at hj
      rw [hc j ns[j] (List.getElem?_eq_getElem hj)]
      simp [hj])).mono ?_
    rintro e w' ⟨rfl, rfl⟩
    refine ⟨?_, rfl⟩
    rw [List.take_of_length_le (by simp; omega)]
    congr 2
    rw [Bool.eq_iff_iff, Lib.containsS_iff, decide_eq_true_eq]
    constructor
    · intro h
      obtain ⟨s, h1, h2⟩ := List.mem_map.1 h
      have : s = x := by injection h2 with h2; injection h2
      rw [← this]; exact h1
    · intro h; exact List.mem_map_of_mem h
theorem foldmax_nonneg : ∀ (l : List Nm) (a : Int), 0 ≤ a → 0 ≤ l.foldl (fun m n => max m (numP manP n)) a
  | [], a, h => h
  | x :: r, a, h => foldmax_nonneg r _ (by show 0 ≤ max a _; omega)
theorem lastP_nonneg (l : List Nm) : 0 ≤ lastP l := foldmax_nonneg l 0 (Int.le_refl _)
theorem lastP_snoc (ns : List Nm) (k : Nat) (hk : k < ns.length) : lastP (ns.take (k + 1)) = max (lastP (ns.take k)) (numP manP ns[k]) := by
  unfold lastP; rw [List.take_succ_eq_append_getElem hk, List.foldl_append]; rfl

theorem four_alloc {w : World} {p bb : Nat} {a b c d : Value} (h1 : w.cell? ⟨p, 0, none⟩ = some a) (h2 : w.cell? ⟨bb, 2, none⟩ = some b) (h3 : w.cell? ⟨bb, 3, none⟩ = some c) (h4 : w.cell? ⟨bb, 4, none⟩ = some d) (hp : p < w.heap.size) (hb : bb < w.heap.size) :
    ∀ o : Obj, (w.alloc o).cell? ⟨p, 0, none⟩ = some a ∧ (w.alloc o).cell? ⟨bb, 2, none⟩ = some b ∧ (w.alloc o).cell? ⟨bb, 3, none⟩ = some c ∧ (w.alloc o).cell? ⟨bb, 4, none⟩ = some d :=
  fun o => ⟨(World.cell?_alloc_lt w o ⟨p, 0, none⟩ hp).trans h1, (World.cell?_alloc_lt w o ⟨bb, 2, none⟩ hb).trans h2, (World.cell?_alloc_lt w o ⟨bb, 3, none⟩ hb).trans h3, (World.cell?_alloc_lt w o ⟨bb, 4, none⟩ hb).trans h4⟩
theorem four_store {w : World} {p bb : Nat} {a b c d : Value} (h1 : w.cell? ⟨p, 0, none⟩ = some a) (h2 : w.cell? ⟨bb, 2, none⟩ = some b) (h3 : w.cell? ⟨bb, 3, none⟩ = some c) (h4 : w.cell? ⟨bb, 4, none⟩ = some d) (hp : p < w.heap.size) (hb : bb < w.heap.size) :
    ∀ (o : Obj) (u : Value), ((w.alloc o).setCell ⟨w.heap.size, 0, none⟩ u).cell? ⟨p, 0, none⟩ = some a ∧ ((w.alloc o).setCell ⟨w.heap.size, 0, none⟩ u).cell? ⟨bb, 2, none⟩ = some b ∧ ((w.alloc o).setCell ⟨w.heap.size, 0, none⟩ u).cell? ⟨bb, 3, none⟩ = some c ∧ ((w.alloc o).setCell ⟨w.heap.size, 0, none⟩ u).cell? ⟨bb, 4, none⟩ = some d := fun o u => by
  obtain ⟨g1, g2, g3, g4⟩ := four_alloc h1 h2 h3 h4 hp hb o
  refine ⟨(World.cell?_setCell_other _ _ _ _ ?_).trans g1, (World.cell?_setCell_other _ _ _ _ ?_).trans g2, (World.cell?_setCell_other _ _ _ _ ?_).trans g3, (World.cell?_setCell_other _ _ _ _ ?_).trans g4⟩ <;> (intro e; injection e with e; omega)
theorem four_below {wc w8 : World} {o : Obj} {p bb : Nat} {a b c d : Value} (h : (wc.alloc o).cell? ⟨p, 0, none⟩ = some a ∧ (wc.alloc o).cell? ⟨bb, 2, none⟩ = some b ∧ (wc.alloc o).cell? ⟨bb, 3, none⟩ = some c ∧ (wc.alloc o).cell? ⟨bb, 4, none⟩ = some d)
    (hb : Below (wc.alloc o).drew.heap.size (wc.alloc o).drew w8) (hp : p < wc.heap.size) (hbb : bb < wc.heap.size) : w8.cell? ⟨p, 0, none⟩ = some a ∧ w8.cell? ⟨bb, 2, none⟩ = some b ∧ w8.cell? ⟨bb, 3, none⟩ = some c ∧ w8.cell? ⟨bb, 4, none⟩ = some d := by
  have hs : (wc.alloc o).drew.heap.size = wc.heap.size + 1 := by show (wc.alloc o).heap.size = _; simp
  obtain ⟨g1, g2, g3, g4⟩ := h
  exact ⟨(hb.cell (p := ⟨p, 0, none⟩) (by rw [hs]; exact Nat.lt_succ_of_lt hp)).trans g1, (hb.cell (p := ⟨bb, 2, none⟩) (by rw [hs]; exact Nat.lt_succ_of_lt hbb)).trans g2, (hb.cell (p := ⟨bb, 3, none⟩) (by rw [hs]; exact Nat.lt_succ_of_lt hbb)).trans g3, (hb.cell (p := ⟨bb, 4, none⟩) (by rw [hs]; exact Nat.lt_succ_of_lt hbb)).trans g4⟩
theorem four_set {w8 : World} {p bb g : Nat} {a b c d : Value} (h1 : w8.cell? ⟨p, 0, none⟩ = some a) (h2 : w8.cell? ⟨bb, 2, none⟩ = some b) (h3 : w8.cell? ⟨bb, 3, none⟩ = some c) (h4 : w8.cell? ⟨bb, 4, none⟩ = some d) (hp : p < g) (hb : bb < g) :
    ∀ (u : Value), (w8.setCell ⟨g, 0, none⟩ u).cell? ⟨p, 0, none⟩ = some a ∧ (w8.setCell ⟨g, 0, none⟩ u).cell? ⟨bb, 2, none⟩ = some b ∧ (w8.setCell ⟨g, 0, none⟩ u).cell? ⟨bb, 3, none⟩ = some c ∧ (w8.setCell ⟨g, 0, none⟩ u).cell? ⟨bb, 4, none⟩ = some d := fun u => by
  refine ⟨(World.cell?_setCell_other _ _ _ _ ?_).trans h1, (World.cell?_setCell_other _ _ _ _ ?_).trans h2, (World.cell?_setCell_other _ _ _ _ ?_).trans h3, (World.cell?_setCell_other _ _ _ _ ?_).trans h4⟩ <;> (intro e; injection e with e; omega)
/-- Behind the statement that lays the frame: nothing that lay has turned; the frame is in its box, or the error is told. -/
def FrRel (wc wx : World) (fp : Option (List UInt8)) (s8 s9 : Value) : Prop := Below wc.heap.size wc wx ∧ match fp with
  | none => s9 = .int .i64 2
  | some xs => s9 = .int .i64 0 ∧ ∃ p A n c, s8 = ptr p ∧ wc.heap.size ≤ p ∧ Blk wx p 26 #[.slice A n c] ∧ OwnB wx wc.heap.size (.slice A n c) xs
section
variable {wc w8 : World} {A8 : Option Addr} {n8 c8 : Nat} {xs : List UInt8} {s8 : Value}
theorem fr_none_a (hA : Below wc.heap.size wc wc.drew) (h8 : Below wc.drew.heap.size wc.drew w8) : FrRel wc (w8.alloc (.cells #[.slice none 0 0] 26)) none s8 (.int .i64 2) := ⟨(hA.trans h8).alloc h8.size _, rfl⟩
theorem fr_none_b (hB : Below wc.heap.size wc (wc.alloc (.cells #[.slice none 0 0] 26)).drew) (h8 : Below (wc.alloc (.cells #[.slice none 0 0] 26)).drew.heap.size (wc.alloc (.cells #[.slice none 0 0] 26)).drew w8) :
    FrRel wc (w8.setCell ⟨wc.heap.size, 0, none⟩ (.slice none 0 0)) none s8 (.int .i64 2) := ⟨(hB.trans (h8.mono hB.size)).setCell (Nat.le_refl _) _, rfl⟩
theorem fr_some_a (hA : Below wc.heap.size wc wc.drew) (h8 : Below wc.drew.heap.size wc.drew w8) (ho : OwnB w8 wc.drew.heap.size (.slice A8 n8 c8) xs) : FrRel wc (w8.alloc (.cells #[.slice A8 n8 c8] 26)) (some xs) (ptr w8.heap.size) (.int .i64 0) :=
  ⟨(hA.trans h8).alloc h8.size _, rfl, w8.heap.size, A8, n8, c8, rfl, h8.size, Blk.new _ _ _, ho.alloc _⟩
theorem fr_some_b (hB : Below wc.heap.size wc (wc.alloc (.cells #[.slice none 0 0] 26)).drew) (h8 : Below (wc.alloc (.cells #[.slice none 0 0] 26)).drew.heap.size (wc.alloc (.cells #[.slice none 0 0] 26)).drew w8)
    (ho : OwnB w8 (wc.alloc (.cells #[.slice none 0 0] 26)).drew.heap.size (.slice A8 n8 c8) xs) (hk : Blk w8 wc.heap.size 26 #[.slice none 0 0]) :
    FrRel wc (w8.setCell ⟨wc.heap.size, 0, none⟩ (.slice A8 n8 c8)) (some xs) (ptr wc.heap.size) (.int .i64 0) :=
  ⟨(hB.trans (h8.mono hB.size)).setCell (Nat.le_refl _) _, rfl, wc.heap.size, A8, n8, c8, rfl, Nat.le_refl _, hk.set_ 0 _, (ho.less hB.size).far (own_blk_ne ho hk (by decide)) _⟩
end
set_option maxHeartbeats 4000000 in
theorem version_begin (w : World) (B : Nat) (S : Nat → Prop) (sb bb : Nat) (V : StoV) (st : StoD) (N : Nat) (ln : Nm) (A : Option Addr) (n c : Nat) (sd : StD) (br : Bool) (hs : Sto w B S sb V st) (hB : B ≤ w.heap.size) (hf : st.Fit N) (hN : N ≤ 50000)
    (hbk : Blk w bb 102 #[ptr sb, str ln, .slice A n c, .int .i64 sd.log, .int .i64 sd.next, .bool br]) (hbS : ¬ S bb) (hbB : B ≤ bb) (hn : n ≤ 1000000) (hF : ∀ W, Kept (fun k => S k ∨ k = bb) w W → Files W W.heap.size A n sd.files) (ht : Lib.TabBelow Tryz.prog B w "internal/strconv.uint64pow10" .u64 Lib.pow10Tab) :
    Calls Tryz.prog 54 #[ptr bb] w (BeginPost w B S sb bb sd br A n c (beginP sd st) (listP st.names)) := by
  obtain ⟨w1, hw1⟩ : ∃ w1, w1 = w.alloc (.cells #[ptr bb] 43) := ⟨_, rfl⟩
  have hs1 : w1.heap.size = w.heap.size + 1 := by rw [hw1]; simp
  have hb1 : Below w.heap.size w w1 := by rw [hw1]; exact (Below.refl _ _).alloc (Nat.le_refl _) _
  have cp : w1.cell? ⟨w.heap.size, 0, none⟩ = some (ptr bb) := by rw [hw1]; exact (Blk.new w _ _).cell 0
  have hbk1 := hbk.below hb1 hbk.lt
  have hst1 := hs.call hb1
  have hpS : ¬ S w.heap.size := fun e => by have := (hs.lt _ e).2; omega
  have hbl := hbk.lt
  have HN := hide (store_names w1 B S sb V st hst1 hf.ok.nowR (Nat.le_trans hf.nn (by unfold lim; omega)))
  have hfm : st.Fit 50000 := hf.more hN
  have HFM := hide hfm
  have HBK := hide hbk1
  have HS1 := hide hst1
  have HFI := hide hF
  have HT := hide ht
  have HS0 := hide hs
  have HB1 := hide hb1
  have cbb : w1.cell? ⟨bb, 0, none⟩ = some (ptr sb) := hbk1.cell 0
  have HW1 := hide hw1
  have hcpw : (w.alloc (.cells #[ptr bb] 43)).cell? ⟨w.heap.size, 0, none⟩ = some (ptr bb) := by rw [← hw1]; exact cp
  have hcbw : (w.alloc (.cells #[ptr bb] 43)).cell? ⟨bb, 0, none⟩ = some (ptr sb) := by rw [← hw1]; exact cbb
  rw [hw1] at HN
  clear hbk hbk1 hst1 hs hF ht hf hfm hb1 hw1
  go_enter Tryz.func54, Tryz.ntmps54
  go_wp2_with fail
  refine (unhide HN).mono ?_
  rintro e w2 ⟨A1, n1, c1, rfl, hrow, hlen, hle, hb2⟩
  rw [← HW1.out] at hb2
  have hnm : st.names.length ≤ 50000 := by show (st.now.map _).length ≤ _; rw [List.length_map]; exact HFM.out.nn
  have hstr2 := strs_of_own (base := (w.alloc (.cells #[ptr bb] 43)).heap.size) (c := c1) hrow
  have hinv2 : InvX (fun _ => False) w1 B S sb st w2 := (InvX.start HS1.out).call hb2
  have hn1 : n1 ≤ 50000 := by rw [hlen]; exact hnm
  have cp2 := hinv2.cell cp (by omega) hpS id
  have cb2 : w2.cell? ⟨bb, 0, none⟩ = some (ptr sb) := (hb2.cell (p := ⟨bb, 0, none⟩) (by show bb < _; omega)).trans cbb
  have HC := hide (contains_str A1 n1 c1 st.names scrN w2 hstr2 (by omega))
  generalize hbx : decide (scrN ∈ st.names) = bx at HC
  have HBX := hide hbx
  clear hbx
  have HI2 := hide hinv2
  have HB2 := hide hb2
  have HSTR2 := hide hstr2
  have HROW := hide hrow
  have HLEN := hide hlen
  clear hrow hlen hb2 HN hcpw hcbw hinv2 hstr2 hnm
  go_wp2_with fail
  refine (unhide HC).mono ?_
  rintro e w3 ⟨rfl, rfl⟩
  clear HC
  go_upto_if 16 with fail
  go_cut [] (fun wx => InvX (fun _ => False) w1 B S sb (scrP st).2 wx ∧ (scrP st).1 = 0 ∧ (scrP st).2.Fit 50001 ∧ Strs wx A1 n1 st.names)
  case first =>
    rcases bx with _ | _
    case true =>
      have hsc : scrN ∈ st.names := by simpa using HBX.out
      have hsp : Hid (scrP st = st.remove scrN) := by show _ = _; rw [scrP, if_pos hsc]
      have hsto2 := HS1.out.call HB2.out
      have HK2 := hide HI2.out.1
      have HR := hide (store_remove w2 B S sb V st scrN hsto2 (by have := HB2.out.size; omega) (Nat.le_trans HFM.out.nn (by unfold lim; omega)) (Nat.le_trans HFM.out.nk (by unfold lim; omega)))
      clear hsc hsto2
      go_wp2_with fail
      refine (unhide HR).mono ?_
      rintro e w3 hop
      obtain ⟨rfl, hinv3⟩ := InvX.step (X := fun _ => False) HK2.out (fun _ h => h) (fun _ h => .inl h) hop
      have HI3 := hide hinv3
      have hk3 := hide hop.2.1
      clear hop HR hinv3
      by_cases hz : (st.remove scrN).1 = 0
      · have hzf : ((st.remove scrN).1 != 0) = false := by simp [hz]
        have HZ := hide hz
        clear hz
        go_wp2
        go_meet
        refine ⟨by rw [hsp.out]; exact HI3.out, by rw [hsp.out]; exact HZ.out, by rw [hsp.out]; exact (HFM.out.remove scrN), HSTR2.out.kept hk3.out (fun h0 ad e hS => ?_)⟩
        obtain ⟨g, cap, e2, hg, _⟩ := HROW.out.form h0
        injection e2 with e2
        rw [e] at e2
        injection e2 with e2
        subst e2
        have h8 := (HS1.out.lt _ hS).2
        rw [HW1.out] at h8
        simp only at h8
        omega
      · have hzf : ((st.remove scrN).1 != 0) = true := by simpa using hz
        have HZ := hide hz
        clear hz
        go_wp2
        go_ret
        rw [beginP, if_pos (by rw [hsp.out]; exact HZ.out), hsp.out]
        exact ⟨rfl, (HI3.out.mono (fun _ h => h.elim)).pre HB1.out, fun h => absurd h HZ.out⟩
    case false =>
      have hsc : ¬ scrN ∈ st.names := by simpa using HBX.out
      have hsp : Hid (scrP st = (0, st)) := by show _ = _; rw [scrP, if_neg hsc]
      clear hsc
      go_wp2
      go_meet
      exact ⟨by rw [hsp.out]; exact HI2.out, by rw [hsp.out], by rw [hsp.out]; exact HFM.out.more (by omega), HSTR2.out⟩
  case rest =>
    obtain ⟨hinv, hz, hfit, hstr⟩ := hcut
    have HZ := hide hz
    have HFIT := hide hfit
    have HI := hide hinv
    have HST := hide hstr
    clear hinv hz hfit hstr cp2 cb2
    go_wp2
    go_loopw [5, 27] (fun a i wr => ∃ k : Nat, k ≤ n1 ∧ i = .int .i64 k ∧ a = .int .i64 (lastP (st.names.take k)) ∧ InvX (fun _ => False) w1 B S sb (scrP st).2 wr ∧ Strs wr A1 n1 st.names) (fun _ i _ => n1 - (intOf i).toNat)
    case atStart => exact ⟨0, Nat.zero_le _, rfl, rfl, HI.out, HST.out⟩
    case round =>
      obtain ⟨k, hk, rfl, rfl, hinv, hstr⟩ := hrel
      by_cases hlt : k < n1
      · obtain ⟨b, off, hx, rfl, hbl2, hc⟩ := hstr.at_ hlt
        have HNUM := hide (fun W => version_numbered manP st.names[k] W)
        have HLS := hide (lastP_snoc st.names k hx)
        generalize hnk : st.names[k] = nk at hc HNUM HLS
        generalize hlk : lastP (st.names.take k) = lk at HLS
        have HNK := hide hnk
        have HLK := hide hlk
        clear hnk hlk
        go_wp2_with (go_at_call 51; refine (HNUM.out _).mono ?_; rintro e w5 ⟨rfl, hb5⟩)
        have HI5 := hide (hinv.call hb5)
        have HS5 := hide (hstr.call hb5)
        clear hb5 hinv hstr hc
        go_roundw
        case rel => exact ⟨k + 1, by omega, by go_num, by rw [HLS.out], HI5.out, HS5.out⟩
        case measure => simp [intOf]; omega
      · have hfull : st.names.take k = st.names := List.take_of_length_le (by have := HLEN.out; omega)
        rw [hfull]
        have HLP : Hid (0 ≤ lastP st.names) := lastP_nonneg _
        have HI5 := hide hinv
        clear hinv hstr hfull
        have cp5 := HI5.out.cell cp (by omega) hpS id
        generalize hL : lastP st.names = L at HLP
        have HL := hide hL
        clear hL
        by_cases hbig : 999999 ≤ L
        · have HBG := hide hbig
          go_wp2
          go_ret
          have e : beginP sd st = (2, (scrP st).2) := by
            rw [beginP, if_neg (by rw [HZ.out]; simp), if_pos (by rw [HL.out]; exact HBG.out)]
          rw [e]
          exact ⟨rfl, (HI5.out.mono (fun _ h => h.elim)).pre HB1.out, fun h => by cases h⟩
        · have hlt9 : L < 999999 := by omega
          have hL0 := HLP.out
          clear hbig
          go_upto_region 14 with fail
          go_cut [] (fun wx => InvX (fun k => k = bb) w1 B S sb (scrP st).2 wx ∧ Blk wx bb 102 #[ptr sb, str (manP ++ pad 6 (L + 1).toNat), .slice A n c, .int .i64 sd.log, .int .i64 sd.next, .bool br])
          case first =>
            have hbk5 := HBK.out.kept HI5.out.1 (fun e => e.elim hbS id)
            have hbkd := hbk5.drew
            have hf51 := hbk5.frozen 1
            have hbl5 := hbk5.lt
            have hpl5 : w.heap.size < wr.heap.size := by have := HI5.out.1.size; omega
            have hSB : ∀ k, S k ∨ False → B ≤ k := fun k h => h.elim (fun h => (HS0.out.lt k h).1) (fun h => h.elim)
            have htab : Tab10 wr.drew := HT.out _ (((HB1.out.mono hB).trans (HI5.out.1.below (by omega) hSB)).drew)
            have HNM := hide (version_named manP (L + 1) (by decide) (by omega) (by omega) wr.drew htab)
            have HBK5 := hide hbk5
            have hwr : IntKind.i64.wrap (L + 1) = L + 1 := IntWalk.i64_in _ (by omega)
            clear hbk5 htab hSB
            go_region_law (first | (go_simp; go_at_call 46; refine (unhide HNM).mono ?_; rintro e w6 ⟨rfl, hb6⟩; have hbk6 : Blk w6 bb 102 _ := hbkd.below hb6 hbl5; have cp6 : w6.cell? ⟨w.heap.size, 0, none⟩ = some (ptr bb) := (hb6.cell (p := ⟨w.heap.size, 0, none⟩) hpl5).trans cp5; have hc61 := hbk6.cell 1; have HB6 := hide hb6; have hf61 := hbk6.frozen 1))
            all_goals go_wp2
            all_goals go_meet
            all_goals exact ⟨((HI5.out.mono (X' := fun k => k = bb) (fun _ h => h.elim)).drew.call HB6.out).store _ rfl hbS (by omega), hbk6.set_ 1 _⟩
          case rest =>
            obtain ⟨hinv6, hbk6⟩ := hcut
            obtain ⟨wm, rfl⟩ : ∃ wm : World, wm = wc := ⟨_, rfl⟩
            have HI6 := hide hinv6
            have HBK6 := hide hbk6
            clear hinv6 hbk6
            have cp7 := HI6.out.cell cp (by omega) hpS (by omega)
            have c72 : wm.cell? ⟨bb, 2, none⟩ = some (.slice A n c) := HBK6.out.cell 2
            have c73 : wm.cell? ⟨bb, 3, none⟩ = some (.int .i64 sd.log) := HBK6.out.cell 3
            have c74 : wm.cell? ⟨bb, 4, none⟩ = some (.int .i64 sd.next) := HBK6.out.cell 4
            have hplc : w.heap.size < wm.heap.size := by have := HI6.out.1.size; omega
            have hblc := HBK6.out.lt
            have HFR : Hid (∀ W, Below wm.heap.size wm W → Calls Tryz.prog 76 #[.agg #[.slice A n c, .slice none 0 0, .int .i64 sd.log, .int .i64 sd.next]] W (FramedPost W (framedP ⟨sd.files, [], sd.log, sd.next⟩))) := fun W hW =>
              version_framed ⟨sd.files, [], sd.log, sd.next⟩ A none n c 0 0 W (by omega) (by omega) (HFI.out _ ((Kept.of_below HB1.out).trans (HI6.out.1.call hW))) ⟨rfl, fun h => absurd h (by omega)⟩
            have hbA := hide (show Below wm.heap.size wm wm.drew from (Below.refl _ _).drew)
            have hbB := hide (show Below wm.heap.size wm (wm.alloc (.cells #[.slice none 0 0] 26)).drew from ((Below.refl _ _).alloc (Nat.le_refl _) _).drew)
            have hal0 := hide (four_alloc cp7 c72 c73 c74 hplc hblc)
            go_upto_region 15 with fail
            generalize hfp : framedP ⟨sd.files, [], sd.log, sd.next⟩ = fp at HFR
            have HFP := hide hfp
            clear hfp
            go_cut [8, 9] (fun s8 s9 wx => FrRel wm wx fp s8 s9)
            case first =>
              rcases fp with _ | xs
              case none =>
                go_region_held3 (fun v => v.cell? ⟨w.heap.size, 0, none⟩ = some (ptr bb) ∧ v.cell? ⟨bb, 2, none⟩ = some (.slice A n c) ∧ v.cell? ⟨bb, 3, none⟩ = some (.int .i64 sd.log) ∧ v.cell? ⟨bb, 4, none⟩ = some (.int .i64 sd.next)) (first | exact ⟨cp8, c82, c83, c84⟩ | exact hal.out _ | exact hal2.out _ _ | exact hal3.out _ | exact hal0.out _ | exact ⟨cp7, c72, c73, c74⟩) (first
                  | (go_at_call 76; (with_reducible refine (HFR.out wm.drew hbA.out).mono ?_); rintro e w8 ⟨hb8, rfl⟩; have HB8 := hide hb8; have cp8 : w8.cell? ⟨w.heap.size, 0, none⟩ = some (ptr bb) := (hb8.cell (p := ⟨w.heap.size, 0, none⟩) hplc).trans cp7; have c82 : w8.cell? ⟨bb, 2, none⟩ = some (.slice A n c) := (hb8.cell (p := ⟨bb, 2, none⟩) hblc).trans c72; have c83 : w8.cell? ⟨bb, 3, none⟩ = some (.int .i64 sd.log) := (hb8.cell (p := ⟨bb, 3, none⟩) hblc).trans c73; have c84 : w8.cell? ⟨bb, 4, none⟩ = some (.int .i64 sd.next) := (hb8.cell (p := ⟨bb, 4, none⟩) hblc).trans c74; have hal := hide (four_alloc cp8 c82 c83 c84 (Nat.lt_of_lt_of_le hplc hb8.size) (Nat.lt_of_lt_of_le hblc hb8.size)); have hal2 := hide (four_store cp8 c82 c83 c84 (Nat.lt_of_lt_of_le hplc hb8.size) (Nat.lt_of_lt_of_le hblc hb8.size)))
                  | (go_at_call 76; (with_reducible refine (HFR.out (wm.alloc (.cells #[.slice none 0 0] 26)).drew hbB.out).mono ?_); rintro e w8 ⟨hb8, rfl⟩; have HB8 := hide hb8; have hbk8 := (Blk.new wm 26 #[.slice none 0 0]).drew.below hb8 (by show wm.heap.size < (wm.alloc _).heap.size; simp); have cx8 := hbk8.cell 0; have fx8 := hbk8.frozen 0; obtain ⟨cp8, c82, c83, c84⟩ := four_below (hal0.out (.cells #[.slice none 0 0] 26)) hb8 hplc hblc; have hal3 := hide (four_set cp8 c82 c83 c84 hplc hblc)))
                all_goals go_wp2
                all_goals go_meet
                all_goals first
                  | exact fr_none_a hbA.out HB8.out
                  | exact fr_none_b hbB.out HB8.out
                  | trace_state
              case some =>
                go_region_held3 (fun v => v.cell? ⟨w.heap.size, 0, none⟩ = some (ptr bb) ∧ v.cell? ⟨bb, 2, none⟩ = some (.slice A n c) ∧ v.cell? ⟨bb, 3, none⟩ = some (.int .i64 sd.log) ∧ v.cell? ⟨bb, 4, none⟩ = some (.int .i64 sd.next)) (first | exact ⟨cp8, c82, c83, c84⟩ | exact hal.out _ | exact hal2.out _ _ | exact hal3.out _ | exact hal0.out _ | exact ⟨cp7, c72, c73, c74⟩) (first
                  | (go_at_call 76; (with_reducible refine (HFR.out wm.drew hbA.out).mono ?_); rintro e w8 ⟨hb8, v8, rfl, ho8⟩; obtain ⟨A8, n8, c8, rfl, hn8, hc8, hr8⟩ := ho8.form2; have HO8 := hide ho8; clear hr8 hn8; have HB8 := hide hb8; have cp8 : w8.cell? ⟨w.heap.size, 0, none⟩ = some (ptr bb) := (hb8.cell (p := ⟨w.heap.size, 0, none⟩) hplc).trans cp7; have c82 : w8.cell? ⟨bb, 2, none⟩ = some (.slice A n c) := (hb8.cell (p := ⟨bb, 2, none⟩) hblc).trans c72; have c83 : w8.cell? ⟨bb, 3, none⟩ = some (.int .i64 sd.log) := (hb8.cell (p := ⟨bb, 3, none⟩) hblc).trans c73; have c84 : w8.cell? ⟨bb, 4, none⟩ = some (.int .i64 sd.next) := (hb8.cell (p := ⟨bb, 4, none⟩) hblc).trans c74; have hal := hide (four_alloc cp8 c82 c83 c84 (Nat.lt_of_lt_of_le hplc hb8.size) (Nat.lt_of_lt_of_le hblc hb8.size)); have hal2 := hide (four_store cp8 c82 c83 c84 (Nat.lt_of_lt_of_le hplc hb8.size) (Nat.lt_of_lt_of_le hblc hb8.size)))
                  | (go_at_call 76; (with_reducible refine (HFR.out (wm.alloc (.cells #[.slice none 0 0] 26)).drew hbB.out).mono ?_); rintro e w8 ⟨hb8, v8, rfl, ho8⟩; obtain ⟨A8, n8, c8, rfl, hn8, hc8, hr8⟩ := ho8.form2; have HO8 := hide ho8; clear hr8 hn8; have HB8 := hide hb8; have hbk8 := (Blk.new wm 26 #[.slice none 0 0]).drew.below hb8 (by show wm.heap.size < (wm.alloc _).heap.size; simp); have cx8 := hbk8.cell 0; have fx8 := hbk8.frozen 0; obtain ⟨cp8, c82, c83, c84⟩ := four_below (hal0.out (.cells #[.slice none 0 0] 26)) hb8 hplc hblc; have hal3 := hide (four_set cp8 c82 c83 c84 hplc hblc)))
                all_goals go_wp2
                all_goals go_meet
                all_goals first
                  | exact fr_some_a hbA.out HB8.out HO8.out
                  | exact fr_some_b hbB.out HB8.out HO8.out hbk8
                  | trace_state
            case rest =>
              obtain ⟨hbx, hrel⟩ := hcut
              have HBX2 := hide hbx
              have hix := hide (HI6.out.call hbx)
              rcases fp with _ | xs
              · obtain rfl := hrel
                clear hbx
                go_wp2
                go_ret
                have e : beginP sd st = (2, (scrP st).2) := by
                  rw [beginP, if_neg (by rw [HZ.out]; simp), if_neg (by rw [HL.out]; omega), HFP.out]
                rw [e]
                exact ⟨rfl, hix.out.pre HB1.out, fun h => by cases h⟩
              · obtain ⟨rfl, p9, A8, n8, c8, rfl, hp9, hblk9, ho9⟩ := hrel
                have hbkx := HBK6.out.below hbx hblc
                obtain ⟨hkx, S6, V6, hs6, g1, g2⟩ := HI6.out
                have hsx := hs6.call hbx
                have h9S : ¬ S6 p9 := fun e => by have := (hs6.lt _ e).2; omega
                have hpS6 : ¬ S6 w.heap.size := fun e => by rcases g2 _ e with h | h; exact hpS h; omega
                have hbS6 : ¬ S6 bb := fun e => by rcases g2 _ e with h | h; exact hbS h; omega
                have hrdx : RdS wc S6 A8 n8 xs := RdS.of_own ho9 (framedP_len HFP.out) (fun k hk => (hs6.lt k hk).2)
                have hlnl : (manP ++ pad 6 (L + 1).toNat).length ≤ 1000 := by simp [pad_length, manP]
                have cpx := (hbx.cell (p := ⟨w.heap.size, 0, none⟩) hplc).trans cp7
                have HCH := hide (begin_chain (N := 50001) hsx (by have := hbx.size; have := HI6.out.1.size; omega) HFIT.out (by omega) cpx (hblk9.cell 0) (hbkx.cell 0) (hbkx.cell 1) hbS6 hpS6 h9S hlnl hrdx)
                have HG : Hid (∀ st' W2, OpInv (wc.alloc (.cells ((beginFs w.heap.size p9 sb).map FnV.val).toArray 108)) B S6 sb st' W2 → InvX (fun k => k = bb) w1 B S sb st' W2) := fun st' W2 h => InvX.chain (X := fun k => k = bb) hkx g1 g2 (hbx.alloc hbx.size (.cells ((beginFs w.heap.size p9 sb).map FnV.val).toArray 108)) h
                have HBKX := hide (hbkx.alloc (.cells ((beginFs w.heap.size p9 sb).map FnV.val).toArray 108))
                have HBS6 := hide hbS6
                have hcx0 : wc.cell? ⟨bb, 0, none⟩ = some (ptr sb) := hbkx.cell 0
                clear hbx hblk9 ho9 hbkx hkx g1 g2 hs6 hsx hrdx h9S hpS6 hbS6
                go_wp2_with (go_at_call 53; refine (unhide HCH).mono ?_; rintro e w9 ⟨z, rfl, hz9, hi9⟩; have HZ9 := hide hz9; have HI9 := hide hi9; clear hz9 hi9)
                go_ret
                have e : beginP sd st = seqP (beginOps (listP st.names) xs) (scrP st).2 := by
                  rw [beginP, if_neg (by rw [HZ.out]; simp), if_neg (by rw [HL.out]; omega), HFP.out]
                have el : listP st.names = manP ++ pad 6 (L + 1).toNat := by rw [listP, HL.out]
                rw [e, el]
                exact ⟨by rw [HZ9.out]; rfl, (HG.out _ _ HI9.out).pre HB1.out, fun _ => HBKX.out.kept HI9.out.1 HBS6.out⟩
end Go.Proofs.YtgjmfncebbfniaaGreatDoor
