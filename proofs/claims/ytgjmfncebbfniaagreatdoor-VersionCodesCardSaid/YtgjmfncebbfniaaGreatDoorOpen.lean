/- Package version: Open, where there is no current list. -/
import Derived.Test.YtgjmfncebbfniaaGreatDoorCleanB
namespace Go.Proofs.YtgjmfncebbfniaaGreatDoor
set_option maxRecDepth 100000
open Go Go.RowKit

theorem seqP_fit2 : ∀ (ops : List (StoD → Int × StoD)) (N : Nat) (st : StoD), (∀ op ∈ ops, ∀ (s : StoD) (M : Nat), s.Fit M → (op s).2.Fit (M + 2)) → st.Fit N → (seqP ops st).2.Fit (N + 2 * ops.length)
  | [], _, _, _, h => h
  | op :: r, N, st, ho, h => by
    have h1 := ho op List.mem_cons_self st N h
    simp only [seqP, List.length_cons]
    split
    · exact (seqP_fit2 r (N + 2) _ (fun o ho' => ho o (List.mem_cons_of_mem _ ho')) h1).more (by omega)
    · exact h1.more (by omega)
theorem scrP_fit {st : StoD} {N : Nat} (h : st.Fit N) : (scrP st).2.Fit (N + 1) := by
  unfold scrP; split
  · exact h.remove _
  · exact h.more (by omega)
theorem beginP_fit {sd : StD} {st : StoD} {N : Nat} (h : st.Fit N) : (beginP sd st).2.Fit (N + 9) := by
  unfold beginP
  have h1 := scrP_fit h
  split
  · exact h1.more (by omega)
  · split
    · exact h1.more (by omega)
    · split
      · exact h1.more (by omega)
      · refine (seqP_fit2 _ (N + 1) _ ?_ h1).more (by simp [beginOps])
        intro op hop s M hs
        simp only [beginOps, List.mem_cons, List.not_mem_nil, or_false] at hop
        rcases hop with rfl | rfl | rfl | rfl
        · exact writeP_fit hs _ _
        · exact writeP_fit hs _ _
        · exact (hs.rename _ _).more (by omega)
        · exact hs.syncDir.more (by omega)
def openP (sd : StD) (st : StoD) : Int × StoD := if (beginP sd st).1 = 0 then cleanP sd (listP st.names) (beginP sd st).2 else beginP sd st
def beFn (bb : Nat) : FnV := ⟨54, #[ptr bb], #[]⟩
def clFn (bb : Nat) : FnV := ⟨55, #[ptr bb], #[]⟩
theorem open_chain (w : World) (B : Nat) (S : Nat → Prop) (sb bb rb : Nat) (V : StoV) (st : StoD) (N : Nat) (ln : Nm) (A : Option Addr) (n c : Nat) (sd : StD) (br : Bool) (hs : Sto w B S sb V st) (hB : B ≤ w.heap.size) (hf : st.Fit N) (hN : N ≤ 4000)
    (hbk : Blk w bb 102 #[ptr sb, str ln, .slice A n c, .int .i64 sd.log, .int .i64 sd.next, .bool br]) (hbS : ¬ S bb) (hbB : B ≤ bb) (hn : n ≤ 1000000) (hF : ∀ W, Kept (fun k => S k ∨ k = bb) w W → Files W W.heap.size A n sd.files) (ht : Lib.TabBelow Tryz.prog B w "internal/strconv.uint64pow10" .u64 Lib.pow10Tab)
    (hrow : Blk w rb 108 #[(beFn bb).val, (clFn bb).val]) (hrS : ¬ S rb) (hrb : rb ≠ bb) :
    Calls Tryz.prog 53 #[.slice (some ⟨rb, 0, none⟩) 2 2] w (IntPost fun z W => z = (openP sd st).1 ∧ InvX (fun k => k = bb) w B S sb (openP sd st).2 W ∧ (z = 0 → Blk W bb 102 #[ptr sb, str (listP st.names), .slice A n c, .int .i64 sd.log, .int .i64 sd.next, .bool br])) := by
  have hRow : ∀ W, Kept (fun k => S k ∨ k = bb) w W → Row (some ⟨rb, 0, none⟩) [beFn bb, clFn bb] W := row_of_blk hrow (fun e => e.elim hrS hrb)
  refine version_all _ 2 2 [beFn bb, clFn bb] w _ rfl (by omega) (fun _ => ⟨_, _, rfl⟩) ⟨hRow w (Kept.refl _ _), enters_of Tryz.func54 (by kernel_rfl) rfl, (version_begin w B S sb bb V st N ln A n c sd br hs hB hf (by omega) hbk hbS hbB hn hF ht).mono ?_⟩
  rintro e W ⟨rfl, hi, hb⟩
  refine ⟨_, rfl, ?_⟩
  dsimp only
  by_cases hz : (beginP sd st).1 = 0
  · rw [if_pos hz]
    refine ⟨hRow W hi.1, enters_of Tryz.func55 (by kernel_rfl) rfl, ?_⟩
    obtain ⟨hk, S', V', hs', h1, h2⟩ := hi
    have hbb := hbk.lt
    have hbS' : ¬ S' bb := fun e => by
      rcases h2 _ e with h | h
      · exact hbS h
      · omega
    refine (version_clean W B S' sb bb V' _ (N + 9) (listP st.names) A n c sd br hs' (Nat.le_trans hB hk.size) (beginP_fit hf) (by omega) (hb hz) hbS' hn (fun W' hW' => hF W' (hk.call hW'))).mono ?_
    intro e W' hop
    obtain ⟨rfl, hi'⟩ := InvX.step hk h1 h2 hop
    have hop' : openP sd st = cleanP sd (listP st.names) (beginP sd st).2 := if_pos hz
    have hbk' := (hb hz).kept hop.2.1 hbS'
    refine ⟨_, rfl, ?_⟩
    rw [hop']
    dsimp only
    by_cases h0 : (cleanP sd (listP st.names) (beginP sd st).2).1 = 0
    · rw [if_pos h0]
      exact ⟨h0.symm, hi', fun _ => hbk'⟩
    · rw [if_neg h0]
      exact ⟨rfl, hi', fun _ => hbk'⟩
  · rw [if_neg hz]
    have hop' : openP sd st = beginP sd st := if_neg hz
    rw [hop']
    exact ⟨rfl, hi, fun h => absurd h hz⟩
/-- What Open leaves, of a store with no list that counts. -/
def OpenPost (w : World) (B : Nat) (S : Nat → Prop) (sb : Nat) (st : StoD) (e : Ending) (W : World) : Prop :=
  Kept S w W ∧ (∃ S' V, Sto W B S' sb V (openP ⟨[], 0, 1⟩ st).2 ∧ (∀ k, S k → S' k) ∧ (∀ k, S' k → Plus S w W k) ∧ ¬ S' w.heap.size) ∧
    ((openP ⟨[], 0, 1⟩ st).1 = 0 → e = .returned (.tuple #[ptr w.heap.size, .int .i64 0]) ∧ Blk W w.heap.size 102 #[ptr sb, str (listP st.names), .slice none 0 0, .int .i64 0, .int .i64 1, .bool false]) ∧
    ((openP ⟨[], 0, 1⟩ st).1 ≠ 0 → e = .returned (.tuple #[.pointer none, .int .i64 (openP ⟨[], 0, 1⟩ st).1]))
set_option maxHeartbeats 4000000 in
theorem version_open_fresh (w : World) (B : Nat) (S : Nat → Prop) (sb : Nat) (V : StoV) (st : StoD) (N : Nat) (hs : Sto w B S sb V st) (hB : B ≤ w.heap.size) (hf : st.Fit N) (hN : N ≤ 4000) (hdn : st.down = false) (hcur : ¬ curN ∈ st.names) (ht : Lib.TabBelow Tryz.prog B w "internal/strconv.uint64pow10" .u64 Lib.pow10Tab) :
    Calls Tryz.prog 16 #[ptr sb] w (OpenPost w B S sb st) := by
  obtain ⟨w1, hw1⟩ : ∃ w1, w1 = w.alloc (.cells #[ptr sb, str [], .slice none 0 0, .int .i64 0, .int .i64 1, .bool false] 102) := ⟨_, rfl⟩
  have hs1 : w1.heap.size = w.heap.size + 1 := by rw [hw1]; simp
  have hb1 : Below w.heap.size w w1 := by rw [hw1]; exact (Below.refl _ _).alloc (Nat.le_refl _) _
  have bp : Blk w1 w.heap.size 102 #[ptr sb, str [], .slice none 0 0, .int .i64 0, .int .i64 1, .bool false] := by rw [hw1]; exact Blk.new w _ _
  have hst1 := hs.call hb1
  have hpS : ¬ S w.heap.size := fun e => by have := (hs.lt _ e).2; omega
  have HN := hide (store_names w1 B S sb V st hst1 hf.ok.nowR (Nat.le_trans hf.nn (by unfold lim; omega)))
  have HOFF := store_off w B S sb V st hs
  rw [hdn] at HOFF
  have HOF := hide HOFF
  have HFM := hide hf
  have HS1 := hide hst1
  have HS0 := hide hs
  have HB1 := hide hb1
  have HBP := hide bp
  have HW1 := hide hw1
  have HT := hide ht
  have HCUR := hide hcur
  rw [hw1] at HN
  clear HOFF hst1 hs hf hb1 hw1 bp ht hdn hcur
  go_enter Tryz.func16, Tryz.ntmps16
  go_wp2_with fail
  refine (unhide HOF).mono ?_
  rintro e w0 ⟨rfl, hw0⟩
  have hw0' := hw0.symm
  clear hw0
  subst hw0'
  go_wp2_with fail
  refine (unhide HN).mono ?_
  rintro e w2 ⟨A1, n1, c1, rfl, hrow, hlen, hle, hb2⟩
  rw [← HW1.out] at hb2
  have hnm : st.names.length ≤ 5000 := by show (st.now.map _).length ≤ _; rw [List.length_map]; exact Nat.le_trans HFM.out.nn (by omega)
  have hstr2 := strs_of_own (base := (w.alloc (.cells #[ptr sb, str [], .slice none 0 0, .int .i64 0, .int .i64 1, .bool false] 102)).heap.size) (c := c1) hrow
  have hn1 : n1 ≤ 5000 := by rw [hlen]; exact hnm
  have HC0 := contains_str A1 n1 c1 st.names curN w2 hstr2 (by omega)
  rw [decide_eq_false HCUR.out] at HC0
  have HC := hide HC0
  have hst2 := HS1.out.call hb2
  have hbk2 := HBP.out.below hb2 (by omega)
  have HB2 := hide hb2
  have HST2 := hide hst2
  have HBK2 := hide hbk2
  have hs2 := hb2.size
  clear hrow hlen hb2 HN hst2 hbk2 hstr2 hnm HC0
  go_wp2_with fail
  refine (unhide HC).mono ?_
  rintro e w3 ⟨rfl, rfl⟩
  clear HC
  obtain ⟨w4, hw4⟩ : ∃ w4, w4 = w2.alloc (.cells #[(beFn w.heap.size).val, (clFn w.heap.size).val] 108) := ⟨_, rfl⟩
  have hb4 : Below w2.heap.size w2 w4 := by rw [hw4]; exact (Below.refl _ _).alloc (Nat.le_refl _) _
  have hrow4 : Blk w4 w2.heap.size 108 #[(beFn w.heap.size).val, (clFn w.heap.size).val] := by rw [hw4]; exact Blk.new w2 _ _
  have hbw4 : Below w.heap.size w w4 := HB1.out.trans ((HB2.out.mono (by omega)).trans (hb4.mono (by omega)))
  have hrS : ¬ S w2.heap.size := fun e => by have := (HS0.out.lt _ e).2; omega
  have HCH := hide (open_chain w4 B S sb w.heap.size w2.heap.size V st N [] none 0 0 ⟨[], 0, 1⟩ false (HST2.out.call hb4) (by have := hb4.size; omega) HFM.out hN (HBK2.out.below hb4 (by omega)) hpS hB (by omega) (fun W _ => ⟨rfl, fun h => absurd h (by omega)⟩) (HT.out.on (hbw4.mono hB)) hrow4 hrS (by omega))
  rw [hw4] at HCH
  have HBW4 := hide hbw4
  have HW4 := hide hw4
  clear hb4 hrow4 hbw4 hrS hw4
  go_wp2_with fail
  refine (unhide HCH).mono ?_
  rintro e W ⟨z, rfl, hz, hi, hbk⟩
  have hpost : Kept S w W ∧ ∃ S' V, Sto W B S' sb V (openP ⟨[], 0, 1⟩ st).2 ∧ (∀ k, S k → S' k) ∧ (∀ k, S' k → Plus S w W k) ∧ ¬ S' w.heap.size := by
    rw [← HW4.out] at hi
    have hs4 : w.heap.size < w4.heap.size := by rw [HW4.out]; simp; omega
    obtain ⟨_, S', V', hs', h1, h2⟩ := hi
    have hi' := InvX.pre ⟨‹_›, S', V', hs', h1, h2⟩ HBW4.out
    obtain ⟨hk, _⟩ := hi'
    refine ⟨⟨hk.os, hk.tape, hk.output, hk.size, fun j hj hn => hk.block j hj (fun e => e.elim hn (fun e => by omega))⟩, S', V', hs', h1, fun k hk' => ?_, fun e => ?_⟩
    · rcases h2 k hk' with h3 | h3
      · exact .inl h3
      · exact .inr ⟨by omega, h3.2⟩
    · rcases h2 _ e with h3 | h3
      · exact hpS h3
      · omega
  have HP := hide hpost
  have HZ := hide hz
  have HBK := hide hbk
  clear hpost hz hbk hi HCH
  by_cases h0 : z = 0
  · subst h0
    have HBK0 := hide (HBK.out rfl)
    clear HBK
    go_wp2
    go_ret2
    exact ⟨HP.out.1, HP.out.2, fun _ => ⟨rfl, HBK0.out⟩, fun h => absurd HZ.out.symm h⟩
  · have hne : (z != 0) = true := by simpa using h0
    have H0 := hide h0
    clear h0
    go_wp2
    go_ret2
    exact ⟨HP.out.1, HP.out.2, fun h => absurd (HZ.out.trans h) H0.out, fun _ => by rw [← HZ.out]; rfl⟩
end Go.Proofs.YtgjmfncebbfniaaGreatDoor
