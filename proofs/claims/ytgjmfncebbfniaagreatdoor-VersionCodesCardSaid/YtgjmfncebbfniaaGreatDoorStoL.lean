/- Package store: Remove, Rename, SyncDir. -/
import Derived.Test.YtgjmfncebbfniaaGreatDoorStoJ
import Derived.Test.YtgjmfncebbfniaaGreatDoorShelfB
namespace Go.Proofs.YtgjmfncebbfniaaGreatDoor
set_option maxRecDepth 100000
open Go Go.RowKit Go.Maps

theorem remove_bad {st : StoD} {n : Nm} (h : (st.may (isNm n)).1 ≠ 0) : st.remove n = st.may (isNm n) := by simp [StoD.remove, h]
theorem remove_none {st : StoD} {n : Nm} (h : (st.may (isNm n)).1 = 0) (hf : dFind (st.may (isNm n)).2.now n = none) : st.remove n = (4, (st.may (isNm n)).2) := by simp [StoD.remove, h, hf]
theorem remove_some {st : StoD} {n : Nm} {k : Nat} (h : (st.may (isNm n)).1 = 0) (hf : dFind (st.may (isNm n)).2.now n = some k) : st.remove n = (0, (st.may (isNm n)).2.change (.del n)) := by simp [StoD.remove, h, hf]
/-- A store in more blocks. -/
theorem Sto.wide {w W : World} {B sb : Nat} {S : Nat → Prop} {V : StoV} {st : StoD} (h : Sto W B S sb V st) (hB : B ≤ w.heap.size) : Sto W B (Plus S w W) sb V st := h.plus hB

set_option maxHeartbeats 1000000 in
theorem remove_1 (w W : World) (B : Nat) (S : Nat → Prop) (sb : Nat) (V : StoV) (st : StoD) (n : Nm) (f p q : Nat) (hs : Sto W B S sb V st) (hB : B ≤ w.heap.size) (hk : Kept S w W) (hq : Blk W q 37 #[ptr sb]) (hp : Blk W p 9 #[str n]) (hpw : w.heap.size ≤ p) (hn : n.length ≤ 64) (hl : st.now.length ≤ lim) (hkl : st.kept.length ≤ lim) :
    Calls Tryz.prog 165 #[ptr f, ptr q, ptr p] W (OpPost w B S sb (.int .i64 0) (st.change (.del n))) := by
  have hcq := hq.cell 0
  have hBW : B ≤ W.heap.size := Nat.le_trans hB hk.size
  have HC := hide (store_change W B (Plus S w W) sb V st (.del n) (.func (.func 166) #[] #[ptr p]) (hs.plus hB) hBW ⟨p, rfl, hp, .inr ⟨hpw, hp.lt⟩⟩ hn hl hkl)
  have HK := hide hk
  clear hs hk hq hp
  go_enter Tryz.func165, Tryz.ntmps165
  go_wp2_with (go_at_call 131; refine (unhide HC).mono ?_; intro e w1 hop; have hop2 := hop.after HK.out; obtain ⟨rfl, hop3⟩ := hop2; have HOP := hide hop3; clear hop hop3)
  go_ret
  exact ⟨rfl, HOP.out⟩
set_option maxHeartbeats 1000000 in
theorem store_remove (w : World) (B : Nat) (S : Nat → Prop) (sb : Nat) (V : StoV) (st : StoD) (nm : Nm) (h : Sto w B S sb V st) (hB : B ≤ w.heap.size) (hl : st.now.length ≤ lim) (hkl : st.kept.length ≤ lim) :
    Calls Tryz.prog 110 #[ptr sb, str nm] w (OpPost w B S sb (.int .i64 (st.remove nm).1) (st.remove nm).2) := by
  obtain ⟨w', hw'⟩ : ∃ w', w' = (w.alloc (.cells #[ptr sb] 37)).alloc (.cells #[str nm] 9) := ⟨_, rfl⟩
  have hbel : Below w.heap.size w w' := by rw [hw']; exact ((Below.refl _ _).alloc (Nat.le_refl _) _).alloc (by simp) _
  have hs' := h.call hbel
  have hq : Blk w' w.heap.size 37 #[ptr sb] := by rw [hw']; exact (Blk.new w _ _).alloc _
  have hp : Blk w' (w.heap.size + 1) 9 #[str nm] := by
    have := Blk.new (w.alloc (.cells #[ptr sb] 37)) 9 #[str nm]
    rw [hw']
    simpa using this
  have hkS : Kept S w w' := Kept.of_below hbel
  have HW := hide (store_with (fun z W => OpPost w B S sb (.int .i64 (st.remove nm).1) (st.remove nm).2 (.returned (.int .i64 z)) W) w' B S sb V st 165 #[ptr w.heap.size, ptr (w.heap.size + 1)] (enters_of Tryz.func165 (by kernel_rfl) rfl)
    nm [] none 0 0 w'.heap.size (World.ownsRow_nil w' _ _ _) (Nat.le_refl _) (by omega) (fun g hg => (noT rfl g hg).elim) hs'
    (fun W hz hp => by
      rw [all_one] at hz hp
      show OpPost _ _ _ _ _ _ _ _
      rw [all_one, remove_bad hz]
      exact OpPost.then hkS (hp.op h.ssb (fun k e => (noT rfl k e).elim)))
    (fun W hz hf hp => by
      rw [all_one] at hz hp hf
      show OpPost _ _ _ _ _ _ _ _
      rw [remove_none hz hf]
      exact OpPost.then hkS (hp.op h.ssb (fun k e => (noT rfl k e).elim)))
    (fun W k hz hf hpre => by
      rw [all_one] at hz hpre hf
      obtain ⟨hk, A', n', c', hs⟩ := hpre
      have hk1 : Kept (fun k => k = sb) w' W := hk.mono (fun k _ e => e.elim id (fun e => (noT rfl k e).elim))
      have hne : ∀ g t, tag w' g = some t → some t ≠ tSto → ¬ g = sb := fun g t e e2 e3 => by
        subst e3
        rw [hs'.blk.tag] at e
        exact e2 e.symm
      rw [remove_some hz hf]
      refine (remove_1 w W B S sb _ (st.may (isNm nm)).2 nm _ (w.heap.size + 1) w.heap.size hs hB (hkS.trans (hk1.mono (fun k _ e => by subst e; exact h.ssb))) (hq.kept hk1 (hne _ _ hq.tag (by decide))) (hp.kept hk1 (hne _ _ hp.tag (by decide))) (by omega) (isNm_len (may_zero hz)) (by rw [may_now]; exact hl) (by rw [may_kept]; exact hkl)).mono ?_
      rintro e W' ⟨rfl, rest⟩
      exact ⟨0, rfl, rfl, rest⟩))
  have hcp : ((w.alloc (.cells #[ptr sb] 37)).alloc (.cells #[str nm] 9)).cell? ⟨w.heap.size + 1, 0, none⟩ = some (str nm) := by rw [← hw']; exact hp.cell 0
  have hcq : ((w.alloc (.cells #[ptr sb] 37)).alloc (.cells #[str nm] 9)).cell? ⟨w.heap.size, 0, none⟩ = some (ptr sb) := by rw [← hw']; exact hq.cell 0
  rw [hw'] at HW
  clear hkS hp hq hs' hbel hw'
  go_enter Tryz.func110, Tryz.ntmps110
  go_wp2_with (go_at_call 135; refine (unhide HW).mono ?_; rintro e w1 ⟨z, rfl, hq⟩; have HQ := hide hq; clear hq)
  go_ret
  exact HQ.out
end Go.Proofs.YtgjmfncebbfniaaGreatDoor
