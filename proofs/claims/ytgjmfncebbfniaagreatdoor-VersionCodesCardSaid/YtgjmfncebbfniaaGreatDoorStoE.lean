/- Package store: with, Append, Sync. -/
import Derived.Test.YtgjmfncebbfniaaGreatDoorStoD
namespace Go.Proofs.YtgjmfncebbfniaaGreatDoor
set_option maxRecDepth 100000
open Go Go.RowKit Go.Maps

section
variable {w W0 W W1 : World} {B sb : Nat} {S S' T : Nat → Prop} {V : StoV} {st : StoD} {v : Value} {e : Ending}
theorem Kept.andPlus (h : Kept S w W0) (h' : Kept (Plus S w W0) W0 W) : Kept S w W :=
  ⟨h'.os.trans h.os, h'.tape.trans h.tape, h'.output.trans h.output, Nat.le_trans h.size h'.size, fun k hk hn => (h'.block k (Nat.lt_of_lt_of_le hk h.size) (fun hp => by
    rcases hp with hp | hp
    · exact hn hp
    · omega)).trans (h.block k hk hn)⟩
theorem OpPost.after (hk : Kept S w W0) (hp : OpPost W0 B (Plus S w W0) sb v st e W) : OpPost w B S sb v st e W := by
  obtain ⟨he, hk', S', V, hs, hS, hP⟩ := hp
  refine ⟨he, hk.andPlus hk', S', V, hs, fun k h => hS k (.inl h), fun k h => ?_⟩
  have h1 := hk.size
  have h2 := hk'.size
  rcases hP k h with (h | h) | h
  · exact .inl h
  · exact .inr ⟨h.1, by omega⟩
  · exact .inr ⟨by omega, h.2⟩
theorem OpPost.then (hk : Kept S w W0) (hp : OpPost W0 B S sb v st e W) : OpPost w B S sb v st e W := by
  obtain ⟨he, hk', S', V, hs, hS, hP⟩ := hp
  refine ⟨he, hk.trans hk', S', V, hs, hS, fun k h => ?_⟩
  have h1 := hk.size
  rcases hP k h with h | h
  · exact .inl h
  · exact .inr ⟨by omega, h.2⟩
end
/-- An int is answered. -/
def IntPost (Q : Int → World → Prop) (e : Ending) (W : World) : Prop := ∃ z, e = .returned (.int .i64 z) ∧ Q z W
theorem strs_of_own {w : World} {base n c : Nat} {A : Option Addr} {ns : List Nm} (h : w.ownsRow base 9 1 (.slice A n c) n (ns.map str)) : Strs w A n ns := by
  have hl := h.1
  simp only [List.length_map, Nat.mul_one] at hl
  refine ⟨hl, fun hn => ?_⟩
  obtain ⟨g, cap, e, _, hlt⟩ := h.form hn
  injection e with e1 e2 e3
  subst e1
  refine ⟨g, 0, rfl, hlt, fun i s hi => ?_⟩
  have hi' := (List.getElem?_eq_some_iff.1 hi).1
  rw [Nat.zero_add]
  have := World.ownsRow.cellAt h i (by simp; omega)
  rw [this]
  simp [hi]
def WithPre (w : World) (B : Nat) (S : Nat → Prop) (sb : Nat) (V : StoV) (st : StoD) (T : Nat → Prop) (W : World) : Prop :=
  Kept (fun k => k = sb ∨ T k) w W ∧ ∃ A n c, Sto W B S sb { V with pA := A, pn := n, pc := c } st

set_option maxHeartbeats 1000000 in
theorem store_with (Q : Int → World → Prop) (w : World) (B : Nat) (S : Nat → Prop) (sb : Nat) (V : StoV) (st : StoD) (g : FuncId) (lb : Array Value) (eg : ∀ args w, (callFunc g args).run Tryz.prog w = .ok (.enter g args) w)
    (n : Nm) (os : List Nm) (A : Option Addr) (m c : Nat) (base : Nat) (hown : w.ownsRow base 9 1 (.slice A m c) m (os.map str)) (hbase : base ≤ w.heap.size) (hm : m ≤ 100)
    (hoS : ∀ g, (Value.slice A m c).ownBlock = some g → ¬ S g) (h : Sto w B S sb V st)
    (hbad : ∀ W, (st.may ((os ++ [n]).all isNm)).1 ≠ 0 → WithPre w B S sb V (st.may ((os ++ [n]).all isNm)).2 (fun k => (Value.slice A m c).ownBlock = some k) W → Q (st.may ((os ++ [n]).all isNm)).1 W)
    (hnone : ∀ W, (st.may ((os ++ [n]).all isNm)).1 = 0 → dFind (st.may ((os ++ [n]).all isNm)).2.now n = none → WithPre w B S sb V (st.may ((os ++ [n]).all isNm)).2 (fun k => (Value.slice A m c).ownBlock = some k) W → Q 4 W)
    (hdoes : ∀ W k, (st.may ((os ++ [n]).all isNm)).1 = 0 → dFind (st.may ((os ++ [n]).all isNm)).2.now n = some k → WithPre w B S sb V (st.may ((os ++ [n]).all isNm)).2 (fun k => (Value.slice A m c).ownBlock = some k) W →
      Calls Tryz.prog g (#[ptr (V.fa k)] ++ lb) W (IntPost Q)) :
    Calls Tryz.prog 135 #[ptr sb, .func (.func g) #[] lb, str n, .slice A m c] w (IntPost Q) := by
  obtain ⟨i0, hi, hz0, hz1, hz2⟩ := info_parts info_str
  have HI := hide hi
  have HZ0 := hide hz0
  have HZ1 := hide hz1
  have HZ2 := hide hz2
  have HBAD := hide hbad
  have HNONE := hide hnone
  have HDOES := hide hdoes
  have H := hide h
  have hsb := (h.lt sb h.ssb).2
  have HOS := hide hoS
  clear hi hz0 hz1 hz2 hbad hnone hdoes h hoS
  go_enter Tryz.func135, Tryz.ntmps135
  go_wp2_with (refine wpList_append_any _ rfl _ _ 69 rfl base 9 i0 (.string ⟨#[]⟩) 1 16 Tryz.underlying69 (unhide HI) (unhide HZ0) (unhide HZ1) (unhide HZ2) rfl (by decide) (.slice A m c) m (os.map str) rfl (hown.alloc _) (w.heap.size + 1) (some ⟨w.heap.size, 0, none⟩) 1 1 [str n] rfl (Reads.new w [str n] 9 _ (by omega)) (by intro u hu; simp only [List.mem_singleton] at hu; subst hu; rfl) (by unfold maxLen; omega) (by omega) (by simp; omega) ?_; intro v1 w1 hrow1 hg1 hv1; obtain ⟨g1, cap1, rfl⟩ := own_succ hrow1)
  have hA := H.out.alloc (.cells #[str n] 9)
  have hkA : Kept (fun _ => False) w (w.alloc (.cells #[str n] 9)) := Kept.of_below ((Below.refl _ _).alloc (Nat.le_refl _) _)
  have hk1 : Kept (fun k => (Value.slice A m c).ownBlock = some k) w w1 := (hkA.mono (fun _ _ h => h.elim)).trans (Kept.of_grown hg1)
  have h1 := H.out.keepS hk1 HOS.out
  have hs1 : Strs w1 (some ⟨g1, 0, none⟩) (m + 1) (os ++ [n]) := strs_of_own (base := base) (c := cap1) (by rw [List.map_append]; exact hrow1)
  have HK1 := hide hk1
  have HM := hide (store_meet w1 B S sb V st (some ⟨g1, 0, none⟩) (m + 1) cap1 (os ++ [n]) (by omega) hs1 h1)
  clear hA hkA hk1 h1 hs1 hg1 hv1 hrow1 hown
  refine (unhide HM).mono ?_
  rintro e w2 ⟨rfl, hk2, A2, n2, c2, h2⟩
  have hpre : Hid (WithPre w B S sb V (st.may ((os ++ [n]).all isNm)).2 (fun k => (Value.slice A m c).ownBlock = some k) w2) :=
    ⟨(HK1.out.mono (fun k _ e => .inr e)).trans (hk2.mono (fun k _ e => .inl e)), A2, n2, c2, h2⟩
  have hnm : (st.may ((os ++ [n]).all isNm)).1 = 0 → n.length ≤ maxLen := fun h => by
    have : (os ++ [n]).all isNm = true := by
      cases hx : (os ++ [n]).all isNm
      · rw [hx, may_bad] at h; cases h
      · rfl
    have h2 := isNm_len (List.all_eq_true.1 this n (by simp))
    unfold maxLen; omega
  have hcell1 := h2.blk.cell 1
  have HD := hide h2.now
  have HNM := hide hnm
  clear h2 hk2 HM hnm
  generalize hr : st.may ((os ++ [n]).all isNm) = r at HBAD HNONE HDOES hpre HD HNM hcell1
  have HR := hide hr
  clear hr
  obtain ⟨z, st1⟩ := r
  simp only at HBAD HNONE HDOES hpre HD HNM hcell1
  by_cases hz : z = 0
  · subst hz
    rcases hf : dFind st1.now n with _ | k
    · obtain ⟨v0, hlook⟩ := HD.out.look_none (HNM.out rfl) hf
      have HQ := hide (HNONE.out w2 rfl hf hpre.out)
      clear hf
      go_wp2
      go_ret
      exact ⟨4, rfl, HQ.out⟩
    · have hlook := HD.out.look_some (HNM.out rfl) hf
      have HQ := hide (HDOES.out w2 k rfl hf hpre.out)
      clear hf
      go_wp2_with fail
      refine (unhide HQ).mono ?_
      rintro e w3 ⟨z3, rfl, hq⟩
      have HQ3 := hide hq
      clear hq
      go_wp2
      go_ret
      exact ⟨z3, rfl, HQ3.out⟩
  · have HQ := hide (HBAD.out w2 hz hpre.out)
    have hne : (z != 0) = true := by simpa using hz
    clear hz
    go_wp2
    go_ret
    exact ⟨z, rfl, HQ.out⟩
end Go.Proofs.YtgjmfncebbfniaaGreatDoor
