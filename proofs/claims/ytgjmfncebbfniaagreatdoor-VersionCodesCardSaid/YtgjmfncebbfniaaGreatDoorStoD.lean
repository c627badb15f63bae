/- Package store: change. -/
import Derived.Test.YtgjmfncebbfniaaGreatDoorStoB
namespace Go.Proofs.YtgjmfncebbfniaaGreatDoor
set_option maxRecDepth 100000
open Go Go.RowKit Go.Maps

theorem info_dfun : (Tryz.prog.info? 111).map (fun i => (i.zero, i.size, i.bytes)) = some (some .nilFunc, 1, 8) := by kernel_rfl
theorem info_str : (Tryz.prog.info? 9).map (fun i => (i.zero, i.size, i.bytes)) = some (some (.string ⟨#[]⟩), 1, 16) := by kernel_rfl
theorem own_succ {W : World} {base : Nat} {e : TypeId} {size : Nat} {v : Value} {k : Nat} {xs : List Value} (h : W.ownsRow base e size v (k + 1) xs) : ∃ g cap, v = .slice (some ⟨g, 0, none⟩) (k + 1) cap := by
  obtain ⟨g, cap, e, _⟩ := h.form (by omega)
  exact ⟨g, cap, e⟩
/-- The blocks S, and what is new. -/
def Plus (S : Nat → Prop) (w W : World) : Nat → Prop := fun k => S k ∨ (w.heap.size ≤ k ∧ k < W.heap.size)
section
variable {w W w1 : World} {B sb b n c : Nat} {S S' T : Nat → Prop} {V : StoV} {st : StoD}
theorem plus_in {k : Nat} (h : S k) : Plus S w W k := .inl h
theorem Sto.plus (h : Sto W B S sb V st) (hB : B ≤ w.heap.size) : Sto W B (Plus S w W) sb V st :=
  h.more (fun _ h => .inl h) (fun k hk => by
    rcases hk with hk | hk
    · exact h.lt k hk
    · omega)
/-- A change is kept. -/
theorem Sto.push_kept (h : Sto w B S sb V st) (hB : B ≤ w.heap.size) {vs : List Value} {kv' v : Value} {ch : Chg} (hc : ∀ (i : Nat) (c : Chg), st.kept[i]? = some c → ∃ v, vs[i]? = some v ∧ ChgAt w S V.fa v c) (hrow : w.ownsRow B 111 1 V.kv st.kept.length vs)
    (hrow' : w1.ownsRow B 111 1 kv' (st.kept.length + 1) (vs ++ [v])) (hg : w.grownBy w1 V.kv.ownBlock) (hv : kv'.ownBlock = V.kv.ownBlock ∨ kv'.ownBlock = some w.heap.size) (hch : ChgAt w S V.fa v ch) :
    Sto (w1.setCell ⟨sb, 3, none⟩ kv') B (Plus S w w1) sb { V with kv := kv' } { st with kept := st.kept ++ [ch] } := by
  have hk1 := Kept.of_grown hg
  have htg : ∀ k, V.kv.ownBlock = some k → tag w k = tFun := fun k hk => own_tag hrow hk
  have hoff : ∀ ts : List (Option TypeId), tFun ∉ ts → Off w S (fun k => V.kv.ownBlock = some k) ts := fun ts ht => Off.same htg ht
  have hsb : ¬ V.kv.ownBlock = some sb := fun e => by have := htg sb e; rw [h.blk.tag] at this; exact absurd this (by decide)
  have hnm : ∀ b', tag w b' = none → ¬ V.kv.ownBlock = some b' := fun b' e e' => by rw [htg b' e'] at e; cases e
  have hblk1 := h.blk.kept hk1 hsb
  have hlen : vs.length = st.kept.length := by have := hrow.1; omega
  have hkept1 : KeptIs w1 B (Plus S w w1) V.fa kv' (st.kept ++ [ch]) := by
    refine ⟨vs ++ [v], by simpa using hrow', fun g hg' => ?_, fun i c hi => ?_⟩
    · have hlt := ownBlock_lt hrow' g hg'
      obtain ⟨vs0, _, hS, _⟩ := h.kept
      rcases hv with e | e
      · exact .inl (hS g (by rw [← e]; exact hg'))
      · rw [hg'] at e; injection e with e; exact .inr ⟨by omega, hlt⟩
    · by_cases hlt : i < st.kept.length
      · rw [List.getElem?_append_left hlt] at hi
        obtain ⟨v0, e, hc0⟩ := hc i c hi
        exact ⟨v0, by rw [List.getElem?_append_left (by omega)]; exact e, (hc0.keep hk1 (hoff _ (by decide))).mono (fun _ h => .inl h)⟩
      · rw [List.getElem?_append_right (by omega)] at hi
        have h0 : i - st.kept.length = 0 := by
          rcases Nat.eq_zero_or_pos (i - st.kept.length) with e | e
          · exact e
          · rw [List.getElem?_eq_none (by simp; omega)] at hi; cases hi
        rw [h0] at hi
        simp only [List.getElem?_cons_zero, Option.some.injEq] at hi
        subst hi
        exact ⟨v, by rw [List.getElem?_append_right (by omega), hlen, h0]; rfl, (hch.keep hk1 (hoff _ (by decide))).mono (fun _ h => .inl h)⟩
  have hk2 : Kept (fun k => k = sb) w1 (w1.setCell ⟨sb, 3, none⟩ kv') := Kept.one w1 sb 3 kv'
  have hoff2 : ∀ ts : List (Option TypeId), tSto ∉ ts → Off w1 (Plus S w w1) (fun k => k = sb) ts := fun ts ht => Off.one hblk1.tag ht
  have hnow1 := h.now.keep hk1 (hnm _ h.now.tag)
  have hdisk1 := h.disk.keep hk1 (hnm _ h.disk.tag)
  have hne : ∀ b', tag w1 b' = none → ¬ b' = sb := fun b' e e' => by subst e'; rw [hblk1.tag] at e; cases e
  exact ⟨hblk1.set_ 3 _, hnow1.keep hk2 (hne _ hnow1.tag), hdisk1.keep hk2 (hne _ hdisk1.tag), hkept1.keep hk2 (hoff2 _ (by decide)), ((h.files.keep hk1 (hoff _ (by decide))).mono (fun _ h => .inl h)).keep hk2 (hoff2 _ (by decide)),
    ((h.plan.keep hk1 (hoff _ (by decide))).mono (fun _ h => .inl h)).keep hk2 (hoff2 _ (by decide)), h.apart, h.ne, .inl h.ssb, .inl h.snb, .inl h.sdb,
    fun k hS => by
      have hsz : w.heap.size ≤ w1.heap.size := hg.size
      have hs2 : (w1.setCell ⟨sb, 3, none⟩ kv').heap.size = w1.heap.size := by simp [World.setCell]
      rw [hs2]
      rcases hS with hS | hS
      · exact ⟨(h.lt k hS).1, by have := (h.lt k hS).2; omega⟩
      · omega⟩
end
/-- What an operation of a store leaves: what it answers, the store, a frame. -/
def OpPost (w : World) (B : Nat) (S : Nat → Prop) (sb : Nat) (v : Value) (st : StoD) (e : Ending) (W : World) : Prop :=
  e = .returned v ∧ Kept S w W ∧ ∃ S' V, Sto W B S' sb V st ∧ (∀ k, S k → S' k) ∧ ∀ k, S' k → Plus S w W k
theorem OpPost.mk {w W : World} {B sb : Nat} {S : Nat → Prop} {V : StoV} {st : StoD} {v : Value} (hk : Kept S w W) (h : Sto W B (Plus S w W) sb V st) : OpPost w B S sb v st (.returned v) W :=
  ⟨rfl, hk, _, V, h, fun _ h => .inl h, fun _ h => h⟩
theorem chg_one (w : World) (S : Nat → Prop) (fa : Nat → Nat) (v : Value) (c : Chg) (hc : ChgAt w S fa v c) : v.oneCell' = true := by
  cases c with
  | put n k => obtain ⟨p, q, rfl, _⟩ := hc; rfl
  | ren a b k => obtain ⟨p, q, r, rfl, _⟩ := hc; rfl
  | del n => obtain ⟨p, rfl, _⟩ := hc; rfl

set_option maxHeartbeats 1000000 in
theorem store_change (w : World) (B : Nat) (S : Nat → Prop) (sb : Nat) (V : StoV) (st : StoD) (c : Chg) (v : Value) (h : Sto w B S sb V st) (hB : B ≤ w.heap.size) (hc : ChgAt w S V.fa v c) (hn : chgLen c) (hl : st.now.length ≤ lim) (hkl : st.kept.length ≤ lim) :
    Calls Tryz.prog 131 #[ptr sb, v] w (OpPost w B S sb (.tuple #[]) (st.change c)) := by
  obtain ⟨g, lb, rfl, eg, hcall⟩ := chg_call w S V.fa V.nb st.now c v hc h.now hl hn
  have HC := hide hcall
  have hc1 := h.blk.cell 1
  have H := hide h
  have HCH := hide hc
  have HLIM := hide hkl
  clear h hcall hc hn hl hkl
  go_enter Tryz.func131, Tryz.ntmps131
  go_wp2_with fail
  refine (unhide HC).mono ?_
  rintro e w1 ⟨rfl, hd1, hk1⟩
  have h1 := H.out.put_now hd1 hk1
  have hch1 := HCH.out.keep hk1 (Off.one (S := S) H.out.now.tag (by decide))
  have HK1 := hide (hk1.mono (S' := S) (fun k _ e => by subst e; exact H.out.snb))
  have hB1 : B ≤ w1.heap.size := Nat.le_trans hB hk1.size
  have hc3 := h1.blk.cell 3
  have hf3 := h1.blk.frozen 3
  obtain ⟨vs, hrow, hS, hcs⟩ := h1.kept
  have HS := hide hS
  have HCS := hide hcs
  have H1 := hide h1
  have HCH1 := hide hch1
  have hlen := HLIM.out
  have hlen2 : st.kept.length + 1 ≤ maxLen := by unfold maxLen; unfold lim at hlen; omega
  have hlen3 : (st.kept.length + 1) * 8 ≤ 140737488355328 := by unfold lim at hlen; omega
  have HL2 := hide hlen2
  have HL3 := hide hlen3
  obtain ⟨i0, hi, hz0, hz1, hz2⟩ := info_parts info_dfun
  have HI := hide hi
  have HZ0 := hide hz0
  have HZ1 := hide hz1
  have HZ2 := hide hz2
  have hsb1 := (h1.lt sb h1.ssb).2
  have hsne : Hid (V.kv.ownBlock ≠ some sb) := fun e => by have := own_tag hrow e; rw [h1.blk.tag] at this; exact absurd this (by decide)
  clear h1 hch1 hS hcs hlen hlen2 hlen3 hi hz0 hz1 hz2 hd1 hk1 hc1 HC
  go_wp2_with (refine wpList_append_any _ rfl _ _ 93 rfl B 111 i0 .nilFunc 1 8 Tryz.underlying93 (unhide HI) (unhide HZ0) (unhide HZ1) (unhide HZ2) rfl (by decide) V.kv st.kept.length vs rfl (hrow.alloc _) (w1.heap.size + 1) (some ⟨w1.heap.size, 0, none⟩) 1 1 [.func (.func g) #[] lb] rfl (Reads.new w1 [.func (.func g) #[] lb] 111 _ (by omega)) (by intro u hu; simp only [List.mem_singleton] at hu; subst hu; rfl) (unhide HL2) (unhide HL3) (by simp; omega) ?_; intro kv' w2 hrow2 hg2 hv2; obtain ⟨g2, cap2, rfl⟩ := own_succ hrow2; have hbk2 := (H1.out.blk.alloc (.cells #[.func (.func g) #[] lb] 111)).grown hg2 (fun e => hsne.out e.symm); have hsb2 := hbk2.cell 3; have hfb2 := hbk2.frozen 3; have HV2 := hide hv2; clear hv2 hbk2)
  go_end0
  have hA := H1.out.alloc (.cells #[.func (.func g) #[] lb] 111)
  have hkA : Kept (fun _ => False) w1 (w1.alloc (.cells #[.func (.func g) #[] lb] 111)) := Kept.of_below ((Below.refl _ _).alloc (Nat.le_refl _) _)
  have hfin := hA.push_kept (by simp; omega) (v := .func (.func g) #[] lb) (ch := c) (fun i c' hi => by
      obtain ⟨v0, e0, hc0⟩ := HCS.out i c' hi
      exact ⟨v0, e0, hc0.keep hkA Off.never⟩) (hrow.alloc _) hrow2 hg2 HV2.out (HCH1.out.keep hkA Off.never)
  have hsz := hg2.size
  have hsz1 := HK1.out.size
  simp only [World.size_alloc] at hsz
  refine ⟨rfl, ?_, _, _, hfin, fun k hk => .inl hk, fun k hk => ?_⟩
  · have k2 := ((HK1.out.alloc (.cells #[.func (.func g) #[] lb] 111)).trans ((Kept.of_grown hg2).mono (fun k _ e => HS.out k e)))
    exact k2.store (.inl H.out.ssb) _
  · rcases hk with hk | hk
    · exact .inl hk
    · refine .inr ⟨?_, ?_⟩
      · have := hk.1; simp at this; omega
      · simpa [World.setCell] using hk.2
end Go.Proofs.YtgjmfncebbfniaaGreatDoor
