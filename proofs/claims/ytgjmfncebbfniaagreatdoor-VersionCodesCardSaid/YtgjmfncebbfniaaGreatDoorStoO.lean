/- Package store: Rename, SyncDir. -/
import Derived.Test.YtgjmfncebbfniaaGreatDoorStoL
namespace Go.Proofs.YtgjmfncebbfniaaGreatDoor
set_option maxRecDepth 100000
open Go Go.RowKit Go.Maps

theorem rename_bad {st : StoD} {a b : Nm} (h : (st.may (isNm a && isNm b)).1 ≠ 0) : st.rename a b = st.may (isNm a && isNm b) := by simp [StoD.rename, h]
theorem rename_none {st : StoD} {a b : Nm} (h : (st.may (isNm a && isNm b)).1 = 0) (hf : dFind (st.may (isNm a && isNm b)).2.now a = none) : st.rename a b = (4, (st.may (isNm a && isNm b)).2) := by simp [StoD.rename, h, hf]
theorem rename_same {st : StoD} {a b : Nm} {k : Nat} (h : (st.may (isNm a && isNm b)).1 = 0) (hf : dFind (st.may (isNm a && isNm b)).2.now a = some k) (e : a = b) : st.rename a b = (0, (st.may (isNm a && isNm b)).2) := by
  unfold StoD.rename; simp only; rw [if_neg (by simp [h]), hf]; simp [e]
theorem rename_some {st : StoD} {a b : Nm} {k : Nat} (h : (st.may (isNm a && isNm b)).1 = 0) (hf : dFind (st.may (isNm a && isNm b)).2.now a = some k) (e : a ≠ b) : st.rename a b = (0, (st.may (isNm a && isNm b)).2.change (.ren a b k)) := by
  unfold StoD.rename; simp only; rw [if_neg (by simp [h]), hf]; simp [e]
theorem all_two (a b : Nm) : ([b] ++ [a]).all isNm = (isNm a && isNm b) := by simp [Bool.and_comm]

set_option maxHeartbeats 1000000 in
theorem rename_1 (w W : World) (B : Nat) (S : Nat → Prop) (sb : Nat) (V : StoV) (st : StoD) (a b : Nm) (k p q r : Nat) (hs : Sto W B S sb V st) (hB : B ≤ w.heap.size) (hk : Kept S w W) (hq : Blk W q 37 #[ptr sb]) (hp : Blk W p 9 #[str a]) (hr : Blk W r 9 #[str b]) (hpw : w.heap.size ≤ p) (hrw : w.heap.size ≤ r)
    (ha : a.length ≤ 64) (hb : b.length ≤ 64) (hl : st.now.length ≤ lim) (hkl : st.kept.length ≤ lim) :
    Calls Tryz.prog 170 #[ptr (V.fa k), ptr p, ptr r, ptr q] W (OpPost w B S sb (.int .i64 0) (if a = b then st else st.change (.ren a b k))) := by
  have hcq := hq.cell 0
  have hcp := hp.cell 0
  have hcr := hr.cell 0
  have hBW : B ≤ W.heap.size := Nat.le_trans hB hk.size
  obtain ⟨W', hW'⟩ : ∃ W', W' = W.alloc (.cells #[ptr (V.fa k)] 116) := ⟨_, rfl⟩
  have hbel : Below W.heap.size W W' := by rw [hW']; exact (Below.refl _ _).alloc (Nat.le_refl _) _
  have hsz : W'.heap.size = W.heap.size + 1 := by rw [hW']; simp
  have hbl : Blk W' W.heap.size 116 #[ptr (V.fa k)] := by rw [hW']; exact Blk.new W _ _
  have hs' := hs.call hbel
  have hkW : Kept S w W' := hk.call hbel
  have hBw := hk.size
  have HC := hide (store_change W' B (Plus S w W') sb V st (.ren a b k) (.func (.func 171) #[] #[ptr p, ptr W.heap.size, ptr r]) (hs'.plus hB) (by omega)
    ⟨p, W.heap.size, r, rfl, hp.below hbel hp.lt, hbl, hr.below hbel hr.lt, .inr ⟨hpw, by have := hp.lt; omega⟩, .inr ⟨hBw, by omega⟩, .inr ⟨hrw, by have := hr.lt; omega⟩⟩ ⟨ha, hb⟩ hl hkl)
  have HK := hide hkW
  have HS := hide hs'
  rw [hW'] at HC HK HS
  have hpl := hp.lt
  have hql := hq.lt
  have hrl := hr.lt
  clear hs hk hq hp hr hbel hsz hbl hs' hkW hW'
  by_cases e : a = b
  · subst e
    rw [if_pos rfl]
    go_enter Tryz.func170, Tryz.ntmps170
    go_wp2
    go_ret
    exact ⟨rfl, HK.out, S, _, HS.out, fun _ h => h, fun _ h => .inl h⟩
  · rw [if_neg e]
    have hne : (a == b) = false := by simpa using e
    clear e
    go_enter Tryz.func170, Tryz.ntmps170
    go_wp2_with (go_at_call 131; refine (unhide HC).mono ?_; intro e w1 hop; have hop2 := hop.after HK.out; obtain ⟨rfl, hop3⟩ := hop2; have HOP := hide hop3; clear hop hop3)
    go_ret
    exact ⟨rfl, HOP.out⟩
set_option maxHeartbeats 1000000 in
theorem store_rename (w : World) (B : Nat) (S : Nat → Prop) (sb : Nat) (V : StoV) (st : StoD) (a b : Nm) (h : Sto w B S sb V st) (hB : B ≤ w.heap.size) (hl : st.now.length ≤ lim) (hkl : st.kept.length ≤ lim) :
    Calls Tryz.prog 115 #[ptr sb, str a, str b] w (OpPost w B S sb (.int .i64 (st.rename a b).1) (st.rename a b).2) := by
  obtain ⟨w3, hw3⟩ : ∃ w3, w3 = ((w.alloc (.cells #[ptr sb] 37)).alloc (.cells #[str a] 9)).alloc (.cells #[str b] 9) := ⟨_, rfl⟩
  have hs3 : w3.heap.size = w.heap.size + 3 := by rw [hw3]; simp
  obtain ⟨w', hw'⟩ : ∃ w', w' = w3.alloc (.cells #[str b] 9) := ⟨_, rfl⟩
  have hsz : w'.heap.size = w.heap.size + 4 := by rw [hw']; simp [hs3]
  have hbel : Below w.heap.size w w' := by rw [hw', hw3]; exact ((((Below.refl _ _).alloc (Nat.le_refl _) _).alloc (by simp) _).alloc (by simp; omega) _).alloc (by simp; omega) _
  have hs' := h.call hbel
  have hq : Blk w' w.heap.size 37 #[ptr sb] := by rw [hw', hw3]; exact (((Blk.new w _ _).alloc _).alloc _).alloc _
  have hp : Blk w' (w.heap.size + 1) 9 #[str a] := by
    have := Blk.new (w.alloc (.cells #[ptr sb] 37)) 9 #[str a]
    rw [hw', hw3]
    have h2 := (this.alloc (.cells #[str b] 9)).alloc (.cells #[str b] 9)
    simpa using h2
  have hr : Blk w' (w.heap.size + 2) 9 #[str b] := by
    have := Blk.new ((w.alloc (.cells #[ptr sb] 37)).alloc (.cells #[str a] 9)) 9 #[str b]
    rw [hw', hw3]
    have h2 := this.alloc (.cells #[str b] 9)
    simpa using h2
  have hown : w'.ownsRow (w.heap.size + 3) 9 1 (.slice (some ⟨w.heap.size + 3, 0, none⟩) 1 1) 1 ([b].map str) := by
    have := World.ownsRow_lit (base := w3.heap.size) (e := 9) (size := 1) w3 #[str b] 1 (Nat.le_refl _) (by unfold maxLen; omega) (by simp)
    rw [hs3] at this
    rw [hw']
    simpa using this
  have hkS : Kept S w w' := Kept.of_below hbel
  have hob : ∀ g, (Value.slice (some ⟨w.heap.size + 3, 0, none⟩) 1 1).ownBlock = some g → g = w.heap.size + 3 := fun g hg => by simpa [Value.ownBlock, eq_comm] using hg
  have hk2 : ∀ {W : World}, Kept (fun k => k = sb ∨ (Value.slice (some ⟨w.heap.size + 3, 0, none⟩) 1 1).ownBlock = some k) w' W → Kept S w W := fun {W} hk => by
    refine ⟨hk.os.trans hkS.os, hk.tape.trans hkS.tape, hk.output.trans hkS.output, Nat.le_trans hkS.size hk.size, fun j hj hn => (hk.block j (by omega) (fun e => ?_)).trans (hkS.block j hj hn)⟩
    rcases e with e | e
    · subst e; exact hn h.ssb
    · have := hob j e; omega
  have HW := hide (store_with (fun z W => OpPost w B S sb (.int .i64 (st.rename a b).1) (st.rename a b).2 (.returned (.int .i64 z)) W) w' B S sb V st 170 #[ptr (w.heap.size + 1), ptr (w.heap.size + 2), ptr w.heap.size] (enters_of Tryz.func170 (by kernel_rfl) rfl)
    a [b] (some ⟨w.heap.size + 3, 0, none⟩) 1 1 (w.heap.size + 3) hown (by omega) (by omega) (fun g hg hS => by have := hob g hg; have := (h.lt g hS).2; omega) hs'
    (fun W hz hp => by
      rw [all_two] at hz hp
      show OpPost _ _ _ _ _ _ _ _
      rw [all_two, rename_bad hz]
      obtain ⟨hk, A', n', c', hs⟩ := hp
      exact ⟨rfl, hk2 hk, S, _, hs, fun _ h => h, fun _ h => .inl h⟩)
    (fun W hz hf hp => by
      rw [all_two] at hz hp hf
      show OpPost _ _ _ _ _ _ _ _
      rw [rename_none hz hf]
      obtain ⟨hk, A', n', c', hs⟩ := hp
      exact ⟨rfl, hk2 hk, S, _, hs, fun _ h => h, fun _ h => .inl h⟩)
    (fun W k hz hf hpre => by
      rw [all_two] at hz hpre hf
      obtain ⟨hk, A', n', c', hs⟩ := hpre
      have hab := may_zero hz
      simp only [Bool.and_eq_true] at hab
      have hne : ∀ g, (∀ e : g = sb, False) → g ≠ w.heap.size + 3 → ¬ (g = sb ∨ (Value.slice (some ⟨w.heap.size + 3, 0, none⟩) 1 1).ownBlock = some g) := fun g e1 e2 e => by
        rcases e with e | e
        · exact e1 e
        · exact e2 (hob g e)
      have hsbl := (h.lt sb h.ssb).2
      refine (rename_1 w W B S sb _ (st.may (isNm a && isNm b)).2 a b k (w.heap.size + 1) w.heap.size (w.heap.size + 2) hs hB (hk2 hk) (hq.kept hk (hne _ (fun e => by omega) (by omega))) (hp.kept hk (hne _ (fun e => by omega) (by omega))) (hr.kept hk (hne _ (fun e => by omega) (by omega))) (by omega) (by omega)
        (isNm_len hab.1) (isNm_len hab.2) (by rw [may_now]; exact hl) (by rw [may_kept]; exact hkl)).mono ?_
      rintro e W' ⟨rfl, rest⟩
      by_cases hab2 : a = b
      · rw [if_pos hab2] at rest
        rw [rename_same hz hf hab2]
        exact ⟨0, rfl, rfl, rest⟩
      · rw [if_neg hab2] at rest
        rw [rename_some hz hf hab2]
        exact ⟨0, rfl, rfl, rest⟩))
  have hcp : w3.cell? ⟨w.heap.size + 1, 0, none⟩ = some (str a) := by
    have := hp.cell 0
    rw [hw', World.cell?_alloc_lt _ _ _ (by show w.heap.size + 1 < w3.heap.size; omega)] at this
    exact this
  have hcr : w3.cell? ⟨w.heap.size + 2, 0, none⟩ = some (str b) := by
    have := hr.cell 0
    rw [hw', World.cell?_alloc_lt _ _ _ (by show w.heap.size + 2 < w3.heap.size; omega)] at this
    exact this
  have hcq : w3.cell? ⟨w.heap.size, 0, none⟩ = some (ptr sb) := by
    have := hq.cell 0
    rw [hw', World.cell?_alloc_lt _ _ _ (by show w.heap.size < w3.heap.size; omega)] at this
    exact this
  rw [hw', hw3] at HW
  rw [hw3] at hcp hcr hcq
  clear hkS hp hq hr hs' hbel hown hk2 hw' hw3 hs3 hsz hob
  go_enter Tryz.func115, Tryz.ntmps115
  go_wp2_with (go_at_call 135; refine (unhide HW).mono ?_; rintro e w1 ⟨z, rfl, hq⟩; have HQ := hide hq; clear hq)
  go_ret
  exact HQ.out

theorem clone_call (fa : Nat → Nat) (b : Nat) (d : Dir) (w : World) (h : DirIs w fa b d) :
    Calls Tryz.prog 64 #[.map (some b)] w fun e w' => e = .returned (.map (some w.heap.size)) ∧ DirIs w' fa w.heap.size d ∧ Below w.heap.size w w' := by
  refine (AnyW.maps_Clone_owns Tryz.cloneA 9 ptrR b d.length (dirD fa d) w h).mono ?_
  rintro e w' ⟨rfl, h1, _, hb⟩
  exact ⟨rfl, h1, hb⟩
theorem syncDir_bad {st : StoD} (h : (st.may true).1 ≠ 0) : st.syncDir = st.may true := by simp [StoD.syncDir, h]
theorem syncDir_ok {st : StoD} (h : (st.may true).1 = 0) : st.syncDir = (0, { (st.may true).2 with disk := (st.may true).2.now, kept := [] }) := by simp [StoD.syncDir, h]
theorem Sto.sync_dir {w W : World} {B sb b : Nat} {S : Nat → Prop} {V : StoV} {st : StoD} (h : Sto w B S sb V st) (hB : B ≤ w.heap.size) (hd : DirIs W V.fa b st.now) (hbel : Below w.heap.size w W) (hb : w.heap.size ≤ b) :
    Sto ((W.setCell ⟨sb, 2, none⟩ (.map (some b))).setCell ⟨sb, 3, none⟩ (.slice none 0 0)) B (Plus S w ((W.setCell ⟨sb, 2, none⟩ (.map (some b))).setCell ⟨sb, 3, none⟩ (.slice none 0 0))) sb { V with db := b, kv := .slice none 0 0 } { st with disk := st.now, kept := [] } := by
  have h1 := h.call hbel
  have hk : Kept (fun k => k = sb) W ((W.setCell ⟨sb, 2, none⟩ (.map (some b))).setCell ⟨sb, 3, none⟩ (.slice none 0 0)) := (Kept.one _ _ _ _).trans (Kept.one _ _ _ _)
  have hsz : ((W.setCell ⟨sb, 2, none⟩ (.map (some b))).setCell ⟨sb, 3, none⟩ (.slice none 0 0)).heap.size = W.heap.size := by simp [World.setCell]
  have hoff : ∀ ts : List (Option TypeId), tSto ∉ ts → Off W S (fun k => k = sb) ts := fun ts ht => Off.one h1.blk.tag ht
  have hne : ∀ b', tag W b' = none → ¬ b' = sb := fun b' e e' => by subst e'; rw [h1.blk.tag] at e; cases e
  have hlt := hd.lt
  have hnb := (h.lt _ h.snb).2
  exact ⟨(h1.blk.set_ 2 _).set_ 3 _, h1.now.keep hk (hne _ h1.now.tag), hd.keep hk (hne _ hd.tag), ⟨[], World.ownsRow_nil _ _ _ _, fun g hg => by simp [Value.ownBlock] at hg, fun i c hi => by simp at hi⟩,
    (h1.files.keep hk (hoff _ (by decide))).mono (fun _ h => .inl h), (h1.plan.keep hk (hoff _ (by decide))).mono (fun _ h => .inl h), h.apart, by show V.nb ≠ b; omega, .inl h.ssb, .inl h.snb, .inr ⟨hb, by show b < _; omega⟩,
    fun k hk => by
      rcases hk with hk | hk
      · have := h1.lt k hk; omega
      · omega⟩
set_option maxHeartbeats 1000000 in
theorem store_syncDir (w : World) (B : Nat) (S : Nat → Prop) (sb : Nat) (V : StoV) (st : StoD) (h : Sto w B S sb V st) (hB : B ≤ w.heap.size) :
    Calls Tryz.prog 73 #[ptr sb] w (OpPost w B S sb (.int .i64 st.syncDir.1) st.syncDir.2) := by
  have HM := hide (store_meet w B S sb V st none 0 0 [] (by omega) (Strs.nil w) h)
  have hnil : ([] : List Nm).all isNm = true := rfl
  rw [hnil] at HM
  have H := hide h
  clear h hnil
  by_cases hz : (st.may true).1 = 0
  · have hzf : ((st.may true).1 != 0) = false := by simp [hz]
    have HZ := hide hz
    clear hz
    go_enter Tryz.func73, Tryz.ntmps73
    go_wp2_with fail
    refine (unhide HM).mono ?_
    rintro e w2 ⟨rfl, hk2, A2, n2, c2, h2⟩
    have hc1 := h2.blk.cell 1
    have HK2 := hide hk2
    have H2 := hide h2
    have hsb := (h2.lt sb h2.ssb).2
    have HC := hide (clone_call V.fa V.nb (st.may true).2.now w2 h2.now)
    clear HM hk2 h2
    go_wp2_with fail
    refine (unhide HC).mono ?_
    rintro e w3 ⟨rfl, hd3, hb3⟩
    have hbk := H2.out.blk.below hb3 hsb
    have hc2 := hbk.cell 2
    have hc3 := hbk.cell 3
    have hf2 := hbk.frozen 2
    have hf3 := hbk.frozen 3
    have HD3 := hide hd3
    have HB3 := hide hb3
    clear HC hd3 hb3 hbk
    go_wp2
    go_ret
    rw [syncDir_ok HZ.out]
    have hB2 : B ≤ w2.heap.size := Nat.le_trans hB HK2.out.size
    have hfin := H2.out.sync_dir hB2 HD3.out HB3.out (Nat.le_refl _)
    have hkS : Kept S w w2 := HK2.out.mono (fun k _ e => by subst e; exact H.out.ssb)
    refine ⟨rfl, ((hkS.call HB3.out).store (.inl H.out.ssb) _).store (.inl H.out.ssb) _, _, _, hfin, fun k hk => .inl hk, fun k hk => ?_⟩
    rcases hk with hk | hk
    · exact .inl hk
    · exact .inr ⟨Nat.le_trans HK2.out.size hk.1, hk.2⟩
  · have hzf : ((st.may true).1 != 0) = true := by simpa using hz
    have HZ := hide hz
    clear hz
    go_enter Tryz.func73, Tryz.ntmps73
    go_wp2_with fail
    refine (unhide HM).mono ?_
    rintro e w2 ⟨rfl, hk2, A2, n2, c2, h2⟩
    have HK2 := hide hk2
    have H2 := hide h2
    clear HM hk2 h2
    go_wp2
    go_ret
    rw [syncDir_bad HZ.out]
    exact ⟨rfl, HK2.out.mono (fun k _ e => by subst e; exact H.out.ssb), S, _, H2.out, fun _ h => h, fun _ h => .inl h⟩
end Go.Proofs.YtgjmfncebbfniaaGreatDoor
