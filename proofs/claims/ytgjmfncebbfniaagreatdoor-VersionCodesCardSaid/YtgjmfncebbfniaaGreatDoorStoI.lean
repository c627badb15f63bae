/- Package store: Append. -/
/- Package store: Names, Read, Plan, Off, New. -/
import Derived.Test.YtgjmfncebbfniaaGreatDoorStoF
import Derived.Deep.RegionHeld3
import Derived.IntWalk
import Derived.Test.YtgjmfncebbfniaaGreatDoorShelfB
import Derived.Test.YtgjmfncebbfniaaGreatDoorCode
import Derived.Shelf.Abstract
namespace Go.Proofs.YtgjmfncebbfniaaGreatDoor
set_option maxRecDepth 100000
open Go Go.RowKit Go.Maps

/-- What an append to a file leaves. -/
def App1 (W : World) (B : Nat) (S : Nat → Prop) (sb : Nat) (st : StoD) (k : Nat) (xs : List UInt8) (e : Ending) (W' : World) : Prop :=
  if st.room - (st.size : Int) < (xs.length : Int) then OpPost W B S sb (.int .i64 6) st e W'
  else OpPost W B S sb (.int .i64 0) { st with files := st.files.set k ⟨(st.file k).bytes ++ xs, (st.file k).sure⟩ } e W'
theorem app_close {W w1 w2 : World} {B sb k : Nat} {S : Nat → Prop} {V : StoV} {st : StoD} {xs : List UInt8} {v v2 : Value} (hs0 : Sto w1 B S sb V st) (hb : Below W.drew.heap.size W.drew w1) (hk : k < st.files.length) (hfile : st.file k = st.files[k]) (e1 : V.fv k = v)
    (hown2 : OwnB w2 B v2 (st.files[k].bytes ++ xs)) (hg2 : w1.drew.grownBy w2 v.ownBlock) (hat2 : v2.ownBlock = v.ownBlock ∨ v2.ownBlock = some w1.drew.heap.size) (hfb2 : Blk w2 (V.fa k) 118 #[V.fv k, .int .i64 st.files[k].sure]) :
    OpPost W B S sb (.int .i64 0) { st with files := st.files.set k ⟨(st.file k).bytes ++ xs, (st.file k).sure⟩ } (.returned (.int .i64 0)) (w2.setCell ⟨V.fa k, 0, none⟩ v2) := by
  subst e1
  have hs := hs0.drew
  have hkf : st.files[k]? = some st.files[k] := List.getElem?_eq_getElem hk
  have hsz := hg2.size
  have hsz1 : W.heap.size ≤ w1.heap.size := hb.size
  have hsz2 : (w2.setCell ⟨V.fa k, 0, none⟩ v2).heap.size = w2.heap.size := by simp [World.setCell]
  have hsz3 : w1.drew.heap.size = w1.heap.size := rfl
  have hown := hs.files.own k _ hkf
  have hne2 : v2.ownBlock ≠ some (V.fa k) := fun e => by
    have h1 := own_tag hown2 e
    rw [hfb2.tag] at h1
    exact absurd h1 (by decide)
  have hkp : Kept (fun j => j = V.fa k ∨ (V.fv k).ownBlock = some j) w1.drew (w2.setCell ⟨V.fa k, 0, none⟩ v2) := ((Kept.of_grown hg2).mono (fun _ _ e => .inr e)).store (.inl (.inl rfl)) _
  have hin : ∀ j, (j = V.fa k ∨ (V.fv k).ownBlock = some j) → S j := fun j e => by
    rcases e with e | e
    · subst e; exact hs.files.sa k hk
    · exact hs.files.sv k hk j e
  have hfin := hs.turn_file (S' := Plus S w1.drew (w2.setCell ⟨V.fa k, 0, none⟩ v2)) (f' := ⟨(st.file k).bytes ++ xs, (st.file k).sure⟩) hk (fun j e => e) hkp (by
      have h9 := hfb2.set_ 0 v2
      rw [hfile]
      exact h9) (by rw [hfile]; exact hown2.far hne2 _) (fun g hg => by
      rcases hat2 with e | e
      · left; rw [← e]; exact hg
      · right; rw [hg] at e; injection e with e; omega) (fun j h => .inl h) (fun g hg => by
      rcases hat2 with e | e
      · left; exact hs.files.sv k hk g (by rw [← e]; exact hg)
      · right
        have h1 := ownBlock_lt hown2 g hg
        rw [hg] at e; injection e with e
        omega) (fun j hj => by
      rcases hj with hj | hj
      · have := hs.lt j hj; exact ⟨this.1, by omega⟩
      · have := hs.lt sb hs.ssb; exact ⟨by omega, hj.2⟩)
  refine ⟨rfl, ((Kept.refl S W).drew.call hb).drew.trans ((hkp.mono (fun j _ e => hin j e))), _, _, hfin, fun j h => .inl h, fun j h => ?_⟩
  rcases h with h | h
  · exact .inl h
  · exact .inr ⟨by omega, h.2⟩
set_option maxHeartbeats 2000000 in
theorem append_1 (W : World) (B : Nat) (S : Nat → Prop) (sb : Nat) (V : StoV) (st : StoD) (k p q n c : Nat) (A : Option Addr) (xs : List UInt8) (hs : Sto W B S sb V st) (hB : B ≤ W.heap.size) (hok : st.NowOk) (hri : Rising st.now) (hsz : st.size ≤ lim) (hr0 : 0 ≤ st.room) (hr1 : st.room ≤ 16777216)
    (hk : k < st.files.length) (hfl : (st.file k).bytes.length ≤ lim) (hp : Blk W p 26 #[.slice A n c]) (hq : Blk W q 37 #[ptr sb]) (hrd : Reads W W.heap.size 1 A n (BY xs)) (hn : n ≤ lim) :
    Calls Tryz.prog 136 #[ptr (V.fa k), ptr p, ptr q] W (App1 W B S sb st k xs) := by
  have hlen := hrd.blen
  have hcp := hp.cell 0
  have hcq := hq.cell 0
  have hc0 := hs.blk.cell 0
  have hpl := hp.lt
  have hql := hq.lt
  have hsl := (hs.lt sb hs.ssb).2
  have HS := hide hs
  have HP := hide hp
  have HQ := hide hq
  have HRD := hide hrd
  have HOK := hide hok
  have HRI := hide hri
  have HSZ := hide hsz
  have HK := hide hk
  have HFL := hide hfl
  have hsz2 := lim_le hsz
  have hn2 := lim_le hn
  have HN := hide hn
  have HLEN := hide hlen
  clear hs hp hq hrd hok hri hsz hk hfl hn hlen
  have hwr : IntKind.i64.wrap (st.room - (st.size : Int)) = st.room - (st.size : Int) := IntWalk.i64_in _ (by omega)
  have hcp' : W.cell? ⟨p, 0, none⟩ = some (.slice A n c) := hcp
  have hcq' : W.cell? ⟨q, 0, none⟩ = some (ptr sb) := hcq
  have hc0' : W.cell? ⟨sb, 0, none⟩ = some (.int .i64 st.room) := hc0
  clear hcp hcq hc0
  have hkf := HK.out
  have hfile : st.file k = st.files[k] := by simp [StoD.file, List.getD, List.getElem?_eq_getElem hkf]
  by_cases hful : st.room - (st.size : Int) < (n : Int)
  all_goals
    go_enter Tryz.func136, Tryz.ntmps136
    go_wp2
    go_region_held3 (fun v => v.cell? ⟨p, 0, none⟩ = some (.slice A n c) ∧ v.cell? ⟨q, 0, none⟩ = some (ptr sb) ∧ v.cell? ⟨sb, 0, none⟩ = some (.int .i64 st.room)) (first | exact ⟨hcp1, hcq1, hc01⟩ | exact ⟨hcp', hcq', hc0'⟩) (first
      | (go_at_call 137; refine (store_size _ B S sb V st HS.out.drew HOK.out HRI.out HSZ.out).mono ?_; rintro e w1 ⟨rfl, hb1⟩; have hcp1 : w1.cell? ⟨p, 0, none⟩ = some (.slice A n c) := (HP.out.drew.below hb1 hpl).cell 0; have hcq1 : w1.cell? ⟨q, 0, none⟩ = some (ptr sb) := (HQ.out.drew.below hb1 hql).cell 0; have hs1 := HS.out.drew.call hb1; have hc01 : w1.cell? ⟨sb, 0, none⟩ = some (.int .i64 st.room) := hs1.blk.cell 0; have HS1 := hide hs1; have HB1 := hide hb1; clear hs1))
    all_goals go_wp2
  · have HF : Hid (st.room - (st.size : Int) < (xs.length : Int)) := by show _ < _; rw [← HLEN.out]; exact hful
    go_ret
    show App1 _ _ _ _ _ _ _ _ _
    unfold App1
    rw [if_pos HF.out]
    exact ⟨rfl, (Kept.refl S W).drew.call HB1.out, S, _, HS1.out, fun _ h => h, fun _ h => .inl h⟩
  · have HF : Hid (¬ st.room - (st.size : Int) < (xs.length : Int)) := by show ¬ _ < _; rw [← HLEN.out]; omega
    have hown := HS1.out.files.own k _ (List.getElem?_eq_getElem hkf)
    have hfb := HS1.out.files.blk k _ (List.getElem?_eq_getElem hkf)
    have HFB := hide hfb
    obtain ⟨A1, n1, c1, e1, hn1, hcc, hr1⟩ := hown.form2
    have hfc : w1.cell? ⟨V.fa k, 0, none⟩ = some (.slice A1 n1 c1) := by rw [← e1]; exact hfb.cell 0
    have hne : Hid ((Value.slice A1 n1 c1).ownBlock ≠ some (V.fa k)) := fun e => by
      rw [← e1] at e
      have h1 := own_tag hown e
      rw [hfb.tag] at h1
      exact absurd h1 (by decide)
    have E1 := hide e1
    rw [e1] at hown
    have hff : w1.frozen? ⟨V.fa k, 0, none⟩ = false := hfb.frozen 0
    have hrd1 := hide ((HRD.out.drew.lift (w' := w1) HB1.out))
    have hbound : st.files[k].bytes.length + xs.length ≤ 140737488355328 := by
      have h1 := HFL.out
      have h2 := HN.out
      rw [hfile] at h1
      rw [← HLEN.out]
      unfold lim at h1 h2
      omega
    have HBD := hide hbound
    have hB1 : B ≤ w1.heap.size := Nat.le_trans hB HB1.out.size
    clear hfb hbound hr1 hcc hwr hful hsz2 hn2 hn1 e1
    go_region_law (first
      | (refine step_app_bytes rfl _ _ rfl B (.slice A1 n1 c1) st.files[k].bytes xs rfl hown.drew _ A n c rfl (unhide hrd1) (unhide HBD) hB1 ?_; intro v2 w2 hown2 hg2 hat2; obtain ⟨A2, n2, c2, rfl, hn2, hc2, hr2⟩ := hown2.form2; have hfb2 := HFB.out.drew.grown hg2 (fun e => hne.out e.symm); have hfc2 := hfb2.cell 0; have hff2 := hfb2.frozen 0))
    all_goals
      go_wp2
      go_ret
      show App1 _ _ _ _ _ _ _ _ _
      unfold App1
      rw [if_neg (by have := HF.out; omega)]
      exact app_close HS1.out HB1.out HK.out hfile E1.out hown2 hg2 hat2 hfb2

theorem append_bad {st : StoD} {n : Nm} {b : List UInt8} (h : (st.may (isNm n)).1 ≠ 0) : st.append n b = st.may (isNm n) := by simp [StoD.append, h]
theorem append_none {st : StoD} {n : Nm} {b : List UInt8} (h : (st.may (isNm n)).1 = 0) (hf : dFind (st.may (isNm n)).2.now n = none) : st.append n b = (4, (st.may (isNm n)).2) := by simp [StoD.append, h, hf]
theorem append_some {st : StoD} {n : Nm} {b : List UInt8} {k : Nat} (h : (st.may (isNm n)).1 = 0) (hf : dFind (st.may (isNm n)).2.now n = some k) :
    st.append n b = if (st.may (isNm n)).2.room - ((st.may (isNm n)).2.size : Int) < (b.length : Int) then (6, (st.may (isNm n)).2) else (0, { (st.may (isNm n)).2 with files := (st.may (isNm n)).2.files.set k ⟨((st.may (isNm n)).2.file k).bytes ++ b, ((st.may (isNm n)).2.file k).sure⟩ }) := by
  simp [StoD.append, h, hf]
theorem may_size (st : StoD) (b : Bool) : (st.may b).2.size = st.size := by simp [StoD.size, StoD.file, may_now, may_files]
theorem sum_mem_le : ∀ {l : List Nat} {x : Nat}, x ∈ l → x ≤ l.sum
  | [], _, h => by simp at h
  | y :: r, x, h => by
    rw [List.sum_cons]
    rcases List.mem_cons.1 h with e | e
    · omega
    · have := sum_mem_le e; omega
theorem mem_size {st : StoD} {e : Nm × Nat} (h : e ∈ st.now) : (st.file e.2).bytes.length ≤ st.size := sum_mem_le (List.mem_map_of_mem (f := fun e : Nm × Nat => (st.file e.2).bytes.length) h)
set_option maxHeartbeats 1000000 in
theorem store_append (w : World) (B : Nat) (S : Nat → Prop) (sb : Nat) (V : StoV) (st : StoD) (nm : Nm) (A : Option Addr) (n c : Nat) (xs : List UInt8) (h : Sto w B S sb V st) (hB : B ≤ w.heap.size) (hok : st.NowOk) (hri : Rising st.now) (hsz : st.size ≤ lim) (hr0 : 0 ≤ st.room) (hr1 : st.room ≤ 16777216)
    (_hrd : Reads w w.heap.size 1 A n (BY xs)) (hn : n ≤ lim) (haw : ∀ W, Kept (fun k => k = sb) w W → Reads W W.heap.size 1 A n (BY xs)) :
    Calls Tryz.prog 69 #[ptr sb, str nm, .slice A n c] w (OpPost w B S sb (.int .i64 (st.append nm xs).1) (st.append nm xs).2) := by
  obtain ⟨w', hw'⟩ : ∃ w', w' = (w.alloc (.cells #[ptr sb] 37)).alloc (.cells #[.slice A n c] 26) := ⟨_, rfl⟩
  have hbel : Below w.heap.size w w' := by rw [hw']; exact ((Below.refl _ _).alloc (Nat.le_refl _) _).alloc (by simp) _
  have hs' := h.call hbel
  have hq : Blk w' w.heap.size 37 #[ptr sb] := by rw [hw']; exact (Blk.new w _ _).alloc _
  have hp : Blk w' (w.heap.size + 1) 26 #[.slice A n c] := by
    have := Blk.new (w.alloc (.cells #[ptr sb] 37)) 26 #[.slice A n c]
    rw [hw']
    simpa using this
  have hkS : Kept S w w' := Kept.of_below hbel
  have hop : ∀ {W : World} {T : Nat → Prop}, (∀ k, T k → False) → Kept (fun k => k = sb ∨ T k) w' W → Kept S w W := fun hT hk => hkS.trans (hk.mono (fun k _ e => e.elim (fun e => by subst e; exact h.ssb) (fun e => (hT k e).elim)))
  have HW := hide (store_with (fun z W => OpPost w B S sb (.int .i64 (st.append nm xs).1) (st.append nm xs).2 (.returned (.int .i64 z)) W) w' B S sb V st 136 #[ptr (w.heap.size + 1), ptr w.heap.size] (enters_of Tryz.func136 (by kernel_rfl) rfl)
    nm [] none 0 0 w'.heap.size (World.ownsRow_nil w' _ _ _) (Nat.le_refl _) (by omega) (fun g hg => (noT rfl g hg).elim) hs'
    (fun W hz hp => by
      rw [all_one] at hz hp
      show OpPost _ _ _ _ _ _ _ _
      rw [all_one, append_bad hz]
      exact OpPost.then hkS (hp.op h.ssb (fun k e => (noT rfl k e).elim)))
    (fun W hz hf hp => by
      rw [all_one] at hz hp hf
      show OpPost _ _ _ _ _ _ _ _
      rw [append_none hz hf]
      exact OpPost.then hkS (hp.op h.ssb (fun k e => (noT rfl k e).elim)))
    (fun W k hz hf hpre => by
      rw [all_one] at hz hpre hf
      obtain ⟨hk, A', n', c', hs⟩ := hpre
      have hkl : k < (st.may (isNm nm)).2.files.length := by
        rw [may_now] at hf; rw [may_files]; exact hok _ (dFind_mem hf)
      have hk1 : Kept (fun k => k = sb) w' W := hk.mono (fun k _ e => e.elim id (fun e => (noT rfl k e).elim))
      have hne : ∀ g t, tag w' g = some t → some t ≠ tSto → ¬ g = sb := fun g t e e2 e3 => by
        subst e3
        rw [hs'.blk.tag] at e
        exact e2 e.symm
      have hrdW := haw W ((Kept.of_below (S := fun k => k = sb) hbel).trans hk1)
      have hfl : ((st.may (isNm nm)).2.file k).bytes.length ≤ lim := by
        have h1 := mem_size (st := (st.may (isNm nm)).2) (dFind_mem hf)
        rw [may_size] at h1
        exact Nat.le_trans h1 hsz
      refine (append_1 W B S sb _ (st.may (isNm nm)).2 k (w.heap.size + 1) w.heap.size n c A xs hs (Nat.le_trans hB (Nat.le_trans hbel.size hk.size)) (by intro e he; rw [may_now] at he; rw [may_files]; exact hok e he) (by rw [may_now]; exact hri) (by rw [may_size]; exact hsz)
        (by rw [may_room]; exact hr0) (by rw [may_room]; exact hr1) hkl hfl (hp.kept hk1 (hne _ _ hp.tag (by decide))) (hq.kept hk1 (hne _ _ hq.tag (by decide))) hrdW hn).mono ?_
      intro e W' happ
      rw [append_some hz hf]
      unfold App1 at happ
      split at happ
      · rename_i hc
        rw [if_pos hc]
        obtain ⟨rfl, rest⟩ := happ
        exact ⟨6, rfl, OpPost.then (hkS.trans (hk1.mono (fun k _ e => by subst e; exact h.ssb))) ⟨rfl, rest⟩⟩
      · rename_i hc
        rw [if_neg hc]
        obtain ⟨rfl, rest⟩ := happ
        exact ⟨0, rfl, OpPost.then (hkS.trans (hk1.mono (fun k _ e => by subst e; exact h.ssb))) ⟨rfl, rest⟩⟩))
  have hb1 : ∀ v, World.cell? w' ⟨w.heap.size, 0, none⟩ = some v ↔ v = ptr sb := fun v => by rw [hq.cell]; simp [eq_comm]
  have hcq : ((w.alloc (.cells #[ptr sb] 37)).alloc (.cells #[.slice A n c] 26)).cell? ⟨w.heap.size, 0, none⟩ = some (ptr sb) := by rw [← hw']; exact hq.cell 0
  rw [hw'] at HW
  clear hb1 hop hkS hp hq hs' hbel hw' haw _hrd
  go_enter Tryz.func69, Tryz.ntmps69
  go_wp2_with (go_at_call 135; refine (unhide HW).mono ?_; rintro e w1 ⟨z, rfl, hq⟩; have HQ := hide hq; clear hq)
  go_ret
  exact HQ.out
end Go.Proofs.YtgjmfncebbfniaaGreatDoor

namespace Go.Proofs.YtgjmfncebbfniaaGreatDoor
set_option maxRecDepth 100000
open Go Go.RowKit Go.Maps Go.Sort Go.Shelf

theorem sortsA (m : Nat) : AnyZ.SortsIn Tryz.prog Tryz.sortedA_ren Fence.wide m :=
  ⟨fun blk off cap ss W hH hblk hsz => callsIn_wide.2 (AnyM.slices_Sort_string Tryz.sortA blk off cap ss W hH hblk hsz),
   fun p cap W => callsIn_wide.2 (AnyM.slices_Sort_string_none Tryz.sortA p cap W)⟩
theorem keys_call (mb : Option Nat) (w : World) : Calls Tryz.prog 63 #[.map mb] w fun e w' => e = .returned (.func (.func 126) #[] #[ptr w.heap.size]) ∧ w' = w.alloc (.cells #[.map mb] 92) :=
  (callsIn_wide (n := 5)).1 (AnyZ.keys_in Tryz.keysA Fence.wide 5 trivial rfl mb w)
theorem sorted_call (b : Nat) (fa : Nat → Nat) (d : Dir) (w : World) (hown : DirIs w fa b d) (hl : d.length ≤ lim) :
    Calls Tryz.prog 62 #[.func (.func 126) #[] #[ptr w.heap.size]] (w.alloc (.cells #[.map (some b)] 92)) fun e w' => ∃ (v : Value) (ss : List (List UInt8)), e = .returned v ∧ ss.Perm (strKeys (dirD fa d)) ∧
      w'.ownsRow (w.heap.size + 1) 9 1 v ss.length ((ss.mergeSort (fun x y => decide (x ≤ y))).map encStr) ∧ Below (w.heap.size + 1) (w.alloc (.cells #[.map (some b)] 92)) w' := by
  have hbl := hown.lt
  have hseq : SeqGives Fence.wide 2 Tryz.prog 126 #[.pointer (some ⟨w.heap.size, 0, none⟩)] encStr (fun ss => ss.Perm (strKeys (dirD fa d))) (Maps.size (dirD fa d)) (w.alloc (.cells #[.map (some b)] 92)) :=
    AnyZ.keys_gives (ρ := Tryz.keysA_ren) { Tryz.keysA with } Fence.wide _ trivial rfl (by omega) w.heap.size b d.length (dirD fa d) _ (by simp) (by simp) (by
      obtain ⟨es, clock, hb, Ft, hs, hD⟩ := hown
      exact ⟨es, clock, (Below.heap_alloc _ _ b hbl).trans hb, Ft, hs, hD⟩)
  have cS := AnyZ.sorted_in Tryz.sortedA Fence.wide 5 trivial trivial trivial trivial rfl (by omega) (sortsA _) (enters_of Tryz.func125 (by kernel_rfl) rfl) 126 #[.pointer (some ⟨w.heap.size, 0, none⟩)] trivial (enters_of Tryz.func126 (by kernel_rfl) rfl) _ _ (by rw [dirD_size]; unfold maxLen; unfold lim at hl; omega) (by rw [dirD_size]; unfold lim at hl; omega) _ hseq
  change CallsIn _ _ Tryz.prog 62 _ _ _ at cS
  refine (callsIn_wide.1 cS).mono ?_
  rintro e w' ⟨v, ss, rfl, hS, hrow, hnil, hb⟩
  refine ⟨v, ss, rfl, hS, ?_, ?_⟩
  · rw [World.size_alloc] at hrow; exact hrow
  · rw [World.size_alloc] at hb; exact hb

/-- A new row of texts. -/
def StrsPost (w : World) (ns : List Nm) (e : Ending) (W : World) : Prop := ∃ A n c, e = .returned (.slice A n c) ∧ W.ownsRow w.heap.size 9 1 (.slice A n c) n (ns.map str) ∧ n = ns.length ∧ n ≤ c ∧ Below w.heap.size w W
theorem ownsRow_shape {W : World} {base size n : Nat} {e : TypeId} {v : Value} {xs : List Value} (h : W.ownsRow base e size v n xs) : ∃ A c, v = .slice A n c ∧ n ≤ c ∨ v = .slice none 0 0 ∧ n = 0 := by
  rcases h.2 with ⟨rfl, hn⟩ | ⟨g, cap, cur, rfl, _, _, hle, _⟩
  · exact ⟨none, 0, .inr ⟨rfl, hn⟩⟩
  · exact ⟨_, cap, .inl ⟨rfl, hle⟩⟩
theorem store_names (w : World) (B : Nat) (S : Nat → Prop) (sb : Nat) (V : StoV) (st : StoD) (h : Sto w B S sb V st) (hr : Rising st.now) (hl : st.now.length ≤ lim) :
    Calls Tryz.prog 30 #[ptr sb] w (StrsPost w st.names) := by
  have hc1 := h.blk.cell 1
  have HK := hide (keys_call (some V.nb) w)
  have HS := hide (sorted_call V.nb V.fa st.now w h.now hl)
  have HR := hide hr
  clear h hr hl
  go_enter Tryz.func30, Tryz.ntmps30
  go_wp2_with (first
    | (go_at_call 63; refine (unhide HK).mono ?_; rintro e w1 ⟨rfl, rfl⟩)
    | (go_at_call 62; refine (unhide HS).mono ?_; rintro e w1 ⟨v, ss, rfl, hp, hrow, hb⟩))
  go_ret
  rw [dirD_keys] at hp
  have hl2 : ss.length = st.names.length := by rw [hp.length_eq]; rfl
  rw [names_sorted HR.out hp, hl2] at hrow
  have hb2 : Below w.heap.size w w1 := ((Below.refl w.heap.size w).alloc (Nat.le_refl _) _).trans (hb.mono (by omega))
  have hmap : (st.now.map (·.1)).map encStr = st.names.map str := rfl
  rw [hmap] at hrow
  have hrow' : w1.ownsRow w.heap.size 9 1 v st.names.length (st.names.map str) := by
    obtain ⟨h1, h2⟩ := hrow
    refine ⟨h1, ?_⟩
    rcases h2 with h2 | ⟨g, cap, cur, hv, hg, r⟩
    · exact .inl h2
    · exact .inr ⟨g, cap, cur, hv, by omega, r⟩
  obtain ⟨A, c, e | e⟩ := ownsRow_shape hrow'
  · obtain ⟨rfl, hle⟩ := e
    exact ⟨A, _, c, rfl, hrow', rfl, hle, hb2⟩
  · obtain ⟨rfl, hz⟩ := e
    refine ⟨none, 0, 0, rfl, ?_, hz.symm, Nat.le_refl _, hb2⟩
    rw [hz] at hrow'
    exact hrow'
end Go.Proofs.YtgjmfncebbfniaaGreatDoor
