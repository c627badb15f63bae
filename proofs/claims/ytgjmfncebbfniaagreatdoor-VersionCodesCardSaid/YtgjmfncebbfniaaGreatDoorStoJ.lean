/- Package store: New, Off, Create. -/
/- Package store: Create, Remove, Rename, SyncDir. -/
import Derived.Test.YtgjmfncebbfniaaGreatDoorStoI
import Derived.BigQuiet
namespace Go.Proofs.YtgjmfncebbfniaaGreatDoor
set_option maxRecDepth 100000
open Go Go.RowKit Go.Maps

theorem store_new (room : Int) (h1 : 1 ≤ room) (h2 : room ≤ 16777216) (w : World) :
    Calls Tryz.prog 14 #[.int .i64 room] w fun e W => e = .returned (.tuple #[ptr (w.heap.size + 2), .int .i64 0]) ∧ Below w.heap.size w W ∧ ∃ V, Sto W w.heap.size (fun k => w.heap.size ≤ k ∧ k < W.heap.size) (w.heap.size + 2) V (StoD.new room) := by
  have hmm := @run_makeMap Tryz.prog
  have hd1 : decide (room < 1) = false := by simp; omega
  have hd2 : decide (16777216 < room) = false := by simp; omega
  go_enter Tryz.func14, Tryz.ntmps14
  go_wp2
  go_ret2
  refine ⟨rfl, (((Below.refl _ _).alloc (Nat.le_refl _) _).alloc (by simp) _).alloc (by simp; omega) _, ⟨w.heap.size, w.heap.size + 1, .slice none 0 0, none, 0, 0, fun _ => 0, fun _ => .slice none 0 0⟩, ?_⟩
  have m1 := World.ownsMap_made (H := Unit) w Tryz.prog 9 ptrR
  have m2 := World.ownsMap_made (H := Unit) (w.alloc (.map #[] 0)) Tryz.prog 9 ptrR
  have hsz : (w.alloc (.map #[] 0)).heap.size = w.heap.size + 1 := by simp
  rw [hsz] at m2
  have hb := Blk.new ((w.alloc (.map #[] 0)).alloc (.map #[] 0)) 95 #[.int .i64 room, .map (some w.heap.size), .map (some (w.heap.size + 1)), .slice none 0 0, .slice none 0 0, .bool false]
  have hsz2 : ((w.alloc (.map #[] 0)).alloc (.map #[] 0)).heap.size = w.heap.size + 2 := by simp
  rw [hsz2] at hb
  exact {
    blk := hb
    now := DirIs.mk ((m1.alloc _).alloc _)
    disk := DirIs.mk (m2.alloc _)
    kept := ⟨[], World.ownsRow_nil _ _ _ _, fun g hg => by simp [Value.ownBlock] at hg, fun i c hi => by simp [StoD.new] at hi⟩
    files := ⟨fun k f hf => by simp [StoD.new] at hf, fun k f hf => by simp [StoD.new] at hf, fun k hk => by simp [StoD.new] at hk, fun k hk => by simp [StoD.new] at hk, fun i j hi => by simp [StoD.new] at hi, fun i j g hi => by simp [StoD.new] at hi⟩
    plan := ⟨Reads.zeroB none rfl rfl, Nat.le_refl _, Nat.zero_le _, fun h => absurd h (Nat.lt_irrefl 0)⟩
    apart := fun h => absurd h (Nat.lt_irrefl 0)
    ne := by show w.heap.size ≠ w.heap.size + 1; omega
    ssb := by simp
    snb := by simp; omega
    sdb := by simp
    lt := fun k hk => hk }
theorem store_off (w : World) (B : Nat) (S : Nat → Prop) (sb : Nat) (V : StoV) (st : StoD) (h : Sto w B S sb V st) :
    Calls Tryz.prog 48 #[ptr sb] w fun e W => e = .returned (.bool st.down) ∧ W = w := by
  have hc5 := h.blk.cell 5
  go_enter Tryz.func48, Tryz.ntmps48
  go_wp2
  go_ret
  exact ⟨rfl, rfl⟩

section
variable {w W : World} {B sb : Nat} {S : Nat → Prop} {V : StoV} {st : StoD}
/-- The files that are named are there. -/
def chgIdx (n : Nat) : Chg → Prop
  | .put _ k => k < n
  | .ren _ _ k => k < n
  | .del _ => True
structure StoD.Ok (s : StoD) : Prop where
  nowI : ∀ e ∈ s.now, e.2 < s.files.length
  diskI : ∀ e ∈ s.disk, e.2 < s.files.length
  keptI : ∀ c ∈ s.kept, chgIdx s.files.length c
  keptN : ∀ c ∈ s.kept, chgLen c
  nowR : Rising s.now
  diskR : Rising s.disk
theorem ChgAt.refa {fa fa' : Nat → Nat} {v : Value} {c : Chg} {n : Nat} (h : ChgAt w S fa v c) (hc : chgIdx n c) (hf : ∀ k, k < n → fa' k = fa k) : ChgAt w S fa' v c := by
  cases c with
  | put m k => obtain ⟨p, q, e, h1, h2, s⟩ := h; exact ⟨p, q, e, by rw [hf k hc]; exact h1, h2, s⟩
  | ren a b k => obtain ⟨p, q, r, e, h1, h2, s⟩ := h; exact ⟨p, q, r, e, h1, by rw [hf k hc]; exact h2, s⟩
  | del m => exact h
/-- A new file, which no name has. -/
theorem Sto.new_file (h : Sto w B S sb V st) (hB : B ≤ w.heap.size) (hok : st.Ok) :
    Sto (w.alloc (.cells #[.slice none 0 0, .int .i64 0] 118)) B (Plus S w (w.alloc (.cells #[.slice none 0 0, .int .i64 0] 118))) sb
      { V with fa := fun j => if j = st.files.length then w.heap.size else V.fa j, fv := fun j => if j = st.files.length then .slice none 0 0 else V.fv j } { st with files := st.files ++ [⟨[], 0⟩] } := by
  have hf : ∀ k, k < st.files.length → (if k = st.files.length then w.heap.size else V.fa k) = V.fa k := fun k hk => if_neg (by omega)
  have hs := h.alloc (.cells #[.slice none 0 0, .int .i64 0] 118)
  have hsz : (w.alloc (.cells #[.slice none 0 0, .int .i64 0] 118)).heap.size = w.heap.size + 1 := by simp
  have hfl : ∀ k, k < st.files.length → V.fa k < w.heap.size := fun k hk => (h.lt _ (h.files.sa k hk)).2
  have hget : ∀ (j : Nat) (x : FileE), (st.files ++ [⟨[], 0⟩])[j]? = some x → (j = st.files.length ∧ x = ⟨[], 0⟩) ∨ (j < st.files.length ∧ st.files[j]? = some x) := fun j x hx => by
    by_cases hj : j < st.files.length
    · rw [List.getElem?_append_left hj] at hx; exact .inr ⟨hj, hx⟩
    · rw [List.getElem?_append_right (by omega)] at hx
      by_cases h0 : j - st.files.length = 0
      · rw [h0] at hx; simp at hx; exact .inl ⟨by omega, hx.symm⟩
      · rw [List.getElem?_eq_none (by simp; omega)] at hx; cases hx
  refine ⟨hs.blk, ?_, ?_, ?_, ⟨fun k f hk => ?_, fun k f hk => ?_, fun k hk => ?_, fun k hk g hg => ?_, fun i j hi hj e => ?_, fun i j g hi hj e1 e2 => ?_⟩, hs.plan.mono (fun _ h => .inl h), fun h0 ad e k hk => ?_, h.ne, .inl h.ssb, .inl h.snb, .inl h.sdb, fun k hk => ?_⟩
  · have h1 := hs.now
    unfold DirIs at h1 ⊢
    rw [dirD_congr (fa' := V.fa) (fun e he => hf _ (hok.nowI e he))]
    exact h1
  · have h1 := hs.disk
    unfold DirIs at h1 ⊢
    rw [dirD_congr (fa' := V.fa) (fun e he => hf _ (hok.diskI e he))]
    exact h1
  · obtain ⟨vs, hr, hS, hc⟩ := hs.kept
    refine ⟨vs, hr, fun g hg => .inl (hS g hg), fun i c hi => ?_⟩
    obtain ⟨v, e1, e2⟩ := hc i c hi
    exact ⟨v, e1, (e2.mono (fun _ h => .inl h)).refa (hok.keptI c (List.mem_of_getElem? hi)) hf⟩
  · rcases hget k f hk with ⟨rfl, rfl⟩ | ⟨hj, hk⟩
    · simp only [if_true]; exact Blk.new w _ _
    · dsimp only; rw [if_neg (by omega), if_neg (by omega)]; exact hs.files.blk k f hk
  · rcases hget k f hk with ⟨rfl, rfl⟩ | ⟨hj, hk⟩
    · simp only [if_true]; exact OwnB.nil _ _
    · dsimp only; rw [if_neg (by omega)]; exact hs.files.own k f hk
  · simp only [List.length_append, List.length_cons, List.length_nil] at hk
    dsimp only
    by_cases e : k = st.files.length
    · rw [if_pos e]; exact .inr ⟨Nat.le_refl _, by omega⟩
    · rw [if_neg e]; exact .inl (h.files.sa k (by omega))
  · simp only [List.length_append, List.length_cons, List.length_nil] at hk
    dsimp only at hg
    by_cases e : k = st.files.length
    · rw [if_pos e] at hg; simp [Value.ownBlock] at hg
    · rw [if_neg e] at hg; exact .inl (h.files.sv k (by omega) g hg)
  · simp only [List.length_append, List.length_cons, List.length_nil] at hi hj
    dsimp only at e
    by_cases e1 : i = st.files.length <;> by_cases e2 : j = st.files.length
    · omega
    · rw [if_pos e1, if_neg e2] at e; have := hfl j (by omega); omega
    · rw [if_neg e1, if_pos e2] at e; have := hfl i (by omega); omega
    · rw [if_neg e1, if_neg e2] at e; exact h.files.inj i j (by omega) (by omega) e
  · simp only [List.length_append, List.length_cons, List.length_nil] at hi hj
    dsimp only at e1 e2
    by_cases f1 : i = st.files.length
    · rw [if_pos f1] at e1; simp [Value.ownBlock] at e1
    · by_cases f2 : j = st.files.length
      · rw [if_pos f2] at e2; simp [Value.ownBlock] at e2
      · rw [if_neg f1] at e1; rw [if_neg f2] at e2; exact h.files.ne i j g (by omega) (by omega) e1 e2
  · simp only [List.length_append, List.length_cons, List.length_nil] at hk
    show (if k = st.files.length then Value.slice none 0 0 else V.fv k).ownBlock ≠ some ad.block
    by_cases e1 : k = st.files.length
    · rw [if_pos e1]; simp [Value.ownBlock]
    · rw [if_neg e1]; exact h.apart h0 ad e k (by omega)
  · rcases hk with hk | hk
    · have := h.lt k hk; omega
    · omega
end
end Go.Proofs.YtgjmfncebbfniaaGreatDoor

namespace Go.Proofs.YtgjmfncebbfniaaGreatDoor
set_option maxRecDepth 100000
open Go Go.RowKit Go.Maps

theorem create_bad {st : StoD} {n : Nm} (h : (st.may (isNm n)).1 ≠ 0) : st.create n = st.may (isNm n) := by simp [StoD.create, h]
theorem create_there {st : StoD} {n : Nm} {k : Nat} (h : (st.may (isNm n)).1 = 0) (hf : dFind (st.may (isNm n)).2.now n = some k) : st.create n = (5, (st.may (isNm n)).2) := by simp [StoD.create, h, hf]
theorem create_new {st : StoD} {n : Nm} (h : (st.may (isNm n)).1 = 0) (hf : dFind (st.may (isNm n)).2.now n = none) :
    st.create n = (0, ({ (st.may (isNm n)).2 with files := (st.may (isNm n)).2.files ++ [⟨[], 0⟩] } : StoD).change (.put n (st.may (isNm n)).2.files.length)) := by simp [StoD.create, h, hf]
theorem StoD.Ok.may {st : StoD} (h : st.Ok) (b : Bool) : (st.may b).2.Ok :=
  ⟨by rw [may_now, may_files]; exact h.nowI, by rw [may_disk, may_files]; exact h.diskI, by rw [may_kept, may_files]; exact h.keptI, by rw [may_kept]; exact h.keptN, by rw [may_now]; exact h.nowR, by rw [may_disk]; exact h.diskR⟩
theorem DirIs.drewN {w : World} {fa : Nat → Nat} {b : Nat} {d : Dir} (h : DirIs w fa b d) (m : Nat) : DirIs (w.drewN m) fa b d := h

theorem ptrR_nil {v : Value} {ps : List MemPlace} (h : ptrR v = some (.nil, ps)) : v = .pointer none := by
  unfold ptrR at h
  split at h
  · simp at h
  · rfl
  · cases h
theorem DirIs.look_nil {w : World} {fa : Nat → Nat} {b : Nat} {d : Dir} {nm : Nm} (h : DirIs w fa b d) (hn : nm.length ≤ maxLen) (hf : dFind d nm = none) :
    (Instr.lookup 92 (.map (some b)) (str nm) true).run Tryz.prog w = .ok (.tuple #[.pointer none, .bool false]) w := by
  obtain ⟨v, ps, hrun, hv⟩ := h.look_ok strK Tryz.underlying92 (zero_ptr w) (zd := .nil) (zp := []) rfl (keyStr hn)
  rw [dirD_at, hf] at hv
  rw [dirD_has, hf] at hrun
  rw [hrun, ptrR_nil hv]
  rfl
theorem create_change {w w' w2 : World} {B sb n2 c2 nq : Nat} {A2 : Option Addr} {S : Nat → Prop} {V : StoV} {st : StoD} {n : Nm} (h : Sto w B S sb V st) (hB : B ≤ w.heap.size) (hok : st.Ok) (hbel : Below w.heap.size w w') (_hw' : w' = (w.alloc (.cells #[str n] 9)).alloc (.cells #[str n] 9))
    (hsz : w'.heap.size = w.heap.size + 2) (hk2 : Kept (fun k => k = sb) w' w2) (hq2 : Blk w2 w.heap.size 9 #[str n]) (h2 : Sto w2 B S sb { V with pA := A2, pn := n2, pc := c2 } (st.may (isNm n)).2) (hl : st.now.length ≤ lim) (hkl : st.kept.length ≤ lim) (hn : n.length ≤ 64) :
    Calls Tryz.prog 131 #[ptr sb, .func (.func 132) #[] #[ptr (w2.heap.size + 1), ptr w.heap.size]]
      (((w2.drewN nq).alloc (.cells #[.slice none 0 0, .int .i64 0] 118)).alloc (.cells #[ptr w2.heap.size] 116)) fun e W => e = .returned (.tuple #[]) ∧ Kept S w W ∧
        ∃ S' V, Sto W B S' sb V (({ (st.may (isNm n)).2 with files := (st.may (isNm n)).2.files ++ [⟨[], 0⟩] } : StoD).change (.put n (st.may (isNm n)).2.files.length)) ∧ (∀ k, S k → S' k) ∧ ∀ k, S' k → Plus S w W k := by
  have h3 := (h2.drewN nq).new_file (by have := hk2.size; show B ≤ w2.heap.size; omega) (hok.may _)
  have h4 := h3.alloc (.cells #[ptr w2.heap.size] 116)
  generalize hW3 : (w2.drewN nq).alloc (.cells #[.slice none 0 0, .int .i64 0] 118) = W3 at h3 h4 ⊢
  have hs3 : W3.heap.size = w2.heap.size + 1 := by rw [← hW3]; simp
  have hs4 : (W3.alloc (.cells #[ptr w2.heap.size] 116)).heap.size = w2.heap.size + 2 := by simp [hs3]
  have hb := Blk.new W3 116 #[ptr w2.heap.size]
  rw [hs3] at hb
  have hq4 : Blk (W3.alloc (.cells #[ptr w2.heap.size] 116)) w.heap.size 9 #[str n] := by
    rw [← hW3]; exact ((hq2.drewN nq).alloc _).alloc _
  have hk4 : Kept S w (W3.alloc (.cells #[ptr w2.heap.size] 116)) := by
    rw [← hW3]
    exact ((((Kept.of_below hbel).trans (hk2.mono (fun k _ e => by subst e; exact h.ssb))).drewN nq).alloc _).alloc _
  generalize hW4 : W3.alloc (.cells #[ptr w2.heap.size] 116) = W4 at h4 hb hq4 hk4 hs4 ⊢
  have h2s : w.heap.size + 2 ≤ w2.heap.size := by have := hk2.size; omega
  have h5 := h4.more (S' := Plus S w W4) (fun k hk => by
      rcases hk with hk | hk
      · exact .inl hk
      · have : (w2.drewN nq).heap.size = w2.heap.size := rfl
        exact .inr ⟨by omega, by omega⟩) (fun k hk => by
      rcases hk with hk | hk
      · have := h.lt k hk; exact ⟨this.1, by omega⟩
      · exact ⟨by omega, hk.2⟩)
  have hch : ChgAt W4 (Plus S w W4) (fun j => if j = (st.may (isNm n)).2.files.length then (w2.drewN nq).heap.size else V.fa j) (.func (.func 132) #[] #[ptr (w2.heap.size + 1), ptr w.heap.size]) (.put n (st.may (isNm n)).2.files.length) :=
    ⟨w2.heap.size + 1, w.heap.size, rfl, by simp only [if_true]; exact hb, hq4, .inr ⟨by omega, by omega⟩, .inr ⟨Nat.le_refl _, by omega⟩⟩
  refine (store_change W4 B (Plus S w W4) sb _ _ (.put n (st.may (isNm n)).2.files.length) _ h5 (by omega) hch hn (by show (st.may (isNm n)).2.now.length ≤ lim; rw [may_now]; exact hl) (by show (st.may (isNm n)).2.kept.length ≤ lim; rw [may_kept]; exact hkl)).mono ?_
  intro e W hop
  exact OpPost.after hk4 hop
set_option maxHeartbeats 2000000 in
theorem store_create (w : World) (B : Nat) (S : Nat → Prop) (sb : Nat) (V : StoV) (st : StoD) (n : Nm) (h : Sto w B S sb V st) (hB : B ≤ w.heap.size) (hok : st.Ok) (hl : st.now.length ≤ lim) (hkl : st.kept.length ≤ lim) :
    Calls Tryz.prog 67 #[ptr sb, str n] w (OpPost w B S sb (.int .i64 (st.create n).1) (st.create n).2) := by
  obtain ⟨w', hw'⟩ : ∃ w', w' = (w.alloc (.cells #[str n] 9)).alloc (.cells #[str n] 9) := ⟨_, rfl⟩
  have hbel : Below w.heap.size w w' := by rw [hw']; exact ((Below.refl _ _).alloc (Nat.le_refl _) _).alloc (by simp) _
  have hsz : w'.heap.size = w.heap.size + 2 := by rw [hw']; simp
  have hq : Blk w' w.heap.size 9 #[str n] := by rw [hw']; exact (Blk.new w _ _).alloc _
  have hs' := h.call hbel
  have hstr : Strs w' (some ⟨w.heap.size + 1, 0, none⟩) 1 [n] := by
    have := Strs.new (w.alloc (.cells #[str n] 9)) [n] [str n] rfl 9
    rw [hw']
    simpa using this
  have HM := hide (store_meet w' B S sb V st (some ⟨w.heap.size + 1, 0, none⟩) 1 1 [n] (by omega) hstr hs')
  have hone : [n].all isNm = isNm n := by simp
  rw [hone] at HM
  have hcq : ((w.alloc (.cells #[str n] 9)).alloc (.cells #[str n] 9)).cell? ⟨w.heap.size, 0, none⟩ = some (str n) := by rw [← hw']; exact hq.cell 0
  have H := hide h
  have HQ := hide hq
  have HBEL := hide hbel
  have HSZ := hide hsz
  have HOK := hide hok
  have HL := hide hl
  have HKL := hide hkl
  have HWE := hide hw'
  rw [hw'] at HM
  clear h hq hbel hsz hok hl hkl hs' hstr hone hw'
  go_enter Tryz.func67, Tryz.ntmps67
  go_wp2_with fail
  refine (unhide HM).mono ?_
  rintro e w2 ⟨rfl, hk2, A2, n2, c2, h2⟩
  rw [← HWE.out] at hk2
  have hne : ¬ w.heap.size = sb := fun e => by have := (H.out.lt sb H.out.ssb).2; omega
  have hq2 := HQ.out.kept hk2 hne
  have hcq2 : w2.cell? ⟨w.heap.size, 0, none⟩ = some (str n) := hq2.cell 0
  have hcell1 := h2.blk.cell 1
  have HK2 := hide hk2
  have HQ2 := hide hq2
  have H2 := hide h2
  clear hk2 hq2 h2 HM hcq
  by_cases hz : (st.may (isNm n)).1 = 0
  · have hnm : n.length ≤ maxLen := by
      have := isNm_len (may_zero hz)
      unfold maxLen; omega
    have HZ := hide hz
    rcases hf : dFind (st.may (isNm n)).2.now n with _ | k
    · have hlk : ∀ m, (Instr.lookup 92 (.map (some V.nb)) (str n) true).run Tryz.prog (w2.drewN m) = .ok (.tuple #[.pointer none, .bool false]) (w2.drewN m) := fun m => (H2.out.now.drewN m).look_nil hnm hf
      have HF := hide hf
      clear hf hnm
      have hzf : ((st.may (isNm n)).1 != 0) = false := by simp [hz]
      clear hz
      go_wp2
      go_quiet (fail)
      go_wp2_with fail
      have HC := hide (create_change (nq := nq) H.out hB HOK.out HBEL.out HWE.out HSZ.out HK2.out HQ2.out H2.out HL.out HKL.out (isNm_len (may_zero HZ.out)))
      refine (unhide HC).mono ?_
      rintro e w5 hop
      obtain ⟨rfl, hop⟩ := hop
      have HOP := hide hop
      clear hop
      go_wp2
      go_ret
      rw [create_new HZ.out HF.out]
      exact ⟨rfl, HOP.out⟩
    · have hlk : ∀ m, (Instr.lookup 92 (.map (some V.nb)) (str n) true).run Tryz.prog (w2.drewN m) = .ok (.tuple #[ptr (V.fa k), .bool true]) (w2.drewN m) := fun m => (H2.out.now.drewN m).look_some hnm hf
      have HF := hide hf
      clear hf hnm
      have hzf : ((st.may (isNm n)).1 != 0) = false := by simp [hz]
      clear hz
      go_wp2
      go_quiet (fail)
      go_wp2
      go_ret
      rw [create_there HZ.out HF.out]
      refine ⟨rfl, ((Kept.of_below HBEL.out).trans (HK2.out.mono (fun k _ e => by subst e; exact H.out.ssb))).drewN nq, S, _, H2.out.drewN nq, fun _ h => h, fun _ h => .inl h⟩
  · have HZ := hide hz
    have hzz : ((st.may (isNm n)).1 != 0) = true := by simpa using hz
    generalize hzr : (st.may (isNm n)).1 = z at *
    have HZR := hide hzr
    clear hzr hz
    go_wp2
    go_ret
    rw [create_bad (by rw [HZR.out]; exact HZ.out), HZR.out]
    exact ⟨rfl, ((Kept.of_below HBEL.out).trans (HK2.out.mono (fun k _ e => by subst e; exact H.out.ssb))), S, _, H2.out, fun _ h => h, fun _ h => .inl h⟩
end Go.Proofs.YtgjmfncebbfniaaGreatDoor
