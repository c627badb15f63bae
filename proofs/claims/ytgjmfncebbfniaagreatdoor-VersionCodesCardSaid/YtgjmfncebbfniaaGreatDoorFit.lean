/- A store of files, plain: what its changes keep. -/
import Derived.Test.YtgjmfncebbfniaaGreatDoorStoO
namespace Go.Proofs.YtgjmfncebbfniaaGreatDoor
set_option maxRecDepth 100000
open Go Go.RowKit

/-- No more than N of anything; no file is too long. -/
structure StoD.Fit (s : StoD) (N : Nat) : Prop where
  ok : s.Ok
  nf : s.files.length ≤ N
  nn : s.now.length ≤ N
  nd : s.disk.length ≤ N
  nk : s.kept.length ≤ N
  fl : ∀ f ∈ s.files, f.bytes.length ≤ 16777216
  r0 : 0 ≤ s.room
  r1 : s.room ≤ 16777216
section
variable {s : StoD} {N : Nat} {n : Nm}
theorem StoD.Fit.more (h : s.Fit N) {M : Nat} (hM : N ≤ M) : s.Fit M := ⟨h.ok, Nat.le_trans h.nf hM, Nat.le_trans h.nn hM, Nat.le_trans h.nd hM, Nat.le_trans h.nk hM, h.fl, h.r0, h.r1⟩
theorem StoD.Fit.may (h : s.Fit N) (b : Bool) : (s.may b).2.Fit N :=
  ⟨h.ok.may b, by rw [may_files]; exact h.nf, by rw [may_now]; exact h.nn, by rw [may_disk]; exact h.nd, by rw [may_kept]; exact h.nk, by rw [may_files]; exact h.fl, by rw [may_room]; exact h.r0, by rw [may_room]; exact h.r1⟩
theorem made_idx {d : Dir} {c : Chg} {K : Nat} (hd : ∀ e ∈ d, e.2 < K) (hc : chgIdx K c) : ∀ e ∈ made d c, e.2 < K := by
  cases c with
  | put m k => intro e he; rcases dWith_mem.1 he with rfl | ⟨h, _⟩; exact hc; exact hd e h
  | ren a b k => intro e he; rcases dWith_mem.1 he with rfl | ⟨h, _⟩; exact hc; exact hd e (dWithout_mem h).1
  | del m => intro e he; exact hd e (dWithout_mem he).1
theorem StoD.Fit.change (h : s.Fit N) {c : Chg} (hi : chgIdx s.files.length c) (hl : chgLen c) : (s.change c).Fit (N + 1) := by
  refine ⟨⟨made_idx h.ok.nowI hi, h.ok.diskI, fun c' hc' => ?_, fun c' hc' => ?_, rising_made h.ok.nowR c, h.ok.diskR⟩, Nat.le_succ_of_le h.nf, Nat.le_trans (made_len _ _) (Nat.succ_le_succ h.nn), Nat.le_succ_of_le h.nd, ?_, h.fl, h.r0, h.r1⟩
  · rcases List.mem_append.1 hc' with h1 | h1
    · exact h.ok.keptI c' h1
    · rw [List.mem_singleton.1 h1]; exact hi
  · rcases List.mem_append.1 hc' with h1 | h1
    · exact h.ok.keptN c' h1
    · rw [List.mem_singleton.1 h1]; exact hl
  · show (s.kept ++ [c]).length ≤ N + 1
    have := h.nk
    simp; omega
theorem chgIdx_mono {c : Chg} {K M : Nat} (h : chgIdx K c) (hM : K ≤ M) : chgIdx M c := by
  cases c with
  | put m k => exact Nat.lt_of_lt_of_le h hM
  | ren a b k => exact Nat.lt_of_lt_of_le h hM
  | del m => trivial
theorem StoD.Fit.new_file (h : s.Fit N) : ({ s with files := s.files ++ [⟨[], 0⟩] } : StoD).Fit (N + 1) := by
  have hl : (s.files ++ [(⟨[], 0⟩ : FileE)]).length = s.files.length + 1 := by simp
  refine ⟨⟨fun e he => ?_, fun e he => ?_, fun c hc => ?_, h.ok.keptN, h.ok.nowR, h.ok.diskR⟩, ?_, Nat.le_succ_of_le h.nn, Nat.le_succ_of_le h.nd, Nat.le_succ_of_le h.nk, fun f hf => ?_, h.r0, h.r1⟩
  · rw [hl]; have := h.ok.nowI e he; omega
  · rw [hl]; have := h.ok.diskI e he; omega
  · rw [hl]; exact chgIdx_mono (h.ok.keptI c hc) (by omega)
  · rw [hl]; have := h.nf; omega
  · rcases List.mem_append.1 hf with h1 | h1
    · exact h.fl f h1
    · rw [List.mem_singleton.1 h1]; simp
theorem StoD.Fit.set_file (h : s.Fit N) {k : Nat} {f : FileE} (hf : f.bytes.length ≤ 16777216) : ({ s with files := s.files.set k f } : StoD).Fit N := by
  have hl : (s.files.set k f).length = s.files.length := List.length_set
  refine ⟨⟨fun e he => ?_, fun e he => ?_, fun c hc => ?_, h.ok.keptN, h.ok.nowR, h.ok.diskR⟩, ?_, h.nn, h.nd, h.nk, fun g hg => ?_, h.r0, h.r1⟩
  · rw [hl]; exact h.ok.nowI e he
  · rw [hl]; exact h.ok.diskI e he
  · rw [hl]; exact h.ok.keptI c hc
  · rw [hl]; exact h.nf
  · rcases List.mem_or_eq_of_mem_set hg with h1 | h1
    · exact h.fl g h1
    · rw [h1]; exact hf
theorem StoD.Fit.file_len (h : s.Fit N) (k : Nat) : (s.file k).bytes.length ≤ 16777216 := by
  unfold StoD.file
  rw [List.getD_eq_getElem?_getD]
  rcases hk : s.files[k]? with _ | f
  · simp
  · exact h.fl f (List.mem_of_getElem? hk)
theorem sum_le_mul : ∀ (l : List Nat) (M : Nat), (∀ x ∈ l, x ≤ M) → l.sum ≤ l.length * M
  | [], _, _ => by simp
  | x :: r, M, h => by
    rw [List.sum_cons, List.length_cons, Nat.succ_mul]
    have h1 := h x List.mem_cons_self
    have h2 := sum_le_mul r M (fun y hy => h y (List.mem_cons_of_mem _ hy))
    omega
theorem StoD.Fit.size_le (h : s.Fit N) (hN : N ≤ 60000) : s.size ≤ lim := by
  have h1 := sum_le_mul (s.now.map fun e => (s.file e.2).bytes.length) 16777216 (fun x hx => by
    obtain ⟨e, _, rfl⟩ := List.mem_map.1 hx
    exact h.file_len e.2)
  rw [List.length_map] at h1
  have h2 := h.nn
  show List.sum _ ≤ lim
  unfold lim
  have h3 : s.now.length * 16777216 ≤ 60000 * 16777216 := Nat.mul_le_mul_right _ (Nat.le_trans h2 hN)
  omega
theorem StoD.Fit.create (h : s.Fit N) (n : Nm) : (s.create n).2.Fit (N + 2) := by
  by_cases hz : (s.may (isNm n)).1 = 0
  · rcases hf : dFind (s.may (isNm n)).2.now n with _ | k
    · rw [create_new hz hf]
      exact ((h.may _).new_file).change (by show _ < _; simp) (isNm_len (may_zero hz))
    · rw [create_there hz hf]; exact (h.may _).more (by omega)
  · rw [create_bad hz]; exact (h.may _).more (by omega)
theorem StoD.Fit.append (h : s.Fit N) (n : Nm) (b : List UInt8) : (s.append n b).2.Fit N := by
  by_cases hz : (s.may (isNm n)).1 = 0
  · rcases hf : dFind (s.may (isNm n)).2.now n with _ | k
    · rw [append_none hz hf]; exact h.may _
    · rw [append_some hz hf]
      split
      · exact h.may _
      · rename_i hlt
        have h1 := mem_size (st := (s.may (isNm n)).2) (dFind_mem hf)
        have h2 := (h.may (isNm n)).r1
        refine (h.may _).set_file ?_
        show (((s.may (isNm n)).2.file k).bytes ++ b).length ≤ _
        rw [List.length_append]
        simp only at h1
        omega
  · rw [append_bad hz]; exact h.may _
theorem StoD.Fit.sync (h : s.Fit N) (n : Nm) : (s.sync n).2.Fit N := by
  by_cases hz : (s.may (isNm n)).1 = 0
  · rcases hf : dFind (s.may (isNm n)).2.now n with _ | k
    · rw [sync_none hz hf]; exact h.may _
    · rw [sync_some hz hf]
      exact (h.may _).set_file ((h.may _).file_len k)
  · rw [sync_bad hz]; exact h.may _
theorem StoD.Fit.remove (h : s.Fit N) (n : Nm) : (s.remove n).2.Fit (N + 1) := by
  by_cases hz : (s.may (isNm n)).1 = 0
  · rcases hf : dFind (s.may (isNm n)).2.now n with _ | k
    · rw [remove_none hz hf]; exact (h.may _).more (by omega)
    · rw [remove_some hz hf]
      exact (h.may _).change trivial (isNm_len (may_zero hz))
  · rw [remove_bad hz]; exact (h.may _).more (by omega)
theorem StoD.Fit.rename (h : s.Fit N) (a b : Nm) : (s.rename a b).2.Fit (N + 1) := by
  by_cases hz : (s.may (isNm a && isNm b)).1 = 0
  · rcases hf : dFind (s.may (isNm a && isNm b)).2.now a with _ | k
    · rw [rename_none hz hf]; exact (h.may _).more (by omega)
    · by_cases e : a = b
      · rw [rename_same hz hf e]; exact (h.may _).more (by omega)
      · rw [rename_some hz hf e]
        have hab := may_zero hz
        simp only [Bool.and_eq_true] at hab
        exact (h.may _).change ((h.may _).ok.nowI _ (dFind_mem hf)) ⟨isNm_len hab.1, isNm_len hab.2⟩
  · rw [rename_bad hz]; exact (h.may _).more (by omega)
theorem StoD.Fit.syncDir (h : s.Fit N) : s.syncDir.2.Fit N := by
  by_cases hz : (s.may true).1 = 0
  · rw [syncDir_ok hz]
    have hm := h.may true
    exact ⟨⟨hm.ok.nowI, hm.ok.nowI, fun c hc => by simp at hc, fun c hc => by simp at hc, hm.ok.nowR, hm.ok.nowR⟩, hm.nf, hm.nn, hm.nn, Nat.zero_le _, hm.fl, hm.r0, hm.r1⟩
  · rw [syncDir_bad hz]; exact h.may _
end
theorem StoD.Fit.new (room : Int) (h0 : 0 ≤ room) (h1 : room ≤ 16777216) : (StoD.new room).Fit 0 :=
  ⟨⟨fun e he => by simp [StoD.new] at he, fun e he => by simp [StoD.new] at he, fun e he => by simp [StoD.new] at he, fun e he => by simp [StoD.new] at he, List.Pairwise.nil, List.Pairwise.nil⟩, Nat.le_refl _, Nat.le_refl _, Nat.le_refl _, Nat.le_refl _, fun f hf => by simp [StoD.new] at hf, h0, h1⟩
end Go.Proofs.YtgjmfncebbfniaaGreatDoor
