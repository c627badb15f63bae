/- Package store: a file turns; Sync, Append. -/
/- Package store: Sync, Append. -/
/- Package store: Size. -/
import Derived.Test.YtgjmfncebbfniaaGreatDoorStoE
import Derived.Deep.RegionLaw
import Derived.Maps.RangeWalk
namespace Go.Proofs.YtgjmfncebbfniaaGreatDoor
set_option maxRecDepth 100000
open Go Go.RowKit Go.Maps

section
variable {w W : World} {B sb k n c : Nat} {S S' T : Nat → Prop} {fa : Nat → Nat} {fv : Nat → Value} {fs : List FileE} {V : StoV} {st : StoD} {v' : Value} {f f' : FileE} {A : Option Addr} {xs : List UInt8}
theorem PlanIs.keep' (h : PlanIs w S A n c xs) (hk : Kept T w W) (hT : 0 < n → ∀ ad, A = some ad → ¬ T ad.block) : PlanIs W S A n c xs := by
  have hn : 0 < n → ∀ ad, A = some ad → ad.block < w.heap.size := fun h0 ad e => by
    obtain ⟨ad', e', hb, _⟩ := h.rd.2 h0
    rw [e] at e'
    injection e' with e'
    subst e'
    exact hb
  refine ⟨⟨h.rd.1, fun h0 => ?_⟩, h.le, h.nl, fun h0 ad e => ⟨(h.sp h0 ad e).1, ?_⟩⟩
  · obtain ⟨ad, e, hb, hc⟩ := h.rd.2 h0
    have h2 := hT h0 ad e
    exact ⟨ad, e, Nat.lt_of_lt_of_le hb hk.size, fun j u hu => (hk.cell (p := ad.add j) (by rw [block_of_add]; exact hb) (by rw [block_of_add]; exact h2)).trans (hc j u hu)⟩
  · rw [Kept.tag hk (hn h0 ad e) (hT h0 ad e)]
    exact (h.sp h0 ad e).2
theorem FilesIs.turn (h : FilesIs w B S fa fv fs) (hk : k < fs.length) (hT : ∀ j, T j → j = fa k ∨ (fv k).ownBlock = some j) (hkp : Kept T w W) (hb : Blk W (fa k) 118 #[v', .int .i64 f'.sure]) (ho : OwnB W B v' f'.bytes)
    (hv : ∀ g, v'.ownBlock = some g → (fv k).ownBlock = some g ∨ w.heap.size ≤ g) (hS : ∀ j, S j → S' j) (hS' : ∀ g, v'.ownBlock = some g → S' g) (hlt : ∀ j, S j → j < w.heap.size) : FilesIs W B S' fa (fun j => if j = k then v' else fv j) (fs.set k f') := by
  have hget : ∀ j x, (fs.set k f')[j]? = some x → (j = k ∧ x = f') ∨ (j ≠ k ∧ fs[j]? = some x) := fun j x hx => by
    rw [List.getElem?_set] at hx
    by_cases e : k = j
    · rw [if_pos e, if_pos (by omega)] at hx; injection hx with hx; exact .inl ⟨e.symm, hx.symm⟩
    · rw [if_neg e] at hx; exact .inr ⟨fun h => e h.symm, hx⟩
  have hkf : fs[k]? = some fs[k] := List.getElem?_eq_getElem hk
  refine ⟨fun j x hx => ?_, fun j x hx => ?_, fun j hj => hS _ (h.sa j (by simpa using hj)), fun j hj g hg => ?_, fun i j hi hj e => h.inj i j (by simpa using hi) (by simpa using hj) e, fun i j g hi hj e1 e2 => ?_⟩
  · rcases hget j x hx with ⟨rfl, rfl⟩ | ⟨hne, hx⟩
    · simp only [if_true]; exact hb
    · rw [if_neg hne]
      have hj := (List.getElem?_eq_some_iff.1 hx).1
      refine (h.blk j x hx).kept hkp (fun ht => ?_)
      rcases hT _ ht with e | e
      · exact hne (h.inj _ _ hj hk e)
      · have h1 := own_tag (h.own k _ hkf) e
        rw [(h.blk j x hx).tag] at h1
        exact absurd h1 (by decide)
  · rcases hget j x hx with ⟨rfl, rfl⟩ | ⟨hne, hx⟩
    · simp only [if_true]; exact ho
    · rw [if_neg hne]
      have hj := (List.getElem?_eq_some_iff.1 hx).1
      refine OwnB.kept (h.own j x hx) hkp (fun g hg ht => ?_)
      rcases hT _ ht with e | e
      · have h1 := own_tag (h.own j x hx) hg
        rw [e, (h.blk k _ hkf).tag] at h1
        exact absurd h1 (by decide)
      · exact hne (h.ne _ _ g hj hk hg e)
  · simp only [List.length_set] at hj
    by_cases e : j = k
    · subst e
      simp only [if_true] at hg
      exact hS' g hg
    · rw [if_neg e] at hg
      exact hS _ (h.sv j hj g hg)
  · simp only [List.length_set] at hi hj
    by_cases ei : i = k <;> by_cases ej : j = k
    · rw [ei, ej]
    · subst ei
      simp only [if_true] at e1
      rw [if_neg ej] at e2
      rcases hv g e1 with e | e
      · exact h.ne _ _ g hi hj e e2
      · have := hlt g (h.sv j hj g e2); omega
    · subst ej
      rw [if_neg ei] at e1
      simp only [if_true] at e2
      rcases hv g e2 with e | e
      · exact h.ne _ _ g hi hj e1 e
      · have := hlt g (h.sv i hi g e1); omega
    · rw [if_neg ei] at e1
      rw [if_neg ej] at e2
      exact h.ne _ _ g hi hj e1 e2
theorem Sto.turn_file (h : Sto w B S sb V st) (hk : k < st.files.length) (hT : ∀ j, T j → j = V.fa k ∨ (V.fv k).ownBlock = some j) (hkp : Kept T w W) (hb : Blk W (V.fa k) 118 #[v', .int .i64 f'.sure]) (ho : OwnB W B v' f'.bytes)
    (hv : ∀ g, v'.ownBlock = some g → (V.fv k).ownBlock = some g ∨ w.heap.size ≤ g) (hS : ∀ j, S j → S' j) (hS' : ∀ g, v'.ownBlock = some g → S' g) (hlt : ∀ j, S' j → B ≤ j ∧ j < W.heap.size) :
    Sto W B S' sb { V with fv := fun j => if j = k then v' else V.fv j } { st with files := st.files.set k f' } := by
  have hkf : st.files[k]? = some st.files[k] := List.getElem?_eq_getElem hk
  have htag : ∀ j, T j → tag w j = tFile ∨ tag w j = tB := fun j hj => by
    rcases hT j hj with e | e
    · left; rw [e]; exact (h.files.blk k _ hkf).tag
    · right; exact own_tag (h.files.own k _ hkf) e
  have hoff : ∀ ts : List (Option TypeId), tFile ∉ ts → tB ∉ ts → Off w S T ts := fun ts h1 h2 j hj _ t ht e => by
    rcases htag j hj with e' | e'
    · exact h1 (by rw [← e', e]; exact ht)
    · exact h2 (by rw [← e', e]; exact ht)
  have hno : ∀ b' t, tag w b' = t → t ≠ tFile → t ≠ tB → ¬ T b' := fun b' t e h1 h2 ht => by
    rcases htag b' ht with e' | e'
    · exact h1 (by rw [← e, e'])
    · exact h2 (by rw [← e, e'])
  have hpl : 0 < V.pn → ∀ ad, V.pA = some ad → ¬ T ad.block := fun h0 ad e ht => by
    rcases hT _ ht with e' | e'
    · have h1 := (h.plan.sp h0 ad e).2
      rw [e', (h.files.blk k _ hkf).tag] at h1
      exact absurd h1 (by decide)
    · exact h.apart h0 ad e k hk e'
  refine ⟨h.blk.kept hkp (hno _ _ h.blk.tag (by decide) (by decide)), h.now.keep hkp (hno _ _ h.now.tag (by decide) (by decide)), h.disk.keep hkp (hno _ _ h.disk.tag (by decide) (by decide)),
    (h.kept.keep hkp (hoff _ (by decide) (by decide))).mono hS, h.files.turn hk hT hkp hb ho hv hS hS' (fun j hj => (h.lt j hj).2), (h.plan.keep' hkp hpl).mono hS, fun h0 ad e j hj => ?_, h.ne, hS _ h.ssb, hS _ h.snb, hS _ h.sdb, hlt⟩
  simp only [List.length_set] at hj
  show (if j = k then v' else V.fv j).ownBlock ≠ some ad.block
  by_cases ej : j = k
  · rw [if_pos ej]
    intro e2
    rcases hv _ e2 with e3 | e3
    · exact h.apart h0 ad e k hk e3
    · have := (h.lt _ (h.plan.sp h0 ad e).1).2; omega
  · rw [if_neg ej]
    exact h.apart h0 ad e j hj
end
end Go.Proofs.YtgjmfncebbfniaaGreatDoor

namespace Go.Proofs.YtgjmfncebbfniaaGreatDoor
set_option maxRecDepth 100000
open Go Go.RowKit Go.Maps

section
variable {st : StoD} {b : Bool} {n : Nm} {k : Nat}
theorem may_now : (st.may b).2.now = st.now := by
  unfold StoD.may; repeat' split
  all_goals rfl
theorem may_disk : (st.may b).2.disk = st.disk := by
  unfold StoD.may; repeat' split
  all_goals rfl
theorem may_files : (st.may b).2.files = st.files := by
  unfold StoD.may; repeat' split
  all_goals rfl
theorem may_kept : (st.may b).2.kept = st.kept := by
  unfold StoD.may; repeat' split
  all_goals rfl
theorem may_room : (st.may b).2.room = st.room := by
  unfold StoD.may; repeat' split
  all_goals rfl
theorem may_zero (h : (st.may b).1 = 0) : b = true := by
  cases b
  · rw [may_bad] at h; cases h
  · rfl
end
section
variable {w W : World} {B sb : Nat} {S T : Nat → Prop} {V : StoV} {st : StoD} {z : Int}
theorem WithPre.op (h : WithPre w B S sb V st T W) (hS : S sb) (hT : ∀ k, T k → S k) : OpPost w B S sb (.int .i64 z) st (.returned (.int .i64 z)) W := by
  obtain ⟨hk, A, n, c, hs⟩ := h
  exact ⟨rfl, hk.mono (fun k _ e => e.elim (fun e => by subst e; exact hS) (hT k)), S, _, hs, fun _ h => h, fun _ h => .inl h⟩
theorem noT {A : Option Addr} {n c : Nat} (hA : A = none) : ∀ k, (Value.slice A n c).ownBlock = some k → False := by
  subst hA; intro k h; simp [Value.ownBlock] at h
end
theorem sync_1 (W : World) (g : Nat) (A : Option Addr) (n c : Nat) (s : Int) (h : Blk W g 118 #[.slice A n c, .int .i64 s]) : Calls Tryz.prog 139 #[ptr g] W fun e W' => e = .returned (.int .i64 0) ∧ W.setCell ⟨g, 1, none⟩ (.int .i64 n) = W' := by
  have h0 := h.cell 0
  have h1 := h.cell 1
  have f1 := h.frozen 1
  go_enter Tryz.func139, Tryz.ntmps139
  go_wp2
  go_ret
  exact ⟨rfl, rfl⟩
theorem sync_bad {st : StoD} {n : Nm} (h : (st.may (isNm n)).1 ≠ 0) : st.sync n = st.may (isNm n) := by simp [StoD.sync, h]
theorem sync_none {st : StoD} {n : Nm} (h : (st.may (isNm n)).1 = 0) (hf : dFind (st.may (isNm n)).2.now n = none) : st.sync n = (4, (st.may (isNm n)).2) := by simp [StoD.sync, h, hf]
theorem sync_some {st : StoD} {n : Nm} {k : Nat} (h : (st.may (isNm n)).1 = 0) (hf : dFind (st.may (isNm n)).2.now n = some k) :
    st.sync n = (0, { (st.may (isNm n)).2 with files := (st.may (isNm n)).2.files.set k ⟨((st.may (isNm n)).2.file k).bytes, ((st.may (isNm n)).2.file k).bytes.length⟩ }) := by simp [StoD.sync, h, hf]
theorem all_one (n : Nm) : (([] : List Nm) ++ [n]).all isNm = isNm n := by simp
/-- The files that are named are there. -/
def StoD.NowOk (s : StoD) : Prop := ∀ e ∈ s.now, e.2 < s.files.length

set_option maxHeartbeats 1000000 in
theorem store_sync (w : World) (B : Nat) (S : Nat → Prop) (sb : Nat) (V : StoV) (st : StoD) (n : Nm) (h : Sto w B S sb V st) (hok : st.NowOk) :
    Calls Tryz.prog 71 #[ptr sb, str n] w (OpPost w B S sb (.int .i64 (st.sync n).1) (st.sync n).2) := by
  have HW := hide (store_with (fun z W => OpPost w B S sb (.int .i64 (st.sync n).1) (st.sync n).2 (.returned (.int .i64 z)) W) w B S sb V st 139 #[] (enters_of Tryz.func139 (by kernel_rfl) rfl)
    n [] none 0 0 w.heap.size (World.ownsRow_nil w _ _ _) (Nat.le_refl _) (by omega) (fun g hg => (noT rfl g hg).elim) h
    (fun W hz hp => by
      rw [all_one] at hz hp
      show OpPost _ _ _ _ _ _ _ _
      rw [all_one, sync_bad hz]
      exact hp.op h.ssb (fun k e => (noT rfl k e).elim))
    (fun W hz hf hp => by
      rw [all_one] at hz hp hf
      show OpPost _ _ _ _ _ _ _ _
      rw [sync_none hz hf]
      exact hp.op h.ssb (fun k e => (noT rfl k e).elim))
    (fun W k hz hf hp => by
      rw [all_one] at hz hp hf
      rw [sync_some hz hf]
      obtain ⟨hk, A, n', c', hs⟩ := hp
      have hkl : k < (st.may (isNm n)).2.files.length := by
        rw [may_now] at hf; rw [may_files]; exact hok _ (dFind_mem hf)
      have hkf : (st.may (isNm n)).2.files[k]? = some (st.may (isNm n)).2.files[k] := List.getElem?_eq_getElem hkl
      have hfile : (st.may (isNm n)).2.file k = (st.may (isNm n)).2.files[k] := by simp [StoD.file, List.getD, hkf]
      have hblk := hs.files.blk k _ hkf
      have hown := hs.files.own k _ hkf
      obtain ⟨A1, n1, c1, e1, hn1, hc1, hr1⟩ := hown.form2
      rw [hfile]
      have hblk' := hblk
      rw [e1] at hblk'
      refine (sync_1 W _ A1 n1 c1 _ hblk').mono ?_
      rintro e W' ⟨rfl, rfl⟩
      refine ⟨0, rfl, rfl, ?_, S, _, hs.turn_file (T := fun j => j = V.fa k) (f' := ⟨(st.may (isNm n)).2.files[k].bytes, (st.may (isNm n)).2.files[k].bytes.length⟩) (v' := V.fv k) hkl (fun j e => .inl e) (Kept.one _ _ _ _) ?_ (hown.kept (Kept.one _ (V.fa k) 1 (.int .i64 n1)) ?_) (fun g hg => .inl hg) (fun _ h => h) (fun g hg => hs.files.sv k hkl g hg) ?_, fun _ h => h, fun _ h => .inl h⟩
      · exact (hk.mono (S' := S) (fun k _ e => e.elim (fun e => by subst e; exact h.ssb) (fun e => (noT rfl k e).elim))).store (.inl (hs.files.sa k hkl)) _
      · have h9 := hblk.set_ 1 (.int .i64 n1)
        show Blk _ _ _ #[V.fv k, .int .i64 ((st.may (isNm n)).2.files[k].bytes.length : Int)]
        rw [← hn1.out]
        exact h9
      · intro g hg e
        have h8 := own_tag hown hg
        rw [e] at h8
        have h7 : tag W (V.fa k) = tFile := hblk.tag
        rw [h7] at h8
        exact absurd h8 (by decide)
      · intro j hj
        simpa [World.setCell] using hs.lt j hj))
  go_enter Tryz.func71, Tryz.ntmps71
  go_wp2_with (go_at_call 135; refine (unhide HW).mono ?_; rintro e w1 ⟨z, rfl, hq⟩; have HQ := hide hq; clear hq)
  go_ret
  exact HQ.out
end Go.Proofs.YtgjmfncebbfniaaGreatDoor

namespace Go.Proofs.YtgjmfncebbfniaaGreatDoor
set_option maxRecDepth 100000
open Go Go.RowKit Go.Maps

/-- What of a directory has come already, summed. -/
def sumD (f : Nat → Nat) (left : Lit → Bool) (d : Dir) : Nat := (d.map fun e => if left (.string e.1) = true then 0 else f e.2).sum
section
variable {f : Nat → Nat} {left : Lit → Bool} {x : Nm} {k : Nat}
theorem sumD_none {d : Dir} (h : ∀ e ∈ d, left (.string e.1) = true) : sumD f left d = 0 := by
  unfold sumD
  induction d with
  | nil => rfl
  | cons e r ih =>
    rw [List.map_cons, List.sum_cons, ih (fun e he => h e (List.mem_cons_of_mem _ he)), h e List.mem_cons_self]
    simp
theorem sumD_all {d : Dir} (h : ∀ kl, left kl = false) : sumD f left d = (d.map fun e => f e.2).sum := by
  unfold sumD; simp [h]
theorem sumD_le (d : Dir) : sumD f left d ≤ (d.map fun e => f e.2).sum := by
  unfold sumD
  induction d with
  | nil => simp
  | cons e r ih =>
    simp only [List.map_cons, List.sum_cons]
    split <;> omega
theorem sumD_skip {d : Dir} (h : ∀ e ∈ d, e.1 ≠ x) : sumD f (fun z => left z && !z.sameKey (.string x)) d = sumD f left d := by
  unfold sumD
  congr 1
  refine List.map_congr_left fun e he => ?_
  show (if (left (.string e.1) && !(Lit.string e.1).sameKey (.string x)) = true then 0 else f e.2) = _
  rw [sameKey_str]
  simp [h e he]
theorem sumD_step : ∀ {d : Dir}, Rising d → dFind d x = some k → left (.string x) = true → sumD f (fun z => left z && !z.sameKey (.string x)) d = sumD f left d + f k
  | [], _, h, _ => by cases h
  | e :: r, hr, h, hl => by
    obtain ⟨h1, h2⟩ := List.pairwise_cons.1 hr
    have hc : ∀ g : Lit → Bool, sumD f g (e :: r) = (if g (.string e.1) = true then 0 else f e.2) + sumD f g r := fun g => by simp [sumD]
    rw [dFind] at h
    rw [hc, hc]
    show (if (left (.string e.1) && !(Lit.string e.1).sameKey (.string x)) = true then 0 else f e.2) + _ = _
    rw [sameKey_str]
    by_cases he : e.1 = x
    · rw [if_pos he] at h
      injection h with h
      subst he h
      have hne : ∀ e' ∈ r, e'.1 ≠ e.1 := fun e' he' e2 => by
        have := h1 e' he'
        rw [e2] at this
        exact absurd this (List.lt_irrefl _)
      rw [sumD_skip hne]
      simp [hl]
      omega
    · rw [if_neg he] at h
      rw [sumD_step h2 h hl]
      simp [he]
      omega
end
theorem dFind_of_mem {e : Nm × Nat} : ∀ {d : Dir}, e ∈ d → (dFind d e.1).isSome = true
  | [], h => by simp at h
  | x :: r, h => by
    rw [dFind]
    by_cases hx : x.1 = e.1
    · rw [if_pos hx]; rfl
    · rw [if_neg hx]
      rcases List.mem_cons.1 h with e2 | e2
      · exact absurd (by rw [e2]) hx
      · exact dFind_of_mem e2
theorem sumD_start (f : Nat → Nat) (fa : Nat → Nat) (d : Dir) : sumD f (has (dirD fa d)) d = 0 := sumD_none fun e he => by rw [dirD_has]; exact dFind_of_mem he
def mkPtr : Option Nat → Value
  | none => .pointer none
  | some b => ptr b
theorem ptrR_shape {v : Value} {y : DataW Unit × List MemPlace} (h : ptrR v = some y) : ∃ c, v = mkPtr c := by
  unfold ptrR at h
  split at h
  · exact ⟨some _, rfl⟩
  · exact ⟨none, rfl⟩
  · cases h
theorem size_eq_sum (st : StoD) : st.size = (st.now.map fun e => (fun k => (st.file k).bytes.length) e.2).sum := rfl

set_option maxHeartbeats 1000000 in
theorem store_size (w : World) (B : Nat) (S : Nat → Prop) (sb : Nat) (V : StoV) (st : StoD) (h : Sto w B S sb V st) (hok : st.NowOk) (hr : Rising st.now) (hsz : st.size ≤ lim) :
    Calls Tryz.prog 137 #[ptr sb] w fun e W => e = .returned (.int .i64 st.size) ∧ Below w.heap.size w W := by
  have hc1 := h.blk.cell 1
  have hsb := (h.lt sb h.ssb).2
  have hnow := hide h.now
  have H := hide h
  have HR := hide hr
  have HOK := hide hok
  have HSZ := hide hsz
  clear h hr hok hsz
  go_enter Tryz.func137, Tryz.ntmps137
  go_wp2_with (at_range; refine wpList_range_own _ rfl _ 92 rfl 9 116 strK Tryz.underlying92 ptrR V.nb st.now.length (dirD V.fa st.now) rfl (unhide hnow) ?_; intro w0 hrg0 hg0 hs0)
  go_frame
  have hb0 : Below w.heap.size w w0 := ⟨hg0.os, hg0.tape, hg0.output, hg0.size, fun j hj => hg0.block j hj (by simp)⟩
  have HB0 := hide hb0
  have HRG0 := hide hrg0
  clear hg0 hs0 hb0 hrg0 hc1
  go_loopw [3] (fun a wr => ∃ (left : Lit → Bool) (cnt : Nat), a = .int .i64 (sumD (fun k => (st.file k).bytes.length) left st.now) ∧ Hid (wr.ranges Tryz.prog 9 ptrR V.nb w.heap.size st.now.length (dirD V.fa st.now) left cnt) ∧ Below w.heap.size w wr)
    (fun _ wr => wr.rangeLeft V.nb w.heap.size)
  case atStart => exact ⟨has (dirD V.fa st.now), _, by rw [sumD_start]; rfl, HRG0, HB0.out⟩
  case round =>
    obtain ⟨left, cnt, rfl, hrg, hb⟩ := hrel
    go_wp2_with (at_next; refine wpList_next_ranges _ rfl _ rfl 9 strK ptrR (fun x : List UInt8 => str x) mkPtr (fun key kl hk => by obtain ⟨x, hx, _⟩ := Maps.keyOf_str Tryz.underlying9 hk; exact ⟨x, hx⟩) (fun v y hv => ptrR_shape hv) V.nb w.heap.size st.now.length _ _ _ rfl (unhide hrg) ?_ ?_)
    · intro _ hl0
      have e1 : sumD (fun k => (st.file k).bytes.length) left st.now = st.size := by rw [sumD_all hl0]; rfl
      have HE := hide e1
      clear e1 hl0
      go_wp2
      go_ret
      rw [HE.out]
      exact ⟨rfl, hb⟩
    · intro x c kl y ps w1 cnt1 hkey hlx hv hat hrg1 hlt hg1 hs1 hen
      obtain ⟨x', hx', rfl, _⟩ := Maps.keyOf_str Tryz.underlying9 hkey
      obtain ⟨k, hf⟩ : ∃ k, dFind st.now x' = some k := by
        rcases hf : dFind st.now x' with _ | k
        · have h1 := hat .nil
          have h2 := hat (.lit (.bool true))
          rw [dirD_at, hf] at h1 h2
          simp only at h1 h2
          rw [← h1] at h2
          cases h2
        · exact ⟨k, rfl⟩
      have h1 := hat .nil
      rw [dirD_at, hf] at h1
      simp only at h1
      subst h1
      have hc := ptrR_inv hv
      obtain rfl : c = some (V.fa k) := by
        rcases c with _ | b
        · cases hc
        · have : b = V.fa k := by injection hc with hc; injection hc with hc; injection hc
          rw [this]
      have hkl : k < st.files.length := HOK.out _ (dFind_mem hf)
      have hkf : st.files[k]? = some st.files[k] := List.getElem?_eq_getElem hkl
      have hfile : st.file k = st.files[k] := by simp [StoD.file, List.getD, hkf]
      have hb1 : Below w.heap.size w w1 := hb.grown hg1 hb.size (fun j hj => by injection hj with hj; omega)
      have hs1' := H.out.call hb1
      have hown := hs1'.files.own k _ hkf
      obtain ⟨A1, n1, c1, e1, hn1, hcc, hr1⟩ := hown.form2
      have hcell : w1.cell? ⟨V.fa k, 0, none⟩ = some (.slice A1 n1 c1) := by
        have h9 := (hs1'.files.blk k _ hkf).cell 0
        rw [e1] at h9
        exact h9
      have hst := sumD_step (f := fun k => (st.file k).bytes.length) HR.out hf hlx
      have hle := sumD_le (f := fun k => (st.file k).bytes.length) (left := fun z => left z && !z.sameKey (.string x')) st.now
      have hle2 : sumD (fun k => (st.file k).bytes.length) left st.now + n1 ≤ lim := by
        have h8 : (st.now.map fun e => (st.file e.2).bytes.length).sum ≤ lim := HSZ.out
        rw [hst] at hle
        have hq : n1 = (st.file k).bytes.length := by rw [hn1.out, hfile]
        omega
      have hle3 := lim_le hle2
      have hq : n1 = (st.file k).bytes.length := by rw [hn1.out, hfile]
      have HQ := hide hq
      have HST := hide hst
      have HRG1 := hide hrg1
      have HLT := hide hlt
      obtain ⟨acc, hacc⟩ : ∃ acc, acc = sumD (fun k => (st.file k).bytes.length) left st.now := ⟨_, rfl⟩
      rw [← hacc] at hle3 HST ⊢
      have HACC := hide hacc
      clear hq hst hrg1 hlt hacc hle hle2 hat hv hkey hlx hf hkf hfile hn1 hs1' hown hr1 hcc hg1 hc hkl e1
      have hen' : (Instr.entry (.pointer (some ⟨w.heap.size, 0, none⟩))).run Tryz.prog w1 = .ok (.tuple #[str x, ptr (V.fa k)]) w1 := hen
      clear hen
      show wpList _ _ _ _ _ _
      go_wp2
      go_roundw
      case rel => exact ⟨_, cnt1, by rw [HST.out, ← HQ.out]; go_num, HRG1, hb1⟩
      case measure => rw [HRG1.out.left_eq, hrg.out.left_eq]; exact HLT.out
end Go.Proofs.YtgjmfncebbfniaaGreatDoor
