/- Contracts of the reference's Cut.Number and Cut.Text; the plain decoding of the reference. -/
import Derived.Test.YtgjmfncebbfniaaGreatDoorOwnF
import Derived.Test.YtgjmfncebbfniaaGreatDoorTake
import Derived.Test.YtgjmfncebbfniaaGreatDoorRead
namespace Go.Proofs.YtgjmfncebbfniaaGreatDoor
set_option maxRecDepth 100000
open Go Go.RowKit

/-- The reference's reader: a Cut in the block cb. -/
structure RdC (W : World) (B cb : Nat) (s : Bool × List UInt8) : Prop where
  ex : ∃ A n c, Blk W cb 87 #[.slice A n c, .bool s.1] ∧ RdB W B A n s.2 ∧ n ≤ c ∧ n ≤ lim
  le : B ≤ cb
section
variable {W W1 : World} {B cb : Nat} {s : Bool × List UInt8}
theorem RdC.free (h : RdC W B cb s) : Free5 W B (fun k => k = cb) := by
  obtain ⟨A, n, c, hb, _⟩ := h.ex
  exact Free5.blk hb h.le (by decide)
theorem RdC.call (h : RdC W B cb s) (hb : Below W.heap.size W W1) : RdC W1 B cb s := by
  obtain ⟨A, n, c, h1, h2, h3, h4⟩ := h.ex
  exact ⟨⟨A, n, c, h1.below hb h1.lt, h2.lift hb, h3, h4⟩, h.le⟩
theorem RdC.kept {S : Nat → Prop} (h : RdC W B cb s) (hk : Kept S W W1) (hb : ¬ S cb) (hs : Free5 W B S) : RdC W1 B cb s := by
  obtain ⟨A, n, c, h1, h2, h3, h4⟩ := h.ex
  exact ⟨⟨A, n, c, h1.kept hk hb, h2.kept hk hs, h3, h4⟩, h.le⟩
theorem RdC.set_b (h : RdC W B cb s) {A : Option Addr} {n c : Nat} {ys : List UInt8} (hr : RdB W B A n ys) (hc : n ≤ c) (hl : n ≤ lim) : RdC (W.setCell ⟨cb, 0, none⟩ (.slice A n c)) B cb (s.1, ys) := by
  have hf := h.free
  obtain ⟨A0, n0, c0, h1, _⟩ := h.ex
  exact ⟨⟨A, n, c, h1.set_ 0 _, hr.kept (Kept.one _ _ _ _) hf, hc, hl⟩, h.le⟩
theorem RdC.set_a (h : RdC W B cb s) (x : Bool) : RdC (W.setCell ⟨cb, 1, none⟩ (.bool x)) B cb (x, s.2) := by
  have hf := h.free
  obtain ⟨A0, n0, c0, h1, h2, h3, h4⟩ := h.ex
  exact ⟨⟨A0, n0, c0, h1.set_ 1 _, h2.kept (Kept.one _ _ _ _) hf, h3, h4⟩, h.le⟩
end
def NumC (w : World) (B cb : Nat) (r : Int × (Bool × List UInt8)) (e : Ending) (W : World) : Prop := e = .returned (.int .i64 r.1) ∧ RdC W B cb r.2 ∧ Kept (fun k => k = cb) w W
def TxtC (w : World) (B cb : Nat) (r : List UInt8 × (Bool × List UInt8)) (e : Ending) (W : World) : Prop :=
  (∃ A n c, e = .returned (.slice A n c) ∧ RdB W B A n r.1 ∧ n ≤ c) ∧ RdC W B cb r.2 ∧ Kept (fun k => k = cb) w W

theorem cut_number (B cb : Nat) (s : Bool × List UInt8) (w : World) (hst : RdC w B cb s) :
    Calls Tryz.prog 43 #[.pointer (some ⟨cb, 0, none⟩)] w (NumC w B cb (rdN 1099511627776 s)) := by
  obtain ⟨a, ys⟩ := s
  obtain ⟨A, n, c, hbb, hr, hnc, hlen⟩ := hst.ex
  have htake := ref_takeNumber A n c ys B w hlen hnc hr
  have hqb := hbb.cell
  rcases hT : take7 ys with _ | ⟨m, rest⟩
  · rw [hT] at htake
    have HK := hide htake
    have HR := hide (rdN_none (most := 1099511627776) (a := a) hT)
    clear hT htake
    cases a
    all_goals
      go_enter Tryz.func43, Tryz.ntmps43
      go_wp2_with (go_at_call 99; refine (unhide HK).mono ?_; rintro e w1 ⟨hb1, rfl⟩; have hst1 := hst.call hb1; have hbb1 := hbb.below hb1 hbb.lt; have hq1 := hbb1.cell; have hz1 := hbb1.frozen)
      go_ret
      rw [HR.out]
      exact ⟨rfl, hst1.set_a true, ((Kept.refl _ _).call hb1).trans (Kept.one _ _ _ _)⟩
  · have hml := take7_len hT
    have hn : n = ys.length := hr.len
    have hrl : rest.length ≤ n := by omega
    rw [hT] at htake
    have HK := hide htake
    have HR := hide (rdN_some (most := 1099511627776) (a := a) hT)
    clear hT htake hml hn
    by_cases hbad : a = true ∨ 1099511627776 < m
    · rw [if_pos hbad] at HR
      have hcase : a = true ∨ (a = false ∧ 1099511627776 < m) := by cases a <;> simp_all
      rcases hcase with rfl | ⟨rfl, hlt⟩
      all_goals
        clear hbad
        go_enter Tryz.func43, Tryz.ntmps43
        go_wp2_with (go_at_call 99; refine (unhide HK).mono ?_; rintro e w1 ⟨hb1, A1, m1, c1, rfl, hr1, hmc1, h0, h1⟩; have hst1 := hst.call hb1; have hbb1 := hbb.below hb1 hbb.lt; have hq1 := hbb1.cell; have hz1 := hbb1.frozen)
        go_ret
        rw [HR.out]
        exact ⟨rfl, hst1.set_a true, ((Kept.refl _ _).call hb1).trans (Kept.one _ _ _ _)⟩
    · rw [if_neg hbad] at HR
      have ha : a = false := by cases a <;> simp_all
      subst ha
      have hge : m ≤ 1099511627776 := by
        rcases Int.lt_or_le 1099511627776 m with h | h
        · exact absurd (.inr h) hbad
        · exact h
      clear hbad
      go_enter Tryz.func43, Tryz.ntmps43
      go_wp2_with (go_at_call 99; refine (unhide HK).mono ?_; rintro e w1 ⟨hb1, A1, m1, c1, rfl, hr1, hmc1, h0, h1⟩; have hst1 := hst.call hb1; have hbb1 := hbb.below hb1 hbb.lt; have hq1 := hbb1.cell; have hz1 := hbb1.frozen)
      go_ret
      rw [HR.out]
      have hl1 := hr1.len
      exact ⟨rfl, hst1.set_b hr1 hmc1 (Nat.le_trans (by omega) hlen), ((Kept.refl _ _).call hb1).trans (Kept.one _ _ _ _)⟩

theorem cut_text (B cb : Nat) (s : Bool × List UInt8) (w : World) (hst : RdC w B cb s) :
    Calls Tryz.prog 44 #[.pointer (some ⟨cb, 0, none⟩)] w (TxtC w B cb (rdT s)) := by
  obtain ⟨a, ys⟩ := s
  obtain ⟨A, n, c, hbb, hr, hnc, hlen⟩ := hst.ex
  have htake := ref_takeText A n c ys B w hlen hnc hr
  have hqb := hbb.cell
  rcases hT : takeT ys with _ | ⟨t, rest⟩
  · rw [hT] at htake
    have HK := hide htake
    have HR := hide (rdT_none (a := a) hT)
    clear hT htake
    cases a
    all_goals
      go_enter Tryz.func44, Tryz.ntmps44
      go_wp2_with (go_at_call 100; refine (unhide HK).mono ?_; rintro e w1 ⟨hb1, rfl⟩; have hst1 := hst.call hb1; have hbb1 := hbb.below hb1 hbb.lt; have hq1 := hbb1.cell; have hz1 := hbb1.frozen)
      go_ret
      rw [HR.out]
      exact ⟨⟨none, 0, 0, rfl, RdB.zero rfl rfl, Nat.le_refl _⟩, hst1.set_a true, ((Kept.refl _ _).call hb1).trans (Kept.one _ _ _ _)⟩
  · have hml := takeT_len hT
    have hn : n = ys.length := hr.len
    have hrl : rest.length ≤ n := by omega
    rw [hT] at htake
    have HK := hide htake
    have HR := hide (rdT_some (a := a) hT)
    clear hT htake hml hn
    cases a
    · go_enter Tryz.func44, Tryz.ntmps44
      go_wp2_with (go_at_call 100; refine (unhide HK).mono ?_; rintro e w1 ⟨hb1, A1, m1, c1, A2, m2, c2, rfl, hr1, hmc1, hr2, hmc2⟩; have hst1 := hst.call hb1; have hbb1 := hbb.below hb1 hbb.lt; have hq1 := hbb1.cell; have hz1 := hbb1.frozen)
      go_ret
      rw [HR.out]
      have hl1 := hr2.len
      exact ⟨⟨A1, m1, c1, rfl, hr1.kept (Kept.one _ _ _ _) hst1.free, hmc1⟩, hst1.set_b hr2 hmc2 (Nat.le_trans (by omega) hlen), ((Kept.refl _ _).call hb1).trans (Kept.one _ _ _ _)⟩
    · go_enter Tryz.func44, Tryz.ntmps44
      go_wp2_with (go_at_call 100; refine (unhide HK).mono ?_; rintro e w1 ⟨hb1, A1, m1, c1, A2, m2, c2, rfl, hr1, hmc1, hr2, hmc2⟩; have hst1 := hst.call hb1; have hbb1 := hbb.below hb1 hbb.lt; have hq1 := hbb1.cell; have hz1 := hbb1.frozen)
      go_ret
      rw [HR.out]
      exact ⟨⟨none, 0, 0, rfl, RdB.zero rfl rfl, Nat.le_refl _⟩, hst1.set_a true, ((Kept.refl _ _).call hb1).trans (Kept.one _ _ _ _)⟩

/-! The plain decoding of the reference: it ends where something is amiss. -/
def rdFsR : Nat → Bool × List UInt8 → List FileD × (Bool × List UInt8)
  | 0, s => ([], s)
  | k + 1, s => if s.1 = true then ([], s) else ((rdF 1099511627776 1099511627776 s).1 :: (rdFsR k (rdF 1099511627776 1099511627776 s).2).1, (rdFsR k (rdF 1099511627776 1099511627776 s).2).2)
def rdIntsR : Nat → Bool × List UInt8 → List Int × (Bool × List UInt8)
  | 0, s => ([], s)
  | k + 1, s => if s.1 = true then ([], s) else ((rdN 1099511627776 s).1 :: (rdIntsR k (rdN 1099511627776 s).2).1, (rdIntsR k (rdN 1099511627776 s).2).2)
def rdEditR (b : List UInt8) : EditD × (Bool × List UInt8) :=
  let a := rdN 1099511627776 (false, b)
  let fs := rdFsR (min a.1.toNat 51) a.2
  let c := rdN 1099511627776 fs.2
  let ds := rdIntsR (min c.1.toNat 51) c.2
  let l := rdN 1099511627776 ds.2
  let n := rdN 1099511627776 l.2
  (⟨fs.1, ds.1, l.1, n.1⟩, n.2)
def decR (b : List UInt8) : Option EditD := if (rdEditR b).2.1 = true ∨ okEdit (rdEditR b).1 = false ∨ encEdit (rdEditR b).1 ≠ b then none else some (rdEditR b).1
theorem rdFsR_enc (fs : List FileD) (hf : ∀ f ∈ fs, okFile f = true) (r : List UInt8) : rdFsR fs.length (false, fs.flatMap encFile ++ r) = (fs, (false, r)) := by
  induction fs with
  | nil => simp [rdFsR]
  | cons f t ih =>
    have i := ih (fun x hx => hf x (List.mem_cons_of_mem _ hx))
    have e : (f :: t).flatMap encFile ++ r = encFile f ++ (t.flatMap encFile ++ r) := by simp
    rw [e]
    simp only [List.length_cons, rdFsR, rdF_enc (mn := 1099511627776) (ml := 1099511627776) f (hf f (List.mem_cons_self ..)) (by omega) (by omega), i]
    simp
theorem rdIntsR_enc (zs : List Int) (hz : ∀ z ∈ zs, 1 ≤ z ∧ z ≤ 999999) (r : List UInt8) : rdIntsR zs.length (false, encInts zs ++ r) = (zs, (false, r)) := by
  induction zs with
  | nil => simp [rdIntsR, encInts]
  | cons z t ih =>
    have i := ih (fun x hx => hz x (List.mem_cons_of_mem _ hx))
    have h := hz z (List.mem_cons_self ..)
    have e : encInts (z :: t) ++ r = num7 z.toNat ++ (encInts t ++ r) := by simp [encInts]
    rw [e]
    simp only [List.length_cons, rdIntsR, rdN_num7 (n := z) (r := encInts t ++ r) (most := 1099511627776) (by omega) (by omega) (by omega), i]
    simp
theorem rdEditR_enc (e : EditD) (h : okEdit e = true) : rdEditR (encEdit e) = (e, (false, [])) := by
  obtain ⟨h1, h2, h3, h4, h5, h6, h7, h8⟩ := okEdit_iff.1 h
  have ee : encEdit e = num7 (e.add.length : Int).toNat ++ (e.add.flatMap encFile ++ (num7 (e.drop.length : Int).toNat ++ (encInts e.drop ++ (num7 e.log.toNat ++ (num7 e.next.toNat ++ []))))) := by simp [encEdit, encInts]
  unfold rdEditR
  simp only
  rw [ee, rdN_num7 (n := (e.add.length : Int)) (by omega) (by omega) (by omega)]
  simp only [Int.toNat_natCast]
  rw [Nat.min_eq_left (by omega), rdFsR_enc e.add h7]
  simp only
  rw [show (num7 e.drop.length : List UInt8) = num7 ((e.drop.length : Int)).toNat from rfl, rdN_num7 (n := (e.drop.length : Int)) (by omega) (by omega) (by omega)]
  simp only [Int.toNat_natCast]
  rw [Nat.min_eq_left (by omega), rdIntsR_enc e.drop h8]
  simp only
  rw [rdN_num7 (n := e.log) (by omega) (by omega) (by omega)]
  simp only
  rw [rdN_num7 (n := e.next) (by omega) (by omega) (by omega)]
theorem decR_eq (b : List UInt8) : decR b = decP b := by
  have iff : ∀ e, decR b = some e ↔ okEdit e = true ∧ b = encEdit e := by
    intro e
    constructor
    · intro h
      unfold decR at h
      split at h
      · cases h
      · rename_i hno
        simp only [Option.some.injEq] at h
        subst h
        have hok : okEdit (rdEditR b).1 = true := by
          cases hh : okEdit (rdEditR b).1
          · exact absurd (Or.inr (Or.inl hh)) hno
          · rfl
        refine ⟨hok, ?_⟩
        by_cases hh : encEdit (rdEditR b).1 = b
        · exact hh.symm
        · exact absurd (Or.inr (Or.inr hh)) hno
    · rintro ⟨h, rfl⟩
      unfold decR
      rw [rdEditR_enc e h]
      simp [h]
  rcases h : decP b with _ | e
  · rcases h' : decR b with _ | e'
    · rfl
    · have := (decP_iff b e').2 ((iff e').1 h')
      rw [h] at this; cases this
  · exact (iff e).2 ((decP_iff b e).1 h)
end Go.Proofs.YtgjmfncebbfniaaGreatDoor
