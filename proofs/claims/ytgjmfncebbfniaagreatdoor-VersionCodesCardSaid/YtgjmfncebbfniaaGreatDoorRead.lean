/- Contracts of the closures that package version's Decode reads by. -/
import Derived.Test.YtgjmfncebbfniaaGreatDoorKept
import Derived.Lib.Hide
namespace Go.Proofs.YtgjmfncebbfniaaGreatDoor
set_option maxRecDepth 100000
open Go Go.RowKit

def NumPost (w : World) (B bb am : Nat) (r : Int × (Bool × List UInt8)) (e : Ending) (W : World) : Prop := e = .returned (.int .i64 r.1) ∧ RdSt W B bb am r.2 ∧ Kept (Two bb am) w W
def TxtPost (w : World) (B bb am : Nat) (r : List UInt8 × (Bool × List UInt8)) (e : Ending) (W : World) : Prop :=
  (∃ A n c, e = .returned (.slice A n c) ∧ RdB W B A n r.1 ∧ n ≤ c) ∧ RdSt W B bb am r.2 ∧ Kept (Two bb am) w W

theorem rdN_none {most : Int} {a : Bool} {ys : List UInt8} (h : take7 ys = none) : rdN most (a, ys) = (0, (true, ys)) := by unfold rdN; simp only; rw [h]
theorem rdN_some {most n : Int} {a : Bool} {ys rest : List UInt8} (h : take7 ys = some (n, rest)) : rdN most (a, ys) = if a = true ∨ most < n then (0, (true, ys)) else (n, (false, rest)) := by unfold rdN; simp only; rw [h]
theorem rdT_none {a : Bool} {ys : List UInt8} (h : takeT ys = none) : rdT (a, ys) = ([], (true, ys)) := by unfold rdT; simp only; rw [h]
theorem rdT_some {t : List UInt8} {a : Bool} {ys rest : List UInt8} (h : takeT ys = some (t, rest)) : rdT (a, ys) = if a = true then ([], (true, ys)) else (t, (false, rest)) := by unfold rdT; simp only; rw [h]

theorem takeT_len {xs t rest : List UInt8} (h : takeT xs = some (t, rest)) : rest.length < xs.length := by
  have := takeT_sound h
  rw [this, text7, List.length_append, List.length_append]
  have hp : 0 < (num7 t.length).length := by
    have := numUp_ge (t.length / 128) [UInt8.ofNat (t.length % 128)]
    unfold num7
    simp at this; omega
  omega
theorem decode_number (most : Int) (B bb am : Nat) (s : Bool × List UInt8) (w : World) (hm0 : 0 ≤ most) (hm1 : most ≤ 1099511627776) (hst : RdSt w B bb am s) :
    Calls Tryz.prog 39 #[.int .i64 most, .pointer (some ⟨bb, 0, none⟩), .pointer (some ⟨am, 0, none⟩)] w (NumPost w B bb am (rdN most s)) := by
  obtain ⟨a, ys⟩ := s
  obtain ⟨A, n, c, hbb, hr, hnc, hlen⟩ := hst.ex
  have htake := code_takeNumber A n c ys B w hlen hnc hr.1
  have hqb := hbb.cell 0
  have hfa : ∀ W, Below w.heap.size w W → W.frozen? ⟨am, 0, none⟩ = false := fun W hb => (hst.am.below hb hst.am.lt).frozen 0
  have hfb : ∀ W, Below w.heap.size w W → W.frozen? ⟨bb, 0, none⟩ = false := fun W hb => (hbb.below hb hbb.lt).frozen 0
  rcases hT : take7 ys with _ | ⟨m, rest⟩
  · rw [hT] at htake
    have HK := hide htake
    have HR := hide (rdN_none (most := most) (a := a) hT)
    have HF := hide hfa
    clear hT htake hfa hfb
    cases a
    all_goals
      go_enter Tryz.func39, Tryz.ntmps39
      go_wp2_with (go_at_call 40; refine (unhide HK).mono ?_; rintro e w1 ⟨hb1, rfl⟩; have hst1 := hst.call hb1; have hqa := hst1.am.cell 0; have hfa := HF.out w1 hb1)
      go_ret
      rw [HR.out]
      exact ⟨rfl, hst1.set_a true, ((Kept.refl _ _).call hb1).store (.inl (.inr rfl)) _⟩
  · rw [hT] at htake
    have hml := take7_len hT
    have hn : n = ys.length := hr.len
    have hrl : rest.length ≤ n := by omega
    have HK := hide htake
    have HR := hide (rdN_some (most := most) (a := a) hT)
    have HF := hide hfa
    have HFb := hide hfb
    clear hT htake hfa hfb hml hn
    by_cases hbad : a = true ∨ most < m
    · rw [if_pos hbad] at HR
      have hcase : a = true ∨ (a = false ∧ most < m) := by cases a <;> simp_all
      rcases hcase with rfl | ⟨rfl, hlt⟩
      all_goals
        clear hbad
        go_enter Tryz.func39, Tryz.ntmps39
        go_wp2_with (go_at_call 40; refine (unhide HK).mono ?_; rintro e w1 ⟨hb1, A1, m1, c1, rfl, hr1, hmc1, h0, h1⟩; have hst1 := hst.call hb1; have hqa := hst1.am.cell 0; have hfa := HF.out w1 hb1)
        go_ret
        rw [HR.out]
        exact ⟨rfl, hst1.set_a true, ((Kept.refl _ _).call hb1).store (.inl (.inr rfl)) _⟩
    · rw [if_neg hbad] at HR
      have ha : a = false := by cases a <;> simp_all
      subst ha
      have hge : m ≤ most := by
        rcases Int.lt_or_le most m with h | h
        · exact absurd (.inr h) hbad
        · exact h
      clear hbad
      have hd : decide (most < m) = false := by simp; omega
      have HD := hide hd
      clear hd
      go_enter Tryz.func39, Tryz.ntmps39
      go_wp2_with (go_at_call 40; refine (unhide HK).mono ?_; rintro e w1 ⟨hb1, A1, m1, c1, rfl, hr1, hmc1, h0, h1⟩; have hst1 := hst.call hb1; have hqa := hst1.am.cell 0; have hfa := HF.out w1 hb1; have hst2 := hst1.set_a (decide (most < m)); have hqa2 := hst2.am.cell 0; have hbb2 := (hbb.below hb1 hbb.lt).far (p := ⟨am, 0, none⟩) hst1.ne_ (.bool (decide (most < m))); have hqb2 := hbb2.cell 0; have hfb2 := hbb2.frozen 0)
      go_ret
      rw [HR.out]
      have hl1 := hr1.len
      have hk : Kept (Two bb am) w1 (w1.setCell ⟨am, 0, none⟩ (.bool (decide (most < m)))) := (Kept.refl _ _).store (.inl (.inr rfl)) _
      have hst3 := hst2.set_b (hr1.kept hk (Two.free hst1)) hmc1 (Nat.le_trans (by omega) hlen)
      have e : (decide (most < m), rest) = (false, rest) := by rw [HD.out]
      exact ⟨rfl, e ▸ hst3, ((((Kept.refl _ _).call hb1).store (.inl (.inr rfl)) _).store (.inl (.inl rfl)) _)⟩

theorem decode_text (B bb am : Nat) (s : Bool × List UInt8) (w : World) (hst : RdSt w B bb am s) :
    Calls Tryz.prog 41 #[.pointer (some ⟨bb, 0, none⟩), .pointer (some ⟨am, 0, none⟩)] w (TxtPost w B bb am (rdT s)) := by
  obtain ⟨a, ys⟩ := s
  obtain ⟨A, n, c, hbb, hr, hnc, hlen⟩ := hst.ex
  have htake := code_takeText A n c ys B w hlen hnc hr.1
  have hqb := hbb.cell 0
  have HF : Hid (∀ W, Below w.heap.size w W → W.frozen? ⟨am, 0, none⟩ = false) := fun W hb => (hst.am.below hb hst.am.lt).frozen 0
  rcases hT : takeT ys with _ | ⟨t, rest⟩
  · rw [hT] at htake
    have HK := hide htake
    have HR := hide (rdT_none (a := a) hT)
    clear hT htake
    cases a
    all_goals
      go_enter Tryz.func41, Tryz.ntmps41
      go_wp2_with (go_at_call 42; refine (unhide HK).mono ?_; rintro e w1 ⟨hb1, rfl⟩; have hst1 := hst.call hb1; have hqa := hst1.am.cell 0; have hfa := HF.out w1 hb1)
      go_ret
      rw [HR.out]
      exact ⟨⟨none, 0, 0, rfl, RdB.zero rfl rfl, Nat.le_refl _⟩, hst1.set_a true, ((Kept.refl _ _).call hb1).store (.inl (.inr rfl)) _⟩
  · rw [hT] at htake
    have hml := takeT_len hT
    have hn : n = ys.length := hr.len
    have hrl : rest.length ≤ n := by omega
    have HK := hide htake
    have HR := hide (rdT_some (a := a) hT)
    clear hT htake hml hn
    cases a
    · go_enter Tryz.func41, Tryz.ntmps41
      go_wp2_with (go_at_call 42; refine (unhide HK).mono ?_; rintro e w1 ⟨hb1, A1, m1, c1, A2, m2, c2, rfl, hr1, hmc1, hr2, hmc2⟩; have hst1 := hst.call hb1; have hqa := hst1.am.cell 0; have hfa := HF.out w1 hb1; have hst2 := hst1.set_a false; have hqa2 := hst2.am.cell 0; have hbb2 := (hbb.below hb1 hbb.lt).far (p := ⟨am, 0, none⟩) hst1.ne_ (.bool false); have hqb2 := hbb2.cell 0; have hfb2 := hbb2.frozen 0)
      go_ret
      rw [HR.out]
      have hl1 := hr2.len
      have hk : Kept (Two bb am) w1 (w1.setCell ⟨am, 0, none⟩ (.bool false)) := (Kept.refl _ _).store (.inl (.inr rfl)) _
      have hst3 := hst2.set_b (hr2.kept hk (Two.free hst1)) hmc2 (Nat.le_trans (by omega) hlen)
      have hk2 : Kept (Two bb am) (w1.setCell ⟨am, 0, none⟩ (.bool false)) ((w1.setCell ⟨am, 0, none⟩ (.bool false)).setCell ⟨bb, 0, none⟩ (.slice A2 m2 c2)) := (Kept.refl _ _).store (.inl (.inl rfl)) _
      exact ⟨⟨A1, m1, c1, rfl, (hr1.kept hk (Two.free hst1)).kept hk2 (Two.free hst2), hmc1⟩, hst3, ((((Kept.refl _ _).call hb1).store (.inl (.inr rfl)) _).store (.inl (.inl rfl)) _)⟩
    · go_enter Tryz.func41, Tryz.ntmps41
      go_wp2_with (go_at_call 42; refine (unhide HK).mono ?_; rintro e w1 ⟨hb1, A1, m1, c1, A2, m2, c2, rfl, hr1, hmc1, hr2, hmc2⟩; have hst1 := hst.call hb1; have hqa := hst1.am.cell 0; have hfa := HF.out w1 hb1)
      go_ret
      rw [HR.out]
      exact ⟨⟨none, 0, 0, rfl, RdB.zero rfl rfl, Nat.le_refl _⟩, hst1.set_a true, ((Kept.refl _ _).call hb1).store (.inl (.inr rfl)) _⟩
end Go.Proofs.YtgjmfncebbfniaaGreatDoor
