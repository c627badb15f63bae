/- The reference's taking of a number, plain, and that it is the program's. -/
/- Contracts of the reference's takings of numbers and texts. -/
import Derived.Test.YtgjmfncebbfniaaGreatDoorCode
import Derived.BigQuiet
import Derived.Deep.DeepMust
namespace Go.Proofs.YtgjmfncebbfniaaGreatDoor
set_option maxRecDepth 100000
open Go Go.RowKit
def takeR (b0 : UInt8) : Nat → List UInt8 → Int → Option (Int × List UInt8)
  | _, [], _ => none
  | k, c :: r, n => if 10 ≤ k ∨ 144115188075855871 < n then none
      else if c < 128 then (if 0 < k ∧ b0 = 128 then none else some (n * 128 + (c.toNat : Int) % 128, r)) else takeR b0 (k + 1) r (n * 128 + (c.toNat : Int) % 128)
theorem takeR_lead (k : Nat) (l : List UInt8) (n : Int) (hk : 0 < k) : takeR 128 k l n = none := by
  induction l generalizing k n with
  | nil => rfl
  | cons c r ih =>
    rw [takeR]
    split
    · rfl
    · split
      · rw [if_pos ⟨hk, rfl⟩]
      · exact ih _ _ (by omega)
theorem takeP_lead (k : Nat) (l : List UInt8) (n : Int) (hk : 0 < k) : takeP 128 k l n = none := by
  cases l with
  | nil => rfl
  | cons c r => rw [takeP, if_pos (.inr ⟨hk, rfl⟩)]
theorem byte_big {c : UInt8} (h : ¬ c < 128) (h2 : c ≠ 128) : 1 ≤ (c.toNat : Int) % 128 := by
  have h1 : ¬ (c.toNat : Int) < 128 := fun e => h ((byte_lt128 c).1 e)
  have h3 : c.toNat ≠ 128 := fun e => h2 (UInt8.toNat_inj.1 e)
  have := byte_lt c
  omega
theorem takeR_eq (b0 : UInt8) (hb : b0 ≠ 128) (k : Nat) (l : List UInt8) (n : Int) (h0 : 0 ≤ n) (hk : k ≤ 10) (hn : 0 < k → (128 : Int) ^ (k - 1) ≤ n) (hh : k = 0 → l.headD b0 = b0) : takeR b0 k l n = takeP b0 k l n := by
  induction l generalizing k n with
  | nil => rfl
  | cons c r ih =>
    have hc := byte_lt c
    by_cases h1 : 144115188075855871 < n
    · rw [takeR, takeP, if_pos (.inr h1), if_pos (.inl (by omega))]
    · by_cases h2 : 10 ≤ k
      · exfalso
        obtain rfl : k = 10 := by omega
        have := hn (by omega)
        omega
      · have hA : ¬ (10 ≤ k ∨ 144115188075855871 < n) := by omega
        have hB : ¬ (144115188075855872 ≤ n ∨ (0 < k ∧ b0 = 128)) := by
          rintro (h | ⟨_, h⟩)
          · omega
          · exact hb h
        have hC : ¬ (0 < k ∧ b0 = 128) := fun h => hb h.2
        rw [takeR, takeP, if_neg hA, if_neg hB, if_neg hC]
        by_cases h3 : c < 128
        · rw [if_pos h3, if_pos h3]
        · rw [if_neg h3, if_neg h3]
          refine ih (k + 1) _ (by omega) (by omega) (fun _ => ?_) (fun h => by omega)
          simp only [Nat.add_sub_cancel]
          rcases Nat.eq_zero_or_pos k with rfl | hk0
          · have e : c = b0 := hh rfl
            have := byte_big h3 (by rw [e]; exact hb)
            simp; omega
          · have := hn hk0
            obtain ⟨j, rfl⟩ : ∃ j, k = j + 1 := ⟨k - 1, by omega⟩
            simp only [Nat.add_sub_cancel] at this
            rw [Int.pow_succ]; omega
theorem takeR7 (xs : List UInt8) : takeR (xs.headD 0) 0 xs 0 = take7 xs := by
  cases xs with
  | nil => rfl
  | cons c r =>
    by_cases h : c = 128
    · subst h
      show takeR 128 0 (128 :: r) 0 = takeP 128 0 (128 :: r) 0
      rw [takeR, takeP, if_neg (by simp), if_neg (by simp), if_neg (by simp), if_neg (by simp), takeR_lead _ _ _ (by omega), takeP_lead _ _ _ (by omega)]
    · exact takeR_eq c h 0 (c :: r) 0 (by omega) (by omega) (fun h => by omega) (fun _ => rfl)
end Go.Proofs.YtgjmfncebbfniaaGreatDoor

namespace Go.Proofs.YtgjmfncebbfniaaGreatDoor
set_option maxRecDepth 100000
open Go Go.RowKit

theorem ref_takeNumber (A : Option Addr) (n c : Nat) (xs : List UInt8) (B : Nat) (w : World) (hlen : n ≤ lim) (hnc : n ≤ c) (hR : RdB w B A n xs) :
    Calls Tryz.prog 99 #[.slice A n c] w (TakeNum w B (take7 xs)) := by
  have hr := hR.1
  have hn := hr.blen
  have hm := lim_le hlen
  have HN := hide hn
  have h7 := hide (takeR7 xs)
  clear hn
  go_enter Tryz.func99, Tryz.ntmps99
  go_wp2
  go_loop [5, 6] (fun x i => ∃ (k : Nat) (m : Int), k ≤ n ∧ k ≤ 10 ∧ i = .int .i64 k ∧ x = .int .u64 m ∧ 0 ≤ m ∧ m < 18446744073709551616 ∧ takeR (xs.headD 0) k (xs.drop k) m = take7 xs) (fun _ i => n - (intOf i).toNat)
  case atStart => exact ⟨0, 0, Nat.zero_le _, by omega, rfl, rfl, by omega, by omega, h7.out⟩
  case round =>
    obtain ⟨k, m, hk, hk10, rfl, rfl, hm0, hm1, ht⟩ := hrel
    have HT := hide ht
    clear ht h7
    by_cases hlt : k < n
    · obtain ⟨b, off, hx, rfl, _, hc⟩ := hr.byte hlt
      have hx0 : 0 < xs.length := by omega
      have hc0 := hr.cell0 0 hx0
      simp only [Nat.add_zero] at hc0
      have hby := byte_lt xs[k]
      have HH := hide (headD_at hx0)
      have HD := hide (drop_cons_at hx)
      have hcut := hR.cutS (k := k + 1) (by omega) hnc
      by_cases h10 : (k : Int) < 10
      · by_cases h57 : 144115188075855871 < m
        · go_wp2
          go_ret3
          exact TakeNum.no (by rw [← HT.out, HD.out, takeR, if_pos (.inr h57)]) (Below.refl _ _) rfl
        · have HT2 : Hid (take7 xs = if xs[k] < 128 then (if 0 < k ∧ xs[0] = 128 then none else some (m * 128 + (xs[k].toNat : Int) % 128, xs.drop (k + 1))) else takeR (xs.headD 0) (k + 1) (xs.drop (k + 1)) (m * 128 + (xs[k].toNat : Int) % 128)) := by
            show take7 xs = _
            rw [← HT.out, HD.out, takeR, if_neg (by omega), HH.out]
          clear HT HD
          generalize xs[k] = y at *
          by_cases hcl : (y.toNat : Int) < 128
          · have hy8 := (byte_lt128 y).1 hcl
            have hB : (0 < k ∧ xs[0] = 128) ∨ k = 0 ∨ (0 < k ∧ xs[0] ≠ 128) := by
              by_cases h : xs[0] = 128 <;> simp [h] <;> omega
            rcases hB with ⟨hk0, hb⟩ | hB
            · have hk1 : (0 : Int) < k := by omega
              have hb1 : ((xs[0].toNat : Int) == 128) = true := by rw [hb]; rfl
              have HB := hide hb
              clear hb
              go_wp2
              go_ret3
              exact TakeNum.no (by rw [HT2.out, if_pos hy8, if_pos ⟨hk0, HB.out⟩]) (Below.refl _ _) rfl
            · have hno : Hid (¬ (0 < k ∧ xs[0] = 128)) := by
                show ¬ _
                rintro ⟨h, h'⟩
                rcases hB with rfl | ⟨_, hB⟩
                · omega
                · exact hB h'
              rcases hB with rfl | ⟨hk0, hB⟩
              · simp only [Nat.zero_add, Nat.add_zero] at hc hcut
                clear hc0
                go_wp2
                go_quiet (fail)
                go_wp2
                all_goals go_ret3
                all_goals first | rw [if_pos (by assumption)] at hcut | rw [if_neg (by assumption)] at hcut
                all_goals exact TakeNum.yes _ _ _ (by rw [HT2.out, if_pos hy8, if_neg hno.out]) (below_drewN (Below.refl _ _) _) rfl (hcut.drewN _) (by omega) (by omega) (by omega)
              · have hk1 : (0 : Int) < k := by omega
                have hB1 := byte_ne128 hB
                have HB := hide hB
                clear hB
                go_wp2
                go_quiet (fail)
                go_wp2
                all_goals go_ret3
                all_goals first | rw [if_pos (by assumption)] at hcut | rw [if_neg (by assumption)] at hcut
                all_goals exact TakeNum.yes _ _ _ (by rw [HT2.out, if_pos hy8, if_neg hno.out]) (below_drewN (Below.refl _ _) _) rfl (hcut.drewN _) (by omega) (by omega) (by omega)
          · go_wp2
            go_round
            case rel => exact ⟨k + 1, m * 128 + (y.toNat : Int) % 128, by omega, by omega, by go_num, rfl, by omega, by omega, by rw [HT2.out, if_neg (fun h => hcl ((byte_lt128 y).2 h))]⟩
            case measure => simp [intOf]; omega
      · go_wp2
        go_ret3
        exact TakeNum.no (by rw [← HT.out, HD.out, takeR, if_pos (.inl (by omega))]) (Below.refl _ _) rfl
    · go_wp2
      go_ret3
      have := HN.out
      exact TakeNum.no (by rw [← HT.out, List.drop_of_length_le (by omega)]; rfl) (Below.refl _ _) rfl

theorem ref_takeText (A : Option Addr) (n c : Nat) (xs : List UInt8) (B : Nat) (w : World) (hlen : n ≤ lim) (hnc : n ≤ c) (hr : RdB w B A n xs) :
    Calls Tryz.prog 100 #[.slice A n c] w (TakeTxt w B (takeT xs)) := by
  have htake := ref_takeNumber A n c xs B w hlen hnc hr
  rcases hT : take7 xs with _ | ⟨m, rest⟩
  · rw [hT] at htake
    have HK := hide htake
    have HT := hide hT
    clear hT htake
    go_enter Tryz.func100, Tryz.ntmps100
    go_wp2_with (go_at_call 99; refine (unhide HK).mono ?_; rintro e w1 ⟨hb1, rfl⟩)
    go_ret3
    exact TakeTxt.no (takeT_none HT.out) hb1 rfl
  · rw [hT] at htake
    have HK := hide htake
    have HT := hide hT
    have hml := take7_len hT
    have hn := hr.len
    have hrl : rest.length ≤ n := by omega
    have hm0 := lim_le hlen
    clear hT htake hml hn
    by_cases hlt : (rest.length : Int) < m
    · go_enter Tryz.func100, Tryz.ntmps100
      go_wp2_with (go_at_call 99; refine (unhide HK).mono ?_; rintro e w1 ⟨hb1, A1, m1, c1, rfl, hr1, hmc1, h0, h1⟩; have hl1 := Nat.le_of_eq hr1.len; have hl3 : (m1 : Int) < m := by omega)
      go_ret3
      exact TakeTxt.no (by rw [takeT_some HT.out]; exact if_pos hlt) hb1 rfl
    · go_enter Tryz.func100, Tryz.ntmps100
      go_wp2_with fail
      refine (unhide HK).mono ?_
      rintro e w1 ⟨hb1, A1, m1, c1, rfl, hr1, hmc1, h0, h1⟩
      have hl1 := hr1.len
      obtain ⟨mn, rfl⟩ := Int.eq_ofNat_of_zero_le h0
      have hl3 : ¬ (m1 : Int) < (mn : Int) := by omega
      have hl4 : (mn : Int) ≤ (c1 : Int) := by omega
      have hl5 : (mn : Int) ≤ (m1 : Int) := by omega
      have hl6 : (m1 : Int) ≤ 9223372036854775807 := by omega
      have hl7 : m1 ≤ lim := by omega
      have HL := hide hl1
      clear hl1 h1
      have hh := hr1.1.headB (k := mn) (by omega)
      have hW := hb1.size
      by_cases hcn : c1 = mn
      · subst hcn
        obtain rfl : m1 = c1 := by omega
        have hcM := RdB.zero (w := w1) (B := B) (A := A1) (n := 0) (xs := rest.drop m1) rfl (List.drop_of_length_le (by have := HL.out; omega))
        go_wp2
        go_region_held3 (fun _ => True) (trivial) (first | (go_must (refine step_app_bytes rfl _ _ rfl w1.heap.size _ [] (rest.take m1) rfl (OwnB.new w1.drew _ [] [] rfl (Nat.le_refl _) (by simp [maxLen])) _ _ _ _ rfl (hh.drew.alloc (Nat.le_refl _) _) (by unfold lim at hl7; simp; omega) (by simp) ?_); intro v2 w2 hown2 hg2 hat2))
        go_wp2
        go_ret3
        have hB2 : Below w1.heap.size w1 w2 := (((Below.refl _ _).drew).alloc (Nat.le_refl _) _).grown hg2 (by simp) (fun g hg => ownBlock_ge hg (Nat.le_refl _))
        obtain ⟨A2, n2, c2, rfl, hn2, hc2, hr2⟩ := RdB.of_own (B := B) hown2
        exact TakeTxt.yes _ _ _ _ _ _ (by rw [takeT_some HT.out]; exact if_neg (by omega)) (hb1.trans (hB2.mono hW)) rfl hr2 hc2 (hcM.lift hB2) (by omega)
      · have hcM := hr1.cutM (k := mn) (by omega)
        go_wp2
        go_region_held3 (fun _ => True) (trivial) (first | (go_must (refine step_app_bytes rfl _ _ rfl w1.heap.size _ [] (rest.take mn) rfl (OwnB.new w1.drew _ [] [] rfl (Nat.le_refl _) (by simp [maxLen])) _ _ _ _ rfl (hh.drew.alloc (Nat.le_refl _) _) (by unfold lim at hl7; simp; omega) (by simp) ?_); intro v2 w2 hown2 hg2 hat2))
        go_wp2
        go_ret3
        have hB2 : Below w1.heap.size w1 w2 := (((Below.refl _ _).drew).alloc (Nat.le_refl _) _).grown hg2 (by simp) (fun g hg => ownBlock_ge hg (Nat.le_refl _))
        obtain ⟨A2, n2, c2, rfl, hn2, hc2, hr2⟩ := RdB.of_own (B := B) hown2
        exact TakeTxt.yes _ _ _ _ _ _ (by rw [takeT_some HT.out]; exact if_neg (by omega)) (hb1.trans (hB2.mono hW)) rfl hr2 hc2 (hcM.lift hB2) (by omega)
end Go.Proofs.YtgjmfncebbfniaaGreatDoor
