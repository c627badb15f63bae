/- Contracts of package code and of its reference: numbers and texts as bytes, and back. -/
/- Contracts of package code and of its reference: what bytes begin with. -/
/- Contracts of the takings of texts, package code and its reference. -/
import Derived.Test.YtgjmfncebbfniaaGreatDoorWords
import Derived.Deep.RegionHeld3
import Derived.BigRegion
import Derived.BigQuiet
import Derived.Outline
import Derived.WalkSpells
import Derived.LaidEql
import Derived.Deep.RegionWith
namespace Go.Proofs.YtgjmfncebbfniaaGreatDoor
set_option maxRecDepth 100000
open Go Go.RowKit

/-! The plain functions. -/
def numUp (n : Nat) (acc : List UInt8) : List UInt8 := if h : n = 0 then acc else numUp (n / 128) (UInt8.ofNat (n % 128 + 128) :: acc)
termination_by n
decreasing_by omega
/-- A number as bytes: base 128, the greatest digit first, all but the last with the bit 128. -/
def num7 (n : Nat) : List UInt8 := numUp (n / 128) [UInt8.ofNat (n % 128)]
theorem numUp_zero (acc : List UInt8) : numUp 0 acc = acc := by rw [numUp]; simp
theorem numUp_pos {n : Nat} (h : n ≠ 0) (acc : List UInt8) : numUp n acc = numUp (n / 128) (UInt8.ofNat (n % 128 + 128) :: acc) := by rw [numUp]; simp [h]
theorem numUp_len (n k : Nat) (acc : List UInt8) (h : n < 128 ^ k) : (numUp n acc).length ≤ k + acc.length := by
  induction k generalizing n acc with
  | zero => have : n = 0 := by simpa using h
            subst this; rw [numUp_zero]; omega
  | succ k ih =>
    by_cases hn : n = 0
    · subst hn; rw [numUp_zero]; omega
    · rw [numUp_pos hn]
      have := ih (n / 128) (UInt8.ofNat (n % 128 + 128) :: acc) (by rw [Nat.pow_succ] at h; omega)
      simp only [List.length_cons] at this; omega
theorem num7_len (n : Nat) (h : n < 18446744073709551616) : (num7 n).length ≤ 10 := by
  exact numUp_len (n / 128) 9 [UInt8.ofNat (n % 128)] (by omega)
theorem numUp_ge (n : Nat) (acc : List UInt8) : acc.length ≤ (numUp n acc).length := by
  induction n using Nat.strongRecOn generalizing acc with
  | _ n ih =>
    by_cases hn : n = 0
    · subst hn; rw [numUp_zero]; exact Nat.le_refl _
    · rw [numUp_pos hn]
      exact Nat.le_trans (by simp) (ih (n / 128) (by omega) _)
/-- Bytes with their number ahead. -/
def text7 (xs : List UInt8) : List UInt8 := num7 xs.length ++ xs

theorem or128 (x : Int) (h0 : 0 ≤ x) (h1 : x < 128) : bits BinOp.or IntKind.u8 x 128 = x + 128 := by
  obtain ⟨n, rfl⟩ := Int.eq_ofNat_of_zero_le h0
  have e : (128 : Int) = ((128 : Nat) : Int) := rfl
  rw [e]
  show IntKind.u8.wrap ((BitVec.ofInt 8 (n : Int) ||| BitVec.ofInt 8 ((128 : Nat) : Int)).toNat : Int) = _
  rw [BitVec.ofInt_natCast, BitVec.ofInt_natCast, BitVec.toNat_or, BitVec.toNat_ofNat, BitVec.toNat_ofNat, Nat.mod_eq_of_lt (by omega), Nat.mod_eq_of_lt (by omega)]
  have h2 : n ||| 128 = n + 128 := by
    have := Nat.two_pow_add_eq_or_of_lt (i := 7) (b := n) (by omega) 1
    rw [Nat.or_comm]; simp at this; omega
  rw [h2, IntKind.wrap_u8]; omega

theorem ref_number (n : Int) (w : World) (h0 : 0 ≤ n) (h1 : n < 18446744073709551616) :
    Calls Tryz.prog 96 #[.int .u64 n] w fun e w' => ∃ v, e = .returned v ∧ OwnB w' w.heap.size v (num7 n.toNat) ∧ Below w.heap.size w w' := by
  go_enter Tryz.func96, Tryz.ntmps96
  go_wp2
  go_loopw [0, 3] (fun x v wr => ∃ (k : Int) (xs : List UInt8), x = .int .u64 k ∧ OwnB wr w.heap.size v xs ∧ Below w.heap.size w wr ∧ numUp k.toNat xs = num7 n.toNat ∧ 0 ≤ k ∧ k < 18446744073709551616 ∧ w.heap.size < wr.heap.size)
    (fun x _ _ => (intOf x).toNat)
  case atStart =>
    refine ⟨n / 128, [UInt8.ofNat (n % 128).toNat], rfl, OwnB.new w _ _ _ (BY_sing _ (by omega) (by omega)).symm (Nat.le_refl _) (by simp [maxLen]), (Below.refl _ _).alloc (Nat.le_refl _) _, ?_, by omega, by omega, by simp⟩
    rw [num7, show (n / 128).toNat = n.toNat / 128 from by omega, show (n % 128).toNat = n.toNat % 128 from by omega]
  case round =>
    obtain ⟨k, xs, rfl, hown, hbel, hup, hk0, hk, hsz⟩ := hrel
    have H := hide hup
    clear hup
    have hl : (numUp k.toNat xs).length ≤ 10 := by rw [H.out]; exact num7_len _ (by omega)
    have hx : xs.length ≤ 10 := Nat.le_trans (numUp_ge _ _) hl
    clear hl
    by_cases h0 : (0 : Int) < k
    · obtain ⟨A, c, rfl, hc, _, hr⟩ := hown.form
      have hw := hbel.size
      go_wp2_with (at_builtin; refine app_bytes rfl _ _ rfl w.heap.size _ [UInt8.ofNat (k % 128 + 128).toNat] xs rfl (OwnB.new wr _ _ _ (BY_sing _ (by omega) (by omega)).symm hw (by simp [maxLen])) _ _ _ _ rfl (hr.alloc (Nat.le_refl _) _) (by simp; omega) (by simp; omega) ?_; intro v1 w1 hown1 hg1 hat1)
      go_roundw
      case rel =>
        refine ⟨k / 128, _, rfl, hown1, (hbel.alloc hw _).grown hg1 (by simp; omega) (fun g hg => ownBlock_ge hg hw), ?_, by omega, by omega, by have := hg1.size; simp at this; omega⟩
        rw [← H.out, numUp_pos (n := k.toNat) (by omega), show (k % 128 + 128).toNat = k.toNat % 128 + 128 from by omega, show (k / 128).toNat = k.toNat / 128 from by omega]; rfl
      case measure => simp [intOf]; omega
    · go_wp2
      go_ret
      obtain rfl : k = 0 := by omega
      have := H.out
      rw [Int.toNat_zero, numUp_zero] at this
      subst this
      exact ⟨_, rfl, hown, hbel⟩

theorem ref_text (A : Option Addr) (n c : Nat) (xs : List UInt8) (w : World) (hlen : n ≤ lim) (hr : Reads w w.heap.size 1 A n (BY xs)) :
    Calls Tryz.prog 38 #[.slice A n c] w fun e w' => ∃ v, e = .returned v ∧ OwnB w' w.heap.size v (text7 xs) ∧ Below w.heap.size w w' := by
  have hn := hr.blen
  have hx : xs.length ≤ n := by omega
  have hl := num7_len n (by unfold lim at hlen; omega)
  have hm := lim_le hlen
  have HN := hide hn
  clear hn
  go_enter Tryz.func38, Tryz.ntmps38
  go_wp2_with (first
    | (go_at_call 96; refine (ref_number _ _ (by omega) (by omega)).mono ?_; rintro e w1 ⟨v1, rfl, hown1, hb1⟩)
    | (at_builtin; refine app_bytes rfl _ _ rfl w.heap.size _ _ xs rfl hown1 _ _ _ _ rfl (hr.below hb1) (by unfold lim at hlen; simp; omega) hb1.size ?_; intro v2 w2 hown2 hg2 hat2))
  go_ret
  refine ⟨_, rfl, ?_, hb1.grown hg2 hb1.size (fun g hg => (World.ownsRow.lt hown1 g hg).1)⟩
  have := HN.out
  rw [text7, ← this]
  simpa using hown2
end Go.Proofs.YtgjmfncebbfniaaGreatDoor

namespace Go.Proofs.YtgjmfncebbfniaaGreatDoor
set_option maxRecDepth 100000
open Go Go.RowKit

theorem clone_bytes (A : Option Addr) (n c : Nat) (xs : List UInt8) (w : World) (hlen : n ≤ lim) (hr : Reads w w.heap.size 1 A n (BY xs)) :
    Calls Tryz.prog 66 #[.slice A n c] w fun e w' => ∃ v, e = .returned v ∧ OwnB w' w.heap.size v xs ∧ Below w.heap.size w w' := by
  have hn := hr.blen
  have hx : xs.length ≤ n := by omega
  have HN := hide hn
  clear hn
  rcases A with _ | ad
  · have h0 : n = 0 := by
      rcases Nat.eq_zero_or_pos n with h | h
      · exact h
      · obtain ⟨_, h, _⟩ := hr.2 h
        cases h
    have hxs : xs = [] := List.eq_nil_of_length_eq_zero (by omega)
    subst hxs
    subst h0
    clear HN hx
    have heq := fun w => Lib.run_eql_slice_nil (P := Tryz.prog) w 26 5 none 0 c 0 0 Tryz.underlying26
    go_enter Tryz.func66, Tryz.ntmps66
    go_wp2
    go_ret
    exact ⟨_, rfl, OwnB.nil _ _, Below.refl _ _⟩
  · have heq := fun w => Lib.run_eql_slice_nil (P := Tryz.prog) w 26 5 (some ad) n c 0 0 Tryz.underlying26
    go_enter Tryz.func66, Tryz.ntmps66
    go_wp2_with (at_builtin; refine app_bytes rfl _ _ rfl w.heap.size _ [] xs rfl (OwnB.new w _ [] [] rfl (Nat.le_refl _) (by simp [maxLen])) _ _ _ _ rfl (hr.alloc (Nat.le_refl _) _) (by unfold lim at hlen; simp; omega) (by simp) ?_; intro v1 w1 hown1 hg1 hat1)
    go_ret
    exact ⟨_, rfl, hown1, ((Below.refl _ _).alloc (Nat.le_refl _) _).grown hg1 (by simp) (fun g hg => ownBlock_ge hg (Nat.le_refl _))⟩

/-- The number with which bytes begin, and the rest: i is how many digits were taken, n what they come to. -/
def takeP (b0 : UInt8) : Nat → List UInt8 → Int → Option (Int × List UInt8)
  | _, [], _ => none
  | k, c :: r, n => if 144115188075855872 ≤ n ∨ (0 < k ∧ b0 = 128) then none
      else if c < 128 then some (n * 128 + (c.toNat : Int) % 128, r) else takeP b0 (k + 1) r (n * 128 + (c.toNat : Int) % 128)
def take7 (xs : List UInt8) : Option (Int × List UInt8) := takeP (xs.headD 0) 0 xs 0
/-- What a taking answers: a number and bytes. -/
def TakeNum (w0 : World) (B : Nat) (r : Option (Int × List UInt8)) (e : Ending) (w : World) : Prop :=
  Below w0.heap.size w0 w ∧ match r with
  | none => e = .returned (.tuple #[.int .u64 0, .slice none 0 0, .int .i64 3])
  | some (n, rest) => ∃ A m c, e = .returned (.tuple #[.int .u64 n, .slice A m c, .int .i64 0]) ∧ RdB w B A m rest ∧ m ≤ c ∧ 0 ≤ n ∧ n < 18446744073709551616

theorem TakeNum.no {w0 w : World} {B : Nat} {r : Option (Int × List UInt8)} {e : Ending} (hr : r = none) (hb : Below w0.heap.size w0 w) (he : e = .returned (.tuple #[.int .u64 0, .slice none 0 0, .int .i64 3])) : TakeNum w0 B r e w := by
  subst hr; exact ⟨hb, he⟩
theorem TakeNum.yes {w0 w : World} {B : Nat} {r : Option (Int × List UInt8)} {e : Ending} {n : Int} {rest : List UInt8} (A : Option Addr) (m c : Nat) (hr : r = some (n, rest)) (hb : Below w0.heap.size w0 w)
    (he : e = .returned (.tuple #[.int .u64 n, .slice A m c, .int .i64 0])) (hR : RdB w B A m rest) (hmc : m ≤ c) (h0 : 0 ≤ n) (h1 : n < 18446744073709551616) : TakeNum w0 B r e w := by
  subst hr; exact ⟨hb, A, m, c, he, hR, hmc, h0, h1⟩
theorem takeP_nil (b0 : UInt8) (k : Nat) (n : Int) : takeP b0 k [] n = none := rfl
theorem drop_cons_at {xs : List UInt8} {k : Nat} (h : k < xs.length) : xs.drop k = xs[k] :: xs.drop (k + 1) := List.drop_eq_getElem_cons h
theorem andNot128 (c : UInt8) : bits BinOp.andNot IntKind.u8 (c.toNat : Int) 128 = (c.toNat : Int) % 128 := by
  have hc := c.toNat_lt
  have := u8_andNot_nat c.toNat 128 (by omega) (by omega)
  rw [show (128 : Int) = ((128 : Nat) : Int) from rfl, this]
  have : c.toNat &&& 127 = c.toNat % 128 := Nat.and_two_pow_sub_one_eq_mod c.toNat 7
  show ((c.toNat &&& 127 : Nat) : Int) = _
  rw [this]; omega
theorem or_digit (m x : Int) (h0 : 0 ≤ m) (h1 : m < 144115188075855872) (hx0 : 0 ≤ x) (hx : x < 128) : bits BinOp.or IntKind.u64 (m * 128) x = m * 128 + x := by
  obtain ⟨a, rfl⟩ := Int.eq_ofNat_of_zero_le h0
  obtain ⟨b, rfl⟩ := Int.eq_ofNat_of_zero_le hx0
  have := bits_or_u64_nat (a * 128) b (by omega) (by omega)
  rw [show ((a : Int) * 128) = ((a * 128 : Nat) : Int) from by omega, this]
  have e : a * 128 ||| b = a * 128 + b := by
    have := Nat.two_pow_add_eq_or_of_lt (i := 7) (b := b) (by omega) a
    rw [Nat.mul_comm] at this
    exact this.symm
  rw [e]; omega
theorem byte_lt128 (c : UInt8) : ((c.toNat : Int) < 128) ↔ c < 128 := by
  rw [UInt8.lt_iff_toNat_lt]; show _ ↔ c.toNat < 128; omega
theorem byte_ne128 {c : UInt8} (h : c ≠ 128) : ((c.toNat : Int) == 128) = false := by
  rw [beq_eq_false_iff_ne]; intro e; exact h (UInt8.toNat_inj.1 (by show c.toNat = 128; omega))

theorem code_takeNumber (A : Option Addr) (n c : Nat) (xs : List UInt8) (B : Nat) (w : World) (hlen : n ≤ lim) (hnc : n ≤ c) (hr : Reads w w.heap.size 1 A n (BY xs)) :
    Calls Tryz.prog 40 #[.slice A n c] w (TakeNum w B (take7 xs)) := by
  have hn := hr.blen
  have hm := lim_le hlen
  have HN := hide hn
  clear hn
  go_enter Tryz.func40, Tryz.ntmps40
  go_wp2
  go_loop [5, 10] (fun x i => ∃ (k : Nat) (m : Int), k ≤ n ∧ i = .int .i64 k ∧ x = .int .u64 m ∧ 0 ≤ m ∧ m < 18446744073709551616 ∧ takeP (xs.headD 0) k (xs.drop k) m = take7 xs) (fun _ i => n - (intOf i).toNat)
  case atStart => exact ⟨0, 0, Nat.zero_le _, rfl, rfl, by omega, by omega, rfl⟩
  case round =>
    obtain ⟨k, m, hk, rfl, rfl, hm0, hm1, ht⟩ := hrel
    have HT := hide ht
    clear ht
    by_cases hlt : k < n
    · obtain ⟨b, off, hx, rfl, _, hc⟩ := hr.byte hlt
      have hx0 : 0 < xs.length := by omega
      have hc0 := hr.cell0 0 hx0
      simp only [Nat.add_zero] at hc0
      have hby := byte_lt xs[k]
      have HH := hide (headD_at hx0)
      have HD := hide (drop_cons_at hx)
      have hcut := hr.cutB (k := k + 1) (by omega) hnc
      by_cases h57 : 144115188075855872 ≤ m
      · go_wp2
        go_ret3
        exact TakeNum.no (by rw [← HT.out, HD.out, takeP, if_pos (.inl h57)]) (Below.refl _ _) rfl
      · have hB : (0 < k ∧ xs[0] = 128) ∨ k = 0 ∨ (0 < k ∧ xs[0] ≠ 128) := by
          by_cases h : xs[0] = 128 <;> simp [h] <;> omega
        rcases hB with ⟨hk0, hb⟩ | hB
        · have hk0 : (0 : Int) < k := by omega
          have hb1 : ((xs[0].toNat : Int) == 128) = true := by rw [hb]; rfl
          have HB := hide hb
          clear hb
          go_wp2
          go_ret3
          exact TakeNum.no (by rw [← HT.out, HD.out, HH.out, takeP, if_pos (.inr ⟨by omega, HB.out⟩)]) (Below.refl _ _) rfl
        · have HN2 : ¬ (144115188075855872 ≤ m ∨ (0 < k ∧ xs.headD 0 = 128)) := by
            rw [HH.out]; rintro (h | ⟨h, h'⟩)
            · exact h57 h
            · rcases hB with rfl | ⟨_, hB⟩
              · omega
              · exact hB h'
          have HT2 : Hid (take7 xs = if xs[k] < 128 then some (m * 128 + (xs[k].toNat : Int) % 128, xs.drop (k + 1)) else takeP (xs.headD 0) (k + 1) (xs.drop (k + 1)) (m * 128 + (xs[k].toNat : Int) % 128)) := by
            show take7 xs = _
            rw [← HT.out, HD.out, takeP, if_neg HN2]
          have hb1 := andNot128 xs[k]
          have hb2 := or_digit m ((xs[k].toNat : Int) % 128) hm0 (by omega) (by omega) (by omega)
          clear HN2 HT HD
          generalize xs[k] = y at *
          have hcl2 : n - (k + 1) ≤ lim := Nat.le_trans (Nat.sub_le n (k + 1)) hlen
          rcases hB with rfl | ⟨hk0, hB⟩
          all_goals by_cases hcl : (y.toNat : Int) < 128
          · simp only [Nat.zero_add, Nat.add_zero] at hc hcut hcl2
            clear hc0
            go_wp2_with (go_at_call 66; refine (clone_bytes _ _ _ _ _ hcl2 hcut).mono ?_; rintro e w1 ⟨v1, rfl, hown1, hb1⟩)
            all_goals go_ret3
            all_goals obtain ⟨A, n', c', rfl, hn', hc', hr'⟩ := RdB.of_own (B := B) hown1
            all_goals exact TakeNum.yes _ _ _ (by rw [HT2.out, if_pos ((byte_lt128 y).1 hcl)]) hb1 rfl hr' hc' (by omega) (by omega)
          · simp only [Nat.zero_add, Nat.add_zero] at hc hcut hcl2
            clear hc0
            go_wp2
            go_round
            case rel => exact ⟨1, m * 128 + (y.toNat : Int) % 128, by omega, rfl, rfl, by omega, by omega, by rw [HT2.out, if_neg (fun h => hcl ((byte_lt128 y).2 h))]⟩
            case measure => simp [intOf]; omega
          · have hB1 := byte_ne128 hB
            have HB := hide hB
            clear hB
            go_wp2_with (go_at_call 66; refine (clone_bytes _ _ _ _ _ hcl2 hcut).mono ?_; rintro e w1 ⟨v1, rfl, hown1, hb1⟩)
            all_goals go_ret3
            all_goals obtain ⟨A, n', c', rfl, hn', hc', hr'⟩ := RdB.of_own (B := B) hown1
            all_goals exact TakeNum.yes _ _ _ (by rw [HT2.out, if_pos ((byte_lt128 y).1 hcl)]) hb1 rfl hr' hc' (by omega) (by omega)
          · have hB1 := byte_ne128 hB
            have HB := hide hB
            clear hB
            go_wp2
            go_round
            case rel => exact ⟨k + 1, m * 128 + (y.toNat : Int) % 128, by omega, by go_num, rfl, by omega, by omega, by rw [HT2.out, if_neg (fun h => hcl ((byte_lt128 y).2 h))]⟩
            case measure => simp [intOf]; omega
    · go_wp2
      go_ret3
      have := HN.out
      exact TakeNum.no (by rw [← HT.out, List.drop_of_length_le (by omega), takeP_nil]) (Below.refl _ _) rfl
end Go.Proofs.YtgjmfncebbfniaaGreatDoor

namespace Go.Proofs.YtgjmfncebbfniaaGreatDoor
set_option maxRecDepth 100000
open Go Go.RowKit

theorem undrew {B : Nat} {w w' : World} (h : Below B w.drew w') : Below B w w' := ⟨h.os, h.tape, h.output, h.size, h.block⟩
theorem Reads.lift {w w' : World} {size n : Nat} {A : Option Addr} {xs : List Value} (h : Reads w w.heap.size size A n xs) (hb : Below w.heap.size w w') : Reads w' w'.heap.size size A n xs := (h.below hb).more hb.size

def takeT (xs : List UInt8) : Option (List UInt8 × List UInt8) := match take7 xs with
  | none => none
  | some (n, rest) => if (rest.length : Int) < n then none else some (rest.take n.toNat, rest.drop n.toNat)
theorem takeT_none {xs : List UInt8} (h : take7 xs = none) : takeT xs = none := by unfold takeT; rw [h]
theorem takeT_some {xs rest : List UInt8} {n : Int} (h : take7 xs = some (n, rest)) : takeT xs = if (rest.length : Int) < n then none else some (rest.take n.toNat, rest.drop n.toNat) := by unfold takeT; rw [h]
/-- What a taking of a text answers. -/
def TakeTxt (w0 : World) (B : Nat) (r : Option (List UInt8 × List UInt8)) (e : Ending) (w : World) : Prop :=
  Below w0.heap.size w0 w ∧ match r with
  | none => e = .returned (.tuple #[.slice none 0 0, .slice none 0 0, .int .i64 3])
  | some (t, rest) => ∃ A m c A' m' c', e = .returned (.tuple #[.slice A m c, .slice A' m' c', .int .i64 0]) ∧ RdB w B A m t ∧ m ≤ c ∧ RdB w B A' m' rest ∧ m' ≤ c'
theorem TakeTxt.no {w0 w : World} {B : Nat} {r : Option (List UInt8 × List UInt8)} {e : Ending} (hr : r = none) (hb : Below w0.heap.size w0 w) (he : e = .returned (.tuple #[.slice none 0 0, .slice none 0 0, .int .i64 3])) : TakeTxt w0 B r e w := by
  subst hr; exact ⟨hb, he⟩
theorem TakeTxt.yes {w0 w : World} {B : Nat} {r : Option (List UInt8 × List UInt8)} {e : Ending} {t rest : List UInt8} (A : Option Addr) (m c : Nat) (A' : Option Addr) (m' c' : Nat) (hr : r = some (t, rest)) (hb : Below w0.heap.size w0 w)
    (he : e = .returned (.tuple #[.slice A m c, .slice A' m' c', .int .i64 0])) (hR : RdB w B A m t) (hmc : m ≤ c) (hR' : RdB w B A' m' rest) (hmc' : m' ≤ c') : TakeTxt w0 B r e w := by
  subst hr; exact ⟨hb, A, m, c, A', m', c', he, hR, hmc, hR', hmc'⟩

theorem takeText1_no (n : Int) (A : Option Addr) (m c : Nat) (w : World) (hm : m ≤ 9223372036854775807) (h : (m : Int) < n) :
    Calls Tryz.prog 98 #[.int .u64 n, .slice A m c] w fun e w' => e = .returned (.tuple #[.slice none 0 0, .slice none 0 0, .int .i64 3]) ∧ w = w' := by
  go_enter Tryz.func98, Tryz.ntmps98
  go_wp2
  go_ret3
  exact ⟨rfl, rfl⟩

theorem takeText1_yes (n : Nat) (A : Option Addr) (m c : Nat) (rest : List UInt8) (B : Nat) (w : World) (hlen : m ≤ lim) (hmc : m ≤ c) (h : n ≤ m) (hR : RdB w B A m rest) :
    Calls Tryz.prog 98 #[.int .u64 (n : Int), .slice A m c] w (TakeTxt w B (some (rest.take n, rest.drop n))) := by
  have hr := hR.1
  have hm := lim_le hlen
  have hl2 : n ≤ lim := Nat.le_trans h hlen
  have hnc : n ≤ c := Nat.le_trans h hmc
  have hh := hr.headB h
  have hint : ¬ (m : Int) < (n : Int) := by omega
  have hint2 : (n : Int) ≤ (c : Int) := by omega
  have hint3 : (n : Int) ≤ (m : Int) := by omega
  by_cases hcn : c = n
  · subst hcn
    obtain rfl : m = c := by omega
    go_enter Tryz.func98, Tryz.ntmps98
    go_wp2
    go_region_held3 (fun _ => True) (trivial) (first | (go_at_call 66; refine (clone_bytes _ _ _ _ _ hl2 (by exact hh.drew)).mono ?_; rintro e w1 ⟨v1, rfl, hown1, hb1⟩))
    go_wp2
    go_ret3
    obtain ⟨A', n', c', rfl, hn', hc', hr'⟩ := RdB.of_own (B := B) hown1
    exact TakeTxt.yes _ _ _ _ _ _ rfl (undrew hb1) rfl hr' hc' (RdB.zero (by omega) (List.drop_of_length_le (by have := hr.blen; omega))) (by omega)
  · go_enter Tryz.func98, Tryz.ntmps98
    go_wp2
    go_region_held3 (fun _ => True) (trivial) (first | (go_at_call 66; refine (clone_bytes _ _ _ _ _ hl2 (by exact hh.drew)).mono ?_; rintro e w1 ⟨v1, rfl, hown1, hb1⟩))
    go_wp2
    go_ret3
    obtain ⟨A', n', c', rfl, hn', hc', hr'⟩ := RdB.of_own (B := B) hown1
    exact TakeTxt.yes _ _ _ _ _ _ rfl (undrew hb1) rfl hr' hc' ((hR.cutM h).lift (undrew hb1)) (by omega)

theorem takeP_len (b0 : UInt8) (k : Nat) (l : List UInt8) (n m : Int) (rest : List UInt8) (h : takeP b0 k l n = some (m, rest)) : rest.length < l.length := by
  induction l generalizing k n with
  | nil => simp [takeP] at h
  | cons c r ih =>
    rw [takeP] at h
    split at h
    · cases h
    · split at h
      · simp only [Option.some.injEq, Prod.mk.injEq] at h
        simp [h.2]
      · have := ih _ _ h
        simp; omega
theorem take7_len {xs rest : List UInt8} {m : Int} (h : take7 xs = some (m, rest)) : rest.length < xs.length := takeP_len _ _ _ _ _ _ h
theorem code_takeText (A : Option Addr) (n c : Nat) (xs : List UInt8) (B : Nat) (w : World) (hlen : n ≤ lim) (hnc : n ≤ c) (hr : Reads w w.heap.size 1 A n (BY xs)) :
    Calls Tryz.prog 42 #[.slice A n c] w (TakeTxt w B (takeT xs)) := by
  have htake := code_takeNumber A n c xs B w hlen hnc hr
  rcases hT : take7 xs with _ | ⟨m, rest⟩
  · rw [hT] at htake
    have HK := hide htake
    have HT := hide hT
    clear hT htake
    go_enter Tryz.func42, Tryz.ntmps42
    go_wp2_with (first | (go_at_call 40; refine (unhide HK).mono ?_; rintro e w1 ⟨hb1, rfl⟩) | go_in)
    go_ret3; go_wp2; go_ret3
    exact TakeTxt.no (takeT_none HT.out) hb1 rfl
  · rw [hT] at htake
    have HK := hide htake
    have HT := hide hT
    have hml := take7_len hT
    have hn := hr.blen
    have hrl : rest.length ≤ n := by omega
    clear hT htake hml hn
    by_cases hlt : (rest.length : Int) < m
    · go_enter Tryz.func42, Tryz.ntmps42
      go_wp2_with (first
        | (go_at_call 40; refine (unhide HK).mono ?_; rintro e w1 ⟨hb1, A1, m1, c1, rfl, hr1, hmc1, h0, h1⟩; have hl1 := Nat.le_of_eq hr1.len)
        | (go_at_call 98; refine (takeText1_no _ _ _ _ _ (by have := lim_le hlen; omega) (by omega)).mono ?_; rintro e w2 ⟨rfl, rfl⟩)
        | go_in)
      go_ret3; go_wp2; go_ret3
      exact TakeTxt.no (by rw [takeT_some HT.out]; exact if_pos hlt) hb1 rfl
    · go_enter Tryz.func42, Tryz.ntmps42
      go_wp2_with (first
        | (go_at_call 40; refine (unhide HK).mono ?_; rintro e w1 ⟨hb1, A1, m1, c1, rfl, hr1, hmc1, h0, h1⟩; have hl1 := Nat.le_of_eq hr1.len; have hl2 := Nat.le_of_eq hr1.len.symm; obtain ⟨mn, rfl⟩ := Int.eq_ofNat_of_zero_le h0)
        | (go_at_call 98; refine (takeText1_yes _ _ _ _ _ B _ (Nat.le_trans (Nat.le_trans hl1 hrl) hlen) hmc1 (by omega) hr1).mono ?_; rintro e w2 ⟨hb2, A2, m2, c2, A3, m3, c3, rfl, hr2, hmc2, hr3, hmc3⟩)
        | go_in)
      go_ret3; go_wp2; go_ret3
      exact TakeTxt.yes _ _ _ _ _ _ (by rw [takeT_some HT.out]; exact if_neg (by omega)) (hb1.trans (hb2.mono hb1.size)) rfl hr2 hmc2 hr3 hmc3
end Go.Proofs.YtgjmfncebbfniaaGreatDoor
