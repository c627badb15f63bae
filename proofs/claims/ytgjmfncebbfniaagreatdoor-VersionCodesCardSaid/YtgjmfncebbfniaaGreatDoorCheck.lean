/- Contracts of the check sums: package check and its reference; each returns the plain sum of the bytes. -/
import Derived.Test.YtgjmfncebbfniaaGreatDoorProg
import Derived.Test.YtgjmfncebbfniaaGreatDoorBase
import Derived.Lib.Hide
import Derived.Outline
namespace Go.Proofs.YtgjmfncebbfniaaGreatDoor
set_option maxRecDepth 100000
open Go Go.RowKit

theorem ret_int {k : IntKind} {a b : Int} (h : a = b) : Ending.returned (.int k a) = .returned (.int k b) := by rw [h]
/-- Bytes as cells. -/
def BY (xs : List UInt8) : List Value := xs.map fun c => .int .u8 (c.toNat : Int)
theorem BY_len (xs : List UInt8) : (BY xs).length = xs.length := by simp [BY]
theorem BY_at {xs : List UInt8} {k : Nat} {u : Value} (h : (BY xs)[k]? = some u) : ∃ hk : k < xs.length, u = .int .u8 (xs[k].toNat : Int) := by
  simp only [BY, List.getElem?_map, Option.map_eq_some_iff] at h
  obtain ⟨c, hc, rfl⟩ := h
  obtain ⟨hk, rfl⟩ := List.getElem?_eq_some_iff.1 hc
  exact ⟨hk, rfl⟩
theorem Reads.blen {w : World} {B : Nat} {A : Option Addr} {n : Nat} {xs : List UInt8} (h : Reads w B 1 A n (BY xs)) : n = xs.length := by
  have := h.1; rw [BY_len] at this; omega
theorem byte_lt (c : UInt8) : 0 ≤ (c.toNat : Int) ∧ (c.toNat : Int) ≤ 255 := by have := c.toNat_lt; omega
theorem Reads.spot {w : World} {B size : Nat} {A : Option Addr} {n : Nat} {xs : List Value} (h : Reads w B size A n xs) (hn : 0 < n) (hs : 0 < size) : ∃ b off, A = some ⟨b, off, none⟩ ∧ b < B ∧ ∀ j u, xs[j]? = some u → w.cell? ⟨b, off + j, none⟩ = some u := by
  obtain ⟨⟨b, off, sp⟩, rfl, hb, hc⟩ := h.2 hn
  have hl : 0 < xs.length := by rw [h.1]; exact Nat.mul_pos hn hs
  have h0 := hc 0 xs[0] (List.getElem?_eq_getElem hl)
  have hsp : sp = none := by simpa [Addr.add] using World.cell?_spot h0
  subst hsp
  refine ⟨b, off, rfl, hb, fun j u hu => ?_⟩
  have := hc j u hu
  unfold Addr.add at this
  split at this
  · rename_i h; subst h; exact this
  · exact this
theorem Reads.of_spot {w : World} {B size b off n : Nat} {xs : List Value} (h1 : xs.length = n * size) (hb : b < B) (h : ∀ j u, xs[j]? = some u → w.cell? ⟨b, off + j, none⟩ = some u) : Reads w B size (some ⟨b, off, none⟩) n xs :=
  ⟨h1, fun _ => ⟨_, rfl, hb, fun j u hu => by
    have := h j u hu
    unfold Addr.add
    split
    · rename_i h; subst h; exact this
    · exact this⟩⟩
theorem Reads.byte {w : World} {B : Nat} {A : Option Addr} {n k : Nat} {xs : List UInt8} (h : Reads w B 1 A n (BY xs)) (hk : k < n) :
    ∃ (b off : Nat) (hx : k < xs.length), A = some ⟨b, off, none⟩ ∧ b < B ∧ w.cell? ⟨b, off + k, none⟩ = some (.int .u8 (xs[k].toNat : Int)) := by
  obtain ⟨b, off, rfl, hb, hc⟩ := h.spot (by omega) (by omega)
  have hl : k < xs.length := by have := h.1; rw [BY_len] at this; omega
  exact ⟨b, off, hl, rfl, hb, hc k _ (by simp [BY, hl])⟩
theorem Reads.cell0 {w : World} {B b off : Nat} {n : Nat} {xs : List UInt8} (h : Reads w B 1 (some ⟨b, off, none⟩) n (BY xs)) (k : Nat) (hk : k < xs.length) : w.cell? ⟨b, off + k, none⟩ = some (.int .u8 (xs[k].toNat : Int)) := by
  have hn : k < n := by have := h.1; rw [BY_len] at this; omega
  obtain ⟨b', off', _, e, _, hc⟩ := h.byte hn
  injection e with e
  injection e with e1 e2
  subst e1 e2
  exact hc
/-- A cut s[k:] of a slice whose address is written out. -/
theorem Reads.cutS {w : World} {B size b off n k c : Nat} {xs : List Value} (h : Reads w B size (some ⟨b, off, none⟩) n xs) (hs : 0 < size) (hk : k ≤ n) (hc : n ≤ c) :
    Reads w B size (if c = k then some ⟨b, off, none⟩ else some ⟨b, off + k * size, none⟩) (n - k) (xs.drop (k * size)) := by
  by_cases hn : n = k
  · subst hn
    refine ⟨by rw [List.length_drop, h.1]; simp, fun h => absurd h (by omega)⟩
  · rw [if_neg (by omega)]
    obtain ⟨b', off', e, hb, hcell⟩ := h.spot (by omega) hs
    injection e with e
    injection e with e1 e2
    subst e1 e2
    refine Reads.of_spot (by rw [List.length_drop, h.1, Nat.sub_mul]) hb fun j u hu => ?_
    rw [List.getElem?_drop] at hu
    have := hcell _ u hu
    rwa [← Nat.add_assoc] at this
theorem BY_drop (xs : List UInt8) (k : Nat) : (BY xs).drop k = BY (xs.drop k) := by simp [BY]
theorem BY_take (xs : List UInt8) (k : Nat) : (BY xs).take k = BY (xs.take k) := by simp [BY]
theorem Reads.cutB {w : World} {B b off n k c : Nat} {xs : List UInt8} (h : Reads w B 1 (some ⟨b, off, none⟩) n (BY xs)) (hk : k ≤ n) (hc : n ≤ c) :
    Reads w B 1 (if c = k then some ⟨b, off, none⟩ else some ⟨b, off + k, none⟩) (n - k) (BY (xs.drop k)) := by
  have := h.cutS (k := k) (by omega) hk hc
  rwa [Nat.mul_one, BY_drop] at this
theorem Reads.zeroB {w : World} {B : Nat} (A : Option Addr) {n : Nat} {xs : List UInt8} (hn : n = 0) (hx : xs = []) : Reads w B 1 A n (BY xs) := by
  subst hn hx; exact ⟨rfl, fun h => absurd h (by omega)⟩
/-- A cut s[k:], the address a map. -/
theorem Reads.cutM {w : World} {B n k : Nat} {A : Option Addr} {xs : List UInt8} (h : Reads w B 1 A n (BY xs)) (hk : k ≤ n) : Reads w B 1 (A.map (fun x => x.add k)) (n - k) (BY (xs.drop k)) := by
  have := h.cut (k := k) (cap := max n (k + 1)) hk (Nat.le_max_left _ _)
  rw [if_neg (by omega), Nat.mul_one, BY_drop] at this
  exact this
/-- A cut s[:k]. -/
theorem Reads.headS {w : World} {B size n k : Nat} {A : Option Addr} {xs : List Value} (h : Reads w B size A n xs) (hk : k ≤ n) : Reads w B size A k (xs.take (k * size)) := by
  refine ⟨by rw [List.length_take, h.1]; exact Nat.min_eq_left (Nat.mul_le_mul_right _ hk), fun h0 => ?_⟩
  obtain ⟨ad, rfl, hb, hc⟩ := h.2 (by omega)
  refine ⟨ad, rfl, hb, fun j u hu => hc j u ?_⟩
  rw [List.getElem?_take] at hu
  split at hu
  · exact hu
  · cases hu
theorem Reads.headB {w : World} {B n k : Nat} {A : Option Addr} {xs : List UInt8} (h : Reads w B 1 A n (BY xs)) (hk : k ≤ n) : Reads w B 1 A k (BY (xs.take k)) := by
  have := h.headS hk
  rwa [Nat.mul_one, BY_take] at this

def sumStep (s : Int) (c : UInt8) : Int := (s * 16807 + (c.toNat : Int) + 1) % 2147483647
def sumOf (s : Int) (xs : List UInt8) : Int := xs.foldl sumStep s
theorem sumStep_lt (s : Int) (c : UInt8) : 0 ≤ sumStep s c ∧ sumStep s c < 2147483647 := by unfold sumStep; omega
theorem sumOf_lt (s : Int) (xs : List UInt8) (h0 : 0 ≤ s) (h1 : s < 2147483647) : 0 ≤ sumOf s xs ∧ sumOf s xs < 2147483647 := by
  unfold sumOf
  induction xs generalizing s with
  | nil => exact ⟨h0, h1⟩
  | cons c r ih => exact ih _ (sumStep_lt s c).1 (sumStep_lt s c).2
theorem sumOf_snoc (s : Int) (xs : List UInt8) (k : Nat) (hk : k < xs.length) : sumOf s (xs.take (k + 1)) = sumStep (sumOf s (xs.take k)) xs[k] := by
  unfold sumOf
  rw [List.take_succ_eq_append_getElem hk, List.foldl_append]; rfl

theorem rest_measure (m : Int) (h : 2147483647 < m) (hm : m < 18446744073709551616) : bits BinOp.and IntKind.u64 m 2147483647 = m % 2147483648 := by
  obtain ⟨n, rfl⟩ := Int.eq_ofNat_of_zero_le (show 0 ≤ m by omega)
  have e : (2147483647 : Int) = ((2147483647 : Nat) : Int) := rfl
  rw [e]
  show IntKind.u64.wrap ((BitVec.ofInt 64 (n : Int) &&& BitVec.ofInt 64 ((2147483647 : Nat) : Int)).toNat : Int) = _
  rw [BitVec.ofInt_natCast, BitVec.ofInt_natCast, BitVec.toNat_and, BitVec.toNat_ofNat, BitVec.toNat_ofNat, Nat.mod_eq_of_lt (by omega), Nat.mod_eq_of_lt (by omega)]
  have : n &&& 2147483647 = n % 2147483648 := Nat.and_two_pow_sub_one_eq_mod n 31
  rw [this, IntKind.wrap_u64]
  omega

theorem check_rest (n : Int) (w : World) (h0 : 0 ≤ n) (h1 : n < 18446744073709551616) :
    Calls Tryz.prog 225 #[.int .u64 n] w fun e w' => e = .returned (.int .u64 (n % 2147483647)) ∧ w = w' := by
  go_enter Tryz.func225, Tryz.ntmps225
  go_wp2
  go_loop [0] (fun x => ∃ m : Int, x = .int .u64 m ∧ 0 ≤ m ∧ m < 18446744073709551616 ∧ m % 2147483647 = n % 2147483647) (fun x => (intOf x).toNat)
  case atStart => exact ⟨n, rfl, h0, h1, rfl⟩
  case round =>
    obtain ⟨m, rfl, hm0, hm1, hm⟩ := hrel
    have H := hide hm
    clear hm
    by_cases hlt : 2147483647 < m
    · go_wp2
      go_round
      case rel =>
        have := H.out
        rw [rest_measure m hlt hm1]
        refine ⟨m % 2147483648 + m / 2147483648, ?_, by omega, by omega, by omega⟩
        rw [IntKind.wrap_u64]; congr 1; omega
      case measure =>
        rw [rest_measure m hlt hm1]
        show (IntKind.u64.wrap (m % 2147483648 + m / 2147483648)).toNat < m.toNat
        rw [IntKind.wrap_u64, Int.emod_eq_of_lt (by omega) (by omega)]
        omega
    · go_wp2
      go_ret
      exact ⟨ret_int H.out, rfl⟩

theorem check_is_one (s : Int) (ad : Addr) (w : World) (hc : w.cell? ad = some (.int .u32 s)) (h1 : s < 2147483647) :
    Calls Tryz.prog 224 #[.slice (some ad) 1 1] w fun e w' => e = .returned (.bool true) ∧ w = w' := by
  go_enter Tryz.func224, Tryz.ntmps224
  go_wp2
  refine wp_loop_rounds 2 ?_
  rw [rounds_succ]
  go_wp2
  rw [rounds_succ]
  go_wp2
  go_ret
  exact ⟨rfl, rfl⟩


theorem check_add (s : Int) (A : Option Addr) (n c : Nat) (xs : List UInt8) (w : World) (h0 : 0 ≤ s) (h1 : s < 2147483647) (hn : n = xs.length) (hlen : n ≤ 9223372036854775807) (hr : Reads w w.heap.size 1 A n (BY xs)) :
    Calls Tryz.prog 207 #[.int .u32 s, .slice A n c] w fun e w' => e = .returned (.tuple #[.int .u32 (sumOf s xs), .int .i64 0]) ∧ Below w.heap.size w w' := by
  have HN := hide hn
  clear hn
  go_enter Tryz.func207, Tryz.ntmps207
  go_wp2_with (go_at_call 224; refine (check_is_one s ⟨w.heap.size, 0, none⟩ _ (by simp [World.cell?_alloc_new]) h1).mono ?_; rintro e w' ⟨rfl, rfl⟩)
  have hr1 := hr.alloc (Nat.le_refl _) (Obj.cells #[Value.int IntKind.u32 s] 181)
  go_loop [6, 17] (fun x i => ∃ k : Nat, k ≤ n ∧ i = .int .i64 k ∧ x = .int .u64 (sumOf s (xs.take k))) (fun _ i => n - (intOf i).toNat)
  case atStart => exact ⟨0, Nat.zero_le _, rfl, rfl⟩
  case round =>
    obtain ⟨k, hk, rfl, rfl⟩ := hrel
    have hb := sumOf_lt s (xs.take k) h0 h1
    by_cases hlt : k < n
    · obtain ⟨b, off, hx, rfl, _, hc⟩ := hr1.byte hlt
      have hby := byte_lt xs[k]
      have HS := hide (sumOf_snoc s xs k hx)
      go_wp2_with (go_at_call 225; refine (check_rest _ _ (by omega) (by omega)).mono ?_; rintro e w' ⟨rfl, rfl⟩)
      go_round
      case rel => exact ⟨k + 1, by omega, by go_num, by rw [HS.out]; rfl⟩
      case measure => simp [intOf]; omega
    · go_wp2
      go_ret2
      have := HN.out
      obtain rfl : k = n := by omega
      rw [List.take_of_length_le (by omega)]
      exact ⟨rfl, (Below.refl _ _).alloc (Nat.le_refl _) _⟩

theorem check_sum (A : Option Addr) (n c : Nat) (xs : List UInt8) (w : World) (hn : n = xs.length) (hlen : n ≤ 9223372036854775807) (hr : Reads w w.heap.size 1 A n (BY xs)) :
    Calls Tryz.prog 177 #[.slice A n c] w fun e w' => e = .returned (.int .u32 (sumOf 0 xs)) ∧ Below w.heap.size w w' := by
  have HN := hide hn
  clear hn
  go_enter Tryz.func177, Tryz.ntmps177
  go_wp2_with (go_at_call 207; refine (check_add 0 A n c xs _ (by omega) (by omega) HN.out hlen hr).mono ?_; rintro e w' ⟨rfl, hb⟩)
  go_ret
  exact ⟨rfl, hb⟩

theorem ref04_add (s : Int) (A : Option Addr) (n c : Nat) (xs : List UInt8) (w : World) (h0 : 0 ≤ s) (h1 : s < 2147483647) (hn : n = xs.length) (hlen : n ≤ 9223372036854775807) (hr : Reads w w.heap.size 1 A n (BY xs)) :
    Calls Tryz.prog 178 #[.int .u32 s, .slice A n c] w fun e w' => e = .returned (.tuple #[.int .u32 (sumOf s xs), .int .i64 0]) ∧ w = w' := by
  have HN := hide hn
  clear hn
  go_enter Tryz.func178, Tryz.ntmps178
  go_wp2
  go_loop [6, 7] (fun x i => ∃ k : Nat, k ≤ n ∧ i = .int .i64 k ∧ x = .int .u64 (sumOf s (xs.take k))) (fun _ i => n - (intOf i).toNat)
  case atStart => exact ⟨0, Nat.zero_le _, rfl, rfl⟩
  case round =>
    obtain ⟨k, hk, rfl, rfl⟩ := hrel
    have hb := sumOf_lt s (xs.take k) h0 h1
    by_cases hlt : k < n
    · obtain ⟨b, off, hx, rfl, _, hc⟩ := hr.byte hlt
      have hby := byte_lt xs[k]
      have HS := hide (sumOf_snoc s xs k hx)
      go_wp2
      go_round
      case rel => exact ⟨k + 1, by omega, by go_num, by rw [HS.out]; rfl⟩
      case measure => simp [intOf]; omega
    · go_wp2
      go_ret2
      have := HN.out
      obtain rfl : k = n := by omega
      rw [List.take_of_length_le (by omega)]
      exact ⟨rfl, rfl⟩

theorem ref04_sum (A : Option Addr) (n c : Nat) (xs : List UInt8) (w : World) (hn : n = xs.length) (hlen : n ≤ 9223372036854775807) (hr : Reads w w.heap.size 1 A n (BY xs)) :
    Calls Tryz.prog 145 #[.slice A n c] w fun e w' => e = .returned (.int .u32 (sumOf 0 xs)) ∧ w = w' := by
  have HN := hide hn
  clear hn
  go_enter Tryz.func145, Tryz.ntmps145
  go_wp2_with (go_at_call 178; refine (ref04_add 0 A n c xs _ (by omega) (by omega) HN.out hlen hr).mono ?_; rintro e w' ⟨rfl, rfl⟩)
  go_ret
  exact ⟨rfl, rfl⟩

end Go.Proofs.YtgjmfncebbfniaaGreatDoor
