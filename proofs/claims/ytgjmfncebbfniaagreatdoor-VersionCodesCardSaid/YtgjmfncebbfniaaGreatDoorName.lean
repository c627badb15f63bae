/- The names of table files. -/
import Derived.Test.YtgjmfncebbfniaaGreatDoorCode
import Derived.Test.YtgjmfncebbfniaaGreatDoorKept
import Derived.Test.YtgjmfncebbfniaaGreatDoorRefFile
import Derived.Test.YtgjmfncebbfniaaGreatDoorShelf
import Derived.Lib.AppendIntMem
import Derived.Lib.ConvBytes
import Derived.Lib.AtoiErrMem
namespace Go.Proofs.YtgjmfncebbfniaaGreatDoor
set_option maxRecDepth 100000
open Go Go.RowKit

/-- The last k decimal digits of u. -/
def pad : Nat → Nat → List UInt8
  | 0, _ => []
  | k + 1, u => pad k (u / 10) ++ [UInt8.ofNat (48 + u % 10)]
theorem pad_length : ∀ k u, (pad k u).length = k
  | 0, _ => rfl
  | k + 1, u => by simp [pad, pad_length k]
theorem pad_zero : ∀ k, pad k 0 = List.replicate k 48
  | 0 => rfl
  | k + 1 => by
    rw [pad, Nat.zero_div, pad_zero k, List.replicate_succ']
    rfl
theorem pad_dec : ∀ (k u : Nat), 1 ≤ k → u < 10 ^ k → (Lib.decDigits u).length ≤ k ∧ List.replicate (k - (Lib.decDigits u).length) 48 ++ Lib.decDigits u = pad k u
  | 0, _, h, _ => absurd h (by omega)
  | k + 1, u, _, hu => by
    by_cases h : u < 10
    · have h0 : u / 10 = 0 := by omega
      have h1 : u % 10 = u := by omega
      rw [Lib.decDigits_one h, pad, h0, h1, pad_zero]
      simp
    · have hk : 1 ≤ k := by
        rcases Nat.eq_zero_or_pos k with rfl | hk
        · simp at hu; omega
        · exact hk
      obtain ⟨i1, i2⟩ := pad_dec k (u / 10) hk (by rw [Nat.pow_succ] at hu; omega)
      have e : Lib.decDigits u = Lib.decDigits (u / 10) ++ [UInt8.ofNat (48 + u % 10)] := by rw [Lib.decDigits, dif_neg h]
      rw [e, pad, ← i2]
      constructor
      · simp; omega
      · simp
theorem repeat_zero (k : Nat) (hk : k ≤ 6) (w : World) : Calls Tryz.prog 102 #[.string ⟨#[48]⟩, .int .i64 k] w fun e w' => e = .returned (.string ⟨(List.replicate k (48 : UInt8)).toArray⟩) ∧ Below w.heap.size w w' := by
  by_cases h0 : k = 0
  · subst h0
    refine (Tryz.strings_Repeat_zero ⟨#[48]⟩ w).mono ?_
    rintro e w' ⟨rfl, rfl⟩
    exact ⟨rfl, Below.refl _ _⟩
  · by_cases h1 : k = 1
    · subst h1
      refine (Tryz.strings_Repeat_one ⟨#[48]⟩ w).mono ?_
      rintro e w' ⟨rfl, rfl⟩
      exact ⟨rfl, Below.refl _ _⟩
    · refine (Tryz.strings_Repeat_main ⟨#[48]⟩ k w (by omega) (by omega) (by show 1 * k ≤ _; omega) (by show 0 < 1; omega)).mono ?_
      rintro e w' ⟨rfl, hb⟩
      refine ⟨?_, hb⟩
      rw [show (⟨#[48]⟩ : ByteArray).data.toList = List.replicate 1 48 from rfl, Lib.repeatL_replicate]
      simp
/-- The table that strconv reads. -/
def Tab10 (w : World) : Prop := Lib.TabIs Tryz.prog w "internal/strconv.uint64pow10" .u64 Lib.pow10Tab
def nameP (n : Int) : List UInt8 := if 1 ≤ n ∧ n ≤ 999999 then [116, 97, 98, 45] ++ pad 6 n.toNat else []
def StrPost (w : World) (xs : List UInt8) (e : Ending) (W : World) : Prop := e = .returned (.string ⟨xs.toArray⟩) ∧ Below w.heap.size w W

theorem version_named (pre : List UInt8) (n : Int) (hpre : pre.length ≤ 100) (hn : 0 ≤ n) (hn' : n ≤ 999999) (w : World) (ht : Tab10 w) :
    Calls Tryz.prog 46 #[.string ⟨pre.toArray⟩, .int .i64 n] w (StrPost w (pre ++ pad 6 n.toNat)) := by
  obtain ⟨u, rfl⟩ := Int.eq_ofNat_of_zero_le hn
  have hu : u < 10 ^ 6 := by omega
  obtain ⟨p1, p2⟩ := pad_dec 6 u (by omega) hu
  have HI := hide (Tryz.strconv_Itoa (u : Int) (by omega) (by omega) w ht)
  rw [Lib.itoa_nonneg] at HI
  obtain ⟨ds, hds⟩ : ∃ ds, ds = Lib.decDigits u := ⟨_, rfl⟩
  rw [← hds] at HI p1 p2
  have HP := hide p2
  have hsz : (⟨ds.toArray⟩ : ByteArray).size = ds.length := rfl
  have hsub : (6 : Int) - (ds.length : Int) = ((6 - ds.length : Nat) : Int) := by omega
  clear p2 hds ht
  go_enter Tryz.func46, Tryz.ntmps46
  go_wp2_with fail
  refine (unhide HI).mono ?_
  rintro e w1 ⟨rfl, hgr⟩
  have hb1 : Below w.heap.size w w1 := by obtain ⟨k, os, rfl⟩ := hgr; exact Lib.below_grow _ w (Nat.le_refl _) k os
  have HR := hide (repeat_zero (6 - ds.length) (by omega) w1)
  obtain ⟨rs, hrs⟩ : ∃ rs, rs = List.replicate (6 - ds.length) (48 : UInt8) := ⟨_, rfl⟩
  have hrl : rs.length ≤ 6 := by rw [hrs]; simp
  rw [← hrs] at HR HP
  clear hgr HI hrs
  have h1 : ¬ (9223372036854775807 < pre.length + rs.length) := by omega
  have h2 : ¬ (9223372036854775807 < pre.length + rs.length + ds.length) := by omega
  go_wp2_with fail
  refine (unhide HR).mono ?_
  rintro e w2 ⟨rfl, hb2⟩
  go_wp2
  go_ret
  rw [Int.toNat_natCast, ← HP.out]
  refine ⟨?_, hb1.trans (hb2.mono hb1.size)⟩
  show Ending.returned (.string ((⟨pre.toArray⟩ ++ ⟨rs.toArray⟩) ++ ⟨ds.toArray⟩)) = _
  rw [ByteArray.mk_append_mk, ByteArray.mk_append_mk, List.append_assoc]
theorem version_Name (n : Int) (w : World) (ht : Tab10 w) : Calls Tryz.prog 12 #[.int .i64 n] w (StrPost w (nameP n)) := by
  have HV := hide (version_within n 1 999999 w)
  by_cases h : 1 ≤ n ∧ n ≤ 999999
  · have HN := hide (version_named [116, 97, 98, 45] n (by decide) (by omega) h.2 w ht)
    have HP : Hid (nameP n = [116, 97, 98, 45] ++ pad 6 n.toNat) := by show _ = _; rw [nameP, if_pos h]
    have e : withinB n 1 999999 = true := withinB_iff.2 h
    rw [e] at HV
    clear h e
    go_enter Tryz.func12, Tryz.ntmps12
    go_wp2_with (first | (go_at_call 45; refine (unhide HV).mono ?_; rintro e w' ⟨rfl, rfl⟩) | (go_at_call 46; refine (unhide HN).mono ?_; rintro e w1 ⟨rfl, hb1⟩))
    go_ret
    rw [HP.out]
    exact ⟨rfl, hb1⟩
  · have HP : Hid (nameP n = []) := by show _ = _; rw [nameP, if_neg h]
    have e : withinB n 1 999999 = false := Bool.eq_false_iff.2 (fun x => h (withinB_iff.1 x))
    rw [e] at HV
    clear h e
    go_enter Tryz.func12, Tryz.ntmps12
    go_wp2_with (go_at_call 45; refine (unhide HV).mono ?_; rintro e w' ⟨rfl, rfl⟩)
    go_ret
    rw [HP.out]
    exact ⟨rfl, Below.refl _ _⟩
theorem pad_left : ∀ k u, pad (k + 1) u = UInt8.ofNat (48 + u / 10 ^ k % 10) :: pad k u
  | 0, u => by simp [pad]
  | k + 1, u => by
    rw [pad, pad_left k (u / 10), pad, Nat.div_div_eq_div_mul, Nat.pow_succ, Nat.mul_comm 10]
    rfl
/-- The digits written so far. -/
def digB (pre : List UInt8) (k u : Nat) : List UInt8 := pre ++ (List.replicate (6 - k) 48 ++ pad k u)
theorem digB_length {pre : List UInt8} (hpre : pre.length = 4) (k u : Nat) (hk : k ≤ 6) : (digB pre k u).length = 10 := by
  simp [digB, pad_length]; omega
theorem digB_step {pre : List UInt8} (hpre : pre.length = 4) (k u : Nat) (hk : k < 6) : (digB pre k u).set (9 - k) (UInt8.ofNat (48 + u / 10 ^ k % 10)) = digB pre (k + 1) u := by
  unfold digB
  rw [List.set_append_right _ _ (by omega), hpre, show 9 - k - 4 = 5 - k from by omega, show 6 - k = (5 - k) + 1 from by omega, List.replicate_succ', List.append_assoc,
    List.set_append_right _ _ (by simp), List.length_replicate, Nat.sub_self, pad_left, show 6 - (k + 1) = 5 - k from by omega]
  rfl
/-- The row that a conversion of a string made: its bytes are open, its marker lies behind them. -/
def DigRow (W : World) (g : Nat) (ys : List UInt8) : Prop := ∃ cur fz, W.heap[g]? = some (.cells cur 5 fz) ∧ ys.length ≤ fz.1 ∧ ∀ (j : Nat) (b : UInt8), ys[j]? = some b → cur[j]? = some (Value.int .u8 (b.toNat : Int))
section
variable {W : World} {g : Nat} {ys : List UInt8}
theorem DigRow.cell (h : DigRow W g ys) (j : Nat) (hj : j < ys.length) : W.cell? ⟨g, j, none⟩ = some (.int .u8 (ys[j].toNat : Int)) := by
  obtain ⟨cur, fz, h1, h2, h3⟩ := h
  rw [cell_of_row W g j cur _ fz h1]
  exact h3 j _ (List.getElem?_eq_getElem hj)
theorem DigRow.frozen (h : DigRow W g ys) (j : Nat) (hj : j < ys.length) : W.frozen? ⟨g, j, none⟩ = false := by
  obtain ⟨cur, fz, h1, h2, h3⟩ := h
  obtain ⟨lo, hi⟩ := fz
  simp only at h2
  simp [World.frozen?, h1]
  omega
theorem DigRow.set_ (h : DigRow W g ys) (j : Nat) (b : UInt8) : DigRow (W.setCell ⟨g, j, none⟩ (.int .u8 (b.toNat : Int))) g (ys.set j b) := by
  obtain ⟨cur, fz, h1, h2, h3⟩ := h
  refine ⟨cur.setIfInBounds j (.int .u8 (b.toNat : Int)), fz, by simp [World.setCell, Array.getElem?_modify, h1], by simpa using h2, fun i x hx => ?_⟩
  rw [List.getElem?_set] at hx
  split at hx
  · rename_i e
    subst e
    split at hx
    · rename_i hl
      injection hx with hx
      subst hx
      have h4 := h3 j _ (List.getElem?_eq_getElem hl)
      have hsz : j < cur.size := by
        rcases Nat.lt_or_ge j cur.size with h | h
        · exact h
        · rw [Array.getElem?_eq_none h] at h4; cases h4
      rw [Array.getElem?_setIfInBounds_self_of_lt hsz]
    · cases hx
  · rename_i e
    rw [Array.getElem?_setIfInBounds_ne e]
    exact h3 i x hx
theorem DigRow.str (h : DigRow W g ys) (c : Nat) : (convert 26 9 (.slice (some ⟨g, 0, none⟩) ys.length c)).run Tryz.prog W = .ok (.string ⟨ys.toArray⟩) W := by
  refine run_convert_bytes_back W _ _ _ _ c ys Tryz.underlying26 Tryz.underlying5 Tryz.underlying9 fun j hj => ?_
  have e : (⟨g, 0, none⟩ : Addr).add j = ⟨g, j, none⟩ := by unfold Addr.add; split <;> simp_all
  rw [e, h.cell j hj]
end
theorem DigRow.new (w : World) (s : List UInt8) : DigRow (Lib.bytesWorld w 5 ⟨s.toArray⟩) w.heap.size s := by
  refine ⟨_, _, Lib.bytesWorld_at_new w _ _, ?_, fun j b hb => ?_⟩
  · simp [Lib.bytesCells]
  · have hj : j < s.length := by
      rcases Nat.lt_or_ge j s.length with h | h
      · exact h
      · rw [List.getElem?_eq_none h] at hb; cases hb
    rw [List.getElem?_eq_getElem hj] at hb
    injection hb with hb
    subst hb
    simp [Lib.bytesCells, Array.getElem?_append, hj]
theorem ref_digits (pre : List UInt8) (n : Int) (hpre : pre.length = 4) (hn : 0 ≤ n) (hn' : n ≤ 999999) (w : World) :
    Calls Tryz.prog 47 #[.string ⟨pre.toArray⟩, .int .i64 n] w (StrPost w (pre ++ pad 6 n.toNat)) := by
  obtain ⟨u, rfl⟩ := Int.eq_ofNat_of_zero_le hn
  have h1 : ¬ (9223372036854775807 < pre.length + 6) := by omega
  have hs0 : (⟨pre.toArray⟩ : ByteArray) ++ ⟨#[48, 48, 48, 48, 48, 48]⟩ = ⟨(digB pre 0 u).toArray⟩ := by
    rw [show (⟨#[48, 48, 48, 48, 48, 48]⟩ : ByteArray) = ⟨[(48 : UInt8), 48, 48, 48, 48, 48].toArray⟩ from rfl, ByteArray.mk_append_mk]
    simp [digB, pad, List.replicate]
  have hconv := Lib.run_convert_string_bytes (P := Tryz.prog) w 9 26 5 (⟨pre.toArray⟩ ++ ⟨#[48, 48, 48, 48, 48, 48]⟩) Tryz.underlying9 Tryz.underlying26 Tryz.underlying5
  have hsz : ((⟨pre.toArray⟩ : ByteArray) ++ ⟨#[48, 48, 48, 48, 48, 48]⟩).size = 10 := by
    rw [hs0]; exact digB_length hpre 0 u (by omega)
  have hrow : DigRow (Lib.bytesWorld w 5 (⟨pre.toArray⟩ ++ ⟨#[48, 48, 48, 48, 48, 48]⟩)) w.heap.size (digB pre 0 u) := by rw [hs0]; exact DigRow.new w _
  have hbel : Below w.heap.size w (Lib.bytesWorld w 5 (⟨pre.toArray⟩ ++ ⟨#[48, 48, 48, 48, 48, 48]⟩)) := Lib.bytesWorld_below w _ _
  rw [hsz] at hconv
  generalize Lib.bytesWorld w 5 (⟨pre.toArray⟩ ++ ⟨#[48, 48, 48, 48, 48, 48]⟩) = W1 at *
  generalize grownCap w 10 0 5 = cc at *
  clear hsz hs0
  go_enter Tryz.func47, Tryz.ntmps47
  go_wp2
  go_loopw [6, 1] (fun i x wr => ∃ k : Nat, k ≤ 6 ∧ i = .int .i64 (9 - (k : Int)) ∧ x = .int .i64 ((u / 10 ^ k : Nat) : Int) ∧ DigRow wr w.heap.size (digB pre k u) ∧ Below w.heap.size w wr) (fun i _ _ => (intOf i).toNat)
  case atStart => exact ⟨0, by omega, rfl, by simp, hrow, hbel⟩
  case round =>
    obtain ⟨k, hk, rfl, rfl, hr, hb⟩ := hrel
    by_cases hlt : k < 6
    · obtain ⟨jn, hj⟩ : ∃ jn : Nat, (9 : Int) - (k : Int) = (jn : Int) := ⟨9 - k, by omega⟩
      have hjn : jn = 9 - k := by omega
      have hl := digB_length hpre k u (by omega)
      have hj4 : (4 : Int) ≤ (jn : Int) := by omega
      have hj9 : (jn : Int) < 10 := by omega
      obtain ⟨old, c1⟩ : ∃ v, wr.cell? ⟨w.heap.size, jn, none⟩ = some v := ⟨_, hr.cell jn (by omega)⟩
      have f1 := hr.frozen jn (by omega)
      obtain ⟨m, hm⟩ : ∃ m, m = u / 10 ^ k := ⟨_, rfl⟩
      rw [← hm]
      have HM := hide hm
      have HJ := hide hj
      have HN := hide hjn
      have hmr0 : (0 : Int) ≤ (m : Int) % 10 := by omega
      have hmr1 : (m : Int) % 10 < 10 := by omega
      rw [hj]
      clear hm hj hjn hl
      go_wp2
      go_roundw
      case rel =>
        have e1 := HM.out
        have e2 := HN.out
        have hmle : m ≤ 999999 := by rw [e1]; exact Nat.le_trans (Nat.div_le_self _ _) (by omega)
        refine ⟨k + 1, by omega, by have := HJ.out; go_num, ?_, ?_, hb.setCell (Nat.le_refl _) _⟩
        · rw [Nat.pow_succ, ← Nat.div_div_eq_div_mul, ← e1, show wrap64 ((m : Int) / 10) = ((m / 10 : Nat) : Int) from by unfold wrap64; omega]
        · have h5 := hr.set_ jn (UInt8.ofNat (48 + m % 10))
          rw [e2, e1, digB_step hpre k u hlt, ← e1, ← e2] at h5
          have e6 : ((UInt8.ofNat (48 + m % 10)).toNat : Int) = 48 + (m : Int) % 10 := by
            rw [UInt8.toNat_ofNat']; omega
          rw [e6] at h5
          exact h5
      case measure => have := HJ.out; simp [intOf]; omega
    · have hk6 : k = 6 := by omega
      subst hk6
      have hl := digB_length hpre 6 u (by omega)
      have hstr := hr.str cc
      rw [hl] at hstr
      clear hl hlt hk
      go_wp2
      go_ret
      rw [Int.toNat_natCast]
      refine ⟨?_, hb⟩
      show Ending.returned (.string ⟨(digB pre 6 u).toArray⟩) = _
      simp [digB]
theorem ref_Name (n : Int) (w : World) : Calls Tryz.prog 13 #[.int .i64 n] w (StrPost w (nameP n)) := by
  by_cases h : 1 ≤ n ∧ n ≤ 999999
  · have HN := hide (ref_digits [116, 97, 98, 45] n rfl (by omega) h.2 w)
    have HP : Hid (nameP n = [116, 97, 98, 45] ++ pad 6 n.toNat) := by show _ = _; rw [nameP, if_pos h]
    obtain ⟨h1, h2⟩ := h
    go_enter Tryz.func13, Tryz.ntmps13
    go_wp2_with (go_at_call 47; refine (unhide HN).mono ?_; rintro e w1 ⟨rfl, hb1⟩)
    go_ret
    rw [HP.out]
    exact ⟨rfl, hb1⟩
  · have HP : Hid (nameP n = []) := by show _ = _; rw [nameP, if_neg h]
    go_enter Tryz.func13, Tryz.ntmps13
    by_cases h1 : n < 1
    · clear h
      go_wp2
      go_ret
      rw [HP.out]
      exact ⟨rfl, Below.refl _ _⟩
    · have h2 : 999999 < n := by omega
      clear h
      go_wp2
      go_ret
      rw [HP.out]
      exact ⟨rfl, Below.refl _ _⟩
end Go.Proofs.YtgjmfncebbfniaaGreatDoor
