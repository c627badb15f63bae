/- The number of a name. -/
/- Package frame: Put. -/
import Derived.Test.YtgjmfncebbfniaaGreatDoorShelf
import Derived.Test.YtgjmfncebbfniaaGreatDoorStoA
import Derived.Test.YtgjmfncebbfniaaGreatDoorName
import Derived.Test.YtgjmfncebbfniaaGreatDoorNum
import Derived.Test.YtgjmfncebbfniaaGreatDoorCheck
import Derived.Test.YtgjmfncebbfniaaGreatDoorEnc
namespace Go.Proofs.YtgjmfncebbfniaaGreatDoor
set_option maxRecDepth 100000
open Go Go.RowKit

def isDig (c : UInt8) : Bool := decide (48 ≤ c.toNat) && decide (c.toNat ≤ 57)
def decVal (acc : Nat) (l : List UInt8) : Nat := l.foldl (fun a c => a * 10 + (c.toNat - 48)) acc
def restP (pre name : Nm) : Nm := name.drop pre.length
def numP (pre name : Nm) : Int := if pre.isPrefixOf name = true ∧ (restP pre name).length = 6 ∧ (restP pre name).all isDig = true then (decVal 0 (restP pre name) : Int) else 0
theorem decFrom_dig : ∀ (l : List UInt8) (acc : Nat), l.all isDig = true → Lib.decFrom acc l = some (decVal acc l)
  | [], _, _ => rfl
  | c :: r, acc, h => by
    rw [List.all_cons, Bool.and_eq_true] at h
    have hc : 48 ≤ c.toNat ∧ c.toNat ≤ 57 := by simpa [isDig] using h.1
    rw [Lib.decFrom, Lib.digitVal, if_pos hc]
    exact decFrom_dig r _ h.2
theorem atoi_dig {l : List UInt8} (h : l.all isDig = true) (hne : l ≠ []) : Lib.atoi l = some (decVal 0 l : Int) := by
  rcases l with _ | ⟨c, r⟩
  · exact absurd rfl hne
  · have hc : 48 ≤ c.toNat ∧ c.toNat ≤ 57 := by
      rw [List.all_cons, Bool.and_eq_true] at h
      simpa [isDig] using h.1
    have h1 : (c == 45) = false := by
      rw [beq_eq_false_iff_ne]; rintro rfl; simp at hc
    have h2 : (c == 43) = false := by
      rw [beq_eq_false_iff_ne]; rintro rfl; simp at hc
    rw [Lib.atoi, h1, h2]
    simp only [Bool.false_eq_true, if_false]
    rw [Lib.decNat, if_neg (by simp), decFrom_dig _ _ h]
    rfl
/-- The runes that are no digits. -/
def oddR (r : Nat) : Bool := decide (r < 48) || decide (57 < r)
theorem get_arr (l : List UInt8) (i : Nat) (hi : i < l.length) : (⟨l.toArray⟩ : ByteArray).get! i = l[i] := by
  show (l.toArray)[i]! = _
  simp [hi]
theorem decode_low (l : List UInt8) (i : Nat) (hi : i < l.length) (h : l[i].toNat < 128) : Utf8.decode ⟨l.toArray⟩ i = (l[i].toNat, 1) := by
  unfold Utf8.decode
  simp only [Nat.add_zero, get_arr l i hi]
  rw [if_pos h]
theorem decode_high (l : List UInt8) (i : Nat) (hi : i < l.length) (h : ¬ l[i].toNat < 128) : 57 < (Utf8.decode ⟨l.toArray⟩ i).1 := by
  unfold Utf8.decode
  simp only [Nat.add_zero, get_arr l i hi]
  rw [if_neg h]
  unfold Utf8.runeError
  split
  · split
    · rename_i h2; simp only [ge_iff_le] at h2; omega
    · decide
  · split
    · split
      · rename_i h2; simp only [ge_iff_le, Bool.and_eq_true, decide_eq_true_eq] at h2; omega
      · decide
    · split
      · split
        · rename_i h2; simp only [ge_iff_le, Bool.and_eq_true, decide_eq_true_eq] at h2; omega
        · decide
      · decide
theorem idx_dig (l : List UInt8) : ∀ (f pos : Nat), l.length ≤ pos + f → (decide (0 ≤ Lib.idxFuncFrom oddR true ⟨l.toArray⟩ f pos)) = !((l.drop pos).all isDig)
  | 0, pos, h => by
    rw [List.drop_of_length_le (by omega)]; rfl
  | f + 1, pos, h => by
    unfold Lib.idxFuncFrom
    by_cases hp : pos < l.length
    · rw [if_pos (by exact hp), List.drop_eq_getElem_cons hp, List.all_cons]
      by_cases hl : l[pos].toNat < 128
      · rw [decode_low l pos hp hl]
        simp only
        cases hd : isDig l[pos]
        · have : oddR l[pos].toNat = true := by
            simp only [isDig, Bool.and_eq_false_iff, decide_eq_false_iff_not] at hd
            simp only [oddR, Bool.or_eq_true, decide_eq_true_eq]
            omega
          rw [if_pos this]
          simp
        · have : ¬ oddR l[pos].toNat = true := by
            simp only [isDig, Bool.and_eq_true, decide_eq_true_eq] at hd
            simp only [oddR, Bool.or_eq_true, decide_eq_true_eq]
            omega
          rw [if_neg this, idx_dig l f (pos + 1) (by omega)]
          simp
      · have h2 := decode_high l pos hp hl
        have h3 : oddR (Utf8.decode ⟨l.toArray⟩ pos).1 = true := by simp only [oddR, Bool.or_eq_true, decide_eq_true_eq]; omega
        rw [if_pos h3]
        have h4 : isDig l[pos] = false := by simp only [isDig, Bool.and_eq_false_iff, decide_eq_false_iff_not]; omega
        rw [h4]
        simp
    · rw [if_neg (by exact hp), List.drop_of_length_le (by omega)]; rfl
theorem numbered_pred (w : World) : PredAtRunes Tryz.prog 107 #[] oddR w := by
  intro W x hx hb
  show Calls Tryz.prog 107 #[.int .i32 (x : Int)] W _
  by_cases h1 : (x : Int) < 48
  · have e : oddR x = true := by simp only [oddR, Bool.or_eq_true, decide_eq_true_eq]; omega
    rw [e]
    clear e
    go_enter Tryz.func107, Tryz.ntmps107
    go_wp2
    go_ret
    exact ⟨rfl, 0, rfl⟩
  · by_cases h2 : (57 : Int) < (x : Int)
    · have e : oddR x = true := by simp only [oddR, Bool.or_eq_true, decide_eq_true_eq]; omega
      rw [e]
      clear e
      go_enter Tryz.func107, Tryz.ntmps107
      go_wp2
      go_ret
      exact ⟨by simp, 0, rfl⟩
    · have e : oddR x = false := by simp only [oddR, Bool.or_eq_false_iff, decide_eq_false_iff_not]; omega
      rw [e]
      clear e
      go_enter Tryz.func107, Tryz.ntmps107
      go_wp2
      go_ret
      exact ⟨by simp, 0, rfl⟩

set_option maxHeartbeats 1000000 in
theorem version_numbered (pre name : Nm) (w : World) : Calls Tryz.prog 51 #[str pre, str name] w fun e W => e = .returned (.int .i64 (numP pre name)) ∧ Below w.heap.size w W := by
  have HC := hide (Tryz.strings_CutPrefix ⟨name.toArray⟩ ⟨pre.toArray⟩ w)
  rw [show (⟨name.toArray⟩ : ByteArray).data.toList = name from rfl, show (⟨pre.toArray⟩ : ByteArray).data.toList = pre from rfl] at HC
  by_cases hp : pre.isPrefixOf name = true
  · have h1 : Lib.hasPrefix name pre = true := hp
    have h2 : Lib.trimPrefix name pre = restP pre name := by unfold Lib.trimPrefix; rw [if_pos h1]; rfl
    rw [h1, h2] at HC
    by_cases h6 : (restP pre name).length = 6
    · have hcf := idx_dig (restP pre name) (restP pre name).length 0 (by omega)
      have HF := hide (Tryz.strings_ContainsFunc_runes 107 #[] (enters_of Tryz.func107 (by kernel_rfl) rfl) oddR ⟨(restP pre name).toArray⟩ w (numbered_pred w))
      have e1 : Lib.idxFunc oddR true ⟨(restP pre name).toArray⟩ = Lib.idxFuncFrom oddR true ⟨(restP pre name).toArray⟩ (restP pre name).length 0 := rfl
      rw [e1, hcf, List.drop_zero] at HF
      by_cases hd : (restP pre name).all isDig = true
      · have HN : Hid (numP pre name = (decVal 0 (restP pre name) : Int)) := by show _ = _; unfold numP; rw [if_pos ⟨hp, h6, hd⟩]
        have hat := atoi_dig hd (fun e => by rw [e] at h6; cases h6)
        rw [hd] at HF
        generalize restP pre name = rest at HC HF HN hat h6
        have HA := hide (fun W => Tryz.strconv_Atoi ⟨rest.toArray⟩ (decVal 0 rest : Int) (by show rest.length ≤ 18; omega) hat W)
        have hsz : (⟨rest.toArray⟩ : ByteArray).size = 6 := h6
        clear hp h1 h2 h6 hcf e1 hd hat
        generalize decVal 0 rest = dv at HA HN
        go_enter Tryz.func51, Tryz.ntmps51
        go_wp2_with fail
        refine (unhide HC).mono ?_
        rintro e w1 ⟨rfl, rfl⟩
        go_wp2_with (first
          | (go_at_call 106; refine (unhide HF).mono ?_; rintro e w2 ⟨rfl, hb2⟩)
          | (go_at_call 108; refine (HA.out _).mono ?_; rintro e w3 ⟨rfl, t, rfl⟩))
        go_ret
        rw [HN.out]
        exact ⟨rfl, hb2.trans ((Lib.bytesWorld_below w2 _ _).mono hb2.size)⟩
      · have hd' : (restP pre name).all isDig = false := by simpa using hd
        have HN : Hid (numP pre name = 0) := by show _ = _; unfold numP; rw [if_neg (fun h => hd h.2.2)]
        rw [hd'] at HF
        generalize restP pre name = rest at HC HF HN h6
        have hsz : (⟨rest.toArray⟩ : ByteArray).size = 6 := h6
        clear hp h1 h2 h6 hcf e1 hd hd'
        go_enter Tryz.func51, Tryz.ntmps51
        go_wp2_with fail
        refine (unhide HC).mono ?_
        rintro e w1 ⟨rfl, rfl⟩
        go_wp2_with (first
          | (go_at_call 106; refine (unhide HF).mono ?_; rintro e w2 ⟨rfl, hb2⟩))
        go_ret
        rw [HN.out]
        exact ⟨rfl, hb2⟩
    · have HN : Hid (numP pre name = 0) := by show _ = _; unfold numP; rw [if_neg (fun h => h6 h.2.1)]
      generalize restP pre name = rest at HC HN h6
      have hsz : (((⟨rest.toArray⟩ : ByteArray).size : Int) != 6) = true := by rw [bne_iff_ne]; show (rest.length : Int) ≠ 6; omega
      have hsz2 : ((rest.length : Int) != 6) = true := hsz
      clear hp h1 h2 h6
      go_enter Tryz.func51, Tryz.ntmps51
      go_wp2_with fail
      refine (unhide HC).mono ?_
      rintro e w1 ⟨rfl, rfl⟩
      go_wp2
      go_ret
      rw [HN.out]
      exact ⟨rfl, Below.refl _ _⟩
  · have h1 : Lib.hasPrefix name pre = false := by show pre.isPrefixOf name = false; exact Bool.eq_false_iff.2 hp
    have HN : Hid (numP pre name = 0) := by show _ = _; unfold numP; rw [if_neg (fun h => hp h.1)]
    rw [h1] at HC
    generalize Lib.trimPrefix name pre = rest at HC
    clear hp h1
    go_enter Tryz.func51, Tryz.ntmps51
    go_wp2_with fail
    refine (unhide HC).mono ?_
    rintro e w1 ⟨rfl, rfl⟩
    go_wp2
    go_ret
    rw [HN.out]
    exact ⟨rfl, Below.refl _ _⟩
end Go.Proofs.YtgjmfncebbfniaaGreatDoor

namespace Go.Proofs.YtgjmfncebbfniaaGreatDoor
set_option maxRecDepth 100000
open Go Go.RowKit

/-- Four bytes of a sum, the highest first. -/
def be4 (s : Int) : List UInt8 := [UInt8.ofNat (s / 16777216 % 256).toNat, UInt8.ofNat (s / 65536 % 256).toNat, UInt8.ofNat (s / 256 % 256).toNat, UInt8.ofNat (s % 256).toNat]
def bodyP (kind : UInt8) (b : List UInt8) : List UInt8 := kind :: text7 b
def frameP (kind : UInt8) (b : List UInt8) : List UInt8 := bodyP kind b ++ be4 (sumOf 0 (bodyP kind b))
/-- A frame is answered, or that it would be too long. -/
def PutPost (w : World) (kind : UInt8) (b : List UInt8) (e : Ending) (W : World) : Prop :=
  Below w.heap.size w W ∧ if 65536 < b.length then e = .returned (.tuple #[.slice none 0 0, .int .i64 1]) else ∃ v, e = .returned (.tuple #[v, .int .i64 0]) ∧ OwnB W w.heap.size v (frameP kind b)
theorem be4_len (s : Int) : (be4 s).length = 4 := rfl
theorem be4_snoc (s : Int) (k : Nat) (hk : k < 4) : (be4 s).take (k + 1) = (be4 s).take k ++ [UInt8.ofNat (s / 256 ^ (3 - k) % 256).toNat] := by
  rcases k with _ | _ | _ | _ | k
  · rfl
  · rfl
  · rfl
  · simp [be4]
  · omega

set_option maxHeartbeats 1000000 in
theorem frame_put (kind : UInt8) (A : Option Addr) (n c : Nat) (b : List UInt8) (w : World) (hlen : n ≤ lim) (hr : Reads w w.heap.size 1 A n (BY b)) :
    Calls Tryz.prog 144 #[.int .u8 (kind.toNat : Int), .slice A n c] w (PutPost w kind b) := by
  have hbl := hr.blen
  by_cases hbig : 65536 < n
  · have HP : Hid (65536 < b.length) := by show _ < _; omega
    have hd : (65536 : Int) < (n : Int) := by omega
    clear hbl
    go_enter Tryz.func144, Tryz.ntmps144
    go_wp2
    go_ret2
    exact ⟨Below.refl _ _, by rw [if_pos HP.out]; rfl⟩
  · have HP : Hid (¬ 65536 < b.length) := by show ¬ _ < _; omega
    have hd : ¬ (65536 : Int) < (n : Int) := by omega
    have htl : (text7 b).length ≤ 10 + b.length := text7_len b (by omega)
    have htl2 : (text7 b).length ≤ 70000 := by omega
    have hbd : (bodyP kind b).length ≤ 70000 := by simp [bodyP]; omega
    have HN := hide hbl
    have hkb := byte_lt kind
    have hk1 : BY [kind] = [.int .u8 (kind.toNat : Int)] := rfl
    have HT := hide (fun W hW => code_text A n c b W hlen hW)
    clear hbl hbig
    have hA0 : OwnB (w.alloc (.cells #[.int .u8 (kind.toNat : Int)] 5)) w.heap.size (.slice (some ⟨w.heap.size, 0, none⟩) 1 1) [kind] := OwnB.new w _ [kind] [.int .u8 (kind.toNat : Int)] hk1.symm (Nat.le_refl _) (by unfold maxLen; simp)
    have hbel0 : Below w.heap.size w (w.alloc (.cells #[.int .u8 (kind.toNat : Int)] 5)) := (Below.refl _ _).alloc (Nat.le_refl _) _
    have hsz0 : (w.alloc (.cells #[.int .u8 (kind.toNat : Int)] 5)).heap.size = w.heap.size + 1 := by simp
    have HBEL0 := hide hbel0
    have HHK := hide hk1
    clear hk1 hbel0
    go_enter Tryz.func144, Tryz.ntmps144
    go_wp2_with (first
      | (go_at_call 35; refine (HT.out _ ((hr.alloc (Nat.le_refl _) _).more (by simp))).mono ?_; rintro e w1 ⟨v1, rfl, hown1, hb1⟩; obtain ⟨A1, n1, c1, rfl, hn1, hc1, hr1⟩ := hown1.form2)
      | (at_builtin; refine app_bytes rfl _ _ rfl w.heap.size (.slice (some ⟨w.heap.size, 0, none⟩) 1 1) [kind] (text7 b) rfl (hA0.below hb1) _ A1 n1 c1 rfl hr1 (by rw [List.length_singleton]; omega) (by have := hb1.size; omega) ?_; intro v2 w2 hown2 hg2 hat2; obtain ⟨A2, n2, c2, rfl, hn2, hc2, hr2⟩ := hown2.form2)
      | (go_at_call 177; refine (check_sum A2 n2 c2 (bodyP kind b) _ hn2.out (by rw [hn2.out]; show (bodyP kind b).length ≤ _; omega) hr2).mono ?_; rintro e w3 ⟨rfl, hb3⟩))
    have hsr := sumOf_lt 0 (bodyP kind b) (by omega) (by omega)
    have hbw : Below w.heap.size w w3 := ((HBEL0.out.trans (hb1.mono (by omega))).grown hg2 (by have := hb1.size; omega) (fun g hg => by simp [Value.ownBlock] at hg; omega)).trans (hb3.mono (by have h8 := hg2.size; have h9 := hb1.size; omega))
    have hown3 : OwnB w3 w.heap.size (.slice A2 n2 c2) (bodyP kind b ++ (be4 (sumOf 0 (bodyP kind b))).take 0) := by simpa [bodyP] using hown2.below hb3
    generalize hS : sumOf 0 (bodyP kind b) = S at *
    have HSS := hide hS
    clear hS hown2 hr2 hn2 hg2 hat2 hb3 hn1 hr1 hb1 hown1 hA0
    go_loopw [6, 19] (fun v i wr => ∃ k : Nat, k ≤ 4 ∧ i = .int .i64 k ∧ OwnB wr w.heap.size v (bodyP kind b ++ (be4 S).take k) ∧ Below w.heap.size w wr) (fun _ i _ => 4 - (intOf i).toNat)
    case atStart => exact ⟨0, by omega, rfl, hown3, hbw⟩
    case round =>
      obtain ⟨k, hk, rfl, hown, hb⟩ := hrel
      by_cases hlt : k < 4
      · have hsn := be4_snoc S k hlt
        have hl0 : (bodyP kind b ++ (be4 S).take k).length ≤ 80000 := by simp [be4_len]; omega
        have HSN := hide hsn
        clear hsn hown3
        have hrd : ∀ x : Int, x = S / 256 ^ (3 - k) % 256 → Reads (wr.alloc (.cells #[.int .u8 x] 5)) (wr.heap.size + 1) 1 (some ⟨wr.heap.size, 0, none⟩) 1 (BY [UInt8.ofNat (S / 256 ^ (3 - k) % 256).toNat]) := fun x hx => by
          subst hx
          rw [BY_sing _ (by omega) (by omega)]
          exact Reads.new wr [.int .u8 (S / 256 ^ (3 - k) % 256)] 5 (wr.heap.size + 1) (by omega)
        have HRD := hide hrd
        have hbws := hb.size
        clear hrd
        obtain rfl | rfl | rfl | rfl : k = 0 ∨ k = 1 ∨ k = 2 ∨ k = 3 := by omega
        all_goals
          go_wp2_with (at_builtin; refine app_bytes rfl _ _ rfl w.heap.size _ _ _ rfl (hown.alloc _) _ (some ⟨wr.heap.size, 0, none⟩) 1 1 rfl (HRD.out _ (by first | omega | (simp; done) | (simp; omega))) (by rw [List.length_singleton]; omega) (by simp; omega) ?_; intro v4 w4 hown4 hg4 hat4)
          go_roundw
          all_goals first
            | exact ⟨1, by omega, rfl, by rw [show (be4 S).take 1 = _ from HSN.out, ← List.append_assoc]; exact hown4, (hb.alloc hbws _).grown hg4 (by simp; omega) (fun g hg => (World.ownsRow.lt hown g hg).1)⟩
            | exact ⟨2, by omega, rfl, by rw [show (be4 S).take 2 = _ from HSN.out, ← List.append_assoc]; exact hown4, (hb.alloc hbws _).grown hg4 (by simp; omega) (fun g hg => (World.ownsRow.lt hown g hg).1)⟩
            | exact ⟨3, by omega, rfl, by rw [show (be4 S).take 3 = _ from HSN.out, ← List.append_assoc]; exact hown4, (hb.alloc hbws _).grown hg4 (by simp; omega) (fun g hg => (World.ownsRow.lt hown g hg).1)⟩
            | exact ⟨4, by omega, rfl, by rw [show (be4 S).take 4 = _ from HSN.out, ← List.append_assoc]; exact hown4, (hb.alloc hbws _).grown hg4 (by simp; omega) (fun g hg => (World.ownsRow.lt hown g hg).1)⟩
            | (simp [intOf])
      · obtain rfl : k = 4 := by omega
        rw [List.take_of_length_le (by rw [be4_len]; omega)] at hown
        have hfin : Hid (bodyP kind b ++ be4 S = frameP kind b) := by show _ = _; rw [frameP, HSS.out]
        clear hown3
        go_wp2
        go_ret2
        refine ⟨hb, ?_⟩
        rw [if_neg HP.out]
        rw [hfin.out] at hown
        exact ⟨_, rfl, hown⟩
end Go.Proofs.YtgjmfncebbfniaaGreatDoor
