/- Package store: named, meet. -/
import Derived.Test.YtgjmfncebbfniaaGreatDoorStoM
import Derived.Test.YtgjmfncebbfniaaGreatDoorRefFile
import Derived.Lib.ConvBytes
import Derived.Lib.AtoiErrMem
import Derived.Outline
namespace Go.Proofs.YtgjmfncebbfniaaGreatDoor
set_option maxRecDepth 100000
open Go Go.RowKit Go.Maps

/-- A slice of texts. -/
def Strs (w : World) (A : Option Addr) (n : Nat) (ns : List Nm) : Prop :=
  ns.length = n ∧ (0 < n → ∃ b off, A = some ⟨b, off, none⟩ ∧ b < w.heap.size ∧ ∀ i s, ns[i]? = some s → w.cell? ⟨b, off + i, none⟩ = some (str s))
theorem Strs.nil (w : World) : Strs w none 0 [] := ⟨rfl, fun h => absurd h (by omega)⟩
theorem Strs.at_ {w : World} {A : Option Addr} {n : Nat} {ns : List Nm} (h : Strs w A n ns) {i : Nat} (hi : i < n) : ∃ b off, ∃ hx : i < ns.length, A = some ⟨b, off, none⟩ ∧ b < w.heap.size ∧ w.cell? ⟨b, off + i, none⟩ = some (str ns[i]) := by
  obtain ⟨b, off, e, hb, hc⟩ := h.2 (by omega)
  have hx : i < ns.length := by have := h.1; omega
  exact ⟨b, off, hx, e, hb, hc i _ (List.getElem?_eq_getElem hx)⟩
theorem Strs.call {w W : World} {A : Option Addr} {n : Nat} {ns : List Nm} (h : Strs w A n ns) (hb : Below w.heap.size w W) : Strs W A n ns :=
  ⟨h.1, fun hn => by
    obtain ⟨b, off, e, hlt, hc⟩ := h.2 hn
    exact ⟨b, off, e, Nat.lt_of_lt_of_le hlt hb.size, fun i s hi => (hb.cell (p := ⟨b, off + i, none⟩) hlt).trans (hc i s hi)⟩⟩
theorem Strs.new (w : World) (ns : List Nm) (cs : List Value) (hcs : cs = ns.map str) (t : TypeId) : Strs (w.alloc (.cells cs.toArray t)) (some ⟨w.heap.size, 0, none⟩) ns.length ns := by
  subst hcs
  refine ⟨rfl, fun _ => ⟨_, 0, rfl, by simp, fun i s hi => ?_⟩⟩
  rw [Nat.zero_add, (Blk.new w t _).cell]
  simp [hi]
theorem byte_class (c : UInt8) : (nmChar c = true ∧ ((97 ≤ (c.toNat : Int) ∧ (c.toNat : Int) ≤ 122) ∨ (48 ≤ (c.toNat : Int) ∧ (c.toNat : Int) ≤ 57) ∨ (c.toNat : Int) = 45 ∨ (c.toNat : Int) = 46)) ∨
    (nmChar c = false ∧ ((c.toNat : Int) < 45 ∨ (c.toNat : Int) = 47 ∨ (58 ≤ (c.toNat : Int) ∧ (c.toNat : Int) ≤ 96) ∨ 122 < (c.toNat : Int))) := by
  have e : nmChar c = true ↔ ((97 ≤ c.toNat ∧ c.toNat ≤ 122) ∨ (48 ≤ c.toNat ∧ c.toNat ≤ 57) ∨ c.toNat = 45 ∨ c.toNat = 46) := by
    have h45 : c = 45 ↔ c.toNat = 45 := by rw [← UInt8.toNat_inj]; rfl
    have h46 : c = 46 ↔ c.toNat = 46 := by rw [← UInt8.toNat_inj]; rfl
    simp only [nmChar, Bool.or_eq_true, Bool.and_eq_true, decide_eq_true_eq, beq_iff_eq, UInt8.le_iff_toNat_le, h45, h46]
    rfl
  by_cases h : nmChar c = true
  · have := e.1 h
    exact .inl ⟨h, by omega⟩
  · have h2 : ¬ _ := fun x => h (e.2 x)
    exact .inr ⟨by simpa using h, by omega⟩
theorem isNm_iff {s : Nm} : isNm s = true ↔ 1 ≤ s.length ∧ s.length ≤ 64 ∧ ∀ c ∈ s, nmChar c = true := by simp [isNm, List.all_eq_true]
theorem isNm_len {s : Nm} (h : isNm s = true) : s.length ≤ 64 := (isNm_iff.1 h).2.1
theorem size_arr (s : Nm) : (⟨s.toArray⟩ : ByteArray).size = s.length := rfl

theorem bytesWorld_cell (w : World) (s : List UInt8) (j : Nat) (hj : j < s.length) : (Lib.bytesWorld w 5 ⟨s.toArray⟩).cell? ⟨w.heap.size, j, none⟩ = some (.int .u8 (s[j].toNat : Int)) := by
  rw [cell_of_row _ _ _ _ _ _ (Lib.bytesWorld_at_new w _ _)]
  simp [Lib.bytesCells, Array.getElem?_append, hj]

set_option maxHeartbeats 1000000 in
theorem store_named (A : Option Addr) (n c : Nat) (ns : List Nm) (w : World) (hn : n ≤ 9223372036854775807) (hs : Strs w A n ns) :
    Calls Tryz.prog 104 #[.slice A n c] w fun e w' => e = .returned (.bool (ns.all isNm)) ∧ Below w.heap.size w w' := by
  go_enter Tryz.func104, Tryz.ntmps104
  go_wp2
  go_loopw [9] (fun i wr => ∃ k : Nat, k ≤ n ∧ i = .int .i64 k ∧ Below w.heap.size w wr ∧ Hid (∀ j (hj : j < ns.length), j < k → isNm ns[j] = true)) (fun i _ => n - (intOf i).toNat)
  case atStart => exact ⟨0, Nat.zero_le _, rfl, Below.refl _ _, fun j hj h => by omega⟩
  case round =>
    obtain ⟨k, hk, rfl, hb, hall⟩ := hrel
    by_cases hlt : k < n
    · obtain ⟨b, off, hx, rfl, hbB, hc0⟩ := hs.at_ hlt
      have hc := (hb.cell (p := ⟨b, off + k, none⟩) hbB).trans hc0
      have HN : Hid (isNm ns[k] = false → ns.all isNm = false) := fun h => by
        rw [List.all_eq_false]; exact ⟨_, List.getElem_mem hx, by simp [h]⟩
      have HK : Hid (isNm ns[k] = true → ∀ j (hj : j < ns.length), j < k + 1 → isNm ns[j] = true) := fun h j hj hjk => by
        by_cases e : j = k
        · subst e; exact h
        · exact hall.out j hj (by omega)
      clear hall hc0
      generalize ns[k] = s at hc HN HK
      by_cases h0 : s.isEmpty = true
      · have e := HN.out (by rw [List.isEmpty_iff.1 h0]; rfl)
        have E := hide e
        clear e
        go_wp2
        go_ret
        rw [E.out]
        exact ⟨rfl, hb⟩
      · have h0' : s.isEmpty = false := by simpa using h0
        clear h0
        by_cases h64 : s.length ≤ 64
        · have hconv := Lib.run_convert_string_bytes (P := Tryz.prog) wr 9 26 5 ⟨s.toArray⟩ Tryz.underlying9 Tryz.underlying26 Tryz.underlying5
          have hcell := hide (bytesWorld_cell wr s)
          have hbel : Below wr.heap.size wr (Lib.bytesWorld wr 5 ⟨s.toArray⟩) := Lib.bytesWorld_below wr _ _
          have hbw := hide hbel
          rw [size_arr] at hconv
          clear hbel
          generalize Lib.bytesWorld wr 5 ⟨s.toArray⟩ = W1 at hconv hcell hbw
          generalize grownCap wr s.length 0 5 = cc at hconv
          obtain ⟨wo, hwo⟩ : ∃ wo : World, wo = wr := ⟨_, rfl⟩
          rw [← hwo] at hconv hcell hbw hb hc ⊢
          clear hwo
          have hpos : 1 ≤ s.length := by cases s with
            | nil => simp at h0'
            | cons x r => simp
          have hdec : decide ((64 : Int) < (s.length : Int)) = false := by simp; omega
          go_wp2
          go_loop [23] (fun j => ∃ m : Nat, m ≤ s.length ∧ j = .int .i64 m ∧ Hid (∀ i (hi : i < s.length), i < m → nmChar s[i] = true)) (fun j => s.length - (intOf j).toNat)
          case atStart => exact ⟨0, Nat.zero_le _, rfl, fun i hi h => by omega⟩
          case round =>
            obtain ⟨m, hm, rfl, hmc⟩ := hrel
            by_cases hml : m < s.length
            · have hcm := hcell.out m hml
              have HC : Hid (nmChar s[m] = true → ∀ i (hi : i < s.length), i < m + 1 → nmChar s[i] = true) := fun h i hi him => by
                by_cases e : i = m
                · subst e; exact h
                · exact hmc.out i hi (by omega)
              have HF : Hid (nmChar s[m] = false → isNm s = false) := fun h => Bool.eq_false_iff.2 fun h' => by
                have := (isNm_iff.1 h').2.2 _ (List.getElem_mem hml)
                rw [h] at this; cases this
              have hcls := byte_class s[m]
              have hbl := byte_lt s[m]
              clear hmc
              generalize s[m] = ch at hcm HC HF hcls hbl
              obtain ⟨hb0, hb1⟩ := hbl
              generalize (ch.toNat : Int) = x at hcm hcls hb0 hb1
              rcases hcls with ⟨hy, h1 | h1 | h1 | h1⟩ | ⟨hy, h1 | h1 | h1 | h1⟩
              all_goals
                have HY := hide hy
                clear hy
                try obtain ⟨h1, h2⟩ := h1
              all_goals try subst h1
              all_goals try (have e45 : (x != 45) = true := by simp; omega)
              all_goals try (have e46 : (x != 46) = true := by simp; omega)
              all_goals go_wp2
              all_goals first
                | (go_round
                   all_goals first
                    | exact ⟨m + 1, by omega, by go_num, HC.out HY.out⟩
                    | (simp [intOf]; omega))
                | (go_ret
                   rw [HN.out (HF.out HY.out)]
                   exact ⟨rfl, hb.trans (hbw.out.mono hb.size)⟩)
            · have hnm : isNm s = true := isNm_iff.2 ⟨hpos, h64, fun ch hch => by
                obtain ⟨i, hi, rfl⟩ := List.getElem_of_mem hch
                exact hmc.out i hi (by omega)⟩
              have HNM := hide hnm
              clear hnm hmc
              go_wp2
              go_roundw
              case rel => exact ⟨k + 1, by omega, by go_num, hb.trans (hbw.out.mono hb.size), HK.out HNM.out⟩
              case measure => simp [intOf]; omega
        · have e := HN.out (by simp [isNm, h64])
          have E := hide e
          clear e
          go_wp2
          go_ret
          rw [E.out]
          exact ⟨rfl, hb⟩
    · have e : ns.all isNm = true := List.all_eq_true.2 fun s hs' => by
        obtain ⟨j, hj, rfl⟩ := List.getElem_of_mem hs'
        exact hall.out j hj (by have := hs.1; omega)
      have E := hide e
      clear e hall
      go_wp2
      go_ret
      rw [E.out]
      exact ⟨rfl, hb⟩
end Go.Proofs.YtgjmfncebbfniaaGreatDoor
