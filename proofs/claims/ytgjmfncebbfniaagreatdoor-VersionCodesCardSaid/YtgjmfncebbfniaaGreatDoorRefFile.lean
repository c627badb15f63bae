/- Contracts of the reference's RightFile and RightEdit. -/
import Derived.Test.YtgjmfncebbfniaaGreatDoorEdit
import Derived.Laws.IdiomStrings
import Derived.Laws.BytesString
namespace Go.Proofs.YtgjmfncebbfniaaGreatDoor
set_option maxRecDepth 100000
open Go Go.RowKit

theorem conv_str (W : World) (A : Option Addr) (n c : Nat) (xs : List UInt8) (B : Nat) (hr : Reads W B 1 A n (BY xs)) : (convert 26 9 (.slice A n c)).run Tryz.prog W = .ok (.string ⟨xs.toArray⟩) W := by
  have hn := hr.blen
  subst hn
  rcases A with _ | ad
  · have : xs = [] := by
      cases xs with
      | nil => rfl
      | cons x r => obtain ⟨_, h, _⟩ := hr.2 (by simp); cases h
    subst this
    rw [run_convert_bytes_string W _ _ _ none _ c Tryz.underlying26 Tryz.underlying5 Tryz.underlying9]
    rfl
  · refine run_convert_bytes_back W _ _ _ ad c xs Tryz.underlying26 Tryz.underlying5 Tryz.underlying9 fun j hj => ?_
    obtain ⟨ad', e, _, hc⟩ := hr.2 (by omega)
    injection e with e
    subst e
    exact hc j _ (by simp [BY, hj])

theorem leB_cons (a b : UInt8) (x y : List UInt8) : leB (a :: x) (b :: y) = (decide (a < b) || (a == b && leB x y)) := by
  simp only [leB, Lib.compareBytes]
  by_cases h1 : a < b
  · simp [h1]
  · by_cases h2 : b < a
    · have h3 : a ≠ b := by rintro rfl; exact h1 h2
      simp [h1, h2, h3]
    · have h3 : a = b := UInt8.toNat_inj.1 (by rw [UInt8.lt_iff_toNat_lt] at h1 h2; omega)
      subst h3
      simp [h1]
theorem less_leB : ∀ xs ys : List UInt8, (Op.bytesLess xs ys || xs == ys) = leB xs ys
  | [], [] => by simp [Op.bytesLess, leB, Lib.compareBytes]
  | [], _ :: _ => by simp [Op.bytesLess, leB, Lib.compareBytes]
  | _ :: _, [] => by simp [Op.bytesLess, leB, Lib.compareBytes]
  | a :: x, b :: y => by
    have ih := less_leB x y
    rw [leB_cons, ← ih]
    by_cases h1 : a < b
    · simp [Op.bytesLess, h1]
    · by_cases h2 : a = b
      · subst h2; simp [Op.bytesLess, h1]
      · simp [Op.bytesLess, h1, Bool.and_or_distrib_left]

theorem okFile_iff {f : FileD} : okFile f = true ↔ 1 ≤ f.number ∧ f.number ≤ 999999 ∧ 0 ≤ f.level ∧ f.level ≤ 3 ∧ (1 : Int) ≤ f.first.length ∧ (f.first.length : Int) ≤ 512 ∧ (1 : Int) ≤ f.last.length ∧ (f.last.length : Int) ≤ 512 ∧
    leB f.first f.last = true ∧ 1 ≤ f.low ∧ f.low ≤ f.high ∧ f.high ≤ 1099511627776 := by
  simp only [okFile, Bool.and_eq_true, withinB_iff, decide_eq_true_eq]
  constructor
  · rintro ⟨⟨a, b⟩, ⟨c, d⟩, ⟨e, f⟩, ⟨g, h⟩, i, j, k, l⟩; exact ⟨a, b, c, d, e, f, g, h, i, j, k, l⟩
  · rintro ⟨a, b, c, d, e, f, g, h, i, j, k, l⟩; exact ⟨⟨a, b⟩, ⟨c, d⟩, ⟨e, f⟩, ⟨g, h⟩, i, j, k, l⟩
theorem ref_rightFile (f : FileD) (A1 A2 : Option Addr) (n1 c1 n2 c2 : Nat) (w : World) (hr1 : Reads w w.heap.size 1 A1 n1 (BY f.first)) (hr2 : Reads w w.heap.size 1 A2 n2 (BY f.last)) :
    Calls Tryz.prog 95 #[.agg #[.int .i64 f.number, .int .i64 f.level, .slice A1 n1 c1, .slice A2 n2 c2, .int .i64 f.low, .int .i64 f.high]] w
      fun e w' => e = .returned (.bool (okFile f)) ∧ Below w.heap.size w w' := by
  obtain ⟨nu, lv, fi, la, lo, hi⟩ := f
  simp only at hr1 hr2 ⊢
  have hn1 := hr1.blen
  have hn2 := hr2.blen
  subst hn1 hn2
  have k1 := conv_str _ A1 fi.length c1 fi _ (hr1.alloc (Nat.le_refl _) (Obj.cells #[.int .i64 nu, .int .i64 lv, .slice A1 fi.length c1, .slice A2 la.length c2, .int .i64 lo, .int .i64 hi] 76))
  have k2 := conv_str _ A2 la.length c2 la _ (hr2.alloc (Nat.le_refl _) (Obj.cells #[.int .i64 nu, .int .i64 lv, .slice A1 fi.length c1, .slice A2 la.length c2, .int .i64 lo, .int .i64 hi] 76))
  go_enter Tryz.func95, Tryz.ntmps95
  go_wp2
  all_goals go_ret
  all_goals refine ⟨ret_bool ?_, (Below.refl _ _).alloc (Nat.le_refl _) _⟩
  all_goals first
    | (refine (Bool.eq_false_iff.2 (fun h => ?_)).symm
       have := okFile_iff.1 h
       simp only at this
       omega)
    | (rw [less_leB, Bool.eq_iff_iff, okFile_iff]
       simp only
       constructor
       · intro h
         exact ⟨by omega, by omega, by omega, by omega, by omega, by omega, by omega, by omega, h, by omega, by omega, by omega⟩
       · rintro ⟨_, _, _, _, _, _, _, _, h, _⟩
         exact h)

theorem okEdit_iff {e : EditD} : okEdit e = true ↔ (e.add.length : Int) ≤ 50 ∧ (e.drop.length : Int) ≤ 50 ∧ 0 ≤ e.log ∧ e.log ≤ 1099511627776 ∧ 0 ≤ e.next ∧ e.next ≤ 1099511627776 ∧ (∀ f ∈ e.add, okFile f = true) ∧ ∀ z ∈ e.drop, 1 ≤ z ∧ z ≤ 999999 := by
  simp only [okEdit, Bool.and_eq_true, withinB_iff, decide_eq_true_eq, Bool.not_eq_true', List.any_eq_false]
  constructor
  · rintro ⟨a, b, ⟨c, d⟩, ⟨e, f⟩, g, h⟩
    exact ⟨a, b, c, d, e, f, fun x hx => by simpa using g x hx, fun z hz => withinB_iff.1 (by simpa using h z hz)⟩
  · rintro ⟨a, b, c, d, e, f, g, h⟩
    exact ⟨a, b, ⟨c, d⟩, ⟨e, f⟩, fun x hx => by simp [g x hx], fun z hz => by simp [withinB_iff.2 (h z hz)]⟩

theorem ref_rightEdit (ed : EditD) (A A' : Option Addr) (n c n' c' : Nat) (w : World) (hn : n ≤ 9223372036854775807) (hn' : n' ≤ 9223372036854775807) (hF : Files w w.heap.size A n ed.add) (hI : Ints w w.heap.size A' n' ed.drop) :
    Calls Tryz.prog 36 #[.agg #[.slice A n c, .slice A' n' c', .int .i64 ed.log, .int .i64 ed.next]] w fun e w' => e = .returned (.bool (okEdit ed)) ∧ Below w.heap.size w w' := by
  obtain ⟨ad, dr, lo, ne⟩ := ed
  simp only at hF hI ⊢
  have e1 := hF.1
  have e2 := hI.1
  subst e1 e2
  have hb0 : Below w.heap.size w (w.alloc (Obj.cells #[Value.slice A ad.length c, Value.slice A' dr.length c', Value.int .i64 lo, Value.int .i64 ne] 25)) := (Below.refl _ _).alloc (Nat.le_refl _) _
  by_cases hok : (ad.length : Int) ≤ 50 ∧ (dr.length : Int) ≤ 50 ∧ 0 ≤ lo ∧ lo ≤ 1099511627776 ∧ 0 ≤ ne ∧ ne ≤ 1099511627776
  · obtain ⟨h1, h2, h3, h4, h5, h6⟩ := hok
    have d1 : decide ((50 : Int) < (ad.length : Int)) = false := by simp; omega
    have d2 : decide ((50 : Int) < (dr.length : Int)) = false := by simp; omega
    have d3 : decide (lo < (0 : Int)) = false := by simp; omega
    have d4 : decide ((1099511627776 : Int) < lo) = false := by simp; omega
    have d5 : decide (ne < (0 : Int)) = false := by simp; omega
    have d6 : decide ((1099511627776 : Int) < ne) = false := by simp; omega
    obtain ⟨W0, hW0⟩ : ∃ W0 : World, W0 = w.alloc (Obj.cells #[Value.slice A ad.length c, Value.slice A' dr.length c', Value.int .i64 lo, Value.int .i64 ne] 25) := ⟨_, rfl⟩
    have hs0 : W0.heap.size = w.heap.size + 1 := by rw [hW0]; simp
    have hc0 : W0.cell? ⟨w.heap.size, 0, none⟩ = some (.slice A ad.length c) := by rw [hW0, World.cell?_alloc_new]; rfl
    have hc1 : W0.cell? ⟨w.heap.size, 1, none⟩ = some (.slice A' dr.length c') := by rw [hW0, World.cell?_alloc_new]; rfl
    rw [← hW0] at hb0
    have hF0 := hF.lift hb0
    have hI0 := hI.lift hb0
    have HW := hide hW0
    have HS := hide hs0
    clear hW0 hs0
    go_enter Tryz.func36, Tryz.ntmps36
    go_wp2
    rw [← HW.out]
    go_loopw [3, 4] (fun i _ wr => ∃ k : Nat, k ≤ ad.length ∧ i = .int .i64 k ∧ Below W0.heap.size W0 wr ∧ Hid (∀ j (hj : j < ad.length), j < k → okFile ad[j] = true)) (fun i _ _ => ad.length - (intOf i).toNat)
    case atStart => exact ⟨0, Nat.zero_le _, rfl, Below.refl _ _, fun j hj h => by omega⟩
    case round =>
      obtain ⟨k, hk, rfl, hb, hall⟩ := hrel
      have e0 := (hb.cell (p := ⟨w.heap.size, 0, none⟩) (by rw [HS.out]; simp)).trans hc0
      by_cases hlt : k < ad.length
      · obtain ⟨b, off, hx, rfl, hbB, hc⟩ := hF0.at_ hlt
        obtain ⟨A1, n1, c1, A2, n2, c2, g0, g1, g2, g3, g4, g5, r1, l1, r2, l2⟩ := (hc.keep hbB (fun _ hp => hb.cell hp) hb.size).ex
        have HC := hide (ref_rightFile ad[k] A1 A2 n1 c1 n2 c2 wr r1 r2)
        by_cases hpk : okFile ad[k] = true
        · rw [hpk] at HC
          go_wp2_with (go_at_call 95; refine (unhide HC).mono ?_; rintro e w1 ⟨rfl, hb1⟩)
          go_roundw
          case rel => exact ⟨k + 1, by omega, by go_num, hb.trans (hb1.mono hb.size), fun j hj h => by
            by_cases e : j = k
            · subst e; exact hpk
            · exact hall.out j hj (by omega)⟩
          case measure => simp [intOf]; omega
        · have hpk' : okFile ad[k] = false := by simpa using hpk
          rw [hpk'] at HC
          have HP := hide hpk'
          clear hpk hpk'
          go_wp2_with (go_at_call 95; refine (unhide HC).mono ?_; rintro e w1 ⟨rfl, hb1⟩)
          go_ret
          refine ⟨ret_bool (Bool.eq_false_iff.2 (fun h => ?_)).symm, hb0.trans ((hb.mono (by rw [HS.out]; omega)).trans (hb1.mono (by have := hb.size; have := HS.out; omega)))⟩
          have := (okEdit_iff.1 h).2.2.2.2.2.2.1 _ (List.getElem_mem hx)
          rw [HP.out] at this
          cases this
      · have hall2 : Hid (∀ f ∈ ad, okFile f = true) := fun f hf => by
          obtain ⟨j, hj, rfl⟩ := List.getElem_of_mem hf
          exact hall.out j hj (by omega)
        have e1 := (hb.cell (p := ⟨w.heap.size, 1, none⟩) (by rw [HS.out]; simp)).trans hc1
        have hIr := hI0.below hb
        clear hall
        go_wp2
        go_loop [5] (fun i => ∃ k : Nat, k ≤ dr.length ∧ i = .int .i64 k ∧ Hid (∀ j (hj : j < dr.length), j < k → 1 ≤ dr[j] ∧ dr[j] ≤ 999999)) (fun i => dr.length - (intOf i).toNat)
        case atStart => exact ⟨0, Nat.zero_le _, rfl, fun j hj h => by omega⟩
        case round =>
          obtain ⟨k2, hk2, rfl, hall⟩ := hrel
          by_cases hlt2 : k2 < dr.length
          · obtain ⟨b2, off2, hx2, rfl, hbB2, hz⟩ := hIr.at_ hlt2
            have HX : Hid (∀ P : Prop, (1 ≤ dr[k2] ∧ dr[k2] ≤ 999999) ∨ ¬ (1 ≤ dr[k2] ∧ dr[k2] ≤ 999999)) := fun _ => by omega
            have HM : Hid (dr[k2] ∈ dr) := List.getElem_mem hx2
            have HK : Hid ((1 ≤ dr[k2] ∧ dr[k2] ≤ 999999) → ∀ j (hj : j < dr.length), j < k2 + 1 → 1 ≤ dr[j] ∧ dr[j] ≤ 999999) := fun hz j hj h => by
              by_cases e : j = k2
              · subst e; exact hz
              · exact hall.out j hj (by omega)
            generalize dr[k2] = z at *
            by_cases hz1 : z < 1
            · go_wp2
              go_ret
              refine ⟨ret_bool (Bool.eq_false_iff.2 (fun h => ?_)).symm, hb0.trans (hb.mono (by rw [HS.out]; omega))⟩
              have := (okEdit_iff.1 h).2.2.2.2.2.2.2 z HM.out
              omega
            · by_cases hz2 : 999999 < z
              · go_wp2
                go_ret
                refine ⟨ret_bool (Bool.eq_false_iff.2 (fun h => ?_)).symm, hb0.trans (hb.mono (by rw [HS.out]; omega))⟩
                have := (okEdit_iff.1 h).2.2.2.2.2.2.2 z HM.out
                omega
              · go_wp2
                go_round
                case rel => exact ⟨k2 + 1, by omega, by go_num, HK.out ⟨by omega, by omega⟩⟩
                case measure => simp [intOf]; omega
          · go_wp2
            go_ret
            refine ⟨ret_bool (okEdit_iff.2 ⟨h1, h2, h3, h4, h5, h6, hall2.out, fun z hz => ?_⟩).symm, hb0.trans (hb.mono (by rw [HS.out]; omega))⟩
            obtain ⟨j, hj, rfl⟩ := List.getElem_of_mem hz
            have hj' : j < dr.length := hj
            exact hall.out j hj' (by omega)
  · have hno : okEdit { add := ad, drop := dr, log := lo, next := ne } = false := by
      refine Bool.eq_false_iff.2 (fun h => hok ?_)
      have := okEdit_iff.1 h
      simp only at this
      exact ⟨by omega, by omega, by omega, by omega, by omega, by omega⟩
    have HN := hide hno
    clear hno
    go_enter Tryz.func36, Tryz.ntmps36
    go_wp2
    all_goals go_ret
    all_goals exact ⟨ret_bool HN.out.symm, hb0⟩
end Go.Proofs.YtgjmfncebbfniaaGreatDoor
