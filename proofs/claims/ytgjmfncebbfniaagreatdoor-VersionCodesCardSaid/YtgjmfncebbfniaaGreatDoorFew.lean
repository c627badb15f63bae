/- The laws' own measures of an edit: few, fewEdit. -/
import Derived.Test.YtgjmfncebbfniaaGreatDoorRefFile
namespace Go.Proofs.YtgjmfncebbfniaaGreatDoor
set_option maxRecDepth 100000
open Go Go.RowKit

def fewP (fs : List FileD) : Bool := decide (fs.length ≤ 100) && fs.all fun f => decide (f.first.length ≤ 1000) && decide (f.last.length ≤ 1000)
theorem fewP_iff {fs : List FileD} : fewP fs = true ↔ fs.length ≤ 100 ∧ ∀ f ∈ fs, f.first.length ≤ 1000 ∧ f.last.length ≤ 1000 := by
  simp [fewP, List.all_eq_true]
theorem law_few (A : Option Addr) (n c : Nat) (fs : List FileD) (w : World) (hn : n ≤ 9223372036854775807) (hF : Files w w.heap.size A n fs) :
    Calls Tryz.prog 31 #[.slice A n c] w fun e w' => e = .returned (.bool (fewP fs)) ∧ w' = w := by
  have e1 := hF.1
  subst e1
  by_cases hlen : fs.length ≤ 100
  · have hd : ¬ ((100 : Int) < (fs.length : Int)) := by omega
    go_enter Tryz.func31, Tryz.ntmps31
    go_wp2
    go_loop [3] (fun i => ∃ k : Nat, k ≤ fs.length ∧ i = .int .i64 k ∧ Hid (∀ j (hj : j < fs.length), j < k → fs[j].first.length ≤ 1000 ∧ fs[j].last.length ≤ 1000)) (fun i => fs.length - (intOf i).toNat)
    case atStart => exact ⟨0, Nat.zero_le _, rfl, fun j hj h => by omega⟩
    case round =>
      obtain ⟨k, hk, rfl, hall⟩ := hrel
      by_cases hlt : k < fs.length
      · obtain ⟨b, off, hx, rfl, hbB, hc⟩ := hF.at_ hlt
        obtain ⟨A1, n1, c1, A2, n2, c2, g0, g1, g2, g3, g4, g5, r1, l1, r2, l2⟩ := hc.ex
        have hl1 := r1.blen
        have hl2 := r2.blen
        have HK : Hid (fs[k].first.length ≤ 1000 → fs[k].last.length ≤ 1000 → ∀ j (hj : j < fs.length), j < k + 1 → fs[j].first.length ≤ 1000 ∧ fs[j].last.length ≤ 1000) := fun a1 a2 j hj h => by
          by_cases e : j = k
          · subst e; exact ⟨a1, a2⟩
          · exact hall.out j hj (by omega)
        have HN : Hid (¬ (fs[k].first.length ≤ 1000 ∧ fs[k].last.length ≤ 1000) → fewP fs = false) := fun h => Bool.eq_false_iff.2 fun h' => h ((fewP_iff.1 h').2 _ (List.getElem_mem hx))
        have HL1 := hide hl1
        have HL2 := hide hl2
        clear hl1 hl2 hall
        by_cases h1 : (1000 : Int) < (n1 : Int)
        · have e := HN.out (by have := HL1.out; omega)
          have E := hide e
          clear e
          go_wp2
          go_ret
          rw [E.out]
          exact ⟨rfl, rfl⟩
        · by_cases h2 : (1000 : Int) < (n2 : Int)
          · have e := HN.out (by have := HL2.out; omega)
            have E := hide e
            clear e
            go_wp2
            go_ret
            rw [E.out]
            exact ⟨rfl, rfl⟩
          · go_wp2
            go_round
            case rel => exact ⟨k + 1, by omega, by go_num, HK.out (by have := HL1.out; omega) (by have := HL2.out; omega)⟩
            case measure => simp [intOf]; omega
      · have e : fewP fs = true := fewP_iff.2 ⟨hlen, fun f hf => by
          obtain ⟨j, hj, rfl⟩ := List.getElem_of_mem hf
          exact hall.out j hj (by omega)⟩
        have E := hide e
        clear e hall
        go_wp2
        go_ret
        rw [E.out]
        exact ⟨rfl, rfl⟩
  · have hd : (100 : Int) < (fs.length : Int) := by omega
    have e : fewP fs = false := Bool.eq_false_iff.2 fun h => hlen (fewP_iff.1 h).1
    have E := hide e
    clear e
    go_enter Tryz.func31, Tryz.ntmps31
    go_wp2
    go_ret
    rw [E.out]
    exact ⟨rfl, rfl⟩
def fewEditP (e : EditD) : Bool := fewP e.add && decide (e.drop.length ≤ 100)
theorem law_fewEdit (ed : EditD) (A A' : Option Addr) (n c n' c' : Nat) (w : World) (hn : n ≤ 9223372036854775807) (hn' : n' ≤ 9223372036854775807) (hF : Files w w.heap.size A n ed.add) (hI : Ints w w.heap.size A' n' ed.drop) :
    Calls Tryz.prog 7 #[.agg #[.slice A n c, .slice A' n' c', .int .i64 ed.log, .int .i64 ed.next]] w fun e w' => e = .returned (.bool (fewEditP ed)) ∧ Below w.heap.size w w' := by
  have hb0 : Below w.heap.size w (w.alloc (Obj.cells #[Value.slice A n c, Value.slice A' n' c', Value.int .i64 ed.log, Value.int .i64 ed.next] 25)) := (Below.refl _ _).alloc (Nat.le_refl _) _
  have HF := hide (law_few A n c ed.add (w.alloc (Obj.cells #[Value.slice A n c, Value.slice A' n' c', Value.int .i64 ed.log, Value.int .i64 ed.next] 25)) hn (hF.lift hb0))
  have e2 := hI.1
  subst e2
  obtain ⟨b, hb⟩ : ∃ b, fewP ed.add = b := ⟨_, rfl⟩
  have HE : Hid (fewEditP ed = (b && decide (ed.drop.length ≤ 100))) := by show _ = _; rw [fewEditP, hb]
  rw [hb] at HF
  clear hb
  cases b
  · go_enter Tryz.func7, Tryz.ntmps7
    go_wp2_with (go_at_call 31; refine (unhide HF).mono ?_; rintro e w1 ⟨rfl, rfl⟩)
    go_ret
    rw [HE.out]
    exact ⟨rfl, hb0⟩
  · go_enter Tryz.func7, Tryz.ntmps7
    go_wp2_with (go_at_call 31; refine (unhide HF).mono ?_; rintro e w1 ⟨rfl, rfl⟩)
    go_ret
    rw [HE.out]
    refine ⟨ret_bool ?_, hb0⟩
    rw [Bool.eq_iff_iff]
    simp
    try omega
end Go.Proofs.YtgjmfncebbfniaaGreatDoor
