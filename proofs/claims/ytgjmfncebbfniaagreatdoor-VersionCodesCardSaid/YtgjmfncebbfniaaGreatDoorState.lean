/- Package version: State of a book with no files. -/
/- Package version: what opening a new store comes to. -/
import Derived.Test.YtgjmfncebbfniaaGreatDoorOpen
namespace Go.Proofs.YtgjmfncebbfniaaGreatDoor
set_option maxRecDepth 100000
open Go Go.RowKit

theorem copied_nil (A : Option Addr) (c : Nat) (w : World) : Calls Tryz.prog 83 #[.slice A 0 c] w fun e W => e = .returned (.slice none 0 0) ∧ w = W := by
  go_enter Tryz.func83, Tryz.ntmps83
  go_wp2
  go_loopw [3, 8] (fun o i wr => o = .slice none 0 0 ∧ i = .int .i64 0 ∧ wr = w) (fun _ _ _ => 0)
  case atStart => exact ⟨rfl, rfl, rfl⟩
  case round =>
    obtain ⟨rfl, rfl, rfl⟩ := hrel
    go_wp2
    go_ret
    exact ⟨rfl, rfl⟩
theorem version_state (w : World) (bb : Nat) (a b g : Value) (A : Option Addr) (c : Nat) (x y : Int) (hbk : Blk w bb 102 #[a, b, .slice A 0 c, .int .i64 x, .int .i64 y, g]) :
    Calls Tryz.prog 27 #[ptr bb] w fun e W => e = .returned (.agg #[.slice none 0 0, .int .i64 x, .int .i64 y]) ∧ Below w.heap.size w W := by
  have h2 := hbk.cell 2
  have h3 := hbk.cell 3
  have h4 := hbk.cell 4
  have hlt := hbk.lt
  clear hbk
  go_enter Tryz.func27, Tryz.ntmps27
  go_wp2_with (go_at_call 83; refine (copied_nil A c _).mono ?_; rintro e W ⟨rfl, rfl⟩)
  refine bodyPost_ret (v := .agg #[.slice none 0 0, .int .i64 x, .int .i64 y]) (by simp [results, Tryz.results27, go_sem]) rfl ⟨rfl, ?_⟩
  exact ((Below.refl _ _).alloc (Nat.le_refl _) _).alloc (by simp) _
end Go.Proofs.YtgjmfncebbfniaaGreatDoor

namespace Go.Proofs.YtgjmfncebbfniaaGreatDoor
set_option maxRecDepth 100000
open Go Go.RowKit

theorem num7_small (n : Nat) (h : n < 128) : num7 n = [UInt8.ofNat (n % 128)] := by
  unfold num7; rw [show n / 128 = 0 by omega, numUp_zero]
def F0 : List UInt8 := [69, 4, 0, 0, 0, 1] ++ be4 (sumOf 0 [69, 4, 0, 0, 0, 1])
theorem ok0 : okEdit ⟨[], [], 0, 1⟩ = true := by kernel_rfl
theorem enc0 : encEdit ⟨[], [], 0, 1⟩ = [0, 0, 0, 1] := by
  simp [encEdit, encInts, num7_small]
theorem framed0 : framedP ⟨[], [], 0, 1⟩ = some F0 := by
  unfold framedP
  rw [if_pos ok0, enc0]
  simp [frameP, bodyP, text7, num7_small, F0]
def st0 : StoD := StoD.new 1000
theorem begin0 : beginP ⟨[], 0, 1⟩ st0 = seqP (beginOps (listP []) F0) st0 := by
  have h1 : scrP st0 = (0, st0) := rfl
  unfold beginP
  rw [h1, framed0]
  rfl
def bs0 : Int × StoD := seqP (beginOps (listP []) F0) st0
theorem bs0_1 : bs0.1 = 0 := by kernel_rfl
theorem bs0_names : bs0.2.names = [curN, listP []] := by kernel_rfl
theorem clean0 : cleanP ⟨[], 0, 1⟩ (listP []) bs0.2 = (0, bs0.2) := by
  unfold cleanP
  rw [bs0_names]
  have h : [curN, listP []].filter (goesP ⟨[], 0, 1⟩ (listP [])) = [] := by kernel_rfl
  rw [h]; rfl
theorem open0 : openP ⟨[], 0, 1⟩ st0 = (0, bs0.2) := by
  unfold openP
  rw [begin0]
  exact (if_pos bs0_1).trans clean0
theorem fit0 : bs0.2.Fit 9 := by
  have h := beginP_fit (sd := ⟨[], 0, 1⟩) (StoD.Fit.new 1000 (by omega) (by omega))
  rw [show StoD.new 1000 = st0 from rfl, begin0] at h
  exact h
theorem field_state (x y z : Value) (w : World) : (Instr.field 60 (.agg #[x, y, z]) 2).run Tryz.prog w = .ok z w := by rfl
set_option maxHeartbeats 4000000 in
theorem version_awake (w : World) (ht : Lib.TabBelow Tryz.prog w.heap.size w "internal/strconv.uint64pow10" .u64 Lib.pow10Tab) :
    Calls Tryz.prog 6 #[] w fun e W => e = .returned (.bool true) ∧ Below w.heap.size w W := by
  have hfld := field_state
  have HT := hide ht
  have HNEW := hide (store_new 1000 (by omega) (by omega) w)
  clear ht
  go_enter Tryz.func6, Tryz.ntmps6
  go_wp2_with fail
  refine (unhide HNEW).mono ?_
  rintro e w1 ⟨rfl, hb1, V, hs1⟩
  have hs1' : Sto w1 w.heap.size (fun k => w.heap.size ≤ k ∧ k < w1.heap.size) (w.heap.size + 2) V st0 := hs1
  have hsz1 := hb1.size
  have HO := hide (version_open_fresh w1 w.heap.size _ (w.heap.size + 2) V st0 0 hs1' hsz1 (StoD.Fit.new 1000 (by omega) (by omega)) (by omega) rfl (by simp [StoD.names, st0, StoD.new]) (HT.out.on hb1))
  have HB1 := hide hb1
  clear hb1 hs1 hs1' HNEW
  go_wp2_with fail
  refine (unhide HO).mono ?_
  rintro e w2 ⟨hk2, ⟨S2, V2, hs2, g1, g2, g3⟩, h0, _⟩
  rw [open0] at hs2 h0
  obtain ⟨rfl, hbk⟩ := h0 rfl
  have hsz2 := hk2.size
  have hbw2 : Below w.heap.size w w2 := HB1.out.trans (hk2.below hsz1 (fun k hk => by omega))
  have HST := hide (fun W => version_state W w1.heap.size (ptr (w.heap.size + 2)) (str (listP st0.names)) (.bool false) none 0 0 1)
  have HBK := hide hbk
  have HS2 := hide hs2
  have HBW2 := hide hbw2
  clear hk2 hs2 g1 g2 g3 h0 hbk hbw2 HO
  go_wp2_with fail
  refine (HST.out w2 HBK.out).mono ?_
  rintro e w3 ⟨rfl, hb3⟩
  have HN := hide (store_names w3 w.heap.size S2 (w.heap.size + 2) V2 bs0.2 (HS2.out.call hb3) fit0.ok.nowR (Nat.le_trans fit0.nn (by unfold lim; omega)))
  have hbw3 := HBW2.out.trans (hb3.mono HBW2.out.size)
  have HBW3 := hide hbw3
  clear hb3 hbw3
  go_wp2_with fail
  refine (unhide HN).mono ?_
  rintro e w4 ⟨A1, n1, c1, rfl, hrow, hlen, hle, hb4⟩
  have h2 : n1 = 2 := by rw [hlen, bs0_names]; rfl
  subst h2
  have hbw4 := HBW3.out.trans (hb4.mono HBW3.out.size)
  have HBW4 := hide hbw4
  clear hrow hlen hb4 hbw4 HN
  go_wp2
  go_ret
  exact ⟨rfl, HBW4.out⟩
end Go.Proofs.YtgjmfncebbfniaaGreatDoor
