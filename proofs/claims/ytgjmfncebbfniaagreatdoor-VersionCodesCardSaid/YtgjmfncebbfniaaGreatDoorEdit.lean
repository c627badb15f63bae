/- Contracts of rightEdit and of the reference's RightFile, RightEdit. -/
import Derived.Test.YtgjmfncebbfniaaGreatDoorFiles
import Derived.WalkLawsBesides
namespace Go.Proofs.YtgjmfncebbfniaaGreatDoor
set_option maxRecDepth 100000
open Go Go.RowKit

theorem version_rightEdit (ed : EditD) (A A' : Option Addr) (n c n' c' : Nat) (w : World) (hn : n ≤ 9223372036854775807) (hn' : n' ≤ 9223372036854775807) (hF : Files w w.heap.size A n ed.add) (hI : Ints w w.heap.size A' n' ed.drop) :
    Calls Tryz.prog 32 #[.agg #[.slice A n c, .slice A' n' c', .int .i64 ed.log, .int .i64 ed.next]] w fun e w' => e = .returned (.bool (okEdit ed)) ∧ Below w.heap.size w w' := by
  obtain ⟨ad, dr, lo, ne⟩ := ed
  simp only at hF hI ⊢
  have e1 := hF.1
  have e2 := hI.1
  subst e1 e2
  have hF1 := hF.alloc (Obj.cells #[Value.slice A ad.length c, Value.slice A' dr.length c', Value.int .i64 lo, Value.int .i64 ne] 25)
  have hb0 : Below w.heap.size w (w.alloc (Obj.cells #[Value.slice A ad.length c, Value.slice A' dr.length c', Value.int .i64 lo, Value.int .i64 ne] 25)) := (Below.refl _ _).alloc (Nat.le_refl _) _
  have hI1 := hI.lift hb0
  go_enter Tryz.func32, Tryz.ntmps32
  go_wp2_with (first
    | (go_at_call 45; refine (version_within _ _ _ _).mono ?_; rintro e w' ⟨rfl, rfl⟩)
    | (go_at_call 92; refine (containsFunc_files _ #[] Tryz.call90 (fun f => !okFile f) _ _ _ ad _ hn hF1 (oddFile_pred _)).mono ?_; rintro e w1 ⟨rfl, hb1⟩; obtain ⟨hc1, hf1⟩ := bcell hb1)
    | (go_at_call 93; refine (containsFunc_ints _ #[] Tryz.call91 (fun z => !withinB z 1 999999) _ _ _ dr _ hn' (hI1.lift hb1) (oddInt_pred _)).mono ?_; rintro e w2 ⟨rfl, hb2⟩))
  all_goals go_ret
  all_goals refine ⟨ret_bool ?_, ?_⟩
  all_goals first
    | exact hb0
    | exact (hb0.trans (hb1.mono (by simp))).trans (hb2.mono (Nat.le_trans (by simp) hb1.size))
    | exact hb0.trans (hb1.mono (by simp))
    | skip
  all_goals clear hF1 hb0 hI1 hF hI
  all_goals first
    | (simp_all [okEdit]; done)
    | (simp_all [okEdit]
       obtain ⟨x, hx, hx'⟩ := ‹∃ x, x ∈ ad ∧ okFile x = false›
       intro h
       have := h x hx
       rw [hx'] at this
       cases this)
    | (simp [okEdit, *]; intros; omega)
end Go.Proofs.YtgjmfncebbfniaaGreatDoor
