/- Contract of the reference's Encode. -/
import Derived.Test.YtgjmfncebbfniaaGreatDoorEnc
import Derived.Deep.RegionHeld3
namespace Go.Proofs.YtgjmfncebbfniaaGreatDoor
set_option maxRecDepth 100000
open Go Go.RowKit

/-- What an encoding answers. -/
def EncPost (w0 : World) (ed : EditD) (e : Ending) (w : World) : Prop :=
  Below w0.heap.size w0 w ∧ ∃ v, OwnB w w0.heap.size v (if okEdit ed then encEdit ed else []) ∧ e = .returned (.tuple #[v, .int .i64 (if okEdit ed then 0 else 1)])

theorem ref_encode (ed : EditD) (A A' : Option Addr) (n c n' c' : Nat) (w : World) (hn : n ≤ 9223372036854775807) (hn' : n' ≤ 9223372036854775807) (hF : Files w w.heap.size A n ed.add) (hI : Ints w w.heap.size A' n' ed.drop) :
    Calls Tryz.prog 9 #[.agg #[.slice A n c, .slice A' n' c', .int .i64 ed.log, .int .i64 ed.next]] w (EncPost w ed) := by
  obtain ⟨W0, hW0⟩ : ∃ W0 : World, W0 = w.alloc (Obj.cells #[Value.slice A n c, Value.slice A' n' c', Value.int .i64 ed.log, Value.int .i64 ed.next] 25) := ⟨_, rfl⟩
  have hb0 : Below w.heap.size w W0 := by rw [hW0]; exact (Below.refl _ _).alloc (Nat.le_refl _) _
  have hB : Blk W0 w.heap.size 25 #[Value.slice A n c, Value.slice A' n' c', Value.int .i64 ed.log, Value.int .i64 ed.next] := by rw [hW0]; exact Blk.new _ _ _
  have HS : Hid (W0.heap.size = w.heap.size + 1) := by rw [hW0]; simp [Hid]
  have hF0 := hF.lift hb0
  have hI0 := hI.lift hb0
  have HC := hide (ref_rightEdit ed A A' n c n' c' W0 hn hn' hF0 hI0)
  have HW := hide hW0
  clear hW0
  by_cases hok : okEdit ed = true
  · rw [hok] at HC
    obtain ⟨h1, h2, h3, h4, h5, h6, h7, h8⟩ := okEdit_iff.1 hok
    have e1 := hF.1
    have e2 := hI.1
    have hn1 : n ≤ 50 := by omega
    have hn2 : n' ≤ 50 := by omega
    have HOK := hide hok
    have H1 := hide e1
    have H2 := hide e2
    have H7 := hide h7
    have H8 := hide h8
    clear hok e1 e2 h7 h8 h1 h2
    go_enter Tryz.func9, Tryz.ntmps9
    go_wp2_with fail
    rw [← HW.out]
    refine (unhide HC).mono ?_
    rintro e w1 ⟨rfl, hb1⟩
    have hq1 := (hB.below hb1 (by rw [HS.out]; omega)).cell
    go_wp2_with fail
    refine (ref_numbers _ 1 1 [(n : Int)] _ (by omega) (small_one (by omega)) (Ints.new w1 [(n : Int)] _ (by simp))).mono ?_
    rintro e w2 ⟨v2, rfl, hown2, hb2⟩
    have hb02 : Below W0.heap.size W0 w2 := (hb1.alloc hb1.size _).trans (hb2.mono (by have := hb1.size; simp; omega))
    have hown2 := hown2.less (base' := W0.heap.size) (by have := hb1.size; simp; omega)
    clear hq1 hb1 hb2
    go_wp2_with fail
    go_loopw [5, 6] (fun v i wr => ∃ k : Nat, k ≤ n ∧ i = .int .i64 k ∧ OwnB wr W0.heap.size v (encInts [(n : Int)] ++ (ed.add.take k).flatMap encFile) ∧ Below W0.heap.size W0 wr) (fun _ i _ => n - (intOf i).toNat)
    case atStart => exact ⟨0, Nat.zero_le _, rfl, by simpa using hown2, hb02⟩
    case round =>
      obtain ⟨k, hk, rfl, hown, hb⟩ := hrel
      have hq0 := (hB.below hb (by rw [HS.out]; omega)).cell
      clear hown2 hb02
      by_cases hlt : k < n
      · obtain ⟨b, off, hx, rfl, hbB, hc⟩ := hF0.at_ hlt
        obtain ⟨A1, n1, c1, A2, n2, c2, g0, g1, g2, g3, g4, g5, r1, l1, r2, l2⟩ := hc.ex
        have hok := H7.out _ (List.getElem_mem hx)
        have HE := hide (encFiles_snoc ed.add k hx)
        have hlen := encFiles_len (ed.add.take k) (fun f hf => H7.out f (List.mem_of_mem_take hf))
        have hl2 : (ed.add.take k).length ≤ k := List.length_take_le _ _
        have hl3 := encInts_len [(n : Int)] (small_one (by omega))
        have hl4 : (encInts [(n : Int)] ++ (ed.add.take k).flatMap encFile).length ≤ 200000 := by rw [List.length_append]; simp only [List.length_cons, List.length_nil] at hl3; omega
        generalize hxs : encInts [(n : Int)] ++ (ed.add.take k).flatMap encFile = xs at hown hl4
        generalize ed.add[k] = f at *
        have g0 := (hb.cell (p := ⟨b, off + k * 6, none⟩) hbB).trans g0
        have g1 := (hb.cell (p := ⟨b, off + k * 6 + 1, none⟩) hbB).trans g1
        have g2 := (hb.cell (p := ⟨b, off + k * 6 + 2, none⟩) hbB).trans g2
        have g3 := (hb.cell (p := ⟨b, off + k * 6 + 3, none⟩) hbB).trans g3
        have g4 := (hb.cell (p := ⟨b, off + k * 6 + 4, none⟩) hbB).trans g4
        have g5 := (hb.cell (p := ⟨b, off + k * 6 + 5, none⟩) hbB).trans g5
        have HX := hide hxs
        clear hlen hl2 hl3 hc hxs
        have hsm : ∀ z ∈ [f.number, f.level], Small z := by have := okFile_iff.1 hok; exact small_two (by omega) (by omega)
        have hsm2 : ∀ z ∈ [f.low, f.high], Small z := by have := okFile_iff.1 hok; exact small_two (by omega) (by omega)
        have hfl : n1 ≤ 512 ∧ n2 ≤ 512 := by have := okFile_iff.1 hok; have := r1.blen; have := r2.blen; omega
        have hy1 := encInts_len _ hsm
        have hy4 := encInts_len _ hsm2
        have hy2 := text7_len f.first (by have := r1.blen; omega)
        have hy3 := text7_len f.last (by have := r2.blen; omega)
        have hf1 : f.first.length ≤ 512 := by have := r1.blen; omega
        have hf2 : f.last.length ≤ 512 := by have := r2.blen; omega
        simp only [List.length_cons, List.length_nil, Nat.zero_add] at hy1 hy4
        have HSM := hide hsm
        have HSM2 := hide hsm2
        have HOKF := hide hok
        clear hsm hsm2 hok
        go_wp2_with fail
        have st0 : RowSt W0 ((wr.alloc (.cells #[.int .i64 f.number, .int .i64 f.level, .slice A1 n1 c1, .slice A2 n2 c2, .int .i64 f.low, .int .i64 f.high] 76)).alloc (.cells #[.int .i64 f.number, .int .i64 f.level] 3)) _ xs wr.heap.size 76 #[.int .i64 f.number, .int .i64 f.level, .slice A1 n1 c1, .slice A2 n2 c2, .int .i64 f.low, .int .i64 f.high] :=
          ⟨((hb.alloc hb.size _).alloc (Nat.le_trans hb.size (by simp)) _), (hown.alloc _).alloc _, (Blk.new _ _ _).alloc _⟩
        refine (ref_numbers _ 2 2 [f.number, f.level] _ (by omega) HSM.out (by have := Ints.new (wr.alloc (.cells #[.int .i64 f.number, .int .i64 f.level, .slice A1 n1 c1, .slice A2 n2 c2, .int .i64 f.low, .int .i64 f.high] 76)) [f.number, f.level] (wr.heap.size + 2) (by simp); simpa using this)).mono ?_
        rintro e w3 ⟨v3, rfl, hown3, hb3⟩
        have st1 := st0.call hb3
        clear st0
        obtain ⟨A3, c3, rfl, hc3, hm3, hr3⟩ := hown3.form
        have hq3 := st1.blk.cell
        go_wp2_with (at_builtin; refine app_bytes rfl _ _ rfl W0.heap.size _ xs (encInts [f.number, f.level]) rfl st1.own _ _ _ _ rfl hr3 (by omega) st1.bel.size ?_; intro v4 w4 hown4 hg4 hat4; have st2 := st1.app (by decide) hown4 hg4; have hq4 := st2.blk.cell)
        refine (ref_text A1 n1 c1 f.first _ (by unfold lim; omega) ((r1.below st2.bel).more st2.bel.size)).mono ?_
        rintro e w5 ⟨v5, rfl, hown5, hb5⟩
        have st3 := st2.call hb5
        obtain ⟨A5, c5, rfl, hc5, hm5, hr5⟩ := hown5.form
        have hq5 := st3.blk.cell
        go_wp2_with (at_builtin; refine app_bytes rfl _ _ rfl W0.heap.size _ _ (text7 f.first) rfl st3.own _ _ _ _ rfl hr5 (by simp only [List.length_append] at *; omega) st3.bel.size ?_; intro v6 w6 hown6 hg6 hat6; have st4 := st3.app (by decide) hown6 hg6; have hq6 := st4.blk.cell)
        refine (ref_text A2 n2 c2 f.last _ (by unfold lim; omega) ((r2.below st4.bel).more st4.bel.size)).mono ?_
        rintro e w7 ⟨v7, rfl, hown7, hb7⟩
        have st5 := st4.call hb7
        obtain ⟨A7, c7, rfl, hc7, hm7, hr7⟩ := hown7.form
        have hq7 := st5.blk.cell
        go_wp2_with (at_builtin; refine app_bytes rfl _ _ rfl W0.heap.size _ _ (text7 f.last) rfl st5.own _ _ _ _ rfl hr7 (by simp only [List.length_append] at *; omega) st5.bel.size ?_; intro v8 w8 hown8 hg8 hat8; have st6 := st5.app (by decide) hown8 hg8; have hq8 := st6.blk.cell)
        refine (ref_numbers _ 2 2 [f.low, f.high] _ (by omega) HSM2.out (by have := Ints.new w8 [f.low, f.high] (w8.heap.size + 1) (by simp); simpa using this)).mono ?_
        rintro e w9 ⟨v9, rfl, hown9, hb9⟩
        have st7 := (st6.alloc _).call hb9
        obtain ⟨A9, c9, rfl, hc9, hm9, hr9⟩ := hown9.form
        go_wp2_with (at_builtin; refine app_bytes rfl _ _ rfl W0.heap.size _ _ (encInts [f.low, f.high]) rfl st7.own _ _ _ _ rfl hr9 (by simp only [List.length_append] at *; omega) st7.bel.size ?_; intro v10 w10 hown10 hg10 hat10; have st8 := st7.app (by decide) hown10 hg10)
        go_roundw
        case rel => exact ⟨k + 1, by omega, by go_num, by rw [HE.out, ← List.append_assoc, HX.out]; simpa [encFile, List.append_assoc] using st8.own, st8.bel⟩
        case measure => simp [intOf]; omega
      · have hkn : k = n := by omega
        have hl3 := encInts_len [(n : Int)] (small_one (by omega))
        have hlen := encFiles_len ed.add (fun f hf => H7.out f hf)
        have hn3 := H1.out
        rw [List.take_of_length_le (by omega)] at hown
        have hl4 : (encInts [(n : Int)] ++ ed.add.flatMap encFile).length ≤ 200000 := by rw [List.length_append]; simp only [List.length_cons, List.length_nil] at hl3; omega
        have hsm : ∀ z ∈ ed.drop, Small z := fun z hz => by have := H8.out z hz; unfold Small; omega
        have hsm2 := small_two ⟨h3, h4⟩ ⟨h5, h6⟩
        have hy1 := encInts_len _ (small_one (n := n') (by omega))
        have hy2 := encInts_len _ hsm
        have hy3 := encInts_len _ hsm2
        have hn4 := H2.out
        have hy2 : (encInts ed.drop).length ≤ 500 := by omega
        simp only [List.length_cons, List.length_nil, Nat.zero_add] at hy1 hy3
        have HSM := hide hsm
        have HSM2 := hide hsm2
        clear hkn hl3 hlen hn3 hn4 hsm hsm2
        have st0 : RowSt W0 wr _ _ w.heap.size 25 _ := ⟨hb, hown, hB.below hb (by rw [HS.out]; omega)⟩
        have HXS : ∃ xs, Hid (xs = encInts [(n : Int)] ++ ed.add.flatMap encFile) := ⟨_, rfl⟩
        obtain ⟨xs, HXS⟩ := HXS
        rw [← HXS.out] at st0 hl4
        go_wp2_with fail
        refine (ref_numbers _ 1 1 [(n' : Int)] _ (by omega) (small_one (by omega)) (by have := Ints.new wr [(n' : Int)] (wr.heap.size + 1) (by simp); simpa using this)).mono ?_
        rintro e w3 ⟨v3, rfl, hown3, hb3⟩
        have st1 := (st0.alloc _).call hb3
        obtain ⟨A3, c3, rfl, hc3, hm3, hr3⟩ := hown3.form
        have hq3 := st1.blk.cell
        go_wp2_with (at_builtin; refine app_bytes rfl _ _ rfl W0.heap.size _ _ (encInts [(n' : Int)]) rfl st1.own _ _ _ _ rfl hr3 (by omega) st1.bel.size ?_; intro v4 w4 hown4 hg4 hat4; have st2 := st1.app (by decide) hown4 hg4; have hq4 := st2.blk.cell)
        refine (ref_numbers A' n' c' ed.drop _ (by omega) HSM.out ((hI0.below st2.bel).keep (fun _ _ => rfl) st2.bel.size)).mono ?_
        rintro e w5 ⟨v5, rfl, hown5, hb5⟩
        have st3 := st2.call hb5
        obtain ⟨A5, c5, rfl, hc5, hm5, hr5⟩ := hown5.form
        have hq5 := st3.blk.cell
        go_wp2_with (at_builtin; refine app_bytes rfl _ _ rfl W0.heap.size _ _ (encInts ed.drop) rfl st3.own _ _ _ _ rfl hr5 (by simp only [List.length_append] at *; omega) st3.bel.size ?_; intro v6 w6 hown6 hg6 hat6; have st4 := st3.app (by decide) hown6 hg6; have hq6 := st4.blk.cell)
        refine (ref_numbers _ 2 2 [ed.log, ed.next] _ (by omega) HSM2.out (by have := Ints.new w6 [ed.log, ed.next] (w6.heap.size + 1) (by simp); simpa using this)).mono ?_
        rintro e w7 ⟨v7, rfl, hown7, hb7⟩
        have st5 := (st4.alloc _).call hb7
        obtain ⟨A7, c7, rfl, hc7, hm7, hr7⟩ := hown7.form
        go_wp2_with (at_builtin; refine app_bytes rfl _ _ rfl W0.heap.size _ _ (encInts [ed.log, ed.next]) rfl st5.own _ _ _ _ rfl hr7 (by simp only [List.length_append] at *; omega) st5.bel.size ?_; intro v8 w8 hown8 hg8 hat8; have st6 := st5.app (by decide) hown8 hg8)
        go_ret2
        refine ⟨hb0.trans (st6.bel.mono (by rw [HS.out]; omega)), _, ?_, by rw [HOK.out]; rfl⟩
        rw [HOK.out]
        have := st6.own.less (base' := w.heap.size) (by rw [HS.out]; omega)
        rw [HXS.out] at this
        rw [if_pos rfl, encEdit, H1.out, H2.out]
        exact this
  · have hno : okEdit ed = false := by simpa using hok
    rw [hno] at HC
    have HN := hide hno
    clear hno hok
    go_enter Tryz.func9, Tryz.ntmps9
    go_wp2_with fail
    rw [← HW.out]
    refine (unhide HC).mono ?_
    rintro e w1 ⟨rfl, hb1⟩
    go_wp2
    go_ret2
    refine ⟨hb0.trans (hb1.mono (by rw [HS.out]; omega)), _, ?_, by rw [HN.out]; rfl⟩
    rw [HN.out]
    exact OwnB.nil _ _
end Go.Proofs.YtgjmfncebbfniaaGreatDoor
