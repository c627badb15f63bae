/- Contract of version.Encode. -/
import Derived.Test.YtgjmfncebbfniaaGreatDoorCap
import Derived.Test.YtgjmfncebbfniaaGreatDoorRefEnc
import Derived.Deep.DeepCutAuto
import Derived.Outline
namespace Go.Proofs.YtgjmfncebbfniaaGreatDoor
set_option maxRecDepth 100000
open Go Go.RowKit

set_option maxHeartbeats 1000000 in
theorem version_encode (ed : EditD) (A A' : Option Addr) (n c n' c' : Nat) (w : World) (hn : n ≤ 9223372036854775807) (hn' : n' ≤ 9223372036854775807) (hF : Files w w.heap.size A n ed.add) (hI : Ints w w.heap.size A' n' ed.drop) :
    Calls Tryz.prog 8 #[.agg #[.slice A n c, .slice A' n' c', .int .i64 ed.log, .int .i64 ed.next]] w (EncPost w ed) := by
  obtain ⟨W0, hW0⟩ : ∃ W0 : World, W0 = w.alloc (Obj.cells #[Value.slice A n c, Value.slice A' n' c', Value.int .i64 ed.log, Value.int .i64 ed.next] 25) := ⟨_, rfl⟩
  have hb0 : Below w.heap.size w W0 := by rw [hW0]; exact (Below.refl _ _).alloc (Nat.le_refl _) _
  have hB : Blk W0 w.heap.size 25 #[Value.slice A n c, Value.slice A' n' c', Value.int .i64 ed.log, Value.int .i64 ed.next] := by rw [hW0]; exact Blk.new _ _ _
  have HS : Hid (W0.heap.size = w.heap.size + 1) := by rw [hW0]; simp [Hid]
  have hF0 := hF.lift hb0
  have hI0 := hI.lift hb0
  have HC := hide (version_rightEdit ed A A' n c n' c' W0 hn hn' hF0 hI0)
  have HW := hide hW0
  clear hW0
  by_cases hok : okEdit ed = true
  · rw [hok] at HC
    obtain ⟨h1, h2, h3, h4, h5, h6, h7, h8⟩ := okEdit_iff.1 hok
    have e1 := hF.1
    have e2 := hI.1
    have hn1 : n ≤ 50 := by omega
    have hn2 : n' ≤ 50 := by omega
    have HOK := hide hok
    have H1 := hide e1
    have H2 := hide e2
    have H7 := hide h7
    have H8 := hide h8
    clear hok e1 e2 h7 h8 h1 h2
    go_enter Tryz.func8, Tryz.ntmps8
    go_wp2_with fail
    rw [← HW.out]
    refine (unhide HC).mono ?_
    rintro e w1 ⟨rfl, hb1⟩
    have hB1 : Blk w1 w.heap.size 25 _ := hB.below hb1 (by rw [HS.out]; omega)
    have hq1 := hB1.cell
    have hs1 := hB1.lt
    go_wp2_with fail
    have HC2 := encode_numbers (some ⟨w1.heap.size + 1, 0, none⟩) 1 1 [(n : Int)] W0.heap.size w1.heap.size [] ((w1.alloc (.cells #[.slice none 0 0] 26)).alloc (.cells #[.int .i64 (n : Int)] 3)) (by omega) (by simp) (small_one (by omega)) hb1.size
      ⟨_, (Blk.new w1 26 #[.slice none 0 0]).alloc _, OwnB.nil _ _⟩
      (fun W hk => by
        have := Blk.new (w1.alloc (.cells #[.slice none 0 0] 26)) 3 #[.int .i64 (n : Int)]
        rw [World.size_alloc] at this
        exact Ints.of_blk [(n : Int)] (hk.blk _ _ _ this (by decide) (by decide)) rfl)
    refine HC2.mono ?_
    rintro e w2 ⟨rfl, hcap2, hk2⟩
    have hkp2 : Keeps W0.heap.size W0 w2 := ((((Keeps.refl W0.heap.size W0).call hb1 (Nat.le_refl _)).alloc _ hb1.size).alloc _ (Nat.le_trans hb1.size (by simp))).trans hk2
    clear HC2
    have hB2 : Blk w2 w.heap.size 25 _ := hB.below hkp2.bel (by rw [HS.out]; omega)
    have hq2 := hB2.cell
    clear hq1 hk2
    go_wp2_with fail
    go_loopw [21] (fun i wr => ∃ k : Nat, k ≤ n ∧ i = .int .i64 k ∧ Cap wr W0.heap.size w1.heap.size (encInts [(n : Int)] ++ (ed.add.take k).flatMap encFile) ∧ Keeps W0.heap.size W0 wr) (fun i _ => n - (intOf i).toNat)
    case atStart => exact ⟨0, Nat.zero_le _, rfl, by simpa using hcap2, hkp2⟩
    case round =>
      obtain ⟨k, hk, rfl, hcap, hkeep⟩ := hrel
      have hq0 := (hB.below hkeep.bel (by rw [HS.out]; omega)).cell
      clear hcap2 hkp2 hB2 hq2
      by_cases hlt : k < n
      · obtain ⟨b, off, hx, rfl, hbB, hc⟩ := hF0.at_ hlt
        obtain ⟨A1, n1, c1, A2, n2, c2, g0, g1, g2, g3, g4, g5, r1, l1, r2, l2⟩ := hc.ex
        have hok := H7.out _ (List.getElem_mem hx)
        have HE := hide (encFiles_snoc ed.add k hx)
        have hlen := encFiles_len (ed.add.take k) (fun f hf => H7.out f (List.mem_of_mem_take hf))
        have hl2 : (ed.add.take k).length ≤ k := List.length_take_le _ _
        have hl3 := encInts_len [(n : Int)] (small_one (by omega))
        have hl4 : (encInts [(n : Int)] ++ (ed.add.take k).flatMap encFile).length ≤ 200000 := by rw [List.length_append]; simp only [List.length_cons, List.length_nil] at hl3; omega
        generalize hxs : encInts [(n : Int)] ++ (ed.add.take k).flatMap encFile = xs at hcap hl4
        generalize ed.add[k] = f at *
        have g0 := (hkeep.bel.cell (p := ⟨b, off + k * 6, none⟩) hbB).trans g0
        have g1 := (hkeep.bel.cell (p := ⟨b, off + k * 6 + 1, none⟩) hbB).trans g1
        have g2 := (hkeep.bel.cell (p := ⟨b, off + k * 6 + 2, none⟩) hbB).trans g2
        have g3 := (hkeep.bel.cell (p := ⟨b, off + k * 6 + 3, none⟩) hbB).trans g3
        have g4 := (hkeep.bel.cell (p := ⟨b, off + k * 6 + 4, none⟩) hbB).trans g4
        have g5 := (hkeep.bel.cell (p := ⟨b, off + k * 6 + 5, none⟩) hbB).trans g5
        have HX := hide hxs
        clear hlen hl2 hl3 hc hxs
        have hsm : ∀ z ∈ [f.number, f.level], Small z := by have := okFile_iff.1 hok; exact small_two (by omega) (by omega)
        have hsm2 : ∀ z ∈ [f.low, f.high], Small z := by have := okFile_iff.1 hok; exact small_two (by omega) (by omega)
        have hfl : n1 ≤ 512 ∧ n2 ≤ 512 := by have := okFile_iff.1 hok; have := r1.blen; have := r2.blen; omega
        have hy1 := encInts_len _ hsm
        have hy4 := encInts_len _ hsm2
        have hy2 := text7_len f.first (by have := r1.blen; omega)
        have hy3 := text7_len f.last (by have := r2.blen; omega)
        have hf1 : f.first.length ≤ 512 := by have := r1.blen; omega
        have hf2 : f.last.length ≤ 512 := by have := r2.blen; omega
        simp only [List.length_cons, List.length_nil, Nat.zero_add] at hy1 hy4
        have HSM := hide hsm
        have HSM2 := hide hsm2
        have HOKF := hide hok
        have hBw := hkeep.bel.size
        clear hsm hsm2 hok
        go_wp2_with fail
        have hFb := Blk.new wr 76 #[.int .i64 f.number, .int .i64 f.level, .slice A1 n1 c1, .slice A2 n2 c2, .int .i64 f.low, .int .i64 f.high]
        have hkF := hkeep.alloc (.cells #[.int .i64 f.number, .int .i64 f.level, .slice A1 n1 c1, .slice A2 n2 c2, .int .i64 f.low, .int .i64 f.high] 76) hBw
        refine (encode_lit [f.number, f.level] 2 W0.heap.size w1.heap.size xs _ rfl (by omega) (by omega) HSM.out hb1.size (hcap.alloc _) _ (by simp)).mono ?_
        rintro e w3 ⟨rfl, hcap3, hk3⟩
        have hkp3 := (hkF.alloc _ (by simp; omega)).trans hk3
        have hF3 : Blk w3 wr.heap.size 76 _ := hk3.blk _ _ _ (hFb.alloc _) (by decide) (by decide)
        clear hcap hk3 hFb hkF
        have hB01 := hb1.size
        go_upto_region 10 with fail
        go_cut [7] (fun s7 wx => s7 = .pointer (some ⟨wr.heap.size, 0, none⟩) ∧ Cap wx W0.heap.size w1.heap.size (xs ++ encInts [f.number, f.level] ++ text7 f.first) ∧ Keeps W0.heap.size W0 wx ∧ Blk wx wr.heap.size 76 #[.int .i64 f.number, .int .i64 f.level, .slice A1 n1 c1, .slice A2 n2 c2, .int .i64 f.low, .int .i64 f.high])
        case first =>
          obtain ⟨v, hcb, hown⟩ := hcap3.ex
          have hq := hcb.cell 0
          have hqF := hF3.cell
          have hBw := hkp3.bel.size
          have hrd := (r1.below hkp3.bel).more hBw
          have hacc : (xs ++ encInts [f.number, f.level]).length ≤ 210000 := by simp only [List.length_append] at *; omega
          generalize xs ++ encInts [f.number, f.level] = acc at *
          go_region_law (first
            | (have _tok := hown1; refine step_app_bytes rfl (.tmp 32) (.tmp 35) rfl W0.heap.size v acc (text7 f.first) rfl (hown.drew.below hb1) _ A9 _ c9 rfl hr9 (by omega) (Nat.le_trans hBw hb1.size) ?_; intro v2 w2 hown2 hg2 hat2; have hcb2 : Blk w2 w1.heap.size 26 #[v] := hcb1.grown hg2 (fun e => own_blk_ne hown hcb (by decide) e.symm); have hq2 := hcb2.cell 0; have hf2 := hcb2.frozen 0; have hF9 := hF8.grown hg2 (fun e => own_blk_ne hown hF3 (by decide) e.symm); obtain ⟨A2', n2', c2', rfl, hn2', hc2', hr2'⟩ := hown2.form2)
            | (go_simp; go_at_call 35; refine (code_text A1 n1 c1 f.first _ (by unfold lim; omega) (by exact hrd.drew)).mono ?_; rintro e w9 ⟨v1, rfl, hown1, hb1⟩; obtain ⟨A9, c9, rfl, hc9, hm9, hr9⟩ := hown1.form; have hcb1 : Blk w9 w1.heap.size 26 #[v] := hcb.drew.below hb1 hcb.lt; have hq1 := hcb1.cell 0; have hf1 := hcb1.frozen 0; have hF8 : Blk w9 wr.heap.size 76 _ := hF3.drew.below hb1 hF3.lt; have hqF8 := hF8.cell))
          all_goals go_wp2
          all_goals go_meet
          all_goals exact ⟨rfl, ⟨_, hcb2.set_ 0 _, hown2.far (own_blk_ne hown2 hcb2 (by decide)) _⟩, ((hkp3.drew.call hb1 hBw).app (hown.drew.below hb1) hg2 (Nat.le_trans hBw hb1.size)).store hcb2 hB01 _, hF9.far (hF9.ne_ hcb2 (by decide)) _⟩
        case rest =>
        obtain ⟨rfl, hcap4, hkp4, hF4⟩ := hcut
        clear hcap3 hkp3 hF3
        go_upto_region 11 with fail
        go_cut [7] (fun s7 wx => s7 = .pointer (some ⟨wr.heap.size, 0, none⟩) ∧ Cap wx W0.heap.size w1.heap.size (xs ++ encInts [f.number, f.level] ++ text7 f.first ++ text7 f.last) ∧ Keeps W0.heap.size W0 wx ∧ Blk wx wr.heap.size 76 #[.int .i64 f.number, .int .i64 f.level, .slice A1 n1 c1, .slice A2 n2 c2, .int .i64 f.low, .int .i64 f.high])
        case first =>
          obtain ⟨v, hcb, hown⟩ := hcap4.ex
          have hq := hcb.cell 0
          have hqF := hF4.cell
          have hBw := hkp4.bel.size
          have hrd := (r2.below hkp4.bel).more hBw
          have hacc : (xs ++ encInts [f.number, f.level] ++ text7 f.first).length ≤ 210000 := by simp only [List.length_append] at *; omega
          generalize xs ++ encInts [f.number, f.level] ++ text7 f.first = acc at *
          go_region_law (first
            | (have _tok := hown1; refine step_app_bytes rfl (.tmp 37) (.tmp 40) rfl W0.heap.size v acc (text7 f.last) rfl (hown.drew.below hb1) _ A9 _ c9 rfl hr9 (by omega) (Nat.le_trans hBw hb1.size) ?_; intro v2 w2 hown2 hg2 hat2; have hcb2 : Blk w2 w1.heap.size 26 #[v] := hcb1.grown hg2 (fun e => own_blk_ne hown hcb (by decide) e.symm); have hq2 := hcb2.cell 0; have hf2 := hcb2.frozen 0; have hF9 := hF8.grown hg2 (fun e => own_blk_ne hown hF4 (by decide) e.symm); obtain ⟨A2', n2', c2', rfl, hn2', hc2', hr2'⟩ := hown2.form2)
            | (go_simp; go_at_call 35; refine (code_text A2 n2 c2 f.last _ (by unfold lim; omega) (by exact hrd.drew)).mono ?_; rintro e w9 ⟨v1, rfl, hown1, hb1⟩; obtain ⟨A9, c9, rfl, hc9, hm9, hr9⟩ := hown1.form; have hcb1 : Blk w9 w1.heap.size 26 #[v] := hcb.drew.below hb1 hcb.lt; have hq1 := hcb1.cell 0; have hf1 := hcb1.frozen 0; have hF8 : Blk w9 wr.heap.size 76 _ := hF4.drew.below hb1 hF4.lt; have hqF8 := hF8.cell))
          all_goals go_wp2
          all_goals go_meet
          all_goals exact ⟨rfl, ⟨_, hcb2.set_ 0 _, hown2.far (own_blk_ne hown2 hcb2 (by decide)) _⟩, ((hkp4.drew.call hb1 hBw).app (hown.drew.below hb1) hg2 (Nat.le_trans hBw hb1.size)).store hcb2 hB01 _, hF9.far (hF9.ne_ hcb2 (by decide)) _⟩
        case rest =>
        obtain ⟨rfl, hcap5, hkp5, hF5⟩ := hcut
        clear hcap4 hkp4 hF4
        have hqF5 := hF5.cell
        have hqf5 := hF5.lt
        go_wp2_with fail
        refine (encode_lit [f.low, f.high] 2 W0.heap.size w1.heap.size _ _ rfl (by omega) (by simp only [List.length_append] at *; omega) HSM2.out hB01 hcap5 _ rfl).mono ?_
        rintro e w6 ⟨rfl, hcap6, hk6⟩
        have hkp6 := (hkp5.alloc _ hkp5.bel.size).trans hk6
        go_wp2
        go_roundw
        case rel => exact ⟨k + 1, by omega, by go_num, by rw [HE.out, ← List.append_assoc, HX.out]; simpa [encFile, List.append_assoc] using hcap6, hkp6⟩
        case measure => simp [intOf]; omega
      · have hkn : k = n := by omega
        have hl3 := encInts_len [(n : Int)] (small_one (by omega))
        have hlen := encFiles_len ed.add (fun f hf => H7.out f hf)
        have hn3 := H1.out
        rw [List.take_of_length_le (by omega)] at hcap
        have hl4 : (encInts [(n : Int)] ++ ed.add.flatMap encFile).length ≤ 200000 := by rw [List.length_append]; simp only [List.length_cons, List.length_nil] at hl3; omega
        have hsm : ∀ z ∈ ed.drop, Small z := fun z hz => by have := H8.out z hz; unfold Small; omega
        have hsm2 := small_two ⟨h3, h4⟩ ⟨h5, h6⟩
        have hy1 := encInts_len _ (small_one (n := n') (by omega))
        have hy2 := encInts_len _ hsm
        have hy3 := encInts_len _ hsm2
        have hn4 := H2.out
        have hy2 : (encInts ed.drop).length ≤ 500 := by omega
        simp only [List.length_cons, List.length_nil, Nat.zero_add] at hy1 hy3
        have HSM := hide hsm
        have HSM2 := hide hsm2
        have hB01 := hb1.size
        have hBw := hkeep.bel.size
        have hlw := (hB.below hkeep.bel (by rw [HS.out]; omega)).lt
        clear hkn hl3 hlen hn3 hn4 hsm hsm2
        obtain ⟨xs, HXS⟩ : ∃ xs, Hid (xs = encInts [(n : Int)] ++ ed.add.flatMap encFile) := ⟨_, rfl⟩
        rw [← HXS.out] at hcap hl4
        go_wp2_with fail
        refine (encode_lit [(n' : Int)] 1 W0.heap.size w1.heap.size xs _ rfl (by omega) (by omega) (small_one (by omega)) hB01 hcap _ rfl).mono ?_
        rintro e w3 ⟨rfl, hcap3, hk3⟩
        have hkp3 := (hkeep.alloc _ hBw).trans hk3
        have hq3 := (hB.below hkp3.bel (by rw [HS.out]; omega)).cell
        go_wp2_with fail
        refine (encode_numbers A' n' c' ed.drop W0.heap.size w1.heap.size _ w3 (by omega) (by simp only [List.length_append] at *; omega) HSM.out hB01 hcap3 (fun W hk => (hI0.below (hkp3.trans hk).bel).keep (fun _ _ => rfl) (hkp3.trans hk).bel.size)).mono ?_
        rintro e w4 ⟨rfl, hcap4, hk4⟩
        have hkp4 := hkp3.trans hk4
        have hq4 := (hB.below hkp4.bel (by rw [HS.out]; omega)).cell
        have hlw4 := (hB.below hkp4.bel (by rw [HS.out]; omega)).lt
        go_wp2_with fail
        refine (encode_lit [ed.log, ed.next] 2 W0.heap.size w1.heap.size _ w4 rfl (by omega) (by simp only [List.length_append] at *; omega) HSM2.out hB01 hcap4 _ rfl).mono ?_
        rintro e w5 ⟨rfl, hcap5, hk5⟩
        have hkp5 := (hkp4.alloc _ hkp4.bel.size).trans hk5
        obtain ⟨v, hcb, hown⟩ := hcap5.ex
        have hq5 := hcb.cell 0
        go_wp2
        go_ret2
        refine ⟨hb0.trans (hkp5.bel.mono (by rw [HS.out]; omega)), _, ?_, by rw [HOK.out]; rfl⟩
        rw [HOK.out]
        have := hown.less (base' := w.heap.size) (by rw [HS.out]; omega)
        rw [HXS.out] at this
        rw [if_pos rfl, encEdit, H1.out, H2.out]
        exact this
  · have hno : okEdit ed = false := by simpa using hok
    rw [hno] at HC
    have HN := hide hno
    clear hno hok
    go_enter Tryz.func8, Tryz.ntmps8
    go_wp2_with fail
    rw [← HW.out]
    refine (unhide HC).mono ?_
    rintro e w1 ⟨rfl, hb1⟩
    go_wp2
    go_ret2
    refine ⟨hb0.trans (hb1.mono (by rw [HS.out]; omega)), _, ?_, by rw [HN.out]; rfl⟩
    rw [HN.out]
    exact OwnB.nil _ _
end Go.Proofs.YtgjmfncebbfniaaGreatDoor
