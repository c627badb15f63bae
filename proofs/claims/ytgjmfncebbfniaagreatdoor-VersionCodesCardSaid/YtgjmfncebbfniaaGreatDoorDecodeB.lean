/- The walk of version.Decode. -/
import Derived.Test.YtgjmfncebbfniaaGreatDoorDecode
namespace Go.Proofs.YtgjmfncebbfniaaGreatDoor
set_option maxRecDepth 100000
open Go Go.RowKit

/-- What a decoding answers. -/
def DecPost (w : World) (r : Option EditD) (e : Ending) (W : World) : Prop := Below w.heap.size w W ∧ match r with
  | none => e = .returned (.tuple #[.agg #[.slice none 0 0, .slice none 0 0, .int .i64 0, .int .i64 0], .int .i64 3])
  | some ed => ∃ A n c A' n' c', e = .returned (.tuple #[.agg #[.slice A n c, .slice A' n' c', .int .i64 ed.log, .int .i64 ed.next], .int .i64 0]) ∧ Files W W.heap.size A n ed.add ∧ Ints W W.heap.size A' n' ed.drop
theorem rdN_range (most : Int) (h : 0 ≤ most) (s : Bool × List UInt8) : 0 ≤ (rdN most s).1 ∧ (rdN most s).1 ≤ most := by
  obtain ⟨a, ys⟩ := s
  rcases hT : take7 ys with _ | ⟨n, rest⟩
  · rw [rdN_none hT]; exact ⟨Int.le_refl _, h⟩
  · rw [rdN_some hT]
    split
    · exact ⟨Int.le_refl _, h⟩
    · have := (take7_sound hT).1
      simp only; omega
theorem rdFs_step {mn ml : Int} {k N : Nat} (h : k < N) (s : Bool × List UInt8) : rdFs mn ml (N - k) s = ((rdF mn ml s).1 :: (rdFs mn ml (N - (k + 1)) (rdF mn ml s).2).1, (rdFs mn ml (N - (k + 1)) (rdF mn ml s).2).2) := by
  rw [show N - k = (N - (k + 1)) + 1 from by omega]; rfl
theorem rdInts_step {m : Int} {k N : Nat} (h : k < N) (s : Bool × List UInt8) : rdInts m (N - k) s = ((rdN m s).1 :: (rdInts m (N - (k + 1)) (rdN m s).2).1, (rdInts m (N - (k + 1)) (rdN m s).2).2) := by
  rw [show N - k = (N - (k + 1)) + 1 from by omega]; rfl

set_option maxHeartbeats 1000000 in
theorem version_decode (A : Option Addr) (n c : Nat) (xs : List UInt8) (w : World) (hlen : n ≤ lim) (hnc : n ≤ c) (hr : Reads w w.heap.size 1 A n (BY xs)) :
    Calls Tryz.prog 10 #[.slice A n c] w (DecPost w (decP xs)) := by
  obtain ⟨W0, hW0⟩ : ∃ W0 : World, W0 = (((w.alloc (.cells #[.slice A n c] 26)).alloc (.cells #[.slice none 0 0, .slice none 0 0, .int .i64 0, .int .i64 0] 25)).alloc (.cells #[.bool false] 4)).alloc (.cells #[.slice none 0 0, .slice none 0 0, .int .i64 0, .int .i64 0] 25) := ⟨_, rfl⟩
  have hst : DecSt w W0 (false, xs) (.slice none 0 0) (.slice none 0 0) [] [] := by
    rw [hW0]
    have h1 := Blk.new w 26 #[.slice A n c]
    have h2 := Blk.new (w.alloc (.cells #[.slice A n c] 26)) 25 #[.slice none 0 0, .slice none 0 0, .int .i64 0, .int .i64 0]
    have h3 := Blk.new ((w.alloc (.cells #[.slice A n c] 26)).alloc (.cells #[.slice none 0 0, .slice none 0 0, .int .i64 0, .int .i64 0] 25)) 4 #[.bool false]
    have h4 := Blk.new (((w.alloc (.cells #[.slice A n c] 26)).alloc (.cells #[.slice none 0 0, .slice none 0 0, .int .i64 0, .int .i64 0] 25)).alloc (.cells #[.bool false] 4)) 25 #[.slice none 0 0, .slice none 0 0, .int .i64 0, .int .i64 0]
    simp only [World.size_alloc, Nat.add_assoc] at h2 h3 h4
    have hb : Below w.heap.size w ((((w.alloc (.cells #[.slice A n c] 26)).alloc (.cells #[.slice none 0 0, .slice none 0 0, .int .i64 0, .int .i64 0] 25)).alloc (.cells #[.bool false] 4)).alloc (.cells #[.slice none 0 0, .slice none 0 0, .int .i64 0, .int .i64 0] 25)) :=
      ((((Below.refl _ _).alloc (Nat.le_refl _) _).alloc (by simp) _).alloc (by simp; omega) _).alloc (by simp; omega) _
    exact ⟨hb, ⟨⟨A, n, c, ((h1.alloc _).alloc _).alloc _, (RdB.of_reads hr).lift hb, hnc, hlen⟩, ⟨Nat.le_refl _, by omega⟩, h3.alloc _⟩, (h2.alloc _).alloc _, h4, OwnF.nil _ _, OwnI.nil _ _⟩
  have HW := hide hW0
  clear hW0
  go_enter Tryz.func10, Tryz.ntmps10
  go_wp2_with fail
  rw [← HW.out]
  refine (decode_number 50 w.heap.size w.heap.size (w.heap.size + 2) (false, xs) W0 (by omega) (by omega) hst.rd).mono ?_
  rintro e w1 ⟨rfl, hrd1, hk1⟩
  have hst1 := hst.num hrd1 hk1
  have hcr := rdN_range 50 (by omega) (false, xs)
  have HE : Hid (rdEdit xs = rdEdit xs) := rfl
  obtain ⟨p1, hp1⟩ : ∃ p1, p1 = rdN 50 (false, xs) := ⟨_, rfl⟩
  rw [← hp1] at hst1 hcr ⊢
  have HP1 := hide hp1
  clear hp1 hrd1 hk1 hst
  obtain ⟨cnt, s1⟩ := p1
  simp only at hst1 hcr ⊢
  obtain ⟨N, rfl⟩ := Int.eq_ofNat_of_zero_le hcr.1
  have hN : N ≤ 50 := by omega
  clear hcr
  go_wp2_with fail
  go_loopw [13] (fun i wr => ∃ (k : Nat) (s : Bool × List UInt8) (av : Value) (acc : List FileD), k ≤ N ∧ i = .int .i64 k ∧ acc.length = k ∧ DecSt w wr s av (.slice none 0 0) acc [] ∧ rdFs 999999 3 N s1 = (acc ++ (rdFs 999999 3 (N - k) s).1, (rdFs 999999 3 (N - k) s).2)) (fun i _ => N - (intOf i).toNat)
  case atStart => exact ⟨0, s1, _, [], Nat.zero_le _, rfl, rfl, hst1, by simp⟩
  case round =>
    obtain ⟨k, s, av, acc, hk, rfl, hacc, hst, hsplit⟩ := hrel
    have HSP := hide hsplit
    have HAC := hide hacc
    clear hsplit hacc hst1
    by_cases hlt : k < N
    · go_wp2_with fail
      refine (decode_number 999999 w.heap.size w.heap.size (w.heap.size + 2) s wr (by omega) (by omega) hst.rd).mono ?_
      rintro e w2 ⟨rfl, hrd2, hk2⟩
      have hst2 := hst.num hrd2 hk2
      clear hrd2 hk2
      go_wp2_with fail
      refine (decode_number 3 w.heap.size w.heap.size (w.heap.size + 2) _ w2 (by omega) (by omega) hst2.rd).mono ?_
      rintro e w3 ⟨rfl, hrd3, hk3⟩
      have hst3 := hst2.num hrd3 hk3
      clear hrd3 hk3
      go_wp2_with fail
      refine (decode_text w.heap.size w.heap.size (w.heap.size + 2) _ w3 hst3.rd).mono ?_
      rintro e w4 ⟨⟨A1, n1, c1, rfl, ht1, hc1⟩, hrd4, hk4⟩
      have hst4 := hst3.num hrd4 hk4
      clear hrd4 hk4
      go_wp2_with fail
      refine (decode_text w.heap.size w.heap.size (w.heap.size + 2) _ w4 hst4.rd).mono ?_
      rintro e w5 ⟨⟨A2, n2, c2, rfl, ht2, hc2⟩, hrd5, hk5⟩
      have hst5 := hst4.num hrd5 hk5
      have ht1 := ht1.kept hk5 (Two.free hst4.rd)
      clear hrd5 hk5
      go_wp2_with fail
      refine (decode_number 1099511627776 w.heap.size w.heap.size (w.heap.size + 2) _ w5 (by omega) (by omega) hst5.rd).mono ?_
      rintro e w6 ⟨rfl, hrd6, hk6⟩
      have hst6 := hst5.num hrd6 hk6
      have ht1 := ht1.kept hk6 (Two.free hst5.rd)
      have ht2 := ht2.kept hk6 (Two.free hst5.rd)
      clear hrd6 hk6
      go_wp2_with fail
      refine (decode_number 1099511627776 w.heap.size w.heap.size (w.heap.size + 2) _ w6 (by omega) (by omega) hst6.rd).mono ?_
      rintro e w7 ⟨rfl, hrd7, hk7⟩
      have hst7 := hst6.num hrd7 hk7
      have ht1 := ht1.kept hk7 (Two.free hst6.rd)
      have ht2 := ht2.kept hk7 (Two.free hst6.rd)
      clear hrd7 hk7
      have HRS := hide (rdFs_step (mn := 999999) (ml := 3) hlt s)
      have hqo := hst7.ob.cell
      have hsz := hst7.size
      obtain ⟨F, HF⟩ : ∃ F : FileD, Hid ((rdF 999999 3 s).1 = F) := ⟨_, rfl⟩
      obtain ⟨s7, HS7⟩ : ∃ s7, Hid ((rdF 999999 3 s).2 = s7) := ⟨_, rfl⟩
      obtain ⟨f1, f2, f3, f4, f5, f6⟩ := F
      have e1 : (rdN 999999 s).1 = f1 := congrArg FileD.number HF.out
      have e2 : (rdN 3 (rdN 999999 s).2).1 = f2 := congrArg FileD.level HF.out
      have e3 : (rdT (rdN 3 (rdN 999999 s).2).2).1 = f3 := congrArg FileD.first HF.out
      have e4 : (rdT (rdT (rdN 3 (rdN 999999 s).2).2).2).1 = f4 := congrArg FileD.last HF.out
      have e5 : (rdN 1099511627776 (rdT (rdT (rdN 3 (rdN 999999 s).2).2).2).2).1 = f5 := congrArg FileD.low HF.out
      have e6 : (rdN 1099511627776 (rdN 1099511627776 (rdT (rdT (rdN 3 (rdN 999999 s).2).2).2).2).2).1 = f6 := congrArg FileD.high HF.out
      have e7 : (rdN 1099511627776 (rdN 1099511627776 (rdT (rdT (rdN 3 (rdN 999999 s).2).2).2).2).2).2 = s7 := HS7.out
      rw [e3] at ht1
      rw [e4] at ht2
      rw [e7] at hst7
      rw [e1, e2, e5, e6]
      clear e1 e2 e3 e4 e5 e6 e7 hst2 hst3 hst4 hst5 hst6 hst
      have hst8 := (hst7.alloc (.cells (FCells ⟨f1, f2, f3, f4, f5, f6⟩ A1 n1 c1 A2 n2 c2).toArray 76)).alloc (.cells (FCells ⟨f1, f2, f3, f4, f5, f6⟩ A1 n1 c1 A2 n2 c2).toArray 76)
      have hT : FText ((w7.alloc (.cells (FCells ⟨f1, f2, f3, f4, f5, f6⟩ A1 n1 c1 A2 n2 c2).toArray 76)).alloc (.cells (FCells ⟨f1, f2, f3, f4, f5, f6⟩ A1 n1 c1 A2 n2 c2).toArray 76)) w.heap.size ⟨f1, f2, f3, f4, f5, f6⟩ A1 n1 c1 A2 n2 c2 :=
        FText.lift (FText.lift ⟨ht1, hc1, ht2, hc2⟩ ((Below.refl _ _).alloc (Nat.le_refl _) _)) ((Below.refl _ _).alloc (Nat.le_refl _) _)
      have hG := Blk.new (w7.alloc (.cells (FCells ⟨f1, f2, f3, f4, f5, f6⟩ A1 n1 c1 A2 n2 c2).toArray 76)) 76 (FCells ⟨f1, f2, f3, f4, f5, f6⟩ A1 n1 c1 A2 n2 c2).toArray
      rw [World.size_alloc] at hG
      have hal : acc.length ≤ 1000 := by have := HAC.out; omega
      clear ht1 ht2
      go_wp2_with (at_builtin; refine app_file rfl _ _ rfl w.heap.size _ acc rfl hst8.fs (w7.heap.size + 1) ⟨f1, f2, f3, f4, f5, f6⟩ A1 n1 c1 A2 n2 c2 rfl hG hT hal hst8.bel.size ?_; intro v9 w9 hown9 hg9 hat9; have hst9 := hst8.put_f hown9 hg9; obtain ⟨A9, n9, c9, rfl, hn9, hc9, hF9⟩ := hown9.form; have hob9 := hst8.ob.kept (Kept.of_grown hg9) (fun e => own_blk_ne hst8.fs.choose_spec.1 hst8.ob (by decide) e); have hq9 := hob9.cell; have hz9 := hob9.frozen)
      go_roundw
      case rel =>
        refine ⟨k + 1, s7, _, acc ++ [⟨f1, f2, f3, f4, f5, f6⟩], by omega, by go_num, by simp [HAC.out], hst9, ?_⟩
        rw [HSP.out, HRS.out, HF.out, HS7.out]
        simp
      case measure => simp [intOf]; omega
    · have hfs : Hid (rdFs 999999 3 N s1 = (acc, s)) := by
        show _ = _
        rw [HSP.out, show N - k = 0 from by omega]; simp [rdFs]
      clear HSP
      go_wp2_with fail
      refine (decode_number 50 w.heap.size w.heap.size (w.heap.size + 2) s wr (by omega) (by omega) hst.rd).mono ?_
      rintro e w2 ⟨rfl, hrd2, hk2⟩
      have hst2 := hst.num hrd2 hk2
      have hcr := rdN_range 50 (by omega) s
      obtain ⟨p2, hp2⟩ : ∃ p2, p2 = rdN 50 s := ⟨_, rfl⟩
      rw [← hp2] at hst2 hcr ⊢
      have HP2 := hide hp2
      clear hp2 hrd2 hk2 hst
      obtain ⟨cnt2, s2⟩ := p2
      simp only at hst2 hcr ⊢
      obtain ⟨M, rfl⟩ := Int.eq_ofNat_of_zero_le hcr.1
      have hM : M ≤ 50 := by omega
      clear hcr
      go_wp2_with fail
      obtain ⟨wo, hwo⟩ : ∃ wo : World, wo = wr := ⟨_, rfl⟩
      clear hwo
      go_loopw [37] (fun i wq => ∃ (k2 : Nat) (t : Bool × List UInt8) (dv : Value) (zs : List Int), k2 ≤ M ∧ i = .int .i64 k2 ∧ zs.length = k2 ∧ DecSt w wq t av dv acc zs ∧ rdInts 999999 M s2 = (zs ++ (rdInts 999999 (M - k2) t).1, (rdInts 999999 (M - k2) t).2)) (fun i _ => M - (intOf i).toNat)
      case atStart => exact ⟨0, s2, _, [], Nat.zero_le _, rfl, rfl, hst2, by simp⟩
      case round =>
        obtain ⟨k2, t, dv, zs, hk2, rfl, hzs, hst, hsplit⟩ := hrel
        have HSP := hide hsplit
        have HZS := hide hzs
        clear hsplit hzs hst2
        by_cases hlt2 : k2 < M
        · have HRS := hide (rdInts_step (m := 999999) hlt2 t)
          have hzl : zs.length ≤ 1000000 := by have := HZS.out; omega
          have hq := hst.ob.cell
          have hsz := hst.size
          go_upto_region 12 with fail
          go_region_law (first
            | (have _tok := hst1; refine step_app_int rfl _ _ rfl w.heap.size dv zs rfl (hst1.alloc (.cells #[.int .i64 (rdN 999999 t).1] 3)).zs w1.heap.size (rdN 999999 t).1 rfl (Blk.new _ _ _) hzl (hst1.alloc _).bel.size ?_; intro v2 w2 hown2 hg2 hat2; have hst2 := (hst1.alloc _).put_z hown2 hg2; obtain ⟨A2, n2, c2, rfl, hn2, hc2, hI2⟩ := hown2.form; have hob2 := (hst1.alloc (.cells #[.int .i64 (rdN 999999 t).1] 3)).ob.kept (Kept.of_grown hg2) (fun e => own_blk_ne (hst1.alloc (.cells #[.int .i64 (rdN 999999 t).1] 3)).zs (hst1.alloc _).ob (by decide) e); have hq2 := hob2.cell; have hz2 := hob2.frozen)
            | (go_simp; go_at_call 39; refine (decode_number 999999 w.heap.size w.heap.size (w.heap.size + 2) t _ (by omega) (by omega) (by exact hst.drew.rd)).mono ?_; rintro e w1 ⟨rfl, hrd1, hk1⟩; have hst1 := hst.drew.num hrd1 hk1; have hq1 := hst1.ob.cell; have hsz1 := hst1.size))
          all_goals go_wp2
          all_goals go_roundw
          all_goals first
            | exact ⟨k2 + 1, (rdN 999999 t).2, _, zs ++ [(rdN 999999 t).1], by omega, by go_num, by simp [HZS.out], hst2, by rw [HSP.out, HRS.out]; simp⟩
            | (simp [intOf]; omega)
        · have hzs : Hid (rdInts 999999 M s2 = (zs, t)) := by
            show _ = _
            rw [HSP.out, show M - k2 = 0 from by omega]; simp [rdInts]
          clear HSP
          go_wp2_with fail
          refine (decode_number 1099511627776 w.heap.size w.heap.size (w.heap.size + 2) t wr (by omega) (by omega) hst.rd).mono ?_
          rintro e w3 ⟨rfl, hrd3, hk3⟩
          have hst3 := hst.num hrd3 hk3
          clear hrd3 hk3
          go_wp2_with fail
          refine (decode_number 1099511627776 w.heap.size w.heap.size (w.heap.size + 2) _ w3 (by omega) (by omega) hst3.rd).mono ?_
          rintro e w4 ⟨rfl, hrd4, hk4⟩
          have hst4 := hst3.num hrd4 hk4
          clear hrd4 hk4
          have hE : rdEdit xs = (⟨acc, zs, (rdN 1099511627776 t).1, (rdN 1099511627776 (rdN 1099511627776 t).2).1⟩, (rdN 1099511627776 (rdN 1099511627776 t).2).2) := by
            unfold rdEdit
            simp only
            rw [← HP1.out]
            simp only [Int.toNat_natCast]
            rw [hfs.out]
            simp only
            rw [← HP2.out]
            simp only [Int.toNat_natCast]
            rw [hzs.out]
          generalize (rdN 1099511627776 (rdN 1099511627776 t).2).2 = s4 at *
          generalize (rdN 1099511627776 (rdN 1099511627776 t).2).1 = nx at *
          generalize (rdN 1099511627776 t).1 = lg at *
          have HE2 := hide hE
          have hqo := hst4.ob.cell
          have hqz := hst4.ob.frozen
          have hfin := hst4.fin lg nx
          obtain ⟨A1, n1, c1, rfl, hn1, hc1, hF1⟩ := hfin.fs.form
          obtain ⟨A2, n2, c2, rfl, hn2, hc2, hI2⟩ := hfin.zs.form
          have HR := hide (version_rightEdit ⟨acc, zs, lg, nx⟩ A1 A2 n1 c1 n2 c2 _ (by have := hn1.out; have := HAC.out; omega) (by have := hn2.out; have := HZS.out; omega) hF1 hI2)
          obtain ⟨A0, n0, c0, hbb, hrb0, hnc0, hln0⟩ := hfin.rd.ex
          have hqa := hfin.rd.am.cell 0
          have hqb := hbb.cell 0
          have hqo2 := hfin.ob.cell
          have hqr := hfin.rb.cell
          have hzr := hfin.rb.frozen
          have hn0 := hrb0.len
          have hln := lim_le hln0
          have hDP : Hid (decP xs = if s4.1 = true ∨ 0 < s4.2.length ∨ okEdit ⟨acc, zs, lg, nx⟩ = false then none else some ⟨acc, zs, lg, nx⟩) := by
            show decP xs = _
            unfold decP
            rw [hE]
          have HN0 := hide hn0
          have HB := hide hfin
          have hszf := hst4.size
          clear hE hst hst3 hst4 hfs hzs HP1 HP2 hn0 hrb0
          obtain ⟨a4, y4⟩ := s4
          simp only at hqa hDP HN0
          cases a4
          · by_cases hy : (0 : Int) < (n0 : Int)
            · rw [if_pos (.inr (.inl (by have := HN0.out; omega)))] at hDP
              go_wp2
              refine bodyPost_ret (v := .tuple #[.agg #[.slice none 0 0, .slice none 0 0, .int .i64 0, .int .i64 0], .int .i64 3]) (by simp [results, Tryz.results10, go_sem, hqr]) rfl ?_
              refine ⟨((((HB.out.bel.setCell (by simp) _).setCell (by simp) _).setCell (by simp) _).setCell (by simp) _), ?_⟩
              rw [hDP.out]
            · have hy0 : n0 = 0 := by omega
              subst hy0
              clear hy
              cases hok : okEdit ⟨acc, zs, lg, nx⟩
              · rw [if_pos (.inr (.inr hok))] at hDP
                rw [hok] at HR
                have HOK := hide hok
                clear hok
                go_wp2_with (go_at_call 32; refine (unhide HR).mono ?_; rintro e w6 ⟨rfl, hb6⟩; have hqr6 := (HB.out.rb.below hb6 HB.out.rb.lt).cell; have hzr6 := (HB.out.rb.below hb6 HB.out.rb.lt).frozen)
                refine bodyPost_ret (v := .tuple #[.agg #[.slice none 0 0, .slice none 0 0, .int .i64 0, .int .i64 0], .int .i64 3]) (by simp [results, Tryz.results10, go_sem, hqr6]) rfl ?_
                refine ⟨(((((HB.out.bel.trans (hb6.mono HB.out.bel.size)).setCell (by simp) _).setCell (by simp) _).setCell (by simp) _).setCell (by simp) _), ?_⟩
                rw [hDP.out]
              · rw [if_neg (by simp [hok]; have := HN0.out; exact List.eq_nil_of_length_eq_zero (by omega))] at hDP
                rw [hok] at HR
                have HOK := hide hok
                clear hok
                go_wp2_with (go_at_call 32; refine (unhide HR).mono ?_; rintro e w6 ⟨rfl, hb6⟩; have hqr6 := (HB.out.rb.below hb6 HB.out.rb.lt).cell; have hzr6 := (HB.out.rb.below hb6 HB.out.rb.lt).frozen; have hqo6 := (HB.out.ob.below hb6 HB.out.ob.lt).cell)
                refine bodyPost_ret (v := .tuple #[.agg #[.slice A1 n1 c1, .slice A2 n2 c2, .int .i64 lg, .int .i64 nx], .int .i64 0]) (by simp [results, Tryz.results10, go_sem, hqr6]) rfl ?_
                refine ⟨(((((HB.out.bel.trans (hb6.mono HB.out.bel.size)).setCell (by simp) _).setCell (by simp) _).setCell (by simp) _).setCell (by simp) _), ?_⟩
                rw [hDP.out]
                have hrb6 := HB.out.rb.below hb6 HB.out.rb.lt
                have hfs6 := HB.out.fs.call hb6
                have hzs6 := HB.out.zs.call hb6
                have hk6 : Kept (fun k => k = w.heap.size + 1) w6 _ := (((Kept.one w6 (w.heap.size + 1) 0 (.slice A1 n1 c1)).trans (Kept.one _ (w.heap.size + 1) 1 (.slice A2 n2 c2))).trans (Kept.one _ (w.heap.size + 1) 2 (.int .i64 lg))).trans (Kept.one _ (w.heap.size + 1) 3 (.int .i64 nx))
                have hf6 := Free5.blk hrb6 (show w.heap.size ≤ w.heap.size + 1 by omega) (by decide)
                exact ⟨A1, n1, c1, A2, n2, c2, rfl, (hfs6.kept hk6 (by rintro g hg rfl; exact own_blk_ne hfs6.choose_spec.1 hrb6 (by decide) hg) hf6).files, (hzs6.kept hk6 (by rintro g hg rfl; exact own_blk_ne hzs6 hrb6 (by decide) hg)).ints⟩
          · rw [if_pos (.inl rfl)] at hDP
            go_wp2
            refine bodyPost_ret (v := .tuple #[.agg #[.slice none 0 0, .slice none 0 0, .int .i64 0, .int .i64 0], .int .i64 3]) (by simp [results, Tryz.results10, go_sem, hqr]) rfl ?_
            refine ⟨((((HB.out.bel.setCell (by simp) _).setCell (by simp) _).setCell (by simp) _).setCell (by simp) _), ?_⟩
            rw [hDP.out]
end Go.Proofs.YtgjmfncebbfniaaGreatDoor
