/- The walk of the reference's Decode. -/
import Derived.Test.YtgjmfncebbfniaaGreatDoorDecodeR
namespace Go.Proofs.YtgjmfncebbfniaaGreatDoor
set_option maxRecDepth 100000
open Go Go.RowKit

set_option maxHeartbeats 8000000 in
theorem ref_decode (A : Option Addr) (n c : Nat) (xs : List UInt8) (w : World) (hlen : n ≤ lim) (hnc : n ≤ c) (hr : Reads w w.heap.size 1 A n (BY xs)) :
    Calls Tryz.prog 11 #[.slice A n c] w (DecPost w (decP xs)) := by
  rw [← decR_eq]
  obtain ⟨W0, hW0⟩ : ∃ W0 : World, W0 = (((w.alloc (Obj.cells #[Value.slice none 0 0, Value.slice none 0 0, Value.int IntKind.i64 0, Value.int IntKind.i64 0] 25)).alloc (Obj.cells #[Value.slice A n c, Value.bool false] 87)).alloc (Obj.cells #[Value.slice none 0 0, Value.slice none 0 0, Value.int IntKind.i64 0, Value.int IntKind.i64 0] 25)) := ⟨_, rfl⟩
  have hst : RefSt w W0 (false, xs) (.slice none 0 0) (.slice none 0 0) 0 0 [] [] := by
    rw [hW0]
    have h1 := Blk.new w 25 #[Value.slice none 0 0, Value.slice none 0 0, Value.int IntKind.i64 0, Value.int IntKind.i64 0]
    have h2 := Blk.new (w.alloc (Obj.cells #[Value.slice none 0 0, Value.slice none 0 0, Value.int IntKind.i64 0, Value.int IntKind.i64 0] 25)) 87 #[Value.slice A n c, Value.bool false]
    have h3 := Blk.new ((w.alloc (Obj.cells #[Value.slice none 0 0, Value.slice none 0 0, Value.int IntKind.i64 0, Value.int IntKind.i64 0] 25)).alloc (Obj.cells #[Value.slice A n c, Value.bool false] 87)) 25 #[Value.slice none 0 0, Value.slice none 0 0, Value.int IntKind.i64 0, Value.int IntKind.i64 0]
    simp only [World.size_alloc, Nat.add_assoc] at h2 h3
    have hb : Below w.heap.size w (((w.alloc (Obj.cells #[Value.slice none 0 0, Value.slice none 0 0, Value.int IntKind.i64 0, Value.int IntKind.i64 0] 25)).alloc (Obj.cells #[Value.slice A n c, Value.bool false] 87)).alloc (Obj.cells #[Value.slice none 0 0, Value.slice none 0 0, Value.int IntKind.i64 0, Value.int IntKind.i64 0] 25)) :=
      (((Below.refl _ _).alloc (Nat.le_refl _) _).alloc (by simp) _).alloc (by simp; omega) _
    exact ⟨hb, ⟨⟨A, n, c, h2.alloc _, (RdB.of_reads hr).lift hb, hnc, hlen⟩, by omega⟩, (h1.alloc _).alloc _, h3, OwnF.nil _ _, OwnI.nil _ _⟩
  have HW := hide hW0
  clear hW0
  go_enter Tryz.func11, Tryz.ntmps11
  go_wp2_with fail
  rw [← HW.out]
  refine (cut_number w.heap.size (w.heap.size + 1) (false, xs) W0 hst.rd).mono ?_
  rintro e w1 ⟨rfl, hrd1, hk1⟩
  have hst1 := hst.num hrd1 hk1
  have hcr := rdN_range 1099511627776 (by omega) (false, xs)
  obtain ⟨p1, hp1⟩ : ∃ p1, p1 = rdN 1099511627776 (false, xs) := ⟨_, rfl⟩
  rw [← hp1] at hst1 hcr ⊢
  have HP1 := hide hp1
  clear hp1 hrd1 hk1 hst
  obtain ⟨cnt, s1⟩ := p1
  simp only at hst1 hcr ⊢
  obtain ⟨hc0, hc1⟩ := hcr
  obtain ⟨N, hN⟩ : ∃ N, Hid (N = min cnt.toNat 51) := ⟨_, rfl⟩
  have hN51 : N ≤ 51 := by rw [hN.out]; omega
  go_wp2_with fail
  go_loopw [7] (fun i wr => ∃ (k : Nat) (s : Bool × List UInt8) (av : Value) (acc : List FileD), k ≤ N ∧ i = .int .i64 k ∧ acc.length = k ∧ RefSt w wr s av (.slice none 0 0) 0 0 acc [] ∧ rdFsR N s1 = (acc ++ (rdFsR (N - k) s).1, (rdFsR (N - k) s).2)) (fun i _ => N - (intOf i).toNat)
  case atStart => exact ⟨0, s1, _, [], Nat.zero_le _, rfl, rfl, hst1, by simp⟩
  case round =>
    obtain ⟨k, s, av, acc, hk, rfl, hacc, hst, hsplit⟩ := hrel
    have HSP := hide hsplit
    have HAC := hide hacc
    clear hsplit hacc hst1
    obtain ⟨Ac, nc, cc, hcb, hcr0, hcc, hcl⟩ := hst.rd.ex
    have hqc := hcb.cell
    have HRD := hide hcr0
    clear hcr0
    have hcase : ((k : Int) < cnt ∧ (k : Int) ≤ 50 ∧ s.1 = false) ∨ (¬ ((k : Int) < cnt) ∨ ((k : Int) < cnt ∧ ¬ ((k : Int) ≤ 50)) ∨ ((k : Int) < cnt ∧ (k : Int) ≤ 50 ∧ s.1 = true)) := by
      by_cases h1 : (k : Int) < cnt
      · by_cases h2 : (k : Int) ≤ 50
        · cases h3 : s.1
          · exact .inl ⟨h1, h2, rfl⟩
          · exact .inr (.inr (.inr ⟨h1, h2, rfl⟩))
        · exact .inr (.inr (.inl ⟨h1, h2⟩))
      · exact .inr (.inl h1)
    rcases hcase with ⟨hlt, hle, ha⟩ | hend
    · have hkN : k < N := by rw [hN.out]; omega
      have HRS := hide (rdFsR_step hkN s ha)
      have HA := hide ha
      rw [ha] at hcb hqc
      clear ha
      go_wp2_with fail
      refine (cut_number w.heap.size (w.heap.size + 1) s wr hst.rd).mono ?_
      rintro e w2 ⟨rfl, hrd2, hk2⟩
      have hst2 := hst.num hrd2 hk2
      clear hrd2 hk2
      go_wp2_with fail
      refine (cut_number w.heap.size (w.heap.size + 1) _ w2 hst2.rd).mono ?_
      rintro e w3 ⟨rfl, hrd3, hk3⟩
      have hst3 := hst2.num hrd3 hk3
      clear hrd3 hk3
      have hsz3 := hst3.size
      go_wp2_with fail
      have hG3 := Blk.new w3 76 #[Value.int IntKind.i64 (rdN 1099511627776 s).fst, Value.int IntKind.i64 (rdN 1099511627776 (rdN 1099511627776 s).snd).fst, Value.slice none 0 0, Value.slice none 0 0, Value.int IntKind.i64 0, Value.int IntKind.i64 0]
      have hst4 := hst3.alloc (Obj.cells #[Value.int IntKind.i64 (rdN 1099511627776 s).fst, Value.int IntKind.i64 (rdN 1099511627776 (rdN 1099511627776 s).snd).fst, Value.slice none 0 0, Value.slice none 0 0, Value.int IntKind.i64 0, Value.int IntKind.i64 0] 76)
      have HV := hide (fun b hb => ownBlock_lt hst3.fs.choose_spec.1 b hb)
      refine (cut_text w.heap.size (w.heap.size + 1) _ _ hst4.rd).mono ?_
      rintro e w4 ⟨⟨A1, n1, c1, rfl, ht1, hc1⟩, hrd4, hk4⟩
      have hst5 := hst4.num hrd4 hk4
      have hG4 := hG3.kept hk4 (by omega)
      have hqG := hG4.cell
      have hzG := hG4.frozen
      clear hrd4 hk4
      go_wp2_with fail
      have ht1 := ht1.kept (Kept.one _ _ 2 (.slice A1 n1 c1)) (Free5.blk hG4 (show w.heap.size ≤ w3.heap.size by omega) (by decide))
      have hst6 := hst5.setF hG4 (by omega) HV.out 2 (.slice A1 n1 c1)
      have hG5 := hG4.set_ 2 (.slice A1 n1 c1)
      refine (cut_text w.heap.size (w.heap.size + 1) _ _ hst6.rd).mono ?_
      rintro e w5 ⟨⟨A2, n2, c2, rfl, ht2, hc2⟩, hrd5, hk5⟩
      have hst7 := hst6.num hrd5 hk5
      have hG6 := hG5.kept hk5 (by omega)
      have hqG := hG6.cell
      have hzG := hG6.frozen
      have ht1 := ht1.kept hk5 hst6.rd.free
      clear hrd5 hk5
      go_wp2_with fail
      have ht1 := ht1.kept (Kept.one _ _ 3 (.slice A2 n2 c2)) (Free5.blk hG6 (show w.heap.size ≤ w3.heap.size by omega) (by decide))
      have ht2 := ht2.kept (Kept.one _ _ 3 (.slice A2 n2 c2)) (Free5.blk hG6 (show w.heap.size ≤ w3.heap.size by omega) (by decide))
      have hst8 := hst7.setF hG6 (by omega) HV.out 3 (.slice A2 n2 c2)
      have hG7 := hG6.set_ 3 (.slice A2 n2 c2)
      refine (cut_number w.heap.size (w.heap.size + 1) _ _ hst8.rd).mono ?_
      rintro e w6 ⟨rfl, hrd6, hk6⟩
      have hst9 := hst8.num hrd6 hk6
      have hG8 := hG7.kept hk6 (by omega)
      have hqG := hG8.cell
      have hzG := hG8.frozen
      have ht1 := ht1.kept hk6 hst8.rd.free
      have ht2 := ht2.kept hk6 hst8.rd.free
      clear hrd6 hk6
      go_wp2_with fail
      obtain ⟨x5, hx5⟩ : ∃ x, x = (rdN 1099511627776 (rdT (rdT (rdN 1099511627776 (rdN 1099511627776 s).2).2).2).2).1 := ⟨_, rfl⟩
      rw [← hx5]
      have ht1 := ht1.kept (Kept.one _ _ 4 (.int .i64 x5)) (Free5.blk hG8 (show w.heap.size ≤ w3.heap.size by omega) (by decide))
      have ht2 := ht2.kept (Kept.one _ _ 4 (.int .i64 x5)) (Free5.blk hG8 (show w.heap.size ≤ w3.heap.size by omega) (by decide))
      have hst10 := hst9.setF hG8 (by omega) HV.out 4 (.int .i64 x5)
      have hG9 := hG8.set_ 4 (.int .i64 x5)
      refine (cut_number w.heap.size (w.heap.size + 1) _ _ hst10.rd).mono ?_
      rintro e w7 ⟨rfl, hrd7, hk7⟩
      have hst11 := hst10.num hrd7 hk7
      have hG10 := hG9.kept hk7 (by omega)
      have hqG := hG10.cell
      have hzG := hG10.frozen
      have ht1 := ht1.kept hk7 hst10.rd.free
      have ht2 := ht2.kept hk7 hst10.rd.free
      have hqo := hst11.ob.cell
      have hzo := hst11.ob.frozen
      have hsz11 := hst11.size
      clear hrd7 hk7
      obtain ⟨F, HF⟩ : ∃ F : FileD, Hid ((rdF 1099511627776 1099511627776 s).1 = F) := ⟨_, rfl⟩
      obtain ⟨s7, HS7⟩ : ∃ s7, Hid ((rdF 1099511627776 1099511627776 s).2 = s7) := ⟨_, rfl⟩
      obtain ⟨f1, f2, f3, f4, f5, f6⟩ := F
      have e1 : (rdN 1099511627776 s).1 = f1 := congrArg FileD.number HF.out
      have e2 : (rdN 1099511627776 (rdN 1099511627776 s).2).1 = f2 := congrArg FileD.level HF.out
      have e3 : (rdT (rdN 1099511627776 (rdN 1099511627776 s).2).2).1 = f3 := congrArg FileD.first HF.out
      have e4 : (rdT (rdT (rdN 1099511627776 (rdN 1099511627776 s).2).2).2).1 = f4 := congrArg FileD.last HF.out
      have e5 : x5 = f5 := hx5.trans (congrArg FileD.low HF.out)
      have e6 : (rdN 1099511627776 (rdN 1099511627776 (rdT (rdT (rdN 1099511627776 (rdN 1099511627776 s).2).2).2).2).2).1 = f6 := congrArg FileD.high HF.out
      have e7 : (rdN 1099511627776 (rdN 1099511627776 (rdT (rdT (rdN 1099511627776 (rdN 1099511627776 s).2).2).2).2).2).2 = s7 := HS7.out
      rw [e3] at ht1
      rw [e4] at ht2
      rw [e7] at hst11
      rw [e1, e2, e5] at hG10
      rw [e6]
      clear e1 e2 e3 e4 e5 e6 e7 hqG hst2 hst3 hst4 hst5 hst6 hst7 hst8 hst9 hst10 hst hG3 hG4 hG5 hG6 hG7 hG8 hG9 hx5
      have hG11 : Blk (w7.setCell ⟨w3.heap.size, 5, none⟩ (.int .i64 f6)) w3.heap.size 76 (FCells ⟨f1, f2, f3, f4, f5, f6⟩ A1 n1 c1 A2 n2 c2).toArray := hG10.set_ 5 (.int .i64 f6)
      have hqG := hG10.cell
      have ht1 := ht1.kept (Kept.one _ _ 5 (.int .i64 f6)) (Free5.blk hG10 (show w.heap.size ≤ w3.heap.size by omega) (by decide))
      have ht2 := ht2.kept (Kept.one _ _ 5 (.int .i64 f6)) (Free5.blk hG10 (show w.heap.size ≤ w3.heap.size by omega) (by decide))
      have hst12 := hst11.setF hG10 (by omega) HV.out 5 (.int .i64 f6)
      have hst13 := hst12.alloc (.cells (FCells ⟨f1, f2, f3, f4, f5, f6⟩ A1 n1 c1 A2 n2 c2).toArray 76)
      have hT : FText ((w7.setCell ⟨w3.heap.size, 5, none⟩ (.int .i64 f6)).alloc (.cells (FCells ⟨f1, f2, f3, f4, f5, f6⟩ A1 n1 c1 A2 n2 c2).toArray 76)) w.heap.size ⟨f1, f2, f3, f4, f5, f6⟩ A1 n1 c1 A2 n2 c2 :=
        FText.lift ⟨ht1, hc1, ht2, hc2⟩ ((Below.refl _ _).alloc (Nat.le_refl _) _)
      have hG := Blk.new (w7.setCell ⟨w3.heap.size, 5, none⟩ (.int .i64 f6)) 76 (FCells ⟨f1, f2, f3, f4, f5, f6⟩ A1 n1 c1 A2 n2 c2).toArray
      have hsz7 : (w7.setCell ⟨w3.heap.size, 5, none⟩ (.int .i64 f6)).heap.size = w7.heap.size := by simp
      rw [hsz7] at hG
      have hal : acc.length ≤ 1000 := by have := HAC.out; omega
      clear ht1 ht2
      go_wp2_with (at_builtin; refine app_file rfl _ _ rfl w.heap.size _ acc rfl hst13.fs w7.heap.size ⟨f1, f2, f3, f4, f5, f6⟩ A1 n1 c1 A2 n2 c2 rfl hG hT hal hst13.bel.size ?_; intro v9 w9 hown9 hg9 hat9; have hst14 := hst13.put_f hown9 hg9; obtain ⟨A9, n9, c9, rfl, hn9, hc9, hF9⟩ := hown9.form; have hob9 := hst13.ob.kept (Kept.of_grown hg9) (fun e => own_blk_ne hst13.fs.choose_spec.1 hst13.ob (by decide) e); have hq9 := hob9.cell; have hz9 := hob9.frozen)
      go_roundw
      case rel =>
        refine ⟨k + 1, s7, _, acc ++ [⟨f1, f2, f3, f4, f5, f6⟩], by omega, by go_num, by simp [HAC.out], hst14, ?_⟩
        rw [HSP.out, HRS.out, HF.out, HS7.out]
        simp
      case measure => simp [intOf]; omega
    · have hfs : Hid (rdFsR N s1 = (acc, s)) := by
        show _ = _
        rw [HSP.out, rdFsR_end s (by rcases hend with h | ⟨h, h2⟩ | ⟨h, h2, h3⟩
                                     · left; rw [hN.out]; have := hN.out; omega
                                     · left; rw [hN.out]; have := hN.out; omega
                                     · right; exact h3)]
        simp
      clear HSP
      rcases hend with h1 | ⟨h1, h2⟩ | ⟨h1, h2, h3⟩
      case' inr.inr => (have HA := hide h3; rw [h3] at hqc; clear h3)
      all_goals go_wp2_with fail
      all_goals
        refine (cut_number w.heap.size (w.heap.size + 1) s wr hst.rd).mono ?_
        rintro e w2 ⟨rfl, hrd2, hk2⟩
        have hst2 := hst.num hrd2 hk2
        have hcr := rdN_range 1099511627776 (by omega) s
        obtain ⟨p2, hp2⟩ : ∃ p2, p2 = rdN 1099511627776 s := ⟨_, rfl⟩
        rw [← hp2] at hst2 hcr ⊢
        have HP2 := hide hp2
        clear hp2 hrd2 hk2 hst hcb hqc HRD hcc hcl
        obtain ⟨cnt2, s2⟩ := p2
        simp only at hst2 hcr ⊢
        obtain ⟨hd0, hd1⟩ := hcr
        obtain ⟨M, hM⟩ : ∃ M, Hid (M = min cnt2.toNat 51) := ⟨_, rfl⟩
        have hM51 : M ≤ 51 := by rw [hM.out]; omega
        go_wp2_with fail
        obtain ⟨wo, hwo⟩ : ∃ wo : World, wo = wr := ⟨_, rfl⟩
        clear hwo
        go_loopw [10] (fun i wq => ∃ (k2 : Nat) (t : Bool × List UInt8) (dv : Value) (zs : List Int), k2 ≤ M ∧ i = .int .i64 k2 ∧ zs.length = k2 ∧ RefSt w wq t av dv 0 0 acc zs ∧ rdIntsR M s2 = (zs ++ (rdIntsR (M - k2) t).1, (rdIntsR (M - k2) t).2)) (fun i _ => M - (intOf i).toNat)
        case atStart => exact ⟨0, s2, _, [], Nat.zero_le _, rfl, rfl, hst2, by simp⟩
        case round =>
          obtain ⟨k2, t, dv, zs, hk2, rfl, hzs, hst, hsplit⟩ := hrel
          have HSP := hide hsplit
          have HZS := hide hzs
          clear hsplit hzs hst2
          obtain ⟨Ac, nc, cc, hcb, hcr0, hcc, hcl⟩ := hst.rd.ex
          have hqc := hcb.cell
          have HRD := hide hcr0
          clear hcr0
          have hcase : ((k2 : Int) < cnt2 ∧ (k2 : Int) ≤ 50 ∧ t.1 = false) ∨ (¬ ((k2 : Int) < cnt2) ∨ ((k2 : Int) < cnt2 ∧ ¬ ((k2 : Int) ≤ 50)) ∨ ((k2 : Int) < cnt2 ∧ (k2 : Int) ≤ 50 ∧ t.1 = true)) := by
            by_cases h1 : (k2 : Int) < cnt2
            · by_cases h2 : (k2 : Int) ≤ 50
              · cases h3 : t.1
                · exact .inl ⟨h1, h2, rfl⟩
                · exact .inr (.inr (.inr ⟨h1, h2, rfl⟩))
              · exact .inr (.inr (.inl ⟨h1, h2⟩))
            · exact .inr (.inl h1)
          rcases hcase with ⟨hlt2, hle2, ha2⟩ | hend2
          · have hkM : k2 < M := by rw [hM.out]; omega
            have HRS := hide (rdIntsR_step hkM t ha2)
            have HA2 := hide ha2
            rw [ha2] at hcb hqc
            clear ha2
            have hzl : zs.length ≤ 1000000 := by have := HZS.out; omega
            have hq := hst.ob.cell
            have hsz := hst.size
            go_upto_region 17 with fail
            go_region_law (first
              | (have _tok := hst1; refine step_app_int rfl _ _ rfl w.heap.size dv zs rfl (hst1.alloc (.cells #[.int .i64 (rdN 1099511627776 t).1] 3)).zs w1.heap.size (rdN 1099511627776 t).1 rfl (Blk.new _ _ _) hzl (hst1.alloc _).bel.size ?_; intro v2 w2 hown2 hg2 hat2; have hst2 := (hst1.alloc _).put_z hown2 hg2; obtain ⟨A2, n2, c2, rfl, hn2, hc2, hI2⟩ := hown2.form; have hob2 := (hst1.alloc (.cells #[.int .i64 (rdN 1099511627776 t).1] 3)).ob.kept (Kept.of_grown hg2) (fun e => own_blk_ne (hst1.alloc (.cells #[.int .i64 (rdN 1099511627776 t).1] 3)).zs (hst1.alloc _).ob (by decide) e); have hq2 := hob2.cell; have hz2 := hob2.frozen)
              | (go_simp; go_at_call 43; refine (cut_number w.heap.size (w.heap.size + 1) t _ (by exact hst.drew.rd)).mono ?_; rintro e w1 ⟨rfl, hrd1, hk1⟩; have hst1 := hst.drew.num hrd1 hk1; have hq1 := hst1.ob.cell; have hsz1 := hst1.size))
            all_goals go_wp2
            all_goals go_roundw
            all_goals first
              | exact ⟨k2 + 1, (rdN 1099511627776 t).2, _, zs ++ [(rdN 1099511627776 t).1], by omega, by go_num, by simp [HZS.out], hst2, by rw [HSP.out, HRS.out]; simp⟩
              | (simp [intOf]; omega)
          · have hzs : Hid (rdIntsR M s2 = (zs, t)) := by
              show _ = _
              rw [HSP.out, rdIntsR_end t (by rcases hend2 with h | ⟨h, h2⟩ | ⟨h, h2, h3⟩
                                             · left; rw [hM.out]; have := hM.out; omega
                                             · left; rw [hM.out]; have := hM.out; omega
                                             · right; exact h3)]
              simp
            clear HSP HRD
            rcases hend2 with h1' | ⟨h1', h2'⟩ | ⟨h1', h2', h3'⟩
            case' inr.inr => (have HA2 := hide h3'; rw [h3'] at hqc; clear h3')
            all_goals
              go_wp2_with fail
              refine (cut_number w.heap.size (w.heap.size + 1) t wr hst.rd).mono ?_
              rintro e w3 ⟨rfl, hrd3, hk3⟩
              have hst3 := hst.num hrd3 hk3
              clear hrd3 hk3 hqc hcb
              have hqo := hst3.ob.cell
              have hzo := hst3.ob.frozen
              go_wp2_with fail
              have hst4 := hst3.put_l (rdN 1099511627776 t).1
              refine (cut_number w.heap.size (w.heap.size + 1) _ _ hst4.rd).mono ?_
              rintro e w4 ⟨rfl, hrd4, hk4⟩
              have hst5 := hst4.num hrd4 hk4
              clear hrd4 hk4 hqo hzo
              have hE : rdEditR xs = (⟨acc, zs, (rdN 1099511627776 t).1, (rdN 1099511627776 (rdN 1099511627776 t).2).1⟩, (rdN 1099511627776 (rdN 1099511627776 t).2).2) := by
                unfold rdEditR
                simp only
                rw [← HP1.out]
                simp only
                rw [← hN.out, hfs.out]
                simp only
                rw [← HP2.out]
                simp only
                rw [← hM.out, hzs.out]
              generalize (rdN 1099511627776 (rdN 1099511627776 t).2).2 = s4 at *
              generalize (rdN 1099511627776 (rdN 1099511627776 t).2).1 = nx at *
              generalize (rdN 1099511627776 t).1 = lg at *
              have hDP : Hid (decR xs = if s4.1 = true ∨ okEdit ⟨acc, zs, lg, nx⟩ = false ∨ encEdit ⟨acc, zs, lg, nx⟩ ≠ xs then none else some ⟨acc, zs, lg, nx⟩) := by
                show decR xs = _
                unfold decR
                rw [hE]
              have hqo := hst5.ob.cell
              have hzo := hst5.ob.frozen
              have hfin := hst5.put_n nx
              obtain ⟨A1, n1, c1, rfl, hn1, hc1, hF1⟩ := hfin.fs.form
              obtain ⟨A2, n2, c2, rfl, hn2, hc2, hI2⟩ := hfin.zs.form
              have HR := hide (ref_encode ⟨acc, zs, lg, nx⟩ A1 A2 n1 c1 n2 c2 _ (by have := hn1.out; have := HAC.out; omega) (by have := hn2.out; have := HZS.out; omega) hF1 hI2)
              clear hE hst hst3 hst4 hst5 hfs hzs HP1 HP2
              go_wp2_with fail
              refine (unhide HR).mono ?_
              rintro e w6 ⟨hb6, v6, ho6, rfl⟩
              obtain ⟨A3, n3, c3, rfl, hn3, hc3, hr3⟩ := ho6.form2
              have hfin6 := hfin.call hb6
              have k1 := conv_str w6 A3 n3 c3 _ _ hr3
              have k2 := conv_str w6 A n c xs _ ((RdB.of_reads hr).lift hfin6.bel).1
              obtain ⟨Ac, nc, cc, hcb, hcr0, hcc, hcl⟩ := hfin6.rd.ex
              have hqc := hcb.cell
              have HRD := hide hcr0
              clear hcr0
              have hqo6 := hfin6.ob.cell
              have hqr6 := hfin6.rb.cell
              have hzr6 := hfin6.rb.frozen
              have hbel6 := hide hfin6.bel
              obtain ⟨a4, y4⟩ := s4
              simp only at hDP hqc
              have HF6 := hide hfin6
              clear hfin6 hfin hcb ho6
              cases a4
              · cases hok : okEdit ⟨acc, zs, lg, nx⟩
                · have hDN := hDP.out
                  rw [if_pos (.inr (.inl hok))] at hDN
                  rw [hok] at k1
                  simp only [Bool.false_eq_true, if_false] at k1
                  simp only [Bool.false_eq_true, if_false]
                  have HOK := hide hok
                  clear hok
                  go_wp2
                  refine bodyPost_ret (v := .tuple #[.agg #[.slice none 0 0, .slice none 0 0, .int .i64 0, .int .i64 0], .int .i64 3]) (by simp [results, Tryz.results11, go_sem, hqr6]) rfl ?_
                  refine ⟨((((hbel6.out.setCell (by simp) _).setCell (by simp) _).setCell (by simp) _).setCell (by simp) _), ?_⟩
                  exact rfl
                · rw [hok] at k1
                  simp only [if_true] at k1
                  simp only [if_true]
                  by_cases hxs : encEdit ⟨acc, zs, lg, nx⟩ = xs
                  · have hDN := hDP.out
                    rw [if_neg (by simp [hok, hxs])] at hDN
                    rw [hxs] at k1
                    have HOK := hide hok
                    clear hok hxs
                    go_wp2
                    refine bodyPost_ret (v := .tuple #[.agg #[.slice A1 n1 c1, .slice A2 n2 c2, .int .i64 lg, .int .i64 nx], .int .i64 0]) (by simp [results, Tryz.results11, go_sem, hqr6]) rfl ?_
                    refine ⟨((((hbel6.out.setCell (by simp) _).setCell (by simp) _).setCell (by simp) _).setCell (by simp) _), ?_⟩
                    have hrb6 := HF6.out.rb
                    have hfs6 := HF6.out.fs
                    have hzs6 := HF6.out.zs
                    have hk6 : Kept (fun k => k = w.heap.size) w6 _ := (((Kept.one w6 w.heap.size 0 (.slice A1 n1 c1)).trans (Kept.one _ w.heap.size 1 (.slice A2 n2 c2))).trans (Kept.one _ w.heap.size 2 (.int .i64 lg))).trans (Kept.one _ w.heap.size 3 (.int .i64 nx))
                    have hf6 := Free5.blk hrb6 (Nat.le_refl _) (by decide)
                    exact ⟨A1, n1, c1, A2, n2, c2, rfl, (hfs6.kept hk6 (by rintro g hg rfl; exact own_blk_ne hfs6.choose_spec.1 hrb6 (by decide) hg) hf6).files, (hzs6.kept hk6 (by rintro g hg rfl; exact own_blk_ne hzs6 hrb6 (by decide) hg)).ints⟩
                  · have hDN := hDP.out
                    rw [if_pos (.inr (.inr hxs))] at hDN
                    have hbe : (encEdit ⟨acc, zs, lg, nx⟩ == xs) = false := by simpa using hxs
                    have HOK := hide hok
                    clear hok hxs
                    go_wp2
                    all_goals refine bodyPost_ret (v := .tuple #[.agg #[.slice none 0 0, .slice none 0 0, .int .i64 0, .int .i64 0], .int .i64 3]) (by simp [results, Tryz.results11, go_sem, hqr6]) rfl ?_
                    all_goals refine ⟨((((hbel6.out.setCell (by simp) _).setCell (by simp) _).setCell (by simp) _).setCell (by simp) _), ?_⟩
                    all_goals exact rfl
              · have hDN := hDP.out
                rw [if_pos (.inl rfl)] at hDN
                go_wp2
                all_goals refine bodyPost_ret (v := .tuple #[.agg #[.slice none 0 0, .slice none 0 0, .int .i64 0, .int .i64 0], .int .i64 3]) (by simp [results, Tryz.results11, go_sem, hqr6]) rfl ?_
                all_goals refine ⟨((((hbel6.out.setCell (by simp) _).setCell (by simp) _).setCell (by simp) _).setCell (by simp) _), ?_⟩
                all_goals exact rfl
end Go.Proofs.YtgjmfncebbfniaaGreatDoor
