/- Package version: clean, the walk. -/
import Derived.Test.YtgjmfncebbfniaaGreatDoorClean
namespace Go.Proofs.YtgjmfncebbfniaaGreatDoor
set_option maxRecDepth 100000
open Go Go.RowKit

abbrev op7_0 : Oper := { dst := some 27, op := Op.load 9 (Operand.tmp 5), type := 9, pos := "version.go:299", after := #[], guard := none }
abbrev op7_2 : Oper := { dst := some 29, op := Op.binOp BinOp.gtr 3 (Operand.tmp 28) (Operand.const (Value.int IntKind.i64 0)) 3, type := 4, pos := "version.go:299", after := #[{ on := 1, ground := Ground.data }], guard := none }
abbrev op7_3 : Oper := { dst := some 30, op := Op.move (Operand.tmp 29), type := 4, pos := "version.go:299", after := #[{ on := 2, ground := Ground.data }, { on := 1, ground := Ground.chain }], guard := none }
abbrev op7_4 : Oper := { dst := some 31, op := Op.load 9 (Operand.tmp 5), type := 9, pos := "version.go:299", after := #[{ on := 3, ground := Ground.guard }], guard := some (3, true) }
abbrev op7_5 : Oper := { dst := some 32, op := Op.load 43 (Operand.tmp 1), type := 43, pos := "version.go:299", after := #[{ on := 3, ground := Ground.guard }], guard := some (3, true) }
abbrev op7_6 : Oper := { dst := some 33, op := Op.nilCheck (Operand.tmp 32), type := 0, pos := "version.go:299", after := #[{ on := 5, ground := Ground.data }, { on := 3, ground := Ground.guard }], guard := some (3, true) }
abbrev op7_7 : Oper := { dst := some 34, op := Op.fieldAddr 102 (Operand.tmp 33) 1, type := 0, pos := "version.go:299", after := #[{ on := 6, ground := Ground.data }, { on := 3, ground := Ground.guard }], guard := some (3, true) }
abbrev op7_8 : Oper := { dst := some 35, op := Op.load 9 (Operand.tmp 34), type := 9, pos := "version.go:299", after := #[{ on := 7, ground := Ground.data }, { on := 3, ground := Ground.guard }], guard := some (3, true) }
abbrev op7_9 : Oper := { dst := some 36, op := Op.binOp BinOp.neq 9 (Operand.tmp 31) (Operand.tmp 35) 9, type := 4, pos := "version.go:299", after := #[{ on := 4, ground := Ground.data }, { on := 8, ground := Ground.data }, { on := 3, ground := Ground.guard }], guard := some (3, true) }
abbrev op7_10 : Oper := { dst := some 37, op := Op.pick (Operand.tmp 30) (Operand.tmp 36) (Operand.const (Value.bool false)), type := 4, pos := "version.go:299", after := #[{ on := 3, ground := Ground.data }, { on := 9, ground := Ground.data }], guard := none }
abbrev op7_11 : Oper := { dst := some 38, op := Op.move (Operand.tmp 37), type := 4, pos := "version.go:299", after := #[{ on := 10, ground := Ground.data }, { on := 3, ground := Ground.chain }], guard := none }
abbrev op7_12 : Oper := { dst := some 39, op := Op.load 3 (Operand.tmp 6), type := 3, pos := "version.go:299", after := #[{ on := 11, ground := Ground.guard }], guard := some (11, false) }
abbrev op7_13 : Oper := { dst := some 40, op := Op.binOp BinOp.gtr 3 (Operand.tmp 39) (Operand.const (Value.int IntKind.i64 0)) 3, type := 4, pos := "version.go:299", after := #[{ on := 12, ground := Ground.data }, { on := 11, ground := Ground.guard }], guard := some (11, false) }
abbrev op7_14 : Oper := { dst := some 41, op := Op.move (Operand.tmp 40), type := 4, pos := "version.go:299", after := #[{ on := 13, ground := Ground.data }, { on := 11, ground := Ground.chain }, { on := 11, ground := Ground.guard }], guard := some (11, false) }
abbrev op7_15 : Oper := { dst := some 42, op := Op.move (Operand.tmp 7), type := 4, pos := "version.go:299", after := #[{ on := 14, ground := Ground.guard }], guard := some (14, true) }
abbrev op7_16 : Oper := { dst := some 43, op := Op.unOp UnOp.not 4 (Operand.tmp 42), type := 4, pos := "version.go:299", after := #[{ on := 15, ground := Ground.data }, { on := 14, ground := Ground.guard }], guard := some (14, true) }
abbrev op7_17 : Oper := { dst := some 44, op := Op.pick (Operand.tmp 41) (Operand.tmp 43) (Operand.const (Value.bool false)), type := 4, pos := "version.go:299", after := #[{ on := 14, ground := Ground.data }, { on := 16, ground := Ground.data }, { on := 11, ground := Ground.guard }], guard := some (11, false) }
abbrev op7_18 : Oper := { dst := some 45, op := Op.pick (Operand.tmp 38) (Operand.const (Value.bool true)) (Operand.tmp 44), type := 4, pos := "version.go:299", after := #[{ on := 11, ground := Ground.data }, { on := 17, ground := Ground.data }], guard := none }
theorem Steps.boxes' {W W1 : World} {base p1 : Nat} {v : Value} {l : List (Nat × Nm)} {o : Obj} (h : Steps W base p1 v l) (hg : (W.alloc o).grownBy W1 v.ownBlock) : ∀ x ∈ l, Blk W1 x.1 9 #[str x.2] ∧ base ≤ x.1 := by
  have h' := h.alloc' o
  have hk := Kept.of_grown hg
  intro x hx
  refine ⟨(h'.box x hx).1.kept hk (fun e => ?_), (h'.box x hx).2⟩
  have h1 := own_tag h'.row e
  rw [(h'.box x hx).1.tag] at h1
  injection h1 with h1
  exact absurd h1 (by decide)
/-- Behind the test of a name: nothing that lay has turned. -/
def Garb (g : Value) : Prop := g = .tuple #[] ∨ g = .bool true ∨ g = .bool false
def TestRel (wm wx : World) (b : Bool) (g s : Value) : Prop := s = .bool b ∧ Below wm.heap.size wm wx ∧ Garb g
set_option maxHeartbeats 4000000 in
theorem version_clean (w : World) (B : Nat) (S : Nat → Prop) (sb bb : Nat) (V : StoV) (st : StoD) (N : Nat) (ln : Nm) (A : Option Addr) (n c : Nat) (sd : StD) (br : Bool) (hs : Sto w B S sb V st) (hB : B ≤ w.heap.size) (hf : st.Fit N) (hN : N ≤ 5000)
    (hbk : Blk w bb 102 #[ptr sb, str ln, .slice A n c, .int .i64 sd.log, .int .i64 sd.next, .bool br]) (hbS : ¬ S bb) (hn : n ≤ 1000000) (hF : ∀ W, Below w.heap.size w W → Files W W.heap.size A n sd.files) :
    Calls Tryz.prog 55 #[ptr bb] w (OpPost w B S sb (.int .i64 (cleanP sd ln st).1) (cleanP sd ln st).2) := by
  obtain ⟨w1, hw1⟩ : ∃ w1, w1 = w.alloc (.cells #[ptr bb] 43) := ⟨_, rfl⟩
  have hs1 : w1.heap.size = w.heap.size + 1 := by rw [hw1]; simp
  have hb1 : Below w.heap.size w w1 := by rw [hw1]; exact (Below.refl _ _).alloc (Nat.le_refl _) _
  have bp : Blk w1 w.heap.size 43 #[ptr bb] := by rw [hw1]; exact Blk.new w _ _
  have hbk1 := hbk.below hb1 hbk.lt
  have hst1 := hs.call hb1
  have hpS : ¬ S w.heap.size := fun e => by have := (hs.lt _ e).2; omega
  have hbl := hbk.lt
  have HN := hide (store_names w1 B S sb V st hst1 hf.ok.nowR (Nat.le_trans hf.nn (by unfold lim; omega)))
  have HFM := hide hf
  have HBK := hide hbk1
  have HS1 := hide hst1
  have HFI := hide hF
  have HS0 := hide hs
  have HB1 := hide hb1
  have HBP := hide bp
  have HW1 := hide hw1
  have hcpw : (w.alloc (.cells #[ptr bb] 43)).cell? ⟨w.heap.size, 0, none⟩ = some (ptr bb) := by rw [← hw1]; exact bp.cell 0
  have hcbw : (w.alloc (.cells #[ptr bb] 43)).cell? ⟨bb, 0, none⟩ = some (ptr sb) := by rw [← hw1]; exact hbk1.cell 0
  rw [hw1] at HN
  clear hbk hbk1 hst1 hs hF hf hb1 hw1 bp
  go_enter Tryz.func55, Tryz.ntmps55
  go_wp2_with fail
  refine (unhide HN).mono ?_
  rintro e w2 ⟨A1, n1, c1, rfl, hrow, hlen, hle, hb2⟩
  rw [← HW1.out] at hb2
  have hnm : st.names.length ≤ 5000 := by show (st.now.map _).length ≤ _; rw [List.length_map]; exact Nat.le_trans HFM.out.nn hN
  have hstr2 := strsT_of_own (base := (w.alloc (.cells #[ptr bb] 43)).heap.size) (c := c1) hrow
  have hn1 : n1 ≤ 5000 := by rw [hlen]; exact hnm
  have HB2 := hide hb2
  have HSTR2 := hide hstr2
  have HLEN := hide hlen
  have hst2 : Steps w2 w1.heap.size w.heap.size (.slice none 0 0) [] := ⟨World.ownsRow_nil _ _ _ _, fun x hx => by simp at hx⟩
  clear hrow hlen hb2 HN hcpw hcbw hstr2 hnm
  go_wp2
  go_loopw [3, 14, 41] (fun v i g41 wr => ∃ (k : Nat) (l : List (Nat × Nm)), Garb g41 ∧ k ≤ n1 ∧ i = .int .i64 k ∧ Steps wr w1.heap.size w.heap.size v l ∧ Below w1.heap.size w1 wr ∧ StrsT wr A1 n1 st.names ∧ l.map (·.2) = (st.names.take k).filter (goesP sd ln)) (fun _ i _ _ => n1 - (intOf i).toNat)
  case atStart => exact ⟨0, [], .inl rfl, Nat.zero_le _, rfl, hst2, HB2.out, HSTR2.out, rfl⟩
  case round =>
    obtain ⟨k, l, hgarb, hk, rfl, hstp, hb, hstr, hl⟩ := hrel
    have HGARB := hide hgarb
    clear hgarb
    have HSTP := hide hstp
    have HB := hide hb
    have HSTR := hide hstr
    have HL := hide hl
    have cpr : wr.cell? ⟨w.heap.size, 0, none⟩ = some (ptr bb) := (HBP.out.below hb (by omega)).cell 0
    have hbkr := HBK.out.below hb (by omega)
    have HBKR := hide hbkr
    have hplr : w.heap.size < wr.heap.size := by have := hb.size; omega
    have hblr : bb < wr.heap.size := by omega
    by_cases hlt : k < n1
    · obtain ⟨b, off, hx, rfl, hbl2, hc⟩ := hstr.1.at_ hlt
      have htk : Hid ((st.names.take (k + 1)).filter (goesP sd ln) = (st.names.take k).filter (goesP sd ln) ++ (if goesP sd ln st.names[k] = true then [st.names[k]] else [])) := by
        show _ = _
        rw [List.take_succ_eq_append_getElem hx, List.filter_append]
        congr 1
        simp [List.filter_cons]
      generalize st.names[k] = nm at hc htk
      obtain ⟨wa, hwa⟩ : ∃ wa, wa = wr.alloc (.cells #[str nm] 9) := ⟨_, rfl⟩
      have hba : Below wr.heap.size wr wa := by rw [hwa]; exact (Below.refl _ _).alloc (Nat.le_refl _) _
      have hbq : Blk wa wr.heap.size 9 #[str nm] := by rw [hwa]; exact Blk.new _ _ _
      have hsa : wa.heap.size = wr.heap.size + 1 := by rw [hwa]; simp
      have HNT := hide (version_numbered tabP nm wa)
      have HWA := hide hwa
      have HBA := hide hba
      have HBQ := hide hbq
      rw [hwa] at HNT
      clear hstp hb hstr hl hbkr hwa hba hbq hst2
      go_wp2_with fail
      refine (unhide HNT).mono ?_
      rintro e w5 ⟨rfl, hb5⟩
      rw [← HWA.out] at hb5
      have hbw5 : Below wr.heap.size wr w5 := HBA.out.trans (hb5.mono (by omega))
      have hsz5 := hb5.size
      obtain ⟨w6, hw6⟩ : ∃ w6, w6 = w5.alloc (.cells #[.int .i64 (numP tabP nm)] 3) := ⟨_, rfl⟩
      have hb6 : Below w5.heap.size w5 w6 := by rw [hw6]; exact (Below.refl _ _).alloc (Nat.le_refl _) _
      have hs6 : w6.heap.size = w5.heap.size + 1 := by rw [hw6]; simp
      have hbr : Blk w6 w5.heap.size 3 #[.int .i64 (numP tabP nm)] := by rw [hw6]; exact Blk.new _ _ _
      have hbw6 : Below wr.heap.size wr w6 := hbw5.trans (hb6.mono (by omega))
      have cp6 : w6.cell? ⟨w.heap.size, 0, none⟩ = some (ptr bb) := (hbw6.cell (p := ⟨w.heap.size, 0, none⟩) hplr).trans cpr
      have hbk6 := HBKR.out.below hbw6 hblr
      have hbq6 := (HBQ.out.below hb5 (by omega)).below hb6 (by omega)
      have hbw : Below w.heap.size w w6 := HB1.out.trans ((HB.out.mono (by omega)).trans (hbw6.mono (by omega)))
      have HCF := hide (containsFunc_files 116 #[ptr w5.heap.size] (enters_of Tryz.func116 (by kernel_rfl) rfl) (fun f => decide (f.number = numP tabP nm)) A n c sd.files w6 (by omega) (HFI.out _ hbw) (clean_1 w6 w5.heap.size (numP tabP nm) hbr))
      have cp6' : (w5.alloc (.cells #[.int .i64 (numP tabP nm)] 3)).cell? ⟨w.heap.size, 0, none⟩ = some (ptr bb) := by rw [← hw6]; exact cp6
      have c26 : (w5.alloc (.cells #[.int .i64 (numP tabP nm)] 3)).cell? ⟨bb, 2, none⟩ = some (.slice A n c) := by rw [← hw6]; exact hbk6.cell 2
      have cq5 : w5.cell? ⟨wr.heap.size, 0, none⟩ = some (str nm) := (HBQ.out.below hb5 (by omega)).cell 0
      have hp5 : w.heap.size < w5.heap.size := by omega
      have hbb5 : bb < w5.heap.size := by omega
      rw [hw6] at HCF
      have HW6 := hide hw6
      have HBW6 := hide hbw6
      have HBR := hide hbr
      have HBK6 := hide hbk6
      have HBQ6 := hide hbq6
      have HLV : Hid ((sd.files.any fun f => decide (f.number = numP tabP nm)) = liveP sd (numP tabP nm)) := rfl
      generalize hlv : (sd.files.any fun f => decide (f.number = numP tabP nm)) = lv at HCF HLV
      clear hb5 hbw5 hw6 hb6 hbr hbw6 hbk6 hbq6 hbw HNT hlv cq5
      go_wp2_with fail
      refine (unhide HCF).mono ?_
      rintro e w7 ⟨rfl, hb7⟩
      rw [← HW6.out] at hb7
      have HB7 := hide hb7
      have cp7 : w7.cell? ⟨w.heap.size, 0, none⟩ = some (ptr bb) := (hb7.cell (p := ⟨w.heap.size, 0, none⟩) (by show w.heap.size < _; omega)).trans cp6
      have hbk7 := HBK6.out.below hb7 (by omega)
      have c71 : w7.cell? ⟨bb, 1, none⟩ = some (str ln) := hbk7.cell 1
      have cq7 : w7.cell? ⟨wr.heap.size, 0, none⟩ = some (str nm) := (HBQ6.out.below hb7 (by omega)).cell 0
      have cr7 : w7.cell? ⟨w5.heap.size, 0, none⟩ = some (.int .i64 (numP tabP nm)) := (HBR.out.below hb7 (by omega)).cell 0
      have hs7 := hb7.size
      clear HCF cp6' c26 hb7 hbk7 cp6 cpr
      go_upto_region 7 with fail
      go_cut [41, 45] (fun g s wx => TestRel w7 wx (goesP sd ln nm) g s)
      case first =>
        have HNM := hide (fun W => version_numbered manP nm W)
        have HG : Hid (goesP sd ln nm = ((decide (0 < numP manP nm) && !(nm == ln)) || (decide (0 < numP tabP nm) && !lv))) := by show _ = _; rw [HLV.out]; rfl
        generalize numP manP nm = mn at HNM HG
        generalize numP tabP nm = tn at *
        obtain ⟨dm, hdm⟩ : ∃ b, decide (0 < mn) = b := ⟨_, rfl⟩
        obtain ⟨dn, hdn⟩ : ∃ b, (nm == ln) = b := ⟨_, rfl⟩
        obtain ⟨dt, hdt⟩ : ∃ b, decide (0 < tn) = b := ⟨_, rfl⟩
        have e := HG.out
        rw [hdm, hdn, hdt] at e
        have hg := HGARB.out
        have hun : ∀ b : Bool, ¬ (undef = Value.bool b) := fun b h => by cases h
        have HE : Hid (goesP sd ln nm = ((dm && !dn) || (dt && !lv))) := e
        have HDM := hide hdm
        have HDN := hide hdn
        have HDT := hide hdt
        clear e HG hdm hdn hdt
        rcases dm with _ | _
        case' true => rcases dn with _ | _
        case' true.false =>
          rcases hg with rfl | rfl | rfl
        case' true.true => rcases dt with _ | _; clear hg
        case' false => rcases dt with _ | _; clear hg
        case' true.true.true => rcases lv with _ | _
        case' false.true => rcases lv with _ | _
        all_goals
          refine wp_region_held_drew (S := fun v => v.cell? ⟨w.heap.size, 0, none⟩ = some (ptr bb) ∧ v.cell? ⟨bb, 1, none⟩ = some (str ln) ∧ v.cell? ⟨wr.heap.size, 0, none⟩ = some (str nm) ∧ v.cell? ⟨w5.heap.size, 0, none⟩ = some (.int .i64 tn)) (by kernel_rfl) ⟨cp7, c71, cq7, cr7⟩ (fun hHeld => ?_)
          (first
            | (refine wpAnyH_take (i := 0) (oi := op7_0) (v := undef) rfl (by kernel_rfl) (by kernel_rfl) (by kernel_rfl) (fun _ _ _ h => h) (Or.inr ⟨by rfl, rfl⟩) (by assumption) ?_)
            | (refine wpAnyH_take (i := 0) (oi := op7_0) (v := ?_) rfl (by kernel_rfl) (by kernel_rfl) (by kernel_rfl) (fun _ _ _ h => h) (Or.inl ⟨by rfl, ?_⟩) (by assumption) ?_
               rotate_left
               · (intro w hSw; (try dsimp only at hSw); go_simp; first | done | (with_reducible rfl))))
          (try simp only [Act.put, List.setIfInBounds_toArray, List.set_cons_zero, List.set_cons_succ])
          refine wpAnyH_ready (rs := [1]) (by kernel_rfl) (by simp) ?_
          refine AllReadyH.cons rfl (fun K hK => ?_) AllReadyH.nil
          go_simp
          go_wp2_with (go_at_call 51; refine (HNM.out _).mono ?_; rintro e w8 ⟨rfl, hb8⟩; have HB8 := hide hb8; have cp8 : w8.cell? ⟨w.heap.size, 0, none⟩ = some (ptr bb) := (hb8.cell (p := ⟨w.heap.size, 0, none⟩) (by show w.heap.size < w7.heap.size; omega)).trans cp7; have c81 : w8.cell? ⟨bb, 1, none⟩ = some (str ln) := (hb8.cell (p := ⟨bb, 1, none⟩) (by show bb < w7.heap.size; omega)).trans c71; have cq8 : w8.cell? ⟨wr.heap.size, 0, none⟩ = some (str nm) := (hb8.cell (p := ⟨wr.heap.size, 0, none⟩) (by show wr.heap.size < w7.heap.size; omega)).trans cq7; have cr8 : w8.cell? ⟨w5.heap.size, 0, none⟩ = some (.int .i64 tn) := (hb8.cell (p := ⟨w5.heap.size, 0, none⟩) (by show w5.heap.size < w7.heap.size; omega)).trans cr7)
          refine hK.out _ _ ⟨cp8, c81, cq8, cr8⟩ (fun hHeld8 => ?_)
          clear hK K hHeld
          (first
            | (refine wpAnyH_take (i := 2) (oi := op7_2) (v := undef) rfl (by kernel_rfl) (by kernel_rfl) (by kernel_rfl) (fun _ _ _ h => h) (Or.inr ⟨by rfl, rfl⟩) (by assumption) ?_)
            | (refine wpAnyH_take (i := 2) (oi := op7_2) (v := ?_) rfl (by kernel_rfl) (by kernel_rfl) (by kernel_rfl) (fun _ _ _ h => h) (Or.inl ⟨by rfl, ?_⟩) (by assumption) ?_
               rotate_left
               · (intro w hSw; (try dsimp only at hSw); go_simp; first | done | (with_reducible rfl))))
          (try simp only [Act.put, List.setIfInBounds_toArray, List.set_cons_zero, List.set_cons_succ, HDM.out])
          (first
            | (refine wpAnyH_take (i := 3) (oi := op7_3) (v := undef) rfl (by kernel_rfl) (by kernel_rfl) (by kernel_rfl) (fun _ _ _ h => h) (Or.inr ⟨by rfl, rfl⟩) (by assumption) ?_)
            | (refine wpAnyH_take (i := 3) (oi := op7_3) (v := ?_) rfl (by kernel_rfl) (by kernel_rfl) (by kernel_rfl) (fun _ _ _ h => h) (Or.inl ⟨by rfl, ?_⟩) (by assumption) ?_
               rotate_left
               · (intro w hSw; (try dsimp only at hSw); go_simp; first | done | (with_reducible rfl))))
          (try simp only [Act.put, List.setIfInBounds_toArray, List.set_cons_zero, List.set_cons_succ])
          (first
            | (refine wpAnyH_take (i := 4) (oi := op7_4) (v := undef) rfl (by kernel_rfl) (by kernel_rfl) (by kernel_rfl) (fun _ _ _ h => h) (Or.inr ⟨by rfl, rfl⟩) (by assumption) ?_)
            | (refine wpAnyH_take (i := 4) (oi := op7_4) (v := ?_) rfl (by kernel_rfl) (by kernel_rfl) (by kernel_rfl) (fun _ _ _ h => h) (Or.inl ⟨by rfl, ?_⟩) (by assumption) ?_
               rotate_left
               · (intro w hSw; (try dsimp only at hSw); go_simp; first | done | (with_reducible rfl))))
          (try simp only [Act.put, List.setIfInBounds_toArray, List.set_cons_zero, List.set_cons_succ])
          (first
            | (refine wpAnyH_take (i := 5) (oi := op7_5) (v := undef) rfl (by kernel_rfl) (by kernel_rfl) (by kernel_rfl) (fun _ _ _ h => h) (Or.inr ⟨by rfl, rfl⟩) (by assumption) ?_)
            | (refine wpAnyH_take (i := 5) (oi := op7_5) (v := ?_) rfl (by kernel_rfl) (by kernel_rfl) (by kernel_rfl) (fun _ _ _ h => h) (Or.inl ⟨by rfl, ?_⟩) (by assumption) ?_
               rotate_left
               · (intro w hSw; (try dsimp only at hSw); go_simp; first | done | (with_reducible rfl))))
          (try simp only [Act.put, List.setIfInBounds_toArray, List.set_cons_zero, List.set_cons_succ])
          (first
            | (refine wpAnyH_take (i := 6) (oi := op7_6) (v := undef) rfl (by kernel_rfl) (by kernel_rfl) (by kernel_rfl) (fun _ _ _ h => h) (Or.inr ⟨by rfl, rfl⟩) (by assumption) ?_)
            | (refine wpAnyH_take (i := 6) (oi := op7_6) (v := ?_) rfl (by kernel_rfl) (by kernel_rfl) (by kernel_rfl) (fun _ _ _ h => h) (Or.inl ⟨by rfl, ?_⟩) (by assumption) ?_
               rotate_left
               · (intro w hSw; (try dsimp only at hSw); go_simp; first | done | (with_reducible rfl))))
          (try simp only [Act.put, List.setIfInBounds_toArray, List.set_cons_zero, List.set_cons_succ])
          (first
            | (refine wpAnyH_take (i := 7) (oi := op7_7) (v := undef) rfl (by kernel_rfl) (by kernel_rfl) (by kernel_rfl) (fun _ _ _ h => h) (Or.inr ⟨by rfl, rfl⟩) (by assumption) ?_)
            | (refine wpAnyH_take (i := 7) (oi := op7_7) (v := ?_) rfl (by kernel_rfl) (by kernel_rfl) (by kernel_rfl) (fun _ _ _ h => h) (Or.inl ⟨by rfl, ?_⟩) (by assumption) ?_
               rotate_left
               · (intro w hSw; (try dsimp only at hSw); go_simp; first | done | (with_reducible rfl))))
          (try simp only [Act.put, List.setIfInBounds_toArray, List.set_cons_zero, List.set_cons_succ])
          (first
            | (refine wpAnyH_take (i := 8) (oi := op7_8) (v := undef) rfl (by kernel_rfl) (by kernel_rfl) (by kernel_rfl) (fun _ _ _ h => h) (Or.inr ⟨by rfl, rfl⟩) (by assumption) ?_)
            | (refine wpAnyH_take (i := 8) (oi := op7_8) (v := ?_) rfl (by kernel_rfl) (by kernel_rfl) (by kernel_rfl) (fun _ _ _ h => h) (Or.inl ⟨by rfl, ?_⟩) (by assumption) ?_
               rotate_left
               · (intro w hSw; (try dsimp only at hSw); go_simp; first | done | (with_reducible rfl))))
          (try simp only [Act.put, List.setIfInBounds_toArray, List.set_cons_zero, List.set_cons_succ])
          (first
            | (refine wpAnyH_take (i := 9) (oi := op7_9) (v := undef) rfl (by kernel_rfl) (by kernel_rfl) (by kernel_rfl) (fun _ _ _ h => h) (Or.inr ⟨by rfl, rfl⟩) (by assumption) ?_)
            | (refine wpAnyH_take (i := 9) (oi := op7_9) (v := ?_) rfl (by kernel_rfl) (by kernel_rfl) (by kernel_rfl) (fun _ _ _ h => h) (Or.inl ⟨by rfl, ?_⟩) (by assumption) ?_
               rotate_left
               · (intro w hSw; (try dsimp only at hSw); go_simp; first | done | (with_reducible rfl))))
          (try simp only [Act.put, List.setIfInBounds_toArray, List.set_cons_zero, List.set_cons_succ, HDN.out, Bool.not_false, Bool.not_true])
          (first
            | (refine wpAnyH_take (i := 10) (oi := op7_10) (v := undef) rfl (by kernel_rfl) (by kernel_rfl) (by kernel_rfl) (fun _ _ _ h => h) (Or.inr ⟨by rfl, rfl⟩) (by assumption) ?_)
            | (refine wpAnyH_take (i := 10) (oi := op7_10) (v := ?_) rfl (by kernel_rfl) (by kernel_rfl) (by kernel_rfl) (fun _ _ _ h => h) (Or.inl ⟨by rfl, ?_⟩) (by assumption) ?_
               rotate_left
               · (intro w hSw; (try dsimp only at hSw); go_simp; first | done | (with_reducible rfl))))
          (try simp only [Act.put, List.setIfInBounds_toArray, List.set_cons_zero, List.set_cons_succ])
          (first
            | (refine wpAnyH_take (i := 11) (oi := op7_11) (v := undef) rfl (by kernel_rfl) (by kernel_rfl) (by kernel_rfl) (fun _ _ _ h => h) (Or.inr ⟨by rfl, rfl⟩) (by assumption) ?_)
            | (refine wpAnyH_take (i := 11) (oi := op7_11) (v := ?_) rfl (by kernel_rfl) (by kernel_rfl) (by kernel_rfl) (fun _ _ _ h => h) (Or.inl ⟨by rfl, ?_⟩) (by assumption) ?_
               rotate_left
               · (intro w hSw; (try dsimp only at hSw); go_simp; first | done | (with_reducible rfl))))
          (try simp only [Act.put, List.setIfInBounds_toArray, List.set_cons_zero, List.set_cons_succ])
          (first
            | (refine wpAnyH_take (i := 12) (oi := op7_12) (v := undef) rfl (by kernel_rfl) (by kernel_rfl) (by kernel_rfl) (fun _ _ _ h => h) (Or.inr ⟨by rfl, rfl⟩) (by assumption) ?_)
            | (refine wpAnyH_take (i := 12) (oi := op7_12) (v := ?_) rfl (by kernel_rfl) (by kernel_rfl) (by kernel_rfl) (fun _ _ _ h => h) (Or.inl ⟨by rfl, ?_⟩) (by assumption) ?_
               rotate_left
               · (intro w hSw; (try dsimp only at hSw); go_simp; first | done | (with_reducible rfl))))
          (try simp only [Act.put, List.setIfInBounds_toArray, List.set_cons_zero, List.set_cons_succ])
          (first
            | (refine wpAnyH_take (i := 13) (oi := op7_13) (v := undef) rfl (by kernel_rfl) (by kernel_rfl) (by kernel_rfl) (fun _ _ _ h => h) (Or.inr ⟨by rfl, rfl⟩) (by assumption) ?_)
            | (refine wpAnyH_take (i := 13) (oi := op7_13) (v := ?_) rfl (by kernel_rfl) (by kernel_rfl) (by kernel_rfl) (fun _ _ _ h => h) (Or.inl ⟨by rfl, ?_⟩) (by assumption) ?_
               rotate_left
               · (intro w hSw; (try dsimp only at hSw); go_simp; first | done | (with_reducible rfl))))
          (try simp only [Act.put, List.setIfInBounds_toArray, List.set_cons_zero, List.set_cons_succ, HDT.out])
          (first
            | (refine wpAnyH_take (i := 14) (oi := op7_14) (v := undef) rfl (by kernel_rfl) (by kernel_rfl) (by kernel_rfl) (fun _ _ _ h => h) (Or.inr ⟨by rfl, rfl⟩) (by assumption) ?_)
            | (refine wpAnyH_take (i := 14) (oi := op7_14) (v := ?_) rfl (by kernel_rfl) (by kernel_rfl) (by kernel_rfl) (fun _ _ _ h => h) (Or.inl ⟨by rfl, ?_⟩) (by assumption) ?_
               rotate_left
               · (intro w hSw; (try dsimp only at hSw); go_simp; first | done | (with_reducible rfl))))
          (try simp only [Act.put, List.setIfInBounds_toArray, List.set_cons_zero, List.set_cons_succ])
          (first
            | (refine wpAnyH_take (i := 15) (oi := op7_15) (v := undef) rfl (by kernel_rfl) (by kernel_rfl) (by kernel_rfl) (fun _ _ _ h => h) (Or.inr ⟨by rfl, rfl⟩) (by assumption) ?_)
            | (refine wpAnyH_take (i := 15) (oi := op7_15) (v := ?_) rfl (by kernel_rfl) (by kernel_rfl) (by kernel_rfl) (fun _ _ _ h => h) (Or.inl ⟨by rfl, ?_⟩) (by assumption) ?_
               rotate_left
               · (intro w hSw; (try dsimp only at hSw); go_simp; first | done | (with_reducible rfl))))
          (try simp only [Act.put, List.setIfInBounds_toArray, List.set_cons_zero, List.set_cons_succ])
          (first
            | (refine wpAnyH_take (i := 16) (oi := op7_16) (v := undef) rfl (by kernel_rfl) (by kernel_rfl) (by kernel_rfl) (fun _ _ _ h => h) (Or.inr ⟨by rfl, rfl⟩) (by assumption) ?_)
            | (refine wpAnyH_take (i := 16) (oi := op7_16) (v := ?_) rfl (by kernel_rfl) (by kernel_rfl) (by kernel_rfl) (fun _ _ _ h => h) (Or.inl ⟨by rfl, ?_⟩) (by assumption) ?_
               rotate_left
               · (intro w hSw; (try dsimp only at hSw); go_simp; first | done | (with_reducible rfl))))
          (try simp only [Act.put, List.setIfInBounds_toArray, List.set_cons_zero, List.set_cons_succ])
          (first
            | (refine wpAnyH_take (i := 17) (oi := op7_17) (v := undef) rfl (by kernel_rfl) (by kernel_rfl) (by kernel_rfl) (fun _ _ _ h => h) (Or.inr ⟨by rfl, rfl⟩) (by assumption) ?_)
            | (refine wpAnyH_take (i := 17) (oi := op7_17) (v := ?_) rfl (by kernel_rfl) (by kernel_rfl) (by kernel_rfl) (fun _ _ _ h => h) (Or.inl ⟨by rfl, ?_⟩) (by assumption) ?_
               rotate_left
               · (intro w hSw; (try dsimp only at hSw); go_simp; first | done | (with_reducible rfl))))
          (try simp only [Act.put, List.setIfInBounds_toArray, List.set_cons_zero, List.set_cons_succ])
          (first
            | (refine wpAnyH_take (i := 18) (oi := op7_18) (v := undef) rfl (by kernel_rfl) (by kernel_rfl) (by kernel_rfl) (fun _ _ _ h => h) (Or.inr ⟨by rfl, rfl⟩) (by assumption) ?_)
            | (refine wpAnyH_take (i := 18) (oi := op7_18) (v := ?_) rfl (by kernel_rfl) (by kernel_rfl) (by kernel_rfl) (fun _ _ _ h => h) (Or.inl ⟨by rfl, ?_⟩) (by assumption) ?_
               rotate_left
               · (intro w hSw; (try dsimp only at hSw); go_simp; first | done | (with_reducible rfl))))
          (try simp only [Act.put, List.setIfInBounds_toArray, List.set_cons_zero, List.set_cons_succ])
          refine wpAnyH_done (by kernel_rfl) ?_ _
        all_goals go_wp2
        all_goals go_meet
        all_goals exact ⟨by rw [HE.out]; rfl, ((Below.refl _ _).drew).trans HB8.out, by first | exact .inl rfl | exact .inr (.inl rfl) | exact .inr (.inr rfl)⟩
      case rest =>
        obtain ⟨rfl, hbc, hgc⟩ := hcut
        have hbrc : Below wr.heap.size wr wc := HBW6.out.trans ((HB7.out.mono (by have := HBW6.out.size; omega)).trans (hbc.mono (by have := HBW6.out.size; omega)))
        have HBC := hide hbrc
        have HGC := hide hgc
        have hbqc := hide (((HBQ6.out.below HB7.out (by have := HBQ6.out.lt; omega)).below hbc (by have := HBQ6.out.lt; omega)))
        have hstpc := HSTP.out.call hbrc
        have hstrc := hide (HSTR.out.call hbrc)
        have hwwc : Below w1.heap.size w1 wc := HB.out.trans (hbrc.mono (by have := HB.out.size; omega))
        have HWWC := hide hwwc
        have hll : l.length ≤ 5000 := by
          have h1 := congrArg List.length HL.out
          rw [List.length_map] at h1
          have h2 := List.length_filter_le (goesP sd ln) (st.names.take k)
          have h3 := List.length_take_le k st.names
          omega
        clear hbc hgc hbrc hwwc
        generalize hgb : goesP sd ln nm = gb at htk
        have HGB := hide hgb
        clear hgb
        rcases gb with _ | _
        case false =>
          have HST2 := hide hstpc
          clear hstpc
          go_wp2
          go_roundw
          case rel => exact ⟨k + 1, l, HGC.out, by omega, by go_num, HST2.out, HWWC.out, hstrc.out, by rw [htk.out, HL.out]; simp⟩
          case measure => simp [intOf]; omega
        case true =>
          obtain ⟨i0, hi, hz0, hz1, hz2⟩ := info_parts info_vfun
          have HI := hide hi
          have HZ0 := hide hz0
          have HZ1 := hide hz1
          have HZ2 := hide hz2
          have hrow := hstpc.row
          have HST2 := hide hstpc
          clear hi hz0 hz1 hz2 hstpc
          have hwsz : w1.heap.size ≤ wc.heap.size := by have := HWWC.out.size; omega
          go_wp2_with (refine wpList_append_any _ rfl _ _ 161 rfl w1.heap.size 108 i0 .nilFunc 1 8 Tryz.underlying161 (unhide HI) (unhide HZ0) (unhide HZ1) (unhide HZ2) rfl (by decide) u3 l.length (l.map fun x => (rmFn w.heap.size x).val) rfl (hrow.alloc _) (wc.heap.size + 1) (some ⟨wc.heap.size, 0, none⟩) 1 1 [(rmFn w.heap.size (wr.heap.size, nm)).val] rfl (Reads.new wc [(rmFn w.heap.size (wr.heap.size, nm)).val] 108 _ (by omega)) (by intro u hu; simp only [List.mem_singleton] at hu; subst hu; rfl) (by unfold maxLen; omega) (by omega) (by simp; omega) ?_; intro v9 w9 hrow9 hg9 hv9)
          have hst9 := (HST2.out.alloc' (.cells #[(rmFn w.heap.size (wr.heap.size, nm)).val] 108)).push (hbqc.out.alloc _) (by omega) hrow9 hg9
          have HST9 := hide hst9
          have hw9 : Below w1.heap.size w1 w9 := (HWWC.out.alloc hwsz (.cells #[(rmFn w.heap.size (wr.heap.size, nm)).val] 108)).grown hg9 (by simp; omega) (fun g hg => (World.ownsRow.lt hrow g hg).1)
          have hs9 : StrsT w9 (some ⟨b, off, none⟩) n1 st.names := (hstrc.out.call ((Below.refl _ _).alloc (Nat.le_refl _) (.cells #[(rmFn w.heap.size (wr.heap.size, nm)).val] 108))).grown hg9 (hrow.alloc _) (by decide)
          have HW9 := hide hw9
          have HS9 := hide hs9
          clear hst9 hw9 hs9 hg9 hv9 hrow9 hrow
          go_wp2
          go_roundw
          case rel => exact ⟨k + 1, l ++ [(wr.heap.size, nm)], HGC.out, by omega, by go_num, HST9.out, HW9.out, HS9.out, by rw [htk.out, List.map_append, HL.out]; simp⟩
          case measure => simp [intOf]; omega
    · have hfull : st.names.take k = st.names := List.take_of_length_le (by have := HLEN.out; omega)
      rw [hfull] at hl
      have hcl : Hid (cleanP sd ln st = seqP (cleanOps (l.map (·.2))) st) := by show _ = _; rw [cleanP, hl]
      have hstr1 := HS1.out.call hb
      have hbw : Below w.heap.size w wr := HB1.out.trans (hb.mono (by omega))
      have hsS : ∀ k, S k → k < w1.heap.size := fun k hk => by have := (HS0.out.lt k hk).2; omega
      have HBW := hide hbw
      clear hfull hl hstr hb hst2
      by_cases hl0 : l = []
      · subst hl0
        have hrow := hstp.row
        obtain ⟨A', c', e | e⟩ := ownsRow_shape hrow
        · obtain ⟨rfl, _⟩ := e
          have HA := hide (version_all A' 0 c' [] wr (fun z W => OpPost w B S sb (.int .i64 (cleanP sd ln st).1) (cleanP sd ln st).2 (.returned (.int .i64 z)) W) rfl (by omega) (fun h => absurd h (by omega)) (by
            show OpPost _ _ _ _ _ _ _ _
            rw [hcl.out]
            exact OpInv.post HBW.out (OpInv.start hstr1)))
          clear hstp hrow hstr1 hbw hcl hsS
          go_wp2_with (go_at_call 53; refine (unhide HA).mono ?_; rintro e w9 ⟨z, rfl, hq⟩; have HQ := hide hq; clear hq)
          go_ret
          exact HQ.out
        · obtain ⟨rfl, _⟩ := e
          have HA := hide (version_all none 0 0 [] wr (fun z W => OpPost w B S sb (.int .i64 (cleanP sd ln st).1) (cleanP sd ln st).2 (.returned (.int .i64 z)) W) rfl (by omega) (fun h => absurd h (by omega)) (by
            show OpPost _ _ _ _ _ _ _ _
            rw [hcl.out]
            exact OpInv.post HBW.out (OpInv.start hstr1)))
          clear hstp hrow hstr1 hbw hcl hsS
          go_wp2_with (go_at_call 53; refine (unhide HA).mono ?_; rintro e w9 ⟨z, rfl, hq⟩; have HQ := hide hq; clear hq)
          go_ret
          exact HQ.out
      · have hpos : 0 < l.length := List.length_pos_iff.2 hl0
        have hrow := hstp.row
        have hll : l.length ≤ 5000 := by
          have h1 := congrArg List.length HL.out
          rw [List.length_map] at h1
          have h2 := List.length_filter_le (goesP sd ln) (st.names.take k)
          have h3 := List.length_take_le k st.names
          omega
        obtain ⟨g, cap, hu, hgb, _⟩ := hrow.form hpos
        subst hu
        obtain ⟨i0, hi, hz0, hz1, hz2⟩ := info_parts info_vfun
        have HI := hide hi
        have HZ0 := hide hz0
        have HZ1 := hide hz1
        have HZ2 := hide hz2
        have hb0r : wr.cell? ⟨bb, 0, none⟩ = some (ptr sb) := hbkr.cell 0
        have HSTR1 := hide hstr1
        have HCL := hide hcl.out
        have HSS := hide hsS
        have hwsz : w1.heap.size ≤ wr.heap.size := HB.out.size
        clear hi hz0 hz1 hz2 hstr1 hbw hcl hsS hstp
        go_wp2_with (refine wpList_append_any _ rfl _ _ 161 rfl w1.heap.size 108 i0 .nilFunc 1 8 Tryz.underlying161 (unhide HI) (unhide HZ0) (unhide HZ1) (unhide HZ2) rfl (by decide) (.slice (some ⟨g, 0, none⟩) l.length cap) l.length (l.map fun x => (rmFn w.heap.size x).val) rfl (hrow.alloc _) (wr.heap.size + 1) (some ⟨wr.heap.size, 0, none⟩) 1 1 [(syFn sb).val] rfl (Reads.new wr [(syFn sb).val] 108 _ (by omega)) (by intro u hu; simp only [List.mem_singleton] at hu; subst hu; rfl) (by unfold maxLen; omega) (by omega) (by simp; omega) ?_; intro v9 w9 hrow9 hg9 hv9; obtain ⟨g9, cap9, rfl⟩ := own_succ hrow9)
        have hg9' := HSTP.out.boxes' hg9
        have hb9 : Below w1.heap.size w1 w9 := (HB.out.alloc hwsz (.cells #[(syFn sb).val] 108)).grown hg9 (by simp; omega) (fun g hg => (World.ownsRow.lt hrow g hg).1)
        have hbw9 : Below w.heap.size w w9 := HB1.out.trans (hb9.mono (by omega))
        have hs9 := hb9.size
        have hbp9 : Blk w9 w.heap.size 43 #[ptr bb] := HBP.out.below hb9 (by omega)
        have hbk9 := HBK.out.below hb9 (by omega)
        have hsto9 := HS1.out.call hb9
        have hfs : ∃ fs, fs = l.map (rmFn w.heap.size) ++ [syFn sb] := ⟨_, rfl⟩
        obtain ⟨fs, hfs⟩ := hfs
        have hlen : fs.length = l.length + 1 := by rw [hfs]; simp
        have hall : DoesAll w9 B S sb N fs (cleanOps (l.map (·.2))) := by
          rw [hfs, cleanOps_map l hl0]
          exact doesAll_clean (by omega) (hbp9.cell 0) (by omega) hpS (hbk9.cell 0) (by omega) hbS l N (fun x hx => ⟨(hg9' x hx).1.cell 0, (hg9' x hx).1.lt, fun e => by have h1 := HSS.out _ e; have h2 := (hg9' x hx).2; omega⟩) (by omega) (doesAll_sync (by omega))
        have hrow9' : w9.ownsRow w1.heap.size 108 1 (.slice (some ⟨g9, 0, none⟩) (l.length + 1) cap9) (l.length + 1) (fs.map FnV.val) := by
          rw [hfs, List.map_append, List.map_map]; exact hrow9
        have HA := hide (version_all (some ⟨g9, 0, none⟩) (l.length + 1) cap9 fs w9 (fun z W => OpPost w B S sb (.int .i64 (cleanP sd ln st).1) (cleanP sd ln st).2 (.returned (.int .i64 z)) W) hlen (by omega) (fun _ => ⟨_, _, rfl⟩) (by
          have h1 := chain_does (Rd := Row (some ⟨g9, 0, none⟩) fs) (row_of_own hrow9' HSS.out) N fs _ w9 st hall (OpInv.start hsto9) HFM.out
          rw [HCL.out]
          exact chain_mono (fun z W ⟨hz, hi⟩ => by subst hz; exact OpInv.post hbw9 hi) fs w9 h1))
        clear hall hrow9 hrow9' hg9 hg9' hb9 hbw9 hbp9 hbk9 hsto9 hlen hfs hv9
        go_wp2_with (go_at_call 53; refine (unhide HA).mono ?_; rintro e wz ⟨z, rfl, hq⟩; have HQ := hide hq; clear hq)
        go_ret
        exact HQ.out
end Go.Proofs.YtgjmfncebbfniaaGreatDoor
