/- Package version: all; framed. -/
import Derived.Test.YtgjmfncebbfniaaGreatDoorStoE
import Derived.Test.YtgjmfncebbfniaaGreatDoorNumb
import Derived.Test.YtgjmfncebbfniaaGreatDoorEncode
namespace Go.Proofs.YtgjmfncebbfniaaGreatDoor
set_option maxRecDepth 100000
open Go Go.RowKit

/-- A function value: what it calls, what is bound, what is captured. -/
structure FnV where
  g : FuncId
  bd : Array Value
  cp : Array Value
def FnV.val (f : FnV) : Value := .func (.func f.g) f.bd f.cp
/-- One change behind the other, till one is not OK. -/
def Chain (Rd : World → Prop) : List FnV → World → (Int → World → Prop) → Prop
  | [], w, Q => Q 0 w
  | f :: r, w, Q => Rd w ∧ (∀ args w, (callFunc f.g args).run Tryz.prog w = .ok (.enter f.g args) w) ∧ Calls Tryz.prog f.g (f.bd ++ f.cp) w (IntPost fun z W => if z = 0 then Chain Rd r W Q else Q z W)
def Row (A : Option Addr) (fs : List FnV) (w : World) : Prop := ∀ b off, A = some ⟨b, off, none⟩ → ∀ (i : Nat) (f : FnV), fs[i]? = some f → w.cell? ⟨b, off + i, none⟩ = some f.val

set_option maxHeartbeats 1000000 in
theorem version_all (A : Option Addr) (n c : Nat) (fs : List FnV) (w : World) (Q : Int → World → Prop) (hn : fs.length = n) (hmax : n ≤ 9223372036854775807) (hA : 0 < n → ∃ b off, A = some ⟨b, off, none⟩) (hc : Chain (Row A fs) fs w Q) :
    Calls Tryz.prog 53 #[.slice A n c] w (IntPost Q) := by
  subst hn
  have HC := hide hc
  clear hc
  go_enter Tryz.func53, Tryz.ntmps53
  go_wp2
  go_loopw [8] (fun i wr => ∃ k : Nat, k ≤ fs.length ∧ i = .int .i64 k ∧ Hid (Chain (Row A fs) (fs.drop k) wr Q)) (fun i _ => fs.length - (intOf i).toNat)
  case atStart => exact ⟨0, Nat.zero_le _, rfl, by rw [List.drop_zero]; exact HC⟩
  case round =>
    obtain ⟨k, hk, rfl, hch⟩ := hrel
    by_cases hlt : k < fs.length
    · obtain ⟨b, off, rfl⟩ := hA (by omega)
      have hch2 := hch.out
      rw [List.drop_eq_getElem_cons hlt] at hch2
      obtain ⟨hrd, eg, hcall⟩ := hch2
      have hcell : wr.cell? ⟨b, off + k, none⟩ = some (.func (.func fs[k].g) fs[k].bd fs[k].cp) := hrd b off rfl k _ (List.getElem?_eq_getElem hlt)
      have HCALL := hide hcall
      clear hrd hcall hch
      generalize fs[k].g = g at *
      generalize fs[k].bd = bd at *
      generalize fs[k].cp = cp at *
      go_wp2_with fail
      refine (unhide HCALL).mono ?_
      rintro e w1 ⟨z, rfl, hq⟩
      by_cases hz : z = 0
      · rw [if_pos hz] at hq
        subst hz
        have HQ := hide hq
        clear hq HCALL
        go_wp2
        go_roundw
        case rel => exact ⟨k + 1, by omega, by go_num, HQ⟩
        case measure => simp [intOf]; omega
      · rw [if_neg hz] at hq
        have hne : (z != 0) = true := by simpa using hz
        have HQ := hide hq
        clear hq HCALL hz
        go_wp2
        go_ret
        exact ⟨z, rfl, HQ.out⟩
    · have hkn : k = fs.length := by omega
      have hch2 := hch.out
      rw [List.drop_of_length_le (by omega)] at hch2
      have HQ := hide hch2
      clear hch hch2 hkn
      go_wp2
      go_ret
      exact ⟨0, rfl, HQ.out⟩

/-- The bytes of an edit's frame, if it is not too long. -/
def framedP (ed : EditD) : Option (List UInt8) := if 65536 < (if okEdit ed = true then encEdit ed else []).length then none else some (frameP 69 (if okEdit ed = true then encEdit ed else []))
def FramedPost (w : World) (r : Option (List UInt8)) (e : Ending) (W : World) : Prop := Below w.heap.size w W ∧ match r with
  | none => e = .returned (.tuple #[.slice none 0 0, .int .i64 2])
  | some xs => ∃ v, e = .returned (.tuple #[v, .int .i64 0]) ∧ OwnB W w.heap.size v xs
theorem encEdit_len (ed : EditD) (h : okEdit ed = true) : (encEdit ed).length ≤ 200000 := by
  have h' := okEdit_iff.1 h
  obtain ⟨h1, h2, h3, h4, h5, h6, h7, h8⟩ := h'
  have a1 := encInts_len [(ed.add.length : Int)] (small_one (by omega))
  have a2 := encFiles_len ed.add h7
  have a3 := encInts_len [(ed.drop.length : Int)] (small_one (by omega))
  have a4 := encInts_len ed.drop (fun z hz => by have := h8 z hz; unfold Small; omega)
  have a5 := encInts_len [ed.log, ed.next] (small_two ⟨h3, h4⟩ ⟨h5, h6⟩)
  simp only [List.length_cons, List.length_nil] at a1 a3 a5
  unfold encEdit
  simp only [List.length_append]
  omega
set_option maxHeartbeats 1000000 in
theorem version_framed (ed : EditD) (A A' : Option Addr) (n c n' c' : Nat) (w : World) (hn : n ≤ 9223372036854775807) (hn' : n' ≤ 9223372036854775807) (hF : Files w w.heap.size A n ed.add) (hI : Ints w w.heap.size A' n' ed.drop) :
    Calls Tryz.prog 76 #[.agg #[.slice A n c, .slice A' n' c', .int .i64 ed.log, .int .i64 ed.next]] w (FramedPost w (framedP ed)) := by
  obtain ⟨W0, hW0⟩ : ∃ W0 : World, W0 = w.alloc (Obj.cells #[Value.slice A n c, Value.slice A' n' c', Value.int .i64 ed.log, Value.int .i64 ed.next] 25) := ⟨_, rfl⟩
  have hb0 : Below w.heap.size w W0 := by rw [hW0]; exact (Below.refl _ _).alloc (Nat.le_refl _) _
  have HE := hide (version_encode ed A A' n c n' c' W0 hn hn' (hF.lift hb0) (hI.lift hb0))
  have HB0 := hide hb0
  have hlen : (if okEdit ed = true then encEdit ed else []).length ≤ 200000 := by
    split
    · exact encEdit_len ed ‹_›
    · simp
  have HFP : Hid (framedP ed = if 65536 < (if okEdit ed = true then encEdit ed else []).length then none else some (frameP 69 (if okEdit ed = true then encEdit ed else []))) := rfl
  generalize hX : (if okEdit ed = true then encEdit ed else []) = X at hlen HFP
  have HX := hide hX
  rw [hW0] at HE HB0
  clear hb0 hF hI hn hn' hX hW0
  go_enter Tryz.func76, Tryz.ntmps76
  go_wp2_with fail
  refine (unhide HE).mono ?_
  rintro e w1 ⟨hb1, v1, hown1, rfl⟩
  rw [HX.out] at hown1
  generalize (if okEdit ed = true then (0 : Int) else 1) = ec
  obtain ⟨A1, n1, c1, rfl, hn1, hc1, hr1⟩ := hown1.form2
  have hn1l : n1 ≤ 200000 := by rw [hn1.out]; exact hlen
  have HP := hide (frame_put 69 A1 n1 c1 X w1 (by unfold lim; omega) hr1)
  have HB1 := hide hb1
  clear hown1 hr1 HE hb1
  have h69 : (((69 : UInt8).toNat : Nat) : Int) = 69 := rfl
  rw [h69] at HP
  go_wp2_with fail
  refine (unhide HP).mono ?_
  rintro e w2 ⟨hb2, hres⟩
  have HB2 : Hid (Below w.heap.size w w2) := (HB0.out.trans (HB1.out.mono (by simp))).trans (hb2.mono (by have h8 := HB1.out.size; simp only [World.size_alloc] at h8; omega))
  have hs12 : Hid (w.heap.size ≤ w1.heap.size) := by have h8 := HB1.out.size; simp only [World.size_alloc] at h8; show _ ≤ _; omega
  clear hb2 HP
  by_cases hbig : 65536 < X.length
  · rw [if_pos hbig] at hres
    obtain rfl := hres
    have HR : Hid (framedP ed = none) := by show _ = _; rw [HFP.out, if_pos hbig]
    clear hbig hlen HFP
    go_wp2
    go_ret2
    rw [HR.out]
    exact ⟨HB2.out, rfl⟩
  · rw [if_neg hbig] at hres
    obtain ⟨v2, rfl, hown2⟩ := hres
    have HR : Hid (framedP ed = some (frameP 69 X)) := by show _ = _; rw [HFP.out, if_neg hbig]
    have HO := hide hown2
    clear hbig hlen HFP hown2
    go_wp2
    go_ret2
    rw [HR.out]
    exact ⟨HB2.out, v2, rfl, HO.out.less hs12.out⟩
end Go.Proofs.YtgjmfncebbfniaaGreatDoor
