/- The law VersionCodes. -/
import Derived.Test.YtgjmfncebbfniaaGreatDoorState
import Derived.Test.YtgjmfncebbfniaaGreatDoorFew
import Derived.Test.YtgjmfncebbfniaaGreatDoorName
import Derived.Test.YtgjmfncebbfniaaGreatDoorEncode
import Derived.Test.YtgjmfncebbfniaaGreatDoorDecodeB
import Derived.Test.YtgjmfncebbfniaaGreatDoorDecodeRB
namespace Go.Proofs.YtgjmfncebbfniaaGreatDoor
set_option maxRecDepth 100000
open Go Go.RowKit

def encB (ed : EditD) : List UInt8 := if okEdit ed then encEdit ed else []
def encE (ed : EditD) : Int := if okEdit ed then 0 else 1
def EncAns (w0 : World) (ed : EditD) (e : Ending) (w : World) : Prop :=
  Below w0.heap.size w0 w ∧ ∃ A n c, e = .returned (.tuple #[.slice A n c, .int .i64 (encE ed)]) ∧ Reads w w.heap.size 1 A n (BY (encB ed))
theorem EncPost.ans {w0 w : World} {ed : EditD} {e : Ending} (h : EncPost w0 ed e w) : EncAns w0 ed e w := by
  obtain ⟨hb, v, hv, he⟩ := h
  obtain ⟨A, n, c, e1, _, _, h2⟩ := OwnB.form2 hv
  subst e1
  exact ⟨hb, A, n, c, he, h2⟩
def decD (xs : List UInt8) : EditD := (decP xs).getD ⟨[], [], 0, 0⟩
def decE (xs : List UInt8) : Int := if (decP xs).isSome then 0 else 3
def DecAns (w : World) (xs : List UInt8) (e : Ending) (W : World) : Prop :=
  Below w.heap.size w W ∧ ∃ A n c A' n' c', e = .returned (.tuple #[.agg #[.slice A n c, .slice A' n' c', .int .i64 (decD xs).log, .int .i64 (decD xs).next], .int .i64 (decE xs)]) ∧ Files W W.heap.size A n (decD xs).add ∧ Ints W W.heap.size A' n' (decD xs).drop ∧ n ≤ 50 ∧ n' ≤ 50
theorem DecPost.ans {w W : World} {xs : List UInt8} {e : Ending} (h : DecPost w (decP xs) e W) : DecAns w xs e W := by
  obtain ⟨hb, h⟩ := h
  refine ⟨hb, ?_⟩
  rcases hd : decP xs with _ | ed
  · rw [hd] at h
    exact ⟨none, 0, 0, none, 0, 0, by rw [h]; simp [decD, decE, hd], by simp only [decD, hd]; exact ⟨rfl, fun h => absurd h (by omega)⟩, by simp only [decD, hd]; exact ⟨rfl, fun h => absurd h (by omega)⟩, by omega, by omega⟩
  · rw [hd] at h
    obtain ⟨A, n, c, A', n', c', he, hf, hi⟩ := h
    have ok := okEdit_iff.1 ((decP_iff xs ed).1 hd).1
    exact ⟨A, n, c, A', n', c', by rw [he]; simp [decD, decE, hd], by simpa [decD, hd] using hf, by simpa [decD, hd] using hi, by rw [← hf.1]; omega, by rw [← hi.1]; omega⟩
set_option maxHeartbeats 8000000 in
theorem law_codes (ed : EditD) (A A' A2 : Option Addr) (n c n' c' m c2 : Nat) (xs : List UInt8) (z : Int) (w : World) (hn : n ≤ 9223372036854775807) (hn' : n' ≤ 9223372036854775807) (hF : Files w w.heap.size A n ed.add) (hI : Ints w w.heap.size A' n' ed.drop) (hR : Reads w w.heap.size 1 A2 m (BY xs)) (hm : m ≤ c2) (hmx : m ≤ 9223372036854775807) (ht : Lib.TabBelow Tryz.prog w.heap.size w "internal/strconv.uint64pow10" .u64 Lib.pow10Tab) :
    Calls Tryz.prog 3 #[.agg #[.slice A n c, .slice A' n' c', .int .i64 ed.log, .int .i64 ed.next], .slice A2 m c2, .int .i64 z] w fun e W => e = .returned (.bool true) ∧ Below w.heap.size w W := by
  obtain ⟨w1, hw1⟩ : ∃ w1, w1 = w.alloc (.cells #[.slice A n c, .slice A' n' c', .int .i64 ed.log, .int .i64 ed.next] 25) := ⟨_, rfl⟩
  have hb1 : Below w.heap.size w w1 := by rw [hw1]; exact (Below.refl _ _).alloc (Nat.le_refl _) _
  have bk1 : Blk w1 w.heap.size 25 #[.slice A n c, .slice A' n' c', .int .i64 ed.log, .int .i64 ed.next] := by rw [hw1]; exact Blk.new w _ _
  have ht1 := ht.on hb1
  have HAW := hide (version_awake w1 (fun W h => ht1 W (h.mono hb1.size)))
  rw [hw1] at HAW
  have HW1 := hide hw1
  have HB1 := hide hb1
  have BK1 := hide bk1
  have HF1 := hide (hF.lift hb1)
  have HI1 := hide (hI.lift hb1)
  have HR1 := hide (hR.lift hb1)
  have HT1 := hide ht1
  clear hw1 hb1 bk1 hF hI hR ht ht1
  go_enter Tryz.func3, Tryz.ntmps3
  go_wp2_with fail
  refine (unhide HAW).mono ?_
  rintro e w2 ⟨rfl, hb2⟩
  rw [← HW1.out] at hb2
  have bk2 := BK1.out.below hb2 BK1.out.lt
  have h20 := bk2.cell 0
  have h21 := bk2.cell 1
  have h22 := bk2.cell 2
  have h23 := bk2.cell 3
  have hF2 := HF1.out.lift hb2
  have hI2 := HI1.out.lift hb2
  have HR2 := hide (HR1.out.lift hb2)
  have HT2 := hide (HT1.out.on (hb2.mono HB1.out.size))
  have HB2 := hide (HB1.out.trans (hb2.mono HB1.out.size))
  have HFE := hide (law_fewEdit ed A A' n c n' c' w2 hn hn' hF2 hI2)
  have HF2 := hide hF2
  have HI2 := hide hI2
  have BK2 := hide bk2
  generalize fewEditP ed = fe at HFE
  clear hb2 bk2 hF2 hI2
  go_wp2_with fail
  refine (unhide HFE).mono ?_
  rintro e w3 ⟨rfl, hb3⟩
  have bk3 := BK2.out.below hb3 BK2.out.lt
  have h30 := bk3.cell 0
  have h31 := bk3.cell 1
  have h32 := bk3.cell 2
  have h33 := bk3.cell 3
  have hF3 := HF2.out.lift hb3
  have hI3 := HI2.out.lift hb3
  have HR3 := hide (HR2.out.lift hb3)
  have HT3 := hide (HT2.out.on (hb3.mono HB2.out.size))
  have HB3 := hide (HB2.out.trans (hb3.mono HB2.out.size))
  have HEN := hide (version_encode ed A A' n c n' c' w3 hn hn' hF3 hI3)
  have HF3 := hide hF3
  have HI3 := hide hI3
  have BK3 := hide bk3
  clear hb3 bk3 hF3 hI3 HFE h20 h21 h22 h23
  rcases fe with _ | _
  · go_wp2
    go_ret
    exact ⟨rfl, HB3.out⟩
  by_cases hbig : 100000 < m
  · go_wp2
    go_ret
    exact ⟨rfl, HB3.out⟩
  have hm1 : m ≤ 100000 := by omega
  clear hbig
  go_wp2_with fail
  refine (unhide HEN).mono ?_
  intro e w4 hen
  obtain ⟨hb4, A4, n4, c4, rfl, hR4⟩ := hen.ans
  have bk4 := BK3.out.below hb4 BK3.out.lt
  have h40 := bk4.cell 0
  have h41 := bk4.cell 1
  have h42 := bk4.cell 2
  have h43 := bk4.cell 3
  have HR4 := hide (HR3.out.lift hb4)
  have HT4 := hide (HT3.out.on (hb4.mono HB3.out.size))
  have HB4 := hide (HB3.out.trans (hb4.mono HB3.out.size))
  have HX4 := hide hR4
  have HEN2 := hide (ref_encode ed A A' n c n' c' w4 hn hn' (HF3.out.lift hb4) (HI3.out.lift hb4))
  clear hb4 bk4 hR4 HEN hen h30 h31 h32 h33
  go_wp2_with fail
  refine (unhide HEN2).mono ?_
  intro e w5 hen
  obtain ⟨hb5, A5, n5, c5, rfl, hR5⟩ := hen.ans
  have HR5 := hide (HR4.out.lift hb5)
  have HT5 := hide (HT4.out.on (hb5.mono HB4.out.size))
  have HB5 := hide (HB4.out.trans (hb5.mono HB4.out.size))
  have HX5 := hide (HX4.out.lift hb5)
  have HY5 := hide hR5
  have HDE := hide (version_decode A2 m c2 xs w5 (Nat.le_trans hm1 (by unfold lim; omega)) hm HR5.out)
  clear hb5 hR5 HEN2 hen h40 h41 h42 h43
  go_wp2_with fail
  refine (unhide HDE).mono ?_
  intro e w6 hen
  obtain ⟨hb6, Aa, na, ca, Ab, nb, cb, rfl, hF6, hI6, hna, hnb⟩ := hen.ans
  have HR6 := hide (HR5.out.lift hb6)
  have HT6 := hide (HT5.out.on (hb6.mono HB5.out.size))
  have HB6 := hide (HB5.out.trans (hb6.mono HB5.out.size))
  have HX6 := hide (HX5.out.lift hb6)
  have HY6 := hide (HY5.out.lift hb6)
  obtain ⟨w7, hw7⟩ : ∃ w7, w7 = w6.alloc (.cells #[.slice Aa na ca, .slice Ab nb cb, .int .i64 (decD xs).log, .int .i64 (decD xs).next] 25) := ⟨_, rfl⟩
  have hb7 : Below w6.heap.size w6 w7 := by rw [hw7]; exact (Below.refl _ _).alloc (Nat.le_refl _) _
  have bk7 : Blk w7 w6.heap.size 25 #[.slice Aa na ca, .slice Ab nb cb, .int .i64 (decD xs).log, .int .i64 (decD xs).next] := by rw [hw7]; exact Blk.new w6 _ _
  have HR7 := hide (HR6.out.lift hb7)
  have HT7 := hide (HT6.out.on (hb7.mono HB6.out.size))
  have HB7 := hide (HB6.out.trans (hb7.mono HB6.out.size))
  have HX7 := hide (HX6.out.lift hb7)
  have HY7 := hide (HY6.out.lift hb7)
  have HF7 := hide (hF6.lift hb7)
  have HI7 := hide (hI6.lift hb7)
  have BK7 := hide bk7
  have HDR0 := ref_decode A2 m c2 xs w7 (Nat.le_trans hm1 (by unfold lim; omega)) hm HR7.out
  rw [hw7] at HDR0
  have HDR := hide HDR0
  have HW7 := hide hw7
  clear hb6 hF6 hI6 hb7 bk7 hw7 HDE hen HDR0
  go_wp2_with fail
  refine (unhide HDR).mono ?_
  rw [← HW7.out]
  intro e w8 hen
  obtain ⟨hb8, Ac, nc, cc, Ad, nd, cd, rfl, hF8, hI8, hnc, hnd⟩ := hen.ans
  have bk8 := BK7.out.below hb8 BK7.out.lt
  have HT8 := hide (HT7.out.on (hb8.mono HB7.out.size))
  have HB8 := hide (HB7.out.trans (hb8.mono HB7.out.size))
  have HX8 := hide (HX7.out.lift hb8)
  have HY8 := hide (HY7.out.lift hb8)
  have HF8 := hide (HF7.out.lift hb8)
  have HI8 := hide (HI7.out.lift hb8)
  obtain ⟨w9, hw9⟩ : ∃ w9, w9 = w8.alloc (.cells #[.slice Ac nc cc, .slice Ad nd cd, .int .i64 (decD xs).log, .int .i64 (decD xs).next] 25) := ⟨_, rfl⟩
  have hb9 : Below w8.heap.size w8 w9 := by rw [hw9]; exact (Below.refl _ _).alloc (Nat.le_refl _) _
  have bk9 : Blk w9 w8.heap.size 25 #[.slice Ac nc cc, .slice Ad nd cd, .int .i64 (decD xs).log, .int .i64 (decD xs).next] := by rw [hw9]; exact Blk.new w8 _ _
  have bj9 := bk8.below hb9 bk8.lt
  have HT9 := hide (HT8.out.on (hb9.mono HB8.out.size))
  have HB9 := hide (HB8.out.trans (hb9.mono HB8.out.size))
  have HX9 := hide (HX8.out.lift hb9)
  have HY9 := hide (HY8.out.lift hb9)
  have HG9 := hide (hF8.lift hb9)
  have HJ9 := hide (hI8.lift hb9)
  have HEN30 := ref_encode (decD xs) Aa Ab na ca nb cb w9 (by omega) (by omega) (HF8.out.lift hb9) (HI8.out.lift hb9)
  have h90 := bj9.cell 0
  have h91 := bj9.cell 1
  have h92 := bj9.cell 2
  have h93 := bj9.cell 3
  rw [hw9] at h90 h91 h92 h93 HEN30
  have HEN3 := hide HEN30
  have BK9 := hide bk9
  have HW9 := hide hw9
  clear hb8 bk8 hF8 hI8 hb9 bk9 bj9 hw9 HEN30 HDR hen
  go_wp2_with fail
  refine (unhide HEN3).mono ?_
  rw [← HW9.out]
  intro e w10 hen
  obtain ⟨hb10, A10, n10, c10, rfl, hR10⟩ := hen.ans
  have bk10 := BK9.out.below hb10 BK9.out.lt
  have h100 := bk10.cell 0
  have h101 := bk10.cell 1
  have h102 := bk10.cell 2
  have h103 := bk10.cell 3
  have HT10 := hide (HT9.out.on (hb10.mono HB9.out.size))
  have HB10 := hide (HB9.out.trans (hb10.mono HB9.out.size))
  have HX10 := hide (HX9.out.lift hb10)
  have HY10 := hide (HY9.out.lift hb10)
  have HZ10 := hide hR10
  have HEN4 := hide (ref_encode (decD xs) Ac Ad nc cc nd cd w10 (by omega) (by omega) (HG9.out.lift hb10) (HJ9.out.lift hb10))
  clear hb10 bk10 hR10 HEN3 hen h90 h91 h92 h93
  go_wp2_with fail
  refine (unhide HEN4).mono ?_
  intro e w11 hen
  obtain ⟨hb11, A11, n11, c11, rfl, hR11⟩ := hen.ans
  have ht11 := HT10.out.on (hb11.mono HB10.out.size)
  have HB11 := hide (HB10.out.trans (hb11.mono HB10.out.size))
  have hc1 := conv_str w11 A4 n4 c4 _ _ (HX10.out.lift hb11)
  have hc2 := conv_str w11 A5 n5 c5 _ _ (HY10.out.lift hb11)
  have hc3 := conv_str w11 A10 n10 c10 _ _ (HZ10.out.lift hb11)
  have hc4 := conv_str w11 A11 n11 c11 _ _ hR11
  have HN1 := hide (version_Name z w11 ht11.here)
  have HN2 := hide (ref_Name z)
  clear hb11 hR11 HEN4 hen h100 h101 h102 h103 ht11
  generalize encB ed = e1 at hc1 hc2
  generalize encB (decD xs) = e2 at hc3 hc4
  generalize encE ed = k1
  generalize encE (decD xs) = k2
  generalize decE xs = k3
  go_wp2_with fail
  refine (unhide HN1).mono ?_
  rintro e w12 ⟨rfl, hb12⟩
  have HB12 := hide (HB11.out.trans (hb12.mono HB11.out.size))
  clear hb12 HN1
  go_wp2_with fail
  refine (HN2.out _).mono ?_
  rintro e w13 ⟨rfl, hb13⟩
  have HB13 := hide (HB12.out.trans (hb13.mono HB12.out.size))
  clear hb13 HN2
  go_wp2
  go_ret
  exact ⟨rfl, HB13.out⟩
end Go.Proofs.YtgjmfncebbfniaaGreatDoor
