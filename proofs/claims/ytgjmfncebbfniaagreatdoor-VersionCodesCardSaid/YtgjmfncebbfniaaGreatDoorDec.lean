/- The plain decoding of edits, and that it undoes the encoding. -/
import Derived.Test.YtgjmfncebbfniaaGreatDoorEnc
import Derived.Test.YtgjmfncebbfniaaGreatDoorCode
import Derived.Test.YtgjmfncebbfniaaGreatDoorTake
namespace Go.Proofs.YtgjmfncebbfniaaGreatDoor
set_option maxRecDepth 100000
open Go Go.RowKit

theorem numUp_acc (n : Nat) (acc : List UInt8) : numUp n acc = numUp n [] ++ acc := by
  induction n using Nat.strongRecOn generalizing acc with
  | _ n ih =>
    by_cases hn : n = 0
    · subst hn; rw [numUp_zero, numUp_zero]; rfl
    · rw [numUp_pos hn, numUp_pos (acc := []) hn, ih (n / 128) (by omega), ih (n / 128) (by omega) [_]]
      simp
theorem byte_up (n : Nat) : (((UInt8.ofNat (n % 128 + 128)).toNat : Nat) : Int) = (n : Int) % 128 + 128 := by
  rw [UInt8.toNat_ofNat']; omega
theorem byte_down (n : Nat) : (((UInt8.ofNat (n % 128)).toNat : Nat) : Int) = (n : Int) % 128 := by
  rw [UInt8.toNat_ofNat']; omega
theorem takeP_more {b0 c : UInt8} {k : Nat} {l : List UInt8} {n : Int} (h1 : n < 144115188075855872) (h2 : ¬ (0 < k ∧ b0 = 128)) (h3 : ¬ c < 128) : takeP b0 k (c :: l) n = takeP b0 (k + 1) l (n * 128 + (c.toNat : Int) % 128) := by
  rw [takeP, if_neg (by rintro (h | h); omega; exact h2 h), if_neg h3]
theorem takeP_last {b0 c : UInt8} {k : Nat} {l : List UInt8} {n : Int} (h1 : n < 144115188075855872) (h2 : ¬ (0 < k ∧ b0 = 128)) (h3 : c < 128) : takeP b0 k (c :: l) n = some (n * 128 + (c.toNat : Int) % 128, l) := by
  rw [takeP, if_neg (by rintro (h | h); omega; exact h2 h), if_pos h3]
theorem numUp_head (n : Nat) (h : 0 < n) (acc : List UInt8) : ∃ c t, numUp n acc = c :: t ∧ c ≠ 128 := by
  induction n using Nat.strongRecOn generalizing acc with
  | _ n ih =>
    rw [numUp_pos (by omega)]
    by_cases h2 : n / 128 = 0
    · rw [h2, numUp_zero]
      refine ⟨_, _, rfl, fun e => ?_⟩
      have := byte_up n
      rw [e] at this
      have : ((128 : UInt8).toNat : Int) = 128 := rfl
      omega
    · exact ih (n / 128) (by omega) (by omega) _
theorem big_up (n : Nat) : ¬ UInt8.ofNat (n % 128 + 128) < 128 := by
  intro h
  have := (byte_lt128 _).2 h
  rw [byte_up] at this
  omega
theorem small_down (n : Nat) : UInt8.ofNat (n % 128) < 128 := (byte_lt128 _).1 (by rw [byte_down]; omega)
theorem takeP_up (b0 : UInt8) (hb : b0 ≠ 128) (n : Nat) (h0 : 0 < n) (hn : n < 144115188075855872) (acc r : List UInt8) : ∃ k, takeP b0 0 (numUp n acc ++ r) 0 = takeP b0 k (acc ++ r) n := by
  induction n using Nat.strongRecOn generalizing acc with
  | _ n ih =>
    rw [numUp_pos (by omega)]
    by_cases h2 : n / 128 = 0
    · rw [h2, numUp_zero]
      refine ⟨1, ?_⟩
      rw [List.cons_append, takeP_more (by omega) (by omega) (big_up n), byte_up]
      congr 1; omega
    · obtain ⟨k, hk⟩ := ih (n / 128) (by omega) (by omega) (by omega) (UInt8.ofNat (n % 128 + 128) :: acc)
      refine ⟨k + 1, ?_⟩
      rw [hk, List.cons_append, takeP_more (by omega) (fun h => hb h.2) (big_up n), byte_up]
      congr 1; omega
theorem take7_num7 (n : Nat) (hn : n < 144115188075855872) (r : List UInt8) : take7 (num7 n ++ r) = some ((n : Int), r) := by
  unfold take7 num7
  by_cases h : n / 128 = 0
  · rw [h, numUp_zero]
    rw [List.cons_append, takeP_last (by omega) (by omega) (small_down n), byte_down]
    have e : (0 : Int) * 128 + (n : Int) % 128 % 128 = n := by omega
    rw [e]; rfl
  · obtain ⟨c, t, hc, hc1⟩ := numUp_head (n / 128) (by omega) [UInt8.ofNat (n % 128)]
    obtain ⟨k, hk⟩ := takeP_up c hc1 (n / 128) (by omega) (by omega) [UInt8.ofNat (n % 128)] r
    have hh : (numUp (n / 128) [UInt8.ofNat (n % 128)] ++ r).headD 0 = c := by rw [hc]; rfl
    rw [hh, hk, List.cons_append, takeP_last (by omega) (fun h => hc1 h.2) (small_down n), byte_down]
    have e : ((n / 128 : Nat) : Int) * 128 + (n : Int) % 128 % 128 = n := by omega
    rw [e]; rfl
theorem takeP_sound (b0 : UInt8) (k : Nat) (l : List UInt8) (v n : Int) (r : List UInt8) (hv : 0 ≤ v) (h0 : k = 0 → v = 0 ∧ l.headD b0 = b0) (h1 : 0 < k → 0 < v) (h : takeP b0 k l v = some (n, r)) : 0 ≤ n ∧ num7 n.toNat ++ r = numUp v.toNat [] ++ l := by
  induction l generalizing k v with
  | nil => simp [takeP] at h
  | cons c t ih =>
    have hc := byte_lt c
    by_cases hA : 144115188075855872 ≤ v ∨ (0 < k ∧ b0 = 128)
    · rw [takeP, if_pos hA] at h; cases h
    · have hA1 : v < 144115188075855872 := by omega
      have hA2 : ¬ (0 < k ∧ b0 = 128) := fun h => hA (.inr h)
      by_cases h3 : c < 128
      · rw [takeP_last hA1 hA2 h3] at h
        simp only [Option.some.injEq, Prod.mk.injEq] at h
        obtain ⟨rfl, rfl⟩ := h
        have := (byte_lt128 c).2 h3
        refine ⟨by omega, ?_⟩
        rw [num7, numUp_acc, show (v * 128 + (c.toNat : Int) % 128).toNat / 128 = v.toNat from by omega, show (v * 128 + (c.toNat : Int) % 128).toNat % 128 = c.toNat from by omega]
        simp
      · rw [takeP_more hA1 hA2 h3] at h
        have hb : b0 ≠ 128 := by
          intro e
          subst e
          rw [takeP_lead _ _ _ (by omega)] at h
          cases h
        have h4 : 128 ≤ c.toNat := by
          have := byte_lt128 c
          by_cases hh : (c.toNat : Int) < 128
          · exact absurd (this.1 hh) h3
          · omega
        have hpos : 0 < v * 128 + (c.toNat : Int) % 128 := by
          rcases Nat.eq_zero_or_pos k with rfl | hk
          · obtain ⟨rfl, e⟩ := h0 rfl
            have e : c = b0 := e
            have : c.toNat ≠ 128 := fun h => hb (by rw [← e]; exact UInt8.toNat_inj.1 h)
            omega
          · have := h1 hk; omega
        obtain ⟨i1, i2⟩ := ih (k + 1) _ (by omega) (fun h => by omega) (fun _ => hpos) h
        refine ⟨i1, i2.trans ?_⟩
        rw [numUp_pos (n := (v * 128 + (c.toNat : Int) % 128).toNat) (by omega), numUp_acc, show (v * 128 + (c.toNat : Int) % 128).toNat / 128 = v.toNat from by omega,
          show (v * 128 + (c.toNat : Int) % 128).toNat % 128 + 128 = c.toNat from by omega]
        simp
theorem take7_sound {xs r : List UInt8} {n : Int} (h : take7 xs = some (n, r)) : 0 ≤ n ∧ xs = num7 n.toNat ++ r := by
  have := takeP_sound (xs.headD 0) 0 xs 0 n r (by omega) (fun _ => ⟨rfl, by cases xs with
    | nil => rfl
    | cons => rfl⟩) (by omega) h
  refine ⟨this.1, ?_⟩
  have h2 := this.2
  rw [Int.toNat_zero, numUp_zero] at h2
  exact h2.symm
theorem takeT_text7 (t r : List UInt8) (ht : t.length < 65536) : takeT (text7 t ++ r) = some (t, r) := by
  have h := take7_num7 t.length (by omega) (t ++ r)
  rw [text7, List.append_assoc, takeT_some h, if_neg (by simp; omega)]
  simp
theorem takeT_sound {xs t r : List UInt8} (h : takeT xs = some (t, r)) : xs = text7 t ++ r := by
  rcases h7 : take7 xs with _ | ⟨n, rest⟩
  · rw [takeT_none h7] at h; cases h
  · rw [takeT_some h7] at h
    obtain ⟨h0, e⟩ := take7_sound h7
    split at h
    · cases h
    · simp only [Option.some.injEq, Prod.mk.injEq] at h
      obtain ⟨rfl, rfl⟩ := h
      rw [e, text7, List.length_take, Nat.min_eq_left (by omega), List.append_assoc, List.take_append_drop]

/-! Reading: whether something was amiss, and what is left. -/
def rdN (most : Int) (s : Bool × List UInt8) : Int × (Bool × List UInt8) := match take7 s.2 with
  | none => (0, (true, s.2))
  | some (n, rest) => if s.1 = true ∨ most < n then (0, (true, s.2)) else (n, (false, rest))
def rdT (s : Bool × List UInt8) : List UInt8 × (Bool × List UInt8) := match takeT s.2 with
  | none => ([], (true, s.2))
  | some (t, rest) => if s.1 = true then ([], (true, s.2)) else (t, (false, rest))
/-- A file, its number at most mn, its level at most ml. -/
def rdF (mn ml : Int) (s : Bool × List UInt8) : FileD × (Bool × List UInt8) :=
  let a := rdN mn s
  let b := rdN ml a.2
  let c := rdT b.2
  let d := rdT c.2
  let e := rdN 1099511627776 d.2
  let f := rdN 1099511627776 e.2
  (⟨a.1, b.1, c.1, d.1, e.1, f.1⟩, f.2)
def rdFs (mn ml : Int) : Nat → Bool × List UInt8 → List FileD × (Bool × List UInt8)
  | 0, s => ([], s)
  | k + 1, s => ((rdF mn ml s).1 :: (rdFs mn ml k (rdF mn ml s).2).1, (rdFs mn ml k (rdF mn ml s).2).2)
def rdInts (most : Int) : Nat → Bool × List UInt8 → List Int × (Bool × List UInt8)
  | 0, s => ([], s)
  | k + 1, s => ((rdN most s).1 :: (rdInts most k (rdN most s).2).1, (rdInts most k (rdN most s).2).2)
theorem rdN_ok {most n : Int} {s : Bool × List UInt8} {r : List UInt8} (h : rdN most s = (n, (false, r))) : s.1 = false ∧ 0 ≤ n ∧ n ≤ most ∧ s.2 = num7 n.toNat ++ r := by
  unfold rdN at h
  rcases h7 : take7 s.2 with _ | ⟨m, rest⟩
  · rw [h7] at h; simp at h
  · rw [h7] at h
    simp only at h
    obtain ⟨h0, e⟩ := take7_sound h7
    split at h
    · simp at h
    · rename_i hno
      simp only [Prod.mk.injEq, true_and] at h
      obtain ⟨rfl, rfl⟩ := h
      refine ⟨?_, h0, by omega, e⟩
      cases hs : s.1
      · rfl
      · exact absurd (Or.inl hs) hno
theorem rdT_ok {t : List UInt8} {s : Bool × List UInt8} {r : List UInt8} (h : rdT s = (t, (false, r))) : s.1 = false ∧ s.2 = text7 t ++ r := by
  unfold rdT at h
  rcases h7 : takeT s.2 with _ | ⟨m, rest⟩
  · rw [h7] at h; simp at h
  · rw [h7] at h
    simp only at h
    have e := takeT_sound h7
    split at h
    · simp at h
    · rename_i hno
      simp only [Prod.mk.injEq, true_and] at h
      obtain ⟨rfl, rfl⟩ := h
      exact ⟨by simpa using hno, e⟩
theorem pair_false {α : Type} {p : α × (Bool × List UInt8)} (h : p.2.1 = false) : p = (p.1, (false, p.2.2)) := by
  rw [← h]
theorem rdF_ok {mn ml : Int} {s : Bool × List UInt8} (h : (rdF mn ml s).2.1 = false) : s.1 = false ∧ s.2 = encFile (rdF mn ml s).1 ++ (rdF mn ml s).2.2 := by
  have h6 := rdN_ok (pair_false (p := rdN 1099511627776 (rdN 1099511627776 (rdT (rdT (rdN ml (rdN mn s).2).2).2).2).2) h)
  have h5 := rdN_ok (pair_false h6.1)
  have h4 := rdT_ok (pair_false h5.1)
  have h3 := rdT_ok (pair_false h4.1)
  have h2 := rdN_ok (pair_false h3.1)
  have h1 := rdN_ok (pair_false h2.1)
  refine ⟨h1.1, ?_⟩
  rw [h1.2.2.2, h2.2.2.2, h3.2, h4.2, h5.2.2.2, h6.2.2.2]
  simp [encFile, encInts, rdF]
theorem rdFs_ok {mn ml : Int} (k : Nat) {s : Bool × List UInt8} (h : (rdFs mn ml k s).2.1 = false) : s.1 = false ∧ (rdFs mn ml k s).1.length = k ∧ s.2 = (rdFs mn ml k s).1.flatMap encFile ++ (rdFs mn ml k s).2.2 := by
  induction k generalizing s with
  | zero => exact ⟨h, rfl, by simp [rdFs]⟩
  | succ k ih =>
    obtain ⟨i1, i2, i3⟩ := ih (s := (rdF mn ml s).2) h
    obtain ⟨j1, j2⟩ := rdF_ok i1
    refine ⟨j1, by simp [rdFs, i2], ?_⟩
    rw [j2, i3]
    simp [rdFs]
theorem rdInts_ok {most : Int} (k : Nat) {s : Bool × List UInt8} (h : (rdInts most k s).2.1 = false) : s.1 = false ∧ (rdInts most k s).1.length = k ∧ s.2 = encInts (rdInts most k s).1 ++ (rdInts most k s).2.2 := by
  induction k generalizing s with
  | zero => exact ⟨h, rfl, by simp [rdInts, encInts]⟩
  | succ k ih =>
    obtain ⟨i1, i2, i3⟩ := ih (s := (rdN most s).2) h
    obtain ⟨j1, _, _, j2⟩ := rdN_ok (pair_false i1)
    refine ⟨j1, by simp [rdInts, i2], ?_⟩
    rw [j2, i3]
    simp [rdInts, encInts]
/-! The other way: what was encoded is read. -/
theorem rdN_num7 {most n : Int} {r : List UInt8} (h0 : 0 ≤ n) (h1 : n ≤ most) (h2 : n ≤ 1099511627776) : rdN most (false, num7 n.toNat ++ r) = (n, (false, r)) := by
  unfold rdN
  rw [take7_num7 n.toNat (by omega)]
  simp only [Int.toNat_of_nonneg h0]
  rw [if_neg (by simp; omega)]
theorem rdT_text7 {t r : List UInt8} (h : t.length < 65536) : rdT (false, text7 t ++ r) = (t, (false, r)) := by
  unfold rdT
  rw [takeT_text7 t r h]
  simp
theorem rdF_enc {mn ml : Int} (f : FileD) (hf : okFile f = true) (hn : 999999 ≤ mn) (hl : 3 ≤ ml) (r : List UInt8) : rdF mn ml (false, encFile f ++ r) = (f, (false, r)) := by
  have h := okFile_iff.1 hf
  have e : encFile f ++ r = num7 f.number.toNat ++ (num7 f.level.toNat ++ (text7 f.first ++ (text7 f.last ++ (num7 f.low.toNat ++ (num7 f.high.toNat ++ r))))) := by simp [encFile, encInts]
  unfold rdF
  simp only
  rw [e, rdN_num7 (n := f.number) (by omega) (by omega) (by omega)]
  simp only
  rw [rdN_num7 (n := f.level) (by omega) (by omega) (by omega)]
  simp only
  rw [rdT_text7 (by omega)]
  simp only
  rw [rdT_text7 (by omega)]
  simp only
  rw [rdN_num7 (n := f.low) (by omega) (by omega) (by omega)]
  simp only
  rw [rdN_num7 (n := f.high) (by omega) (by omega) (by omega)]
theorem rdFs_enc {mn ml : Int} (fs : List FileD) (hf : ∀ f ∈ fs, okFile f = true) (hn : 999999 ≤ mn) (hl : 3 ≤ ml) (r : List UInt8) : rdFs mn ml fs.length (false, fs.flatMap encFile ++ r) = (fs, (false, r)) := by
  induction fs with
  | nil => simp [rdFs]
  | cons f t ih =>
    have i := ih (fun x hx => hf x (List.mem_cons_of_mem _ hx))
    have e : (f :: t).flatMap encFile ++ r = encFile f ++ (t.flatMap encFile ++ r) := by simp
    rw [e]
    simp only [List.length_cons, rdFs, rdF_enc f (hf f (List.mem_cons_self ..)) hn hl, i]
theorem rdInts_enc {most : Int} (zs : List Int) (hz : ∀ z ∈ zs, 1 ≤ z ∧ z ≤ 999999) (hm : 999999 ≤ most) (r : List UInt8) : rdInts most zs.length (false, encInts zs ++ r) = (zs, (false, r)) := by
  induction zs with
  | nil => simp [rdInts, encInts]
  | cons z t ih =>
    have i := ih (fun x hx => hz x (List.mem_cons_of_mem _ hx))
    have h := hz z (List.mem_cons_self ..)
    have e : encInts (z :: t) ++ r = num7 z.toNat ++ (encInts t ++ r) := by simp [encInts]
    rw [e]
    simp only [List.length_cons, rdInts, rdN_num7 (n := z) (r := encInts t ++ r) (most := most) (by omega) (by omega) (by omega), i]

/-- The program's way: all that was read, and whether it is an edit. -/
def rdEdit (b : List UInt8) : EditD × (Bool × List UInt8) :=
  let a := rdN 50 (false, b)
  let fs := rdFs 999999 3 a.1.toNat a.2
  let c := rdN 50 fs.2
  let ds := rdInts 999999 c.1.toNat c.2
  let l := rdN 1099511627776 ds.2
  let n := rdN 1099511627776 l.2
  (⟨fs.1, ds.1, l.1, n.1⟩, n.2)
def decP (b : List UInt8) : Option EditD := if (rdEdit b).2.1 = true ∨ 0 < (rdEdit b).2.2.length ∨ okEdit (rdEdit b).1 = false then none else some (rdEdit b).1
theorem rdEdit_enc (e : EditD) (h : okEdit e = true) : rdEdit (encEdit e) = (e, (false, [])) := by
  obtain ⟨h1, h2, h3, h4, h5, h6, h7, h8⟩ := okEdit_iff.1 h
  have ee : encEdit e = num7 (e.add.length : Int).toNat ++ (e.add.flatMap encFile ++ (num7 (e.drop.length : Int).toNat ++ (encInts e.drop ++ (num7 e.log.toNat ++ (num7 e.next.toNat ++ []))))) := by simp [encEdit, encInts]
  unfold rdEdit
  simp only
  rw [ee, rdN_num7 (n := (e.add.length : Int)) (by omega) (by omega) (by omega)]
  simp only [Int.toNat_natCast]
  rw [rdFs_enc e.add h7 (by omega) (by omega)]
  simp only
  rw [show (num7 e.drop.length : List UInt8) = num7 ((e.drop.length : Int)).toNat from rfl, rdN_num7 (n := (e.drop.length : Int)) (by omega) (by omega) (by omega)]
  simp only [Int.toNat_natCast]
  rw [rdInts_enc e.drop h8 (by omega)]
  simp only
  rw [rdN_num7 (n := e.log) (by omega) (by omega) (by omega)]
  simp only
  rw [rdN_num7 (n := e.next) (by omega) (by omega) (by omega)]
theorem decP_iff (b : List UInt8) (e : EditD) : decP b = some e ↔ okEdit e = true ∧ b = encEdit e := by
  constructor
  · intro h
    unfold decP at h
    split at h
    · cases h
    · rename_i hno
      simp only [Option.some.injEq] at h
      subst h
      have h6 : (rdEdit b).2.1 = false := by
        cases hh : (rdEdit b).2.1
        · rfl
        · exact absurd (Or.inl hh) hno
      have hr : (rdEdit b).2.2 = [] := List.eq_nil_of_length_eq_zero (by omega)
      have hok : okEdit (rdEdit b).1 = true := by
        cases hh : okEdit (rdEdit b).1
        · exact absurd (Or.inr (Or.inr hh)) hno
        · rfl
      refine ⟨hok, ?_⟩
      have h6' := rdN_ok (pair_false (p := rdN 1099511627776 (rdN 1099511627776 (rdInts 999999 (rdN 50 (rdFs 999999 3 (rdN 50 (false, b)).1.toNat (rdN 50 (false, b)).2).2).1.toNat (rdN 50 (rdFs 999999 3 (rdN 50 (false, b)).1.toNat (rdN 50 (false, b)).2).2).2).2).2) h6)
      have h5 := rdN_ok (pair_false h6'.1)
      have h4 := rdInts_ok _ h5.1
      have h3 := rdN_ok (pair_false h4.1)
      have h2 := rdFs_ok _ h3.1
      have h1 := rdN_ok (pair_false h2.1)
      have e1 : b = _ := h1.2.2.2
      have hr' : (rdN 1099511627776 (rdN 1099511627776 (rdInts 999999 (rdN 50 (rdFs 999999 3 (rdN 50 (false, b)).1.toNat (rdN 50 (false, b)).2).2).1.toNat (rdN 50 (rdFs 999999 3 (rdN 50 (false, b)).1.toNat (rdN 50 (false, b)).2).2).2).2).2).2.2 = [] := hr
      rw [h2.2.2, h3.2.2.2, h4.2.2, h5.2.2.2, h6'.2.2.2, hr'] at e1
      refine e1.trans ?_
      simp only [encEdit, rdEdit, encInts, List.flatMap_cons, List.flatMap_nil, List.append_nil]
      rw [h2.2.1, h4.2.1, Int.toNat_of_nonneg h1.2.1, Int.toNat_of_nonneg h3.2.1]
      simp
  · rintro ⟨h, rfl⟩
    unfold decP
    rw [rdEdit_enc e h]
    simp [h]
end Go.Proofs.YtgjmfncebbfniaaGreatDoor
