/- Directories as maps are read: plain. -/
import Derived.Test.YtgjmfncebbfniaaGreatDoorSto
import Derived.Maps.OwnSet
import Derived.Sort.KeysCollected
namespace Go.Proofs.YtgjmfncebbfniaaGreatDoor
set_option maxRecDepth 100000
open Go Go.RowKit Go.Maps

/-- What a directory's map reads as; fa k is the block of the k-th file. -/
def dirE (fa : Nat → Nat) (e : Nm × Nat) : Lit × DataW Unit := (.string e.1, .lit (.int .i64 (fa e.2)))
def dirD (fa : Nat → Nat) (d : Dir) : DataW Unit := .map (d.map (dirE fa))
/-- How an element, a file's address, reads. -/
def ptrR (v : Value) : Option (DataW Unit × List MemPlace) := match v with
  | .pointer (some ⟨b, 0, none⟩) => some (.lit (.int .i64 b), [])
  | .pointer none => some (.nil, [])
  | _ => none
theorem ptrR_mk (b : Nat) : ptrR (.pointer (some ⟨b, 0, none⟩)) = some (.lit (.int .i64 b), []) := rfl
theorem ptrR_inv {v : Value} {b : Nat} {ps : List MemPlace} (h : ptrR v = some (.lit (.int .i64 b), ps)) : v = .pointer (some ⟨b, 0, none⟩) := by
  unfold ptrR at h
  split at h
  · rename_i b'
    simp only [Option.some.injEq, Prod.mk.injEq, DataW.lit.injEq, Lit.int.injEq, true_and] at h
    have : b' = b := by omega
    rw [this]
  · simp at h
  · cases h
theorem bytesBefore_less : ∀ x y : List UInt8, bytesBefore x y = Op.bytesLess x y
  | [], [] => rfl
  | [], _ :: _ => rfl
  | _ :: _, [] => rfl
  | a :: x, b :: y => by rw [bytesBefore, Op.bytesLess, bytesBefore_less x y]
theorem sameKey_str (a b : List UInt8) : (Lit.string a).sameKey (.string b) = decide (a = b) := by
  show (a == b) = _
  by_cases h : a = b <;> simp [h]
section
variable {fa fa' : Nat → Nat} {d : Dir} {n : Nm} {i : Nat}
theorem dirD_del : (dirD fa d).del (.string n) = dirD fa (dWithout d n) := by
  show DataW.map _ = DataW.map _
  congr 1
  unfold dWithout
  induction d with
  | nil => rfl
  | cons e r ih =>
    simp only [List.map_cons, List.filter_cons, dirE, sameKey_str] at ih ⊢
    by_cases h : e.1 = n
    · simp [h, ih]
    · simp [h, ih]; rfl
theorem insert_dir : ∀ d : Dir, DataW.insert (dirE fa (n, i)) (d.map (dirE fa)) = (dIns d n i).map (dirE fa)
  | [] => rfl
  | e :: r => by
    rw [List.map_cons, DataW.insert, dIns]
    have h1 : (dirE fa (n, i)).1.before (dirE fa e).1 = Op.bytesLess n e.1 := bytesBefore_less n e.1
    rw [h1]
    by_cases h : Op.bytesLess n e.1 = true
    · simp [h]
    · simp [h, insert_dir r]
theorem dirD_put : (dirD fa d).put (.string n) (.lit (.int .i64 (fa i))) = dirD fa (dWith d n i) := by
  have h : (dirD fa d).del (.string n) = dirD fa (dWithout d n) := dirD_del
  have h2 : (dirD fa d).put (.string n) (.lit (.int .i64 (fa i))) = .map (DataW.insert (dirE fa (n, i)) ((d.map (dirE fa)).filter fun p => !p.1.sameKey (.string n))) := rfl
  have h3 : (d.map (dirE fa)).filter (fun p => !p.1.sameKey (.string n)) = (dWithout d n).map (dirE fa) := by
    have h4 : DataW.map ((d.map (dirE fa)).filter (fun p => !p.1.sameKey (.string n))) = DataW.map ((dWithout d n).map (dirE fa)) := h
    injection h4
  rw [h2, h3, insert_dir]
  rfl
theorem dirD_has : has (dirD fa d) (.string n) = (dFind d n).isSome := by
  show (d.map (dirE fa)).any _ = _
  induction d with
  | nil => rfl
  | cons e r ih =>
    rw [List.map_cons, List.any_cons, dFind, ih]
    simp only [dirE, sameKey_str]
    by_cases h : e.1 = n <;> simp [h]
theorem dirD_at (z : DataW Unit) : (dirD fa d).atKey (.string n) z = match dFind d n with
    | some k => .lit (.int .i64 (fa k))
    | none => z := by
  unfold dirD DataW.atKey
  simp only
  induction d with
  | nil => rfl
  | cons e r ih =>
    rw [List.map_cons, List.find?_cons, dFind]
    simp only [dirE, sameKey_str] at ih ⊢
    by_cases h : e.1 = n
    · simp [h]
    · rw [show decide (e.1 = n) = false from by simp [h], if_neg h]; exact ih
theorem dirD_size : size (dirD fa d) = d.length := by show (d.map _).length = _; simp
theorem dirD_keys : strKeys (dirD fa d) = d.map (·.1) := by
  show (d.map (dirE fa)).map _ = _
  rw [List.map_map]; rfl
theorem dirD_congr (h : ∀ e ∈ d, fa e.2 = fa' e.2) : dirD fa d = dirD fa' d := by
  show DataW.map _ = DataW.map _
  congr 1
  exact List.map_congr_left fun e he => by simp only [dirE]; rw [h e he]
theorem dFind_mem : ∀ {d : Dir} {k : Nat}, dFind d n = some k → (n, k) ∈ d
  | [], _, h => by cases h
  | e :: r, k, h => by
    rw [dFind] at h
    by_cases he : e.1 = n
    · rw [if_pos he] at h; injection h with h; subst h; subst he; exact List.mem_cons_self
    · rw [if_neg he] at h; exact List.mem_cons_of_mem _ (dFind_mem h)
theorem dWithout_mem {e : Nm × Nat} (h : e ∈ dWithout d n) : e ∈ d ∧ e.1 ≠ n := by simpa [dWithout] using h
theorem dIns_mem {e : Nm × Nat} : ∀ {d : Dir}, e ∈ dIns d n i ↔ e = (n, i) ∨ e ∈ d
  | [] => by simp [dIns]
  | x :: r => by
    rw [dIns]
    by_cases h : Op.bytesLess n x.1 = true
    · simp [h]
    · simp [h, dIns_mem (d := r)]; constructor
      · rintro (h | h | h) <;> simp [h]
      · rintro (h | h | h) <;> simp [h]
theorem dWith_mem {e : Nm × Nat} : e ∈ dWith d n i ↔ e = (n, i) ∨ (e ∈ d ∧ e.1 ≠ n) := by
  unfold dWith; rw [dIns_mem]; simp [dWithout]
end
/-- By rising names. -/
def Rising (d : Dir) : Prop := d.Pairwise fun a b => a.1 < b.1
theorem bytesLess_lt : ∀ (x y : List UInt8), Op.bytesLess x y = decide (x < y)
  | [], [] => by simp [Op.bytesLess]
  | _ :: _, [] => by simp [Op.bytesLess]
  | [], _ :: _ => by simp [Op.bytesLess]
  | a :: x, b :: y => by
    rw [Op.bytesLess, bytesLess_lt x y, Bool.eq_iff_iff]
    simp [List.cons_lt_cons_iff]
theorem less_iff (x y : List UInt8) : Op.bytesLess x y = true ↔ x < y := by rw [bytesLess_lt]; simp
theorem rising_without {d : Dir} (h : Rising d) (n : Nm) : Rising (dWithout d n) := List.Pairwise.filter _ h
theorem rising_ins {n : Nm} {i : Nat} : ∀ {d : Dir}, Rising d → (∀ e ∈ d, e.1 ≠ n) → Rising (dIns d n i)
  | [], _, _ => by simp [dIns, Rising]
  | e :: r, h, hn => by
    obtain ⟨h1, h2⟩ := List.pairwise_cons.1 h
    rw [dIns]
    by_cases hl : Op.bytesLess n e.1 = true
    · rw [if_pos hl]
      have hl' := (less_iff _ _).1 hl
      refine List.pairwise_cons.2 ⟨fun x hx => ?_, h⟩
      rcases List.mem_cons.1 hx with rfl | hx
      · exact hl'
      · exact List.lt_trans hl' (h1 x hx)
    · rw [if_neg hl]
      have hge : e.1 < n := by
        have h3 : ¬ n < e.1 := fun h => hl ((less_iff _ _).2 h)
        rcases List.le_iff_lt_or_eq.1 (List.not_lt.1 h3) with h | h
        · exact h
        · exact absurd h (hn e List.mem_cons_self)
      refine List.pairwise_cons.2 ⟨fun x hx => ?_, rising_ins h2 (fun x hx => hn x (List.mem_cons_of_mem _ hx))⟩
      rcases dIns_mem.1 hx with rfl | hx
      · exact hge
      · exact h1 x hx
theorem rising_with {d : Dir} (h : Rising d) (n : Nm) (i : Nat) : Rising (dWith d n i) := rising_ins (rising_without h n) fun _ he => (dWithout_mem he).2
theorem rising_made {d : Dir} (h : Rising d) (c : Chg) : Rising (made d c) := by
  cases c with
  | put n k => exact rising_with h n k
  | ren a b k => exact rising_with (rising_without h a) b k
  | del n => exact rising_without h n
theorem rising_replay {d : Dir} (h : Rising d) : ∀ l : List Chg, Rising (replay d l)
  | [] => h
  | c :: r => by unfold replay; exact rising_replay (rising_made h c) r
/-- The names, sorted, are as they stand. -/
theorem names_sorted {d : Dir} (h : Rising d) {ss : List Nm} (hp : ss.Perm (d.map (·.1))) : ss.mergeSort (fun x y => decide (x ≤ y)) = d.map (·.1) := by
  have e := mergeSort_of_perm hp
  rw [show (fun x y : List UInt8 => decide (x ≤ y)) = leB from rfl, e]
  refine List.mergeSort_of_pairwise ?_
  rw [List.pairwise_map]
  exact h.imp fun {a b} hab => by simp only [leB, decide_eq_true_eq]; exact List.le_of_lt hab
end Go.Proofs.YtgjmfncebbfniaaGreatDoor
