/- Contracts on a table's file as package version looks at it: bytes.Compare, within, rightFile. -/
import Derived.Test.YtgjmfncebbfniaaGreatDoorWords
import Derived.Lib.UnsafeStr
import Derived.Lib.Bytealg
import Derived.Laws.Externs
namespace Go.Proofs.YtgjmfncebbfniaaGreatDoor
set_option maxRecDepth 100000
open Go Go.RowKit

theorem run_loads {w : World} : ∀ (xs : List UInt8) (a : Addr) (acc : ByteArray), (∀ j x, xs[j]? = some x → w.cell? (a.add j) = some (.int .u8 x.toNat)) →
    (Extern.Bytes.loadBytes a xs.length acc).run Tryz.prog w = .ok ⟨acc.data ++ xs.toArray⟩ w
  | [], a, acc, _ => by simp [Extern.Bytes.loadBytes]
  | x :: l, a, acc, h => by
    have h0 : w.cell? a = some (.int .u8 x.toNat) := by have := h 0 x rfl; rwa [add_zero_] at this
    have ih := run_loads l (a.add 1) (acc.push x) (fun j y hy => by
      have := h (j + 1) y hy
      rwa [add_of_add, Nat.add_comm 1 j])
    simp only [List.length_cons, Extern.Bytes.loadBytes, Sem.run_bind, run_load, h0, Result.andThen]
    rw [show ((x.toNat : Int)).toNat.toUInt8 = x from by simp, ih]
    congr 1
    apply ByteArray.ext
    simp [ByteArray.push]
theorem run_bytesOf (w : World) (A : Option Addr) (n c : Nat) (xs : List UInt8) (B : Nat) (hr : Reads w B 1 A n (BY xs)) : (Extern.Bytes.bytesOf (.slice A n c)).run Tryz.prog w = .ok ⟨xs.toArray⟩ w := by
  have hn := hr.blen
  subst hn
  rcases A with _ | ad
  · have : xs = [] := by
      cases xs with
      | nil => rfl
      | cons x r => obtain ⟨_, h, _⟩ := hr.2 (by simp); cases h
    subst this
    rfl
  · have h : ∀ j x, xs[j]? = some x → w.cell? (ad.add j) = some (.int .u8 x.toNat) := by
      intro j x hj
      obtain ⟨ad', e, _, hc⟩ := hr.2 (by have := (List.getElem?_eq_some_iff.1 hj).1; omega)
      injection e with e
      subst e
      exact hc j _ (by simp [BY, hj])
    simp only [Extern.Bytes.bytesOf]
    rw [run_loads xs ad .empty h]
    simp

theorem bytes_compare (A A' : Option Addr) (n c n' c' : Nat) (xs ys : List UInt8) (w : World) (B B' : Nat) (hr : Reads w B 1 A n (BY xs)) (hr' : Reads w B' 1 A' n' (BY ys)) :
    Calls Tryz.prog 89 #[.slice A n c, .slice A' n' c'] w fun e w' => e = .returned (.int .i64 (Lib.compareBytes xs ys)) ∧ w = w' := by
  have hrun : (Extern.BytealgCompare.compare #[.slice A n c, .slice A' n' c']).run Tryz.prog w = .ok (.int .i64 (Lib.compareBytes xs ys)) w := by
    change Sem.run Tryz.prog (do pure (goInt (Extern.BytealgCompare.cmp (← Extern.Bytes.bytesOf (.slice A n c)) (← Extern.Bytes.bytesOf (.slice A' n' c'))))) w = _
    simp only [Sem.run_bind, Sem.run_pure, run_bytesOf w A n c xs B hr, run_bytesOf w A' n' c' ys B' hr', Result.andThen]
    rw [Lib.cmp_eq]
    rfl
  go_enter Tryz.func89, Tryz.ntmps89
  go_wp2
  rw [run_callFunc_extern Tryz.func151 (by kernel_rfl) (by kernel_rfl) (by kernel_rfl) (e := Extern.BytealgCompare.compare) (by kernel_rfl), hrun]
  simp only [Result.andThen]
  rw [Oper.upon_value]
  go_wp2
  go_ret
  exact ⟨rfl, rfl⟩

theorem ret_bool {a b : Bool} (h : a = b) : Ending.returned (.bool a) = .returned (.bool b) := by rw [h]
def withinB (n lo hi : Int) : Bool := decide (lo ≤ n) && decide (n ≤ hi)
theorem withinB_iff {n lo hi : Int} : withinB n lo hi = true ↔ lo ≤ n ∧ n ≤ hi := by simp [withinB]
theorem version_within (n lo hi : Int) (w : World) :
    Calls Tryz.prog 45 #[.int .i64 n, .int .i64 lo, .int .i64 hi] w fun e w' => e = .returned (.bool (withinB n lo hi)) ∧ w = w' := by
  by_cases h1 : lo ≤ n
  · by_cases h2 : n ≤ hi
    · have e : withinB n lo hi = true := withinB_iff.2 ⟨h1, h2⟩
      rw [e]
      go_enter Tryz.func45, Tryz.ntmps45
      go_wp2
      go_ret
      exact ⟨rfl, rfl⟩
    · have e : withinB n lo hi = false := by simp [withinB, h2]
      rw [e]
      go_enter Tryz.func45, Tryz.ntmps45
      go_wp2
      go_ret
      exact ⟨rfl, rfl⟩
  · have e : withinB n lo hi = false := by simp [withinB, h1]
    rw [e]
    go_enter Tryz.func45, Tryz.ntmps45
    go_wp2
    go_ret
    exact ⟨rfl, rfl⟩
theorem version_key (A : Option Addr) (n c : Nat) (w : World) :
    Calls Tryz.prog 148 #[.slice A n c] w fun e w' => e = .returned (.bool (withinB n 1 512)) ∧ w = w' := by
  go_enter Tryz.func148, Tryz.ntmps148
  go_wp2_with (go_at_call 45; refine (version_within _ _ _ _).mono ?_; rintro e w' ⟨rfl, rfl⟩)
  go_ret
  exact ⟨rfl, rfl⟩

/-- A table's file, plain. -/
structure FileD where
  number : Int
  level : Int
  first : List UInt8
  last : List UInt8
  low : Int
  high : Int

def leB (xs ys : List UInt8) : Bool := decide (Lib.compareBytes xs ys ≤ 0)
def okFile (f : FileD) : Bool := withinB f.number 1 999999 && (withinB f.level 0 3 && (withinB f.first.length 1 512 && (withinB f.last.length 1 512 && (leB f.first f.last && (decide (1 ≤ f.low) && withinB f.high f.low 1099511627776)))))

/-- The six cells of a file. -/
structure FileAt (w : World) (B : Nat) (f : FileD) (cs : List Value) : Prop where
  ex : ∃ A1 n1 c1 A2 n2 c2, cs = [.int .i64 f.number, .int .i64 f.level, .slice A1 n1 c1, .slice A2 n2 c2, .int .i64 f.low, .int .i64 f.high] ∧
    Reads w B 1 A1 n1 (BY f.first) ∧ n1 ≤ c1 ∧ Reads w B 1 A2 n2 (BY f.last) ∧ n2 ≤ c2

theorem version_rightFile (f : FileD) (A1 A2 : Option Addr) (n1 c1 n2 c2 : Nat) (w : World) (hr1 : Reads w w.heap.size 1 A1 n1 (BY f.first)) (hr2 : Reads w w.heap.size 1 A2 n2 (BY f.last)) :
    Calls Tryz.prog 87 #[.agg #[.int .i64 f.number, .int .i64 f.level, .slice A1 n1 c1, .slice A2 n2 c2, .int .i64 f.low, .int .i64 f.high]] w
      fun e w' => e = .returned (.bool (okFile f)) ∧ Below w.heap.size w w' := by
  obtain ⟨nu, lv, fi, la, lo, hi⟩ := f
  simp only at hr1 hr2 ⊢
  have hn1 := hr1.blen
  have hn2 := hr2.blen
  subst hn1 hn2
  go_enter Tryz.func87, Tryz.ntmps87
  go_wp2_with (first
    | (go_at_call 45; refine (version_within _ _ _ _).mono ?_; rintro e w' ⟨rfl, rfl⟩)
    | (go_at_call 148; refine (version_key _ _ _ _).mono ?_; rintro e w' ⟨rfl, rfl⟩)
    | (go_at_call 89; refine (bytes_compare _ _ _ _ _ _ fi la _ _ _ (hr1.alloc (Nat.le_refl _) _) (hr2.alloc (Nat.le_refl _) _)).mono ?_; rintro e w' ⟨rfl, rfl⟩))
  all_goals go_ret
  all_goals refine ⟨ret_bool ?_, (Below.refl _ _).alloc (Nat.le_refl _) _⟩
  all_goals first | (simp [okFile, leB, *]; done) | (simp [okFile, leB, *]; intro h; omega)
end Go.Proofs.YtgjmfncebbfniaaGreatDoor
