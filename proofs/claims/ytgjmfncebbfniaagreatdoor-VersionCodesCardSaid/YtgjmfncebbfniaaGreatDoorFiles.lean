/- Lists of files and of numbers in memory; slices.IndexFunc and ContainsFunc over them; version.rightEdit. -/
import Derived.Test.YtgjmfncebbfniaaGreatDoorFile
import Derived.LoopTactic
import Derived.Shelf.Abstract
namespace Go.Proofs.YtgjmfncebbfniaaGreatDoor
set_option maxRecDepth 100000
open Go Go.RowKit

/-- The cells of one file at a place of a block. -/
structure FileCells (w : World) (B b o : Nat) (f : FileD) : Prop where
  ex : ∃ A1 n1 c1 A2 n2 c2, w.cell? ⟨b, o, none⟩ = some (.int .i64 f.number) ∧ w.cell? ⟨b, o + 1, none⟩ = some (.int .i64 f.level) ∧ w.cell? ⟨b, o + 2, none⟩ = some (.slice A1 n1 c1) ∧
    w.cell? ⟨b, o + 3, none⟩ = some (.slice A2 n2 c2) ∧ w.cell? ⟨b, o + 4, none⟩ = some (.int .i64 f.low) ∧ w.cell? ⟨b, o + 5, none⟩ = some (.int .i64 f.high) ∧
    Reads w B 1 A1 n1 (BY f.first) ∧ n1 ≤ c1 ∧ Reads w B 1 A2 n2 (BY f.last) ∧ n2 ≤ c2
/-- A slice of files. -/
def Files (w : World) (B : Nat) (A : Option Addr) (n : Nat) (fs : List FileD) : Prop :=
  fs.length = n ∧ (0 < n → ∃ b off, A = some ⟨b, off, none⟩ ∧ b < B ∧ ∀ i f, fs[i]? = some f → FileCells w B b (off + i * 6) f)
/-- A slice of ints. -/
def Ints (w : World) (B : Nat) (A : Option Addr) (n : Nat) (zs : List Int) : Prop :=
  zs.length = n ∧ (0 < n → ∃ b off, A = some ⟨b, off, none⟩ ∧ b < B ∧ ∀ i z, zs[i]? = some z → w.cell? ⟨b, off + i, none⟩ = some (.int .i64 z))

section
variable {w w' : World} {B B' b o n : Nat} {A : Option Addr} {f : FileD} {fs : List FileD} {zs : List Int}
theorem FileCells.keep (h : FileCells w B b o f) (hb : b < B) (hk : ∀ p : Addr, p.block < B → w'.cell? p = w.cell? p) (hB : B ≤ B') : FileCells w' B' b o f := by
  obtain ⟨A1, n1, c1, A2, n2, c2, h0, h1, h2, h3, h4, h5, r1, l1, r2, l2⟩ := h.ex
  exact ⟨A1, n1, c1, A2, n2, c2, (hk _ hb).trans h0, (hk _ hb).trans h1, (hk _ hb).trans h2, (hk _ hb).trans h3, (hk _ hb).trans h4, (hk _ hb).trans h5, (r1.keep hk).more hB, l1, (r2.keep hk).more hB, l2⟩
theorem Files.keep (h : Files w B A n fs) (hk : ∀ p : Addr, p.block < B → w'.cell? p = w.cell? p) (hB : B ≤ B') : Files w' B' A n fs :=
  ⟨h.1, fun hn => by
    obtain ⟨b, off, e, hb, hc⟩ := h.2 hn
    exact ⟨b, off, e, by omega, fun i f hi => (hc i f hi).keep hb hk hB⟩⟩
theorem Files.below (h : Files w B A n fs) (hb : Below B w w') : Files w' B A n fs := h.keep (fun _ hp => hb.cell hp) (Nat.le_refl _)
theorem Files.lift (h : Files w w.heap.size A n fs) (hb : Below w.heap.size w w') : Files w' w'.heap.size A n fs := h.keep (fun _ hp => hb.cell hp) hb.size
theorem Files.drewN (h : Files w B A n fs) (k : Nat) : Files (w.drewN k) B A n fs := h.keep (fun _ _ => rfl) (Nat.le_refl _)
theorem Files.alloc (h : Files w w.heap.size A n fs) (x : Obj) : Files (w.alloc x) (w.alloc x).heap.size A n fs := h.lift ((Below.refl _ _).alloc (Nat.le_refl _) _)
theorem Files.at_ (h : Files w B A n fs) {i : Nat} (hi : i < n) : ∃ b off, ∃ hx : i < fs.length, A = some ⟨b, off, none⟩ ∧ b < B ∧ FileCells w B b (off + i * 6) fs[i] := by
  obtain ⟨b, off, e, hb, hc⟩ := h.2 (by omega)
  have hx : i < fs.length := by have := h.1; omega
  exact ⟨b, off, hx, e, hb, hc i _ (List.getElem?_eq_getElem hx)⟩
theorem Ints.keep (h : Ints w B A n zs) (hk : ∀ p : Addr, p.block < B → w'.cell? p = w.cell? p) (hB : B ≤ B') : Ints w' B' A n zs :=
  ⟨h.1, fun hn => by
    obtain ⟨b, off, e, hb, hc⟩ := h.2 hn
    exact ⟨b, off, e, by omega, fun i f hi => (hk _ hb).trans (hc i f hi)⟩⟩
theorem Ints.below (h : Ints w B A n zs) (hb : Below B w w') : Ints w' B A n zs := h.keep (fun _ hp => hb.cell hp) (Nat.le_refl _)
theorem Ints.lift (h : Ints w w.heap.size A n zs) (hb : Below w.heap.size w w') : Ints w' w'.heap.size A n zs := h.keep (fun _ hp => hb.cell hp) hb.size
theorem Ints.at_ (h : Ints w B A n zs) {i : Nat} (hi : i < n) : ∃ b off, ∃ hx : i < zs.length, A = some ⟨b, off, none⟩ ∧ b < B ∧ w.cell? ⟨b, off + i, none⟩ = some (.int .i64 zs[i]) := by
  obtain ⟨b, off, e, hb, hc⟩ := h.2 (by omega)
  have hx : i < zs.length := by have := h.1; omega
  exact ⟨b, off, hx, e, hb, hc i _ (List.getElem?_eq_getElem hx)⟩
end

/-- The place of the first that a test lets by, -1: none. -/
def idxOf {α : Type} (p : α → Bool) (l : List α) : Int := match l.findIdx? p with
  | some i => i
  | none => -1
theorem idxOf_hit {α : Type} {p : α → Bool} {l : List α} {k : Nat} (hk : k < l.length) (h : p l[k] = true) (hno : ∀ j (hj : j < k), p (l[j]'(by omega)) = false) : idxOf p l = k := by
  have : l.findIdx? p = some k := by
    rw [List.findIdx?_eq_some_iff_getElem]
    exact ⟨hk, h, fun j hj => by simp [hno j hj]⟩
  simp [idxOf, this]
theorem idxOf_none {α : Type} {p : α → Bool} {l : List α} (hno : ∀ j (hj : j < l.length), p l[j] = false) : idxOf p l = -1 := by
  have : l.findIdx? p = none := by
    rw [List.findIdx?_eq_none_iff]
    intro x hx
    obtain ⟨j, hj, rfl⟩ := List.getElem_of_mem hx
    exact hno j hj
  simp [idxOf, this]
theorem idxOf_nonneg {α : Type} (p : α → Bool) (l : List α) : decide (0 ≤ idxOf p l) = l.any p := by
  rcases h : l.findIdx? p with _ | i
  · have h2 : l.any p = false := by
      rw [List.any_eq_false]; intro x hx; have := List.findIdx?_eq_none_iff.1 h x hx; simp [this]
    simp [idxOf, h, h2]
  · have h2 : l.any p = true := by
      obtain ⟨hk, hp, _⟩ := List.findIdx?_eq_some_iff_getElem.1 h
      exact List.any_eq_true.2 ⟨_, List.getElem_mem hk, hp⟩
    simp [idxOf, h, h2]

/-- What a predicate over files keeps: asked of a file in whatever later world it answers, and turns nothing. -/
def FilePred (g : Nat) (lb : Array Value) (p : FileD → Bool) (w : World) : Prop :=
  ∀ (W : World) (f : FileD) (A1 A2 : Option Addr) (n1 c1 n2 c2 : Nat), Below w.heap.size w W → Reads W W.heap.size 1 A1 n1 (BY f.first) → Reads W W.heap.size 1 A2 n2 (BY f.last) →
    Calls Tryz.prog g (#[.agg #[.int .i64 f.number, .int .i64 f.level, .slice A1 n1 c1, .slice A2 n2 c2, .int .i64 f.low, .int .i64 f.high]] ++ lb) W fun e W' => e = .returned (.bool (p f)) ∧ Below W.heap.size W W'

theorem indexFunc_files (g : Nat) (lb : Array Value) (eg : ∀ args w, (callFunc g args).run Tryz.prog w = .ok (.enter g args) w) (p : FileD → Bool) (A : Option Addr) (n c : Nat) (fs : List FileD) (w : World) (hn : n ≤ 9223372036854775807)
    (hF : Files w w.heap.size A n fs) (hp : FilePred g lb p w) :
    Calls Tryz.prog 140 #[.slice A n c, .func (.func g) #[] lb] w fun e w' => e = .returned (.int .i64 (idxOf p fs)) ∧ Below w.heap.size w w' := by
  go_enter Tryz.func140, Tryz.ntmps140
  go_wp2
  go_loopw [8] (fun i wr => ∃ k : Nat, k ≤ n ∧ i = .int .i64 k ∧ Below w.heap.size w wr ∧ Hid (∀ j (hj : j < fs.length), j < k → p fs[j] = false)) (fun i _ => n - (intOf i).toNat)
  case atStart => exact ⟨0, Nat.zero_le _, rfl, Below.refl _ _, fun j hj h => by omega⟩
  case round =>
    obtain ⟨k, hk, rfl, hb, hno⟩ := hrel
    by_cases hlt : k < n
    · obtain ⟨b, off, hx, rfl, hbB, hc⟩ := hF.at_ hlt
      obtain ⟨A1, n1, c1, A2, n2, c2, h0, h1, h2, h3, h4, h5, r1, l1, r2, l2⟩ := (hc.keep hbB (fun _ hp => hb.cell hp) hb.size).ex
      have hcall := hp wr fs[k] A1 A2 n1 c1 n2 c2 hb r1 r2
      have HC := hide hcall
      clear hcall
      by_cases hpk : p fs[k] = true
      · rw [hpk] at HC
        go_wp2_with (go_at_fn g; refine (unhide HC).mono ?_; rintro e w1 ⟨rfl, hb1⟩)
        go_ret
        exact ⟨ret_int (idxOf_hit hx hpk (fun j hj => hno.out j (by omega) hj)).symm, hb.trans (hb1.mono hb.size)⟩
      · have hpk' : p fs[k] = false := by simpa using hpk
        rw [hpk'] at HC
        go_wp2_with (go_at_fn g; refine (unhide HC).mono ?_; rintro e w1 ⟨rfl, hb1⟩)
        go_roundw
        case rel => exact ⟨k + 1, by omega, by go_num, hb.trans (hb1.mono hb.size), fun j hj h => by
          by_cases e : j = k
          · subst e; exact hpk'
          · exact hno.out j hj (by omega)⟩
        case measure => simp [intOf]; omega
    · go_wp2
      go_ret
      have := hF.1
      exact ⟨ret_int (idxOf_none (fun j hj => hno.out j hj (by omega))).symm, hb⟩

def IntPred (g : Nat) (lb : Array Value) (p : Int → Bool) (w : World) : Prop :=
  ∀ (W : World) (z : Int), Below w.heap.size w W → Calls Tryz.prog g (#[.int .i64 z] ++ lb) W fun e W' => e = .returned (.bool (p z)) ∧ Below W.heap.size W W'
theorem indexFunc_ints (g : Nat) (lb : Array Value) (eg : ∀ args w, (callFunc g args).run Tryz.prog w = .ok (.enter g args) w) (p : Int → Bool) (A : Option Addr) (n c : Nat) (zs : List Int) (w : World) (hn : n ≤ 9223372036854775807)
    (hF : Ints w w.heap.size A n zs) (hp : IntPred g lb p w) :
    Calls Tryz.prog 152 #[.slice A n c, .func (.func g) #[] lb] w fun e w' => e = .returned (.int .i64 (idxOf p zs)) ∧ Below w.heap.size w w' := by
  go_enter Tryz.func152, Tryz.ntmps152
  go_wp2
  go_loopw [8] (fun i wr => ∃ k : Nat, k ≤ n ∧ i = .int .i64 k ∧ Below w.heap.size w wr ∧ Hid (∀ j (hj : j < zs.length), j < k → p zs[j] = false)) (fun i _ => n - (intOf i).toNat)
  case atStart => exact ⟨0, Nat.zero_le _, rfl, Below.refl _ _, fun j hj h => by omega⟩
  case round =>
    obtain ⟨k, hk, rfl, hb, hno⟩ := hrel
    by_cases hlt : k < n
    · obtain ⟨b, off, hx, rfl, hbB, hc⟩ := hF.at_ hlt
      have h0 := (hb.cell (p := ⟨b, off + k, none⟩) hbB).trans hc
      have HC := hide (hp wr zs[k] hb)
      clear hc
      generalize hz : zs[k] = z at h0 HC
      by_cases hpk : p z = true
      · rw [hpk] at HC
        have HP := hide hpk
        have HZ := hide hz
        clear hpk hz
        go_wp2_with (go_at_fn g; refine (unhide HC).mono ?_; rintro e w1 ⟨rfl, hb1⟩)
        go_ret
        exact ⟨ret_int (idxOf_hit hx (by rw [HZ.out]; exact HP.out) (fun j hj => hno.out j (by omega) hj)).symm, hb.trans (hb1.mono hb.size)⟩
      · have hpk' : p z = false := by simpa using hpk
        rw [hpk'] at HC
        have HP := hide hpk'
        have HZ := hide hz
        clear hpk hpk' hz
        go_wp2_with (go_at_fn g; refine (unhide HC).mono ?_; rintro e w1 ⟨rfl, hb1⟩)
        go_roundw
        case rel => exact ⟨k + 1, by omega, by go_num, hb.trans (hb1.mono hb.size), fun j hj h => by
          by_cases e : j = k
          · subst e; rw [HZ.out]; exact HP.out
          · exact hno.out j hj (by omega)⟩
        case measure => simp [intOf]; omega
    · go_wp2
      go_ret
      have := hF.1
      exact ⟨ret_int (idxOf_none (fun j hj => hno.out j hj (by omega))).symm, hb⟩

theorem containsFunc_files (g : Nat) (lb : Array Value) (eg : ∀ args w, (callFunc g args).run Tryz.prog w = .ok (.enter g args) w) (p : FileD → Bool) (A : Option Addr) (n c : Nat) (fs : List FileD) (w : World) (hn : n ≤ 9223372036854775807)
    (hF : Files w w.heap.size A n fs) (hp : FilePred g lb p w) :
    Calls Tryz.prog 92 #[.slice A n c, .func (.func g) #[] lb] w fun e w' => e = .returned (.bool (fs.any p)) ∧ Below w.heap.size w w' := by
  have H := hide (idxOf_nonneg p fs)
  go_enter Tryz.func92, Tryz.ntmps92
  go_wp2_with (go_at_call 140; refine (indexFunc_files g lb eg p A n c fs w hn hF hp).mono ?_; rintro e w1 ⟨rfl, hb1⟩)
  go_ret
  exact ⟨ret_bool H.out, hb1⟩
theorem containsFunc_ints (g : Nat) (lb : Array Value) (eg : ∀ args w, (callFunc g args).run Tryz.prog w = .ok (.enter g args) w) (p : Int → Bool) (A : Option Addr) (n c : Nat) (zs : List Int) (w : World) (hn : n ≤ 9223372036854775807)
    (hF : Ints w w.heap.size A n zs) (hp : IntPred g lb p w) :
    Calls Tryz.prog 93 #[.slice A n c, .func (.func g) #[] lb] w fun e w' => e = .returned (.bool (zs.any p)) ∧ Below w.heap.size w w' := by
  have H := hide (idxOf_nonneg p zs)
  go_enter Tryz.func93, Tryz.ntmps93
  go_wp2_with (go_at_call 152; refine (indexFunc_ints g lb eg p A n c zs w hn hF hp).mono ?_; rintro e w1 ⟨rfl, hb1⟩)
  go_ret
  exact ⟨ret_bool H.out, hb1⟩

theorem oddFile_pred (w : World) : FilePred 90 #[] (fun f => !okFile f) w := by
  intro W f A1 A2 n1 c1 n2 c2 hb r1 r2
  show Calls Tryz.prog 90 #[.agg #[.int .i64 f.number, .int .i64 f.level, .slice A1 n1 c1, .slice A2 n2 c2, .int .i64 f.low, .int .i64 f.high]] W _
  go_enter Tryz.func90, Tryz.ntmps90
  go_wp2_with (go_at_call 87; refine (version_rightFile f A1 A2 n1 c1 n2 c2 _ (r1.alloc (Nat.le_refl _) _ |>.more (by simp)) (r2.alloc (Nat.le_refl _) _ |>.more (by simp))).mono ?_; rintro e w1 ⟨rfl, hb1⟩)
  go_ret
  exact ⟨rfl, ((Below.refl _ _).alloc (Nat.le_refl _) _).trans (hb1.mono (by simp))⟩
theorem oddInt_pred (w : World) : IntPred 91 #[] (fun z => !withinB z 1 999999) w := by
  intro W z hb
  show Calls Tryz.prog 91 #[.int .i64 z] W _
  go_enter Tryz.func91, Tryz.ntmps91
  go_wp2_with (go_at_call 45; refine (version_within _ _ _ _).mono ?_; rintro e w1 ⟨rfl, rfl⟩)
  go_ret
  exact ⟨rfl, Below.refl _ _⟩

/-- An edit, plain. -/
structure EditD where
  add : List FileD
  drop : List Int
  log : Int
  next : Int
def okEdit (e : EditD) : Bool := decide ((e.add.length : Int) ≤ 50) && (decide ((e.drop.length : Int) ≤ 50) && (withinB e.log 0 1099511627776 && (withinB e.next 0 1099511627776 && (!(e.add.any fun f => !okFile f) && !(e.drop.any fun z => !withinB z 1 999999)))))
/-- A state, plain. -/
structure StD where
  files : List FileD
  log : Int
  next : Int
end Go.Proofs.YtgjmfncebbfniaaGreatDoor
