/- A store in memory: what holds of the program's blocks. -/
import Derived.Test.YtgjmfncebbfniaaGreatDoorTag
namespace Go.Proofs.YtgjmfncebbfniaaGreatDoor
set_option maxRecDepth 100000
open Go Go.RowKit Go.Maps

abbrev tB : Option TypeId := some 5
abbrev tSto : Option TypeId := some 95
abbrev tFile : Option TypeId := some 118
abbrev tPtr : Option TypeId := some 116
abbrev tStr : Option TypeId := some 9
abbrev tFun : Option TypeId := some 111

abbrev ptr (b : Nat) : Value := .pointer (some ⟨b, 0, none⟩)
abbrev str (n : Nm) : Value := .string ⟨n.toArray⟩

/-- A change that is kept: a function, and what it has captured. -/
def ChgAt (w : World) (S : Nat → Prop) (fa : Nat → Nat) (v : Value) : Chg → Prop
  | .put n k => ∃ p q, v = .func (.func 132) #[] #[ptr p, ptr q] ∧ Blk w p 116 #[ptr (fa k)] ∧ Blk w q 9 #[str n] ∧ S p ∧ S q
  | .ren a b k => ∃ p q r, v = .func (.func 171) #[] #[ptr p, ptr q, ptr r] ∧ Blk w p 9 #[str a] ∧ Blk w q 116 #[ptr (fa k)] ∧ Blk w r 9 #[str b] ∧ S p ∧ S q ∧ S r
  | .del n => ∃ p, v = .func (.func 166) #[] #[ptr p] ∧ Blk w p 9 #[str n] ∧ S p
/-- The changes that are kept. -/
def KeptIs (w : World) (B : Nat) (S : Nat → Prop) (fa : Nat → Nat) (kv : Value) (l : List Chg) : Prop :=
  ∃ vs : List Value, w.ownsRow B 111 1 kv l.length vs ∧ (∀ g, kv.ownBlock = some g → S g) ∧ ∀ (i : Nat) (c : Chg), l[i]? = some c → ∃ v, vs[i]? = some v ∧ ChgAt w S fa v c
/-- The files. -/
structure FilesIs (w : World) (B : Nat) (S : Nat → Prop) (fa : Nat → Nat) (fv : Nat → Value) (fs : List FileE) : Prop where
  blk : ∀ (k : Nat) (f : FileE), fs[k]? = some f → Blk w (fa k) 118 #[fv k, .int .i64 f.sure]
  own : ∀ (k : Nat) (f : FileE), fs[k]? = some f → OwnB w B (fv k) f.bytes
  sa : ∀ k, k < fs.length → S (fa k)
  sv : ∀ k, k < fs.length → ∀ g, (fv k).ownBlock = some g → S g
  inj : ∀ i j, i < fs.length → j < fs.length → fa i = fa j → i = j
  ne : ∀ i j g, i < fs.length → j < fs.length → (fv i).ownBlock = some g → (fv j).ownBlock = some g → i = j
/-- The plan. -/
structure PlanIs (w : World) (S : Nat → Prop) (A : Option Addr) (n c : Nat) (l : List UInt8) : Prop where
  rd : Reads w w.heap.size 1 A n (BY l)
  le : n ≤ c
  nl : n ≤ lim
  sp : 0 < n → ∀ ad, A = some ad → S ad.block ∧ tag w ad.block = tB
/-- A directory. -/
def DirIs (w : World) (fa : Nat → Nat) (b : Nat) (d : Dir) : Prop := w.ownsMap Tryz.prog 9 ptrR b d.length (dirD fa d)

structure StoV where
  nb : Nat
  db : Nat
  kv : Value
  pA : Option Addr
  pn : Nat
  pc : Nat
  fa : Nat → Nat
  fv : Nat → Value

structure Sto (w : World) (B : Nat) (S : Nat → Prop) (sb : Nat) (V : StoV) (st : StoD) : Prop where
  blk : Blk w sb 95 #[.int .i64 st.room, .map (some V.nb), .map (some V.db), V.kv, .slice V.pA V.pn V.pc, .bool st.down]
  now : DirIs w V.fa V.nb st.now
  disk : DirIs w V.fa V.db st.disk
  kept : KeptIs w B S V.fa V.kv st.kept
  files : FilesIs w B S V.fa V.fv st.files
  plan : PlanIs w S V.pA V.pn V.pc st.next
  apart : 0 < V.pn → ∀ ad, V.pA = some ad → ∀ k, k < st.files.length → (V.fv k).ownBlock ≠ some ad.block
  ne : V.nb ≠ V.db
  ssb : S sb
  snb : S V.nb
  sdb : S V.db
  lt : ∀ k, S k → B ≤ k ∧ k < w.heap.size

section
variable {w W : World} {B sb b n c : Nat} {S S' T : Nat → Prop} {fa : Nat → Nat} {fv : Nat → Value} {v kv : Value} {ch : Chg} {l : List Chg} {fs : List FileE} {A : Option Addr} {d : Dir} {xs : List UInt8} {V : StoV} {st : StoD}
theorem ChgAt.keep (h : ChgAt w S fa v ch) (hk : Kept T w W) (hT : Off w S T [tPtr, tStr]) : ChgAt W S fa v ch := by
  cases ch with
  | put n k =>
    obtain ⟨p, q, e, h1, h2, s1, s2⟩ := h
    exact ⟨p, q, e, h1.kept hk (hT.blk h1 s1 (by simp)), h2.kept hk (hT.blk h2 s2 (by simp)), s1, s2⟩
  | ren a b k =>
    obtain ⟨p, q, r, e, h1, h2, h3, s1, s2, s3⟩ := h
    exact ⟨p, q, r, e, h1.kept hk (hT.blk h1 s1 (by simp)), h2.kept hk (hT.blk h2 s2 (by simp)), h3.kept hk (hT.blk h3 s3 (by simp)), s1, s2, s3⟩
  | del n =>
    obtain ⟨p, e, h1, s1⟩ := h
    exact ⟨p, e, h1.kept hk (hT.blk h1 s1 (by simp)), s1⟩
theorem ChgAt.mono (h : ChgAt w S fa v ch) (hS : ∀ k, S k → S' k) : ChgAt w S' fa v ch := by
  cases ch with
  | put n k => obtain ⟨p, q, e, h1, h2, s1, s2⟩ := h; exact ⟨p, q, e, h1, h2, hS _ s1, hS _ s2⟩
  | ren a b k => obtain ⟨p, q, r, e, h1, h2, h3, s1, s2, s3⟩ := h; exact ⟨p, q, r, e, h1, h2, h3, hS _ s1, hS _ s2, hS _ s3⟩
  | del n => obtain ⟨p, e, h1, s1⟩ := h; exact ⟨p, e, h1, hS _ s1⟩
theorem KeptIs.keep (h : KeptIs w B S fa kv l) (hk : Kept T w W) (hT : Off w S T [tFun, tPtr, tStr]) : KeptIs W B S fa kv l := by
  obtain ⟨vs, hr, hS, hc⟩ := h
  refine ⟨vs, ownsRow_kept hr hk (hT.own hr hS (by simp)), hS, fun i c hi => ?_⟩
  obtain ⟨v, h1, h2⟩ := hc i c hi
  exact ⟨v, h1, h2.keep hk (hT.sub (by simp))⟩
theorem KeptIs.mono (h : KeptIs w B S fa kv l) (hS : ∀ k, S k → S' k) : KeptIs w B S' fa kv l := by
  obtain ⟨vs, hr, hs, hc⟩ := h
  refine ⟨vs, hr, fun g hg => hS _ (hs g hg), fun i c hi => ?_⟩
  obtain ⟨v, h1, h2⟩ := hc i c hi
  exact ⟨v, h1, h2.mono hS⟩
theorem FilesIs.keep (h : FilesIs w B S fa fv fs) (hk : Kept T w W) (hT : Off w S T [tFile, tB]) : FilesIs W B S fa fv fs := by
  refine ⟨fun k f hf => ?_, fun k f hf => ?_, h.sa, h.sv, h.inj, h.ne⟩
  · have hlt := (List.getElem?_eq_some_iff.1 hf).1
    exact (h.blk k f hf).kept hk (hT.blk (h.blk k f hf) (h.sa k hlt) (by simp))
  · have hlt := (List.getElem?_eq_some_iff.1 hf).1
    exact OwnB.kept (h.own k f hf) hk (hT.own (h.own k f hf) (h.sv k hlt) (by simp))
theorem FilesIs.mono (h : FilesIs w B S fa fv fs) (hS : ∀ k, S k → S' k) : FilesIs w B S' fa fv fs :=
  ⟨h.blk, h.own, fun k hk => hS _ (h.sa k hk), fun k hk g hg => hS _ (h.sv k hk g hg), h.inj, h.ne⟩
theorem PlanIs.keep (h : PlanIs w S A n c xs) (hk : Kept T w W) (hT : Off w S T [tB]) : PlanIs W S A n c xs := by
  have hn : 0 < n → ∀ ad, A = some ad → ad.block < w.heap.size ∧ ¬ T ad.block := fun h0 ad e => by
    obtain ⟨ad', e', hb, _⟩ := h.rd.2 h0
    rw [e] at e'
    injection e' with e'
    subst e'
    exact ⟨hb, fun ht => hT _ ht (h.sp h0 ad e).1 _ (by simp) (h.sp h0 ad e).2⟩
  refine ⟨⟨h.rd.1, fun h0 => ?_⟩, h.le, h.nl, fun h0 ad e => ⟨(h.sp h0 ad e).1, ?_⟩⟩
  · obtain ⟨ad, e, hb, hc⟩ := h.rd.2 h0
    have h1 := hn h0 ad e
    exact ⟨ad, e, Nat.lt_of_lt_of_le hb hk.size, fun j u hu => (hk.cell (p := ad.add j) (by rw [block_of_add]; exact hb) (by rw [block_of_add]; exact h1.2)).trans (hc j u hu)⟩
  · have h1 := hn h0 ad e
    rw [Kept.tag hk h1.1 h1.2]
    exact (h.sp h0 ad e).2
theorem PlanIs.mono (h : PlanIs w S A n c xs) (hS : ∀ k, S k → S' k) : PlanIs w S' A n c xs := ⟨h.rd, h.le, h.nl, fun h0 ad e => ⟨hS _ (h.sp h0 ad e).1, (h.sp h0 ad e).2⟩⟩
theorem DirIs.keep (h : DirIs w fa b d) (hk : Kept T w W) (hT : ¬ T b) : DirIs W fa b d := ownsMap_kept h hk hT
theorem ownsMap_tight {P : Program} {kt : TypeId} {R : Value → Option (DataW Unit × List MemPlace)} {D : DataW Unit} (h : w.ownsMap P kt R b n D) : w.ownsMap P kt R b (Maps.size D) D := by
  obtain ⟨es, clock, hb, F, hs, rfl⟩ := h
  refine ⟨es, clock, hb, F, ?_, rfl⟩
  show es.size ≤ List.length _
  rw [length_read]
  exact Nat.le_refl _
theorem DirIs.mk {m : Nat} (h : w.ownsMap Tryz.prog 9 ptrR b m (dirD fa d)) : DirIs w fa b d := by
  have := ownsMap_tight h
  rw [dirD_size] at this
  exact this
theorem DirIs.tag (h : DirIs w fa b d) : tag w b = none := map_tag h
theorem Sto.keepS (h : Sto w B S sb V st) (hk : Kept T w W) (hd : ∀ k, T k → ¬ S k) : Sto W B S sb V st :=
  ⟨h.blk.kept hk (fun e => hd _ e h.ssb), h.now.keep hk (fun e => hd _ e h.snb), h.disk.keep hk (fun e => hd _ e h.sdb), h.kept.keep hk (Off.away hd), h.files.keep hk (Off.away hd), h.plan.keep hk (Off.away hd), h.apart, h.ne, h.ssb, h.snb, h.sdb,
    fun k hS => ⟨(h.lt k hS).1, Nat.lt_of_lt_of_le (h.lt k hS).2 hk.size⟩⟩
theorem Sto.call (h : Sto w B S sb V st) (hb : Below w.heap.size w W) : Sto W B S sb V st := h.keepS (Kept.of_below (S := fun _ => False) hb) (fun _ h => h.elim)
theorem Sto.alloc (h : Sto w B S sb V st) (o : Obj) : Sto (w.alloc o) B S sb V st := h.call ((Below.refl _ _).alloc (Nat.le_refl _) _)
theorem Sto.drew (h : Sto w B S sb V st) : Sto w.drew B S sb V st := h.call ⟨rfl, rfl, rfl, Nat.le_refl _, fun _ _ => rfl⟩
theorem Sto.drewN (h : Sto w B S sb V st) (n : Nat) : Sto (w.drewN n) B S sb V st := h.call ⟨rfl, rfl, rfl, Nat.le_refl _, fun _ _ => rfl⟩
theorem Sto.more (h : Sto w B S sb V st) (hS : ∀ k, S k → S' k) (hl : ∀ k, S' k → B ≤ k ∧ k < w.heap.size) : Sto w B S' sb V st :=
  ⟨h.blk, h.now, h.disk, h.kept.mono hS, h.files.mono hS, h.plan.mono hS, h.apart, h.ne, hS _ h.ssb, hS _ h.snb, hS _ h.sdb, hl⟩
/-- The store's own block is written. -/
theorem Sto.reblk (h : Sto w B S sb V st) (hk : Kept (fun k => k = sb) w W) {kv' : Value} {A' : Option Addr} {n' c' : Nat} {l' : List Chg} {xs' : List UInt8} {dn : Bool}
    (hblk : Blk W sb 95 #[.int .i64 st.room, .map (some V.nb), .map (some V.db), kv', .slice A' n' c', .bool dn]) (hkept : KeptIs w B S V.fa kv' l') (hplan : PlanIs w S A' n' c' xs')
    (hap : 0 < n' → ∀ ad, A' = some ad → ∀ k, k < st.files.length → (V.fv k).ownBlock ≠ some ad.block) : Sto W B S sb { V with kv := kv', pA := A', pn := n', pc := c' } { st with kept := l', next := xs', down := dn } := by
  have hoff : ∀ ts : List (Option TypeId), tSto ∉ ts → Off w S (fun k => k = sb) ts := fun ts ht => Off.one h.blk.tag ht
  have hne : ∀ b', tag w b' = none → ¬ b' = sb := fun b' e e' => by subst e'; rw [h.blk.tag] at e; cases e
  exact ⟨hblk, h.now.keep hk (hne _ h.now.tag), h.disk.keep hk (hne _ h.disk.tag), hkept.keep hk (hoff _ (by decide)), h.files.keep hk (hoff _ (by decide)), hplan.keep hk (hoff _ (by decide)), hap, h.ne, h.ssb, h.snb, h.sdb,
    fun k hS => ⟨(h.lt k hS).1, Nat.lt_of_lt_of_le (h.lt k hS).2 hk.size⟩⟩
theorem Sto.set_off (h : Sto w B S sb V st) (b : Bool) : Sto (w.setCell ⟨sb, 5, none⟩ (.bool b)) B S sb V { st with down := b } :=
  h.reblk (Kept.one w sb 5 _) (h.blk.set_ 5 _) h.kept h.plan h.apart
theorem Sto.set_plan (h : Sto w B S sb V st) (hp : PlanIs w S A n c xs) (hap : 0 < n → ∀ ad, A = some ad → ∀ k, k < st.files.length → (V.fv k).ownBlock ≠ some ad.block) :
    Sto (w.setCell ⟨sb, 4, none⟩ (.slice A n c)) B S sb { V with pA := A, pn := n, pc := c } { st with next := xs } :=
  h.reblk (Kept.one w sb 4 _) (h.blk.set_ 4 _) h.kept hp hap
/-- The directory of now is written. -/
theorem Sto.put_now (h : Sto w B S sb V st) (hd : DirIs W V.fa V.nb d) (hk : Kept (fun k => k = V.nb) w W) : Sto W B S sb V { st with now := d } := by
  have hoff : ∀ ts : List (Option TypeId), none ∉ ts → Off w S (fun k => k = V.nb) ts := fun ts ht => Off.one h.now.tag ht
  have hne : ¬ sb = V.nb := fun e => by have := h.now.tag; rw [← e, h.blk.tag] at this; cases this
  exact ⟨h.blk.kept hk hne, hd, h.disk.keep hk (fun e => h.ne e.symm), h.kept.keep hk (hoff _ (by decide)), h.files.keep hk (hoff _ (by decide)), h.plan.keep hk (hoff _ (by decide)), h.apart, h.ne, h.ssb, h.snb, h.sdb,
    fun k hS => ⟨(h.lt k hS).1, Nat.lt_of_lt_of_le (h.lt k hS).2 hk.size⟩⟩
end
end Go.Proofs.YtgjmfncebbfniaaGreatDoor
