/- Package store: looking a name up; a change of a directory, as it is made; meet. -/
/- Package store: meet, change. -/
import Derived.Test.YtgjmfncebbfniaaGreatDoorStoA
namespace Go.Proofs.YtgjmfncebbfniaaGreatDoor
set_option maxRecDepth 100000
open Go Go.RowKit Go.Maps

theorem strK : Keyed Tryz.prog 9 := string_keyed Tryz.underlying9
theorem keyStr {n : Nm} (h : n.length ≤ maxLen) : keyOf Tryz.prog 9 (str n) = some (.string n) := by
  have := WideMaps.keyOf_string_mk (P := Tryz.prog) Tryz.underlying9 (s := ⟨n.toArray⟩) h
  simpa using this
theorem zero_ptr (w : World) : (zeroValue 116).run Tryz.prog w = .ok (.pointer none) w := by kernel_rfl
section
variable {w W : World} {B sb b n c : Nat} {S S' T : Nat → Prop} {fa : Nat → Nat} {d : Dir} {nm : Nm} {k : Nat}
theorem DirIs.look_some (h : DirIs w fa b d) (hn : nm.length ≤ maxLen) (hf : dFind d nm = some k) :
    (Instr.lookup 92 (.map (some b)) (str nm) true).run Tryz.prog w = .ok (.tuple #[ptr (fa k), .bool true]) w := by
  obtain ⟨v, ps, hrun, hv⟩ := h.look_ok strK Tryz.underlying92 (zero_ptr w) (zd := .nil) (zp := []) rfl (keyStr hn)
  rw [dirD_at, hf] at hv
  rw [dirD_has, hf] at hrun
  rw [hrun, ptrR_inv hv]
  rfl
theorem DirIs.look_none (h : DirIs w fa b d) (hn : nm.length ≤ maxLen) (hf : dFind d nm = none) :
    ∃ v, (Instr.lookup 92 (.map (some b)) (str nm) true).run Tryz.prog w = .ok (.tuple #[v, .bool false]) w := by
  obtain ⟨v, ps, hrun, hv⟩ := h.look_ok strK Tryz.underlying92 (zero_ptr w) (zd := .nil) (zp := []) rfl (keyStr hn)
  rw [dirD_has, hf] at hrun
  exact ⟨v, hrun⟩
theorem Kept.of_turned (h : w.mapTurned W b) : Kept (fun k => k = b) w W := by
  have g := h.grown
  exact ⟨g.os, g.tape, g.output, g.size, fun k hk hn => g.block k hk (fun e => hn (by injection e))⟩
theorem Kept.of_grow1 (h : w.grownBy W (some b)) : Kept (fun k => k = b) w W := ⟨h.os, h.tape, h.output, h.size, fun k hk hn => h.block k hk (fun e => hn (by injection e))⟩
end
/-- The names that a change names are short. -/
def chgLen : Chg → Prop
  | .put n _ => n.length ≤ 64
  | .ren a b _ => a.length ≤ 64 ∧ b.length ≤ 64
  | .del n => n.length ≤ 64
/-- A change, called. -/
def ChgDone (w : World) (fa : Nat → Nat) (b : Nat) (d : Dir) (c : Chg) (e : Ending) (W : World) : Prop := e = .returned (.tuple #[]) ∧ DirIs W fa b (made d c) ∧ Kept (fun k => k = b) w W
theorem chg_put (w : World) (fa : Nat → Nat) (b : Nat) (d : Dir) (n : Nm) (k p q : Nat) (hd : DirIs w fa b d) (hl : d.length ≤ lim) (hp : Blk w p 116 #[ptr (fa k)]) (hq : Blk w q 9 #[str n]) (hn : n.length ≤ 64) :
    Calls Tryz.prog 132 #[.map (some b), ptr p, ptr q] w (ChgDone w fa b d (.put n k)) := by
  have hmax : n.length ≤ maxLen := by unfold maxLen; omega
  have hlen : d.length < maxLen := by unfold maxLen; unfold lim at hl; omega
  have hcp := hp.cell 0
  have hcq := hq.cell 0
  have HK := hide (keyStr hmax)
  have HL := hide hlen
  clear hl hmax hlen
  go_enter Tryz.func132, Tryz.ntmps132
  go_wp2_with (at_mapUpdate; refine wpList_mapUpdate_own _ rfl _ _ _ 92 rfl 9 116 strK Tryz.underlying92 ptrR b d.length (dirD fa d) rfl hd (unhide HL) _ _ (.string n) rfl rfl (unhide HK) (.lit (.int .i64 (fa k))) [] rfl ?_; intro w1 hown1 hg1)
  go_end0
  refine ⟨rfl, DirIs.mk (by rw [made, ← dirD_put]; exact hown1), Kept.of_grow1 hg1⟩
theorem chg_del (w : World) (fa : Nat → Nat) (b : Nat) (d : Dir) (n : Nm) (p : Nat) (hd : DirIs w fa b d) (hp : Blk w p 9 #[str n]) (hn : n.length ≤ 64) :
    Calls Tryz.prog 166 #[.map (some b), ptr p] w (ChgDone w fa b d (.del n)) := by
  have hmax : n.length ≤ maxLen := by unfold maxLen; omega
  have hcp := hp.cell 0
  have HK := hide (keyStr hmax)
  clear hmax
  go_enter Tryz.func166, Tryz.ntmps166
  go_wp2_with (at_delete; refine wpList_delete_own _ rfl _ _ 92 9 rfl 116 strK Tryz.underlying92 ptrR b d.length (dirD fa d) rfl hd _ _ rfl (unhide HK) ?_; intro w1 hown1 hg1)
  go_end0
  refine ⟨rfl, DirIs.mk (by rw [made, ← dirD_del]; exact hown1), Kept.of_turned hg1⟩
theorem chg_ren (w : World) (fa : Nat → Nat) (b : Nat) (d : Dir) (n m : Nm) (k p q r : Nat) (hd : DirIs w fa b d) (hl : d.length ≤ lim) (hp : Blk w p 9 #[str n]) (hq : Blk w q 116 #[ptr (fa k)]) (hr : Blk w r 9 #[str m]) (hn : n.length ≤ 64) (hm : m.length ≤ 64) :
    Calls Tryz.prog 171 #[.map (some b), ptr p, ptr q, ptr r] w (ChgDone w fa b d (.ren n m k)) := by
  have hmax : n.length ≤ maxLen := by unfold maxLen; omega
  have hmax2 : m.length ≤ maxLen := by unfold maxLen; omega
  have hlen : d.length < maxLen := by unfold maxLen; unfold lim at hl; omega
  have hcp := hp.cell 0
  have HK := hide (keyStr hmax)
  have HK2 := hide (keyStr hmax2)
  have HL := hide hlen
  clear hl hmax hmax2 hlen
  have hb : tag w b = none := hd.tag
  go_enter Tryz.func171, Tryz.ntmps171
  go_wp2_with (first
    | (at_delete; refine wpList_delete_own _ rfl _ _ 92 9 rfl 116 strK Tryz.underlying92 ptrR b d.length (dirD fa d) rfl hd _ _ rfl (unhide HK) ?_; intro w1 hown1 hg1
       have hk1 := Kept.of_turned hg1
       have hcq := (hq.kept hk1 (fun e => by have := hq.tag; rw [e, hb] at this; cases this)).cell 0
       have hcr := (hr.kept hk1 (fun e => by have := hr.tag; rw [e, hb] at this; cases this)).cell 0
       rw [dirD_del] at hown1)
    | (at_mapUpdate; refine wpList_mapUpdate_own _ rfl _ _ _ 92 rfl 9 116 strK Tryz.underlying92 ptrR b d.length (dirD fa (dWithout d n)) rfl hown1 (unhide HL) _ _ (.string m) rfl rfl (unhide HK2) (.lit (.int .i64 (fa k))) [] rfl ?_; intro w2 hown2 hg2))
  go_end0
  refine ⟨rfl, DirIs.mk (by rw [made, ← dirD_put]; exact hown2), hk1.trans (Kept.of_grow1 hg2)⟩
theorem made_len (d : Dir) (c : Chg) : (made d c).length ≤ d.length + 1 := by
  have h1 : ∀ (d : Dir) n, (dWithout d n).length ≤ d.length := fun d n => List.length_filter_le _ _
  have h2 : ∀ (d : Dir) n i, (dIns d n i).length = d.length + 1 := fun d n i => by
    induction d with
    | nil => rfl
    | cons e r ih => rw [dIns]; split <;> simp [ih]
  cases c with
  | put n k => show (dIns _ n k).length ≤ _; rw [h2]; have := h1 d n; omega
  | ren a b k => show (dIns (dWithout (dWithout d a) b) b k).length ≤ _; rw [h2]; have := h1 (dWithout d a) b; have := h1 d a; omega
  | del n => have := h1 d n; show (dWithout d n).length ≤ _; omega
/-- Any change that is kept, called on a directory. -/
theorem chg_call (w : World) (S : Nat → Prop) (fa : Nat → Nat) (b : Nat) (d : Dir) (c : Chg) (v : Value) (hc : ChgAt w S fa v c) (hd : DirIs w fa b d) (hl : d.length ≤ lim) (hn : chgLen c) :
    ∃ g lb, v = .func (.func g) #[] lb ∧ (∀ args w, (callFunc g args).run Tryz.prog w = .ok (.enter g args) w) ∧ Calls Tryz.prog g (#[.map (some b)] ++ lb) w (ChgDone w fa b d c) := by
  cases c with
  | put n k =>
    obtain ⟨p, q, rfl, h1, h2, _⟩ := hc
    exact ⟨_, _, rfl, enters_of Tryz.func132 (by kernel_rfl) rfl, chg_put w fa b d n k p q hd hl h1 h2 hn⟩
  | ren n m k =>
    obtain ⟨p, q, r, rfl, h1, h2, h3, _⟩ := hc
    exact ⟨_, _, rfl, enters_of Tryz.func171 (by kernel_rfl) rfl, chg_ren w fa b d n m k p q r hd hl h1 h2 h3 hn.1 hn.2⟩
  | del n =>
    obtain ⟨p, rfl, h1, _⟩ := hc
    exact ⟨_, _, rfl, enters_of Tryz.func166 (by kernel_rfl) rfl, chg_del w fa b d n p hd h1 hn⟩
end Go.Proofs.YtgjmfncebbfniaaGreatDoor

namespace Go.Proofs.YtgjmfncebbfniaaGreatDoor
set_option maxRecDepth 100000
open Go Go.RowKit Go.Maps

theorem PlanIs.tail {w : World} {S : Nat → Prop} {b off n c : Nat} {x : UInt8} {r : List UInt8} (h : PlanIs w S (some ⟨b, off, none⟩) n c (x :: r)) : PlanIs w S (if c = 1 then some ⟨b, off, none⟩ else some ⟨b, off + 1, none⟩) (n - 1) (c - 1) r := by
  have hn := h.rd.blen
  simp only [List.length_cons] at hn
  have h1 : Reads w w.heap.size 1 (if c = 1 then some ⟨b, off, none⟩ else some ⟨b, off + 1, none⟩) (n - 1) (BY ((x :: r).drop 1)) := h.rd.cutB (by omega) h.le
  refine ⟨h1, by have := h.le; omega, by have := h.nl; omega, fun h0 ad e => ?_⟩
  have h2 := h.sp (by omega) _ rfl
  split at e <;> (injection e with e; subst e; exact h2)
/-- What meet leaves. -/
def MeetPost (w : World) (B : Nat) (S : Nat → Prop) (sb : Nat) (V : StoV) (r : Int × StoD) (e : Ending) (W : World) : Prop :=
  e = .returned (.int .i64 r.1) ∧ Kept (fun k => k = sb) w W ∧ ∃ A n c, Sto W B S sb { V with pA := A, pn := n, pc := c } r.2
theorem may_bad (st : StoD) : st.may false = (1, st) := rfl
theorem may_off {st : StoD} (h : st.down = true) : st.may true = (8, st) := by unfold StoD.may; simp [h]
theorem may_nil {st : StoD} (h : st.down = false) (hn : st.next = []) : st.may true = (0, st) := by unfold StoD.may; simp [h, hn]
theorem may_one {st : StoD} {r : List UInt8} (h : st.down = false) (hn : st.next = 1 :: r) : st.may true = (7, { st with next := r }) := by unfold StoD.may; simp [h, hn]
theorem may_two {st : StoD} {r : List UInt8} (h : st.down = false) (hn : st.next = 2 :: r) : st.may true = (8, { st with next := r, down := true }) := by unfold StoD.may; simp [h, hn]
theorem may_go {st : StoD} {c : UInt8} {r : List UInt8} (h : st.down = false) (hn : st.next = c :: r) (h1 : c ≠ 1) (h2 : c ≠ 2) : st.may true = (0, { st with next := r }) := by unfold StoD.may; simp [h, hn, h1, h2]

set_option maxHeartbeats 1000000 in
theorem store_meet (w : World) (B : Nat) (S : Nat → Prop) (sb : Nat) (V : StoV) (st : StoD) (A : Option Addr) (n c : Nat) (ns : List Nm) (hn : n ≤ 9223372036854775807) (hs : Strs w A n ns) (h : Sto w B S sb V st) :
    Calls Tryz.prog 130 #[ptr sb, .slice A n c] w (MeetPost w B S sb V (st.may (ns.all isNm))) := by
  have HM := hide (store_named A n c ns w hn hs)
  have hlt := (h.lt sb h.ssb).2
  have HS := hide h
  clear h
  cases hall : ns.all isNm
  · rw [hall] at HM
    have HA := hide hall
    clear hall
    go_enter Tryz.func130, Tryz.ntmps130
    go_wp2_with (go_at_call 104; refine (unhide HM).mono ?_; rintro e w1 ⟨rfl, hb1⟩)
    go_ret
    exact ⟨rfl, Kept.of_below hb1, _, _, _, HS.out.call hb1⟩
  · rw [hall] at HM
    have HA := hide hall
    clear hall
    go_enter Tryz.func130, Tryz.ntmps130
    go_wp2_with fail
    refine (unhide HM).mono ?_
    rintro e w1 ⟨rfl, hb1⟩
    have h1 := HS.out.call hb1
    have hk1 := hide (Kept.of_below (S := fun k => k = sb) hb1)
    have hc5 := h1.blk.cell 5
    have hc4 := h1.blk.cell 4
    have hf4 := h1.blk.frozen 4
    have hf5 := h1.blk.frozen 5
    have H1 := hide h1
    obtain ⟨room, files, now, disk, kept, next, down⟩ := st
    clear h1 hb1 HS
    cases down
    · rcases next with _ | ⟨x, r⟩
      · have hz : V.pn = 0 := by have := H1.out.plan.rd.blen; simpa using this
        have HR := hide (may_nil (st := ⟨room, files, now, disk, kept, [], false⟩) rfl rfl)
        simp only [hz] at hc4
        clear hz
        go_wp2
        go_ret
        rw [HR.out]
        exact ⟨rfl, hk1.out, _, _, _, H1.out⟩
      · have hp := H1.out.plan
        have hz := hp.rd.blen
        have hpos : 0 < V.pn := by simp only [List.length_cons] at hz; omega
        obtain ⟨b, off, hA, hbB, hcells⟩ := hp.rd.spot hpos (by omega)
        have hc0 := hcells 0 (.int .u8 (x.toNat : Int)) (by simp [BY])
        rw [Nat.add_zero] at hc0
        have hlen0 : V.pn ≤ 9223372036854775807 := lim_le hp.nl
        have hle : V.pn ≤ V.pc := hp.le
        have hbl := byte_lt x
        have hap := H1.out.apart hpos _ hA
        rw [hA] at hp hc4
        have HT := hide hp.tail
        have HAP := hide hap
        clear hp hz hA hap hcells
        have HST : Hid (Sto (w1.setCell ⟨sb, 4, none⟩ (.slice (if V.pc = 1 then some ⟨b, off, none⟩ else some ⟨b, off + 1, none⟩) (V.pn - 1) (V.pc - 1))) B S sb
            { V with pA := if V.pc = 1 then some ⟨b, off, none⟩ else some ⟨b, off + 1, none⟩, pn := V.pn - 1, pc := V.pc - 1 } ⟨room, files, now, disk, kept, r, false⟩) :=
          H1.out.set_plan HT.out (fun h0 ad e k hk => by
            have := HAP.out k hk
            split at e <;> (injection e with e; subst e; exact this))
        have hv := hide (Kept.one w1 sb 4 (.slice (if V.pc = 1 then some ⟨b, off, none⟩ else some ⟨b, off + 1, none⟩) (V.pn - 1) (V.pc - 1)))
        generalize V.pn = pn at hc4 hpos hlen0 hle HST hv
        generalize V.pc = pc at hc4 hle HST hv
        have hne : ((pn : Int) == 0) = false := by simp; omega
        clear HT HAP
        by_cases hc1 : pc = 1
        case' pos => subst hc1; (obtain rfl : pn = 1 := by omega); simp only [if_true, Nat.sub_self] at HST hv
        case' neg => simp only [if_neg hc1] at HST hv
        all_goals
          go_wp2
          · have hx : x = 1 := by
              have h : ((x.toNat : Int) == 1) = true := by assumption
              rw [← UInt8.toNat_inj]; simp at h; exact Int.ofNat.inj h
            subst hx
            go_ret
            rw [may_one rfl rfl]
            exact ⟨rfl, hk1.out.trans hv.out, _, _, _, HST.out⟩
          · have hx : x = 2 := by
              have h : ((x.toNat : Int) == 2) = true := by assumption
              rw [← UInt8.toNat_inj]; simp at h; exact Int.ofNat.inj h
            subst hx
            go_ret
            rw [may_two rfl rfl]
            exact ⟨rfl, (hk1.out.trans hv.out).trans (Kept.one _ sb 5 _), _, _, _, HST.out.set_off true⟩
          · have h1 : x ≠ 1 := by
              have h : ((x.toNat : Int) == 1) = false := by assumption
              rintro rfl; simp at h
            have h2 : x ≠ 2 := by
              have h : ((x.toNat : Int) == 2) = false := by assumption
              rintro rfl; simp at h
            go_ret
            rw [may_go rfl rfl h1 h2]
            exact ⟨rfl, hk1.out.trans hv.out, _, _, _, HST.out⟩
    · have HR := hide (may_off (st := ⟨room, files, now, disk, kept, next, true⟩) rfl)
      go_wp2
      go_ret
      rw [HR.out]
      exact ⟨rfl, hk1.out, _, _, _, H1.out⟩
end Go.Proofs.YtgjmfncebbfniaaGreatDoor
