/- The ledger as the bank has it: what stands of it, what its operations turn. The ledger as the bank has it: Let, Take. The ledger as the bank has it: Open, Post. A bank in memory: its own blocks, its deals, its ledger. -/
import Derived.Test.YtchkdidpnjakeaaGreatDoorGAEnter
import Derived.Test.YtchkdidpnjakeaaGreatDoorGClass
import Derived.Test.YtchkdidpnjakeaaGreatDoorGWReg
import Derived.OpenShut
import Derived.Shelf.Small.Bits
import Derived.Shelf.Small.Wraps
import Derived.Shelf.Strconv.Itoa0
import Derived.Shelf.Strconv.Itoa1
import Derived.Shelf.LaysM
import Derived.Shelf.Strconv.Itoa2
import Derived.Shelf.Strconv.Itoa3
import Derived.Deep.RegionHeld3
import Derived.Deep.RegionWith
import Derived.Lib.ConvBytes
import Derived.Deep.RegionLaw
import Derived.Deep.AppendLies
import Derived.Lib.AppendZeros
import Derived.Lib.AppendZerosOnto
import Derived.Deep.Cut
import Derived.Lib.SliceRun
import Derived.Maps.AppendAt
import Derived.Lib.Hide
import Derived.WalkKit
import Derived.WalkSpells
import Derived.WalkLawsBesides
import Derived.Carry
import Derived.Deep.QuietTactic
import Derived.BigQuiet
import Derived.Maps.OwnSet
import Derived.Laws.Rows
import Derived.Shelf.Abstract
import Derived.Laws.MakeOwn
import Derived.RegionTactic
import Derived.BigRegion
import Derived.Laws.ResultCell
import Derived.Laws.Tables
import Derived.Maps.Range
namespace Go.Proofs.YtchkdidpnjakeaaGreatDoor.Led
open Go.RowKit Go.Maps Go.Lib
set_option linter.unusedVariables false
set_option maxRecDepth 100000

/-- a ledger whose posts' entries lie from eb on -/
structure CrE (w : World) (base eb p b h n m : Nat) (G : Nt → Option Ac) (pv : Value) (L : List Pl) (F : ByteArray → Option Hd) : Prop extends Cr w base p b h n m G pv L F where
  ebl : eb ≤ w.heap.size
  en : ∀ x ∈ L, ∀ ad, x.A = some ad → ∃ cs fr, w.heap[ad.block]? = some (.cells cs 51 fr)
section
variable {w w' : World} {base eb p b h n m n' m' : Nat} {G G' : Nt → Option Ac} {pv pv' : Value} {L L' : List Pl} {F F' : ByteArray → Option Hd}
/-- blocks of cells that are neither the ledger's nor posts stand -/
theorem Cr.keep {q : Nat} {cs : Array Value} {t : TypeId} {fr : Nat × Nat} (x : Cr w base p b h n m G pv L F) (hk : Kp (fun k => k = p ∨ k = b ∨ k = h ∨ some k = pv.ownBlock) w w') (hq : w.heap[q]? = some (.cells cs t fr)) (h1 : t ≠ 267) (h2 : t ≠ 343) : w'.heap[q]? = some (.cells cs t fr) := by
  refine (hk.block q (Array.getElem?_eq_some_iff.1 hq).1 ?_).trans hq
  rintro (e | e | e | e)
  · have := x.led.lg.cell
    rw [← e, hq] at this
    injection this with this
    injection this with _ this
    exact h1 this
  · exact x.led.lg.acc.neCells hq e
  · exact x.hs.neCells hq e
  · rcases x.led.row.2 with ⟨h0, _⟩ | ⟨g, cap, cur, he, _, hb, _⟩
    · rw [h0] at e; simp [Value.ownBlock] at e
    · rw [he] at e
      simp [Value.ownBlock] at e
      subst e
      rw [hq] at hb
      injection hb with hb
      injection hb with _ hb
      exact h2 hb
theorem CrE.kept (x : CrE w base eb p b h n m G pv L F) (hk : Kp (fun k => k = p ∨ k = b ∨ k = h ∨ some k = pv.ownBlock) w w') : ∀ z ∈ L, ∀ ad, z.A = some ad → ∃ cs fr, w'.heap[ad.block]? = some (.cells cs 51 fr) := fun z hz ad ha => by
  obtain ⟨cs, fr, h1⟩ := x.en z hz ad ha
  exact ⟨cs, fr, x.toCr.keep hk h1 (by decide) (by decide)⟩
theorem CrE.below (x : CrE w base eb p b h n m G pv L F) (hb : Below w.heap.size w w') : CrE w' base eb p b h n m G pv L F := ⟨x.toCr.below hb, Nat.le_trans x.ebl hb.size, x.kept (Kp.of_below _ hb)⟩
theorem CrE.post {P : Pl} (x : CrE w base eb p b h n m G pv L F) (hk : Kp (own3 p b pv) w w') (y : Led w' base p b n' G' pv' (.map (some h)) (L ++ [P])) (hP : ∀ ad, P.A = some ad → ∃ cs fr, w'.heap[ad.block]? = some (.cells cs 51 fr)) : CrE w' base eb p b h n' m G' pv' (L ++ [P]) F :=
  ⟨x.toCr.post hk y, Nat.le_trans x.ebl hk.size, fun z hz ad ha => by
    rcases List.mem_append.1 hz with hz | hz
    · exact x.kept (hk.mono fun k _ e => (by rcases e with e | e | e; exact .inl e; exact .inr (.inl e); exact .inr (.inr (.inr e)))) z hz ad ha
    · rw [List.mem_singleton] at hz
      subst hz
      exact hP ad ha⟩
theorem CrE.same (x : CrE w base eb p b h n m G pv L F) (hk : Kp (own3 p b pv) w w') (y : Led w' base p b n' G' pv' (.map (some h)) L) : CrE w' base eb p b h n' m G' pv' L F := ⟨x.toCr.post hk y, Nat.le_trans x.ebl hk.size, x.kept (hk.mono fun k _ e => (by rcases e with e | e | e; exact .inl e; exact .inr (.inl e); exact .inr (.inr (.inr e))))⟩
end
/-- a ledger in order: its block p, its maps b and h, all of it from base on -/
def Lz (w : World) (base eb p b h n m l : Nat) (G : Nt → Option Ac) (H : List Hd) : Prop := ∃ pv L, CrE w base eb p b h n m G pv L (lookH H) ∧ L.length ≤ l ∧ LedOk G H
/-- nothing has turned but the ledger p, its maps, its posts -/
structure Fl (base p b h : Nat) (w w' : World) : Prop where
  os : w'.os = w.os
  tape : w'.tape = w.tape
  output : w'.output = w.output
  size : w.heap.size ≤ w'.heap.size
  blk : ∀ q o, w.heap[q]? = some o → q ≠ p → q ≠ b → q ≠ h → (∀ cs fr, o ≠ .cells cs 343 fr) → w'.heap[q]? = some o
  low : ∀ q, q < base → w'.heap[q]? = w.heap[q]?
section
variable {w w' w2 : World} {base eb p b h n m l n' m' l' : Nat} {G : Nt → Option Ac} {H : List Hd}
theorem Fl.of_below (hb : Below w.heap.size w w') (hB : base ≤ w.heap.size) : Fl base p b h w w' :=
  ⟨hb.os, hb.tape, hb.output, hb.size, fun q o h1 _ _ _ _ => (hb.block q (Array.getElem?_eq_some_iff.1 h1).1).trans h1, fun q hq => hb.block q (by omega)⟩
theorem Fl.cells (x : Fl base p b h w w') {q : Nat} {cs : Array Value} {t : TypeId} {fr : Nat × Nat} (hq : w.heap[q]? = some (.cells cs t fr)) (hp : q ≠ p) (hb : q ≠ b) (hh : q ≠ h) (ht : t ≠ 343) : w'.heap[q]? = some (.cells cs t fr) :=
  x.blk q _ hq hp hb hh fun cs' fr' e => ht (by injection e)
theorem Fl.of_kp {pv : Value} {L : List Pl} {F : ByteArray → Option Hd} (x : Cr w base p b h n m G pv L F) (hk : Kp (fun k => k = p ∨ k = b ∨ k = h ∨ some k = pv.ownBlock) w w') : Fl base p b h w w' := by
  refine ⟨hk.os, hk.tape, hk.output, hk.size, fun q o h1 h2 h3 h4 h5 => (hk.block q (Array.getElem?_eq_some_iff.1 h1).1 ?_).trans h1, fun q hq => hk.block q ?_ ?_⟩
  · rintro (e | e | e | e)
    · exact h2 e
    · exact h3 e
    · exact h4 e
    · rcases x.led.row.2 with ⟨h0, _⟩ | ⟨g, cap, cur, he, _, hb, _⟩
      · rw [h0] at e; simp [Value.ownBlock] at e
      · rw [he] at e
        simp [Value.ownBlock] at e
        subst e
        rw [h1] at hb
        injection hb with hb
        exact h5 _ _ hb
  · have := x.led.pb
    have := x.led.lg.plt
    omega
  · rintro (e | e | e | e)
    · have := x.led.pb; omega
    · have := x.led.bb; omega
    · have := x.hb; omega
    · have := x.led.row_base q e; omega
theorem CrE.mono {pv : Value} {L : List Pl} {F : ByteArray → Option Hd} (x : CrE w base eb p b h n m G pv L F) (hn : n ≤ n') (hm : m ≤ m') : CrE w base eb p b h n' m' G pv L F :=
  ⟨⟨⟨⟨x.led.lg.cell, x.led.lg.acc.mono hn⟩, x.led.row, x.led.ents, x.led.out, x.led.pb, x.led.bb⟩, x.hs.mono hm, x.ne, x.hb⟩, x.ebl, x.en⟩
theorem Lz.mono (x : Lz w base eb p b h n m l G H) (hn : n ≤ n') (hm : m ≤ m') (hl : l ≤ l') : Lz w base eb p b h n' m' l' G H := by
  obtain ⟨pv, L, h1, h2, h3⟩ := x
  exact ⟨pv, L, h1.mono hn hm, Nat.le_trans h2 hl, h3⟩
theorem Lz.below (x : Lz w base eb p b h n m l G H) (hb : Below w.heap.size w w') : Lz w' base eb p b h n m l G H := by
  obtain ⟨pv, L, h1, h2, h3⟩ := x
  exact ⟨pv, L, h1.below hb, h2, h3⟩
theorem Lz.le (x : Lz w base eb p b h n m l G H) : base ≤ w.heap.size ∧ p < w.heap.size ∧ b < w.heap.size ∧ h < w.heap.size := by
  obtain ⟨pv, L, h1, h2, h3⟩ := x
  have := h1.led.pb
  have := h1.led.lg.plt
  have := h1.led.lg.blt
  have := h1.hs.lt
  omega
/-- a block of cells that is not the ledger's -/
theorem Lz.ne_cells (x : Lz w base eb p b h n m l G H) {q : Nat} {cs : Array Value} {t : TypeId} {fr : Nat × Nat} (hq : w.heap[q]? = some (.cells cs t fr)) (ht : t ≠ 267) : q ≠ p ∧ q ≠ b ∧ q ≠ h := by
  obtain ⟨pv, L, h1, h2, h3⟩ := x
  refine ⟨fun e => ?_, h1.led.lg.acc.neCells hq, h1.hs.neCells hq⟩
  have hc := h1.led.lg.cell
  rw [← e, hq] at hc
  injection hc with hc
  injection hc with _ hc
  exact ht hc
theorem Fl.keep (y : Fl base p b h w w') (x : Lz w base eb p b h n m l G H) {q : Nat} {cs : Array Value} {t : TypeId} {fr : Nat × Nat} (hq : w.heap[q]? = some (.cells cs t fr)) (ht : t ≠ 267) (ht2 : t ≠ 343) : w'.heap[q]? = some (.cells cs t fr) := by
  obtain ⟨h1, h2, h3⟩ := x.ne_cells hq ht
  exact y.cells hq h1 h2 h3 ht2
/-- maps that are not the ledger's -/
theorem Fl.map {P : Program} {k : TypeId} {α β : Type} {C : KeyC P k α} {E : ElC β} (y : Fl base p b h w w') (x : Lz w base eb p b h n m l G H) {q mm : Nat} {F : α → Option β} (hM : Mp C E w q mm F) (h2 : q ≠ b) (h3 : q ≠ h) : Mp C E w' q mm F := by
  obtain ⟨es, cl, hq⟩ := hM.blk
  obtain ⟨pv, L, h1, _, _⟩ := x
  refine hM.of_block ((y.blk q _ hq ?_ h2 h3 (fun cs fr e => by cases e)).trans hq.symm)
  rintro rfl
  rw [h1.led.lg.cell] at hq
  cases hq
end
end Go.Proofs.YtchkdidpnjakeaaGreatDoor.Led
namespace Go.Proofs.YtchkdidpnjakeaaGreatDoor.Led
open Go.RowKit Go.Maps Go.Lib
set_option linter.unusedVariables false
set_option maxRecDepth 100000

/-- a post keeps a ledger in order -/
theorem LedOk.post {G : Nt → Option Ac} {H : List Hd} (h : LedOk G H) {es : List Ent} (hf : FitsA G es) : LedOk (bump G (eachG es)) H := by
  refine ⟨fun x a ha => ?_, fun d hd => ?_, h.nodup⟩
  · unfold bump at ha
    cases hE : eachG es x with
    | none =>
      rw [hE] at ha
      exact h.acc x a ha
    | some v =>
      rw [hE] at ha
      simp only at ha
      cases hG : G x with
      | none => rw [hG] at ha; cases ha
      | some a0 =>
        rw [hG] at ha
        injection ha with ha
        subst ha
        obtain ⟨p1, p2, p3, p4, p5, p6⟩ := h.acc x a0 hG
        have h1 := hf.top x v hE a0 hG
        refine ⟨p1, p2, p3, ?_, h1, p6⟩
        by_cases hv : v < 0
        · have := hf.low x v hE hv a0 hG
          show 0 ≤ a0.bal + v - a0.held - a0.floor
          omega
        · show 0 ≤ a0.bal + v - a0.held - a0.floor
          omega
  · obtain ⟨p1, p2, p3, a, ha⟩ := h.hold d hd
    refine ⟨p1, p2, p3, ?_⟩
    unfold bump
    cases eachG es d.key with
    | none => exact ⟨a, ha⟩
    | some v => exact ⟨a.plus v, by rw [ha]; rfl⟩
section
variable {w w' : World} {base eb p b h n m l : Nat} {G : Nt → Option Ac} {H : List Hd}
end
end Go.Proofs.YtchkdidpnjakeaaGreatDoor.Led
namespace Go.Proofs.YtchkdidpnjakeaaGreatDoor.Led
open Go.RowKit Go.Maps Go.Lib
set_option linter.unusedVariables false
set_option maxRecDepth 100000

structure CanOpen (G : Nt → Option Ac) (a c : ByteArray) : Prop where
  nm : GoodName a
  cu : GoodCur c
  new : G (a, c) = none
def OpenP (base eb p b h n m l : Nat) (G : Nt → Option Ac) (H : List Hd) (a c : ByteArray) (f : Int) (w : World) (e : Ending) (w' : World) : Prop := ∃ code : Int, e = .returned (.int .i64 code) ∧ Fl base p b h w w' ∧
  ((CanOpen G a c ∧ code = 0 ∧ Lz w' base eb p b h (n + 1) m l (putG G (a, c) ⟨f, 0, 0⟩) H) ∨ (¬ CanOpen G a c ∧ code ≠ 0 ∧ Lz w' base eb p b h (n + 1) m l G H))
set_option maxHeartbeats 2000000 in
theorem open_z (a c : ByteArray) (f : Int) (w : World) (base eb p b h n m l : Nat) (G : Nt → Option Ac) (H : List Hd) (hz : Lz w base eb p b h n m l G H) (hx : Small (a, c)) (hf0 : -1099511627776 ≤ f) (hf1 : f ≤ 0) (hn : n < 4096) :
    Calls Tryz.prog 183 #[.pointer (some ⟨p, 0, none⟩), .string a, .string c, .int .i64 f] w fun e w' => OpenP base eb p b h n m l G H a c f w e w' := by
  have hle := hz.le.1
  have hpl := hz.le.2.1
  have HZ := Lib.hid hz
  have HNo : Hid (∀ (code : Int) W, code ≠ 0 → ¬ CanOpen G a c → Below w.heap.size w W → OpenP base eb p b h n m l G H a c f w (.returned (.int .i64 code)) W) := Lib.hid fun code W h1 h2 h3 =>
    ⟨code, rfl, Fl.of_below h3 hle, .inr ⟨h2, h1, (HZ.out.below h3).mono (by omega) (Nat.le_refl _) (Nat.le_refl _)⟩⟩
  by_cases hN : GoodName a
  · by_cases hC : GoodCur c
    · cases hG : G (a, c) with
      | none =>
        obtain ⟨pv, L, hc, hL, hok⟩ := hz
        refine (open_new a c f w p b n G pv _ hc.led.lg hN hC hf0 hf1 hG hn).mono ?_
        rintro e w' ⟨rfl, hLg, hg⟩
        have hcr : CrE w' base eb p b h (n + 1) m (putG G (a, c) ⟨f, 0, 0⟩) pv L (lookH H) := ⟨⟨hc.led.grow hg hLg, hc.hs.kept hg (fun e => hc.ne (by injection e with e; exact e.symm)), hc.ne, hc.hb⟩, Nat.le_trans hc.ebl hg.size, hc.kept ((Kp.of_grown hg).mono fun k _ e => .inr (.inl (by injection e)))⟩
        exact ⟨0, rfl, Fl.of_kp hc.toCr ((Kp.of_grown hg).mono fun k _ e => .inr (.inl (by injection e))), .inl ⟨⟨hN, hC, hG⟩, rfl, pv, L, hcr, hL, hok.open_ hG hf0 hf1 hx⟩⟩
      | some ac =>
        have HN1 := Lib.hid fun W hb => HNo.out 5 W (by decide) (fun h => by have := h.new; rw [hG] at this; cases this) hb
        have hLg : ∃ pv hv, Lg w p b n G pv hv := by
          obtain ⟨pv, L, hc, _, _⟩ := hz
          exact ⟨_, _, hc.led.lg⟩
        obtain ⟨pv, hv, hL⟩ := hLg
        have hc0 := hL.c0
        generalize OpenP base eb p b h n m l G H a c f w = CP at *
        clear hz HNo
        have q1 : decide (f < -1099511627776) = false := decide_eq_false (by omega)
        have q2 : decide (0 < f) = false := decide_eq_false (by omega)
        go_enter Tryz.func183, Tryz.ntmps183
        go_wp2_with (first
          | (go_at_call 209; refine (isName_good _ _ hN).mono ?_; rintro e w' ⟨rfl, rfl⟩)
          | (go_at_call 210; refine (isCurrency_good _ _ hC).mono ?_; rintro e w' ⟨rfl, rfl⟩))
        have hL1 := hL.alloc (.cells #[.string a, .string c] 302)
        have hs1 : (w.alloc (.cells #[.string a, .string c] 302)).heap.size = w.heap.size + 1 := by simp
        have k0 : (w.alloc (.cells #[.string a, .string c] 302)).cell? ⟨w.heap.size, 0, none⟩ = some (.string a) := by simp
        have k1 : (w.alloc (.cells #[.string a, .string c] 302)).cell? ⟨w.heap.size, 1, none⟩ = some (.string c) := by simp
        have HB1 := Lib.hid ((Below.refl w.heap.size w).alloc (Nat.le_refl _) (.cells #[.string a, .string c] 302))
        generalize w.alloc (.cells #[.string a, .string c] 302) = W at *
        have cp := hL1.c0
        have hlk : (Instr.lookup 263 (.map (some b)) (.agg #[.string a, .string c]) true).run Tryz.prog W.drew = .ok (.tuple #[.agg #[.int .i64 ac.floor, .int .i64 ac.bal, .int .i64 ac.held], .bool true]) W.drew := by
          have := (hL1.drewN 1).acc.look_ok Tryz.underlying263 (zeroAc _) trivial (x := (a, c)) hx
          rw [hG] at this
          exact this
        have hlk2 : (Instr.lookup 263 (.map (some b)) (.agg #[.string a, .string c]) true).run Tryz.prog (W.alloc (.cells #[.int .i64 0, .int .i64 0, .int .i64 0] 304)).drew = .ok (.tuple #[.agg #[.int .i64 ac.floor, .int .i64 ac.bal, .int .i64 ac.held], .bool true]) (W.alloc (.cells #[.int .i64 0, .int .i64 0, .int .i64 0] 304)).drew := by
          have := ((hL1.alloc (.cells #[.int .i64 0, .int .i64 0, .int .i64 0] 304)).drewN 1).acc.look_ok Tryz.underlying263 (zeroAc _) trivial (x := (a, c)) hx
          rw [hG] at this
          exact this
        have e0 : (W.alloc (.cells #[.int .i64 0, .int .i64 0, .int .i64 0] 304)).cell? ⟨p, 0, none⟩ = some (.map (some b)) := Lib.cell?_alloc_some _ cp
        have e1 : (W.alloc (.cells #[.int .i64 0, .int .i64 0, .int .i64 0] 304)).cell? ⟨w.heap.size, 0, none⟩ = some (.string a) := Lib.cell?_alloc_some _ k0
        have e2 : (W.alloc (.cells #[.int .i64 0, .int .i64 0, .int .i64 0] 304)).cell? ⟨w.heap.size, 1, none⟩ = some (.string c) := Lib.cell?_alloc_some _ k1
        have hpW : p < W.heap.size := by omega
        clear hc0 hL1 hL hG
        go_region
        all_goals
          clear hlk hlk2 e0 e1 e2
          have HN2 := Lib.hid (HN1.out _ ((HB1.out.alloc HB1.out.size (.cells #[.int .i64 ac.floor, .int .i64 ac.bal, .int .i64 ac.held] 304)).drew))
          clear HN1 k0 k1 cp
          go_wp2_with fail
          first
            | exact HN2.out
            | (go_ret2; exact HN2.out)
    · have HN1 := Lib.hid (HNo.out 1 w (by decide) (fun h => hC h.cu) (Below.refl _ _))
      generalize OpenP base eb p b h n m l G H a c f w = CP at *
      clear hz HNo
      go_enter Tryz.func183, Tryz.ntmps183
      go_wp2_with (first
        | (go_at_call 209; refine (isName_good _ _ hN).mono ?_; rintro e w' ⟨rfl, rfl⟩)
        | (go_at_call 210; refine (isCurrency_no _ _ hC).mono ?_; rintro e w' ⟨rfl, rfl⟩))
      first
        | exact HN1.out
        | (go_ret2; exact HN1.out)
  · have HN1 := Lib.hid (HNo.out 1 w (by decide) (fun h => hN h.nm) (Below.refl _ _))
    generalize OpenP base eb p b h n m l G H a c f w = CP at *
    clear hz HNo
    go_enter Tryz.func183, Tryz.ntmps183
    go_wp2_with (first
      | (go_at_call 209; refine (isName_no _ _ hN).mono ?_; rintro e w' ⟨rfl, rfl⟩)
      | fail)
    first
      | exact HN1.out
      | (go_ret2; exact HN1.out)
def PostZ (base eb p b h n m l : Nat) (G : Nt → Option Ac) (H : List Hd) (es : List Ent) (w : World) (e : Ending) (w' : World) : Prop := ∃ x code : Int, e = .returned (.tuple #[.int .i64 x, .int .i64 code]) ∧ Fl base p b h w w' ∧
  ((FitsA G es ∧ code = 0 ∧ Lz w' base eb p b h (n + es.length) m (l + 1) (bump G (eachG es)) H) ∨ (¬ FitsA G es ∧ code ≠ 0 ∧ Lz w' base eb p b h (n + es.length) m (l + 1) G H))
theorem post_z (txt : ByteArray) (A : Option Addr) (c : Nat) (es : List Ent) (w : World) (base eb p b h n m l : Nat) (G : Nt → Option Ac) (H : List Hd) (hz : Lz w base eb p b h n m l G H) (hR : Re w w.heap.size A es) (h0 : 0 < es.length) (h64 : es.length ≤ 64) (hS : ∀ e ∈ es, e.acc.size ≤ maxLen ∧ e.cur.size ≤ maxLen) (hn : n + 64 < 4000000) (hl : l < 4096) (ht : txt.size ≤ 4096) :
    Calls Tryz.prog 186 #[.pointer (some ⟨p, 0, none⟩), .string txt, .slice A es.length c] w fun e w' => PostZ base eb p b h n m l G H es w e w' := by
  obtain ⟨pv, L, hc, hL, hok⟩ := hz
  refine (post_any txt A c es w base p b n G pv _ L hc.led hR h0 h64 hS (fun x a ha => hok.fine ha) hn (by omega) ht).mono ?_
  rintro e w' ⟨x, code, rfl, hco, hk, h1, h2⟩
  have hk' := hk
  have hfl := Fl.of_kp hc.toCr (hk.mono fun k _ e => (by rcases e with e | e | e; exact .inl e; exact .inr (.inl e); exact .inr (.inr (.inr e))))
  by_cases hf : FitsA G es
  · obtain ⟨pv', P, n', hn', hD, ha⟩ := h2 hf
    exact ⟨x, code, rfl, hfl, .inl ⟨hf, hco.2 hf, pv', _, (hc.post hk hD ha).mono hn' (Nat.le_refl _), by simp; omega, hok.post hf⟩⟩
  · exact ⟨x, code, rfl, hfl, .inr ⟨hf, fun h => hf (hco.1 h), pv, L, (hc.same hk (h1 hf)).mono (by omega) (Nat.le_refl _), by omega, hok⟩⟩
end Go.Proofs.YtchkdidpnjakeaaGreatDoor.Led
namespace Go.Proofs.YtchkdidpnjakeaaGreatDoor
open Go.RowKit Go.Maps Go.Lib
set_option linter.unusedVariables false
set_option maxRecDepth 100000

/-- types of blocks that nobody writes to -/
def ImT (t : TypeId) : Prop := t ≠ 267 ∧ t ≠ 343 ∧ t ≠ 225 ∧ t ≠ 78
instance (t : TypeId) : Decidable (ImT t) := by unfold ImT; infer_instance
def ImB (w : World) (q : Nat) : Prop := ∃ cs t fr, w.heap[q]? = some (.cells cs t fr) ∧ ImT t
/-- all such blocks stand -/
def Im (w w' : World) : Prop := ∀ (q : Nat) (cs : Array Value) (t : TypeId) (fr : Nat × Nat), w.heap[q]? = some (.cells cs t fr) → ImT t → w'.heap[q]? = some (.cells cs t fr)
section
variable {w w' w2 : World} {q : Nat}
theorem Im.of_below (h : Below w.heap.size w w') : Im w w' := fun q cs t fr h1 _ => (h.block q (Array.getElem?_eq_some_iff.1 h1).1).trans h1
theorem ImB.lt (h : ImB w q) : q < w.heap.size := by
  obtain ⟨cs, t, fr, h1, _⟩ := h
  exact (Array.getElem?_eq_some_iff.1 h1).1
theorem ImB.keep (h : ImB w q) (hi : Im w w') : ImB w' q ∧ ∀ j, w'.cell? ⟨q, j, none⟩ = w.cell? ⟨q, j, none⟩ := by
  obtain ⟨cs, t, fr, h1, h2⟩ := h
  have h3 := hi q cs t fr h1 h2
  exact ⟨⟨cs, t, fr, h3, h2⟩, fun j => World.cell?_of_block (by rw [h1, h3])⟩
end
/-- ints, in blocks that stand -/
def ItT (w : World) (A : Option Addr) (l : List Int) : Prop := 0 < l.length → ∃ g off, A = some ⟨g, off, none⟩ ∧ ImB w g ∧ ∀ i x, l[i]? = some x → w.cell? ⟨g, off + i, none⟩ = some (.int .i64 x)
def LtT (w : World) (A : Option Addr) (l : List Lt) : Prop := 0 < l.length → ∃ g off, A = some ⟨g, off, none⟩ ∧ ImB w g ∧ LtAt w g off l
def BxT (w : World) (A : Option Addr) (l : List Bx) : Prop := 0 < l.length → ∃ g off, A = some ⟨g, off, none⟩ ∧ ImB w g ∧ ∀ i b, l[i]? = some b → ∃ A' c', w.cell? ⟨g, off + i * 3, none⟩ = some (.string b.m) ∧ w.cell? ⟨g, off + i * 3 + 1, none⟩ = some (.int .i64 b.k) ∧ w.cell? ⟨g, off + i * 3 + 2, none⟩ = some (.slice A' b.l.length c') ∧ LtT w A' b.l ∧ (A' = none → c' = 0)
def FpT (w : World) (A : Option Addr) (l : List Fp) : Prop := 0 < l.length → ∃ g off, A = some ⟨g, off, none⟩ ∧ ImB w g ∧ FpAt w g off l
def DcT (w : World) (A : Option Addr) (l : List Dc) : Prop := 0 < l.length → ∃ g off, A = some ⟨g, off, none⟩ ∧ ImB w g ∧ ∀ i x, l[i]? = some x → ∃ A' c', D4 w g (off + i * 4) x A' c' ∧ FpT w A' x.fs
section
variable {w w' : World} {A : Option Addr}
theorem ItT.keep {l : List Int} (h : ItT w A l) (hi : Im w w') : ItT w' A l := fun h0 => by
  obtain ⟨g, off, e, hg, hc⟩ := h h0
  obtain ⟨hg', hk⟩ := hg.keep hi
  exact ⟨g, off, e, hg', fun i x hx => (hk _).trans (hc i x hx)⟩
theorem LtT.keep {l : List Lt} (h : LtT w A l) (hi : Im w w') : LtT w' A l := fun h0 => by
  obtain ⟨g, off, e, hg, hc⟩ := h h0
  obtain ⟨hg', hk⟩ := hg.keep hi
  exact ⟨g, off, e, hg', fun i x hx => ⟨(hk _).trans (hc i x hx).1, (hk _).trans (hc i x hx).2⟩⟩
theorem BxT.keep {l : List Bx} (h : BxT w A l) (hi : Im w w') : BxT w' A l := fun h0 => by
  obtain ⟨g, off, e, hg, hc⟩ := h h0
  obtain ⟨hg', hk⟩ := hg.keep hi
  refine ⟨g, off, e, hg', fun i b hb => ?_⟩
  obtain ⟨A', c', c0, c1, c2, hl, hn⟩ := hc i b hb
  exact ⟨A', c', (hk _).trans c0, (hk _).trans c1, (hk _).trans c2, hl.keep hi, hn⟩
theorem FpT.keep {l : List Fp} (h : FpT w A l) (hi : Im w w') : FpT w' A l := fun h0 => by
  obtain ⟨g, off, e, hg, hc⟩ := h h0
  obtain ⟨hg', hk⟩ := hg.keep hi
  exact ⟨g, off, e, hg', fun i x hx => ⟨(hk _).trans (hc i x hx).1, (hk _).trans (hc i x hx).2⟩⟩
theorem DcT.keep {l : List Dc} (h : DcT w A l) (hi : Im w w') : DcT w' A l := fun h0 => by
  obtain ⟨g, off, e, hg, hc⟩ := h h0
  obtain ⟨hg', hk⟩ := hg.keep hi
  refine ⟨g, off, e, hg', fun i x hx => ?_⟩
  obtain ⟨A', c', h4, hf⟩ := hc i x hx
  exact ⟨A', c', ⟨(hk _).trans h4.d0, (hk _).trans h4.d1, (hk _).trans h4.d2, (hk _).trans h4.d3⟩, hf.keep hi⟩
theorem DcT.nil (w : World) (A : Option Addr) : DcT w A [] := fun h => absurd h (by simp)
theorem BxT.nil (w : World) (A : Option Addr) : BxT w A [] := fun h => absurd h (by simp)
end
/-- how one of a bank's deals stands -/
structure Dst where
  st : Int
  h0 : Bool
  h1 : Bool
  h2 : Bool
  pp : List Dc
  day : Int
  ft : List Ft
  due : Int
def Dst.new : Dst := ⟨0, false, false, false, [], 0, [], 0⟩
def dealA (d : Dl) (A : Option Addr) (c : Nat) (x : Dst) (PA : Option Addr) (pc : Nat) (FA : Option Addr) (fc : Nat) : Array Value :=
  #[.string d.num, .string d.sel, .string d.buy, .string d.car, .string d.iss, .string d.hou, .string d.ins, .string d.frm, .string d.dst, .string d.cur, .int .i64 d.amt, .slice A d.box.length c, .int .i64 d.trm, .int .i64 d.lat, .int .i64 d.exp, .int .i64 d.ten, .int .i64 d.dut,
    .int .i64 x.st, .bool x.h0, .bool x.h1, .bool x.h2, .slice PA x.pp.length pc, .int .i64 x.day, .slice FA x.ft.length fc, .int .i64 x.due]
/-- a row of faults that stands -/
def FtT (w : World) (A : Option Addr) (c : Nat) (L : List Ft) : Prop := Fw w 0 (.slice A L.length c) L
theorem FtT.keep {w w' : World} {A : Option Addr} {c : Nat} {L : List Ft} (h : FtT w A c L) (hi : Im w w') : FtT w' A c L := by
  refine ⟨h.1, ?_⟩
  rcases h.2 with h0 | ⟨g, cap, cur, e1, e2, e3, e4⟩
  · exact .inl h0
  · exact .inr ⟨g, cap, cur, e1, e2, hi g _ _ _ e3 (by decide), e4⟩
/-- a deal in block q -/
structure DealAt (w : World) (q : Nat) (d : Dl) (x : Dst) (A : Option Addr) (c : Nat) (PA : Option Addr) (pc : Nat) (FA : Option Addr) (fc : Nat) : Prop where
  cell : w.heap[q]? = some (.cells (dealA d A c x PA pc FA fc) 225 (0, 0))
  box : BxT w A d.box
  pp : DcT w PA x.pp
  ft : FtT w FA fc x.ft
/-- pointers as elements of a map -/
def ptV : Option Nat → Value
  | none => .pointer none
  | some e => .pointer (some ⟨e, 0, none⟩)
def ptD : Option Nat → DataW Unit
  | none => .nil
  | some e => .lit (.int .i64 (e : Int))
def ptR : Value → Option (DataW Unit × List MemPlace)
  | .pointer none => some (.nil, [])
  | .pointer (some ⟨e, 0, none⟩) => some (.lit (.int .i64 (e : Int)), [])
  | _ => none
def ptE : ElC (Option Nat) where
  mk := ptV
  dat := ptD
  ok _ := True
  R := ptR
  of v _ := by cases v <;> rfl
  inv x z h := by
    unfold ptR at h
    split at h
    · cases h; exact ⟨none, rfl, rfl, trivial⟩
    · cases h; exact ⟨some _, rfl, rfl, trivial⟩
    · cases h
  inj u v h := by
    cases u <;> cases v <;> simp [ptD] at h ⊢
    omega
/-- a party -/
structure Py where
  nm : ByteArray
  bk : ByteArray
  kd : Int
def Py.val (a : Py) : Value := .agg #[.string a.nm, .string a.bk, .int .i64 a.kd]
def Py.dat (a : Py) : DataW Unit := .agg [.lit (.string a.nm.data.toList), .lit (.string a.bk.data.toList), .lit (.int .i64 a.kd)]
def pyR : Value → Option (DataW Unit × List MemPlace)
  | .agg ⟨[.string i, .string a, .int .i64 n]⟩ => some ((Py.mk i a n).dat, [])
  | _ => none
theorem ba_injM {x y : ByteArray} (h : x.data.toList = y.data.toList) : x = y := ByteArray.ext (Array.ext' h)
def pyE : ElC Py where
  mk := Py.val
  dat := Py.dat
  ok _ := True
  R := pyR
  of v _ := rfl
  inv x z h := by
    unfold pyR at h
    split at h
    · cases h; exact ⟨⟨_, _, _⟩, rfl, rfl, trivial⟩
    · cases h
  inj u v h := by
    obtain ⟨a, b, c⟩ := u
    obtain ⟨a', b', c'⟩ := v
    simp only [Py.dat, DataW.agg.injEq, List.cons.injEq, DataW.lit.injEq, Lit.string.injEq, Lit.int.injEq, true_and, and_true] at h
    obtain ⟨h1, h2, h3⟩ := h
    rw [ba_injM h1, ba_injM h2, h3]
theorem zeroPy (w : World) : (zeroValue 38).run Tryz.prog w = .ok (Py.val ⟨⟨#[]⟩, ⟨#[]⟩, 0⟩) w := by kernel_rfl
theorem zeroDl (w : World) : (zeroValue 221).run Tryz.prog w = .ok (ptV none) w := by kernel_rfl
/-- where a bank lies, and what never changes of it -/
structure Kk where
  nm : ByteArray
  base : Nat
  eb : Nat
  bb : Nat
  p : Nat
  b : Nat
  h : Nat
  pm : Nat
  dm : Nat
  RA : Option Addr
  rc : Nat
  rest : List Int
  HA : Option Addr
  hc : Nat
  hol : List Int
  P : ByteArray → Option Py
  dl : ByteArray → Option Dl
  blk : ByteArray → Option Nat
/-- what a bank has -/
structure Sb where
  G : Led.Nt → Option Ac
  H : List Hd
  D : ByteArray → Dst
/-- a bank stands -/
structure Bk (w : World) (K : Kk) (n m l : Nat) (S : Sb) : Prop where
  bank : w.heap[K.bb]? = some (.cells #[.string K.nm, .slice K.RA K.rest.length K.rc, .slice K.HA K.hol.length K.hc, .pointer (some ⟨K.p, 0, none⟩), .map (some K.pm), .map (some K.dm)] 220 (0, 0))
  led : Led.Lz w K.base K.eb K.p K.b K.h n m l S.G S.H
  par : ∃ np, Mp curC pyE w K.pm np K.P ∧ np ≤ 1000
  dmp : ∃ nd, Mp curC ptE w K.dm nd (fun s => (K.blk s).map some) ∧ nd ≤ 1000
  deal : ∀ s q, K.blk s = some q → ∃ d A c PA pc FA fc, K.dl s = some d ∧ d.num = s ∧ K.base ≤ q ∧ DealAt w q d (S.D s) A c PA pc FA fc
  dls : ∀ s, K.blk s = none → K.dl s = none
  inj : ∀ s t q, K.blk s = some q → K.blk t = some q → s = t
  rs : ItT w K.RA K.rest
  hs : ItT w K.HA K.hol
  ne : K.pm ≠ K.b ∧ K.pm ≠ K.h ∧ K.dm ≠ K.b ∧ K.dm ≠ K.h ∧ K.pm ≠ K.dm
  lo : 12 ≤ K.base ∧ K.base ≤ K.bb ∧ K.base ≤ K.pm ∧ K.base ≤ K.dm
  gb : Gb w
/-- nothing has turned but the bank's ledger and its deals -/
structure Fk (K : Kk) (w w' : World) : Prop where
  os : w'.os = w.os
  tape : w'.tape = w.tape
  output : w'.output = w.output
  size : w.heap.size ≤ w'.heap.size
  blk : ∀ q o, w.heap[q]? = some o → q ≠ K.p → q ≠ K.b → q ≠ K.h → (∀ cs fr, o ≠ .cells cs 343 fr) → (∀ cs fr, o ≠ .cells cs 225 fr) → w'.heap[q]? = some o
  low : ∀ q, q < K.base → w'.heap[q]? = w.heap[q]?
section
variable {w w' w2 : World} {K : Kk} {n m l : Nat} {S : Sb}
theorem Fk.refl (K : Kk) (w : World) : Fk K w w := ⟨rfl, rfl, rfl, Nat.le_refl _, fun _ _ h _ _ _ _ _ => h, fun _ _ => rfl⟩
theorem Fk.trans (x : Fk K w w') (y : Fk K w' w2) : Fk K w w2 :=
  ⟨y.os.trans x.os, y.tape.trans x.tape, y.output.trans x.output, Nat.le_trans x.size y.size, fun q o h1 h2 h3 h4 h5 h6 => y.blk q o (x.blk q o h1 h2 h3 h4 h5 h6) h2 h3 h4 h5 h6, fun q hq => (y.low q hq).trans (x.low q hq)⟩
theorem Fk.of_fl (x : Led.Fl K.base K.p K.b K.h w w') : Fk K w w' := ⟨x.os, x.tape, x.output, x.size, fun q o h1 h2 h3 h4 h5 _ => x.blk q o h1 h2 h3 h4 h5, x.low⟩
theorem Bk.le (x : Bk w K n m l S) : K.base ≤ w.heap.size := x.led.le.1
theorem Fk.of_below (x : Bk w K n m l S) (hb : Below w.heap.size w w') : Fk K w w' := Fk.of_fl (Led.Fl.of_below hb x.le)
theorem Fk.below (x : Fk K w w') : Below K.base w w' := ⟨x.os, x.tape, x.output, x.size, x.low⟩
theorem Fk.im (y : Fk K w w') (x : Bk w K n m l S) : Im w w' := fun q cs t fr hq ht => by
  obtain ⟨h1, h2, h3⟩ := x.led.ne_cells hq ht.1
  exact y.blk q _ hq h1 h2 h3 (fun cs' fr' e => ht.2.1 (by injection e)) (fun cs' fr' e => ht.2.2.1 (by injection e))
theorem Fl.im (y : Led.Fl K.base K.p K.b K.h w w') (x : Bk w K n m l S) : Im w w' := (Fk.of_fl y).im x
/-- the ledger alone has turned -/
theorem Bk.led_ (x : Bk w K n m l S) (y : Led.Fl K.base K.p K.b K.h w w') {n' m' l' : Nat} {G : Led.Nt → Option Ac} {H : List Hd} (hz : Led.Lz w' K.base K.eb K.p K.b K.h n' m' l' G H) : Bk w' K n' m' l' ⟨G, H, S.D⟩ := by
  have hi := Fl.im y x
  obtain ⟨n1, n2, n3, n4, n5⟩ := x.ne
  refine ⟨hi _ _ _ _ x.bank (by decide), hz, ?_, ?_, fun s q hq => ?_, x.dls, x.inj, x.rs.keep hi, x.hs.keep hi, x.ne, x.lo, x.gb.low (Fk.of_fl y).below x.lo.1⟩
  · obtain ⟨np, h1, h2⟩ := x.par
    exact ⟨np, y.map x.led h1 n1 n2, h2⟩
  · obtain ⟨np, h1, h2⟩ := x.dmp
    exact ⟨np, y.map x.led h1 n3 n4, h2⟩
  · obtain ⟨d, A, c, PA, pc, FA, fc, h1, h2, h3, h4⟩ := x.deal s q hq
    exact ⟨d, A, c, PA, pc, FA, fc, h1, h2, h3, y.keep x.led h4.cell (by decide) (by decide), h4.box.keep hi, h4.pp.keep hi, h4.ft.keep hi⟩
theorem Bk.below (x : Bk w K n m l S) (hb : Below w.heap.size w w') : Bk w' K n m l S := x.led_ (Led.Fl.of_below hb x.le) (x.led.below hb)
theorem Bk.mono (x : Bk w K n m l S) {n' m' l' : Nat} (hn : n ≤ n') (hm : m ≤ m') (hl : l ≤ l') : Bk w K n' m' l' S :=
  ⟨x.bank, x.led.mono hn hm hl, x.par, x.dmp, x.deal, x.dls, x.inj, x.rs, x.hs, x.ne, x.lo, x.gb⟩
theorem Bk.cell (x : Bk w K n m l S) : w.cell? ⟨K.bb, 0, none⟩ = some (.string K.nm) ∧ w.cell? ⟨K.bb, 1, none⟩ = some (.slice K.RA K.rest.length K.rc) ∧ w.cell? ⟨K.bb, 2, none⟩ = some (.slice K.HA K.hol.length K.hc) ∧ w.cell? ⟨K.bb, 3, none⟩ = some (.pointer (some ⟨K.p, 0, none⟩)) ∧ w.cell? ⟨K.bb, 4, none⟩ = some (.map (some K.pm)) ∧ w.cell? ⟨K.bb, 5, none⟩ = some (.map (some K.dm)) := by
  refine ⟨?_, ?_, ?_, ?_, ?_, ?_⟩ <;> simp [World.cell?, x.bank]
theorem Bk.lookP (x : Bk w K n m l S) (s : ByteArray) (hs : s.size ≤ maxLen) : (Instr.lookup 66 (.map (some K.pm)) (.string s) true).run Tryz.prog w = .ok (.tuple #[Py.val ((K.P s).getD ⟨⟨#[]⟩, ⟨#[]⟩, 0⟩), .bool (K.P s).isSome]) w := by
  obtain ⟨np, h1, _⟩ := x.par
  exact h1.look_ok Tryz.underlying66 (zeroPy w) trivial hs
theorem Bk.lookD (x : Bk w K n m l S) (s : ByteArray) (hs : s.size ≤ maxLen) : (Instr.lookup 218 (.map (some K.dm)) (.string s) true).run Tryz.prog w = .ok (.tuple #[ptV (K.blk s), .bool (K.blk s).isSome]) w := by
  obtain ⟨nd, h1, _⟩ := x.dmp
  have := h1.look_ok Tryz.underlying218 (z := none) (zeroDl w) trivial (x := s) hs
  have e1 : ((K.blk s).map some).getD none = K.blk s := by cases K.blk s <;> rfl
  have e2 : ((K.blk s).map some).isSome = (K.blk s).isSome := by cases K.blk s <;> rfl
  rw [e1, e2] at this
  exact this
end
end Go.Proofs.YtchkdidpnjakeaaGreatDoor
