/- ref56.Same: two slices of the same texts are told the same. ref56.in: is a text one of some? The ledger's block; ledger.New. Ledger.Open, of an account that is not there yet. -/
import Derived.Test.YtdinloecgaapaaaGreatDoorMGMap
import Derived.Deep.QuietTactic
import Derived.BigQuiet
import Derived.Carry
namespace Go.Proofs.YtdinloecgaapaaaGreatDoor
open Go.RowKit Go.Lib
set_option linter.unusedVariables false
set_option maxRecDepth 100000

/-- the slice's elements are the texts L, in blocks below B -/
def Rs (w : World) (B : Nat) (A : Option Addr) (L : List ByteArray) : Prop :=
  0 < L.length → ∃ g off, A = some ⟨g, off, none⟩ ∧ g < B ∧ ∀ i x, L[i]? = some x → w.cell? ⟨g, off + i, none⟩ = some (.string x)
section
variable {w w' : World} {B B' : Nat} {A : Option Addr} {L : List ByteArray}
theorem Rs.below (h : Rs w B A L) (hb : Below B w w') : Rs w' B A L := fun hl => by
  obtain ⟨g, off, e, hg, hc⟩ := h hl
  exact ⟨g, off, e, hg, fun i x hx => (hb.cell (p := ⟨g, off + i, none⟩) hg).trans (hc i x hx)⟩
theorem Rs.more (h : Rs w B A L) (hB : B ≤ B') : Rs w B' A L := fun hl => by
  obtain ⟨g, off, e, hg, hc⟩ := h hl
  exact ⟨g, off, e, by omega, hc⟩
theorem Rs.at_ (h : Rs w B A L) {k : Nat} (hk : k < L.length) : ∃ g off, A = some ⟨g, off, none⟩ ∧ g < B ∧ w.cell? ⟨g, off + k, none⟩ = some (.string L[k]) := by
  obtain ⟨g, off, e, hg, hc⟩ := h (by omega)
  exact ⟨g, off, e, hg, hc k _ (List.getElem?_eq_getElem hk)⟩
end

set_option maxHeartbeats 1000000 in
theorem same_eq (L : List ByteArray) (A1 A2 : Option Addr) (c1 c2 : Nat) (w : World) (h1 : Rs w w.heap.size A1 L) (h2 : Rs w w.heap.size A2 L) (hl : L.length ≤ 1000000) :
    Calls Tryz.prog 9 #[.slice A1 L.length c1, .slice A2 L.length c2] w fun e w' => e = .returned (.bool true) ∧ Below w.heap.size w w' := by
  go_enter Tryz.func9, Tryz.ntmps9
  go_wp2
  go_loopw [5] (fun i wr => ∃ k : Nat, k ≤ L.length ∧ i = .int .i64 k ∧ Hid (Below w.heap.size w wr)) (fun i _ => L.length - (intOf i).toNat)
  case atStart => exact ⟨0, Nat.zero_le _, rfl, Lib.hid (Below.refl _ _)⟩
  case round =>
    obtain ⟨k, hk, rfl, Hb⟩ := hrel
    by_cases hlt : k < L.length
    · obtain ⟨g1, o1, rfl, hg1, hc1⟩ := (h1.below Hb.out).at_ hlt
      obtain ⟨g2, o2, rfl, hg2, hc2⟩ := (h2.below Hb.out).at_ hlt
      generalize L[k] = x at *
      have he : (x.toList == x.toList) = true := by simp
      clear h1 h2
      go_wp2_with fail
      go_quiet (fail)
      go_wp2_with fail
      go_roundw
      case rel => exact ⟨k + 1, by omega, by go_num, Lib.hid ⟨Hb.out.os, Hb.out.tape, Hb.out.output, Hb.out.size, Hb.out.block⟩⟩
      case measure => simp [intOf]; omega
    · go_wp2
      go_ret
      exact ⟨rfl, Hb.out⟩
end Go.Proofs.YtdinloecgaapaaaGreatDoor
namespace Go.Proofs.YtdinloecgaapaaaGreatDoor
open Go.RowKit Go.Lib
set_option linter.unusedVariables false
set_option maxRecDepth 100000

def inS (L : List ByteArray) (s : ByteArray) : Bool := L.any fun x => x.toList == s.toList
theorem inS_at (L : List ByteArray) (s : ByteArray) (k : Nat) (h : k < L.length) (e : (L[k].toList == s.toList) = true) : inS L s = true := by
  unfold inS
  rw [List.any_eq_true]
  exact ⟨_, List.getElem_mem h, e⟩
theorem inS_step (L : List ByteArray) (s : ByteArray) (k : Nat) (h : k < L.length) (h0 : inS (L.take k) s = false) (e : (L[k].toList == s.toList) = false) : inS (L.take (k + 1)) s = false := by
  rw [List.take_succ_eq_append_getElem h]
  unfold inS at h0 ⊢
  rw [List.any_append, h0, List.any_cons, e]
  rfl

set_option maxHeartbeats 1000000 in
theorem in_any (L : List ByteArray) (s : ByteArray) (A : Option Addr) (c : Nat) (w : World) (h : Rs w w.heap.size A L) (hl : L.length ≤ 1000000) :
    Calls Tryz.prog 65 #[.slice A L.length c, .string s] w fun e w' => e = .returned (.bool (inS L s)) ∧ Below w.heap.size w w' := by
  go_enter Tryz.func65, Tryz.ntmps65
  go_wp2
  go_loopw [5] (fun i wr => ∃ k : Nat, k ≤ L.length ∧ i = .int .i64 k ∧ Hid (Below w.heap.size w wr) ∧ Hid (inS (L.take k) s = false)) (fun i _ => L.length - (RowKit.intOf i).toNat)
  case atStart => exact ⟨0, Nat.zero_le _, rfl, Lib.hid (Below.refl _ _), Lib.hid rfl⟩
  case round =>
    obtain ⟨k, hk, rfl, Hb, Hn⟩ := hrel
    by_cases hlt : k < L.length
    · obtain ⟨g1, o1, rfl, hg1, hc1⟩ := (h.below Hb.out).at_ hlt
      by_cases he : (L[k].toList == s.toList) = true
      · have Hin := Lib.hid (inS_at L s k hlt he)
        generalize L[k] = x at *
        clear h
        go_wp2
        go_ret
        exact ⟨by rw [Hin.out]; rfl, Hb.out⟩
      · have he' : (L[k].toList == s.toList) = false := by simpa using he
        have Hno := Lib.hid (inS_step L s k hlt Hn.out he')
        generalize L[k] = x at *
        clear h he
        go_wp2_with fail
        go_roundw
        case rel => exact ⟨k + 1, by omega, by go_num, Hb, Hno⟩
        case measure => simp [RowKit.intOf]; omega
    · have Hno := Hn
      rw [List.take_of_length_le (by omega)] at Hno
      go_wp2
      go_ret
      exact ⟨by rw [Hno.out]; rfl, Hb.out⟩
end Go.Proofs.YtdinloecgaapaaaGreatDoor
namespace Go.Proofs.YtdinloecgaapaaaGreatDoor
open Go.RowKit Go.Maps Go.Lib
set_option linter.unusedVariables false
set_option maxRecDepth 100000

/-- block p is a ledger: its accounts, in map block b, hold what G says; pv: its posts; hv: its holds -/
structure Lg (w : World) (p b n : Nat) (G : Nt → Option Ac) (pv hv : Value) : Prop where
  cell : w.heap[p]? = some (.cells #[.map (some b), pv, hv] 145 (0, 0))
  acc : Mp keyC acE w b n G
section
variable {w w' : World} {p b n : Nat} {G : Nt → Option Ac} {pv hv : Value}
theorem Lg.plt (h : Lg w p b n G pv hv) : p < w.heap.size := (Array.getElem?_eq_some_iff.1 h.cell).1
theorem Lg.blt (h : Lg w p b n G pv hv) : b < w.heap.size := h.acc.lt
theorem Lg.ne (h : Lg w p b n G pv hv) : p ≠ b := h.acc.neCells h.cell
theorem Lg.kept (h : Lg w p b n G pv hv) {row : Option Nat} (hg : w.grownBy w' row) (hp : some p ≠ row) (hb : some b ≠ row) : Lg w' p b n G pv hv := ⟨(hg.block p h.plt hp).trans h.cell, h.acc.kept hg hb⟩
theorem Lg.below (h : Lg w p b n G pv hv) {B : Nat} (hg : Below B w w') (hp : p < B) (hb : b < B) : Lg w' p b n G pv hv := ⟨(hg.block p hp).trans h.cell, h.acc.below hg hb⟩
theorem Lg.alloc (h : Lg w p b n G pv hv) (o : Obj) : Lg (w.alloc o) p b n G pv hv := h.kept (World.grownBy_alloc w o none) (by simp) (by simp)
theorem Lg.drewN (h : Lg w p b n G pv hv) (m : Nat) : Lg (w.drewN m) p b n G pv hv := ⟨h.cell, h.acc⟩
theorem Lg.c0 (h : Lg w p b n G pv hv) : w.cell? ⟨p, 0, none⟩ = some (.map (some b)) := by have := h.cell; simp [World.cell?, this]
theorem Lg.c1 (h : Lg w p b n G pv hv) : w.cell? ⟨p, 1, none⟩ = some pv := by have := h.cell; simp [World.cell?, this]
theorem Lg.c2 (h : Lg w p b n G pv hv) : w.cell? ⟨p, 2, none⟩ = some hv := by have := h.cell; simp [World.cell?, this]
end

set_option maxHeartbeats 400000 in
theorem new_any (s : ByteArray) (w : World) : Calls Tryz.prog 44 #[.string s] w fun e w' =>
    e = .returned (.pointer (some ⟨w.heap.size + 2, 0, none⟩)) ∧ Lg w' (w.heap.size + 2) w.heap.size 0 (fun _ => none) (.slice none 0 0) (.map (some (w.heap.size + 1))) ∧ Below w.heap.size w w' ∧ w'.heap.size = w.heap.size + 3 := by
  have hmm := @run_makeMap Tryz.prog
  go_enter Tryz.func44, Tryz.ntmps44
  go_wp2
  go_ret
  have h1 : (w.alloc (.map #[] 0)).heap.size = w.heap.size + 1 := by simp
  have h2 : ((w.alloc (.map #[] 0)).alloc (.map #[] 0)).heap.size = w.heap.size + 2 := by simp
  refine ⟨rfl, ⟨?_, ((Mp.made w).alloc _).alloc _⟩, (((Below.refl _ _).alloc (Nat.le_refl _) _).alloc (by rw [h1]; omega) _).alloc (by rw [h2]; omega) _, by simp⟩
  have := (MapKept.heap_alloc ((w.alloc (.map #[] 0)).alloc (.map #[] 0)) (.cells #[.map (some w.heap.size), .slice none 0 0, .map (some (w.heap.size + 1))] 145)).1
  rw [h2] at this
  exact this
end Go.Proofs.YtdinloecgaapaaaGreatDoor
namespace Go.Proofs.YtdinloecgaapaaaGreatDoor
open Go.RowKit Go.Maps Go.Lib
set_option linter.unusedVariables false
set_option maxRecDepth 100000

theorem below_drewN {B : Nat} {a w : World} (h : Below B a w) (n : Nat) : Below B a (w.drewN n) := ⟨h.os, h.tape, h.output, h.size, h.block⟩
theorem small_of {a c : ByteArray} (hN : GoodName a) (hC : GoodCur c) : Small (a, c) := ⟨by have := hN.le; unfold maxLen; simp; omega, by have := hC.len; unfold maxLen; simp; omega⟩
def keyObj (a c : ByteArray) : Obj := .cells #[.string a, .string c] 147
def acObj (x y z : Int) : Obj := .cells #[.int .i64 x, .int .i64 y, .int .i64 z] 149

set_option maxHeartbeats 1000000 in
theorem open_new (a c : ByteArray) (f : Int) (w : World) (p b n : Nat) (G : Nt → Option Ac) (pv hv : Value) (hL : Lg w p b n G pv hv) (hN : GoodName a) (hC : GoodCur c) (hf0 : -1099511627776 ≤ f) (hf1 : f ≤ 0) (hG : G (a, c) = none) (hn : n < 4096) :
    Calls Tryz.prog 45 #[.pointer (some ⟨p, 0, none⟩), .string a, .string c, .int .i64 f] w fun e w' =>
      e = .returned (.int .i64 0) ∧ Lg w' p b (n + 1) (putG G (a, c) ⟨f, 0, 0⟩) pv hv ∧ w.grownBy w' (some b) := by
  have hx := small_of hN hC
  have hpl := hL.plt
  have hbl := hL.blt
  have hpb := hL.ne
  have hc0 := hL.c0
  go_enter Tryz.func45, Tryz.ntmps45
  go_wp2_with (first
    | (go_at_call 70; refine (isName_good _ _ hN).mono ?_; rintro e w' ⟨rfl, rfl⟩)
    | (go_at_call 71; refine (isCurrency_good _ _ hC).mono ?_; rintro e w' ⟨rfl, rfl⟩))
  have hL1 := hL.alloc (.cells #[.string a, .string c] 147)
  have hs1 : (w.alloc (.cells #[.string a, .string c] 147)).heap.size = w.heap.size + 1 := by simp
  have k0 : (w.alloc (.cells #[.string a, .string c] 147)).cell? ⟨w.heap.size, 0, none⟩ = some (.string a) := by simp
  have k1 : (w.alloc (.cells #[.string a, .string c] 147)).cell? ⟨w.heap.size, 1, none⟩ = some (.string c) := by simp
  have HB1 := Lib.hid ((Below.refl w.heap.size w).alloc (Nat.le_refl _) (.cells #[.string a, .string c] 147))
  generalize w.alloc (.cells #[.string a, .string c] 147) = W at *
  have cp := hL1.c0
  have hlk : (Instr.lookup 141 (.map (some b)) (.agg #[.string a, .string c]) true).run Tryz.prog W.drew = .ok (.tuple #[.agg #[.int .i64 0, .int .i64 0, .int .i64 0], .bool false]) W.drew := by
    have := (hL1.drewN 1).acc.look_ok Tryz.underlying141 (zeroAc _) trivial (x := (a, c)) hx
    rw [hG] at this
    exact this
  have hlk2 : (Instr.lookup 141 (.map (some b)) (.agg #[.string a, .string c]) true).run Tryz.prog (W.alloc (.cells #[.int .i64 0, .int .i64 0, .int .i64 0] 149)).drew = .ok (.tuple #[.agg #[.int .i64 0, .int .i64 0, .int .i64 0], .bool false]) (W.alloc (.cells #[.int .i64 0, .int .i64 0, .int .i64 0] 149)).drew := by
    have := ((hL1.alloc (.cells #[.int .i64 0, .int .i64 0, .int .i64 0] 149)).drewN 1).acc.look_ok Tryz.underlying141 (zeroAc _) trivial (x := (a, c)) hx
    rw [hG] at this
    exact this
  have HL := Lib.hid hL1
  clear hc0 hL1 hL
  have Hs1 := Lib.hid hs1
  have Hne : Hid (w.heap.size ≠ b) := Lib.hid (by omega)
  go_region
  all_goals
    clear hlk hlk2
    have hL2 := (HL.out.alloc (.cells #[.int .i64 0, .int .i64 0, .int .i64 0] 149)).drewN 1
    have HB2 := Lib.hid (below_drewN (HB1.out.alloc (B := w.heap.size) (by have := Hs1.out; omega) (.cells #[.int .i64 0, .int .i64 0, .int .i64 0] 149)) 1)
    have j0 : (W.alloc (.cells #[.int .i64 0, .int .i64 0, .int .i64 0] 149)).drew.cell? ⟨w.heap.size, 0, none⟩ = some (.string a) := Lib.cell?_alloc_some _ k0
    have j1 : (W.alloc (.cells #[.int .i64 0, .int .i64 0, .int .i64 0] 149)).drew.cell? ⟨w.heap.size, 1, none⟩ = some (.string c) := Lib.cell?_alloc_some _ k1
    have hsz : w.heap.size < (W.alloc (.cells #[.int .i64 0, .int .i64 0, .int .i64 0] 149)).drew.heap.size := by have := Hs1.out; simp; omega
    clear k0 k1 hs1 cp
    change Hid (Below w.heap.size w (W.alloc (.cells #[.int .i64 0, .int .i64 0, .int .i64 0] 149)).drew) at HB2
    change Lg (W.alloc (.cells #[.int .i64 0, .int .i64 0, .int .i64 0] 149)).drew p b n G pv hv at hL2
    generalize (W.alloc (.cells #[.int .i64 0, .int .i64 0, .int .i64 0] 149)).drew = V at *
    have Hsz := Lib.hid hsz
    clear hsz
    have cp := hL2.c0
    obtain ⟨m, hm, hln⟩ := hL2.acc.len Tryz.underlying141
    have hln' := hln 3
    have hnl := run_eql_map_nil (P := Tryz.prog) V 141 147 149 (some b) Tryz.underlying141
    obtain ⟨w2, hrun, hM2, ht2⟩ := (hL2.drewN 1).acc.store Tryz.underlying141 (by unfold maxLen; omega) (x := (a, c)) hx (v := ⟨f, 0, 0⟩) trivial
    have hrun' : (Instr.mapUpdate 141 (.map (some b)) (.agg #[.string a, .string c]) (.agg #[.int .i64 f, .int .i64 0, .int .i64 0])).run Tryz.prog V.drew = .ok () w2 := hrun
    have hg2 := ht2.grown
    have HL2 := Lib.hid (show Lg w2 p b (n + 1) (putG G (a, c) ⟨f, 0, 0⟩) pv hv from ⟨(hg2.block p hL2.plt (fun e => hpb (by injection e))).trans hL2.cell, hM2⟩)
    have HG2 := Lib.hid (show V.grownBy w2 (some b) from ⟨hg2.os, hg2.tape, hg2.output, hg2.size, hg2.block⟩)
    clear hrun hM2 ht2 hg2 hL2 hln
    go_wp2_with fail
    go_region
    all_goals
      go_wp2
      go_ret
      refine ⟨rfl, HL2.out, ?_⟩
      have h1 := HB2.out
      have h2 := HG2.out
      exact ⟨h2.os.trans h1.os, h2.tape.trans h1.tape, h2.output.trans h1.output, Nat.le_trans h1.size h2.size, fun i hi hne => (h2.block i (Nat.lt_of_lt_of_le hi h1.size) hne).trans (h1.block i hi)⟩
end Go.Proofs.YtdinloecgaapaaaGreatDoor
