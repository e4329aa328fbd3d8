/- ledger.changes: what entries change, of each account and of each currency. A range's step over the two maps that 'changes' makes. A region that draws its order and whose callees make memory: one walk of the lexical order serves, over the class of the worlds that have turned nothing below a block. account.free. -/
import Derived.Test.YtdinloecgaapaaaGreatDoorMGEntry
import Derived.WalkKit
import Derived.Deep.QuietTactic
import Derived.BigQuiet
namespace Go.Proofs.YtdinloecgaapaaaGreatDoor
open Go.RowKit Go.Maps Go.Lib
set_option linter.unusedVariables false
set_option maxRecDepth 100000

theorem keyLaw : Go.WideMaps.KeyLaw Tryz.prog 147 := deep_law_laid laidOut (m := 2) (by omega) rowNote (by kernel_rfl) wideNote
abbrev eachG (es : List Ent) : Nt → Option Int := sumBy Ent.key es
abbrev sumG (es : List Ent) : ByteArray → Option Int := sumBy Ent.cur es

theorem i64_ok {a : Int} (h0 : -9223372036854775808 ≤ a) (h1 : a ≤ 9223372036854775807) : amtE.ok a := by
  show (Lit.int .i64 a).wf = true
  simp [Lit.wf, IntKind.min, IntKind.max, IntKind.signed, IntKind.bits]
  omega

/-- how far the loop has come -/
structure Ch (w0 w : World) (es : List Ent) (k : Nat) : Prop where
  each : Mp keyC amtE w w0.heap.size k (eachG (es.take k))
  sums : Mp curC amtE w (w0.heap.size + 1) k (sumG (es.take k))
  bel : Below w0.heap.size w0 w
  size : w0.heap.size + 2 ≤ w.heap.size

def entObj (a cu : ByteArray) (n : Int) : Obj := .cells #[.string a, .string cu, .int .i64 n] 107
/-- a round: what is read, what is written -/
theorem Ch.turn {w0 wr : World} {es : List Ent} {k : Nat} (h : Ch w0 wr es k) (hk : k < es.length) (hlen : es.length ≤ 64) (hF : ∀ e ∈ es, e.Fine) {a cu : ByteArray} {n : Int} (he : es[k] = ⟨a, cu, n⟩) {V : World} (hV : V = wr.alloc (entObj a cu n)) :
    ∃ (s1 s2 : Int) (v0 : Value) (st : Nat) (w2 w3 w4 : World),
      (Instr.lookup 185 (.map (some w0.heap.size)) (.agg #[.string a, .string cu]) false).run Tryz.prog V.drew = .ok (.int .i64 s1) V.drew ∧
      (Instr.mapEntry 185 (.map (some w0.heap.size)) (.agg #[.string a, .string cu])).run Tryz.prog V.drew = .ok (.tuple #[v0, .int .i64 (st : Nat)]) w2 ∧
      (Instr.lookup 185 (.map (some w0.heap.size)) (.agg #[.string a, .string cu]) false).run Tryz.prog w2 = .ok (.int .i64 s1) w2 ∧
      (Instr.entryStore 185 (.map (some w0.heap.size)) (.int .i64 (st : Nat)) (.int .i64 (s1 + n))).run Tryz.prog w2 = .ok () w3 ∧
      w3.cell? ⟨wr.heap.size, 1, none⟩ = some (.string cu) ∧ w3.cell? ⟨wr.heap.size, 2, none⟩ = some (.int .i64 n) ∧
      (Instr.lookup 186 (.map (some (w0.heap.size + 1))) (.string cu) false).run Tryz.prog w3 = .ok (.int .i64 s2) w3 ∧
      (Instr.mapUpdate 186 (.map (some (w0.heap.size + 1))) (.string cu) (.int .i64 (s2 + n))).run Tryz.prog w3 = .ok () w4 ∧
      Ch w0 w4 es (k + 1) ∧ -70368744177664 ≤ s1 ∧ s1 ≤ 70368744177664 ∧ -70368744177664 ≤ s2 ∧ s2 ≤ 70368744177664 ∧ -1099511627776 ≤ n ∧ n ≤ 1099511627776 := by
  have hfk := hF es[k] (List.getElem_mem hk)
  have hsm := hfk.small
  have hcu := hfk.cur
  have hlo := hfk.lo
  have hhi := hfk.hi
  rw [he] at hsm hcu hlo hhi
  simp only at hcu hlo hhi
  have hTl : (es.take k).length = k := by simp; omega
  have hTF : ∀ e ∈ es.take k, e.Fine := fun e h => hF e (List.mem_of_mem_take h)
  have b1 : -((es.take k).length * 1099511627776 : Int) ≤ (eachG (es.take k) (a, cu)).getD 0 ∧ (eachG (es.take k) (a, cu)).getD 0 ≤ ((es.take k).length * 1099511627776 : Int) := sumBy_bound Ent.key (es.take k) hTF (a, cu)
  have b2 : -((es.take k).length * 1099511627776 : Int) ≤ (sumG (es.take k) cu).getD 0 ∧ (sumG (es.take k) cu).getD 0 ≤ ((es.take k).length * 1099511627776 : Int) := sumBy_bound Ent.cur (es.take k) hTF cu
  rw [hTl] at b1 b2
  obtain ⟨z1, hz1⟩ : ∃ z, (eachG (es.take k) (a, cu)).getD 0 = z := ⟨_, rfl⟩
  obtain ⟨z2, hz2⟩ : ∃ z, (sumG (es.take k) cu).getD 0 = z := ⟨_, rfl⟩
  rw [hz1] at b1
  rw [hz2] at b2
  have hk64 : (k : Int) ≤ 64 := by omega
  have hmE : Mp keyC amtE V.drew w0.heap.size k (eachG (es.take k)) := by rw [hV]; exact h.each.alloc _
  have hmS : Mp curC amtE V.drew (w0.heap.size + 1) k (sumG (es.take k)) := by rw [hV]; exact h.sums.alloc _
  have hsz := h.size
  have c1 : V.drew.cell? ⟨wr.heap.size, 1, none⟩ = some (.string cu) := by
    rw [hV]; show (wr.alloc (entObj a cu n)).cell? _ = _; simp [entObj]
  have c2 : V.drew.cell? ⟨wr.heap.size, 2, none⟩ = some (.int .i64 n) := by
    rw [hV]; show (wr.alloc (entObj a cu n)).cell? _ = _; simp [entObj]
  have hVs : V.drew.heap.size = wr.heap.size + 1 := by rw [hV]; show (wr.alloc (entObj a cu n)).heap.size = _; simp
  have hBV : Below w0.heap.size w0 V.drew := by rw [hV]; exact (h.bel.alloc (by omega) _).drew
  have l1 := hmE.look Tryz.underlying185 (z := 0) (zeroI64 _) (i64_ok (by omega) (by omega)) (x := (a, cu)) hsm
  rw [hz1] at l1
  obtain ⟨v0, st, w2, w3, m1, m2, ml, m3, m4⟩ := hmE.entry keyLaw Tryz.underlying185 (z := 0) (fun u => zeroI64 u) (i64_ok (by omega) (by omega)) (by unfold maxLen; omega) (x := (a, cu)) hsm (fun u hu => by rw [hu] at hz1; simp at hz1; subst hz1; exact i64_ok (by omega) (by omega)) (v := z1 + n) (i64_ok (by omega) (by omega))
  rw [hz1] at ml
  have hg := m4.grown
  have hmS3 := hmS.kept hg (fun e => by injection e; omega)
  have l2 := hmS3.look Tryz.underlying186 (z := 0) (zeroI64 _) (i64_ok (by omega) (by omega)) (x := cu) hcu
  rw [hz2] at l2
  obtain ⟨w4, u1, u2, u3⟩ := hmS3.store Tryz.underlying186 (by unfold maxLen; omega) (x := cu) hcu (v := z2 + n) (i64_ok (by omega) (by omega))
  have hg4 := u3.grown
  have hsz3 : V.drew.heap.size ≤ w3.heap.size := hg.size
  have hsz4 : w3.heap.size ≤ w4.heap.size := hg4.size
  refine ⟨_, _, v0, st, w2, w3, w4, l1, m1, ml, m2, ?_, ?_, l2, u1, ⟨?_, ?_, ?_, by omega⟩, by omega, by omega, by omega, by omega, hlo, hhi⟩
  · rw [← c1]; exact World.cell?_of_block (hg.block wr.heap.size (by omega) (fun e => by injection e; omega))
  · rw [← c2]; exact World.cell?_of_block (hg.block wr.heap.size (by omega) (fun e => by injection e; omega))
  · have := m3.kept hg4 (fun e => by injection e; omega)
    show Mp keyC amtE w4 w0.heap.size (k + 1) (sumBy Ent.key (es.take (k + 1)))
    rw [sumBy_step _ es k hk, he]
    show Mp keyC amtE w4 w0.heap.size (k + 1) (putG (eachG (es.take k)) (a, cu) ((eachG (es.take k) (a, cu)).getD 0 + n))
    rw [hz1]
    exact this
  · show Mp curC amtE w4 (w0.heap.size + 1) (k + 1) (sumBy Ent.cur (es.take (k + 1)))
    rw [sumBy_step _ es k hk, he]
    show Mp curC amtE w4 (w0.heap.size + 1) (k + 1) (putG (sumG (es.take k)) cu ((sumG (es.take k) cu).getD 0 + n))
    rw [hz2]
    exact u2
  · exact (hBV.grown hg hBV.size (fun j hj => by cases hj; exact Nat.le_refl _)).grown hg4 (by omega) (fun j hj => by cases hj; omega)

set_option maxHeartbeats 1000000 in
theorem changes_any (A : Option Addr) (c : Nat) (es : List Ent) (w : World) (hR : Re w w.heap.size A es) (hlen : es.length ≤ 64) (hF : ∀ e ∈ es, e.Fine) :
    Calls Tryz.prog 97 #[.slice A es.length c] w fun e w' => e = .returned (.tuple #[.map (some w.heap.size), .map (some (w.heap.size + 1))]) ∧ Ch w w' es es.length := by
  have hmm := @run_makeMap Tryz.prog
  go_enter Tryz.func97, Tryz.ntmps97
  go_wp2
  clear hmm
  go_loopw [12] (fun i wr => ∃ k : Nat, k ≤ es.length ∧ i = .int .i64 k ∧ Ch w wr es k) (fun i _ => es.length - (intOf i).toNat)
  case atStart => 
    refine ⟨0, Nat.zero_le _, rfl, (Mp.made w).alloc _, ?_, ((Below.refl _ _).alloc (Nat.le_refl _) _).alloc (by simp) _, by simp⟩
    have := Mp.made (C := curC) (E := amtE) (w.alloc (.map #[] 0))
    have e1 : (w.alloc (.map #[] 0)).heap.size = w.heap.size + 1 := by simp
    rw [e1] at this
    exact this
  case round =>
    obtain ⟨k, hk, rfl, hCh⟩ := hrel
    by_cases hlt : k < es.length
    · obtain ⟨g, off, rfl, hg, hc0, hc1, hc2⟩ := (hR.below hCh.bel).at_ hlt
      obtain ⟨⟨a, cu, n⟩, he⟩ : ∃ e : Ent, es[k] = e := ⟨_, rfl⟩
      obtain ⟨s1, s2, v0, st, w2, w3, w4, l1, m1, ml, m2, c1, c2, l2, u1, hCh4, b1, b2, b3, b4, b5, b6⟩ := hCh.turn hlt hlen hF he rfl
      rw [he] at hc0 hc1 hc2
      simp only at hc0 hc1 hc2
      unfold entObj at l1 m1
      have HC := Lib.hid hCh4
      have d0 : (wr.alloc (.cells #[.string a, .string cu, .int .i64 n] 107)).cell? ⟨wr.heap.size, 0, none⟩ = some (.string a) := by simp
      have d1 : (wr.alloc (.cells #[.string a, .string cu, .int .i64 n] 107)).cell? ⟨wr.heap.size, 1, none⟩ = some (.string cu) := by simp
      have d2 : (wr.alloc (.cells #[.string a, .string cu, .int .i64 n] 107)).cell? ⟨wr.heap.size, 2, none⟩ = some (.int .i64 n) := by simp
      have q1 : IntKind.i64.wrap (s1 + n) = s1 + n := IntWalk.i64_in _ (by omega)
      have q2 : IntKind.i64.wrap (s2 + n) = s2 + n := IntWalk.i64_in _ (by omega)
      clear hCh4 hCh hF hR he
      go_wp2_with fail
      clear hc0 hc1 hc2
      generalize wr.alloc (.cells #[.string a, .string cu, .int .i64 n] 107) = V at *
      go_region
      all_goals
        clear l1 m1 ml m2 d0 d1 d2
        go_wp2_with fail
        go_roundw
        case rel => exact ⟨k + 1, by omega, by go_num, HC.out⟩
        case measure => simp [intOf]; omega
    · obtain rfl : k = es.length := by omega
      go_wp2
      go_ret2
      exact ⟨rfl, hCh⟩
end Go.Proofs.YtdinloecgaapaaaGreatDoor
namespace Go.Proofs.YtdinloecgaapaaaGreatDoor
open Go.RowKit Go.Maps Go.Lib
set_option linter.unusedVariables false

section
variable (w : World) {ops : Array Oper} {rest : List Oper} {o : Oper} {a : Act} {Q : Exit → Act → World → Prop}
theorem wpList_next_cur (hg : o.guard = none) (it : Operand) (hop : o.op = Op.next it false) (b r n : Nat) (G : ByteArray → Option Int) (lf : ByteArray → Bool) (cnt : Nat)
    (hit : a.eval it = .pointer (some ⟨r, 0, none⟩)) (h : Rn' curC amtE w b r n G lf cnt)
    (hDone : (∀ x, x.size ≤ maxLen → lf x = false) → wpList Tryz.prog ops Q rest (a.put o.dst (.tuple #[.bool false])) w)
    (hMore : ∀ (x : ByteArray) (v : Int) (w' : World) (cnt' : Nat), x.size ≤ maxLen → lf x = true → G x = some v → Rn' curC amtE w' b r n G (fun z => lf z && !decide (z = x)) cnt' → cnt' < cnt →
      w.grownBy w' (some r) → w'.heap.size = w.heap.size → (Instr.entry (.pointer (some ⟨r, 0, none⟩))).run Tryz.prog w' = .ok (.tuple #[.string x, .int .i64 v]) w' → wpList Tryz.prog ops Q rest (a.put o.dst (.tuple #[.bool true, .string x, .int .i64 v])) w') :
    wpList Tryz.prog ops Q (o :: rest) a w :=
  wpList_next_mp w hg it hop b r n G lf cnt hit h hDone fun x v w' cnt' h1 h2 h3 _ h5 h6 h7 h8 h9 => hMore x v w' cnt' h1 h2 h3 h5 h6 h7 h8 h9
theorem wpList_next_key (hg : o.guard = none) (it : Operand) (hop : o.op = Op.next it false) (b r n : Nat) (G : Nt → Option Int) (lf : Nt → Bool) (cnt : Nat)
    (hit : a.eval it = .pointer (some ⟨r, 0, none⟩)) (h : Rn' keyC amtE w b r n G lf cnt)
    (hDone : (∀ x, Small x → lf x = false) → wpList Tryz.prog ops Q rest (a.put o.dst (.tuple #[.bool false])) w)
    (hMore : ∀ (s t : ByteArray) (v : Int) (w' : World) (cnt' : Nat), Small (s, t) → lf (s, t) = true → G (s, t) = some v → Rn' keyC amtE w' b r n G (fun z => lf z && !decide (z = (s, t))) cnt' → cnt' < cnt →
      w.grownBy w' (some r) → w'.heap.size = w.heap.size → (Instr.entry (.pointer (some ⟨r, 0, none⟩))).run Tryz.prog w' = .ok (.tuple #[.agg #[.string s, .string t], .int .i64 v]) w' → wpList Tryz.prog ops Q rest (a.put o.dst (.tuple #[.bool true, .agg #[.string s, .string t], .int .i64 v])) w') :
    wpList Tryz.prog ops Q (o :: rest) a w :=
  wpList_next_mp w hg it hop b r n G lf cnt hit h hDone fun x v w' cnt' h1 h2 h3 _ h5 h6 h7 h8 h9 => hMore x.1 x.2 v w' cnt' h1 h2 h3 h5 h6 h7 h8 h9
end
end Go.Proofs.YtdinloecgaapaaaGreatDoor
namespace Go.Proofs.YtdinloecgaapaaaGreatDoor
open Go.RowKit

/-- a world in which nothing below block B has turned since w0 -/
structure WC (B : Nat) (w0 : World) where
  w : World
  h : Below B w0 w

instance WC.some (B : Nat) (w0 : World) : Nonempty (WC B w0) := ⟨⟨w0, Below.refl _ _⟩⟩

theorem below_trans' {B : Nat} {a b c : World} (hB : B ≤ a.heap.size) (h : Below B a b) (k : Below b.heap.size b c) : Below B a c := h.trans (k.mono (Nat.le_trans hB h.size))

theorem wp_region_class {P : Program} {id : Nat} {Q : Exit → Act → World → Prop} {a : Act} {w : World} {l : List Oper} (hm : P.follows .mixedOrders = true) (hB : Region.lexB .any l.toArray = true)
    (h : wpQuiet P l.toArray (fun w' => ∃ n : WC w.heap.size w, w' = n.w) (fun a' => ∀ w', (∃ n : WC w.heap.size w, w' = n.w) → Q .normal a' w') l a) : (Code.region id l.toArray true).wp P Q a w :=
  wp_region_quiet (C := fun w' => ∃ n : WC w.heap.size w, w' = n.w) hm hB ⟨⟨w.drew, (Below.refl _ _).drew⟩, rfl⟩ (by simpa using h)

/-- a callee's contract, in a world of the class -/
theorem Calls.class_of {P : Program} {f : FuncId} {args : Array Value} {w : World} {B : Nat} (hB : B ≤ w.heap.size) {n : WC B w} {v : Value}
    (h : Calls P f args n.w fun e w' => e = .returned v ∧ Below n.w.heap.size n.w w') : Calls P f args n.w fun e w'' => e = .returned v ∧ ∃ m : WC B w, w'' = m.w :=
  h.mono fun _ w' ⟨he, hb⟩ => ⟨he, ⟨w', below_trans' hB n.h hb⟩, rfl⟩
theorem Calls.class_same {P : Program} {f : FuncId} {args : Array Value} {w : World} {B : Nat} {n : WC B w} {v : Value}
    (h : Calls P f args n.w fun e w' => e = .returned v ∧ n.w = w') : Calls P f args n.w fun e w'' => e = .returned v ∧ ∃ m : WC B w, w'' = m.w :=
  h.mono fun _ _ ⟨he, hb⟩ => ⟨he, n, hb.symm⟩
end Go.Proofs.YtdinloecgaapaaaGreatDoor
namespace Go.Proofs.YtdinloecgaapaaaGreatDoor
open Go.RowKit Go.Maps Go.Lib
set_option linter.unusedVariables false
set_option maxHeartbeats 400000 in
theorem free_any (x y z : Int) (w : World) (hx : -2199023255552 ≤ x ∧ x ≤ 2199023255552) (hy : -2199023255552 ≤ y ∧ y ≤ 2199023255552) (hz : -2199023255552 ≤ z ∧ z ≤ 2199023255552) :
    Calls Tryz.prog 98 #[.agg #[.int .i64 x, .int .i64 y, .int .i64 z]] w fun e w' => e = .returned (.int .i64 (y - z - x)) ∧ Below w.heap.size w w' := by
  have q1 : IntKind.i64.wrap (y - z) = y - z := IntWalk.i64_in _ (by omega)
  have q2 : IntKind.i64.wrap (y - z - x) = y - z - x := IntWalk.i64_in _ (by omega)
  go_enter Tryz.func98, Tryz.ntmps98
  go_wp2
  go_ret
  exact ⟨rfl, (Below.refl _ _).alloc (Nat.le_refl _) _⟩
end Go.Proofs.YtdinloecgaapaaaGreatDoor
