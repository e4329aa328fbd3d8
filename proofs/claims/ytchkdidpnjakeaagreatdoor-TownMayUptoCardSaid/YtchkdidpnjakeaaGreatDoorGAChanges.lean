/- ledger.changes: what entries change, of each account and of each currency. A range's step over the two maps that 'changes' makes. account.free. Ledger.refused: entries on accounts that are there, that sum to nothing, and that each account can bear. slices.Clone of entries. What entering entries does to the accounts, whatever the order. -/
import Derived.Test.YtchkdidpnjakeaaGreatDoorGAKey
import Derived.Test.YtchkdidpnjakeaaGreatDoorGClass
import Derived.Deep.AppendLies
import Derived.Lib.SliceRun
namespace Go.Proofs.YtchkdidpnjakeaaGreatDoor.Led
open Go.RowKit Go.Maps Go.Lib
set_option linter.unusedVariables false
set_option maxRecDepth 100000

theorem keyLaw : Go.WideMaps.KeyLaw Tryz.prog 302 := deep_law_laid laidOut (m := 2) (by omega) rowNote (by kernel_rfl) wideNote
abbrev eachG (es : List Ent) : Nt → Option Int := sumBy Ent.key es
abbrev sumG (es : List Ent) : ByteArray → Option Int := sumBy Ent.cur es

theorem i64_ok {a : Int} (h0 : -9223372036854775808 ≤ a) (h1 : a ≤ 9223372036854775807) : amtE.ok a := by
  show (Lit.int .i64 a).wf = true
  simp [Lit.wf, IntKind.min, IntKind.max, IntKind.signed, IntKind.bits]
  omega

/-- how far the loop has come -/
structure Ch (w0 w : World) (es : List Ent) (k : Nat) : Prop where
  each : Mp keyC amtE w w0.heap.size k (eachG (es.take k))
  sums : Mp curC amtE w (w0.heap.size + 1) k (sumG (es.take k))
  bel : Below w0.heap.size w0 w
  size : w0.heap.size + 2 ≤ w.heap.size

def entObj (a cu : ByteArray) (n : Int) : Obj := .cells #[.string a, .string cu, .int .i64 n] 51
/-- a round: what is read, what is written -/
theorem Ch.turn {w0 wr : World} {es : List Ent} {k : Nat} (h : Ch w0 wr es k) (hk : k < es.length) (hlen : es.length ≤ 64) (hF : ∀ e ∈ es, e.Fine) {a cu : ByteArray} {n : Int} (he : es[k] = ⟨a, cu, n⟩) {V : World} (hV : V = wr.alloc (entObj a cu n)) :
    ∃ (s1 s2 : Int) (v0 : Value) (st : Nat) (w2 w3 w4 : World),
      (Instr.lookup 338 (.map (some w0.heap.size)) (.agg #[.string a, .string cu]) false).run Tryz.prog V.drew = .ok (.int .i64 s1) V.drew ∧
      (Instr.mapEntry 338 (.map (some w0.heap.size)) (.agg #[.string a, .string cu])).run Tryz.prog V.drew = .ok (.tuple #[v0, .int .i64 (st : Nat)]) w2 ∧
      (Instr.lookup 338 (.map (some w0.heap.size)) (.agg #[.string a, .string cu]) false).run Tryz.prog w2 = .ok (.int .i64 s1) w2 ∧
      (Instr.entryStore 338 (.map (some w0.heap.size)) (.int .i64 (st : Nat)) (.int .i64 (s1 + n))).run Tryz.prog w2 = .ok () w3 ∧
      w3.cell? ⟨wr.heap.size, 1, none⟩ = some (.string cu) ∧ w3.cell? ⟨wr.heap.size, 2, none⟩ = some (.int .i64 n) ∧
      (Instr.lookup 120 (.map (some (w0.heap.size + 1))) (.string cu) false).run Tryz.prog w3 = .ok (.int .i64 s2) w3 ∧
      (Instr.mapUpdate 120 (.map (some (w0.heap.size + 1))) (.string cu) (.int .i64 (s2 + n))).run Tryz.prog w3 = .ok () w4 ∧
      Ch w0 w4 es (k + 1) ∧ -70368744177664 ≤ s1 ∧ s1 ≤ 70368744177664 ∧ -70368744177664 ≤ s2 ∧ s2 ≤ 70368744177664 ∧ -1099511627776 ≤ n ∧ n ≤ 1099511627776 := by
  have hfk := hF es[k] (List.getElem_mem hk)
  have hsm := hfk.small
  have hcu := hfk.cur
  have hlo := hfk.lo
  have hhi := hfk.hi
  rw [he] at hsm hcu hlo hhi
  simp only at hcu hlo hhi
  have hTl : (es.take k).length = k := by simp; omega
  have hTF : ∀ e ∈ es.take k, e.Fine := fun e h => hF e (List.mem_of_mem_take h)
  have b1 : -((es.take k).length * 1099511627776 : Int) ≤ (eachG (es.take k) (a, cu)).getD 0 ∧ (eachG (es.take k) (a, cu)).getD 0 ≤ ((es.take k).length * 1099511627776 : Int) := sumBy_bound Ent.key (es.take k) hTF (a, cu)
  have b2 : -((es.take k).length * 1099511627776 : Int) ≤ (sumG (es.take k) cu).getD 0 ∧ (sumG (es.take k) cu).getD 0 ≤ ((es.take k).length * 1099511627776 : Int) := sumBy_bound Ent.cur (es.take k) hTF cu
  rw [hTl] at b1 b2
  obtain ⟨z1, hz1⟩ : ∃ z, (eachG (es.take k) (a, cu)).getD 0 = z := ⟨_, rfl⟩
  obtain ⟨z2, hz2⟩ : ∃ z, (sumG (es.take k) cu).getD 0 = z := ⟨_, rfl⟩
  rw [hz1] at b1
  rw [hz2] at b2
  have hk64 : (k : Int) ≤ 64 := by omega
  have hmE : Mp keyC amtE V.drew w0.heap.size k (eachG (es.take k)) := by rw [hV]; exact h.each.alloc _
  have hmS : Mp curC amtE V.drew (w0.heap.size + 1) k (sumG (es.take k)) := by rw [hV]; exact h.sums.alloc _
  have hsz := h.size
  have c1 : V.drew.cell? ⟨wr.heap.size, 1, none⟩ = some (.string cu) := by
    rw [hV]; show (wr.alloc (entObj a cu n)).cell? _ = _; simp [entObj]
  have c2 : V.drew.cell? ⟨wr.heap.size, 2, none⟩ = some (.int .i64 n) := by
    rw [hV]; show (wr.alloc (entObj a cu n)).cell? _ = _; simp [entObj]
  have hVs : V.drew.heap.size = wr.heap.size + 1 := by rw [hV]; show (wr.alloc (entObj a cu n)).heap.size = _; simp
  have hBV : Below w0.heap.size w0 V.drew := by rw [hV]; exact (h.bel.alloc (by omega) _).drew
  have l1 := hmE.look Tryz.underlying338 (z := 0) (zeroI64 _) (i64_ok (by omega) (by omega)) (x := (a, cu)) hsm
  rw [hz1] at l1
  obtain ⟨v0, st, w2, w3, m1, m2, ml, m3, m4⟩ := hmE.entry keyLaw Tryz.underlying338 (z := 0) (fun u => zeroI64 u) (i64_ok (by omega) (by omega)) (by unfold maxLen; omega) (x := (a, cu)) hsm (fun u hu => by rw [hu] at hz1; simp at hz1; subst hz1; exact i64_ok (by omega) (by omega)) (v := z1 + n) (i64_ok (by omega) (by omega))
  rw [hz1] at ml
  have hg := m4.grown
  have hmS3 := hmS.kept hg (fun e => by injection e; omega)
  have l2 := hmS3.look Tryz.underlying120 (z := 0) (zeroI64 _) (i64_ok (by omega) (by omega)) (x := cu) hcu
  rw [hz2] at l2
  obtain ⟨w4, u1, u2, u3⟩ := hmS3.store Tryz.underlying120 (by unfold maxLen; omega) (x := cu) hcu (v := z2 + n) (i64_ok (by omega) (by omega))
  have hg4 := u3.grown
  have hsz3 : V.drew.heap.size ≤ w3.heap.size := hg.size
  have hsz4 : w3.heap.size ≤ w4.heap.size := hg4.size
  refine ⟨_, _, v0, st, w2, w3, w4, l1, m1, ml, m2, ?_, ?_, l2, u1, ⟨?_, ?_, ?_, by omega⟩, by omega, by omega, by omega, by omega, hlo, hhi⟩
  · rw [← c1]; exact World.cell?_of_block (hg.block wr.heap.size (by omega) (fun e => by injection e; omega))
  · rw [← c2]; exact World.cell?_of_block (hg.block wr.heap.size (by omega) (fun e => by injection e; omega))
  · have := m3.kept hg4 (fun e => by injection e; omega)
    show Mp keyC amtE w4 w0.heap.size (k + 1) (sumBy Ent.key (es.take (k + 1)))
    rw [sumBy_step _ es k hk, he]
    show Mp keyC amtE w4 w0.heap.size (k + 1) (putG (eachG (es.take k)) (a, cu) ((eachG (es.take k) (a, cu)).getD 0 + n))
    rw [hz1]
    exact this
  · show Mp curC amtE w4 (w0.heap.size + 1) (k + 1) (sumBy Ent.cur (es.take (k + 1)))
    rw [sumBy_step _ es k hk, he]
    show Mp curC amtE w4 (w0.heap.size + 1) (k + 1) (putG (sumG (es.take k)) cu ((sumG (es.take k) cu).getD 0 + n))
    rw [hz2]
    exact u2
  · exact (hBV.grown hg hBV.size (fun j hj => by cases hj; exact Nat.le_refl _)).grown hg4 (by omega) (fun j hj => by cases hj; omega)

set_option maxHeartbeats 1000000 in
theorem changes_any (A : Option Addr) (c : Nat) (es : List Ent) (w : World) (hR : Re w w.heap.size A es) (hlen : es.length ≤ 64) (hF : ∀ e ∈ es, e.Fine) :
    Calls Tryz.prog 244 #[.slice A es.length c] w fun e w' => e = .returned (.tuple #[.map (some w.heap.size), .map (some (w.heap.size + 1))]) ∧ Ch w w' es es.length := by
  have hmm := @run_makeMap Tryz.prog
  go_enter Tryz.func244, Tryz.ntmps244
  go_wp2
  clear hmm
  go_loopw [12] (fun i wr => ∃ k : Nat, k ≤ es.length ∧ i = .int .i64 k ∧ Ch w wr es k) (fun i _ => es.length - (RowKit.intOf i).toNat)
  case atStart => 
    refine ⟨0, Nat.zero_le _, rfl, (Mp.made w).alloc _, ?_, ((Below.refl _ _).alloc (Nat.le_refl _) _).alloc (by simp) _, by simp⟩
    have := Mp.made (C := curC) (E := amtE) (w.alloc (.map #[] 0))
    have e1 : (w.alloc (.map #[] 0)).heap.size = w.heap.size + 1 := by simp
    rw [e1] at this
    exact this
  case round =>
    obtain ⟨k, hk, rfl, hCh⟩ := hrel
    by_cases hlt : k < es.length
    · obtain ⟨g, off, rfl, hg, hc0, hc1, hc2⟩ := (hR.below hCh.bel).at_ hlt
      obtain ⟨⟨a, cu, n⟩, he⟩ : ∃ e : Ent, es[k] = e := ⟨_, rfl⟩
      obtain ⟨s1, s2, v0, st, w2, w3, w4, l1, m1, ml, m2, c1, c2, l2, u1, hCh4, b1, b2, b3, b4, b5, b6⟩ := hCh.turn hlt hlen hF he rfl
      rw [he] at hc0 hc1 hc2
      simp only at hc0 hc1 hc2
      unfold entObj at l1 m1
      have HC := Lib.hid hCh4
      have d0 : (wr.alloc (.cells #[.string a, .string cu, .int .i64 n] 51)).cell? ⟨wr.heap.size, 0, none⟩ = some (.string a) := by simp
      have d1 : (wr.alloc (.cells #[.string a, .string cu, .int .i64 n] 51)).cell? ⟨wr.heap.size, 1, none⟩ = some (.string cu) := by simp
      have d2 : (wr.alloc (.cells #[.string a, .string cu, .int .i64 n] 51)).cell? ⟨wr.heap.size, 2, none⟩ = some (.int .i64 n) := by simp
      have q1 : IntKind.i64.wrap (s1 + n) = s1 + n := IntWalk.i64_in _ (by omega)
      have q2 : IntKind.i64.wrap (s2 + n) = s2 + n := IntWalk.i64_in _ (by omega)
      clear hCh4 hCh hF hR he
      go_wp2_with fail
      clear hc0 hc1 hc2
      generalize wr.alloc (.cells #[.string a, .string cu, .int .i64 n] 51) = V at *
      go_region
      all_goals
        clear l1 m1 ml m2 d0 d1 d2
        go_wp2_with fail
        go_roundw
        case rel => exact ⟨k + 1, by omega, by go_num, HC.out⟩
        case measure => simp [RowKit.intOf]; omega
    · obtain rfl : k = es.length := by omega
      go_wp2
      go_ret2
      exact ⟨rfl, hCh⟩
end Go.Proofs.YtchkdidpnjakeaaGreatDoor.Led
namespace Go.Proofs.YtchkdidpnjakeaaGreatDoor.Led
open Go.RowKit Go.Maps Go.Lib
set_option linter.unusedVariables false

section
variable (w : World) {ops : Array Oper} {rest : List Oper} {o : Oper} {a : Act} {Q : Exit → Act → World → Prop}
theorem wpList_next_cur (hg : o.guard = none) (it : Operand) (hop : o.op = Op.next it false) (b r n : Nat) (G : ByteArray → Option Int) (lf : ByteArray → Bool) (cnt : Nat)
    (hit : a.eval it = .pointer (some ⟨r, 0, none⟩)) (h : Rn' curC amtE w b r n G lf cnt)
    (hDone : (∀ x, x.size ≤ maxLen → lf x = false) → wpList Tryz.prog ops Q rest (a.put o.dst (.tuple #[.bool false])) w)
    (hMore : ∀ (x : ByteArray) (v : Int) (w' : World) (cnt' : Nat), x.size ≤ maxLen → lf x = true → G x = some v → Rn' curC amtE w' b r n G (fun z => lf z && !decide (z = x)) cnt' → cnt' < cnt →
      w.grownBy w' (some r) → w'.heap.size = w.heap.size → (Instr.entry (.pointer (some ⟨r, 0, none⟩))).run Tryz.prog w' = .ok (.tuple #[.string x, .int .i64 v]) w' → wpList Tryz.prog ops Q rest (a.put o.dst (.tuple #[.bool true, .string x, .int .i64 v])) w') :
    wpList Tryz.prog ops Q (o :: rest) a w :=
  wpList_next_mp w hg it hop b r n G lf cnt hit h hDone fun x v w' cnt' h1 h2 h3 _ h5 h6 h7 h8 h9 => hMore x v w' cnt' h1 h2 h3 h5 h6 h7 h8 h9
theorem wpList_next_key (hg : o.guard = none) (it : Operand) (hop : o.op = Op.next it false) (b r n : Nat) (G : Nt → Option Int) (lf : Nt → Bool) (cnt : Nat)
    (hit : a.eval it = .pointer (some ⟨r, 0, none⟩)) (h : Rn' keyC amtE w b r n G lf cnt)
    (hDone : (∀ x, Small x → lf x = false) → wpList Tryz.prog ops Q rest (a.put o.dst (.tuple #[.bool false])) w)
    (hMore : ∀ (s t : ByteArray) (v : Int) (w' : World) (cnt' : Nat), Small (s, t) → lf (s, t) = true → G (s, t) = some v → Rn' keyC amtE w' b r n G (fun z => lf z && !decide (z = (s, t))) cnt' → cnt' < cnt →
      w.grownBy w' (some r) → w'.heap.size = w.heap.size → (Instr.entry (.pointer (some ⟨r, 0, none⟩))).run Tryz.prog w' = .ok (.tuple #[.agg #[.string s, .string t], .int .i64 v]) w' → wpList Tryz.prog ops Q rest (a.put o.dst (.tuple #[.bool true, .agg #[.string s, .string t], .int .i64 v])) w') :
    wpList Tryz.prog ops Q (o :: rest) a w :=
  wpList_next_mp w hg it hop b r n G lf cnt hit h hDone fun x v w' cnt' h1 h2 h3 _ h5 h6 h7 h8 h9 => hMore x.1 x.2 v w' cnt' h1 h2 h3 h5 h6 h7 h8 h9
end
end Go.Proofs.YtchkdidpnjakeaaGreatDoor.Led
namespace Go.Proofs.YtchkdidpnjakeaaGreatDoor.Led
open Go.RowKit Go.Maps Go.Lib
set_option linter.unusedVariables false
set_option maxHeartbeats 400000 in
theorem free_any (x y z : Int) (w : World) (hx : -2199023255552 ≤ x ∧ x ≤ 2199023255552) (hy : -2199023255552 ≤ y ∧ y ≤ 2199023255552) (hz : -2199023255552 ≤ z ∧ z ≤ 2199023255552) :
    Calls Tryz.prog 245 #[.agg #[.int .i64 x, .int .i64 y, .int .i64 z]] w fun e w' => e = .returned (.int .i64 (y - z - x)) ∧ Below w.heap.size w w' := by
  have q1 : IntKind.i64.wrap (y - z) = y - z := IntWalk.i64_in _ (by omega)
  have q2 : IntKind.i64.wrap (y - z - x) = y - z - x := IntWalk.i64_in _ (by omega)
  go_enter Tryz.func245, Tryz.ntmps245
  go_wp2
  go_ret
  exact ⟨rfl, (Below.refl _ _).alloc (Nat.le_refl _) _⟩
end Go.Proofs.YtchkdidpnjakeaaGreatDoor.Led
namespace Go.Proofs.YtchkdidpnjakeaaGreatDoor.Led
open Go.RowKit Go.Maps Go.Lib
set_option linter.unusedVariables false
set_option maxRecDepth 100000

structure _root_.Go.Proofs.YtchkdidpnjakeaaGreatDoor.Ac.Fine (a : Ac) : Prop where
  f0 : -2199023255552 ≤ a.floor
  f1 : a.floor ≤ 2199023255552
  b0 : -2199023255552 ≤ a.bal
  b1 : a.bal ≤ 2199023255552
  h0 : -2199023255552 ≤ a.held
  h1 : a.held ≤ 2199023255552
/-- the account can bear the change -/
structure Bears (a : Ac) (v : Int) : Prop where
  fine : a.Fine
  top : a.bal + v ≤ 1099511627776
  lo : -70368744177664 ≤ v
  low : v < 0 → -v ≤ a.bal - a.held - a.floor

theorem field_bal (x y z : Int) (W : World) : (Instr.field 304 (.agg #[.int .i64 x, .int .i64 y, .int .i64 z]) 1).run Tryz.prog W = .ok (.int .i64 y) W := by kernel_rfl
theorem grown_of_below {a w : World} (h : Below a.heap.size a w) (row : Option Nat) : a.grownBy w row := ⟨h.os, h.tape, h.output, h.size, fun i hi _ => h.block i hi⟩
structure Ch' (w0 w : World) (B : Nat) (es : List Ent) : Prop where
  each : Mp keyC amtE w B es.length (eachG es)
  sums : Mp curC amtE w (B + 1) es.length (sumG es)
/-- a round of the first loop: the account is there -/
theorem Lg.turn {w0 wr : World} {p b n : Nat} {G : Nt → Option Ac} {pv hv : Value} (hL : Lg w0 p b n G pv hv) (hb : Below w0.heap.size w0 wr) {V : World} {a cu : ByteArray} {m : Int} (hV : V = wr.alloc (entObj a cu m)) (hx : Small (a, cu)) {ac : Ac} (hG : G (a, cu) = some ac) :
    V.cell? ⟨p, 0, none⟩ = some (.map (some b)) ∧
    (Instr.lookup 263 (.map (some b)) (.agg #[.string a, .string cu]) true).run Tryz.prog V.drew = .ok (.tuple #[.agg #[.int .i64 ac.floor, .int .i64 ac.bal, .int .i64 ac.held], .bool true]) V.drew ∧
    (Instr.lookup 263 (.map (some b)) (.agg #[.string a, .string cu]) true).run Tryz.prog (V.alloc (.cells #[.int .i64 0, .int .i64 0, .int .i64 0] 304)).drew = .ok (.tuple #[.agg #[.int .i64 ac.floor, .int .i64 ac.bal, .int .i64 ac.held], .bool true]) (V.alloc (.cells #[.int .i64 0, .int .i64 0, .int .i64 0] 304)).drew := by
  have h1 : Lg V p b n G pv hv := by rw [hV]; exact (hL.below hb hL.plt hL.blt).alloc _
  refine ⟨h1.c0, ?_, ?_⟩
  · have := (h1.drewN 1).acc.look_ok Tryz.underlying263 (zeroAc _) trivial (x := (a, cu)) hx
    rw [hG] at this
    exact this
  · have := ((h1.alloc (.cells #[.int .i64 0, .int .i64 0, .int .i64 0] 304)).drewN 1).acc.look_ok Tryz.underlying263 (zeroAc _) trivial (x := (a, cu)) hx
    rw [hG] at this
    exact this

end Go.Proofs.YtchkdidpnjakeaaGreatDoor.Led
namespace Go.Proofs.YtchkdidpnjakeaaGreatDoor.Led
open Go.RowKit Go.Maps Go.Lib
set_option linter.unusedVariables false
set_option maxRecDepth 100000

def entC (e : Ent) : List Value := [.string e.acc, .string e.cur, .int .i64 e.n]
def cellsE (T : List Ent) : List Value := T.flatMap entC
theorem cellsE_len (T : List Ent) : (cellsE T).length = T.length * 3 := by
  induction T with
  | nil => rfl
  | cons e T ih => simp [cellsE, entC] at ih ⊢; omega
theorem cellsE_at : ∀ (T : List Ent) (i : Nat) (t : Ent), T[i]? = some t → (cellsE T)[i * 3]? = some (.string t.acc) ∧ (cellsE T)[i * 3 + 1]? = some (.string t.cur) ∧ (cellsE T)[i * 3 + 2]? = some (.int .i64 t.n)
  | [], i, t, h => by simp at h
  | u :: T, 0, t, h => by simp at h; subst h; exact ⟨rfl, rfl, rfl⟩
  | u :: T, i + 1, t, h => by
    have := cellsE_at T i t (by simpa using h)
    have e : cellsE (u :: T) = .string u.acc :: .string u.cur :: .int .i64 u.n :: cellsE T := rfl
    rw [e]
    have e0 : (i + 1) * 3 = i * 3 + 1 + 1 + 1 := by omega
    have e1 : (i + 1) * 3 + 1 = i * 3 + 1 + 1 + 1 + 1 := by omega
    have e2 : (i + 1) * 3 + 2 = i * 3 + 2 + 1 + 1 + 1 := by omega
    rw [e1, e2, e0]
    exact this
theorem cellsE_one (T : List Ent) : ∀ u ∈ cellsE T, u.oneCell' = true := by
  intro u hu
  obtain ⟨e, _, h⟩ := List.mem_flatMap.1 hu
  simp [entC] at h
  rcases h with rfl | rfl | rfl <;> rfl
theorem Re.of_row {w : World} {base c : Nat} {e : TypeId} {A : Option Addr} {T : List Ent} (h : w.ownsRow base e 3 (.slice A T.length c) T.length (cellsE T)) : Re w w.heap.size A T := fun hl => by
  rcases h.2 with ⟨h0, hn⟩ | ⟨g, cap, cur, he, h6⟩
  · rw [hn] at hl; exact absurd hl (by decide)
  · injection he with e1 _ e3
    subst e1 e3
    refine ⟨g, 0, rfl, (h.lt g rfl).2, fun i x hx => ?_⟩
    obtain ⟨h1, h2, h3⟩ := cellsE_at T i x hx
    have hc := h.cells (g := g) rfl
    have ha : ∀ k, (⟨g, 0, none⟩ : Addr).add k = ⟨g, 0 + k, none⟩ := by
      intro k
      by_cases e : k = 0
      · subst e; simp [Addr.add]
      · simp [Addr.add, e]
    have e1 := hc _ _ h1
    have e2 := hc _ _ h2
    have e3 := hc _ _ h3
    rw [ha] at e1 e2 e3
    exact ⟨e1, by rw [Nat.add_assoc]; exact e2, by rw [Nat.add_assoc]; exact e3⟩
/-- the cells behind a slice's address -/
theorem Re.cells {w : World} {B g off : Nat} {T : List Ent} (h : Re w B (some ⟨g, off, none⟩) T) : ∀ j u, (cellsE T)[j]? = some u → w.cell? ⟨g, off + j, none⟩ = some u := by
  intro j u hj
  have hl : j < T.length * 3 := by rw [← cellsE_len]; exact (List.getElem?_eq_some_iff.1 hj).1
  obtain ⟨g', off', e, _, hc⟩ := h (by omega)
  injection e with e
  injection e with e1 e2
  subst e1 e2
  have hq : j / 3 < T.length := by omega
  have hx := List.getElem?_eq_getElem hq
  obtain ⟨c0, c1, c2⟩ := hc _ _ hx
  obtain ⟨d0, d1, d2⟩ := cellsE_at T _ _ hx
  rcases (show j = j / 3 * 3 ∨ j = j / 3 * 3 + 1 ∨ j = j / 3 * 3 + 2 by omega) with h | h | h
  · rw [h] at hj ⊢; rw [d0] at hj; rw [c0]; exact hj
  · rw [h] at hj ⊢; rw [d1] at hj; rw [← Nat.add_assoc, c1]; exact hj
  · rw [h] at hj ⊢; rw [d2] at hj; rw [← Nat.add_assoc, c2]; exact hj
theorem ent_info : (Tryz.prog.info? 51).map (fun i => (i.zero, i.size, i.bytes)) = some (some (.agg #[.string ⟨#[]⟩, .string ⟨#[]⟩, .int .i64 0]), 3, 40) := by kernel_rfl

set_option maxHeartbeats 1000000 in
theorem cloneE_any (A : Option Addr) (c : Nat) (es : List Ent) (w : World) (hR : Re w w.heap.size A es) (h0 : 0 < es.length) (hlen : es.length ≤ 64) :
    Calls Tryz.prog 42 #[.slice A es.length c] w fun e w' => ∃ A' c', e = .returned (.slice A' es.length c') ∧ Re w' w'.heap.size A' es ∧ Below w.heap.size w w' ∧ ∀ ad, A' = some ad → w.heap.size ≤ ad.block ∧ ∃ cs fr, w'.heap[ad.block]? = some (.cells cs 51 fr) := by
  obtain ⟨i0, hi, hz0, hz1, hz2⟩ := info_parts ent_info
  obtain ⟨g, off, rfl, hg, _⟩ := hR h0
  have Hc := Lib.hid hR.cells
  clear hR
  have q22 : ∀ (w : World) (a : Option Addr) (n c n' c' : Nat), (binOp .eql 24 (.slice a n c) (.slice none n' c')).run Tryz.prog w = .ok (.bool a.isNone) w := fun w a n c n' c' => Lib.run_eql_slice_nil w _ _ a n c n' c' Tryz.underlying24
  go_enter Tryz.func42, Tryz.ntmps42
  go_wp2_with (at_builtin; refine wpList_append_own _ rfl _ _ 24 rfl w.heap.size 51 i0 _ 3 40 Tryz.underlying24 hi hz0 hz1 hz2 rfl (by decide) _ _ _ rfl (World.ownsRow_made w #[] 0 (Nat.le_refl _) (Nat.zero_le _) rfl) ⟨g, off, none⟩ es.length c (cellsE es) rfl ?qc1 ?qc2 ?qc3 ?qc4 ?qc5 ?qc6 ?_)
  case qc1 => rw [cellsE_len]
  case qc2 =>
    intro j u hj
    rw [Addr.add_lit]
    exact Lib.cell?_alloc_some _ (Hc.out j u hj)
  case qc3 => exact cellsE_one es
  case qc4 => unfold maxLen; omega
  case qc5 => omega
  case qc6 => simp
  intro v' w1 hown hgrow hnil
  go_wp2
  go_ret
  have hown' : w1.ownsRow w.heap.size 51 3 v' es.length (cellsE es) := by simpa using hown
  obtain ⟨A', c', rfl⟩ : ∃ A' c', v' = .slice A' es.length c' := by
    rcases hown'.2 with ⟨h1, hn⟩ | ⟨g, cap, cur, he, _⟩
    · omega
    · exact ⟨_, _, he⟩
  exact ⟨A', c', rfl, Re.of_row hown', ((Below.refl _ w).alloc (Nat.le_refl _) _).grown hgrow (by simp) (by intro k hk; simp [Value.ownBlock] at hk; omega), fun ad hA => by
    subst hA
    refine ⟨(hown'.lt ad.block rfl).1, ?_⟩
    rcases hown'.2 with ⟨h1, hn⟩ | ⟨g, cap, cur, he, _, h3, _⟩
    · cases h1
    · injection he with e1 _ _
      injection e1 with e1
      subst e1
      exact ⟨cur, _, h3⟩⟩
end Go.Proofs.YtchkdidpnjakeaaGreatDoor.Led
namespace Go.Proofs.YtchkdidpnjakeaaGreatDoor.Led
open Go.RowKit Go.Maps Go.Lib
set_option linter.unusedVariables false
set_option maxRecDepth 100000

/-- a range's beginning, with a bound on how many there are to come -/
theorem wpList_range_le {P : Program} {k : TypeId} {α β : Type} {C : KeyC P k α} {E : ElC β} (w : World) {ops : Array Oper} {rest : List Oper} {o : Oper} {a : Act} {Q : Exit → Act → World → Prop}
    (hg : o.guard = none) (m : Operand) (t : TypeId) (hop : o.op = Op.range t m) (e : TypeId) (ht : P.underlying t = some (.map k e)) (b n : Nat) (G : α → Option β)
    (hm : a.eval m = .map (some b)) (hown : Mp C E w b n G)
    (hK : ∀ w', (∃ cnt, cnt ≤ n ∧ Rn' C E w' b w.heap.size n G (fun x => (G x).isSome) cnt) → w.grownBy w' none → w'.heap.size = w.heap.size + 1 → wpList P ops Q rest (a.put o.dst (.pointer (some ⟨w.heap.size, 0, none⟩))) w') :
    wpList P ops Q (o :: rest) a w := by
  obtain ⟨D, h, hR⟩ := hown
  exact wpList_range_own w hg m t hop k e C.law ht E.R b n D hm h fun w' h1 h2 h3 => hK w' ⟨_, h.size_le, D, _, h1, hR, hR.has, fun x _ h => h⟩ h2 h3

def _root_.Go.Proofs.YtchkdidpnjakeaaGreatDoor.Ac.plus (a : Ac) (v : Int) : Ac := ⟨a.floor, a.bal + v, a.held⟩
/-- the accounts, those changed that are no longer to come -/
def bumped (G : Nt → Option Ac) (E : Nt → Option Int) (lf : Nt → Bool) : Nt → Option Ac := fun x => match E x with
  | none => G x
  | some v => if lf x then G x else (G x).map fun a => a.plus v
/-- the accounts, all changed -/
def bump (G : Nt → Option Ac) (E : Nt → Option Int) : Nt → Option Ac := fun x => match E x with
  | none => G x
  | some v => (G x).map fun a => a.plus v
theorem bumped_start (G : Nt → Option Ac) (E : Nt → Option Int) : bumped G E (fun x => (E x).isSome) = G := by
  funext x
  unfold bumped
  cases h : E x <;> simp [h]
theorem bumped_step {G : Nt → Option Ac} {E : Nt → Option Int} {lf : Nt → Bool} {x : Nt} {v : Int} {a : Ac} (hE : E x = some v) (hG : G x = some a) :
    putG (bumped G E lf) x (a.plus v) = bumped G E (fun z => lf z && !decide (z = x)) := by
  funext y
  by_cases h : y = x
  · subst h; rw [putG_same]; simp [bumped, hE, hG]
  · rw [putG_other _ _ h]; simp [bumped, h]
theorem bumped_at {G : Nt → Option Ac} {E : Nt → Option Int} {lf : Nt → Bool} {x : Nt} (hl : lf x = true) : bumped G E lf x = G x := by
  unfold bumped
  cases E x <;> simp [hl]
/-- at the end; keys that are no keys hold nothing -/
theorem bumped_end {G : Nt → Option Ac} {E : Nt → Option Int} {lf : Nt → Bool} (hl : ∀ x, Small x → lf x = false) (hE : ∀ x v, E x = some v → Small x) : bumped G E lf = bump G E := by
  funext x
  unfold bumped bump
  cases h : E x with
  | none => rfl
  | some v => simp [hl x (hE x v h)]
theorem sumBy_mem {α : Type} [DecidableEq α] (key : Ent → α) : ∀ (es : List Ent) (x : α) (v : Int), sumBy key es x = some v → ∃ e ∈ es, key e = x := by
  intro es
  induction es using List.reverseRecOn' with
  | nil => intro x v h; simp [sumBy] at h
  | snoc es e ih =>
    intro x v h
    rw [sumBy_snoc] at h
    by_cases hx : x = key e
    · exact ⟨e, by simp, hx.symm⟩
    · rw [putG_other _ _ hx] at h
      obtain ⟨e', he', h'⟩ := ih x v h
      exact ⟨e', by simp [he'], h'⟩
theorem eachG_small {es : List Ent} (hF : ∀ e ∈ es, e.Fine) : ∀ x v, eachG es x = some v → Small x := by
  intro x v h
  obtain ⟨e, he, rfl⟩ := sumBy_mem Ent.key es x v h
  exact (hF e he).small
end Go.Proofs.YtchkdidpnjakeaaGreatDoor.Led
