/- Eight notaries, six of them in a slice. -/
import Derived.Test.YtlbenmndmoeioaaRowed
namespace Go.Proofs.Ytlbenmndmoeioaa
open Go.RowKit Go.Maps
set_option linter.unusedVariables false

structure Ei (w : World) (base g cap pc bc pd bd p0 b0 p1 b1 p2 b2 p3 b3 p4 b4 p5 b5 : Nat) (Lc Ld L0 L1 L2 L3 L4 L5 : List Nt) : Prop where
  nc : Ny w pc bc Lc
  nd : Ny w pd bd Ld
  n0 : Ny w p0 b0 L0
  n1 : Ny w p1 b1 L1
  n2 : Ny w p2 b2 L2
  n3 : Ny w p3 b3 L3
  n4 : Ny w p4 b4 L4
  n5 : Ny w p5 b5 L5
  own : w.ownsRow base 29 1 (.slice (some ⟨g, 0, none⟩) 6 cap) 6 [.pointer (some ⟨p0, 0, none⟩), .pointer (some ⟨p1, 0, none⟩), .pointer (some ⟨p2, 0, none⟩), .pointer (some ⟨p3, 0, none⟩), .pointer (some ⟨p4, 0, none⟩), .pointer (some ⟨p5, 0, none⟩)]
  o0 : bc < pc
  o1 : pc < bd
  o2 : bd < pd
  o3 : pd < b0
  o4 : b0 < p0
  o5 : p0 < b1
  o6 : b1 < p1
  o7 : p1 < b2
  o8 : b2 < p2
  o9 : p2 < b3
  o10 : b3 < p3
  o11 : p3 < b4
  o12 : b4 < p4
  o13 : p4 < b5
  o14 : b5 < p5
section
variable {w w' : World} {base g cap pc bc pd bd p0 b0 p1 b1 p2 b2 p3 b3 p4 b4 p5 b5 : Nat} {Lc Ld L0 L1 L2 L3 L4 L5 L' : List Nt}
theorem Ei.turnc (h : Ei w base g cap pc bc pd bd p0 b0 p1 b1 p2 b2 p3 b3 p4 b4 p5 b5 Lc Ld L0 L1 L2 L3 L4 L5) (hN : Ny w' pc bc L') (hg : w.grownBy w' (some bc)) : Ei w' base g cap pc bc pd bd p0 b0 p1 b1 p2 b2 p3 b3 p4 b4 p5 b5 L' Ld L0 L1 L2 L3 L4 L5 := by
  obtain ⟨nc, nd, n0, n1, n2, n3, n4, n5, own, o0, o1, o2, o3, o4, o5, o6, o7, o8, o9, o10, o11, o12, o13, o14⟩ := h
  have hne := own_ne_b nc own
  exact ⟨hN, nd.kept hg (by intro e; injection e with e; omega) (by intro e; injection e with e; omega), n0.kept hg (by intro e; injection e with e; omega) (by intro e; injection e with e; omega), n1.kept hg (by intro e; injection e with e; omega) (by intro e; injection e with e; omega), n2.kept hg (by intro e; injection e with e; omega) (by intro e; injection e with e; omega), n3.kept hg (by intro e; injection e with e; omega) (by intro e; injection e with e; omega), n4.kept hg (by intro e; injection e with e; omega) (by intro e; injection e with e; omega), n5.kept hg (by intro e; injection e with e; omega) (by intro e; injection e with e; omega), own.kept hg (.inr (by simp [Value.ownBlock]; exact hne)), o0, o1, o2, o3, o4, o5, o6, o7, o8, o9, o10, o11, o12, o13, o14⟩
theorem Ei.cellc (h : Ei w base g cap pc bc pd bd p0 b0 p1 b1 p2 b2 p3 b3 p4 b4 p5 b5 Lc Ld L0 L1 L2 L3 L4 L5) (hg : w.grownBy w' (some bc)) (i : Nat) (v : Value) (hv : ([.pointer (some ⟨p0, 0, none⟩), .pointer (some ⟨p1, 0, none⟩), .pointer (some ⟨p2, 0, none⟩), .pointer (some ⟨p3, 0, none⟩), .pointer (some ⟨p4, 0, none⟩), .pointer (some ⟨p5, 0, none⟩)] : List Value)[i]? = some v) : w'.cell? ⟨g, i, none⟩ = some v :=
  own_cell (h.own.kept hg (.inr (by simp [Value.ownBlock]; exact own_ne_b h.nc h.own))) i v hv
theorem Ei.turnd (h : Ei w base g cap pc bc pd bd p0 b0 p1 b1 p2 b2 p3 b3 p4 b4 p5 b5 Lc Ld L0 L1 L2 L3 L4 L5) (hN : Ny w' pd bd L') (hg : w.grownBy w' (some bd)) : Ei w' base g cap pc bc pd bd p0 b0 p1 b1 p2 b2 p3 b3 p4 b4 p5 b5 Lc L' L0 L1 L2 L3 L4 L5 := by
  obtain ⟨nc, nd, n0, n1, n2, n3, n4, n5, own, o0, o1, o2, o3, o4, o5, o6, o7, o8, o9, o10, o11, o12, o13, o14⟩ := h
  have hne := own_ne_b nd own
  exact ⟨nc.kept hg (by intro e; injection e with e; omega) (by intro e; injection e with e; omega), hN, n0.kept hg (by intro e; injection e with e; omega) (by intro e; injection e with e; omega), n1.kept hg (by intro e; injection e with e; omega) (by intro e; injection e with e; omega), n2.kept hg (by intro e; injection e with e; omega) (by intro e; injection e with e; omega), n3.kept hg (by intro e; injection e with e; omega) (by intro e; injection e with e; omega), n4.kept hg (by intro e; injection e with e; omega) (by intro e; injection e with e; omega), n5.kept hg (by intro e; injection e with e; omega) (by intro e; injection e with e; omega), own.kept hg (.inr (by simp [Value.ownBlock]; exact hne)), o0, o1, o2, o3, o4, o5, o6, o7, o8, o9, o10, o11, o12, o13, o14⟩
theorem Ei.celld (h : Ei w base g cap pc bc pd bd p0 b0 p1 b1 p2 b2 p3 b3 p4 b4 p5 b5 Lc Ld L0 L1 L2 L3 L4 L5) (hg : w.grownBy w' (some bd)) (i : Nat) (v : Value) (hv : ([.pointer (some ⟨p0, 0, none⟩), .pointer (some ⟨p1, 0, none⟩), .pointer (some ⟨p2, 0, none⟩), .pointer (some ⟨p3, 0, none⟩), .pointer (some ⟨p4, 0, none⟩), .pointer (some ⟨p5, 0, none⟩)] : List Value)[i]? = some v) : w'.cell? ⟨g, i, none⟩ = some v :=
  own_cell (h.own.kept hg (.inr (by simp [Value.ownBlock]; exact own_ne_b h.nd h.own))) i v hv
theorem Ei.turn0 (h : Ei w base g cap pc bc pd bd p0 b0 p1 b1 p2 b2 p3 b3 p4 b4 p5 b5 Lc Ld L0 L1 L2 L3 L4 L5) (hN : Ny w' p0 b0 L') (hg : w.grownBy w' (some b0)) : Ei w' base g cap pc bc pd bd p0 b0 p1 b1 p2 b2 p3 b3 p4 b4 p5 b5 Lc Ld L' L1 L2 L3 L4 L5 := by
  obtain ⟨nc, nd, n0, n1, n2, n3, n4, n5, own, o0, o1, o2, o3, o4, o5, o6, o7, o8, o9, o10, o11, o12, o13, o14⟩ := h
  have hne := own_ne_b n0 own
  exact ⟨nc.kept hg (by intro e; injection e with e; omega) (by intro e; injection e with e; omega), nd.kept hg (by intro e; injection e with e; omega) (by intro e; injection e with e; omega), hN, n1.kept hg (by intro e; injection e with e; omega) (by intro e; injection e with e; omega), n2.kept hg (by intro e; injection e with e; omega) (by intro e; injection e with e; omega), n3.kept hg (by intro e; injection e with e; omega) (by intro e; injection e with e; omega), n4.kept hg (by intro e; injection e with e; omega) (by intro e; injection e with e; omega), n5.kept hg (by intro e; injection e with e; omega) (by intro e; injection e with e; omega), own.kept hg (.inr (by simp [Value.ownBlock]; exact hne)), o0, o1, o2, o3, o4, o5, o6, o7, o8, o9, o10, o11, o12, o13, o14⟩
theorem Ei.cell0 (h : Ei w base g cap pc bc pd bd p0 b0 p1 b1 p2 b2 p3 b3 p4 b4 p5 b5 Lc Ld L0 L1 L2 L3 L4 L5) (hg : w.grownBy w' (some b0)) (i : Nat) (v : Value) (hv : ([.pointer (some ⟨p0, 0, none⟩), .pointer (some ⟨p1, 0, none⟩), .pointer (some ⟨p2, 0, none⟩), .pointer (some ⟨p3, 0, none⟩), .pointer (some ⟨p4, 0, none⟩), .pointer (some ⟨p5, 0, none⟩)] : List Value)[i]? = some v) : w'.cell? ⟨g, i, none⟩ = some v :=
  own_cell (h.own.kept hg (.inr (by simp [Value.ownBlock]; exact own_ne_b h.n0 h.own))) i v hv
theorem Ei.turn1 (h : Ei w base g cap pc bc pd bd p0 b0 p1 b1 p2 b2 p3 b3 p4 b4 p5 b5 Lc Ld L0 L1 L2 L3 L4 L5) (hN : Ny w' p1 b1 L') (hg : w.grownBy w' (some b1)) : Ei w' base g cap pc bc pd bd p0 b0 p1 b1 p2 b2 p3 b3 p4 b4 p5 b5 Lc Ld L0 L' L2 L3 L4 L5 := by
  obtain ⟨nc, nd, n0, n1, n2, n3, n4, n5, own, o0, o1, o2, o3, o4, o5, o6, o7, o8, o9, o10, o11, o12, o13, o14⟩ := h
  have hne := own_ne_b n1 own
  exact ⟨nc.kept hg (by intro e; injection e with e; omega) (by intro e; injection e with e; omega), nd.kept hg (by intro e; injection e with e; omega) (by intro e; injection e with e; omega), n0.kept hg (by intro e; injection e with e; omega) (by intro e; injection e with e; omega), hN, n2.kept hg (by intro e; injection e with e; omega) (by intro e; injection e with e; omega), n3.kept hg (by intro e; injection e with e; omega) (by intro e; injection e with e; omega), n4.kept hg (by intro e; injection e with e; omega) (by intro e; injection e with e; omega), n5.kept hg (by intro e; injection e with e; omega) (by intro e; injection e with e; omega), own.kept hg (.inr (by simp [Value.ownBlock]; exact hne)), o0, o1, o2, o3, o4, o5, o6, o7, o8, o9, o10, o11, o12, o13, o14⟩
theorem Ei.cell1 (h : Ei w base g cap pc bc pd bd p0 b0 p1 b1 p2 b2 p3 b3 p4 b4 p5 b5 Lc Ld L0 L1 L2 L3 L4 L5) (hg : w.grownBy w' (some b1)) (i : Nat) (v : Value) (hv : ([.pointer (some ⟨p0, 0, none⟩), .pointer (some ⟨p1, 0, none⟩), .pointer (some ⟨p2, 0, none⟩), .pointer (some ⟨p3, 0, none⟩), .pointer (some ⟨p4, 0, none⟩), .pointer (some ⟨p5, 0, none⟩)] : List Value)[i]? = some v) : w'.cell? ⟨g, i, none⟩ = some v :=
  own_cell (h.own.kept hg (.inr (by simp [Value.ownBlock]; exact own_ne_b h.n1 h.own))) i v hv
theorem Ei.turn2 (h : Ei w base g cap pc bc pd bd p0 b0 p1 b1 p2 b2 p3 b3 p4 b4 p5 b5 Lc Ld L0 L1 L2 L3 L4 L5) (hN : Ny w' p2 b2 L') (hg : w.grownBy w' (some b2)) : Ei w' base g cap pc bc pd bd p0 b0 p1 b1 p2 b2 p3 b3 p4 b4 p5 b5 Lc Ld L0 L1 L' L3 L4 L5 := by
  obtain ⟨nc, nd, n0, n1, n2, n3, n4, n5, own, o0, o1, o2, o3, o4, o5, o6, o7, o8, o9, o10, o11, o12, o13, o14⟩ := h
  have hne := own_ne_b n2 own
  exact ⟨nc.kept hg (by intro e; injection e with e; omega) (by intro e; injection e with e; omega), nd.kept hg (by intro e; injection e with e; omega) (by intro e; injection e with e; omega), n0.kept hg (by intro e; injection e with e; omega) (by intro e; injection e with e; omega), n1.kept hg (by intro e; injection e with e; omega) (by intro e; injection e with e; omega), hN, n3.kept hg (by intro e; injection e with e; omega) (by intro e; injection e with e; omega), n4.kept hg (by intro e; injection e with e; omega) (by intro e; injection e with e; omega), n5.kept hg (by intro e; injection e with e; omega) (by intro e; injection e with e; omega), own.kept hg (.inr (by simp [Value.ownBlock]; exact hne)), o0, o1, o2, o3, o4, o5, o6, o7, o8, o9, o10, o11, o12, o13, o14⟩
theorem Ei.cell2 (h : Ei w base g cap pc bc pd bd p0 b0 p1 b1 p2 b2 p3 b3 p4 b4 p5 b5 Lc Ld L0 L1 L2 L3 L4 L5) (hg : w.grownBy w' (some b2)) (i : Nat) (v : Value) (hv : ([.pointer (some ⟨p0, 0, none⟩), .pointer (some ⟨p1, 0, none⟩), .pointer (some ⟨p2, 0, none⟩), .pointer (some ⟨p3, 0, none⟩), .pointer (some ⟨p4, 0, none⟩), .pointer (some ⟨p5, 0, none⟩)] : List Value)[i]? = some v) : w'.cell? ⟨g, i, none⟩ = some v :=
  own_cell (h.own.kept hg (.inr (by simp [Value.ownBlock]; exact own_ne_b h.n2 h.own))) i v hv
theorem Ei.turn3 (h : Ei w base g cap pc bc pd bd p0 b0 p1 b1 p2 b2 p3 b3 p4 b4 p5 b5 Lc Ld L0 L1 L2 L3 L4 L5) (hN : Ny w' p3 b3 L') (hg : w.grownBy w' (some b3)) : Ei w' base g cap pc bc pd bd p0 b0 p1 b1 p2 b2 p3 b3 p4 b4 p5 b5 Lc Ld L0 L1 L2 L' L4 L5 := by
  obtain ⟨nc, nd, n0, n1, n2, n3, n4, n5, own, o0, o1, o2, o3, o4, o5, o6, o7, o8, o9, o10, o11, o12, o13, o14⟩ := h
  have hne := own_ne_b n3 own
  exact ⟨nc.kept hg (by intro e; injection e with e; omega) (by intro e; injection e with e; omega), nd.kept hg (by intro e; injection e with e; omega) (by intro e; injection e with e; omega), n0.kept hg (by intro e; injection e with e; omega) (by intro e; injection e with e; omega), n1.kept hg (by intro e; injection e with e; omega) (by intro e; injection e with e; omega), n2.kept hg (by intro e; injection e with e; omega) (by intro e; injection e with e; omega), hN, n4.kept hg (by intro e; injection e with e; omega) (by intro e; injection e with e; omega), n5.kept hg (by intro e; injection e with e; omega) (by intro e; injection e with e; omega), own.kept hg (.inr (by simp [Value.ownBlock]; exact hne)), o0, o1, o2, o3, o4, o5, o6, o7, o8, o9, o10, o11, o12, o13, o14⟩
theorem Ei.cell3 (h : Ei w base g cap pc bc pd bd p0 b0 p1 b1 p2 b2 p3 b3 p4 b4 p5 b5 Lc Ld L0 L1 L2 L3 L4 L5) (hg : w.grownBy w' (some b3)) (i : Nat) (v : Value) (hv : ([.pointer (some ⟨p0, 0, none⟩), .pointer (some ⟨p1, 0, none⟩), .pointer (some ⟨p2, 0, none⟩), .pointer (some ⟨p3, 0, none⟩), .pointer (some ⟨p4, 0, none⟩), .pointer (some ⟨p5, 0, none⟩)] : List Value)[i]? = some v) : w'.cell? ⟨g, i, none⟩ = some v :=
  own_cell (h.own.kept hg (.inr (by simp [Value.ownBlock]; exact own_ne_b h.n3 h.own))) i v hv
theorem Ei.turn4 (h : Ei w base g cap pc bc pd bd p0 b0 p1 b1 p2 b2 p3 b3 p4 b4 p5 b5 Lc Ld L0 L1 L2 L3 L4 L5) (hN : Ny w' p4 b4 L') (hg : w.grownBy w' (some b4)) : Ei w' base g cap pc bc pd bd p0 b0 p1 b1 p2 b2 p3 b3 p4 b4 p5 b5 Lc Ld L0 L1 L2 L3 L' L5 := by
  obtain ⟨nc, nd, n0, n1, n2, n3, n4, n5, own, o0, o1, o2, o3, o4, o5, o6, o7, o8, o9, o10, o11, o12, o13, o14⟩ := h
  have hne := own_ne_b n4 own
  exact ⟨nc.kept hg (by intro e; injection e with e; omega) (by intro e; injection e with e; omega), nd.kept hg (by intro e; injection e with e; omega) (by intro e; injection e with e; omega), n0.kept hg (by intro e; injection e with e; omega) (by intro e; injection e with e; omega), n1.kept hg (by intro e; injection e with e; omega) (by intro e; injection e with e; omega), n2.kept hg (by intro e; injection e with e; omega) (by intro e; injection e with e; omega), n3.kept hg (by intro e; injection e with e; omega) (by intro e; injection e with e; omega), hN, n5.kept hg (by intro e; injection e with e; omega) (by intro e; injection e with e; omega), own.kept hg (.inr (by simp [Value.ownBlock]; exact hne)), o0, o1, o2, o3, o4, o5, o6, o7, o8, o9, o10, o11, o12, o13, o14⟩
theorem Ei.cell4 (h : Ei w base g cap pc bc pd bd p0 b0 p1 b1 p2 b2 p3 b3 p4 b4 p5 b5 Lc Ld L0 L1 L2 L3 L4 L5) (hg : w.grownBy w' (some b4)) (i : Nat) (v : Value) (hv : ([.pointer (some ⟨p0, 0, none⟩), .pointer (some ⟨p1, 0, none⟩), .pointer (some ⟨p2, 0, none⟩), .pointer (some ⟨p3, 0, none⟩), .pointer (some ⟨p4, 0, none⟩), .pointer (some ⟨p5, 0, none⟩)] : List Value)[i]? = some v) : w'.cell? ⟨g, i, none⟩ = some v :=
  own_cell (h.own.kept hg (.inr (by simp [Value.ownBlock]; exact own_ne_b h.n4 h.own))) i v hv
theorem Ei.turn5 (h : Ei w base g cap pc bc pd bd p0 b0 p1 b1 p2 b2 p3 b3 p4 b4 p5 b5 Lc Ld L0 L1 L2 L3 L4 L5) (hN : Ny w' p5 b5 L') (hg : w.grownBy w' (some b5)) : Ei w' base g cap pc bc pd bd p0 b0 p1 b1 p2 b2 p3 b3 p4 b4 p5 b5 Lc Ld L0 L1 L2 L3 L4 L' := by
  obtain ⟨nc, nd, n0, n1, n2, n3, n4, n5, own, o0, o1, o2, o3, o4, o5, o6, o7, o8, o9, o10, o11, o12, o13, o14⟩ := h
  have hne := own_ne_b n5 own
  exact ⟨nc.kept hg (by intro e; injection e with e; omega) (by intro e; injection e with e; omega), nd.kept hg (by intro e; injection e with e; omega) (by intro e; injection e with e; omega), n0.kept hg (by intro e; injection e with e; omega) (by intro e; injection e with e; omega), n1.kept hg (by intro e; injection e with e; omega) (by intro e; injection e with e; omega), n2.kept hg (by intro e; injection e with e; omega) (by intro e; injection e with e; omega), n3.kept hg (by intro e; injection e with e; omega) (by intro e; injection e with e; omega), n4.kept hg (by intro e; injection e with e; omega) (by intro e; injection e with e; omega), hN, own.kept hg (.inr (by simp [Value.ownBlock]; exact hne)), o0, o1, o2, o3, o4, o5, o6, o7, o8, o9, o10, o11, o12, o13, o14⟩
theorem Ei.cell5 (h : Ei w base g cap pc bc pd bd p0 b0 p1 b1 p2 b2 p3 b3 p4 b4 p5 b5 Lc Ld L0 L1 L2 L3 L4 L5) (hg : w.grownBy w' (some b5)) (i : Nat) (v : Value) (hv : ([.pointer (some ⟨p0, 0, none⟩), .pointer (some ⟨p1, 0, none⟩), .pointer (some ⟨p2, 0, none⟩), .pointer (some ⟨p3, 0, none⟩), .pointer (some ⟨p4, 0, none⟩), .pointer (some ⟨p5, 0, none⟩)] : List Value)[i]? = some v) : w'.cell? ⟨g, i, none⟩ = some v :=
  own_cell (h.own.kept hg (.inr (by simp [Value.ownBlock]; exact own_ne_b h.n5 h.own))) i v hv
theorem Ei.cell (h : Ei w base g cap pc bc pd bd p0 b0 p1 b1 p2 b2 p3 b3 p4 b4 p5 b5 Lc Ld L0 L1 L2 L3 L4 L5) (i : Nat) (v : Value) (hv : ([.pointer (some ⟨p0, 0, none⟩), .pointer (some ⟨p1, 0, none⟩), .pointer (some ⟨p2, 0, none⟩), .pointer (some ⟨p3, 0, none⟩), .pointer (some ⟨p4, 0, none⟩), .pointer (some ⟨p5, 0, none⟩)] : List Value)[i]? = some v) : w.cell? ⟨g, i, none⟩ = some v := own_cell h.own i v hv
theorem Ei.drew (h : Ei w base g cap pc bc pd bd p0 b0 p1 b1 p2 b2 p3 b3 p4 b4 p5 b5 Lc Ld L0 L1 L2 L3 L4 L5) : Ei w.drew base g cap pc bc pd bd p0 b0 p1 b1 p2 b2 p3 b3 p4 b4 p5 b5 Lc Ld L0 L1 L2 L3 L4 L5 :=
  ⟨h.nc.drew, h.nd.drew, h.n0.drew, h.n1.drew, h.n2.drew, h.n3.drew, h.n4.drew, h.n5.drew, h.own, h.o0, h.o1, h.o2, h.o3, h.o4, h.o5, h.o6, h.o7, h.o8, h.o9, h.o10, h.o11, h.o12, h.o13, h.o14⟩
theorem Ei.below (h : Ei w base g cap pc bc pd bd p0 b0 p1 b1 p2 b2 p3 b3 p4 b4 p5 b5 Lc Ld L0 L1 L2 L3 L4 L5) (hb : Below w.heap.size w w') : Ei w' base g cap pc bc pd bd p0 b0 p1 b1 p2 b2 p3 b3 p4 b4 p5 b5 Lc Ld L0 L1 L2 L3 L4 L5 :=
  ⟨h.nc.below hb h.nc.plt h.nc.blt, h.nd.below hb h.nd.plt h.nd.blt, h.n0.below hb h.n0.plt h.n0.blt, h.n1.below hb h.n1.plt h.n1.blt, h.n2.below hb h.n2.plt h.n2.blt, h.n3.below hb h.n3.plt h.n3.blt, h.n4.below hb h.n4.plt h.n4.blt, h.n5.below hb h.n5.plt h.n5.blt, h.own.kept (grown_of_below hb none) (.inr (by simp [Value.ownBlock])), h.o0, h.o1, h.o2, h.o3, h.o4, h.o5, h.o6, h.o7, h.o8, h.o9, h.o10, h.o11, h.o12, h.o13, h.o14⟩
end

/-- the rest of what the walk knows -/
structure Ot (w0 w : World) (a t : ByteArray) (B : Nat) (A : Option Addr) (M : List Nt) : Prop where
  d0 : w.cell? ⟨w0.heap.size, 0, none⟩ = some (.string a)
  d1 : w.cell? ⟨w0.heap.size, 1, none⟩ = some (.string t)
  rn : Rn w B A M
  le : B ≤ w.heap.size
  lt : w0.heap.size < w.heap.size
  hb : Below w0.heap.size w0 w
section
variable {w0 w w' : World} {a t : ByteArray} {B : Nat} {A : Option Addr} {M : List Nt}
theorem Ot.turn {p b : Nat} {L : List Nt} (h : Ot w0 w a t B A M) (hN : Ny w p b L) (hb : w0.heap.size < b) (hg : w.grownBy w' (some b)) : Ot w0 w' a t B A M :=
  ⟨(keepX hg h.lt (by omega)).trans h.d0, (keepX hg h.lt (by omega)).trans h.d1, h.rn.turned hN h.le hg, Nat.le_trans h.le hg.size, Nat.lt_of_lt_of_le h.lt hg.size, h.hb.grown hg (Nat.le_of_lt h.lt) (fun j hj => by cases hj; omega)⟩
theorem Ot.below (h : Ot w0 w a t B A M) (hb : Below w.heap.size w w') : Ot w0 w' a t B A M :=
  ⟨(hb.cell (p := ⟨w0.heap.size, 0, none⟩) h.lt).trans h.d0, (hb.cell (p := ⟨w0.heap.size, 1, none⟩) h.lt).trans h.d1, h.rn.below (hb.mono h.le), Nat.le_trans h.le hb.size, Nat.lt_of_lt_of_le h.lt hb.size, h.hb.trans (hb.mono (Nat.le_of_lt h.lt))⟩
theorem Ot.drew (h : Ot w0 w a t B A M) : Ot w0 w.drew a t B A M := ⟨h.d0, h.d1, h.rn, h.le, h.lt, h.hb.drew⟩
end
theorem fresh_len {L M P : List Nt} (h : P.Perm (L ++ freshOf L M)) : P.length ≤ L.length + M.length := by
  rw [h.length_eq, List.length_append]
  have : (freshOf L M).length ≤ M.length := List.length_filter_le _ _
  omega
theorem fresh_mem' {L M P : List Nt} (h : P.Perm (L ++ freshOf L M)) (y : Nt) : y ∈ P ↔ y ∈ L ∨ y ∈ M := h.mem_iff.trans (fresh_mem L M y)
theorem left_mem {S0 S1 S2 Q1 Q2 Q3 M : List Nt} (h1 : ∀ y, y ∈ Q1 ↔ y ∈ [] ∨ y ∈ S0) (h2 : ∀ y, y ∈ Q2 ↔ y ∈ Q1 ∨ y ∈ S1) (h3 : ∀ y, y ∈ Q3 ↔ y ∈ Q2 ∨ y ∈ S2) (hA : ∀ y, (y ∈ S0 ∨ y ∈ S1 ∨ y ∈ S2) ↔ y ∈ M) (y : Nt) : y ∈ Q3 ↔ y ∈ M := by
  rw [h3, h2, h1, ← hA]
  simp only [List.not_mem_nil, false_or, or_assoc]
theorem right_mem {S0 S1 S2 Q4 Q5 Q6 M : List Nt} (h4 : ∀ y, y ∈ Q4 ↔ y ∈ S1 ∨ y ∈ S2) (h5 : ∀ y, y ∈ Q5 ↔ y ∈ S0 ∨ y ∈ Q4) (h6 : ∀ y, y ∈ Q6 ↔ y ∈ [] ∨ y ∈ Q5) (hA : ∀ y, (y ∈ S0 ∨ y ∈ S1 ∨ y ∈ S2) ↔ y ∈ M) (y : Nt) : y ∈ Q6 ↔ y ∈ M := by
  rw [h6, h5, h4, ← hA]
  simp only [List.not_mem_nil, false_or]
theorem perm_of_mem {P M : List Nt} (hP : P.Nodup) (hM : M.Nodup) (h : ∀ y, y ∈ P ↔ y ∈ M) : P.Perm M := (List.perm_ext_iff_of_nodup hP hM).2 h
end Go.Proofs.Ytlbenmndmoeioaa
