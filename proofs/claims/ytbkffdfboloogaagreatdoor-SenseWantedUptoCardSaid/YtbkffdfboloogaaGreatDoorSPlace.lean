/- sense.Clash's closure: an atom is put behind the others. -/
import Derived.Test.YtbkffdfboloogaaGreatDoorMB
import Derived.Deep.RegionLaw
import Derived.Deep.AppendLies
import Derived.Lib.AppendZeros
import Derived.Lib.AppendZerosOnto
import Derived.Deep.Cut
namespace Go.Proofs.YtbkffdfboloogaaGreatDoor
open Go.RowKit Go.Maps Go.Lib
set_option linter.unusedVariables false
set_option maxRecDepth 100000

def z6 : List Value := [.int .i64 0, .int .i64 0, .string ⟨#[]⟩, .string ⟨#[]⟩, .int .i64 0, .slice none 0 0]
theorem info_node : (Tryz.prog.info? 33).map (fun i => (i.zero, i.size, i.bytes)) = some (some (.agg z6.toArray), 6, 80) := by kernel_rfl
/-- the atoms' box, at block pb, and their row -/
structure At (w : World) (base pb : Nat) (v : Value) (L : List Rl) (cs : List Value) : Prop where
  box : w.heap[pb]? = some (.cells #[v] 31 (0, 0))
  row : w.ownsRow base 33 6 v L.length cs
  each : ∀ (i : Nat) (x : Rl), L[i]? = some x → cs[6 * i]? = some (.int .i64 x.k) ∧ cs[6 * i + 1]? = some (.int .i64 x.p) ∧ cs[6 * i + 2]? = some (.string x.f) ∧ cs[6 * i + 3]? = some (.string x.t) ∧ cs[6 * i + 4]? = some (.int .i64 x.n) ∧ ∃ A c, cs[6 * i + 5]? = some (.slice A x.l.length c)
/-- nothing has turned but the box, the row, and what is new -/
structure Gr (pb : Nat) (v v' : Value) (w w' : World) : Prop where
  os : w'.os = w.os
  tape : w'.tape = w.tape
  output : w'.output = w.output
  size : w.heap.size ≤ w'.heap.size
  block : ∀ q, q < w.heap.size → q ≠ pb → v.ownBlock ≠ some q → w'.heap[q]? = w.heap[q]?
  loc : v'.ownBlock = v.ownBlock ∨ ∃ q, v'.ownBlock = some q ∧ w.heap.size ≤ q
section
variable {w w' w2 : World} {base pb : Nat} {v v' v2 : Value} {L : List Rl} {cs : List Value}
theorem Gr.refl (pb : Nat) (v : Value) (w : World) : Gr pb v v w w := ⟨rfl, rfl, rfl, Nat.le_refl _, fun _ _ _ _ => rfl, .inl rfl⟩
theorem Gr.trans (h : Gr pb v v' w w') (k : Gr pb v' v2 w' w2) : Gr pb v v2 w w2 := by
  have h1 := h.size
  refine ⟨k.os.trans h.os, k.tape.trans h.tape, k.output.trans h.output, Nat.le_trans h.size k.size, fun q hq hn hv => (k.block q (by omega) hn ?_).trans (h.block q hq hn hv), ?_⟩
  · rcases h.loc with e | ⟨r, e, hr⟩
    · rw [e]; exact hv
    · rw [e]; intro e2; injection e2 with e2; omega
  · rcases k.loc with e | ⟨r, e, hr⟩
    · rw [e]; exact h.loc
    · exact .inr ⟨r, e, by omega⟩
theorem Gr.of_below (hb : Below w.heap.size w w') : Gr pb v v w w' := ⟨hb.os, hb.tape, hb.output, hb.size, fun q hq _ _ => hb.block q hq, .inl rfl⟩
theorem At.below (h : At w base pb v L cs) (hk : ∀ q, q = pb ∨ v.ownBlock = some q → w'.heap[q]? = w.heap[q]?) : At w' base pb v L cs := by
  refine ⟨(hk pb (.inl rfl)).trans h.box, ⟨h.row.1, ?_⟩, h.each⟩
  rcases h.row.2 with h0 | ⟨g, cap, cur, h1, h2, h3, h4⟩
  · exact .inl h0
  · exact .inr ⟨g, cap, cur, h1, h2, (hk g (.inr (by rw [h1]; rfl))).trans h3, h4⟩
theorem row_set {e : TypeId} {size n cap g : Nat} {xs : List Value} (h : w.ownsRow base e size (.slice (some ⟨g, 0, none⟩) n cap) n xs) (i : Nat) (u : Value) : (w.setCell ⟨g, i, none⟩ u).ownsRow base e size (.slice (some ⟨g, 0, none⟩) n cap) n (xs.set i u) := by
  rcases h.2 with ⟨h1, _⟩ | ⟨g', cap', cur', h1, h2, h3, h4, h5, h6, h7⟩
  · cases h1
  · injection h1 with hv1 _ hv3
    injection hv1 with hv1
    injection hv1 with hv1
    subst hv1 hv3
    refine ⟨by simp [h.1], .inr ⟨g, cap, cur'.setIfInBounds i u, rfl, h2, ?_, h4, h5, by simpa using h6, ?_⟩⟩
    · obtain ⟨hlt, hk⟩ := Array.getElem?_eq_some_iff.1 h3
      show (w.heap.modify g _)[g]? = _
      rw [Array.getElem?_eq_getElem (by rw [Array.size_modify]; exact hlt), Array.getElem_modify_self, hk]
      rfl
    · simp only [Array.toList_setIfInBounds]
      rw [List.take_set, h7]
end

def set6 (w : World) (g o : Nat) (k p : Int) (f t : ByteArray) (n : Int) (u : Value) : World :=
  (((((w.setCell ⟨g, o, none⟩ (.int .i64 k)).setCell ⟨g, o + 1, none⟩ (.int .i64 p)).setCell ⟨g, o + 2, none⟩ (.string f)).setCell ⟨g, o + 3, none⟩ (.string t)).setCell ⟨g, o + 4, none⟩ (.int .i64 n)).setCell ⟨g, o + 5, none⟩ u
theorem set6_def (w : World) (g o : Nat) (k p : Int) (f t : ByteArray) (n : Int) (u : Value) :
    (((((w.setCell ⟨g, o, none⟩ (.int .i64 k)).setCell ⟨g, o + 1, none⟩ (.int .i64 p)).setCell ⟨g, o + 2, none⟩ (.string f)).setCell ⟨g, o + 3, none⟩ (.string t)).setCell ⟨g, o + 4, none⟩ (.int .i64 n)).setCell ⟨g, o + 5, none⟩ u = set6 w g o k p f t n u := by
  unfold set6
  with_reducible rfl
theorem set6_other (w : World) (g o : Nat) (k p : Int) (f t : ByteArray) (n : Int) (u : Value) (q : Nat) (hq : q ≠ g) : (set6 w g o k p f t n u).heap[q]? = w.heap[q]? := by
  unfold set6
  iterate 6 rw [Below.heap_setCell _ _ _ q hq]
theorem set6_size (w : World) (g o : Nat) (k p : Int) (f t : ByteArray) (n : Int) (u : Value) : (set6 w g o k p f t n u).heap.size = w.heap.size := by
  unfold set6
  simp
theorem set1_os (w : World) (p : Addr) (v : Value) : (w.setCell p v).os = w.os ∧ (w.setCell p v).tape = w.tape ∧ (w.setCell p v).output = w.output ∧ (w.setCell p v).heap.size = w.heap.size := ⟨rfl, rfl, rfl, by simp⟩
theorem os4 {w w1 w2 : World} (h : w2.os = w1.os ∧ w2.tape = w1.tape ∧ w2.output = w1.output ∧ w2.heap.size = w1.heap.size) (h1 : w1.os = w.os ∧ w1.tape = w.tape ∧ w1.output = w.output) : w2.os = w.os ∧ w2.tape = w.tape ∧ w2.output = w.output ∧ w2.heap.size = w1.heap.size := ⟨h.1.trans h1.1, h.2.1.trans h1.2.1, h.2.2.1.trans h1.2.2, h.2.2.2⟩
theorem os5 {w w1 w2 : World} (h : w2.os = w1.os ∧ w2.tape = w1.tape ∧ w2.output = w1.output ∧ w2.heap.size = w1.heap.size) (h1 : w1.os = w.os ∧ w1.tape = w.tape ∧ w1.output = w.output ∧ w1.heap.size = w.heap.size) : w2.os = w.os ∧ w2.tape = w.tape ∧ w2.output = w.output ∧ w2.heap.size = w.heap.size := ⟨h.1.trans h1.1, h.2.1.trans h1.2.1, h.2.2.1.trans h1.2.2.1, h.2.2.2.trans h1.2.2.2⟩
theorem set6_os (w : World) (g o : Nat) (k p : Int) (f t : ByteArray) (n : Int) (u : Value) : (set6 w g o k p f t n u).os = w.os ∧ (set6 w g o k p f t n u).tape = w.tape ∧ (set6 w g o k p f t n u).output = w.output ∧ (set6 w g o k p f t n u).heap.size = w.heap.size := by
  unfold set6
  exact os5 (set1_os _ _ _) (os5 (set1_os _ _ _) (os5 (set1_os _ _ _) (os5 (set1_os _ _ _) (os5 (set1_os _ _ _) (set1_os _ _ _)))))
theorem set6_list (cs : List Value) (m : Nat) (h : cs.length = m) (a b c d e f : Value) : ((((((cs ++ z6).set m a).set (m + 1) b).set (m + 2) c).set (m + 3) d).set (m + 4) e).set (m + 5) f = cs ++ [a, b, c, d, e, f] := by
  subst h
  unfold z6
  simp [List.set_append_right]
theorem set6_row {w : World} {base e n cap g : Nat} {cs : List Value} (k p : Int) (f t : ByteArray) (m : Int) (u : Value) (hl : cs.length = n * 6) (h : w.ownsRow base e 6 (.slice (some ⟨g, 0, none⟩) (n + 1) cap) (n + 1) (cs ++ z6)) :
    (set6 w g (n * 6) k p f t m u).ownsRow base e 6 (.slice (some ⟨g, 0, none⟩) (n + 1) cap) (n + 1) (cs ++ [.int .i64 k, .int .i64 p, .string f, .string t, .int .i64 m, u]) := by
  have := row_set (row_set (row_set (row_set (row_set (row_set h (n * 6) (.int .i64 k)) (n * 6 + 1) (.int .i64 p)) (n * 6 + 2) (.string f)) (n * 6 + 3) (.string t)) (n * 6 + 4) (.int .i64 m)) (n * 6 + 5) u
  rw [set6_list cs (n * 6) hl] at this
  exact this
theorem at_more {L : List Rl} {cs : List Value} (he : ∀ (i : Nat) (x : Rl), L[i]? = some x → cs[6 * i]? = some (.int .i64 x.k) ∧ cs[6 * i + 1]? = some (.int .i64 x.p) ∧ cs[6 * i + 2]? = some (.string x.f) ∧ cs[6 * i + 3]? = some (.string x.t) ∧ cs[6 * i + 4]? = some (.int .i64 x.n) ∧ ∃ A c, cs[6 * i + 5]? = some (.slice A x.l.length c)) (hl : cs.length = L.length * 6) (x : Rl) (A' : Option Addr) (c' : Nat) :
    ∀ (i : Nat) (y : Rl), (L ++ [x])[i]? = some y → (cs ++ [.int .i64 x.k, .int .i64 x.p, .string x.f, .string x.t, .int .i64 x.n, .slice A' x.l.length c'])[6 * i]? = some (.int .i64 y.k) ∧ (cs ++ [.int .i64 x.k, .int .i64 x.p, .string x.f, .string x.t, .int .i64 x.n, .slice A' x.l.length c'])[6 * i + 1]? = some (.int .i64 y.p) ∧ (cs ++ [.int .i64 x.k, .int .i64 x.p, .string x.f, .string x.t, .int .i64 x.n, .slice A' x.l.length c'])[6 * i + 2]? = some (.string y.f) ∧ (cs ++ [.int .i64 x.k, .int .i64 x.p, .string x.f, .string x.t, .int .i64 x.n, .slice A' x.l.length c'])[6 * i + 3]? = some (.string y.t) ∧ (cs ++ [.int .i64 x.k, .int .i64 x.p, .string x.f, .string x.t, .int .i64 x.n, .slice A' x.l.length c'])[6 * i + 4]? = some (.int .i64 y.n) ∧ ∃ A c, (cs ++ [.int .i64 x.k, .int .i64 x.p, .string x.f, .string x.t, .int .i64 x.n, .slice A' x.l.length c'])[6 * i + 5]? = some (.slice A y.l.length c) := by
  intro i y hy
  rcases Nat.lt_or_ge i L.length with hi | hi
  · rw [List.getElem?_append_left hi] at hy
    obtain ⟨h1, h5, h2, h3, h4, A, c, h6⟩ := he i y hy
    refine ⟨?_, ?_, ?_, ?_, ?_, A, c, ?_⟩ <;> rw [List.getElem?_append_left (by omega)] <;> assumption
  · rw [List.getElem?_append_right hi] at hy
    have h0 : i - L.length = 0 := by
      have := (List.getElem?_eq_some_iff.1 hy).1
      simp at this
      omega
    rw [h0] at hy
    cases hy
    refine ⟨?_, ?_, ?_, ?_, ?_, A', c', ?_⟩ <;> rw [List.getElem?_append_right (by omega)]
    · rw [show 6 * i - cs.length = 0 from by omega]; rfl
    · rw [show 6 * i + 1 - cs.length = 1 from by omega]; rfl
    · rw [show 6 * i + 2 - cs.length = 2 from by omega]; rfl
    · rw [show 6 * i + 3 - cs.length = 3 from by omega]; rfl
    · rw [show 6 * i + 4 - cs.length = 4 from by omega]; rfl
    · rw [show 6 * i + 5 - cs.length = 5 from by omega]; rfl
/-- the atom is there -/
theorem placed {w w4 W : World} {base pb g cap : Nat} {v : Value} {L : List Rl} {cs : List Value} (x : Rl) (A' : Option Addr) (c' : Nat) (hA : At w base pb v L cs) (hw : w.heap.size ≤ w4.heap.size) (hbl : ∀ q, q < w.heap.size → v.ownBlock ≠ some q → w4.heap[q]? = w.heap[q]?) (hos : W.os = w.os ∧ W.tape = w.tape ∧ W.output = w.output ∧ W.heap.size = w4.heap.size)
    (hloc : some g = v.ownBlock ∨ w.heap.size ≤ g) (hbox : W.heap[pb]? = some (.cells #[.slice (some ⟨g, 0, none⟩) (L.length + 1) cap] 31 (0, 0)))
    (hrow : W.ownsRow base 33 6 (.slice (some ⟨g, 0, none⟩) (L.length + 1) cap) (L.length + 1) (cs ++ [.int .i64 x.k, .int .i64 x.p, .string x.f, .string x.t, .int .i64 x.n, .slice A' x.l.length c'])) (hoth : ∀ q, q ≠ pb → q ≠ g → W.heap[q]? = w4.heap[q]?) :
    ∃ v' cs', At W base pb v' (L ++ [x]) cs' ∧ Gr pb v v' w W := by
  refine ⟨_, _, ⟨hbox, by rw [List.length_append]; exact hrow, at_more hA.each hA.row.1 x A' c'⟩, hos.1, hos.2.1, hos.2.2.1, by omega, fun q hq hn hv => ?_, ?_⟩
  · by_cases e : q = g
    · subst e
      rcases hloc with e | e
      · exact absurd e.symm hv
      · omega
    · rw [hoth q hn e, hbl q hq hv]
  · rcases hloc with e | e
    · exact .inl e
    · exact .inr ⟨g, rfl, e⟩

set_option maxHeartbeats 4000000 in
theorem place_any (w : World) (base pb c : Nat) (A : Option Addr) (v : Value) (L : List Rl) (cs : List Value) (x : Rl) (hA : At w base pb v L cs) (hb : base ≤ w.heap.size) (hpb : pb < base) (hl : L.length ≤ 100000) :
    Calls Tryz.prog 34 #[.agg #[.int .i64 x.k, .int .i64 x.p, .string x.f, .string x.t, .int .i64 x.n, .slice A x.l.length c], .pointer (some ⟨pb, 0, none⟩)] w fun e w' => e = .returned (.int .i64 (L.length : Int)) ∧ ∃ v' cs', At w' base pb v' (L ++ [x]) cs' ∧ Gr pb v v' w w' := by
  obtain ⟨i0, hi, hz0, hz1, hz2⟩ := info_parts info_node
  obtain ⟨Av, cv, hv⟩ : ∃ Av cv, v = .slice Av L.length cv := by
    rcases hA.row.2 with ⟨h1, h2⟩ | ⟨g, cap, cur, h1, _⟩
    · exact ⟨none, 0, by rw [h1, h2]⟩
    · exact ⟨_, _, h1⟩
  subst hv
  have HA := Lib.hid hA
  have hpw : pb < w.heap.size := by omega
  generalize hn : L.length = n at *
  clear hA
  go_enter Tryz.func34, Tryz.ntmps34
  go_upto_region 1 with (fail)
  have hb1 : Below w.heap.size w (w.alloc (.cells #[.int .i64 x.k, .int .i64 x.p, .string x.f, .string x.t, .int .i64 x.n, .slice A x.l.length c] 33)) := (Below.refl _ _).alloc (Nat.le_refl _) _
  have h6 : C6 (w.alloc (.cells #[.int .i64 x.k, .int .i64 x.p, .string x.f, .string x.t, .int .i64 x.n, .slice A x.l.length c] 33)) w.heap.size 0 x A c := ⟨by simp, by simp, by simp, by simp, by simp, by simp⟩
  have hs1 : (w.alloc (.cells #[.int .i64 x.k, .int .i64 x.p, .string x.f, .string x.t, .int .i64 x.n, .slice A x.l.length c] 33)).heap.size = w.heap.size + 1 := by simp
  obtain ⟨b0, b1, b2, b3, b4, b5⟩ := h6
  generalize (w.alloc (.cells #[.int .i64 x.k, .int .i64 x.p, .string x.f, .string x.t, .int .i64 x.n, .slice A x.l.length c] 33)) = w1 at *
  generalize hNe : w.heap.size = N at *
  have hown : ∀ q, (Value.slice Av n cv).ownBlock = some q → base ≤ q ∧ q < N := fun q hq => by
    have h := HA.out.row.lt q hq
    rw [hNe] at h
    exact h
  have HA1 : Hid (At w1 base pb (.slice Av n cv) L cs) := Lib.hid (HA.out.below fun q hq => hb1.block q (by
    rcases hq with rfl | hq
    · exact hpw
    · exact (hown q hq).2))
  have hp1 : pb < w1.heap.size := by omega
  have k0 : w1.cell? ⟨pb, 0, none⟩ = some (.slice Av n cv) := by simp [World.cell?, HA1.out.box]
  have e0 : w1.frozen? ⟨pb, 0, none⟩ = false := by simp [World.frozen?, HA1.out.box]
  have hrow : (w1.drew.alloc (.cells z6.toArray 33)).ownsRow base 33 6 (.slice Av n cv) n cs := by
    have := (HA1.out.row.alloc (.cells z6.toArray 33))
    rw [hn] at this
    exact this
  obtain ⟨v', w4, hr, h2, h3, _, h5⟩ := run_append_own_at (P := Tryz.prog) (w := w1.drew.alloc (.cells z6.toArray 33)) base 31 31 33 i0 _ 6 80 Tryz.underlying31 hi hz0 hz1 hz2 rfl (by omega) (.slice Av n cv) n cs hrow ⟨w1.heap.size, 0, none⟩ 1 1 z6 rfl (World.news_of_block (cs := z6.toArray) (t := 33) (fr := (0, 0)) (heap_alloc_new w1.drew _)) (by decide) (by unfold maxLen; omega) (by omega) (by simp; omega)
  obtain ⟨g, cap, rfl⟩ : ∃ g cap, v' = .slice (some ⟨g, 0, none⟩) (n + 1) cap := by
    rcases h2.2 with ⟨_, h2⟩ | ⟨g, cap, cur, h1, _⟩
    · omega
    · exact ⟨_, _, h1⟩
  simp only [z6] at hr
  rw [hs1] at hr
  have hcl : cs.length = n * 6 := hrow.1
  have hgb := (h2.lt g rfl).1
  have hsa : (w1.drew.alloc (.cells z6.toArray 33)).heap.size = N + 2 := by simp [hs1]
  have hold : ∀ q, q < N → (Value.slice Av n cv).ownBlock ≠ some q → w4.heap[q]? = w.heap[q]? := fun q hq hv =>
    (h3.block q (by omega) (fun e => hv e.symm)).trans ((heap_alloc_old w1.drew _ (by show q < w1.heap.size; omega)).trans (hb1.block q hq))
  have hpn : (Value.slice Av n cv).ownBlock ≠ some pb := fun e => by have := (hown pb e).1; omega
  have hbox4 : w4.heap[pb]? = some (.cells #[.slice Av n cv] 31 (0, 0)) := (hold pb hpw hpn).trans HA.out.box
  have k4 : w4.cell? ⟨pb, 0, none⟩ = some (.slice Av n cv) := by simp [World.cell?, hbox4]
  have e4 : w4.frozen? ⟨pb, 0, none⟩ = false := by simp [World.frozen?, hbox4]
  have hpg : pb ≠ g := by omega
  obtain ⟨curg, hcg⟩ : ∃ cur, w4.heap[g]? = some (.cells cur 33 (0, 0)) := by
    rcases h2.2 with ⟨h1, _⟩ | ⟨g', cap', cur, h1, _, h3, _⟩
    · cases h1
    · injection h1 with hv1 _ _
      injection hv1 with hv1
      injection hv1 with hv1
      subst hv1
      exact ⟨cur, h3⟩
  have hce : ∀ j u, z6[j]? = some u → w4.cell? ⟨g, n * 6 + j, none⟩ = some u := fun j u hj => by
    have hj6 : j < 6 := (List.getElem?_eq_some_iff.1 hj).1
    rw [h2.cellAt (n * 6 + j) (by omega), List.getElem?_append_right (by omega), show n * 6 + j - cs.length = j from by omega]
    exact hj
  have hfr : ∀ j, w4.frozen? ⟨g, n * 6 + j, none⟩ = false := fun j => by simp [World.frozen?, hcg]
  have d0 : w4.cell? ⟨g, n * 6, none⟩ = some (.int .i64 0) := hce 0 _ rfl
  have d1 : w4.cell? ⟨g, n * 6 + 1, none⟩ = some (.int .i64 0) := hce 1 _ rfl
  have d2 : w4.cell? ⟨g, n * 6 + 2, none⟩ = some (.string ⟨#[]⟩) := hce 2 _ rfl
  have d3 : w4.cell? ⟨g, n * 6 + 3, none⟩ = some (.string ⟨#[]⟩) := hce 3 _ rfl
  have d4 : w4.cell? ⟨g, n * 6 + 4, none⟩ = some (.int .i64 0) := hce 4 _ rfl
  have d5 : w4.cell? ⟨g, n * 6 + 5, none⟩ = some (.slice none 0 0) := hce 5 _ rfl
  have f0 : w4.frozen? ⟨g, n * 6, none⟩ = false := hfr 0
  have f1 : w4.frozen? ⟨g, n * 6 + 1, none⟩ = false := hfr 1
  have f2 : w4.frozen? ⟨g, n * 6 + 2, none⟩ = false := hfr 2
  have f3 : w4.frozen? ⟨g, n * 6 + 3, none⟩ = false := hfr 3
  have f4 : w4.frozen? ⟨g, n * 6 + 4, none⟩ = false := hfr 4
  have f5 : w4.frozen? ⟨g, n * 6 + 5, none⟩ = false := hfr 5
  have hn1 : (n : Int) < (n : Int) + 1 := by omega
  have hw4 : N + 2 ≤ w4.heap.size := by rw [← hsa]; exact h3.size
  have hloc : some g = (Value.slice Av n cv).ownBlock ∨ w.heap.size ≤ g := by
    rcases h5 with e | e
    · exact .inl e
    · right
      rw [hsa] at e
      injection e with e
      have e' : g = N + 2 := e
      omega
  have hos : w4.os = w.os ∧ w4.tape = w.tape ∧ w4.output = w.output := ⟨h3.os.trans hb1.os, h3.tape.trans hb1.tape, h3.output.trans hb1.output⟩
  have hrA := set6_row x.k x.p x.f x.t x.n (.slice A x.l.length c) hcl h2
  have HWA : Hid (∃ v' cs', At ((set6 w4 g (n * 6) x.k x.p x.f x.t x.n (.slice A x.l.length c)).setCell ⟨pb, 0, none⟩ (.slice (some ⟨g, 0, none⟩) (n + 1) cap)) base pb v' (L ++ [x]) cs' ∧ Gr pb (.slice Av n cv) v' w ((set6 w4 g (n * 6) x.k x.p x.f x.t x.n (.slice A x.l.length c)).setCell ⟨pb, 0, none⟩ (.slice (some ⟨g, 0, none⟩) (n + 1) cap))) := Lib.hid (by
    refine placed (w4 := w4) (g := g) (cap := cap) x A c HA.out (by omega) (fun q hq hv => hold q (by omega) hv) (os4 (os5 (set1_os _ _ _) (set6_os _ _ _ _ _ _ _ _ _)) hos) hloc ?_ ?_ ?_
    · rw [hn]
      exact heap_setCell_same _ pb 0 #[.slice Av n cv] 31 _ ((set6_other _ _ _ _ _ _ _ _ _ pb hpg).trans hbox4)
    · rw [hn]
      exact ownsRow_setCell_other hrA (a := ⟨pb, 0, none⟩) (by simp [Value.ownBlock]; exact fun e => hpg e.symm) _
    · intro q h1 h2
      rw [Below.heap_setCell _ _ _ q h1, set6_other _ _ _ _ _ _ _ _ _ q h2])
  have hrB := set6_row x.k x.p x.f x.t x.n (.slice A x.l.length c) hcl (ownsRow_setCell_other h2 (a := ⟨pb, 0, none⟩) (by simp [Value.ownBlock]; exact fun e => hpg e.symm) (.slice (some ⟨g, 0, none⟩) (n + 1) cap))
  have HWB : Hid (∃ v' cs', At (set6 (w4.setCell ⟨pb, 0, none⟩ (.slice (some ⟨g, 0, none⟩) (n + 1) cap)) g (n * 6) x.k x.p x.f x.t x.n (.slice A x.l.length c)) base pb v' (L ++ [x]) cs' ∧ Gr pb (.slice Av n cv) v' w (set6 (w4.setCell ⟨pb, 0, none⟩ (.slice (some ⟨g, 0, none⟩) (n + 1) cap)) g (n * 6) x.k x.p x.f x.t x.n (.slice A x.l.length c))) := Lib.hid (by
    refine placed (w4 := w4) (g := g) (cap := cap) x A c HA.out (by omega) (fun q hq hv => hold q (by omega) hv) (os4 (os5 (set6_os _ _ _ _ _ _ _ _ _) (set1_os _ _ _)) hos) hloc ?_ ?_ ?_
    · rw [hn, set6_other _ _ _ _ _ _ _ _ _ pb hpg]
      exact heap_setCell_same _ pb 0 #[.slice Av n cv] 31 _ hbox4
    · rw [hn]
      exact hrB
    · intro q h1 h2
      rw [set6_other _ _ _ _ _ _ _ _ _ q h2, Below.heap_setCell _ _ _ q h1])
  have HcA : Hid (((set6 w4 g (n * 6) x.k x.p x.f x.t x.n (.slice A x.l.length c)).setCell ⟨pb, 0, none⟩ (.slice (some ⟨g, 0, none⟩) (n + 1) cap)).cell? ⟨pb, 0, none⟩ = some (.slice (some ⟨g, 0, none⟩) (n + 1) cap)) := Lib.hid (by
    have := heap_setCell_same (set6 w4 g (n * 6) x.k x.p x.f x.t x.n (.slice A x.l.length c)) pb 0 #[.slice Av n cv] 31 (.slice (some ⟨g, 0, none⟩) (n + 1) cap) ((set6_other _ _ _ _ _ _ _ _ _ pb hpg).trans hbox4)
    simp [World.cell?, this])
  have HcB : Hid ((set6 (w4.setCell ⟨pb, 0, none⟩ (.slice (some ⟨g, 0, none⟩) (n + 1) cap)) g (n * 6) x.k x.p x.f x.t x.n (.slice A x.l.length c)).cell? ⟨pb, 0, none⟩ = some (.slice (some ⟨g, 0, none⟩) (n + 1) cap)) := Lib.hid (by
    have := (set6_other (w4.setCell ⟨pb, 0, none⟩ (.slice (some ⟨g, 0, none⟩) (n + 1) cap)) g (n * 6) x.k x.p x.f x.t x.n (.slice A x.l.length c) pb hpg).trans (heap_setCell_same _ pb 0 #[.slice Av n cv] 31 _ hbox4)
    simp [World.cell?, this])
  have Hn := Lib.hid hn
  clear h2 h3 h5 hrow hn hb1 hrA hrB hloc hos hce hfr hcg hbox4 hold hown hpn hcl hsa
  generalize x.l.length = xl at *
  generalize hxk : x.k = xk at *
  generalize hxp : x.p = xp at *
  generalize hxf : x.f = xf at *
  generalize hxt : x.t = xt at *
  generalize hxn : x.n = xn at *
  have HeA := Lib.hid (set6_def w4 g (n * 6) xk xp xf xt xn (.slice A xl c))
  have HeB := Lib.hid (set6_def (w4.setCell ⟨pb, 0, none⟩ (.slice (some ⟨g, 0, none⟩) (n + 1) cap)) g (n * 6) xk xp xf xt xn (.slice A xl c))
  go_region_law ((try simp only [Act.put, List.setIfInBounds_toArray, List.set_cons_zero, List.set_cons_succ]); rw [if_pos (by rfl)]; refine Lib.wp_append_run _ (.tmp 4) (.tmp 7) 31 31 (by rfl) (.slice Av n cv) (.slice (some ⟨N + 1, 0, none⟩) 1 1) (by rfl) (by rfl) _ _ hr ?_)
  all_goals first
    | rw [HeA.out]
      clear HWB HcB HeA HeB k0 k4 e0 e4 d0 d1 d2 d3 d4 d5 f0 f1 f2 f3 f4 f5 b0 b1 b2 b3 b4 b5 hr
      generalize ((set6 w4 g (n * 6) xk xp xf xt xn (.slice A xl c)).setCell ⟨pb, 0, none⟩ (.slice (some ⟨g, 0, none⟩) (n + 1) cap)) = W at *
      have c9 := HcA.out
      go_wp2
      go_ret
      exact ⟨by go_num, HWA.out⟩
    | rw [HeB.out]
      clear HWA HcA HeA HeB k0 k4 e0 e4 d0 d1 d2 d3 d4 d5 f0 f1 f2 f3 f4 f5 b0 b1 b2 b3 b4 b5 hr
      generalize (set6 (w4.setCell ⟨pb, 0, none⟩ (.slice (some ⟨g, 0, none⟩) (n + 1) cap)) g (n * 6) xk xp xf xt xn (.slice A xl c)) = W at *
      have c9 := HcB.out
      go_wp2
      go_ret
      exact ⟨by go_num, HWB.out⟩
end Go.Proofs.YtbkffdfboloogaaGreatDoor
