/- sense.clashes' closure, and slices.ContainsFunc of it. sense.clashes. -/
import Derived.Test.YtbkffdfboloogaaGreatDoorMM
import Derived.Test.YtbkffdfboloogaaGreatDoorSPlace
import Derived.BigQuiet
import Derived.Test.YtbkffdfboloogaaGreatDoorML
namespace Go.Proofs.YtbkffdfboloogaaGreatDoor
open Go.RowKit Go.Maps Go.Lib
set_option linter.unusedVariables false
set_option maxRecDepth 100000

/-- the cells of an atom -/
structure A6 (w : World) (g o : Nat) (a : Rl) (A5 : Option Addr) (c5' : Nat) : Prop where
  c0 : w.cell? ⟨g, o, none⟩ = some (.int .i64 a.k)
  c1 : w.cell? ⟨g, o + 1, none⟩ = some (.int .i64 a.p)
  c2 : w.cell? ⟨g, o + 2, none⟩ = some (.string a.f)
  c3 : w.cell? ⟨g, o + 3, none⟩ = some (.string a.t)
  c4 : w.cell? ⟨g, o + 4, none⟩ = some (.int .i64 a.n)
  c5 : w.cell? ⟨g, o + 5, none⟩ = some (.slice A5 a.l.length c5')
/-- a slice of atoms, in a block below B -/
def Am (w : World) (B : Nat) (A : Option Addr) (L : List Rl) : Prop :=
  0 < L.length → ∃ g off, A = some ⟨g, off, none⟩ ∧ g < B ∧ ∀ (i : Nat) (a : Rl), L[i]? = some a → ∃ A5 c5', A6 w g (off + i * 6) a A5 c5'
/-- a slice of numbers, in a block below B -/
def Is (w : World) (B : Nat) (A : Option Addr) (l : List Nat) : Prop :=
  0 < l.length → ∃ g off, A = some ⟨g, off, none⟩ ∧ g < B ∧ ∀ (i x : Nat), l[i]? = some x → w.cell? ⟨g, off + i, none⟩ = some (.int .i64 (x : Int))
section
variable {w w' : World} {B B' : Nat} {A : Option Addr} {L : List Rl} {l : List Nat}
theorem Am.below (h : Am w B A L) (hb : Below B w w') : Am w' B A L := fun hl => by
  obtain ⟨g, off, e, hg, hc⟩ := h hl
  refine ⟨g, off, e, hg, fun i a ha => ?_⟩
  obtain ⟨A5, c5', h6⟩ := hc i a ha
  have k : ∀ p : Addr, p.block = g → w'.cell? p = w.cell? p := fun p hp => hb.cell (by rw [hp]; exact hg)
  exact ⟨A5, c5', (k _ rfl).trans h6.c0, (k _ rfl).trans h6.c1, (k _ rfl).trans h6.c2, (k _ rfl).trans h6.c3, (k _ rfl).trans h6.c4, (k _ rfl).trans h6.c5⟩
theorem Am.at_ (h : Am w B A L) {i : Nat} {a : Rl} (ha : L[i]? = some a) : ∃ g off A5 c5', A = some ⟨g, off, none⟩ ∧ g < B ∧ A6 w g (off + i * 6) a A5 c5' := by
  have hi := (List.getElem?_eq_some_iff.1 ha).1
  obtain ⟨g, off, e, hg, hc⟩ := h (by omega)
  obtain ⟨A5, c5', h6⟩ := hc i a ha
  exact ⟨g, off, A5, c5', e, hg, h6⟩
theorem Is.below (h : Is w B A l) (hb : Below B w w') : Is w' B A l := fun hl => by
  obtain ⟨g, off, e, hg, hc⟩ := h hl
  exact ⟨g, off, e, hg, fun i x hx => (hb.cell (p := ⟨g, off + i, none⟩) hg).trans (hc i x hx)⟩
theorem Am.more (h : Am w B A L) (hB : B ≤ B') : Am w B' A L := fun hl => by
  obtain ⟨g, off, e, hg, hc⟩ := h hl
  exact ⟨g, off, e, by omega, hc⟩
theorem Is.more (h : Is w B A l) (hB : B ≤ B') : Is w B' A l := fun hl => by
  obtain ⟨g, off, e, hg, hc⟩ := h hl
  exact ⟨g, off, e, by omega, hc⟩
theorem Is.at_ (h : Is w B A l) {i : Nat} (hi : i < l.length) : ∃ g off, A = some ⟨g, off, none⟩ ∧ g < B ∧ w.cell? ⟨g, off + i, none⟩ = some (.int .i64 (l[i] : Int)) := by
  obtain ⟨g, off, e, hg, hc⟩ := h (by omega)
  exact ⟨g, off, e, hg, hc i _ (List.getElem?_eq_getElem hi)⟩
end
/-- is an atom against its field's text? -/
def hitG (G : ByteArray → Option ByteArray) (a : Rl) : Bool := match G a.f with
  | some t => agB t a
  | none => false
set_option maxHeartbeats 2000000 in
theorem clash1_any (i n tb ab mb c : Nat) (A : Option Addr) (L : List Rl) (a : Rl) (G : ByteArray → Option ByteArray) (w : World) (hG : Gl w) (ht : w.cell? ⟨tb, 0, none⟩ = some (.map (some mb))) (hab : w.cell? ⟨ab, 0, none⟩ = some (.slice A L.length c)) (hM : Mp curC txtE w mb n G)
    (hA : Am w w.heap.size A L) (ha : L[i]? = some a) (hf : a.f.size ≤ maxLen) (hs : ∀ t, G a.f = some t → t.size ≤ 4000000) :
    Calls Tryz.prog 68 #[.int .i64 (i : Int), .pointer (some ⟨tb, 0, none⟩), .pointer (some ⟨ab, 0, none⟩)] w fun e w' => e = .returned (.bool (hitG G a)) ∧ Below w.heap.size w w' := by
  obtain ⟨g, off, A5, c5', rfl, hg, h6⟩ := hA.at_ ha
  have hi := (List.getElem?_eq_some_iff.1 ha).1
  have hlk : ∀ nq, (Instr.lookup 106 (.map (some mb)) (.string a.f) true).run Tryz.prog (w.drewN nq) = .ok (.tuple #[.string ((G a.f).getD ⟨#[]⟩), .bool (G a.f).isSome]) (w.drewN nq) := fun nq =>
    (hM.drewN nq).look_ok Tryz.underlying106 (zeroStr _) (by show (0 : Nat) ≤ maxLen; omega) (x := a.f) hf
  have hi0 : (0 : Int) ≤ (i : Int) := by omega
  have hi1 : (i : Int) < (L.length : Int) := by omega
  obtain ⟨d0, d1, d2, d3, d4, d5⟩ := h6
  have HAg := Lib.hid fun (t : ByteArray) (h : t.size ≤ 4000000) (m : Nat) => against_any t a (.int .i64 a.p) (.slice A5 a.l.length c5') (w.drewN m) (hG.below (below_drewN (Below.refl _ _) _)) h
  have HE : Hid (hitG G a = match G a.f with
    | some t => agB t a
    | none => false) := Lib.hid rfl
  have hlkx := Lib.hid hlk
  clear hlk hG hA ha hM
  generalize hr : hitG G a = r at *
  clear hr
  cases hGf : G a.f with
  | none =>
    have hlk := hlkx.out
    have HE2 : Hid (r = false) := Lib.hid (by rw [HE.out, hGf])
    rw [hGf] at hlk
    simp only [Option.getD_none, Option.isSome_none] at hlk
    clear HE hlkx hGf hs HAg
    generalize a.k = k at *
    generalize a.f = f at *
    generalize a.t = t at *
    generalize a.n = n at *
    generalize a.p = ap at *
    generalize a.l.length = al at *
    generalize L.length = ln at *
    go_enter Tryz.func68, Tryz.ntmps68
    go_wp2_with fail
    go_quiet (fail)
    go_wp2_with fail
    go_ret
    exact ⟨by rw [HE2.out]; rfl, below_drewN (Below.refl _ _) _⟩
  | some s =>
    have hlk := hlkx.out
    have HE2 : Hid (r = agB s a) := Lib.hid (by rw [HE.out, hGf])
    have HC := Lib.hid (fun m => HAg.out s (hs s hGf) m)
    rw [hGf] at hlk
    simp only [Option.getD_some, Option.isSome_some] at hlk
    clear HE hlkx hGf hs HAg
    generalize agB s a = b at *
    generalize a.k = k at *
    generalize a.f = f at *
    generalize a.t = t at *
    generalize a.n = n at *
    generalize a.p = ap at *
    generalize a.l.length = al at *
    generalize L.length = ln at *
    go_enter Tryz.func68, Tryz.ntmps68
    go_wp2_with fail
    go_quiet (fail)
    have HC2 := Lib.hid (HC.out nq)
    have HB := Lib.hid (below_drewN (Below.refl w.heap.size w) nq)
    have hsz : (w.drewN nq).heap.size = w.heap.size := rfl
    have e0 : (w.drewN nq).cell? _ = _ := d0
    have e1 : (w.drewN nq).cell? _ = _ := d1
    have e2 : (w.drewN nq).cell? _ = _ := d2
    have e3 : (w.drewN nq).cell? _ = _ := d3
    have e4 : (w.drewN nq).cell? _ = _ := d4
    have e5 : (w.drewN nq).cell? _ = _ := d5
    have e6 : (w.drewN nq).cell? _ = _ := hab
    clear HC hlk d0 d1 d2 d3 d4 d5 hab ht
    generalize w.drewN nq = w2 at *
    go_wp2_with (first
      | (go_at_call 69; refine HC2.out.mono ?_; rintro e w3 ⟨rfl, hb3⟩; have HB3 := Lib.hid hb3; clear hb3)
      | fail)
    go_ret
    exact ⟨by rw [HE2.out]; rfl, HB.out.trans (HB3.out.mono (by omega))⟩
set_option maxHeartbeats 1000000 in
theorem indexF_any (tb ab c2 : Nat) (A2 : Option Addr) (l : List Nat) (p : Nat → Bool) (w : World) (hI : Is w w.heap.size A2 l) (hl : l.length ≤ 1000000)
    (hc : ∀ (W : World) (k : Nat) (hk : k < l.length), Below w.heap.size w W → Calls Tryz.prog 68 #[.int .i64 (l[k] : Int), .pointer (some ⟨tb, 0, none⟩), .pointer (some ⟨ab, 0, none⟩)] W fun e w' => e = .returned (.bool (p k)) ∧ Below W.heap.size W w') :
    Calls Tryz.prog 101 #[.slice A2 l.length c2, .func (.func 68) #[] #[.pointer (some ⟨tb, 0, none⟩), .pointer (some ⟨ab, 0, none⟩)]] w fun e w' => ∃ r : Int, e = .returned (.int .i64 r) ∧ (0 ≤ r ↔ ∃ k, k < l.length ∧ p k = true) ∧ Below w.heap.size w w' := by
  have HI := Lib.hid hI
  have HC := Lib.hid hc
  clear hI hc
  go_enter Tryz.func101, Tryz.ntmps101
  go_wp2
  go_loopw [8] (fun i wr => ∃ k : Nat, k ≤ l.length ∧ i = .int .i64 (k : Int) ∧ Hid (∀ j, j < k → p j = false) ∧ Hid (Below w.heap.size w wr)) (fun i _ => l.length - (RowKit.intOf i).toNat)
  case atStart => exact ⟨0, Nat.zero_le _, rfl, Lib.hid (fun j hj => by omega), Lib.hid (Below.refl _ _)⟩
  case round =>
    obtain ⟨k, hk, rfl, HN, HB⟩ := hrel
    by_cases hlt : k < l.length
    · obtain ⟨g, off, rfl, hg, hcell⟩ := (HI.out.below HB.out).at_ hlt
      have HC2 := Lib.hid (HC.out wr k hlt HB.out)
      have hk1 : (k : Int) < (l.length : Int) := by omega
      have hz := HB.out.size
      generalize l[k] = x at *
      clear HC
      cases hp : p k with
      | true =>
        have HC3 := HC2
        rw [hp] at HC3
        clear HC2
        have Hp := Lib.hid (show ∃ j, j < l.length ∧ p j = true from ⟨k, hlt, hp⟩)
        clear hp
        go_wp2_with (first
          | (go_at_call 68; refine HC3.out.mono ?_; rintro e w3 ⟨rfl, hb3⟩; have HB3 := Lib.hid hb3; clear hb3)
          | fail)
        go_ret
        exact ⟨_, rfl, ⟨fun _ => Hp.out, fun _ => by omega⟩, HB.out.trans (HB3.out.mono hz)⟩
      | false =>
        have HC3 := HC2
        rw [hp] at HC3
        clear HC2
        have HN2 : Hid (∀ j, j < k + 1 → p j = false) := Lib.hid (fun j hj => by
          by_cases e : j = k
          · rw [e]; exact hp
          · exact HN.out j (by omega))
        clear hp
        go_wp2_with (first
          | (go_at_call 68; refine HC3.out.mono ?_; rintro e w3 ⟨rfl, hb3⟩; have HB3 := Lib.hid hb3; clear hb3)
          | fail)
        go_roundw
        case rel => exact ⟨k + 1, by omega, by go_num, HN2, Lib.hid (HB.out.trans (HB3.out.mono hz))⟩
        case measure => simp [RowKit.intOf]; omega
    · have hk1 : ¬ (k : Int) < (l.length : Int) := by omega
      have Hno : Hid (¬ ∃ j, j < l.length ∧ p j = true) := Lib.hid (by rintro ⟨j, hj, h⟩; rw [HN.out j (by omega)] at h; cases h)
      go_wp2
      go_ret
      exact ⟨_, rfl, ⟨fun h => by omega, fun h => absurd h Hno.out⟩, HB.out⟩
theorem containsF_any (tb ab c2 : Nat) (A2 : Option Addr) (l : List Nat) (p : Nat → Bool) (w : World) (hI : Is w w.heap.size A2 l) (hl : l.length ≤ 1000000)
    (hc : ∀ (W : World) (k : Nat) (hk : k < l.length), Below w.heap.size w W → Calls Tryz.prog 68 #[.int .i64 (l[k] : Int), .pointer (some ⟨tb, 0, none⟩), .pointer (some ⟨ab, 0, none⟩)] W fun e w' => e = .returned (.bool (p k)) ∧ Below W.heap.size W w') :
    Calls Tryz.prog 67 #[.slice A2 l.length c2, .func (.func 68) #[] #[.pointer (some ⟨tb, 0, none⟩), .pointer (some ⟨ab, 0, none⟩)]] w fun e w' => ∃ r : Bool, e = .returned (.bool r) ∧ (r = true ↔ ∃ k, k < l.length ∧ p k = true) ∧ Below w.heap.size w w' := by
  have HX := Lib.hid (indexF_any tb ab c2 A2 l p w hI hl hc)
  clear hI hc
  go_enter Tryz.func67, Tryz.ntmps67
  go_wp2_with (first
    | (go_at_call 101; refine HX.out.mono ?_; rintro e w3 ⟨r, rfl, hr, hb3⟩; have HR := Lib.hid hr; have HB3 := Lib.hid hb3; clear hr hb3)
    | fail)
  go_ret
  exact ⟨decide (0 ≤ r), rfl, by rw [decide_eq_true_iff]; exact HR.out, HB3.out⟩
end Go.Proofs.YtbkffdfboloogaaGreatDoor
namespace Go.Proofs.YtbkffdfboloogaaGreatDoor
open Go.RowKit Go.Maps Go.Lib
set_option linter.unusedVariables false
set_option maxRecDepth 100000

/-- how far the first loop has come: texts in block bt (its box tb), most in bm, least in bl -/
structure Sh (w wr : World) (tb bt bm bl : Nat) (A : Option Addr) (n c : Nat) (al : List Rl) (k : Nat) : Prop where
  bel : Below w.heap.size w wr
  lo : w.heap.size < bt ∧ bt < tb ∧ tb < bm ∧ bm < bl ∧ bl < wr.heap.size
  ab : wr.cell? ⟨w.heap.size, 0, none⟩ = some (.slice A n c)
  tbx : wr.cell? ⟨tb, 0, none⟩ = some (.map (some bt))
  tx : Mp curC txtE wr bt k (txG (al.take k))
  mo : Mp curC amtE wr bm k (moG (al.take k))
  le : Mp curC amtE wr bl k (leG (al.take k))
  ag : Agree (al.take k)
section
variable {w wr w' : World} {tb bt bm bl n c k : Nat} {A : Option Addr} {al : List Rl}
theorem Sh.kept (h : Sh w wr tb bt bm bl A n c al k) {row : Option Nat} (hg : wr.grownBy w' row) (hr : ∀ j, row = some j → bl < j) : Sh w w' tb bt bm bl A n c al k := by
  obtain ⟨l1, l2, l3, l4, l5⟩ := h.lo
  have hz := hg.size
  have hsz := h.bel.size
  have ne : ∀ q, q ≤ bl → some q ≠ row := fun q hq e => by have := hr q e.symm; omega
  refine ⟨h.bel.grown hg hsz (fun j hj => by have := hr j hj; omega), ⟨l1, l2, l3, l4, by omega⟩, ?_, ?_, h.tx.kept hg (ne _ (by omega)), h.mo.kept hg (ne _ (by omega)), h.le.kept hg (ne _ (by omega)), h.ag⟩
  · exact (World.cell?_of_block (hg.block w.heap.size (by omega) (ne _ (by omega)))).trans h.ab
  · exact (World.cell?_of_block (hg.block tb (by omega) (ne _ (by omega)))).trans h.tbx
theorem Sh.alloc (h : Sh w wr tb bt bm bl A n c al k) (o : Obj) : Sh w (wr.alloc o) tb bt bm bl A n c al k := h.kept (World.grownBy_alloc wr o none) (fun j hj => by cases hj)
theorem take_succ' {al : List Rl} {k : Nat} (hk : k < al.length) : al.take (k + 1) = al.take k ++ [al[k]] := by rw [← List.take_append_getElem hk]
/-- an atom of another kind: the maps stay -/
theorem Sh.other (h : Sh w wr tb bt bm bl A n c al k) {a : Rl} (ha : al[k]? = some a) (h3 : a.k ≠ 3) (h5 : ¬ (a.k = 5 ∧ lowB (moG (al.take k) a.f) a.n = true)) (h6 : ¬ (a.k = 6 ∧ highB (leG (al.take k) a.f) a.n = true)) (W : World) (hW : Sh w W tb bt bm bl A n c al k) : Sh w W tb bt bm bl A n c al (k + 1) := by
  obtain ⟨hk, rfl⟩ := List.getElem?_eq_some_iff.1 ha
  have e := take_succ' hk
  refine ⟨hW.bel, hW.lo, hW.ab, hW.tbx, ?_, ?_, ?_, ?_⟩
  · rw [e, txG_snoc, txS, if_neg h3]; exact hW.tx.mono (by omega)
  · rw [e, moG_snoc, moS, if_neg h5]; exact hW.mo.mono (by omega)
  · rw [e, leG_snoc, leS, if_neg h6]; exact hW.le.mono (by omega)
  · rw [e]; exact hW.ag.snoc (fun h _ _ => absurd h h3)
/-- an Is is written down -/
theorem Sh.text (h : Sh w wr tb bt bm bl A n c al k) (hk2 : k ≤ 10000) {a : Rl} (ha : al[k]? = some a) (h3 : a.k = 3) (hf : a.f.size ≤ 4000000) (ht : a.t.size ≤ 4000000) (hag : ∀ t, txG (al.take k) a.f = some t → t = a.t) :
    ∃ w', (Instr.mapUpdate 106 (.map (some bt)) (.string a.f) (.string a.t)).run Tryz.prog wr = .ok () w' ∧ Sh w w' tb bt bm bl A n c al (k + 1) := by
  obtain ⟨hk, rfl⟩ := List.getElem?_eq_some_iff.1 ha
  obtain ⟨l1, l2, l3, l4, l5⟩ := h.lo
  have e := take_succ' hk
  have m : (4000000 : Nat) ≤ maxLen := by unfold maxLen; omega
  obtain ⟨w', h1, h2, h4⟩ := h.tx.store Tryz.underlying106 (by unfold maxLen; omega) (x := al[k].f) (Nat.le_trans hf m) (v := al[k].t) (Nat.le_trans ht m)
  have hg := h4.grown
  have hz := hg.size
  have hsz := h.bel.size
  refine ⟨w', h1, h.bel.grown hg hsz (fun j hj => by cases hj; omega), ⟨l1, l2, l3, l4, by omega⟩, ?_, ?_, ?_, ?_, ?_, ?_⟩
  · exact (World.cell?_of_block (hg.block w.heap.size (by omega) (fun e => by injection e; omega))).trans h.ab
  · exact (World.cell?_of_block (hg.block tb (by omega) (fun e => by injection e; omega))).trans h.tbx
  · rw [e, txG_snoc, txS, if_pos h3]; exact h2
  · rw [e, moG_snoc, moS, if_neg (by rw [h3]; simp)]; exact (h.mo.kept hg (fun e => by injection e; omega)).mono (by omega)
  · rw [e, leG_snoc, leS, if_neg (by rw [h3]; simp)]; exact (h.le.kept hg (fun e => by injection e; omega)).mono (by omega)
  · rw [e]; exact h.ag.snoc (fun _ t ht => hag t ht)
theorem Sh.most (h : Sh w wr tb bt bm bl A n c al k) (hk2 : k ≤ 10000) {a : Rl} (ha : al[k]? = some a) (h5 : a.k = 5) (hf : a.f.size ≤ 4000000) (hn : -9223372036854775808 ≤ a.n ∧ a.n ≤ 9223372036854775807) (hlow : lowB (moG (al.take k) a.f) a.n = true) :
    ∃ w', (Instr.mapUpdate 107 (.map (some bm)) (.string a.f) (.int .i64 a.n)).run Tryz.prog wr = .ok () w' ∧ Sh w w' tb bt bm bl A n c al (k + 1) := by
  obtain ⟨hk, rfl⟩ := List.getElem?_eq_some_iff.1 ha
  obtain ⟨l1, l2, l3, l4, l5⟩ := h.lo
  have e := take_succ' hk
  have m : (4000000 : Nat) ≤ maxLen := by unfold maxLen; omega
  obtain ⟨w', h1, h2, h4⟩ := h.mo.store Tryz.underlying107 (by unfold maxLen; omega) (x := al[k].f) (Nat.le_trans hf m) (v := al[k].n) (i64_ok hn.1 hn.2)
  have hg := h4.grown
  have hz := hg.size
  have hsz := h.bel.size
  refine ⟨w', h1, h.bel.grown hg hsz (fun j hj => by cases hj; omega), ⟨l1, l2, l3, l4, by omega⟩, ?_, ?_, ?_, ?_, ?_, ?_⟩
  · exact (World.cell?_of_block (hg.block w.heap.size (by omega) (fun e => by injection e; omega))).trans h.ab
  · exact (World.cell?_of_block (hg.block tb (by omega) (fun e => by injection e; omega))).trans h.tbx
  · rw [e, txG_snoc, txS, if_neg (by rw [h5]; decide)]; exact (h.tx.kept hg (fun e => by injection e; omega)).mono (by omega)
  · rw [e, moG_snoc, moS, if_pos ⟨h5, hlow⟩]; exact h2
  · rw [e, leG_snoc, leS, if_neg (by rw [h5]; simp)]; exact (h.le.kept hg (fun e => by injection e; omega)).mono (by omega)
  · rw [e]; exact h.ag.snoc (fun h _ _ => by rw [h5] at h; cases h)
theorem Sh.least (h : Sh w wr tb bt bm bl A n c al k) (hk2 : k ≤ 10000) {a : Rl} (ha : al[k]? = some a) (h6 : a.k = 6) (hf : a.f.size ≤ 4000000) (hn : -9223372036854775808 ≤ a.n ∧ a.n ≤ 9223372036854775807) (hhi : highB (leG (al.take k) a.f) a.n = true) :
    ∃ w', (Instr.mapUpdate 107 (.map (some bl)) (.string a.f) (.int .i64 a.n)).run Tryz.prog wr = .ok () w' ∧ Sh w w' tb bt bm bl A n c al (k + 1) := by
  obtain ⟨hk, rfl⟩ := List.getElem?_eq_some_iff.1 ha
  obtain ⟨l1, l2, l3, l4, l5⟩ := h.lo
  have e := take_succ' hk
  have m : (4000000 : Nat) ≤ maxLen := by unfold maxLen; omega
  obtain ⟨w', h1, h2, h4⟩ := h.le.store Tryz.underlying107 (by unfold maxLen; omega) (x := al[k].f) (Nat.le_trans hf m) (v := al[k].n) (i64_ok hn.1 hn.2)
  have hg := h4.grown
  have hz := hg.size
  have hsz := h.bel.size
  refine ⟨w', h1, h.bel.grown hg hsz (fun j hj => by cases hj; omega), ⟨l1, l2, l3, l4, by omega⟩, ?_, ?_, ?_, ?_, ?_, ?_⟩
  · exact (World.cell?_of_block (hg.block w.heap.size (by omega) (fun e => by injection e; omega))).trans h.ab
  · exact (World.cell?_of_block (hg.block tb (by omega) (fun e => by injection e; omega))).trans h.tbx
  · rw [e, txG_snoc, txS, if_neg (by rw [h6]; decide)]; exact (h.tx.kept hg (fun e => by injection e; omega)).mono (by omega)
  · rw [e, moG_snoc, moS, if_neg (by rw [h6]; simp)]; exact (h.mo.kept hg (fun e => by injection e; omega)).mono (by omega)
  · rw [e, leG_snoc, leS, if_pos ⟨h6, hhi⟩]; exact h2
  · rw [e]; exact h.ag.snoc (fun h _ _ => by rw [h6] at h; cases h)
theorem Sh.lookT (h : Sh w wr tb bt bm bl A n c al k) {f : ByteArray} (hf : f.size ≤ 4000000) : (Instr.lookup 106 (.map (some bt)) (.string f) true).run Tryz.prog wr = .ok (.tuple #[.string ((txG (al.take k) f).getD ⟨#[]⟩), .bool (txG (al.take k) f).isSome]) wr :=
  h.tx.look_ok Tryz.underlying106 (zeroStr _) (by show (0 : Nat) ≤ maxLen; omega) (x := f) (Nat.le_trans hf (by unfold maxLen; omega))
theorem Sh.lookM (h : Sh w wr tb bt bm bl A n c al k) {f : ByteArray} (hf : f.size ≤ maxLen) : (Instr.lookup 107 (.map (some bm)) (.string f) true).run Tryz.prog wr = .ok (.tuple #[.int .i64 ((moG (al.take k) f).getD 0), .bool (moG (al.take k) f).isSome]) wr :=
  h.mo.look_ok Tryz.underlying107 (zeroI64 _) (i64_ok (by omega) (by omega)) (x := f) hf
theorem Sh.lookL (h : Sh w wr tb bt bm bl A n c al k) {f : ByteArray} (hf : f.size ≤ maxLen) : (Instr.lookup 107 (.map (some bl)) (.string f) true).run Tryz.prog wr = .ok (.tuple #[.int .i64 ((leG (al.take k) f).getD 0), .bool (leG (al.take k) f).isSome]) wr :=
  h.le.look_ok Tryz.underlying107 (zeroI64 _) (i64_ok (by omega) (by omega)) (x := f) hf
end
theorem cell_new (W : World) (v : Value) (t : TypeId) : (W.alloc (.cells #[v] t)).cell? ⟨W.heap.size, 0, none⟩ = some v := by simp
/-- the maps, just made -/
theorem Sh.begun (w : World) (A : Option Addr) (n c : Nat) (al : List Rl) :
    Sh w (((((w.alloc (.cells #[.slice A n c] 31)).alloc (.map #[] 0)).alloc (.cells #[.map (some (w.heap.size + 1))] 106)).alloc (.map #[] 0)).alloc (.map #[] 0)) (w.heap.size + 1 + 1) (w.heap.size + 1) (w.heap.size + 1 + 1 + 1) (w.heap.size + 1 + 1 + 1 + 1) A n c al 0 := by
  have s1 : (w.alloc (.cells #[.slice A n c] 31)).heap.size = w.heap.size + 1 := by simp
  have s3 : (((w.alloc (.cells #[.slice A n c] 31)).alloc (.map #[] 0)).alloc (.cells #[.map (some (w.heap.size + 1))] 106)).heap.size = w.heap.size + 1 + 1 + 1 := by simp
  have s4 : ((((w.alloc (.cells #[.slice A n c] 31)).alloc (.map #[] 0)).alloc (.cells #[.map (some (w.heap.size + 1))] 106)).alloc (.map #[] 0)).heap.size = w.heap.size + 1 + 1 + 1 + 1 := by simp
  have m1 := Mp.made (C := curC) (E := txtE) (w.alloc (.cells #[.slice A n c] 31))
  have m2 := Mp.made (C := curC) (E := amtE) (((w.alloc (.cells #[.slice A n c] 31)).alloc (.map #[] 0)).alloc (.cells #[.map (some (w.heap.size + 1))] 106))
  have m3 := Mp.made (C := curC) (E := amtE) ((((w.alloc (.cells #[.slice A n c] 31)).alloc (.map #[] 0)).alloc (.cells #[.map (some (w.heap.size + 1))] 106)).alloc (.map #[] 0))
  rw [s1] at m1
  rw [s3] at m2
  rw [s4] at m3
  have s2 : ((w.alloc (.cells #[.slice A n c] 31)).alloc (.map #[] 0)).heap.size = w.heap.size + 1 + 1 := by simp
  have k0 : (w.alloc (.cells #[.slice A n c] 31)).cell? ⟨w.heap.size, 0, none⟩ = some (.slice A n c) := by simp
  have k1 : (((w.alloc (.cells #[.slice A n c] 31)).alloc (.map #[] 0)).alloc (.cells #[.map (some (w.heap.size + 1))] 106)).cell? ⟨w.heap.size + 1 + 1, 0, none⟩ = some (.map (some (w.heap.size + 1))) := by
    have h := cell_new ((w.alloc (.cells #[.slice A n c] 31)).alloc (.map #[] 0)) (.map (some (w.heap.size + 1))) 106
    rw [s2] at h
    exact h
  refine ⟨?_, ⟨by omega, by omega, by omega, by omega, by simp⟩, ?_, ?_, ((m1.alloc _).alloc _).alloc _, m2.alloc _, m3, fun a ha => by simp at ha⟩
  · exact (((((Below.refl _ w).alloc (Nat.le_refl _) _).alloc (by omega) _).alloc (by omega) _).alloc (by omega) _).alloc (by omega) _
  · exact Lib.cell?_alloc_some _ (Lib.cell?_alloc_some _ (Lib.cell?_alloc_some _ (Lib.cell?_alloc_some _ k0)))
  · exact Lib.cell?_alloc_some _ (Lib.cell?_alloc_some _ k1)
/-- is the k-th atom of a case against its field's text? -/
def hitAt (al : List Rl) (k : Nat) : Bool := match al[k]? with
  | some a => hitG (txG al) a
  | none => false
theorem final_call {A A2 : Option Addr} {c2 : Nat} {L : List Rl} {l : List Nat} {al : List Rl} {w : World} (hG : Gl w) (hA : Am w w.heap.size A L) (hI : Is w w.heap.size A2 l) (hl : l.length ≤ 10000) (hlen : al.length = l.length) (hal : ∀ k (h : k < l.length) (h2 : k < al.length), L[l[k]]? = some al[k])
    (hs : ∀ a ∈ al, a.f.size ≤ 4000000 ∧ a.t.size ≤ 4000000 ∧ -9223372036854775808 ≤ a.n ∧ a.n ≤ 9223372036854775807) (wr : World) (tb bt bm bl c k : Nat) (hS : Sh w wr tb bt bm bl A L.length c al k) (ht : al.take k = al) (hno : ∀ f n d, moG al f = some n → leG al f = some d → d ≤ n) :
    Calls Tryz.prog 67 #[.slice A2 l.length c2, .func (.func 68) #[] #[.pointer (some ⟨tb, 0, none⟩), .pointer (some ⟨w.heap.size, 0, none⟩)]] wr fun e w' => ∃ r : Bool, e = .returned (.bool r) ∧ (r = true ↔ Clashes al) ∧ Below w.heap.size w w' := by
  have hsz := hS.bel.size
  obtain ⟨l1, l2, l3, l4, l5⟩ := hS.lo
  refine (containsF_any tb w.heap.size c2 A2 l (hitAt al) wr ((hI.below hS.bel).more hsz) (by omega) ?_).mono ?_
  · intro W j hj hb
    have hj2 : j < al.length := by omega
    have hB := hS.bel.trans (hb.mono hsz)
    have hjl := List.getElem_mem hj2
    have htx := hS.tx
    rw [ht] at htx
    have e : hitAt al j = hitG (txG al) al[j] := by unfold hitAt; rw [List.getElem?_eq_getElem hj2]
    rw [e]
    refine clash1_any l[j] k tb w.heap.size bt c A L al[j] (txG al) W (hG.below hB) ((hb.cell (p := ⟨tb, 0, none⟩) (by show tb < _; omega)).trans hS.tbx) ((hb.cell (p := ⟨w.heap.size, 0, none⟩) (by show w.heap.size < _; omega)).trans hS.ab) (htx.below hb (by omega)) ((hA.below hB).more hB.size) (hal j hj hj2) (Nat.le_trans (hs _ hjl).1 (by unfold maxLen; omega)) ?_
    intro t h
    obtain ⟨z, hz, _, _, rfl⟩ := tx_some al _ t h
    exact (hs z hz).2.1
  · rintro e w' ⟨r, rfl, hr, hb⟩
    refine ⟨r, rfl, ?_, hS.bel.trans (hb.mono hsz)⟩
    rw [hr]
    have hag := hS.ag
    rw [ht] at hag
    constructor
    · rintro ⟨j, hj, h⟩
      have hj2 : j < al.length := by omega
      unfold hitAt at h
      rw [List.getElem?_eq_getElem hj2] at h
      simp only [hitG] at h
      split at h
      · rename_i t hT
        exact clash_text (List.getElem_mem hj2) hT h
      · cases h
    · intro hC
      refine Classical.byContradiction fun hn => no_clash hag (fun f n d h1 h2 => Int.not_lt.2 (hno f n d h1 h2)) ?_ hC
      intro b hb t hT
      cases hag : agB t b with
      | false => rfl
      | true =>
        obtain ⟨j, hj, rfl⟩ := List.getElem_of_mem hb
        refine absurd ⟨j, by omega, ?_⟩ hn
        unfold hitAt
        rw [List.getElem?_eq_getElem hj]
        simp only [hitG, hT, hag]

set_option maxHeartbeats 4000000 in
theorem clashes_any (A A2 : Option Addr) (c c2 : Nat) (L : List Rl) (l : List Nat) (al : List Rl) (w : World) (hG : Gl w) (hA : Am w w.heap.size A L) (hI : Is w w.heap.size A2 l) (hl : l.length ≤ 10000) (hlen : al.length = l.length) (hal : ∀ k (h : k < l.length) (h2 : k < al.length), L[l[k]]? = some al[k])
    (hs : ∀ a ∈ al, a.f.size ≤ 4000000 ∧ a.t.size ≤ 4000000 ∧ -9223372036854775808 ≤ a.n ∧ a.n ≤ 9223372036854775807) :
    Calls Tryz.prog 36 #[.slice A L.length c, .slice A2 l.length c2] w fun e w' => ∃ r : Bool, e = .returned (.bool r) ∧ (r = true ↔ Clashes al) ∧ Below w.heap.size w w' := by
  have hmm := @run_makeMap Tryz.prog
  have hS0 := Sh.begun w A L.length c al
  have HG := Lib.hid hG
  have HA := Lib.hid hA
  have HI := Lib.hid hI
  have Hlen := Lib.hid hlen
  have Hal := Lib.hid hal
  have Hs := Lib.hid hs
  clear hG hA hI hlen hal hs
  go_enter Tryz.func36, Tryz.ntmps36
  go_wp2
  clear hmm
  generalize (((((w.alloc (.cells #[.slice A L.length c] 31)).alloc (.map #[] 0)).alloc (.cells #[.map (some (w.heap.size + 1))] 106)).alloc (.map #[] 0)).alloc (.map #[] 0)) = w5 at *
  generalize w.heap.size + 1 + 1 + 1 + 1 = bl at *
  generalize w.heap.size + 1 + 1 + 1 = bm at *
  generalize w.heap.size + 1 + 1 = tb at *
  generalize w.heap.size + 1 = bt at *
  have HS0 := Lib.hid hS0
  clear hS0
  go_loopw [26] (fun i wr => ∃ k : Nat, k ≤ l.length ∧ i = .int .i64 (k : Int) ∧ Hid (Sh w wr tb bt bm bl A L.length c al k)) (fun i _ => l.length - (RowKit.intOf i).toNat)
  case atStart => exact ⟨0, Nat.zero_le _, rfl, HS0⟩
  case round =>
    clear HS0
    obtain ⟨k, hk, rfl, HS⟩ := hrel
    by_cases hlt : k < l.length
    · have hk2 : k < al.length := by rw [Hlen.out]; exact hlt
      have hak : al[k]? = some al[k] := List.getElem?_eq_getElem hk2
      have hLk := Hal.out k hlt hk2
      have hik := (List.getElem?_eq_some_iff.1 hLk).1
      obtain ⟨g2, off2, rfl, hg2, hcl⟩ := (HI.out.below HS.out.bel).at_ hlt
      obtain ⟨g, off, A5, c5', rfl, hg, h6⟩ := (HA.out.below HS.out.bel).at_ hLk
      obtain ⟨f1, f2, f3, f4⟩ := Hs.out al[k] (List.getElem_mem hk2)
      have hin := List.getElem_mem hk2
      obtain ⟨a, hae⟩ : ∃ a, al[k] = a := ⟨_, rfl⟩
      rw [hae] at hak h6 f1 f2 f3 f4 hin
      have Hin := Lib.hid hin
      have Hak := Lib.hid hak
      obtain ⟨d0, d1, d2, d3, d4, d5⟩ := h6
      have hab := HS.out.ab
      have hi0 : (0 : Int) ≤ (l[k] : Int) := by omega
      have hi1 : (l[k] : Int) < (L.length : Int) := by omega
      generalize l[k] = x at *
      have HSV := Lib.hid (HS.out.alloc (.cells #[.int .i64 a.k, .int .i64 a.p, .string a.f, .string a.t, .int .i64 a.n, .slice A5 a.l.length c5'] 33))
      have htb := HSV.out.tbx
      have hvs : (wr.alloc (.cells #[.int .i64 a.k, .int .i64 a.p, .string a.f, .string a.t, .int .i64 a.n, .slice A5 a.l.length c5'] 33)).heap.size = wr.heap.size + 1 := by simp
      have hk1 : (k : Int) < (l.length : Int) := by omega
      clear hae hak hin hLk hg hg2 HI HA hvs
      by_cases h3 : a.k = 3
      · have hlk := HSV.out.lookT f1
        cases hT : txG (al.take k) a.f with
        | none =>
          rw [hT] at hlk
          simp only [Option.getD_none, Option.isSome_none] at hlk
          obtain ⟨w2, hup, hS2⟩ := HSV.out.text (by omega) Hak.out h3 f1 f2 (fun t ht => by rw [hT] at ht; cases ht)
          have HS2 := Lib.hid hS2
          clear hS2 hT f1 f2 f3 f4
          clear HSV Hs Hal Hin Hak Hlen HS
          generalize a.f = f at *
          generalize a.t = t at *
          generalize a.n = n at *; generalize a.p = ap at *; generalize a.l.length = aln at *
          generalize L.length = ln at *
          generalize a.k = ak at *
          subst h3
          go_wp2_with fail
          go_roundw
          case rel => exact ⟨k + 1, by omega, by go_num, HS2⟩
          case measure => simp [RowKit.intOf]; omega
        | some s =>
          rw [hT] at hlk
          simp only [Option.getD_some, Option.isSome_some] at hlk
          by_cases hst : s = a.t
          · obtain ⟨w2, hup, hS2⟩ := HSV.out.text (by omega) Hak.out h3 f1 f2 (fun t ht => by rw [hT] at ht; exact (Option.some.inj ht).symm.trans hst)
            have HS2 := Lib.hid hS2
            have hq : (s.toList == a.t.toList) = true := by rw [hst]; simp
            clear hS2 hT f1 f2 f3 f4 hst
            clear HSV Hs Hal Hin Hak Hlen HS
            generalize a.f = f at *
            generalize a.t = t at *
            generalize a.n = n at *; generalize a.p = ap at *; generalize a.l.length = aln at *
            generalize L.length = ln at *
            generalize a.k = ak at *
            subst h3
            go_wp2_with fail
            go_roundw
            case rel => exact ⟨k + 1, by omega, by go_num, HS2⟩
            case measure => simp [RowKit.intOf]; omega
          · have hq : (s.toList == a.t.toList) = false := by
              rw [beq_eq_false_iff_ne]
              exact fun h => hst (ba_tl h)
            have HC : Hid (Clashes al) := Lib.hid (clash_is (m := al.take k) (fun b hb => List.mem_of_mem_take hb) Hin.out h3 hT hst)
            have HB := Lib.hid HSV.out.bel
            clear hT f1 f2 f3 f4 hst
            clear HSV Hs Hal Hin Hak Hlen HS
            generalize a.f = f at *
            generalize a.t = t at *
            generalize a.n = n at *; generalize a.p = ap at *; generalize a.l.length = aln at *
            generalize L.length = ln at *
            generalize a.k = ak at *
            subst h3
            go_wp2_with fail
            go_ret
            exact ⟨true, rfl, ⟨fun _ => HC.out, fun _ => rfl⟩, HB.out⟩
      by_cases h5 : a.k = 5
      · have hlk := HSV.out.lookM (Nat.le_trans f1 (by unfold maxLen; omega))
        cases hT : moG (al.take k) a.f with
        | none =>
          rw [hT] at hlk
          simp only [Option.getD_none, Option.isSome_none] at hlk
          obtain ⟨w2, hup, hS2⟩ := HSV.out.most (by omega) Hak.out h5 f1 ⟨f3, f4⟩ (by rw [hT]; rfl)
          have HS2 := Lib.hid hS2
          clear hS2 hT f1 f2 f3 f4 h3
          clear HSV Hs Hal Hin Hak Hlen HS
          generalize a.f = f at *
          generalize a.t = t at *
          generalize a.n = n at *; generalize a.p = ap at *; generalize a.l.length = aln at *
          generalize L.length = ln at *
          generalize a.k = ak at *
          subst h5
          go_wp2_with fail
          go_roundw
          case rel => exact ⟨k + 1, by omega, by go_num, HS2⟩
          case measure => simp [RowKit.intOf]; omega
        | some s =>
          rw [hT] at hlk
          simp only [Option.getD_some, Option.isSome_some] at hlk
          by_cases hst : a.n < s
          · obtain ⟨w2, hup, hS2⟩ := HSV.out.most (by omega) Hak.out h5 f1 ⟨f3, f4⟩ (by rw [hT]; simp [lowB, hst])
            have HS2 := Lib.hid hS2
            have hd : decide (a.n < s) = true := by simpa using hst
            clear hS2 hT f1 f2 f3 f4 h3 hst
            clear HSV Hs Hal Hin Hak Hlen HS
            generalize a.f = f at *
            generalize a.t = t at *
            generalize a.n = n at *; generalize a.p = ap at *; generalize a.l.length = aln at *
            generalize L.length = ln at *
            generalize a.k = ak at *
            subst h5
            go_wp2_with fail
            go_roundw
            case rel => exact ⟨k + 1, by omega, by go_num, HS2⟩
            case measure => simp [RowKit.intOf]; omega
          · have HS2 := Lib.hid (HS.out.other Hak.out h3 (fun h => hst (by have := h.2; rw [hT] at this; simpa [lowB] using this)) (fun h => by rw [h5] at h; exact absurd h.1 (by decide)) _ HSV.out)
            have hd : decide (a.n < s) = false := by simpa using hst
            clear hT f1 f2 f3 f4 h3 hst
            clear HSV Hs Hal Hin Hak Hlen HS
            generalize a.f = f at *
            generalize a.t = t at *
            generalize a.n = n at *; generalize a.p = ap at *; generalize a.l.length = aln at *
            generalize L.length = ln at *
            generalize a.k = ak at *
            subst h5
            go_wp2_with fail
            go_roundw
            case rel => exact ⟨k + 1, by omega, by go_num, HS2⟩
            case measure => simp [RowKit.intOf]; omega
      by_cases h6 : a.k = 6
      · have hlk := HSV.out.lookL (Nat.le_trans f1 (by unfold maxLen; omega))
        cases hT : leG (al.take k) a.f with
        | none =>
          rw [hT] at hlk
          simp only [Option.getD_none, Option.isSome_none] at hlk
          obtain ⟨w2, hup, hS2⟩ := HSV.out.least (by omega) Hak.out h6 f1 ⟨f3, f4⟩ (by rw [hT]; rfl)
          have HS2 := Lib.hid hS2
          clear hS2 hT f1 f2 f3 f4 h3 h5
          clear HSV Hs Hal Hin Hak Hlen HS
          generalize a.f = f at *
          generalize a.t = t at *
          generalize a.n = n at *; generalize a.p = ap at *; generalize a.l.length = aln at *
          generalize L.length = ln at *
          generalize a.k = ak at *
          subst h6
          go_wp2_with fail
          go_roundw
          case rel => exact ⟨k + 1, by omega, by go_num, HS2⟩
          case measure => simp [RowKit.intOf]; omega
        | some s =>
          rw [hT] at hlk
          simp only [Option.getD_some, Option.isSome_some] at hlk
          by_cases hst : s < a.n
          · obtain ⟨w2, hup, hS2⟩ := HSV.out.least (by omega) Hak.out h6 f1 ⟨f3, f4⟩ (by rw [hT]; simp [highB, hst])
            have HS2 := Lib.hid hS2
            have hd : decide (s < a.n) = true := by simpa using hst
            clear hS2 hT f1 f2 f3 f4 h3 h5 hst
            clear HSV Hs Hal Hin Hak Hlen HS
            generalize a.f = f at *
            generalize a.t = t at *
            generalize a.n = n at *; generalize a.p = ap at *; generalize a.l.length = aln at *
            generalize L.length = ln at *
            generalize a.k = ak at *
            subst h6
            go_wp2_with fail
            go_roundw
            case rel => exact ⟨k + 1, by omega, by go_num, HS2⟩
            case measure => simp [RowKit.intOf]; omega
          · have HS2 := Lib.hid (HS.out.other Hak.out h3 (fun h => h5 h.1) (fun h => hst (by have := h.2; rw [hT] at this; simpa [highB] using this)) _ HSV.out)
            have hd : decide (s < a.n) = false := by simpa using hst
            clear hT f1 f2 f3 f4 h3 h5 hst
            clear HSV Hs Hal Hin Hak Hlen HS
            generalize a.f = f at *
            generalize a.t = t at *
            generalize a.n = n at *; generalize a.p = ap at *; generalize a.l.length = aln at *
            generalize L.length = ln at *
            generalize a.k = ak at *
            subst h6
            go_wp2_with fail
            go_roundw
            case rel => exact ⟨k + 1, by omega, by go_num, HS2⟩
            case measure => simp [RowKit.intOf]; omega
      have HS2 := Lib.hid (HS.out.other Hak.out h3 (fun h => h5 h.1) (fun h => h6 h.1) _ HSV.out)
      have b3 : (a.k == 3) = false := by simpa using h3
      have b5 : (a.k == 5) = false := by simpa using h5
      have b6 : (a.k == 6) = false := by simpa using h6
      clear f1 f2 f3 f4 h3 h5 h6
      clear HSV Hs Hal Hin Hak Hlen HS
      generalize a.f = f at *
      generalize a.t = t at *
      generalize a.n = n at *; generalize a.p = ap at *; generalize a.l.length = aln at *
      generalize L.length = ln at *
      generalize a.k = ak at *
      go_wp2_with fail
      go_roundw
      case rel => exact ⟨k + 1, by omega, by go_num, HS2⟩
      case measure => simp [RowKit.intOf]; omega
    · obtain rfl : k = l.length := by omega
      have ht : al.take l.length = al := by rw [← Hlen.out]; exact List.take_length
      have Ht := Lib.hid ht
      have hMo := HS.out.mo
      rw [ht] at hMo
      have Hfin := Lib.hid (final_call (c2 := c2) HG.out HA.out HI.out hl Hlen.out Hal.out Hs.out)
      have hfs : ∀ x v, moG al x = some v → x.size ≤ maxLen := fun x v h => by
        obtain ⟨a, ha, _, rfl, _⟩ := mo_some al x v h
        exact Nat.le_trans (Hs.out a ha).1 (by unfold maxLen; omega)
      have Hfs := Lib.hid hfs
      clear ht hfs HI HA Hal Hs HG Hlen
      obtain ⟨w1, rfl⟩ : ∃ w1 : World, w1 = wr := ⟨_, rfl⟩
      go_wp2_with (first
        | (at_range; refine wpList_range_mp _ rfl _ 107 rfl 2 Tryz.underlying107 bm l.length (moG al) rfl hMo ?_; intro w4 hrg4 hg4 hs4)
        | go_in)
      try go_frame
      obtain ⟨cnt4, hrg4⟩ := hrg4
      have HS4 := Lib.hid (HS.out.kept hg4 (fun j hj => by cases hj))
      go_loopw [17] (fun _ wr => ∃ lf cnt, Rn' curC amtE wr bm w1.heap.size l.length (moG al) lf cnt ∧ Hid (Sh w wr tb bt bm bl A L.length c al l.length) ∧ Hid (∀ x v, moG al x = some v → lf x = false → ∀ d, leG al x = some d → d ≤ v)) (fun _ wr => wr.rangeLeft bm w1.heap.size)
      case atStart => exact ⟨_, cnt4, hrg4, HS4, Lib.hid (fun x v hv hl => by simp [hv] at hl)⟩
      case round =>
        clear hMo hg4 hs4 hrg4 HS4
        obtain ⟨lf, cnt, hrg, HSr, HN⟩ := hrel
        have hlo := HS.out.lo
        have hblw := hlo.2.2.2.2
        go_wp2_with (first
          | (at_next; refine wpList_next_cur _ rfl _ rfl bm w1.heap.size l.length (moG al) lf cnt rfl hrg ?_ ?_)
          | go_in)
        · intro hdone
          have HF := Lib.hid (Hfin.out _ _ _ _ _ _ _ HSr.out Ht.out (fun x n d hn hd => HN.out x n hn (hdone x (Hfs.out x n hn)) d hd))
          have hab := HSr.out.ab
          clear hdone hrg Hfin HN Hfs HS hlo
          go_wp2_with (first
            | (go_at_call 67; refine HF.out.mono ?_; rintro e w5 ⟨r, rfl, hr, hb5⟩; have HR := Lib.hid hr; have HB5 := Lib.hid hb5; clear hr hb5)
            | fail)
          go_ret
          exact ⟨r, rfl, HR.out, HB5.out⟩
        · intro x v w7 cnt7 hx hlx hGx hrg7 hlt7 hg7 hs7 hen
          have HS7 := Lib.hid (HSr.out.kept hg7 (fun j hj => by cases hj; exact hblw))
          have hlk := HS7.out.lookL hx
          rw [Ht.out] at hlk
          have Hlft := Lib.hid hrg.left_eq
          have HB7 := Lib.hid HS7.out.bel
          cases hD : leG al x with
          | none =>
            have HN7 : Hid (∀ y u, moG al y = some u → (lf y && !decide (y = x)) = false → ∀ d, leG al y = some d → d ≤ u) := Lib.hid (fun y u hu hl d hd => by
              by_cases e : y = x
              · subst e; rw [hD] at hd; cases hd
              · exact HN.out y u hu (by simpa [e] using hl) d hd)
            rw [hD] at hlk
            simp only [Option.getD_none, Option.isSome_none] at hlk
            clear hx hlx hGx hg7 hs7 hD hrg HN Hfin Hfs HS hlo
            go_wp2
            go_roundw
            case rel => exact ⟨_, cnt7, hrg7, HS7, HN7⟩
            case measure => rw [hrg7.left_eq, Hlft.out]; exact hlt7
          | some d =>
            rw [hD] at hlk
            simp only [Option.getD_some, Option.isSome_some] at hlk
            by_cases hlt2 : v < d
            · have hd : decide (v < d) = true := by simpa using hlt2
              have HC := Lib.hid (clash_most hGx hD hlt2)
              clear hx hlx hGx hg7 hs7 hD hrg HN Hfin Hfs HS hlo hrg7 hlt2
              go_wp2
              go_ret
              exact ⟨true, rfl, ⟨fun _ => HC.out, fun _ => rfl⟩, HB7.out⟩
            · have hd : decide (v < d) = false := by simpa using hlt2
              have HN7 : Hid (∀ y u, moG al y = some u → (lf y && !decide (y = x)) = false → ∀ d, leG al y = some d → d ≤ u) := Lib.hid (fun y u hu hl d' hd' => by
                by_cases e : y = x
                · subst e; rw [hD] at hd'; rw [hGx] at hu; injection hd' with hd'; injection hu with hu; subst hd' hu; omega
                · exact HN.out y u hu (by simpa [e] using hl) d' hd')
              clear hx hlx hGx hg7 hs7 hD hrg HN Hfin Hfs HS hlo hlt2
              go_wp2
              go_roundw
              case rel => exact ⟨_, cnt7, hrg7, HS7, HN7⟩
              case measure => rw [hrg7.left_eq, Hlft.out]; exact hlt7
end Go.Proofs.YtbkffdfboloogaaGreatDoor
