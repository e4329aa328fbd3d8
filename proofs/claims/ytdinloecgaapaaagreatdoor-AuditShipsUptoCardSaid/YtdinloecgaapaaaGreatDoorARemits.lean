/- audit.Remits. -/
import Derived.Test.YtdinloecgaapaaaGreatDoorARemits1
import Derived.Test.YtdinloecgaapaaaGreatDoorMAChanges
import Derived.Deep.CutRange
namespace Go.Proofs.YtdinloecgaapaaaGreatDoor
open Go.RowKit Go.Maps Go.Lib
set_option linter.unusedVariables false
set_option maxRecDepth 100000

def vostroT (tt : ByteArray) : ByteArray := (⟨#[118, 111, 115, 116, 114, 111, 58]⟩ : ByteArray) ++ tt
def nostroT (fr : ByteArray) : ByteArray := (⟨#[110, 111, 115, 116, 114, 111, 58]⟩ : ByteArray) ++ fr
/-- a ledger that is in order -/
structure Ldg (w : World) (base p : Nat) (L : List Pl) : Prop where
  led : ∃ b n G pv hv, Led w base p b n G pv hv L
  few : L.length ≤ 4096
  fine : ∀ x ∈ L, ∀ e ∈ x.pt.ents, e.Fine
theorem Ldg.below {w w' : World} {base p : Nat} {L : List Pl} (h : Ldg w base p L) (hb : Below w.heap.size w w') : Ldg w' base p L := by
  obtain ⟨b, n, G, pv, hv, hl⟩ := h.led
  exact ⟨⟨b, n, G, pv, hv, hl.kp (Kp.of_below (fun _ => False) hb) (fun _ _ _ e => e)⟩, h.few, h.fine⟩
theorem Ldg.sums {w : World} {base p : Nat} {L : List Pl} (h : Ldg w base p L) (acc : ByteArray) (s : Int) (hs : s = 1 ∨ s = -1) :
    Calls Tryz.prog 47 #[.pointer (some ⟨p, 0, none⟩), .string acc, .int .i64 s] w fun e w' => ∃ A c, e = .returned (.slice A (moves acc s (L.map Pl.pt)).length c) ∧ w'.ownsRow 0 111 2 (.slice A (moves acc s (L.map Pl.pt)).length c) (moves acc s (L.map Pl.pt)).length (cellsM (moves acc s (L.map Pl.pt))) ∧ Below w.heap.size w w' := by
  obtain ⟨b, n, G, pv, hv, hl⟩ := h.led
  exact (sums_any L acc s w hl h.few hs h.fine).mono fun e w' ⟨v', h1, h2, h3⟩ => by
    obtain ⟨A, c, rfl⟩ := row_form h2
    exact ⟨A, c, h1, ownsRow_base (Nat.zero_le _) h2, h3⟩

theorem alloc_keep {w : World} {b : Nat} {o : Obj} (h : w.heap[b]? = some o) (o' : Obj) : (w.alloc o').heap[b]? = some o := (Below.heap_alloc w o' b (Array.getElem?_eq_some_iff.1 h).1).trans h
theorem size_alloc_le (w : World) (o : Obj) : w.heap.size ≤ (w.alloc o).heap.size := by simp
theorem alloc_second (w : World) (o o' : Obj) : ((w.alloc o).alloc o').heap[w.heap.size + 1]? = some o' := by
  have := heap_alloc_new (w.alloc o) o'
  simpa using this
abbrev zObj : Obj := (.cells #[.slice none 0 0] 108)
theorem zcell {w : World} {b : Nat} (h : w.heap[b]? = some zObj) : w.cell? ⟨b, 0, none⟩ = some (.slice none 0 0) ∧ w.frozen? ⟨b, 0, none⟩ = false ∧ b < w.heap.size := ⟨by simp [World.cell?, h], by simp [World.frozen?, h], (Array.getElem?_eq_some_iff.1 h).1⟩
theorem sOf {w2 X : World} {bf bt : Nat} {fr tt : ByteArray} (hb : Below w2.heap.size w2 X) (cf : w2.cell? ⟨bf, 0, none⟩ = some (.string fr)) (ct : w2.cell? ⟨bt, 0, none⟩ = some (.string tt)) (lf : bf < w2.heap.size) (lt : bt < w2.heap.size) : X.cell? ⟨bf, 0, none⟩ = some (.string fr) ∧ X.cell? ⟨bt, 0, none⟩ = some (.string tt) :=
  ⟨(hb.cell (p := ⟨bf, 0, none⟩) lf).trans cf, (hb.cell (p := ⟨bt, 0, none⟩) lt).trans ct⟩
/-- a box that holds v -/
abbrev vObj (v : Value) : Obj := .cells #[v] 108
theorem far {W : World} {v u : Value} {T : List Mo} {b : Nat} (hz : W.heap[b]? = some (vObj u)) (hr : W.ownsRow 0 111 2 v T.length (cellsM T)) : v.ownBlock ≠ some b := by
  intro e
  rcases hr.2 with ⟨h0, _⟩ | ⟨g, cap, cur, he, _, hg, _⟩
  · rw [h0] at e; simp [Value.ownBlock] at e
  · rw [he] at e
    simp [Value.ownBlock] at e
    subst e
    rw [hz] at hg
    simp [vObj] at hg
theorem set_same {W : World} {b : Nat} {u v : Value} (hz : W.heap[b]? = some (vObj u)) : (W.setCell ⟨b, 0, none⟩ v).heap[b]? = some (vObj v) := by
  have := heap_setCell_same W b 0 #[u] 108 v hz
  simpa using this
section
variable {w2 W : World} {b9 b10 bf bt : Nat} {fr tt : ByteArray} {sent got : List Mo} {sv gv : Value}
theorem cx_gen {X : World} (hb : Below w2.heap.size w2 X) (c9 : X.heap[b9]? = some (vObj sv)) (c10 : X.heap[b10]? = some (vObj gv))
    (rs : X.ownsRow 0 111 2 sv sent.length (cellsM sent)) (rg : X.ownsRow 0 111 2 gv got.length (cellsM got)) (cf : w2.cell? ⟨bf, 0, none⟩ = some (.string fr)) (ct : w2.cell? ⟨bt, 0, none⟩ = some (.string tt)) (lf : bf < w2.heap.size) (lt : bt < w2.heap.size) :
    Cx X b10 b9 bf bt gv sv fr tt sent got := by
  have hs := hb.size
  exact ⟨by simp [World.cell?, c10], by simp [World.cell?, c9], (sOf hb cf ct lf lt).1, (sOf hb cf ct lf lt).2, (Array.getElem?_eq_some_iff.1 c10).1, (Array.getElem?_eq_some_iff.1 c9).1, by omega, by omega, rg, rs⟩
theorem cx3 (hb : Below w2.heap.size w2 W) (z9 : W.heap[b9]? = some zObj) (z10 : W.heap[b10]? = some zObj) (h9 : w2.heap.size ≤ b9) (h10 : w2.heap.size ≤ b10) (hne : b9 ≠ b10)
    (rs : W.ownsRow 0 111 2 sv sent.length (cellsM sent)) (rg : W.ownsRow 0 111 2 gv got.length (cellsM got)) (cf : w2.cell? ⟨bf, 0, none⟩ = some (.string fr)) (ct : w2.cell? ⟨bt, 0, none⟩ = some (.string tt)) (lf : bf < w2.heap.size) (lt : bt < w2.heap.size) :
    Cx ((W.setCell ⟨b9, 0, none⟩ sv).setCell ⟨b10, 0, none⟩ gv) b10 b9 bf bt gv sv fr tt sent got ∧ Below w2.heap.size w2 ((W.setCell ⟨b9, 0, none⟩ sv).setCell ⟨b10, 0, none⟩ gv) := by
  have hbb := (hb.setCell (p := ⟨b9, 0, none⟩) h9 sv).setCell (p := ⟨b10, 0, none⟩) h10 gv
  have e10 : (W.setCell ⟨b9, 0, none⟩ sv).heap[b10]? = some zObj := (heap_setCell_other W ⟨b9, 0, none⟩ b10 sv (fun e => hne e.symm)).trans z10
  exact ⟨cx_gen hbb ((heap_setCell_other _ ⟨b10, 0, none⟩ b9 gv hne).trans (set_same z9)) (set_same e10) (ownsRow_setCell_other (ownsRow_setCell_other rs (a := ⟨b9, 0, none⟩) (far z9 rs) _) (a := ⟨b10, 0, none⟩) (far z10 rs) _)
    (ownsRow_setCell_other (ownsRow_setCell_other rg (a := ⟨b9, 0, none⟩) (far z9 rg) _) (a := ⟨b10, 0, none⟩) (far z10 rg) _) cf ct lf lt, hbb⟩
theorem cx2a (hb : Below w2.heap.size w2 W) (z9 : W.heap[b9]? = some zObj) (h9 : w2.heap.size ≤ b9)
    (rs : W.ownsRow 0 111 2 sv sent.length (cellsM sent)) (rg : W.ownsRow 0 111 2 gv got.length (cellsM got)) (cf : w2.cell? ⟨bf, 0, none⟩ = some (.string fr)) (ct : w2.cell? ⟨bt, 0, none⟩ = some (.string tt)) (lf : bf < w2.heap.size) (lt : bt < w2.heap.size) :
    Cx ((W.setCell ⟨b9, 0, none⟩ sv).alloc (vObj gv)) W.heap.size b9 bf bt gv sv fr tt sent got ∧ Below w2.heap.size w2 ((W.setCell ⟨b9, 0, none⟩ sv).alloc (vObj gv)) := by
  have hb1 := hb.setCell (p := ⟨b9, 0, none⟩) h9 sv
  have hbb := hb1.alloc hb1.size (vObj gv)
  have en := heap_alloc_new (W.setCell ⟨b9, 0, none⟩ sv) (vObj gv)
  rw [show (W.setCell ⟨b9, 0, none⟩ sv).heap.size = W.heap.size from by simp] at en
  exact ⟨cx_gen hbb (alloc_keep (set_same z9) _) en ((ownsRow_setCell_other rs (a := ⟨b9, 0, none⟩) (far z9 rs) _).alloc _) ((ownsRow_setCell_other rg (a := ⟨b9, 0, none⟩) (far z9 rg) _).alloc _) cf ct lf lt, hbb⟩
theorem cx2b (hb : Below w2.heap.size w2 W) (z10 : W.heap[b10]? = some zObj) (h10 : w2.heap.size ≤ b10)
    (rs : W.ownsRow 0 111 2 sv sent.length (cellsM sent)) (rg : W.ownsRow 0 111 2 gv got.length (cellsM got)) (cf : w2.cell? ⟨bf, 0, none⟩ = some (.string fr)) (ct : w2.cell? ⟨bt, 0, none⟩ = some (.string tt)) (lf : bf < w2.heap.size) (lt : bt < w2.heap.size) :
    Cx ((W.setCell ⟨b10, 0, none⟩ gv).alloc (vObj sv)) b10 W.heap.size bf bt gv sv fr tt sent got ∧ Below w2.heap.size w2 ((W.setCell ⟨b10, 0, none⟩ gv).alloc (vObj sv)) := by
  have hb1 := hb.setCell (p := ⟨b10, 0, none⟩) h10 gv
  have hbb := hb1.alloc hb1.size (vObj sv)
  have en := heap_alloc_new (W.setCell ⟨b10, 0, none⟩ gv) (vObj sv)
  rw [show (W.setCell ⟨b10, 0, none⟩ gv).heap.size = W.heap.size from by simp] at en
  exact ⟨cx_gen hbb en (alloc_keep (set_same z10) _) ((ownsRow_setCell_other rs (a := ⟨b10, 0, none⟩) (far z10 rs) _).alloc _) ((ownsRow_setCell_other rg (a := ⟨b10, 0, none⟩) (far z10 rg) _).alloc _) cf ct lf lt, hbb⟩
theorem cx1a (hb : Below w2.heap.size w2 W)
    (rs : W.ownsRow 0 111 2 sv sent.length (cellsM sent)) (rg : W.ownsRow 0 111 2 gv got.length (cellsM got)) (cf : w2.cell? ⟨bf, 0, none⟩ = some (.string fr)) (ct : w2.cell? ⟨bt, 0, none⟩ = some (.string tt)) (lf : bf < w2.heap.size) (lt : bt < w2.heap.size) :
    Cx ((W.alloc (vObj sv)).alloc (vObj gv)) (W.heap.size + 1) W.heap.size bf bt gv sv fr tt sent got ∧ Below w2.heap.size w2 ((W.alloc (vObj sv)).alloc (vObj gv)) := by
  have hb1 := hb.alloc hb.size (vObj sv)
  have hbb := hb1.alloc hb1.size (vObj gv)
  exact ⟨cx_gen hbb (alloc_keep (heap_alloc_new W _) _) (alloc_second W _ _) ((rs.alloc _).alloc _) ((rg.alloc _).alloc _) cf ct lf lt, hbb⟩
theorem cx1b (hb : Below w2.heap.size w2 W)
    (rs : W.ownsRow 0 111 2 sv sent.length (cellsM sent)) (rg : W.ownsRow 0 111 2 gv got.length (cellsM got)) (cf : w2.cell? ⟨bf, 0, none⟩ = some (.string fr)) (ct : w2.cell? ⟨bt, 0, none⟩ = some (.string tt)) (lf : bf < w2.heap.size) (lt : bt < w2.heap.size) :
    Cx ((W.alloc (vObj gv)).alloc (vObj sv)) W.heap.size (W.heap.size + 1) bf bt gv sv fr tt sent got ∧ Below w2.heap.size w2 ((W.alloc (vObj gv)).alloc (vObj sv)) := by
  have hb1 := hb.alloc hb.size (vObj gv)
  have hbb := hb1.alloc hb1.size (vObj sv)
  exact ⟨cx_gen hbb (alloc_second W _ _) (alloc_keep (heap_alloc_new W _) _) ((rs.alloc _).alloc _) ((rg.alloc _).alloc _) cf ct lf lt, hbb⟩
end

set_option maxHeartbeats 4000000 in
theorem remits_any (fr tt : ByteArray) (w : World) (base p base' p' : Nat) (La Lb : List Pl) (hA : Ldg w base p La) (hB : Ldg w base' p' Lb) (h1 : fr.size ≤ 50) (h2 : tt.size ≤ 50)
    (hg : (moves (nostroT fr) (-1) (Lb.map Pl.pt)).length ≤ 100) (hsl : (moves (vostroT tt) 1 (La.map Pl.pt)).length ≤ 1000000) :
    Calls Tryz.prog 20 #[.string fr, .string tt, .pointer (some ⟨p, 0, none⟩), .pointer (some ⟨p', 0, none⟩)] w fun e w' =>
      ∃ A c, e = .returned (.slice A (linesT fr tt (firstBad 0 (moves (vostroT tt) 1 (La.map Pl.pt)) (moves (nostroT fr) (-1) (Lb.map Pl.pt)))).length c) ∧ Rs w' w'.heap.size A (linesT fr tt (firstBad 0 (moves (vostroT tt) 1 (La.map Pl.pt)) (moves (nostroT fr) (-1) (Lb.map Pl.pt)))) ∧ Below w.heap.size w w' := by
  have HA0 := Lib.hid hA
  have HB0 := Lib.hid hB
  generalize hsent : moves (vostroT tt) 1 (La.map Pl.pt) = sent at *
  generalize hgot : moves (nostroT fr) (-1) (Lb.map Pl.pt) = got at *
  have hmf : ∀ (fn : Fn) (first cap : Array Value) (w : World), (Instr.makeFunc fn first cap).run Tryz.prog w = .ok (.func fn first cap) w := fun _ _ _ _ => rfl
  go_enter Tryz.func20, Tryz.ntmps20
  go_wp2_with fail
  have hbw := ((Below.refl w.heap.size w).alloc (Nat.le_refl _) (.cells #[.string fr] 9)).alloc (by simp) (.cells #[.string tt] 9)
  have Hbw := Lib.hid hbw
  have cf : ((w.alloc (.cells #[.string fr] 9)).alloc (.cells #[.string tt] 9)).cell? ⟨w.heap.size, 0, none⟩ = some (.string fr) := Lib.cell?_alloc_some _ (by simp)
  have ct : ((w.alloc (.cells #[.string fr] 9)).alloc (.cells #[.string tt] 9)).cell? ⟨w.heap.size + 1, 0, none⟩ = some (.string tt) := by
    have := alloc_second w (.cells #[.string fr] 9) (.cells #[.string tt] 9)
    unfold World.cell?
    rw [this]
    rfl
  have lf2 : w.heap.size < ((w.alloc (.cells #[.string fr] 9)).alloc (.cells #[.string tt] 9)).heap.size := by simp; omega
  have lt2 : w.heap.size + 1 < ((w.alloc (.cells #[.string fr] 9)).alloc (.cells #[.string tt] 9)).heap.size := by simp
  have HAw := Lib.hid (HA0.out.below hbw)
  have HBw := Lib.hid (HB0.out.below hbw)
  clear hA hB HA0 HB0 hbw
  generalize (w.alloc (.cells #[.string fr] 9)).alloc (.cells #[.string tt] 9) = w2 at *
  have HA : Hid (∀ V, Below w2.heap.size w2 V → Calls Tryz.prog 47 #[.pointer (some ⟨p, 0, none⟩), .string ((⟨#[118, 111, 115, 116, 114, 111, 58]⟩ : ByteArray) ++ tt), .int .i64 1] V fun e w' => ∃ A c, e = .returned (.slice A sent.length c) ∧ w'.ownsRow 0 111 2 (.slice A sent.length c) sent.length (cellsM sent) ∧ Below V.heap.size V w') := Lib.hid (fun V hV => by rw [← hsent]; exact (HAw.out.below hV).sums (vostroT tt) 1 (.inl rfl))
  have HB : Hid (∀ V, Below w2.heap.size w2 V → Calls Tryz.prog 47 #[.pointer (some ⟨p', 0, none⟩), .string ((⟨#[110, 111, 115, 116, 114, 111, 58]⟩ : ByteArray) ++ fr), .int .i64 (-1)] V fun e w' => ∃ A c, e = .returned (.slice A got.length c) ∧ w'.ownsRow 0 111 2 (.slice A got.length c) got.length (cellsM got) ∧ Below V.heap.size V w') := Lib.hid (fun V hV => by rw [← hgot]; exact (HBw.out.below hV).sums (nostroT fr) (-1) (.inr rfl))
  clear HAw HBw hsent hgot
  have hV0 : Below w2.heap.size w2 w2.drew := (Below.refl _ _).drew
  have hV1 : Below w2.heap.size w2 (w2.alloc (.cells #[.slice none 0 0] 108)).drew := ((Below.refl _ _).alloc (Nat.le_refl _) _).drew
  have hV2 : Below w2.heap.size w2 ((w2.alloc (.cells #[.slice none 0 0] 108)).alloc (.cells #[.slice none 0 0] 108)).drew := (((Below.refl _ _).alloc (Nat.le_refl _) _).alloc (by simp) _).drew
  have y10 : (w2.alloc (.cells #[.slice none 0 0] 108)).drew.heap[w2.heap.size]? = some zObj := heap_alloc_new w2 _
  have y20 : ((w2.alloc (.cells #[.slice none 0 0] 108)).alloc (.cells #[.slice none 0 0] 108)).drew.heap[w2.heap.size]? = some zObj := alloc_keep (heap_alloc_new w2 _) _
  have y21 : ((w2.alloc (.cells #[.slice none 0 0] 108)).alloc (.cells #[.slice none 0 0] 108)).drew.heap[w2.heap.size + 1]? = some zObj := alloc_second w2 _ _
  have t1 : ¬ (9223372036854775807 < (⟨#[118, 111, 115, 116, 114, 111, 58]⟩ : ByteArray).size + tt.size) := by have : (⟨#[118, 111, 115, 116, 114, 111, 58]⟩ : ByteArray).size = 7 := rfl; omega
  have t2 : ¬ (9223372036854775807 < (⟨#[110, 111, 115, 116, 114, 111, 58]⟩ : ByteArray).size + fr.size) := by have : (⟨#[110, 111, 115, 116, 114, 111, 58]⟩ : ByteArray).size = 7 := rfl; omega
  have t3 : (⟨#[118, 111, 115, 116, 114, 111, 58]⟩ : ByteArray).size + tt.size ≤ 9223372036854775807 := by omega
  have t4 : (⟨#[110, 111, 115, 116, 114, 111, 58]⟩ : ByteArray).size + fr.size ≤ 9223372036854775807 := by omega
  have t5 : (⟨#[118, 111, 115, 116, 114, 111, 58]⟩ : ByteArray).size = 7 := rfl
  have t6 : (⟨#[110, 111, 115, 116, 114, 111, 58]⟩ : ByteArray).size = 7 := rfl
  have t7 : 7 + tt.size ≤ 9223372036854775807 := by omega
  have t8 : 7 + fr.size ≤ 9223372036854775807 := by omega
  have t9 : ¬ (9223372036854775807 < 7 + tt.size) := by omega
  have t10 : ¬ (9223372036854775807 < 7 + fr.size) := by omega
  have tokA : True := trivial
  go_cut [9, 10] from 9 to 18 (fun a b wx => ∃ b9 b10 sv gv, a = .pointer (some ⟨b9, 0, none⟩) ∧ b = .pointer (some ⟨b10, 0, none⟩) ∧ Hid (Cx wx b10 b9 w.heap.size (w.heap.size + 1) gv sv fr tt sent got) ∧ Hid (Below w2.heap.size w2 wx))
  case first =>
    go_region_held3 (fun w' => w'.cell? ⟨w.heap.size, 0, none⟩ = some (.string fr) ∧ w'.cell? ⟨w.heap.size + 1, 0, none⟩ = some (.string tt))
      ((refine sOf ?_ cf ct lf2 lt2; repeat' (first | exact hb4 | exact hb3 | exact Below.refl _ _ | refine Below.drew ?_ | refine Below.alloc ?_ ?_ _ | refine Below.setCell ?_ ?_ _ | omega | (simp <;> omega))))
      (first
        | (have _t := tokA; go_at_call 47; refine (HA.out _ ?_).mono ?_; (with_reducible exact hV0); rintro e w3 ⟨As, cs, rfl, hr3, hb3'⟩; have hb3 : Below w2.heap.size w2 w3 := below_trans' (Nat.le_refl _) hV0 hb3'; have cf3 := (hb3.cell (p := ⟨w.heap.size, 0, none⟩) lf2).trans cf; have ct3 := (hb3.cell (p := ⟨w.heap.size + 1, 0, none⟩) lt2).trans ct; have hs3 := hb3.size; have hb31 : Below w2.heap.size w2 (w3.alloc (.cells #[.slice none 0 0] 108)) := hb3.alloc hb3.size _; have hb32 : Below w2.heap.size w2 ((w3.alloc (.cells #[.slice none 0 0] 108)).alloc (.cells #[.slice none 0 0] 108)) := hb31.alloc hb31.size _; have tokB : True := trivial; clear hb3' tokA _t)
        | (have _t := tokA; go_at_call 47; refine (HA.out _ ?_).mono ?_; (with_reducible exact hV1); rintro e w3 ⟨As, cs, rfl, hr3, hb3'⟩; have hb3 : Below w2.heap.size w2 w3 := below_trans' (Nat.le_refl _) hV1 hb3'; have zA0 : w3.heap[w2.heap.size]? = some zObj := (hb3'.block (w2.heap.size) ((zcell y10).2.2)).trans y10; obtain ⟨czA0, fzA0, lzA0⟩ := zcell zA0; have cf3 := (hb3.cell (p := ⟨w.heap.size, 0, none⟩) lf2).trans cf; have ct3 := (hb3.cell (p := ⟨w.heap.size + 1, 0, none⟩) lt2).trans ct; have hs3 := hb3.size; have hb31 : Below w2.heap.size w2 (w3.alloc (.cells #[.slice none 0 0] 108)) := hb3.alloc hb3.size _; have hb32 : Below w2.heap.size w2 ((w3.alloc (.cells #[.slice none 0 0] 108)).alloc (.cells #[.slice none 0 0] 108)) := hb31.alloc hb31.size _; have tokB : True := trivial; clear hb3' tokA _t)
        | (have _t := tokA; go_at_call 47; refine (HA.out _ ?_).mono ?_; (with_reducible exact hV2); rintro e w3 ⟨As, cs, rfl, hr3, hb3'⟩; have hb3 : Below w2.heap.size w2 w3 := below_trans' (Nat.le_refl _) hV2 hb3'; have zA0 : w3.heap[w2.heap.size]? = some zObj := (hb3'.block (w2.heap.size) ((zcell y20).2.2)).trans y20; obtain ⟨czA0, fzA0, lzA0⟩ := zcell zA0; have zA1 : w3.heap[w2.heap.size + 1]? = some zObj := (hb3'.block (w2.heap.size + 1) ((zcell y21).2.2)).trans y21; obtain ⟨czA1, fzA1, lzA1⟩ := zcell zA1; have cf3 := (hb3.cell (p := ⟨w.heap.size, 0, none⟩) lf2).trans cf; have ct3 := (hb3.cell (p := ⟨w.heap.size + 1, 0, none⟩) lt2).trans ct; have hs3 := hb3.size; have hb31 : Below w2.heap.size w2 (w3.alloc (.cells #[.slice none 0 0] 108)) := hb3.alloc hb3.size _; have hb32 : Below w2.heap.size w2 ((w3.alloc (.cells #[.slice none 0 0] 108)).alloc (.cells #[.slice none 0 0] 108)) := hb31.alloc hb31.size _; have tokB : True := trivial; clear hb3' tokA _t)
        | (have _t := tokB; go_at_call 47; refine (HB.out _ ?_).mono ?_; (with_reducible exact hb3); rintro e w4 ⟨Ag, cg, rfl, hr4, hb4'⟩; have hb4 : Below w2.heap.size w2 w4 := below_trans' (Nat.le_refl _) hb3 hb4'; have hr34 : w4.ownsRow 0 111 2 (.slice As sent.length cs) sent.length (cellsM sent) := ownsRow_kp hr3 (Kp.of_below (fun _ => False) hb4') (fun _ _ e => e); (try (have zA0' : w4.heap[w2.heap.size]? = some zObj := (hb4'.block (w2.heap.size) ((zcell (zA0)).2.2)).trans (zA0); obtain ⟨czA0', fzA0', lzA0'⟩ := zcell zA0')); (try (have zA1' : w4.heap[w2.heap.size + 1]? = some zObj := (hb4'.block (w2.heap.size + 1) ((zcell (zA1)).2.2)).trans (zA1); obtain ⟨czA1', fzA1', lzA1'⟩ := zcell zA1')); have cf4 := (hb4.cell (p := ⟨w.heap.size, 0, none⟩) lf2).trans cf; have ct4 := (hb4.cell (p := ⟨w.heap.size + 1, 0, none⟩) lt2).trans ct; have hs4 : w3.heap.size ≤ w4.heap.size := (by first | exact hb4'.size | exact Nat.le_trans (size_alloc_le w3 _) hb4'.size | exact Nat.le_trans (Nat.le_trans (size_alloc_le w3 _) (size_alloc_le _ _)) hb4'.size); clear hb4' tokB _t)
        | (have _t := tokB; go_at_call 47; refine (HB.out _ ?_).mono ?_; (with_reducible exact hb31); rintro e w4 ⟨Ag, cg, rfl, hr4, hb4'⟩; have hb4 : Below w2.heap.size w2 w4 := below_trans' (Nat.le_refl _) (hb3.alloc hb3.size (.cells #[.slice none 0 0] 108)) hb4'; have hr34 : w4.ownsRow 0 111 2 (.slice As sent.length cs) sent.length (cellsM sent) := ownsRow_kp (hr3.alloc (.cells #[.slice none 0 0] 108)) (Kp.of_below (fun _ => False) hb4') (fun _ _ e => e); (try (have zA0' : w4.heap[w2.heap.size]? = some zObj := (hb4'.block (w2.heap.size) ((zcell (alloc_keep zA0 (.cells #[.slice none 0 0] 108))).2.2)).trans (alloc_keep zA0 (.cells #[.slice none 0 0] 108)); obtain ⟨czA0', fzA0', lzA0'⟩ := zcell zA0')); have zB0' : w4.heap[w3.heap.size]? = some zObj := (hb4'.block (w3.heap.size) ((zcell (heap_alloc_new w3 (.cells #[.slice none 0 0] 108))).2.2)).trans (heap_alloc_new w3 (.cells #[.slice none 0 0] 108)); obtain ⟨czB0', fzB0', lzB0'⟩ := zcell zB0'; have cf4 := (hb4.cell (p := ⟨w.heap.size, 0, none⟩) lf2).trans cf; have ct4 := (hb4.cell (p := ⟨w.heap.size + 1, 0, none⟩) lt2).trans ct; have hs4 : w3.heap.size ≤ w4.heap.size := (by first | exact hb4'.size | exact Nat.le_trans (size_alloc_le w3 _) hb4'.size | exact Nat.le_trans (Nat.le_trans (size_alloc_le w3 _) (size_alloc_le _ _)) hb4'.size); clear hb4' tokB _t)
        | (have _t := tokB; go_at_call 47; refine (HB.out _ ?_).mono ?_; (with_reducible exact hb32); rintro e w4 ⟨Ag, cg, rfl, hr4, hb4'⟩; have hb4 : Below w2.heap.size w2 w4 := below_trans' (Nat.le_refl _) ((hb3.alloc hb3.size (.cells #[.slice none 0 0] 108)).alloc (hb3.alloc hb3.size (.cells #[.slice none 0 0] 108)).size (.cells #[.slice none 0 0] 108)) hb4'; have hr34 : w4.ownsRow 0 111 2 (.slice As sent.length cs) sent.length (cellsM sent) := ownsRow_kp ((hr3.alloc (.cells #[.slice none 0 0] 108)).alloc (.cells #[.slice none 0 0] 108)) (Kp.of_below (fun _ => False) hb4') (fun _ _ e => e); have zB0' : w4.heap[w3.heap.size]? = some zObj := (hb4'.block (w3.heap.size) ((zcell (alloc_keep (heap_alloc_new w3 (.cells #[.slice none 0 0] 108)) (.cells #[.slice none 0 0] 108))).2.2)).trans (alloc_keep (heap_alloc_new w3 (.cells #[.slice none 0 0] 108)) (.cells #[.slice none 0 0] 108)); obtain ⟨czB0', fzB0', lzB0'⟩ := zcell zB0'; have zB1' : w4.heap[w3.heap.size + 1]? = some zObj := (hb4'.block (w3.heap.size + 1) ((zcell (alloc_second w3 (.cells #[.slice none 0 0] 108) (.cells #[.slice none 0 0] 108))).2.2)).trans (alloc_second w3 (.cells #[.slice none 0 0] 108) (.cells #[.slice none 0 0] 108)); obtain ⟨czB1', fzB1', lzB1'⟩ := zcell zB1'; have cf4 := (hb4.cell (p := ⟨w.heap.size, 0, none⟩) lf2).trans cf; have ct4 := (hb4.cell (p := ⟨w.heap.size + 1, 0, none⟩) lt2).trans ct; have hs4 : w3.heap.size ≤ w4.heap.size := (by first | exact hb4'.size | exact Nat.le_trans (size_alloc_le w3 _) hb4'.size | exact Nat.le_trans (Nat.le_trans (size_alloc_le w3 _) (size_alloc_le _ _)) hb4'.size); clear hb4' tokB _t))
    all_goals
      go_wp2_with fail
      go_meet
      case rel =>
        first
          | exact ⟨_, _, _, _, rfl, rfl, Lib.hid (cx1a hb4 hr34 hr4 cf ct lf2 lt2).1, Lib.hid (cx1a hb4 hr34 hr4 cf ct lf2 lt2).2⟩
          | exact ⟨_, _, _, _, rfl, rfl, Lib.hid (cx1b hb4 hr34 hr4 cf ct lf2 lt2).1, Lib.hid (cx1b hb4 hr34 hr4 cf ct lf2 lt2).2⟩
          | exact ⟨_, _, _, _, rfl, rfl, Lib.hid (cx2a hb4 (by assumption) (by omega) hr34 hr4 cf ct lf2 lt2).1, Lib.hid (cx2a hb4 (by assumption) (by omega) hr34 hr4 cf ct lf2 lt2).2⟩
          | exact ⟨_, _, _, _, rfl, rfl, Lib.hid (cx2b hb4 (by assumption) (by omega) hr34 hr4 cf ct lf2 lt2).1, Lib.hid (cx2b hb4 (by assumption) (by omega) hr34 hr4 cf ct lf2 lt2).2⟩
          | exact ⟨_, _, _, _, rfl, rfl, Lib.hid (cx3 hb4 (by assumption) (by assumption) (by omega) (by omega) (by omega) hr34 hr4 cf ct lf2 lt2).1, Lib.hid (cx3 hb4 (by assumption) (by assumption) (by omega) (by omega) (by omega) hr34 hr4 cf ct lf2 lt2).2⟩
  case rest =>
    obtain ⟨b9, b10, sv, gv, rfl, rfl, HX, HBx⟩ := hcut
    clear HA HB cf ct hV0 hV1 hV2 y10 y20 y21 tokA t1 t2 t3 t4 t5 t6 t7 t8 t9 t10
    have HG := Lib.hid (gather_any fr tt sent got b10 b9 w.heap.size (w.heap.size + 1) gv sv wc HX.out hg hsl (by omega) (by omega))
    go_wp2_with (first
      | (go_at_call 28; refine HG.out.mono ?_; rintro e w6 ⟨A6, c6, rfl, hR6, hb6⟩)
      | go_in)
    have HR6 := Lib.hid hR6
    have HB6 := Lib.hid hb6
    clear hR6 hb6 HG
    go_wp2
    go_ret
    have e1 := Hbw.out
    have e2 := HBx.out.mono e1.size
    have e3 := HB6.out.mono (Nat.le_trans e1.size e2.size)
    exact ⟨A6, c6, rfl, HR6.out, (e1.trans e2).trans e3⟩
end Go.Proofs.YtdinloecgaapaaaGreatDoor
