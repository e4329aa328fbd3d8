/- A coding: holds as elements of a map. A ledger with its holds. Posts: their rows in memory. A ledger with its posts: what stays, what a post adds. -/
import Derived.Test.YtchkdidpnjakeaaGreatDoorGGMap
import Derived.Test.YtchkdidpnjakeaaGreatDoorGAChanges
import Derived.OneCell
namespace Go.Proofs.YtchkdidpnjakeaaGreatDoor
open Go.RowKit Go.Maps
set_option linter.unusedVariables false

structure Hd where
  id : ByteArray
  acc : ByteArray
  cur : ByteArray
  n : Int
def Hd.val (a : Hd) : Value := .agg #[.string a.id, .string a.acc, .string a.cur, .int .i64 a.n]
def Hd.dat (a : Hd) : DataW Unit := .agg [.lit (.string a.id.data.toList), .lit (.string a.acc.data.toList), .lit (.string a.cur.data.toList), .lit (.int .i64 a.n)]
def hdR : Value → Option (DataW Unit × List MemPlace)
  | .agg ⟨[.string i, .string a, .string c, .int .i64 n]⟩ => some ((Hd.mk i a c n).dat, [])
  | _ => none
theorem ba_inj {x y : ByteArray} (h : x.data.toList = y.data.toList) : x = y := ByteArray.ext (Array.ext' h)
def hdE : ElC Hd where
  mk := Hd.val
  dat := Hd.dat
  ok _ := True
  R := hdR
  of v _ := rfl
  inv x z h := by
    unfold hdR at h
    split at h
    · cases h; exact ⟨⟨_, _, _, _⟩, rfl, rfl, trivial⟩
    · cases h
  inj u v h := by
    obtain ⟨a, b, c, d⟩ := u
    obtain ⟨a', b', c', d'⟩ := v
    simp only [Hd.dat, DataW.agg.injEq, List.cons.injEq, DataW.lit.injEq, Lit.string.injEq, Lit.int.injEq, true_and, and_true] at h
    obtain ⟨h1, h2, h3, h4⟩ := h
    rw [ba_inj h1, ba_inj h2, ba_inj h3, h4]
end Go.Proofs.YtchkdidpnjakeaaGreatDoor
namespace Go.Proofs.YtchkdidpnjakeaaGreatDoor.Led
open Go.RowKit Go.Maps Go.Lib
set_option linter.unusedVariables false
set_option maxRecDepth 100000

/-- block p is a ledger: accounts in map block b, holds in map block h -/
structure Lh (w : World) (p b h n m : Nat) (G : Nt → Option Ac) (pv : Value) (F : ByteArray → Option Hd) : Prop where
  lg : Lg w p b n G pv (.map (some h))
  hs : Mp curC hdE w h m F
  ne : b ≠ h
section
variable {w w' : World} {p b h n m : Nat} {G : Nt → Option Ac} {pv : Value} {F : ByteArray → Option Hd}
theorem Lh.hlt (x : Lh w p b h n m G pv F) : h < w.heap.size := x.hs.lt
theorem Lh.ph (x : Lh w p b h n m G pv F) : p ≠ h := x.hs.neCells x.lg.cell
theorem Lh.below (x : Lh w p b h n m G pv F) {B : Nat} (hb : Below B w w') (hp : p < B) (hbb : b < B) (hh : h < B) : Lh w' p b h n m G pv F := ⟨x.lg.below hb hp hbb, x.hs.below hb hh, x.ne⟩
end
end Go.Proofs.YtchkdidpnjakeaaGreatDoor.Led
namespace Go.Proofs.YtchkdidpnjakeaaGreatDoor.Led
open Go.RowKit Go.Maps Go.Lib
set_option linter.unusedVariables false
set_option maxRecDepth 100000

structure Pt where
  num : Int
  text : ByteArray
  ents : List Ent
/-- a post, and where its entries lie -/
structure Pl where
  pt : Pt
  A : Option Addr
  c : Nat
def Pl.cells (x : Pl) : List Value := [.int .i64 x.pt.num, .string x.pt.text, .slice x.A x.pt.ents.length x.c]
def cellsP (L : List Pl) : List Value := L.flatMap Pl.cells
theorem cellsP_snoc (T : List Pl) (t : Pl) : cellsP (T ++ [t]) = cellsP T ++ t.cells := by simp [cellsP]
theorem post_info : (Tryz.prog.info? 343).map (fun i => (i.zero, i.size, i.bytes)) = some (some (.agg #[.int .i64 0, .string ⟨#[]⟩, .slice none 0 0]), 3, 48) := by kernel_rfl

/-- the slice v's elements are the posts L, whose entries lie below B; the row is among the blocks from base on -/
structure Pw (w : World) (base B : Nat) (v : Value) (L : List Pl) : Prop where
  row : w.ownsRow base 343 3 v L.length (cellsP L)
  ents : ∀ x ∈ L, Re w B x.A x.pt.ents ∧ 0 < x.pt.ents.length ∧ x.pt.ents.length ≤ 64
section
variable {w w' : World} {base B : Nat} {v : Value} {L : List Pl}
theorem Pw.form (h : Pw w base B v L) : ∃ A c, v = .slice A L.length c := by
  rcases h.row.2 with ⟨h0, hn⟩ | ⟨g, cap, cur, he, _⟩
  · exact ⟨none, 0, by rw [h0, hn]⟩
  · exact ⟨_, _, he⟩
end
end Go.Proofs.YtchkdidpnjakeaaGreatDoor.Led
namespace Go.Proofs.YtchkdidpnjakeaaGreatDoor.Led
open Go.RowKit Go.Maps Go.Lib
set_option linter.unusedVariables false
set_option maxRecDepth 100000

/-- nothing has turned but blocks of S -/
structure Kp (S : Nat → Prop) (w w' : World) : Prop where
  os : w'.os = w.os
  tape : w'.tape = w.tape
  output : w'.output = w.output
  size : w.heap.size ≤ w'.heap.size
  block : ∀ k, k < w.heap.size → ¬ S k → w'.heap[k]? = w.heap[k]?
theorem Kp.trans {S : Nat → Prop} {a b c : World} (h : Kp S a b) (k : Kp S b c) : Kp S a c :=
  ⟨k.os.trans h.os, k.tape.trans h.tape, k.output.trans h.output, Nat.le_trans h.size k.size, fun i hi hS => (k.block i (Nat.lt_of_lt_of_le hi h.size) hS).trans (h.block i hi hS)⟩
theorem Kp.mono {S S' : Nat → Prop} {a b : World} (h : Kp S a b) (hS : ∀ k, k < a.heap.size → S k → S' k) : Kp S' a b := ⟨h.os, h.tape, h.output, h.size, fun k hk hn => h.block k hk (fun e => hn (hS k hk e))⟩
theorem Kp.of_grown {a b : World} {row : Option Nat} (h : a.grownBy b row) : Kp (fun k => some k = row) a b := ⟨h.os, h.tape, h.output, h.size, fun k hk hn => h.block k hk hn⟩
theorem Kp.of_below {a b : World} (S : Nat → Prop) (h : Below a.heap.size a b) : Kp S a b := ⟨h.os, h.tape, h.output, h.size, fun k hk _ => h.block k hk⟩
theorem Re.ne_map {w : World} {B g off : Nat} {T : List Ent} {b : Nat} {es : Array MapEntry} {cl : Nat} (h : Re w B (some ⟨g, off, none⟩) T) (h0 : 0 < T.length) (hb : w.heap[b]? = some (.map es cl)) : g ≠ b := by
  intro e
  subst e
  obtain ⟨g', off', e, _, hc⟩ := h h0
  injection e with e
  injection e with e1 e2
  subst e1 e2
  have := (hc 0 T[0] (List.getElem?_eq_getElem h0)).1
  simp [World.cell?, hb] at this
theorem _root_.Go.Proofs.YtchkdidpnjakeaaGreatDoor.Mp.blk {P : Program} {k : TypeId} {α β : Type} {C : KeyC P k α} {E : ElC β} {w : World} {b n : Nat} {G : α → Option β} (h : Mp C E w b n G) : ∃ es cl, w.heap[b]? = some (.map es cl) := by
  obtain ⟨D, ⟨es, clock, hb, _⟩, _⟩ := h
  exact ⟨es, clock, hb⟩

theorem _root_.Go.Proofs.YtchkdidpnjakeaaGreatDoor.Mp.of_block {P : Program} {k : TypeId} {α β : Type} {C : KeyC P k α} {E : ElC β} {w w' : World} {b n : Nat} {G : α → Option β} (h : Mp C E w b n G) (he : w'.heap[b]? = w.heap[b]?) : Mp C E w' b n G := by
  obtain ⟨D, ⟨es, clock, h2, h3⟩, hR⟩ := h
  exact ⟨D, ⟨es, clock, he.trans h2, h3⟩, hR⟩
/-- a ledger with its posts L; what it consists of lies from base on -/
structure Led (w : World) (base p b n : Nat) (G : Nt → Option Ac) (pv hv : Value) (L : List Pl) : Prop where
  lg : Lg w p b n G pv hv
  row : w.ownsRow base 343 3 pv L.length (cellsP L)
  ents : ∀ x ∈ L, Re w w.heap.size x.A x.pt.ents ∧ 0 < x.pt.ents.length ∧ x.pt.ents.length ≤ 64
  out : ∀ x ∈ L, ∀ ad, x.A = some ad → ad.block ≠ p ∧ ad.block ≠ b ∧ some ad.block ≠ pv.ownBlock ∧ base ≤ ad.block
  pb : base ≤ p
  bb : base ≤ b
section
variable {w w' : World} {base p b n : Nat} {G : Nt → Option Ac} {pv hv : Value} {L : List Pl}
theorem Led.pw (h : Led w base p b n G pv hv L) : Pw w base w.heap.size pv L := ⟨h.row, h.ents⟩
theorem Led.form (h : Led w base p b n G pv hv L) : ∃ A c, pv = .slice A L.length c := h.pw.form
theorem Led.row_p (h : Led w base p b n G pv hv L) : pv.ownBlock ≠ some p := by
  rcases h.row.2 with ⟨h0, _⟩ | ⟨g, cap, cur, he, _, hb, _⟩
  · rw [h0]; simp [Value.ownBlock]
  · rw [he]
    intro e
    simp [Value.ownBlock] at e
    subst e
    rw [h.lg.cell] at hb
    simp at hb
theorem Led.row_b (h : Led w base p b n G pv hv L) : pv.ownBlock ≠ some b := by
  obtain ⟨es, cl, hm⟩ := h.lg.acc.blk
  rcases h.row.2 with ⟨h0, _⟩ | ⟨g, cap, cur, he, _, hb, _⟩
  · rw [h0]; simp [Value.ownBlock]
  · rw [he]
    intro e
    simp [Value.ownBlock] at e
    subst e
    rw [hm] at hb
    simp at hb
theorem Led.row_base (h : Led w base p b n G pv hv L) : ∀ k, some k = pv.ownBlock → base ≤ k := by
  rcases h.row.2 with ⟨h0, _⟩ | ⟨g, cap, cur, he, hb, _⟩
  · rw [h0]; simp [Value.ownBlock]
  · rw [he]
    intro k e
    simp [Value.ownBlock] at e
    omega
/-- what a ledger's own blocks are -/
def own3 (p b : Nat) (pv : Value) (k : Nat) : Prop := k = p ∨ k = b ∨ some k = pv.ownBlock
theorem Re.kp {S : Nat → Prop} {A : Option Addr} {T : List Ent} (hR : Re w w.heap.size A T) (hk : Kp S w w') (hS : ∀ ad, A = some ad → ¬ S ad.block) : Re w' w'.heap.size A T := fun hl => by
  obtain ⟨g, off, e, hg, hc⟩ := hR hl
  have hb := hk.block g hg (hS _ e)
  refine ⟨g, off, e, Nat.lt_of_lt_of_le hg hk.size, fun i x hx => ?_⟩
  obtain ⟨c0, c1, c2⟩ := hc i x hx
  exact ⟨(World.cell?_of_block (a := ⟨g, _, none⟩) hb).trans c0, (World.cell?_of_block (a := ⟨g, _, none⟩) hb).trans c1, (World.cell?_of_block (a := ⟨g, _, none⟩) hb).trans c2⟩
theorem ownsRow_kp {S : Nat → Prop} {e : TypeId} {size m : Nat} {v : Value} {xs : List Value} (hR : w.ownsRow base e size v m xs) (hk : Kp S w w') (hS : ∀ k, some k = v.ownBlock → ¬ S k) : w'.ownsRow base e size v m xs := by
  refine ⟨hR.1, ?_⟩
  rcases hR.2 with ⟨h0, hn⟩ | ⟨g, cap, cur, he, hb, hg, r⟩
  · exact .inl ⟨h0, hn⟩
  · exact .inr ⟨g, cap, cur, he, hb, (hk.block g (Array.getElem?_eq_some_iff.1 hg).1 (hS g (by rw [he]; rfl))).trans hg, r⟩
/-- the accounts alone have changed -/
theorem Led.grow {m : Nat} {G' : Nt → Option Ac} (h : Led w base p b n G pv hv L) (hg : w.grownBy w' (some b)) (hL : Lg w' p b m G' pv hv) : Led w' base p b m G' pv hv L :=
  ⟨hL, ownsRow_kp h.row (Kp.of_grown hg) (fun k hk e => h.row_b (by rw [← hk, e])), fun x hx => ⟨(h.ents x hx).1.kp (Kp.of_grown hg) (fun ad ha e => (h.out x hx ad ha).2.1 (by injection e)), (h.ents x hx).2⟩, h.out, h.pb, h.bb⟩
/-- nothing of the ledger has turned -/
theorem Led.kp {S : Nat → Prop} (h : Led w base p b n G pv hv L) (hk : Kp S w w') (hS : ∀ k, base ≤ k → k < w.heap.size → ¬ S k) : Led w' base p b n G pv hv L := by
  have hblk : ∀ k, base ≤ k → k < w.heap.size → w'.heap[k]? = w.heap[k]? := fun k h1 h2 => hk.block k h2 (hS k h1 h2)
  have hk' : Kp (fun k => ¬ (base ≤ k ∧ k < w.heap.size)) w w' := hk.mono fun k h1 h2 h3 => hS k h3.1 h3.2 h2
  refine ⟨⟨(hblk p h.pb h.lg.plt).trans h.lg.cell, ?_⟩, ?_, fun x hx => ⟨?_, (h.ents x hx).2⟩, h.out, h.pb, h.bb⟩
  · exact h.lg.acc.of_block (hblk b h.bb h.lg.blt)
  · exact ownsRow_kp h.row hk' (fun k hk e => e ⟨h.row_base k hk, by
      rcases h.row.2 with ⟨h0, _⟩ | ⟨g, cap, cur, he, hb, hg, _⟩
      · rw [h0] at hk; simp [Value.ownBlock] at hk
      · rw [he] at hk; simp [Value.ownBlock] at hk; subst hk; exact (Array.getElem?_eq_some_iff.1 hg).1⟩)
  · refine (h.ents x hx).1.kp hk' (fun ad ha e => e ⟨(h.out x hx ad ha).2.2.2, ?_⟩)
    obtain ⟨g, off, e, hg, _⟩ := (h.ents x hx).1 (h.ents x hx).2.1
    rw [e] at ha
    injection ha with ha
    subst ha
    exact hg
/-- blocks that are neither the ledger's nor posts stand -/
theorem Led.enter_keep {w5 W w6 : World} {g cap : Nat} (h : Led w base p b n G pv hv L) (h5 : Below w.heap.size w w5) (hW : Below w5.heap.size w5 W) (hg : W.grownBy w6 pv.ownBlock) (u : Value) {q : Nat} {cs : Array Value} {t : TypeId} {fr : Nat × Nat} (hq : w5.heap[q]? = some (.cells cs t fr)) (h1 : t ≠ 267) (h2 : t ≠ 343) : (w6.setCell ⟨p, 1, none⟩ u).heap[q]? = some (.cells cs t fr) := by
  have hql := (Array.getElem?_eq_some_iff.1 hq).1
  have hqp : q ≠ p := fun e => by
    have := (h5.block p h.lg.plt).trans h.lg.cell
    rw [← e, hq] at this
    injection this with this
    injection this with _ this
    exact h1 this
  rw [heap_setCell_other _ _ _ _ hqp]
  refine (hg.block q (by have := hW.size; omega) (fun e => ?_)).trans ((hW.block q hql).trans hq)
  rcases h.row.2 with ⟨h0, _⟩ | ⟨g', cap', cur, he, _, hb, _⟩
  · rw [h0] at e; simp [Value.ownBlock] at e
  · rw [he] at e
    simp [Value.ownBlock] at e
    subst e
    have := (h5.block q (Array.getElem?_eq_some_iff.1 hb).1).trans hb
    rw [hq] at this
    injection this with this
    injection this with _ this
    exact h2 this
/-- the post is laid behind the others, the ledger's cell written anew -/
theorem Led.enter_end {w5 W w6 : World} {A' : Option Addr} {c' g cap : Nat} {es : List Ent} {txt : ByteArray} {num : Int} (h : Led w base p b n G pv hv L) (h5 : Below w.heap.size w w5) (hR : Re w5 w5.heap.size A' es) (hA : ∀ ad, A' = some ad → w.heap.size ≤ ad.block)
    (h0 : 0 < es.length) (hlen : es.length ≤ 64) (hW : Below w5.heap.size w5 W)
    (hown : w6.ownsRow base 343 3 (.slice (some ⟨g, 0, none⟩) (L.length + 1) cap) (L.length + 1) (cellsP L ++ [.int .i64 num, .string txt, .slice A' es.length c'])) (hg : W.grownBy w6 pv.ownBlock) (hloc : pv.ownBlock = some g ∨ g = W.heap.size) :
    Led (w6.setCell ⟨p, 1, none⟩ (.slice (some ⟨g, 0, none⟩) (L.length + 1) cap)) base p b n G (.slice (some ⟨g, 0, none⟩) (L.length + 1) cap) hv (L ++ [⟨⟨num, txt, es⟩, A', c'⟩]) ∧
      Kp (own3 p b pv) w (w6.setCell ⟨p, 1, none⟩ (.slice (some ⟨g, 0, none⟩) (L.length + 1) cap)) := by
  have hs5 := h5.size
  have hsW := hW.size
  have hp := h.lg.plt
  have hb := h.lg.blt
  have hrp := h.row_p
  have hrb := h.row_b
  have hlt := h.row.lt
  have hgp : g ≠ p := by
    rintro rfl
    rcases hloc with e | e
    · exact hrp e
    · omega
  have hgb : g ≠ b := by
    rintro rfl
    rcases hloc with e | e
    · exact hrb e
    · omega
  have hp6 : w6.heap[p]? = w.heap[p]? := (hg.block p (by omega) (fun e => hrp e.symm)).trans ((hW.block p (by omega)).trans (h5.block p hp))
  have hb6 : w6.heap[b]? = w.heap[b]? := (hg.block b (by omega) (fun e => hrb e.symm)).trans ((hW.block b (by omega)).trans (h5.block b hb))
  have k1 : Kp (own3 p b pv) w w6 := by
    refine (Kp.of_below _ (h5.trans (hW.mono hs5))).trans ?_
    exact (Kp.of_grown hg).mono fun k _ e => .inr (.inr e)
  have k2 : Kp (own3 p b pv) w6 (w6.setCell ⟨p, 1, none⟩ (.slice (some ⟨g, 0, none⟩) (L.length + 1) cap)) := ⟨rfl, rfl, rfl, by simp, fun k _ hn => heap_setCell_other w6 ⟨p, 1, none⟩ k _ (fun e => hn (.inl e))⟩
  have hkk := k1.trans k2
  have hso : (w6.setCell ⟨p, 1, none⟩ (.slice (some ⟨g, 0, none⟩) (L.length + 1) cap)).heap.size = w6.heap.size := by simp
  refine ⟨⟨⟨?_, ?_⟩, ?_, ?_, ?_, h.pb, h.bb⟩, hkk⟩
  · have := heap_setCell_same w6 p 1 #[.map (some b), pv, hv] 267 (.slice (some ⟨g, 0, none⟩) (L.length + 1) cap) (hp6.trans h.lg.cell)
    simpa using this
  · exact (h.lg.acc.of_block hb6).setCell (fun e => h.lg.ne e.symm) _
  · have := ownsRow_setCell_other hown (a := ⟨p, 1, none⟩) (by simp [Value.ownBlock]; exact hgp) (.slice (some ⟨g, 0, none⟩) (L.length + 1) cap)
    rw [cellsP_snoc]
    simpa [Pl.cells] using this
  · intro x hx
    rcases List.mem_append.1 hx with hx | hx
    · refine ⟨(h.ents x hx).1.kp hkk (fun ad ha e => ?_), (h.ents x hx).2⟩
      obtain ⟨o1, o2, o3, _⟩ := h.out x hx ad ha
      rcases e with e | e | e
      · exact o1 e
      · exact o2 e
      · exact o3 e
    · rw [List.mem_singleton] at hx
      subst hx
      refine ⟨?_, h0, hlen⟩
      have kk : Kp (own3 p b pv) w5 (w6.setCell ⟨p, 1, none⟩ (.slice (some ⟨g, 0, none⟩) (L.length + 1) cap)) := ((Kp.of_below _ hW).trans ((Kp.of_grown hg).mono fun k _ e => .inr (.inr e))).trans k2
      refine hR.kp kk (fun ad ha e => ?_)
      have := hA ad ha
      rcases e with e | e | e
      · omega
      · omega
      · have := (hlt _ e.symm).2; omega
  · intro x hx ad ha
    rcases List.mem_append.1 hx with hx | hx
    · obtain ⟨o1, o2, o3, o4⟩ := h.out x hx ad ha
      refine ⟨o1, o2, ?_, o4⟩
      simp [Value.ownBlock]
      rintro e
      rcases hloc with e2 | e2
      · exact o3 (by rw [e, e2])
      · obtain ⟨g', off, e3, hg', _⟩ := (h.ents x hx).1 (h.ents x hx).2.1
        rw [e3] at ha
        injection ha with ha
        subst ha
        simp at e
        omega
    · rw [List.mem_singleton] at hx
      subst hx
      have h1 := hA ad ha
      have hA5 : ad.block < w5.heap.size := by
        obtain ⟨g', off, e3, hg', _⟩ := hR h0
        have ha' : A' = some ad := ha
        rw [e3] at ha'
        injection ha' with ha'
        subst ha'
        exact hg'
      have hbp := h.pb
      refine ⟨by omega, by omega, ?_, by omega⟩
      simp [Value.ownBlock]
      rintro e
      rcases hloc with e2 | e2
      · have := (hlt _ e2).2; omega
      · omega
end
end Go.Proofs.YtchkdidpnjakeaaGreatDoor.Led
