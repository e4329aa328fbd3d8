/- The credit that a deal asks for, plain. paper.Wanted. -/
import Derived.Test.YtbkffdfboloogaaGreatDoorMT
import Derived.Test.YtbkffdfboloogaaGreatDoorWPack
import Derived.Test.YtbkffdfboloogaaGreatDoorWAlike
import Derived.Test.YtbkffdfboloogaaGreatDoorMC
import Derived.Test.YtbkffdfboloogaaGreatDoorMP
namespace Go.Proofs.YtbkffdfboloogaaGreatDoor
open Go.RowKit Go.Maps Go.Lib
set_option linter.unusedVariables false
set_option maxRecDepth 100000

def nmInv : List ByteArray := [⟨#[115, 101, 108, 108, 101, 114]⟩, ⟨#[98, 117, 121, 101, 114]⟩, ⟨#[99, 117, 114, 114, 101, 110, 99, 121]⟩, ⟨#[115, 117, 109]⟩, ⟨#[102, 114, 111, 109]⟩, ⟨#[116, 111]⟩]
def nmPk : List ByteArray := [⟨#[98, 111, 120, 101, 115]⟩, ⟨#[109, 97, 114, 107, 115]⟩]
def nmOr : List ByteArray := [⟨#[115, 101, 108, 108, 101, 114]⟩, ⟨#[99, 111, 117, 110, 116, 114, 121]⟩]
def issR (d : Dl) : Rl := ⟨5, 0, ⟨#[105, 115, 115, 117, 101, 100]⟩, ⟨#[]⟩, d.lat, []⟩
def sumR (d : Dl) : Rl := ⟨6, 0, ⟨#[115, 117, 109]⟩, ⟨#[]⟩, d.amt, []⟩
def rules2 (d : Dl) (mk : ByteArray) : List Rl := [isR ⟨#[99, 97, 114, 114, 105, 101, 114]⟩ d.car, isR ⟨#[115, 104, 105, 112, 112, 101, 114]⟩ d.sel, isR ⟨#[102, 114, 111, 109]⟩ d.frm, isR ⟨#[116, 111]⟩ d.dst, isR ⟨#[109, 97, 114, 107, 115]⟩ mk, isR ⟨#[99, 108, 101, 97, 110]⟩ ⟨#[121, 101, 115]⟩, issR d]
def rules3 (d : Dl) : List Rl := [isR ⟨#[102, 114, 111, 109]⟩ d.frm, isR ⟨#[116, 111]⟩ d.dst, isR ⟨#[99, 117, 114, 114, 101, 110, 99, 121]⟩ d.cur, sumR d]
def ndOf (k : Int) (L : List Rl) : Nd := ⟨k, 1, ⟨0, 0, ⟨#[]⟩, ⟨#[]⟩, 0, L⟩⟩
/-- the credit that is wanted, its needs aside -/
def wantN (d : Dl) (L : List Nd) : Cr := { num := d.num, app := d.buy, ben := d.sel, iss := d.iss, con := ⟨#[]⟩, frm := d.frm, dst := d.dst, cur := d.cur, amt := d.amt, abo := 0, bel := 0, lat := d.lat, exp := d.exp, wit := 21, ten := d.ten, par := false, chg := true, needs := L }
def needs3 (d : Dl) (mk ls mk2 : ByteArray) : List Nd := [ndOf 0 (alikeL (invF d) nmInv), ndOf 1 (alikeL (pkF d mk ls) nmPk), ndOf 2 (rules2 d mk2)]
def wantC (d : Dl) (mk ls mk2 : ByteArray) : Cr := wantN d (needs3 d mk ls mk2 ++ (if d.ins.size = 0 then [] else [ndOf 3 (rules3 d)]) ++ [ndOf 4 (alikeL (orF d d.frm) nmOr)])
end Go.Proofs.YtbkffdfboloogaaGreatDoor
namespace Go.Proofs.YtbkffdfboloogaaGreatDoor
open Go.RowKit Go.Maps Go.Lib
set_option linter.unusedVariables false
set_option maxRecDepth 100000

def DocV (w : World) (base : Nat) (k : Int) (F : List Fp) (v : Value) : Prop := ∃ x y A' c', v = .agg #[.int .i64 k, .string x, .string y, .slice A' F.length c'] ∧ Pw w base (.slice A' F.length c') F
def RowV (w : World) (base : Nat) (L : List Rl) (v : Value) : Prop := ∃ A' c' cs, v = .slice A' L.length c' ∧ Ar w base (.slice A' L.length c') L cs
def NeedV (w : World) (base : Nat) (k : Int) (L : List Rl) (v : Value) : Prop := ∃ A' c' cs, v = .agg (ndA (ndOf k L) A' c') ∧ Ar w base (.slice A' L.length c') L cs
def NeedsV (w : World) (base : Nat) (L : List Nd) (v : Value) : Prop := ∃ A' c' cs, v = .slice A' L.length c' ∧ NwA w base (.slice A' L.length c') L cs
def StrV (w : World) (S : List ByteArray) (v : Value) : Prop := ∃ g, v = .slice (some ⟨g, 0, none⟩) S.length S.length ∧ g < w.heap.size ∧ StrAt w g 0 S
section
variable {w w' : World} {base : Nat} {k : Int} {F : List Fp} {L : List Rl} {N : List Nd} {S : List ByteArray} {v : Value}
theorem DocV.below (h : DocV w base k F v) (hb : Below w.heap.size w w') : DocV w' base k F v := by
  obtain ⟨x, y, A', c', h1, h2⟩ := h
  exact ⟨x, y, A', c', h1, h2.below hb⟩
theorem RowV.below (h : RowV w base L v) (hb : Below w.heap.size w w') : RowV w' base L v := by
  obtain ⟨A', c', cs, h1, h2⟩ := h
  exact ⟨A', c', cs, h1, h2.below hb⟩
theorem NeedV.below (h : NeedV w base k L v) (hb : Below w.heap.size w w') : NeedV w' base k L v := by
  obtain ⟨A', c', cs, h1, h2⟩ := h
  exact ⟨A', c', cs, h1, h2.below hb⟩
theorem NeedsV.below (h : NeedsV w base N v) (hb : Below w.heap.size w w') : NeedsV w' base N v := by
  obtain ⟨A', c', cs, h1, h2⟩ := h
  exact ⟨A', c', cs, h1, h2.below hb⟩
theorem StrV.below (h : StrV w S v) (hb : Below w.heap.size w w') : StrV w' S v := by
  obtain ⟨g, h1, h2, h3⟩ := h
  exact ⟨g, h1, Nat.lt_of_lt_of_le h2 hb.size, h3.below hb h2⟩
end
theorem frame_lit (n : Nat) (a : Act) (h : a.tmps.size = n) (hd : a.defers = []) : a = ⟨((List.range n).map fun i => a.tmps.getD i undef).toArray, []⟩ := by
  obtain ⟨t, ds⟩ := a
  simp only at h hd
  subst hd
  congr 1
  refine Array.ext (by simp [h]) fun i h1 h2 => ?_
  simp [h1]
theorem getD_of {t : Array Value} {k : Nat} {v : Value} (h : t[k]? = some v) : t.getD k undef = v := by simp [h]
theorem heap_keptW (w : World) (o : Obj) (k : Nat) (h : k < w.heap.size) : (w.alloc o).heap[k]? = w.heap[k]? := by
  show (w.heap.push o)[k]? = _
  rw [Array.getElem?_push_lt h]
  simp [h]
theorem infoDealW : (Tryz.prog.info? 39).map (·.size) = some 17 := by kernel_rfl
theorem infoCredW : (Tryz.prog.info? 26).map (·.size) = some 18 := by kernel_rfl
def zcr : Array Value := #[.string ⟨#[]⟩, .string ⟨#[]⟩, .string ⟨#[]⟩, .string ⟨#[]⟩, .string ⟨#[]⟩, .string ⟨#[]⟩, .string ⟨#[]⟩, .string ⟨#[]⟩, .int .i64 0, .int .i64 0, .int .i64 0, .int .i64 0, .int .i64 0, .int .i64 0, .int .i64 0, .bool false, .bool false, .slice none 0 0]
/-- how memory lies as Wanted goes on: the deal in block b, the result in b + 1, the credit in b + 2 -/
structure WSt (w : World) (d : Dl) (A : Option Addr) (c : Nat) (W : World) (L : List Nd) (A' : Option Addr) (cp : Nat) : Prop where
  deal : W.heap[w.heap.size]? = some (.cells (dlA d A c) 39)
  res : W.heap[w.heap.size + 1]? = some (.cells zcr 26)
  cred : W.heap[w.heap.size + 2]? = some (.cells (crA (wantN d L) A' cp) 26)
  row : ∃ cs, NwA W (w.heap.size + 3) (.slice A' L.length cp) L cs
  bel : Below w.heap.size w W
  size : w.heap.size + 3 ≤ W.heap.size
theorem WSt.cell {w : World} {d : Dl} {A : Option Addr} {c : Nat} {W : World} {L : List Nd} {A' : Option Addr} {cp : Nat} (h : WSt w d A c W L A' cp) (i : Nat) (hi : i < 17) : W.cell? ⟨w.heap.size, i, none⟩ = (dlA d A c)[i]? := by
  simp [World.cell?, h.deal]
theorem WSt.below {w : World} {d : Dl} {A : Option Addr} {c : Nat} {W W' : World} {L : List Nd} {A' : Option Addr} {cp : Nat} (h : WSt w d A c W L A' cp) (hb : Below W.heap.size W W') : WSt w d A c W' L A' cp := by
  have hs := h.size
  obtain ⟨cs, hr⟩ := h.row
  exact ⟨(hb.block _ (by omega)).trans h.deal, (hb.block _ (by omega)).trans h.res, (hb.block _ (by omega)).trans h.cred, ⟨cs, hr.below hb⟩, h.bel.trans (hb.mono (by omega)), Nat.le_trans hs hb.size⟩
/-- the row of needs is stored anew -/
theorem WSt.store {w : World} {d : Dl} {A : Option Addr} {c : Nat} {W' : World} {L M : List Nd} {A' B' : Option Addr} {cp cq : Nat} {cs : List Value} (hd : W'.heap[w.heap.size]? = some (.cells (dlA d A c) 39)) (hres : W'.heap[w.heap.size + 1]? = some (.cells zcr 26)) (hcr : W'.heap[w.heap.size + 2]? = some (.cells (crA (wantN d L) A' cp) 26))
    (hr : NwA W' (w.heap.size + 3) (.slice B' M.length cq) M cs) (hbel : Below w.heap.size w W') (hs : w.heap.size + 3 ≤ W'.heap.size) : WSt w d A c (W'.setCell ⟨w.heap.size + 2, 17, none⟩ (.slice B' M.length cq)) M B' cq := by
  refine ⟨?_, ?_, ?_, ⟨cs, hr.set (by show w.heap.size + 2 < _; omega) _⟩, hbel.setCell (by show w.heap.size ≤ w.heap.size + 2; omega) _, by rw [World.size_setCell]; exact hs⟩
  · rw [heap_setCell_other _ _ _ _ (by show w.heap.size ≠ w.heap.size + 2; omega)]; exact hd
  · rw [heap_setCell_other _ _ _ _ (by show w.heap.size + 1 ≠ w.heap.size + 2; omega)]; exact hres
  · exact heap_setCell_same _ _ 17 _ _ _ hcr
/-- one need more in the credit's row -/
theorem WSt.more {w : World} {d : Dl} {A : Option Addr} {c : Nat} {W : World} {L : List Nd} {A' : Option Addr} {cp : Nat} (h : WSt w d A c W L A' cp) (x : Nd) (A2 : Option Addr) (c2 g : Nat) (hnew : W.heap[g]? = some (.cells (ndA x A2 c2) 35)) {ds : List Value} (hA : Ar W (w.heap.size + 3) (.slice A2 x.r.l.length c2) x.r.l ds) (hl : L.length ≤ 1000) :
    ∃ B' cq W', (Builtin.append_ #[24, 24] 24 #[.slice A' L.length cp, .slice (some ⟨g, 0, none⟩) 1 1]).run Tryz.prog W = .ok (.slice B' (L ++ [x]).length cq) W' ∧ W'.cell? ⟨w.heap.size + 2, 17, none⟩ = some (.slice A' L.length cp) ∧ W'.frozen? ⟨w.heap.size + 2, 17, none⟩ = false ∧ WSt w d A c (W'.setCell ⟨w.heap.size + 2, 17, none⟩ (.slice B' (L ++ [x]).length cq)) (L ++ [x]) B' cq := by
  obtain ⟨cs, hr⟩ := h.row
  obtain ⟨v', W', cs', hrn, hN, hg⟩ := app_needA 24 hr x A2 c2 g hnew hA hl h.size
  obtain ⟨B', cq, rfl⟩ := hN.form
  have hlow : ∀ k, k < w.heap.size + 3 → W'.heap[k]? = W.heap[k]? := fun k hk => hg.block k (by have := h.size; omega) (fun he => by have := (hr.lt he.symm).1; omega)
  have hcr := (hlow (w.heap.size + 2) (by omega)).trans h.cred
  have hbel : Below w.heap.size w W' := h.bel.grown hg (by have := h.size; omega) (fun j hj => by have := (hr.lt hj).1; omega)
  refine ⟨B', cq, W', hrn, ?_, frozen_of_row _ _ _ _ _ hcr, WSt.store ((hlow _ (by omega)).trans h.deal) ((hlow _ (by omega)).trans h.res) hcr hN hbel (Nat.le_trans h.size hg.size)⟩
  rw [cell_of_row _ _ _ _ _ _ hcr]
  rfl
/-- a frame, three slots of it known -/
def fr96 (f : Nat → Value) (u v x : Value) : Act := ⟨(f 0 :: u :: v :: x :: f 4 :: f 5 :: f 6 :: f 7 :: f 8 :: f 9 :: f 10 :: f 11 :: f 12 :: f 13 :: f 14 :: f 15 :: f 16 :: f 17 :: f 18 :: f 19 :: f 20 :: f 21 :: f 22 :: f 23 :: f 24 :: f 25 :: f 26 :: f 27 :: f 28 :: f 29 :: f 30 :: f 31 :: f 32 :: f 33 :: f 34 :: f 35 :: f 36 :: f 37 :: f 38 :: f 39 :: f 40 :: f 41 :: f 42 :: f 43 :: f 44 :: f 45 :: f 46 :: f 47 :: f 48 :: f 49 :: f 50 :: f 51 :: f 52 :: f 53 :: f 54 :: f 55 :: f 56 :: f 57 :: f 58 :: f 59 :: f 60 :: f 61 :: f 62 :: f 63 :: f 64 :: f 65 :: f 66 :: f 67 :: f 68 :: f 69 :: f 70 :: f 71 :: f 72 :: f 73 :: f 74 :: f 75 :: f 76 :: f 77 :: f 78 :: f 79 :: f 80 :: f 81 :: f 82 :: f 83 :: f 84 :: f 85 :: f 86 :: f 87 :: f 88 :: f 89 :: f 90 :: f 91 :: f 92 :: f 93 :: f 94 :: f 95 :: []).toArray, []⟩
theorem frame96 (a : Act) (h : a.tmps.size = 96) (hd : a.defers = []) {u v x : Value} (h1 : a.tmps[1]? = some u) (h2 : a.tmps[2]? = some v) (h3 : a.tmps[3]? = some x) : ∃ f : Nat → Value, a = fr96 f u v x := by
  have e := frame_lit 96 a h hd
  refine ⟨fun i => a.tmps.getD i undef, ?_⟩
  unfold fr96
  rw [← getD_of h1, ← getD_of h2, ← getD_of h3]
  exact e
theorem seq_cut {P : Program} {x y : Code} {Q : Exit → Act → World → Prop} {a : Act} {w : World} (I : Act → World → Prop) (h1 : ∀ K : Act → World → Prop, (∀ a w, I a w → K a w) → x.wp P (Exit.then K Q) a w) (h2 : ∀ a w, I a w → y.wp P Q a w) : (Code.seq x y).wp P Q a w := wp_seq (h1 _ h2)
theorem below_setRowW {B g : Nat} {w0 w : World} (hb : Below B w0 w) (hBg : B ≤ g) (cs : Array Value) : Below B w0 (w.setRow g cs) :=
  ⟨hb.os, hb.tape, hb.output, by simpa [World.setRow] using hb.size, fun k hk => (setRow_other _ _ _ _ (by omega)).trans (hb.block k hk)⟩
theorem crA_sizeW (c : Cr) (A : Option Addr) (cp : Nat) : (Tryz.prog.info? 26).map (·.size) = some (crA c A cp).size := infoCredW
theorem crA_allW (c : Cr) (A : Option Addr) (cp : Nat) : (crA c A cp).all (·.oneCell') = true := by
  simp [crA, Value.oneCell']
theorem alike_leaf (F : List Fp) (S : List ByteArray) : ∀ y ∈ alikeL F S, y.l = [] := by
  intro y hy
  unfold alikeL at hy
  obtain ⟨s, _, rfl⟩ := List.mem_map.1 hy
  rfl
theorem want_leafL (d : Dl) (mk ls mk2 : ByteArray) : ∀ x ∈ (wantC d mk ls mk2).needs, ∀ y ∈ x.r.l, y.l = [] := by
  intro x hx
  have key : x = ndOf 0 (alikeL (invF d) nmInv) ∨ x = ndOf 1 (alikeL (pkF d mk ls) nmPk) ∨ x = ndOf 2 (rules2 d mk2) ∨ x = ndOf 3 (rules3 d) ∨ x = ndOf 4 (alikeL (orF d d.frm) nmOr) := by
    have hx' : x ∈ needs3 d mk ls mk2 ++ (if d.ins.size = 0 then [] else [ndOf 3 (rules3 d)]) ++ [ndOf 4 (alikeL (orF d d.frm) nmOr)] := hx
    unfold needs3 at hx'
    by_cases h : d.ins.size = 0
    · rw [if_pos h] at hx'
      simp only [List.append_nil, List.cons_append, List.nil_append, List.mem_cons, List.not_mem_nil, or_false] at hx'
      rcases hx' with h | h | h | h <;> simp [h]
    · rw [if_neg h] at hx'
      simp only [List.cons_append, List.nil_append, List.mem_cons, List.not_mem_nil, or_false] at hx'
      rcases hx' with h | h | h | h | h <;> simp [h]
  rcases key with rfl | rfl | rfl | rfl | rfl
  · exact alike_leaf _ _
  · exact alike_leaf _ _
  · intro y hy
    have hy' : y ∈ rules2 d mk2 := hy
    unfold rules2 at hy'
    simp only [List.mem_cons, List.not_mem_nil, or_false] at hy'
    rcases hy' with rfl | rfl | rfl | rfl | rfl | rfl | rfl <;> rfl
  · intro y hy
    have hy' : y ∈ rules3 d := hy
    unfold rules3 at hy'
    simp only [List.mem_cons, List.not_mem_nil, or_false] at hy'
    rcases hy' with rfl | rfl | rfl | rfl <;> rfl
  · exact alike_leaf _ _
/-- a slot is set, and four others stand -/
theorem put_more {P : Program} {l : Array Oper} {Q : Exit → Act → World → Prop} {ts : List Nat} {a : Act} {W : World} (n i j k m d : Nat) {u v x z y : Value} (h0 : a.tmps.size = n) (hd : a.defers = []) (h1 : a.tmps[i]? = some u) (h2 : a.tmps[j]? = some v) (h3 : a.tmps[k]? = some x) (h4 : a.tmps[m]? = some z) (hdn : d < n) (hne : d ≠ i ∧ d ≠ j ∧ d ≠ k ∧ d ≠ m)
    (H : ∀ a' : Act, a'.tmps.size = n → a'.defers = [] → a'.tmps[i]? = some u → a'.tmps[j]? = some v → a'.tmps[k]? = some x → a'.tmps[m]? = some z → a'.tmps[d]? = some y → wpOps P l Q ts a' W) : wpOps P l Q ts (a.put (some d) y) W := by
  have ho : ∀ {q : Nat} {r : Value}, a.tmps[q]? = some r → d ≠ q → (a.put (some d) y).tmps[q]? = some r := fun {q r} h hq => by
    show (a.tmps.setIfInBounds d y)[q]? = _
    rw [Array.getElem?_setIfInBounds_ne hq]
    exact h
  refine H _ ?_ hd (ho h1 hne.1) (ho h2 hne.2.1) (ho h3 hne.2.2.1) (ho h4 hne.2.2.2) ?_
  · show (a.tmps.setIfInBounds d y).size = n
    rw [Array.size_setIfInBounds]
    exact h0
  · show (a.tmps.setIfInBounds d y)[d]? = _
    rw [Array.getElem?_setIfInBounds_self_of_lt (by rw [h0]; exact hdn)]
theorem NwA.heap {w w' : World} {base : Nat} {v : Value} {L : List Nd} {cs : List Value} (h : NwA w base v L cs) (hk : ∀ q, base ≤ q → w'.heap[q]? = w.heap[q]?) : NwA w' base v L cs := by
  refine ⟨⟨h.row.1, ?_⟩, fun i x hx => ?_⟩
  · rcases h.row.2 with h0 | ⟨g, cap, cur, h1, h2, h3, h4⟩
    · exact .inl h0
    · exact .inr ⟨g, cap, cur, h1, h2, (hk g h2).trans h3, h4⟩
  · obtain ⟨A, c, ds, e1, e2⟩ := h.each i x hx
    refine ⟨A, c, ds, e1, ⟨e2.row.1, ?_⟩, e2.each⟩
    rcases e2.row.2 with h0 | ⟨g, cap, cur, h1, h2, h3, h4⟩
    · exact .inl h0
    · exact .inr ⟨g, cap, cur, h1, h2, (hk g h2).trans h3, h4⟩
def wanR2 (d : Dl) (A : Option Addr) (c b base : Nat) : Nat → Value → World → Prop
  | 0, v, _ => v = .agg (dlA d A c)
  | 1, v, w => DocV w base 0 (invF d) v
  | 2, v, w => StrV w nmInv v
  | 3, v, w => RowV w base (alikeL (invF d) nmInv) v
  | 4, v, w => NeedV w base 0 (alikeL (invF d) nmInv) v
  | 5, v, _ => v = .agg (dlA d A c)
  | 6, v, w => ∃ mk ls : ByteArray, mk.size ≤ 3000000 ∧ DocV w base 1 (pkF d mk ls) v
  | 7, v, w => StrV w nmPk v
  | 8, v, w => ∃ mk ls : ByteArray, mk.size ≤ 3000000 ∧ RowV w base (alikeL (pkF d mk ls) nmPk) v
  | 9, v, w => ∃ mk ls : ByteArray, mk.size ≤ 3000000 ∧ NeedV w base 1 (alikeL (pkF d mk ls) nmPk) v
  | 10, v, _ => v = .pointer (some ⟨b, 3, none⟩)
  | 11, v, _ => v = .string d.car
  | 12, v, _ => v = .agg #[.int .i64 3, .int .i64 0, .string ⟨#[99, 97, 114, 114, 105, 101, 114]⟩, .string d.car, .int .i64 0, .slice none 0 0]
  | 13, v, _ => v = .pointer (some ⟨b, 1, none⟩)
  | 14, v, _ => v = .string d.sel
  | 15, v, _ => v = .agg #[.int .i64 3, .int .i64 0, .string ⟨#[115, 104, 105, 112, 112, 101, 114]⟩, .string d.sel, .int .i64 0, .slice none 0 0]
  | 16, v, _ => v = .pointer (some ⟨b, 7, none⟩)
  | 17, v, _ => v = .string d.frm
  | 18, v, _ => v = .agg #[.int .i64 3, .int .i64 0, .string ⟨#[102, 114, 111, 109]⟩, .string d.frm, .int .i64 0, .slice none 0 0]
  | 19, v, _ => v = .pointer (some ⟨b, 8, none⟩)
  | 20, v, _ => v = .string d.dst
  | 21, v, _ => v = .agg #[.int .i64 3, .int .i64 0, .string ⟨#[116, 111]⟩, .string d.dst, .int .i64 0, .slice none 0 0]
  | 22, v, _ => v = .pointer (some ⟨b, 11, none⟩)
  | 23, v, _ => v = .slice A d.box.length c
  | 24, v, _ => ∃ s : ByteArray, v = .string s ∧ s.size ≤ 3000000
  | 25, v, _ => ∃ s : ByteArray, s.size ≤ 3000000 ∧ v = .agg #[.int .i64 3, .int .i64 0, .string ⟨#[109, 97, 114, 107, 115]⟩, .string s, .int .i64 0, .slice none 0 0]
  | 26, v, _ => v = .agg #[.int .i64 3, .int .i64 0, .string ⟨#[99, 108, 101, 97, 110]⟩, .string ⟨#[121, 101, 115]⟩, .int .i64 0, .slice none 0 0]
  | 27, v, _ => v = .pointer (some ⟨b, 13, none⟩)
  | 28, v, _ => v = .int .i64 d.lat
  | 29, v, _ => v = .agg #[.int .i64 5, .int .i64 0, .string ⟨#[105, 115, 115, 117, 101, 100]⟩, .string ⟨#[]⟩, .int .i64 d.lat, .slice none 0 0]
  | 30, v, w => ∃ mk : ByteArray, mk.size ≤ 3000000 ∧ RowV w base (rules2 d mk) v
  | 31, v, w => ∃ mk : ByteArray, mk.size ≤ 3000000 ∧ NeedV w base 2 (rules2 d mk) v
  | 32, v, w => ∃ mk ls mk2 : ByteArray, mk.size ≤ 3000000 ∧ mk2.size ≤ 3000000 ∧ NeedsV w base (needs3 d mk ls mk2) v
  | 33, v, _ => v = .pointer (some ⟨(b + 2), 17, none⟩)
  | _, _, _ => True
theorem wanR2_kept {d : Dl} {A : Option Addr} {c b base : Nat} (i : Nat) (v : Value) (w w' : World) (hb : Below w.heap.size w w') (h : wanR2 d A c b base i v w) : wanR2 d A c b base i v w' := by
  match i, h with
  | 0, h => exact h
  | 1, h => exact h.below hb
  | 2, h => exact h.below hb
  | 3, h => exact h.below hb
  | 4, h => exact h.below hb
  | 5, h => exact h
  | 6, ⟨mk, ls, h1, h2⟩ => exact ⟨mk, ls, h1, h2.below hb⟩
  | 7, h => exact h.below hb
  | 8, ⟨mk, ls, h1, h2⟩ => exact ⟨mk, ls, h1, h2.below hb⟩
  | 9, ⟨mk, ls, h1, h2⟩ => exact ⟨mk, ls, h1, h2.below hb⟩
  | 10, h => exact h
  | 11, h => exact h
  | 12, h => exact h
  | 13, h => exact h
  | 14, h => exact h
  | 15, h => exact h
  | 16, h => exact h
  | 17, h => exact h
  | 18, h => exact h
  | 19, h => exact h
  | 20, h => exact h
  | 21, h => exact h
  | 22, h => exact h
  | 23, h => exact h
  | 24, h => exact h
  | 25, h => exact h
  | 26, h => exact h
  | 27, h => exact h
  | 28, h => exact h
  | 29, h => exact h
  | 30, ⟨mk, h1, h2⟩ => exact ⟨mk, h1, h2.below hb⟩
  | 31, ⟨mk, h1, h2⟩ => exact ⟨mk, h1, h2.below hb⟩
  | 32, ⟨mk, ls, mk2, h1, h2, h3⟩ => exact ⟨mk, ls, mk2, h1, h2, h3.below hb⟩
  | 33, h => exact h
  | n + 34, h => trivial
def wanR4 (d : Dl) (A : Option Addr) (c b base : Nat) (A' : Option Addr) (n cp : Nat) : Nat → Value → World → Prop
  | 0, v, _ => v = .pointer (some ⟨(b + 2), 17, none⟩)
  | 1, v, _ => v = .slice A' n cp
  | 2, v, _ => v = .pointer (some ⟨b, 7, none⟩)
  | 3, v, _ => v = .string d.frm
  | 4, v, _ => v = .agg #[.int .i64 3, .int .i64 0, .string ⟨#[102, 114, 111, 109]⟩, .string d.frm, .int .i64 0, .slice none 0 0]
  | 5, v, _ => v = .pointer (some ⟨b, 8, none⟩)
  | 6, v, _ => v = .string d.dst
  | 7, v, _ => v = .agg #[.int .i64 3, .int .i64 0, .string ⟨#[116, 111]⟩, .string d.dst, .int .i64 0, .slice none 0 0]
  | 8, v, _ => v = .pointer (some ⟨b, 9, none⟩)
  | 9, v, _ => v = .pointer (some ⟨b, 9, none⟩)
  | 10, v, _ => v = .string d.cur
  | 11, v, _ => v = .agg #[.int .i64 3, .int .i64 0, .string ⟨#[99, 117, 114, 114, 101, 110, 99, 121]⟩, .string d.cur, .int .i64 0, .slice none 0 0]
  | 12, v, _ => v = .pointer (some ⟨b, 9, none⟩)
  | 13, v, _ => v = .pointer (some ⟨b, 10, none⟩)
  | 14, v, _ => v = .int .i64 d.amt
  | 15, v, _ => v = .agg #[.int .i64 6, .int .i64 0, .string ⟨#[115, 117, 109]⟩, .string ⟨#[]⟩, .int .i64 d.amt, .slice none 0 0]
  | 16, v, w => RowV w base (rules3 d) v
  | 17, v, w => NeedV w base 3 (rules3 d) v
  | 18, v, w => ∃ (g : Nat) (A2 : Option Addr) (c2 : Nat), v = .slice (some ⟨g, 0, none⟩) 1 1 ∧ w.heap[g]? = some (.cells (ndA (ndOf 3 (rules3 d)) A2 c2) 35) ∧ g < w.heap.size ∧ ∃ ds, Ar w base (.slice A2 (rules3 d).length c2) (rules3 d) ds
  | _, _, _ => True
theorem wanR4_kept {d : Dl} {A : Option Addr} {c b base : Nat} {A' : Option Addr} {n cp : Nat} (i : Nat) (v : Value) (w w' : World) (hb : Below w.heap.size w w') (h : wanR4 d A c b base A' n cp i v w) : wanR4 d A c b base A' n cp i v w' := by
  match i, h with
  | 0, h => exact h
  | 1, h => exact h
  | 2, h => exact h
  | 3, h => exact h
  | 4, h => exact h
  | 5, h => exact h
  | 6, h => exact h
  | 7, h => exact h
  | 8, h => exact h
  | 9, h => exact h
  | 10, h => exact h
  | 11, h => exact h
  | 12, h => exact h
  | 13, h => exact h
  | 14, h => exact h
  | 15, h => exact h
  | 16, h => exact h.below hb
  | 17, h => exact h.below hb
  | 18, ⟨g, A2, c2, h1, h2, h3, ds, h4⟩ => exact ⟨g, A2, c2, h1, (hb.block g h3).trans h2, Nat.lt_of_lt_of_le h3 hb.size, ds, h4.below hb⟩
  | n + 19, h => trivial
def wanR5 (d : Dl) (A : Option Addr) (c b base : Nat) (A' : Option Addr) (n cp : Nat) : Nat → Value → World → Prop
  | 0, v, _ => v = .pointer (some ⟨(b + 2), 17, none⟩)
  | 1, v, _ => v = .slice A' n cp
  | 2, v, _ => v = .agg (dlA d A c)
  | 3, v, _ => v = .pointer (some ⟨b, 7, none⟩)
  | 4, v, _ => v = .string d.frm
  | 5, v, w => DocV w base 4 (orF d d.frm) v
  | 6, v, w => StrV w nmOr v
  | 7, v, w => RowV w base (alikeL (orF d d.frm) nmOr) v
  | 8, v, w => NeedV w base 4 (alikeL (orF d d.frm) nmOr) v
  | 9, v, w => ∃ (g : Nat) (A2 : Option Addr) (c2 : Nat), v = .slice (some ⟨g, 0, none⟩) 1 1 ∧ w.heap[g]? = some (.cells (ndA (ndOf 4 (alikeL (orF d d.frm) nmOr)) A2 c2) 35) ∧ g < w.heap.size ∧ ∃ ds, Ar w base (.slice A2 (alikeL (orF d d.frm) nmOr).length c2) (alikeL (orF d d.frm) nmOr) ds
  | _, _, _ => True
theorem wanR5_kept {d : Dl} {A : Option Addr} {c b base : Nat} {A' : Option Addr} {n cp : Nat} (i : Nat) (v : Value) (w w' : World) (hb : Below w.heap.size w w') (h : wanR5 d A c b base A' n cp i v w) : wanR5 d A c b base A' n cp i v w' := by
  match i, h with
  | 0, h => exact h
  | 1, h => exact h
  | 2, h => exact h
  | 3, h => exact h
  | 4, h => exact h
  | 5, h => exact h.below hb
  | 6, h => exact h.below hb
  | 7, h => exact h.below hb
  | 8, h => exact h.below hb
  | 9, ⟨g, A2, c2, h1, h2, h3, ds, h4⟩ => exact ⟨g, A2, c2, h1, (hb.block g h3).trans h2, Nat.lt_of_lt_of_le h3 hb.size, ds, h4.below hb⟩
  | n + 10, h => trivial
/-- what Wanted leaves -/
def WantP (w : World) (d : Dl) (e : Ending) (w' : World) : Prop := ∃ mk ls mk2 A' cp, mk.size ≤ 3000000 ∧ mk2.size ≤ 3000000 ∧ e = .returned (.agg (crA (wantC d mk ls mk2) A' cp)) ∧ Ns w' w'.heap.size A' (wantC d mk ls mk2).needs ∧ Below w.heap.size w w'
set_option maxHeartbeats 8000000 in
theorem wantedD_any (d : Dl) (A : Option Addr) (c Bn : Nat) (w : World) (hE : Ev w) (hX : Bxs w Bn A d.box) (hBn : Bn ≤ w.heap.size) (hnum : d.num.size ≤ 1048576) (hfew : d.box.length ≤ 20) (hmk : ∀ b ∈ d.box, b.m.size ≤ 60) (hok : BxsOk d.box)
    (ha0 : -9223372036854775808 ≤ d.amt) (ha1 : d.amt ≤ 9223372036854775807) (ht0 : -9223372036854775808 ≤ d.trm) (ht1 : d.trm ≤ 9223372036854775807) :
    Calls Tryz.prog 10 #[.agg (dlA d A c)] w fun e w' => WantP w d e w' := by
  obtain ⟨W0, hW0⟩ : ∃ W0, W0 = ((w.alloc (.cells (dlA d A c) 39)).alloc (.cells zcr 26)).alloc (.cells (crA (wantN d []) none 0) 26) := ⟨_, rfl⟩
  have hz : W0.heap.size = w.heap.size + 3 := by rw [hW0]; simp
  have hB0 : Below w.heap.size w W0 := by rw [hW0]; exact (((Below.refl _ _).alloc (Nat.le_refl _) _).alloc (by simp) _).alloc (by simp; omega) _
  have hS0 : WSt w d A c W0 [] none 0 := by
    refine ⟨?_, ?_, ?_, ⟨[], World.ownsRow_nil _ _ _ _, fun i x h => by simp at h⟩, hB0, by omega⟩
    · rw [hW0]
      rw [heap_keptW _ _ _ (by first | (simp; done) | (simp; omega)), heap_keptW _ _ _ (by first | (simp; done) | (simp; omega))]
      exact heap_alloc_new _ _
    · rw [hW0]
      rw [heap_keptW _ _ _ (by first | (simp; done) | (simp; omega))]
      have := heap_alloc_new (w.alloc (.cells (dlA d A c) 39)) (.cells zcr 26)
      simpa using this
    · rw [hW0]
      have := heap_alloc_new ((w.alloc (.cells (dlA d A c) 39)).alloc (.cells zcr 26)) (.cells (crA (wantN d []) none 0) 26)
      simpa using this
  have HS0 := Lib.hid hS0
  have HK : Hid (∀ W, Below (w.heap.size + 3) W0 W → ∀ i, i < 17 → W.cell? ⟨w.heap.size, i, none⟩ = (dlA d A c)[i]?) := Lib.hid (fun W hb i hi => (hb.cell (p := ⟨w.heap.size, i, none⟩) (by show w.heap.size < _; omega)).trans (hS0.cell i hi))
  have HD : Hid (∀ W, Below (w.heap.size + 3) W0 W → W.heap[w.heap.size]? = some (.cells (dlA d A c) 39)) := Lib.hid (fun W hb => (hb.block _ (by omega)).trans hS0.deal)
  have HE : Hid (∀ W, Below (w.heap.size + 3) W0 W → Ev W) := Lib.hid (fun W hb => hE.all (hB0.trans (hb.mono (by omega))))
  have HX : Hid (∀ W, Below (w.heap.size + 3) W0 W → Bxs W Bn A d.box) := Lib.hid (fun W hb => hX.kept ((hB0.trans (hb.mono (by omega))).mono hBn))
  have HZ := Lib.hid hz
  have HEv : Hid (∀ W, Below w.heap.size w W → Ev W) := Lib.hid (fun W hb => hE.all hb)
  have HB0 := Lib.hid hB0
  have HU : Hid (∀ W W', Below (w.heap.size + 3) W0 W → Below W.heap.size W W' → Below (w.heap.size + 3) W0 W') := Lib.hid (fun W W' h1 h2 => h1.trans (h2.mono (by have := h1.size; omega)))
  clear hE hX hB0 hS0
  unfold dlA crA wantN zcr at hW0
  simp only [List.length_nil] at hW0
  have hc0 : (dlA d A c)[0]? = some (.string d.num) := rfl
  have hc1 : (dlA d A c)[1]? = some (.string d.sel) := rfl
  have hc2 : (dlA d A c)[2]? = some (.string d.buy) := rfl
  have hc3 : (dlA d A c)[3]? = some (.string d.car) := rfl
  have hc4 : (dlA d A c)[4]? = some (.string d.iss) := rfl
  have hc5 : (dlA d A c)[5]? = some (.string d.hou) := rfl
  have hc6 : (dlA d A c)[6]? = some (.string d.ins) := rfl
  have hc7 : (dlA d A c)[7]? = some (.string d.frm) := rfl
  have hc8 : (dlA d A c)[8]? = some (.string d.dst) := rfl
  have hc9 : (dlA d A c)[9]? = some (.string d.cur) := rfl
  have hc10 : (dlA d A c)[10]? = some (.int .i64 d.amt) := rfl
  have hc11 : (dlA d A c)[11]? = some (.slice A d.box.length c) := rfl
  have hc12 : (dlA d A c)[12]? = some (.int .i64 d.trm) := rfl
  have hc13 : (dlA d A c)[13]? = some (.int .i64 d.lat) := rfl
  have hc14 : (dlA d A c)[14]? = some (.int .i64 d.exp) := rfl
  have hc15 : (dlA d A c)[15]? = some (.int .i64 d.ten) := rfl
  have hc16 : (dlA d A c)[16]? = some (.int .i64 d.dut) := rfl
  generalize hCP : WantP w d = CP
  unfold dlA
  go_enter Tryz.func10, Tryz.ntmps10
  go_wp2_with fail
  rw [← hW0]
  clear hW0
  refine wp_frame3 96 1 2 3 (u := .pointer (some ⟨w.heap.size, 0, none⟩)) (v := .pointer (some ⟨w.heap.size + 1, 0, none⟩)) (x := .pointer (some ⟨w.heap.size + 2, 0, none⟩)) rfl rfl rfl rfl rfl ?_
  intro a0 g0 gd g1 g2 g3
  refine wp_region_facts (Le := fun w w' => Below w.heap.size w w') (C := fun W => Below (w.heap.size + 3) W0 W) (R := wanR2 d A c w.heap.size (w.heap.size + 3)) 34 34 [] (by kernel_rfl) (by rw [g0]; kernel_rfl) (by kernel_rfl) rfl (Below.refl _ _).drew (fun W W' h1 h2 => HU.out W W' h2 h1) (fun i v w w' h => wanR2_kept i v w w' h) (steps_take ?_) ?_
  · simp only [List.take_succ_cons, List.take_zero, StepsFrom]
    refine ⟨fact_step ?_, fact_step ?_, fact_step ?_, fact_step ?_, fact_step ?_, fact_step ?_, fact_step ?_, fact_step ?_, fact_step ?_, fact_step ?_, fact_step ?_, fact_step ?_, fact_step ?_, fact_step ?_, fact_step ?_, fact_step ?_, fact_step ?_, fact_step ?_, fact_step ?_, fact_step ?_, fact_step ?_, fact_step ?_, fact_step ?_, fact_step ?_, fact_step ?_, fact_step ?_, fact_step ?_, fact_step ?_, fact_step ?_, fact_step ?_, fact_step ?_, fact_step ?_, fact_step ?_, fact_step ?_, trivial⟩
    all_goals (intro a W hs hc hd K hK)
    all_goals have t1 := hs.slot g1 (by kernel_rfl)
    all_goals have t3 := hs.slot g3 (by kernel_rfl)
    all_goals clear hs
    -- 0
    · refine wp_load_row 39 (.tmp 1) rfl w.heap.size (by simp [Act.eval, t1]) 39 (dlA d A c) (0, 0) _ (HD.out W hc) Tryz.underlying39 rfl infoDealW ?_
      exact hK _ _ (Below.refl _ _) rfl
    -- 1
    · obtain ⟨v0, s0, r0⟩ := hd { on := 0, ground := .data } (by simp) (by rfl) _ (by rfl)
      replace s0 := s0 _ rfl
      obtain rfl := r0
      have HC := Lib.hid (inv_any d A c W hnum hfew (HE.out W hc).gl (HE.out W hc).lt ha0 ha1 ht0 ht1)
      have hW := hc.size
      go_simp
      refine HC.out.mono ?_
      rintro e w' ⟨x, y, A', c', rfl, hP, hb'⟩
      exact hK _ _ hb' ⟨x, y, A', c', rfl, hP.down (by omega)⟩
    -- 2
    · go_simp
      exact hK _ _ ((Below.refl _ _).alloc (Nat.le_refl _) _) ⟨_, rfl, by simp, strAt_new W _ nmInv⟩
    -- 3
    · obtain ⟨v1, s1, r1⟩ := hd { on := 1, ground := .data } (by simp) (by rfl) _ (by rfl)
      replace s1 := s1 _ rfl
      obtain ⟨v2, s2, r2⟩ := hd { on := 2, ground := .data } (by simp) (by rfl) _ (by rfl)
      replace s2 := s2 _ rfl
      obtain ⟨x, y, A', c', rfl, hP⟩ := r1
      obtain ⟨g, rfl, hg, hS⟩ := r2
      have HC := Lib.hid (alike_any 0 x y (invF d) A' c' W.heap.size nmInv g 0 6 W hP.lts (Nat.le_refl _) (show 8 ≤ 1000 by omega) hS hg (show 6 ≤ 1000 by omega))
      have hW := hc.size
      go_simp
      refine HC.out.mono ?_
      rintro e w' ⟨A2, n2, c2, cs, rfl, rfl, hA, hb'⟩
      exact hK _ _ hb' ⟨A2, c2, cs, rfl, hA.base_le (by omega)⟩
    -- 4
    · obtain ⟨v3, s3, r3⟩ := hd { on := 3, ground := .data } (by simp) (by rfl) _ (by rfl)
      replace s3 := s3 _ rfl
      obtain ⟨A2, c2, cs, rfl, hA⟩ := r3
      have HC := Lib.hid (need_any 0 A2 (alikeL (invF d) nmInv).length c2 W)
      go_simp
      refine HC.out.mono ?_
      rintro e w' ⟨rfl, hb'⟩
      exact hK _ _ hb' ⟨A2, c2, cs, rfl, hA.below hb'⟩
    -- 5
    · refine wp_load_row 39 (.tmp 1) rfl w.heap.size (by simp [Act.eval, t1]) 39 (dlA d A c) (0, 0) _ (HD.out W hc) Tryz.underlying39 rfl infoDealW ?_
      exact hK _ _ (Below.refl _ _) rfl
    -- 6
    · obtain ⟨v5, s5, r5⟩ := hd { on := 5, ground := .data } (by simp) (by rfl) _ (by rfl)
      replace s5 := s5 _ rfl
      obtain rfl := r5
      have HC := Lib.hid (pk_any d A c Bn W hnum hfew (HE.out W hc) (HX.out W hc) (by have := hc.size; omega) hmk hok)
      have hW := hc.size
      go_simp
      refine HC.out.mono ?_
      rintro e w' ⟨mk, ls, hm, x, y, A', c', rfl, hP, hb'⟩
      exact hK _ _ hb' ⟨mk, ls, hm, x, y, A', c', rfl, hP.down (by omega)⟩
    -- 7
    · go_simp
      exact hK _ _ ((Below.refl _ _).alloc (Nat.le_refl _) _) ⟨_, rfl, by simp, strAt_new W _ nmPk⟩
    -- 8
    · obtain ⟨v6, s6, r6⟩ := hd { on := 6, ground := .data } (by simp) (by rfl) _ (by rfl)
      replace s6 := s6 _ rfl
      obtain ⟨v7, s7, r7⟩ := hd { on := 7, ground := .data } (by simp) (by rfl) _ (by rfl)
      replace s7 := s7 _ rfl
      obtain ⟨mk, ls, hm, x, y, A', c', rfl, hP⟩ := r6
      obtain ⟨g, rfl, hg, hS⟩ := r7
      have HC := Lib.hid (alike_any 1 x y (pkF d mk ls) A' c' W.heap.size nmPk g 0 2 W hP.lts (Nat.le_refl _) (show 6 ≤ 1000 by omega) hS hg (show 2 ≤ 1000 by omega))
      have hW := hc.size
      go_simp
      refine HC.out.mono ?_
      rintro e w' ⟨A2, n2, c2, cs, rfl, rfl, hA, hb'⟩
      exact hK _ _ hb' ⟨mk, ls, hm, A2, c2, cs, rfl, hA.base_le (by omega)⟩
    -- 9
    · obtain ⟨v8, s8, r8⟩ := hd { on := 8, ground := .data } (by simp) (by rfl) _ (by rfl)
      replace s8 := s8 _ rfl
      obtain ⟨mk, ls, hm, A2, c2, cs, rfl, hA⟩ := r8
      have HC := Lib.hid (need_any 1 A2 (alikeL (pkF d mk ls) nmPk).length c2 W)
      go_simp
      refine HC.out.mono ?_
      rintro e w' ⟨rfl, hb'⟩
      exact hK _ _ hb' ⟨mk, ls, hm, A2, c2, cs, rfl, hA.below hb'⟩
    -- 10
    · go_simp
      exact hK _ _ (Below.refl _ _) rfl
    -- 11
    · obtain ⟨v10, s10, r10⟩ := hd { on := 10, ground := .data } (by simp) (by rfl) _ (by rfl)
      replace s10 := s10 _ rfl
      obtain rfl := r10
      have k := (HK.out W hc 3 (by omega)).trans hc3
      go_simp
      exact hK _ _ (Below.refl _ _) rfl
    -- 12
    · obtain ⟨v11, s11, r11⟩ := hd { on := 11, ground := .data } (by simp) (by rfl) _ (by rfl)
      replace s11 := s11 _ rfl
      obtain rfl := r11
      have HC := Lib.hid (is_any ⟨#[99, 97, 114, 114, 105, 101, 114]⟩ d.car W)
      go_simp
      refine HC.out.mono ?_
      rintro e w' ⟨rfl, hb'⟩
      exact hK _ _ hb' rfl
    -- 13
    · go_simp
      exact hK _ _ (Below.refl _ _) rfl
    -- 14
    · obtain ⟨v13, s13, r13⟩ := hd { on := 13, ground := .data } (by simp) (by rfl) _ (by rfl)
      replace s13 := s13 _ rfl
      obtain rfl := r13
      have k := (HK.out W hc 1 (by omega)).trans hc1
      go_simp
      exact hK _ _ (Below.refl _ _) rfl
    -- 15
    · obtain ⟨v14, s14, r14⟩ := hd { on := 14, ground := .data } (by simp) (by rfl) _ (by rfl)
      replace s14 := s14 _ rfl
      obtain rfl := r14
      have HC := Lib.hid (is_any ⟨#[115, 104, 105, 112, 112, 101, 114]⟩ d.sel W)
      go_simp
      refine HC.out.mono ?_
      rintro e w' ⟨rfl, hb'⟩
      exact hK _ _ hb' rfl
    -- 16
    · go_simp
      exact hK _ _ (Below.refl _ _) rfl
    -- 17
    · obtain ⟨v16, s16, r16⟩ := hd { on := 16, ground := .data } (by simp) (by rfl) _ (by rfl)
      replace s16 := s16 _ rfl
      obtain rfl := r16
      have k := (HK.out W hc 7 (by omega)).trans hc7
      go_simp
      exact hK _ _ (Below.refl _ _) rfl
    -- 18
    · obtain ⟨v17, s17, r17⟩ := hd { on := 17, ground := .data } (by simp) (by rfl) _ (by rfl)
      replace s17 := s17 _ rfl
      obtain rfl := r17
      have HC := Lib.hid (is_any ⟨#[102, 114, 111, 109]⟩ d.frm W)
      go_simp
      refine HC.out.mono ?_
      rintro e w' ⟨rfl, hb'⟩
      exact hK _ _ hb' rfl
    -- 19
    · go_simp
      exact hK _ _ (Below.refl _ _) rfl
    -- 20
    · obtain ⟨v19, s19, r19⟩ := hd { on := 19, ground := .data } (by simp) (by rfl) _ (by rfl)
      replace s19 := s19 _ rfl
      obtain rfl := r19
      have k := (HK.out W hc 8 (by omega)).trans hc8
      go_simp
      exact hK _ _ (Below.refl _ _) rfl
    -- 21
    · obtain ⟨v20, s20, r20⟩ := hd { on := 20, ground := .data } (by simp) (by rfl) _ (by rfl)
      replace s20 := s20 _ rfl
      obtain rfl := r20
      have HC := Lib.hid (is_any ⟨#[116, 111]⟩ d.dst W)
      go_simp
      refine HC.out.mono ?_
      rintro e w' ⟨rfl, hb'⟩
      exact hK _ _ hb' rfl
    -- 22
    · go_simp
      exact hK _ _ (Below.refl _ _) rfl
    -- 23
    · obtain ⟨v22, s22, r22⟩ := hd { on := 22, ground := .data } (by simp) (by rfl) _ (by rfl)
      replace s22 := s22 _ rfl
      obtain rfl := r22
      have k := (HK.out W hc 11 (by omega)).trans hc11
      go_simp
      exact hK _ _ (Below.refl _ _) rfl
    -- 24
    · obtain ⟨v23, s23, r23⟩ := hd { on := 23, ground := .data } (by simp) (by rfl) _ (by rfl)
      replace s23 := s23 _ rfl
      obtain rfl := r23
      have HC := Lib.hid (marks_any d.box A c Bn W (HX.out W hc) (by have := hc.size; omega) hfew hmk)
      go_simp
      refine HC.out.mono ?_
      rintro e w' ⟨⟨s, rfl, hs⟩, hb'⟩
      exact hK _ _ hb' ⟨s, rfl, hs⟩
    -- 25
    · obtain ⟨v24, s24, r24⟩ := hd { on := 24, ground := .data } (by simp) (by rfl) _ (by rfl)
      replace s24 := s24 _ rfl
      obtain ⟨s, rfl, hs⟩ := r24
      have HC := Lib.hid (is_any ⟨#[109, 97, 114, 107, 115]⟩ s W)
      go_simp
      refine HC.out.mono ?_
      rintro e w' ⟨rfl, hb'⟩
      exact hK _ _ hb' ⟨s, hs, rfl⟩
    -- 26
    · have HC := Lib.hid (is_any ⟨#[99, 108, 101, 97, 110]⟩ ⟨#[121, 101, 115]⟩ W)
      go_simp
      refine HC.out.mono ?_
      rintro e w' ⟨rfl, hb'⟩
      exact hK _ _ hb' rfl
    -- 27
    · go_simp
      exact hK _ _ (Below.refl _ _) rfl
    -- 28
    · obtain ⟨v27, s27, r27⟩ := hd { on := 27, ground := .data } (by simp) (by rfl) _ (by rfl)
      replace s27 := s27 _ rfl
      obtain rfl := r27
      have k := (HK.out W hc 13 (by omega)).trans hc13
      go_simp
      exact hK _ _ (Below.refl _ _) rfl
    -- 29
    · obtain ⟨v28, s28, r28⟩ := hd { on := 28, ground := .data } (by simp) (by rfl) _ (by rfl)
      replace s28 := s28 _ rfl
      obtain rfl := r28
      go_simp
      exact hK _ _ (Below.refl _ _) rfl
    -- 30
    · obtain ⟨v12, s12, r12⟩ := hd { on := 12, ground := .data } (by simp) (by rfl) _ (by rfl)
      replace s12 := s12 _ rfl
      obtain ⟨v15, s15, r15⟩ := hd { on := 15, ground := .data } (by simp) (by rfl) _ (by rfl)
      replace s15 := s15 _ rfl
      obtain ⟨v18, s18, r18⟩ := hd { on := 18, ground := .data } (by simp) (by rfl) _ (by rfl)
      replace s18 := s18 _ rfl
      obtain ⟨v21, s21, r21⟩ := hd { on := 21, ground := .data } (by simp) (by rfl) _ (by rfl)
      replace s21 := s21 _ rfl
      obtain ⟨v25, s25, r25⟩ := hd { on := 25, ground := .data } (by simp) (by rfl) _ (by rfl)
      replace s25 := s25 _ rfl
      obtain ⟨v26, s26, r26⟩ := hd { on := 26, ground := .data } (by simp) (by rfl) _ (by rfl)
      replace s26 := s26 _ rfl
      obtain ⟨v29, s29, r29⟩ := hd { on := 29, ground := .data } (by simp) (by rfl) _ (by rfl)
      replace s29 := s29 _ rfl
      obtain rfl := r12
      obtain rfl := r15
      obtain rfl := r18
      obtain rfl := r21
      obtain ⟨mk, hm, rfl⟩ := r25
      obtain rfl := r26
      obtain rfl := r29
      have hW := hc.size
      have HA := Lib.hid (Ar.new W (w.heap.size + 3) (rules2 d mk) (by omega) (show 7 ≤ 1000 by omega))
      go_simp
      exact hK _ _ ((Below.refl _ _).alloc (Nat.le_refl _) _) ⟨mk, hm, _, _, _, rfl, HA.out⟩
    -- 31
    · obtain ⟨v30, s30, r30⟩ := hd { on := 30, ground := .data } (by simp) (by rfl) _ (by rfl)
      replace s30 := s30 _ rfl
      obtain ⟨mk, hm, A2, c2, cs, rfl, hA⟩ := r30
      have HC := Lib.hid (need_any 2 A2 (rules2 d mk).length c2 W)
      go_simp
      refine HC.out.mono ?_
      rintro e w' ⟨rfl, hb'⟩
      exact hK _ _ hb' ⟨mk, hm, A2, c2, cs, rfl, hA.below hb'⟩
    -- 32
    · obtain ⟨v4, s4, r4⟩ := hd { on := 4, ground := .data } (by simp) (by rfl) _ (by rfl)
      replace s4 := s4 _ rfl
      obtain ⟨v9, s9, r9⟩ := hd { on := 9, ground := .data } (by simp) (by rfl) _ (by rfl)
      replace s9 := s9 _ rfl
      obtain ⟨v31, s31, r31⟩ := hd { on := 31, ground := .data } (by simp) (by rfl) _ (by rfl)
      replace s31 := s31 _ rfl
      obtain ⟨A1, c1, cs1, rfl, hA1⟩ := r4
      obtain ⟨mk, ls, hm, A2, c2, cs2, rfl, hA2⟩ := r9
      obtain ⟨mk2, hm2, A3, c3, cs3, rfl, hA3⟩ := r31
      have hW := hc.size
      have HN := Lib.hid (NwA.new W (w.heap.size + 3) [(ndOf 0 (alikeL (invF d) nmInv), A1, c1), (ndOf 1 (alikeL (pkF d mk ls) nmPk), A2, c2), (ndOf 2 (rules2 d mk2), A3, c3)] (by omega) (show 3 ≤ 1000 by omega) (by
          intro t ht
          simp only [List.mem_cons, List.not_mem_nil, or_false] at ht
          rcases ht with rfl | rfl | rfl
          · exact ⟨_, hA1⟩
          · exact ⟨_, hA2⟩
          · exact ⟨_, hA3⟩))
      unfold ndA at *
      go_simp
      exact hK _ _ ((Below.refl _ _).alloc (Nat.le_refl _) _) ⟨mk, ls, mk2, hm, hm2, _, _, _, rfl, HN.out⟩
    -- 33
    · go_simp
      exact hK _ _ (Below.refl _ _) rfl
  · intro a W hs hc hf
    have hW := hc.size
    obtain ⟨v, sv, mk, ls, mk2, hm, hm2, A', cp, cs, rfl, hN⟩ := hf 32 _ rfl (by omega)
    replace sv := sv _ rfl
    obtain ⟨v33, sp, rfl⟩ := hf 33 _ rfl (by omega)
    replace sp := sp _ rfl
    have t1 := hs.slot g1 (by kernel_rfl)
    have t2 := hs.slot g2 (by kernel_rfl)
    have t3 := hs.slot g3 (by kernel_rfl)
    have hWS := WSt.store ((hc.block _ (by omega)).trans HS0.out.deal) ((hc.block _ (by omega)).trans HS0.out.res) ((hc.block _ (by omega)).trans HS0.out.cred) hN (HB0.out.trans (hc.mono (by omega))) (by omega)
    have q17 : W.cell? ⟨w.heap.size + 2, 17, none⟩ = some (.slice none 0 0) := by
      rw [cell_of_row _ _ _ _ _ _ ((hc.block _ (by omega)).trans HS0.out.cred)]
      rfl
    have qf : W.frozen? ⟨w.heap.size + 2, 17, none⟩ = false := frozen_of_row _ _ _ _ _ ((hc.block _ (by omega)).trans HS0.out.cred)
    have G0 := Lib.hid (hs.size.trans g0)
    have GD := Lib.hid (hs.defers.trans gd)
    clear g0 g1 g2 g3 gd
    have hM : WSt w d A c _ (needs3 d mk ls mk2) A' cp := hWS
    have HM := Lib.hid (show WSt w d A c _ (needs3 d mk ls mk2) A' cp from hWS)
    clear hM hWS hN hf hs hc HS0 HK HD HX HZ HU hW
    refine wpOps_more (by rfl) rfl ?_
    go_simp
    refine wpOps_done ?_
    generalize W.setCell ⟨w.heap.size + 2, 17, none⟩ (.slice A' (needs3 d mk ls mk2).length cp) = W1 at *
    clear q17 qf sv sp
    obtain ⟨f, rfl⟩ := frame96 a G0.out GD.out t1 t2 t3
    clear G0 GD t1 t2 t3
    rename_i Q' K' hk
    refine hk _ _ ?_
    clear hk
    refine seq_cut (fun a W => (∃ f, a = fr96 f (.pointer (some ⟨w.heap.size, 0, none⟩)) (.pointer (some ⟨w.heap.size + 1, 0, none⟩)) (.pointer (some ⟨w.heap.size + 2, 0, none⟩))) ∧ ∃ L A' cp, WSt w d A c W L A' cp ∧ L = needs3 d mk ls mk2 ++ (if d.ins.size = 0 then [] else [ndOf 3 (rules3 d)])) ?_ ?_
    · intro K3 hk3
      have k6 := HM.out.cell 6 (by omega)
      rw [hc6] at k6
      unfold fr96
      obtain ⟨L, hL⟩ : ∃ L, L = needs3 d mk ls mk2 := ⟨_, rfl⟩
      rw [← hL] at HM hk3
      have hlen : L.length ≤ 3 := by rw [hL]; exact Nat.le_refl 3
      have HL := Lib.hid hL
      clear hL
      by_cases hins : d.ins.size = 0
      · rw [if_pos hins, List.append_nil] at hk3
        have e0 : d.ins = ⟨#[]⟩ := ByteArray.ext (Array.eq_empty_of_size_eq_zero hins)
        rw [e0] at k6
        have HK3 := Lib.hid hk3
        clear hk3
        go_wp2_with fail
        exact HK3.out _ _ ⟨frame96 _ rfl rfl rfl rfl rfl, L, A', cp, HM.out, rfl⟩
      · rw [if_neg hins] at hk3
        have q9 : d.ins.toList.isEmpty = false := by
          rw [ByteArray.toList_eq]
          cases hl : d.ins.data.toList with
          | nil => exact absurd (by show d.ins.data.size = 0; rw [← Array.length_toList, hl]; rfl) hins
          | cons x l => rfl
        have HK3 := Lib.hid hk3
        clear hk3
        go_wp2_with fail
        clear k6 q9
        have hz1 : w.heap.size + 3 ≤ W1.heap.size := HM.out.size
        have HK : Hid (∀ W, Below W1.heap.size W1 W → ∀ i, i < 17 → W.cell? ⟨w.heap.size, i, none⟩ = (dlA d A c)[i]?) := Lib.hid (fun W hb i hi => (HM.out.below hb).cell i hi)
        have HD : Hid (∀ W, Below W1.heap.size W1 W → W.heap[w.heap.size]? = some (.cells (dlA d A c) 39)) := Lib.hid (fun W hb => (HM.out.below hb).deal)
        have HE : Hid (∀ W, Below W1.heap.size W1 W → Ev W) := Lib.hid (fun W hb => HEv.out W (HM.out.below hb).bel)
        have HQ : Hid (∀ W, Below W1.heap.size W1 W → W.cell? ⟨w.heap.size + 2, 17, none⟩ = some (.slice A' L.length cp)) := Lib.hid (fun W hb => by
          have h := (HM.out.below hb).cred
          rw [cell_of_row _ _ _ _ _ _ h]
          rfl)
        refine wp_frame3 96 1 2 3 (u := .pointer (some ⟨w.heap.size, 0, none⟩)) (v := .pointer (some ⟨w.heap.size + 1, 0, none⟩)) (x := .pointer (some ⟨w.heap.size + 2, 0, none⟩)) rfl rfl rfl rfl rfl ?_
        intro a0 g0 gd g1 g2 g3
        refine wp_region_facts (Le := fun w w' => Below w.heap.size w w') (C := fun W => Below W1.heap.size W1 W) (R := wanR4 d A c w.heap.size (w.heap.size + 3) A' L.length cp) 19 19 [20, 21] (by kernel_rfl) (by rw [g0]; kernel_rfl) (by kernel_rfl) rfl (Below.refl _ _).drew (fun W W' h1 h2 => h2.trans (h1.mono h2.size)) (fun i v w w' h => wanR4_kept i v w w' h) (steps_take ?_) ?_
        · simp only [List.take_succ_cons, List.take_zero, StepsFrom]
          refine ⟨fact_step ?_, fact_step ?_, fact_step ?_, fact_step ?_, fact_step ?_, fact_step ?_, fact_step ?_, fact_step ?_, fact_step ?_, fact_step ?_, fact_step ?_, fact_step ?_, fact_step ?_, fact_step ?_, fact_step ?_, fact_step ?_, fact_step ?_, fact_step ?_, fact_step ?_, trivial⟩
          all_goals (intro a W hs hc hd K hK)
          all_goals have t1 := hs.slot g1 (by kernel_rfl)
          all_goals have t3 := hs.slot g3 (by kernel_rfl)
          all_goals clear hs
          -- 0
          · go_simp
            exact hK _ _ (Below.refl _ _) rfl
          -- 1
          · obtain ⟨v0, s0, r0⟩ := hd { on := 0, ground := .data } (by simp) (by rfl) _ (by rfl)
            replace s0 := s0 _ rfl
            obtain rfl := r0
            have k := HQ.out W hc
            go_simp
            exact hK _ _ (Below.refl _ _) rfl
          -- 2
          · go_simp
            exact hK _ _ (Below.refl _ _) rfl
          -- 3
          · obtain ⟨v2, s2, r2⟩ := hd { on := 2, ground := .data } (by simp) (by rfl) _ (by rfl)
            replace s2 := s2 _ rfl
            obtain rfl := r2
            have k := (HK.out W hc 7 (by omega)).trans hc7
            go_simp
            exact hK _ _ (Below.refl _ _) rfl
          -- 4
          · obtain ⟨v3, s3, r3⟩ := hd { on := 3, ground := .data } (by simp) (by rfl) _ (by rfl)
            replace s3 := s3 _ rfl
            obtain rfl := r3
            have HC := Lib.hid (is_any ⟨#[102, 114, 111, 109]⟩ d.frm W)
            go_simp
            refine HC.out.mono ?_
            rintro e w' ⟨rfl, hb'⟩
            exact hK _ _ hb' rfl
          -- 5
          · go_simp
            exact hK _ _ (Below.refl _ _) rfl
          -- 6
          · obtain ⟨v5, s5, r5⟩ := hd { on := 5, ground := .data } (by simp) (by rfl) _ (by rfl)
            replace s5 := s5 _ rfl
            obtain rfl := r5
            have k := (HK.out W hc 8 (by omega)).trans hc8
            go_simp
            exact hK _ _ (Below.refl _ _) rfl
          -- 7
          · obtain ⟨v6, s6, r6⟩ := hd { on := 6, ground := .data } (by simp) (by rfl) _ (by rfl)
            replace s6 := s6 _ rfl
            obtain rfl := r6
            have HC := Lib.hid (is_any ⟨#[116, 111]⟩ d.dst W)
            go_simp
            refine HC.out.mono ?_
            rintro e w' ⟨rfl, hb'⟩
            exact hK _ _ hb' rfl
          -- 8
          · go_simp
            exact hK _ _ (Below.refl _ _) rfl
          -- 9
          · obtain ⟨v8, s8, r8⟩ := hd { on := 8, ground := .data } (by simp) (by rfl) _ (by rfl)
            replace s8 := s8 _ rfl
            obtain rfl := r8
            go_simp
            exact hK _ _ (Below.refl _ _) rfl
          -- 10
          · obtain ⟨v9, s9, r9⟩ := hd { on := 9, ground := .data } (by simp) (by rfl) _ (by rfl)
            replace s9 := s9 _ rfl
            obtain rfl := r9
            have k := (HK.out W hc 9 (by omega)).trans hc9
            go_simp
            exact hK _ _ (Below.refl _ _) rfl
          -- 11
          · obtain ⟨v10, s10, r10⟩ := hd { on := 10, ground := .data } (by simp) (by rfl) _ (by rfl)
            replace s10 := s10 _ rfl
            obtain rfl := r10
            have HC := Lib.hid (is_any ⟨#[99, 117, 114, 114, 101, 110, 99, 121]⟩ d.cur W)
            go_simp
            refine HC.out.mono ?_
            rintro e w' ⟨rfl, hb'⟩
            exact hK _ _ hb' rfl
          -- 12
          · go_simp
            exact hK _ _ (Below.refl _ _) rfl
          -- 13
          · obtain ⟨v12, s12, r12⟩ := hd { on := 12, ground := .data } (by simp) (by rfl) _ (by rfl)
            replace s12 := s12 _ rfl
            obtain rfl := r12
            go_simp
            exact hK _ _ (Below.refl _ _) rfl
          -- 14
          · obtain ⟨v13, s13, r13⟩ := hd { on := 13, ground := .data } (by simp) (by rfl) _ (by rfl)
            replace s13 := s13 _ rfl
            obtain rfl := r13
            have k := (HK.out W hc 10 (by omega)).trans hc10
            go_simp
            exact hK _ _ (Below.refl _ _) rfl
          -- 15
          · obtain ⟨v14, s14, r14⟩ := hd { on := 14, ground := .data } (by simp) (by rfl) _ (by rfl)
            replace s14 := s14 _ rfl
            obtain rfl := r14
            go_simp
            exact hK _ _ (Below.refl _ _) rfl
          -- 16
          · obtain ⟨v4, s4, r4⟩ := hd { on := 4, ground := .data } (by simp) (by rfl) _ (by rfl)
            replace s4 := s4 _ rfl
            obtain ⟨v7, s7, r7⟩ := hd { on := 7, ground := .data } (by simp) (by rfl) _ (by rfl)
            replace s7 := s7 _ rfl
            obtain ⟨v11, s11, r11⟩ := hd { on := 11, ground := .data } (by simp) (by rfl) _ (by rfl)
            replace s11 := s11 _ rfl
            obtain ⟨v15, s15, r15⟩ := hd { on := 15, ground := .data } (by simp) (by rfl) _ (by rfl)
            replace s15 := s15 _ rfl
            obtain rfl := r4
            obtain rfl := r7
            obtain rfl := r11
            obtain rfl := r15
            have hW := hc.size
            have HA := Lib.hid (Ar.new W (w.heap.size + 3) (rules3 d) (by omega) (show 4 ≤ 1000 by omega))
            go_simp
            exact hK _ _ ((Below.refl _ _).alloc (Nat.le_refl _) _) ⟨_, _, _, rfl, HA.out⟩
          -- 17
          · obtain ⟨v16, s16, r16⟩ := hd { on := 16, ground := .data } (by simp) (by rfl) _ (by rfl)
            replace s16 := s16 _ rfl
            obtain ⟨A2, c2, cs, rfl, hA⟩ := r16
            have HC := Lib.hid (need_any 3 A2 (rules3 d).length c2 W)
            go_simp
            refine HC.out.mono ?_
            rintro e w' ⟨rfl, hb'⟩
            exact hK _ _ hb' ⟨A2, c2, cs, rfl, hA.below hb'⟩
          -- 18
          · obtain ⟨v17, s17, r17⟩ := hd { on := 17, ground := .data } (by simp) (by rfl) _ (by rfl)
            replace s17 := s17 _ rfl
            obtain ⟨A2, c2, cs, rfl, hA⟩ := r17
            have hq := heap_alloc_new W (.cells (ndA (ndOf 3 (rules3 d)) A2 c2) 35)
            have hs : W.heap.size < (W.alloc (.cells (ndA (ndOf 3 (rules3 d)) A2 c2) 35)).heap.size := by simp
            have hA2 := hA.below ((Below.refl _ _).alloc (Nat.le_refl _) (.cells (ndA (ndOf 3 (rules3 d)) A2 c2) 35))
            have HH := Lib.hid (And.intro hq (And.intro hs hA2))
            clear hq hs hA2
            unfold ndA at *
            go_simp
            exact hK _ _ ((Below.refl _ _).alloc (Nat.le_refl _) _) ⟨W.heap.size, A2, c2, rfl, HH.out.1, HH.out.2.1, _, HH.out.2.2⟩
        · intro a W hs hc hf
          have hW := hc.size
          obtain ⟨vr, sr, rfl⟩ := hf 1 _ rfl (by omega)
          replace sr := sr _ rfl
          obtain ⟨vb, sb, gg, A2, c2, rfl, hnew, _, es, hA⟩ := hf 18 _ rfl (by omega)
          replace sb := sb _ rfl
          have t1 := hs.slot g1 (by kernel_rfl)
          have t2 := hs.slot g2 (by kernel_rfl)
          have t3 := hs.slot g3 (by kernel_rfl)
          obtain ⟨B', cq, W2, hrn, q17, qf, hM⟩ := (HM.out.below hc).more (ndOf 3 (rules3 d)) A2 c2 gg hnew hA (by omega)
          obtain ⟨M, hMe⟩ : ∃ M, M = L ++ [ndOf 3 (rules3 d)] := ⟨_, rfl⟩
          rw [← hMe] at hrn hM
          have HMe := Lib.hid hMe
          have G0 := Lib.hid (hs.size.trans g0)
          have GD := Lib.hid (hs.defers.trans gd)
          have HM' := Lib.hid hM
          clear hM hMe hA hnew hf hs hc HK HD HE HQ hW HM g0 gd g1 g2 g3
          refine wpOps_more (by rfl) rfl ?_
          refine Lib.wp_append_run _ (.tmp 63) (.tmp 80) 24 24 (by rfl) (.slice A' L.length cp) (.slice (some ⟨gg, 0, none⟩) 1 1) (by simp [Act.eval, sr]) (by simp [Act.eval, sb]) _ _ hrn ?_
          refine put_more 96 1 2 3 80 81 G0.out GD.out t1 t2 t3 sb (by omega) (by omega) ?_
          clear G0 GD t1 t2 t3 sr sb
          clear a
          intro a g0' gd' t1 t2 t3 sb sa
          have G0 := Lib.hid g0'
          have GD := Lib.hid gd'
          clear g0' gd'
          refine wpOps_more (by rfl) rfl ?_
          go_simp
          refine put_more 96 1 2 3 81 82 G0.out GD.out t1 t2 t3 sa (by omega) (by omega) ?_
          clear G0 GD t1 t2 t3 sb sa
          clear a
          intro a g0' gd' t1 t2 t3 sa sf
          have G0 := Lib.hid g0'
          have GD := Lib.hid gd'
          clear g0' gd'
          refine wpOps_more (by rfl) rfl ?_
          go_simp
          refine wpOps_done ?_
          generalize hW3 : W2.setCell ⟨w.heap.size + 2, 17, none⟩ (.slice B' M.length cq) = W3 at *
          clear q17 qf sa sf hrn hW3

          exact HK3.out _ _ ⟨frame96 _ G0.out GD.out t1 t2 t3, M, B', cq, HM'.out, HMe.out⟩
    · rintro a W1 ⟨⟨f, rfl⟩, L, A', cp, hM, hL⟩
      have hlen : L.length ≤ 4 := by
        rw [hL, List.length_append]
        split
        · show 3 + 0 ≤ 4
          omega
        · show 3 + 1 ≤ 4
          omega
      have HM := Lib.hid hM
      have HL := Lib.hid hL
      clear hM hL
      refine wp_seq ?_
      unfold fr96
      have hz1 : w.heap.size + 3 ≤ W1.heap.size := HM.out.size
      have HK : Hid (∀ W, Below W1.heap.size W1 W → ∀ i, i < 17 → W.cell? ⟨w.heap.size, i, none⟩ = (dlA d A c)[i]?) := Lib.hid (fun W hb i hi => (HM.out.below hb).cell i hi)
      have HD : Hid (∀ W, Below W1.heap.size W1 W → W.heap[w.heap.size]? = some (.cells (dlA d A c) 39)) := Lib.hid (fun W hb => (HM.out.below hb).deal)
      have HE : Hid (∀ W, Below W1.heap.size W1 W → Ev W) := Lib.hid (fun W hb => HEv.out W (HM.out.below hb).bel)
      have HQ : Hid (∀ W, Below W1.heap.size W1 W → W.cell? ⟨w.heap.size + 2, 17, none⟩ = some (.slice A' L.length cp)) := Lib.hid (fun W hb => by
        have h := (HM.out.below hb).cred
        rw [cell_of_row _ _ _ _ _ _ h]
        rfl)
      refine wp_frame3 96 1 2 3 (u := .pointer (some ⟨w.heap.size, 0, none⟩)) (v := .pointer (some ⟨w.heap.size + 1, 0, none⟩)) (x := .pointer (some ⟨w.heap.size + 2, 0, none⟩)) rfl rfl rfl rfl rfl ?_
      intro a0 g0 gd g1 g2 g3
      refine wp_region_facts (Le := fun w w' => Below w.heap.size w w') (C := fun W => Below W1.heap.size W1 W) (R := wanR5 d A c w.heap.size (w.heap.size + 3) A' L.length cp) 10 10 [11, 12] (by kernel_rfl) (by rw [g0]; kernel_rfl) (by kernel_rfl) rfl (Below.refl _ _).drew (fun W W' h1 h2 => h2.trans (h1.mono h2.size)) (fun i v w w' h => wanR5_kept i v w w' h) (steps_take ?_) ?_
      · simp only [List.take_succ_cons, List.take_zero, StepsFrom]
        refine ⟨fact_step ?_, fact_step ?_, fact_step ?_, fact_step ?_, fact_step ?_, fact_step ?_, fact_step ?_, fact_step ?_, fact_step ?_, fact_step ?_, trivial⟩
        all_goals (intro a W hs hc hd K hK)
        all_goals have t1 := hs.slot g1 (by kernel_rfl)
        all_goals have t3 := hs.slot g3 (by kernel_rfl)
        all_goals clear hs
        -- 0
        · go_simp
          exact hK _ _ (Below.refl _ _) rfl
        -- 1
        · obtain ⟨v0, s0, r0⟩ := hd { on := 0, ground := .data } (by simp) (by rfl) _ (by rfl)
          replace s0 := s0 _ rfl
          obtain rfl := r0
          have k := HQ.out W hc
          go_simp
          exact hK _ _ (Below.refl _ _) rfl
        -- 2
        · refine wp_load_row 39 (.tmp 1) rfl w.heap.size (by simp [Act.eval, t1]) 39 (dlA d A c) (0, 0) _ (HD.out W hc) Tryz.underlying39 rfl infoDealW ?_
          exact hK _ _ (Below.refl _ _) rfl
        -- 3
        · go_simp
          exact hK _ _ (Below.refl _ _) rfl
        -- 4
        · obtain ⟨v3, s3, r3⟩ := hd { on := 3, ground := .data } (by simp) (by rfl) _ (by rfl)
          replace s3 := s3 _ rfl
          obtain rfl := r3
          have k := (HK.out W hc 7 (by omega)).trans hc7
          go_simp
          exact hK _ _ (Below.refl _ _) rfl
        -- 5
        · obtain ⟨v2, s2, r2⟩ := hd { on := 2, ground := .data } (by simp) (by rfl) _ (by rfl)
          replace s2 := s2 _ rfl
          obtain ⟨v4, s4, r4⟩ := hd { on := 4, ground := .data } (by simp) (by rfl) _ (by rfl)
          replace s4 := s4 _ rfl
          obtain rfl := r2
          obtain rfl := r4
          have HC := Lib.hid (origin_any d A c d.frm W (HE.out W hc).gl hnum hfew (HE.out W hc).lt)
          have hW := hc.size
          go_simp
          refine HC.out.mono ?_
          rintro e w' ⟨x, y, A', c', rfl, hP, hb'⟩
          exact hK _ _ hb' ⟨x, y, A', c', rfl, hP.down (by omega)⟩
        -- 6
        · go_simp
          exact hK _ _ ((Below.refl _ _).alloc (Nat.le_refl _) _) ⟨_, rfl, by simp, strAt_new W _ nmOr⟩
        -- 7
        · obtain ⟨v5, s5, r5⟩ := hd { on := 5, ground := .data } (by simp) (by rfl) _ (by rfl)
          replace s5 := s5 _ rfl
          obtain ⟨v6, s6, r6⟩ := hd { on := 6, ground := .data } (by simp) (by rfl) _ (by rfl)
          replace s6 := s6 _ rfl
          obtain ⟨x, y, A', c', rfl, hP⟩ := r5
          obtain ⟨g, rfl, hg, hS⟩ := r6
          have HC := Lib.hid (alike_any 4 x y (orF d d.frm) A' c' W.heap.size nmOr g 0 2 W hP.lts (Nat.le_refl _) (show 3 ≤ 1000 by omega) hS hg (show 2 ≤ 1000 by omega))
          have hW := hc.size
          go_simp
          refine HC.out.mono ?_
          rintro e w' ⟨A2, n2, c2, cs, rfl, rfl, hA, hb'⟩
          exact hK _ _ hb' ⟨A2, c2, cs, rfl, hA.base_le (by omega)⟩
        -- 8
        · obtain ⟨v7, s7, r7⟩ := hd { on := 7, ground := .data } (by simp) (by rfl) _ (by rfl)
          replace s7 := s7 _ rfl
          obtain ⟨A2, c2, cs, rfl, hA⟩ := r7
          have HC := Lib.hid (need_any 4 A2 (alikeL (orF d d.frm) nmOr).length c2 W)
          go_simp
          refine HC.out.mono ?_
          rintro e w' ⟨rfl, hb'⟩
          exact hK _ _ hb' ⟨A2, c2, cs, rfl, hA.below hb'⟩
        -- 9
        · obtain ⟨v8, s8, r8⟩ := hd { on := 8, ground := .data } (by simp) (by rfl) _ (by rfl)
          replace s8 := s8 _ rfl
          obtain ⟨A2, c2, cs, rfl, hA⟩ := r8
          have hq := heap_alloc_new W (.cells (ndA (ndOf 4 (alikeL (orF d d.frm) nmOr)) A2 c2) 35)
          have hs : W.heap.size < (W.alloc (.cells (ndA (ndOf 4 (alikeL (orF d d.frm) nmOr)) A2 c2) 35)).heap.size := by simp
          have hA2 := hA.below ((Below.refl _ _).alloc (Nat.le_refl _) (.cells (ndA (ndOf 4 (alikeL (orF d d.frm) nmOr)) A2 c2) 35))
          have HH := Lib.hid (And.intro hq (And.intro hs hA2))
          clear hq hs hA2
          unfold ndA at *
          go_simp
          exact hK _ _ ((Below.refl _ _).alloc (Nat.le_refl _) _) ⟨W.heap.size, A2, c2, rfl, HH.out.1, HH.out.2.1, _, HH.out.2.2⟩
      · intro a W hs hc hf
        have hW := hc.size
        obtain ⟨vr, sr, rfl⟩ := hf 1 _ rfl (by omega)
        replace sr := sr _ rfl
        obtain ⟨vb, sb, gg, A2, c2, rfl, hnew, _, es, hA⟩ := hf 9 _ rfl (by omega)
        replace sb := sb _ rfl
        have t1 := hs.slot g1 (by kernel_rfl)
        have t2 := hs.slot g2 (by kernel_rfl)
        have t3 := hs.slot g3 (by kernel_rfl)
        obtain ⟨B', cq, W2, hrn, q17, qf, hM⟩ := (HM.out.below hc).more (ndOf 4 (alikeL (orF d d.frm) nmOr)) A2 c2 gg hnew hA (by omega)
        obtain ⟨M, hMe⟩ : ∃ M, M = L ++ [ndOf 4 (alikeL (orF d d.frm) nmOr)] := ⟨_, rfl⟩
        rw [← hMe] at hrn hM
        have HMe := Lib.hid hMe
        have G0 := Lib.hid (hs.size.trans g0)
        have GD := Lib.hid (hs.defers.trans gd)
        have HM' := Lib.hid hM
        clear hM hMe hA hnew hf hs hc HK HD HE HQ hW HM g0 gd g1 g2 g3
        refine wpOps_more (by rfl) rfl ?_
        refine Lib.wp_append_run _ (.tmp 84) (.tmp 92) 24 24 (by rfl) (.slice A' L.length cp) (.slice (some ⟨gg, 0, none⟩) 1 1) (by simp [Act.eval, sr]) (by simp [Act.eval, sb]) _ _ hrn ?_
        refine put_more 96 1 2 3 92 93 G0.out GD.out t1 t2 t3 sb (by omega) (by omega) ?_
        clear G0 GD t1 t2 t3 sr sb
        clear a
        intro a g0' gd' t1 t2 t3 sb sa
        have G0 := Lib.hid g0'
        have GD := Lib.hid gd'
        clear g0' gd'
        refine wpOps_more (by rfl) rfl ?_
        go_simp
        refine put_more 96 1 2 3 93 94 G0.out GD.out t1 t2 t3 sa (by omega) (by omega) ?_
        clear G0 GD t1 t2 t3 sb sa
        clear a
        intro a g0' gd' t1 t2 t3 sa sf
        have G0 := Lib.hid g0'
        have GD := Lib.hid gd'
        clear g0' gd'
        refine wpOps_more (by rfl) rfl ?_
        go_simp
        refine wpOps_done ?_
        generalize hW3 : W2.setCell ⟨w.heap.size + 2, 17, none⟩ (.slice B' M.length cq) = W3 at *
        clear q17 qf sa sf hrn hW3

        obtain ⟨f, rfl⟩ := frame96 a G0.out GD.out t1 t2 t3
        clear G0 GD t1 t2 t3
        have hC : wantN d M = wantC d mk ls mk2 := by
          rw [HMe.out, HL.out]
          rfl
        have hN : M = (wantC d mk ls mk2).needs := by rw [← hC]; rfl
        have HI := Lib.hid (fun C : Cr => crA_sizeW C)
        have hfin : ∀ W' : World, W' = W3.setRow (w.heap.size + 1) (crA (wantC d mk ls mk2) B' cq) → W'.heap[w.heap.size + 1]? = some (.cells (crA (wantC d mk ls mk2) B' cq) 26 (0, 0)) ∧ CP (.returned (.agg (crA (wantC d mk ls mk2) B' cq))) W' := by
          rintro W' rfl
          refine ⟨?_, ?_⟩
          · simp [World.setRow, Array.getElem?_modify, HM'.out.res]
          · rw [← hCP]
            obtain ⟨cs, hr⟩ := HM'.out.row
            have hr2 := hr.heap (w' := W3.setRow (w.heap.size + 1) (crA (wantC d mk ls mk2) B' cq)) (fun q hq => setRow_other _ _ _ _ (by omega))
            refine ⟨mk, ls, mk2, B', cq, hm, hm2, rfl, ?_, below_setRowW HM'.out.bel (by omega) _⟩
            rw [hN] at hr2
            exact hr2.ns (fun x hx y hy => (want_leafL d mk ls mk2 x hx y hy))
        have HF := Lib.hid (hfin _ rfl)
        have HCr : Hid (W3.heap[w.heap.size + 2]? = some (.cells (crA (wantC d mk ls mk2) B' cq) 26 (0, 0))) := Lib.hid (by rw [← hC]; exact HM'.out.cred)
        have HRs := Lib.hid HM'.out.res
        clear hfin hC hN hCP HM' HL HMe
        generalize wantC d mk ls mk2 = C at *
        refine (id ?_ : Code.wp _ _ _ _ _)
        unfold fr96
        go_wp2_with (first
          | (refine wpList_load_row rfl 26 (.tmp 3) rfl (w.heap.size + 2) rfl 26 (crA C B' cq) (0, 0) _ HCr.out Tryz.underlying26 rfl (HI.out C _ _) ?_)
          | (refine wpList_store_row rfl 26 (.tmp 2) (.tmp 95) rfl (w.heap.size + 1) (crA C B' cq) rfl rfl 26 _ HRs.out (HI.out C _ _) rfl (crA_allW C _ _) ?_)
          | fail)
        refine bodyPost_ret (results_cell_row rfl _ _ (w.heap.size + 1) 26 (crA C B' cq) (0, 0) _ rfl HF.out.1 Tryz.underlying26 rfl (HI.out C _ _)) rfl ?_
        exact HF.out.2
end Go.Proofs.YtbkffdfboloogaaGreatDoor
