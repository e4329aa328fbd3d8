/- A register's memory: its map of pointers, its entries by their blocks. slices.Clone of texts; register.copyBill. -/
import Derived.Test.YtdinloecgaapaaaGreatDoorMGMap
import Derived.Test.YtdinloecgaapaaaGreatDoorMASame
import Derived.Laws.AppendOwn
import Derived.Below
import Derived.Test.YtdinloecgaapaaaGreatDoorMRShelf
import Derived.Laws.Rows
import Derived.Laws.Tables
namespace Go.Proofs.YtdinloecgaapaaaGreatDoor
open Go.RowKit Go.Maps Go.Lib
set_option linter.unusedVariables false
set_option maxRecDepth 100000

/-- pointers to whole blocks, as elements of a map -/
def ptV : Option Nat → Value
  | none => .pointer none
  | some e => .pointer (some ⟨e, 0, none⟩)
def ptD : Option Nat → DataW Unit
  | none => .nil
  | some e => .lit (.int .i64 (e : Int))
def ptR : Value → Option (DataW Unit × List MemPlace)
  | .pointer none => some (.nil, [])
  | .pointer (some ⟨e, 0, none⟩) => some (.lit (.int .i64 (e : Int)), [])
  | _ => none
def ptE : ElC (Option Nat) where
  mk := ptV
  dat := ptD
  ok _ := True
  R := ptR
  of v _ := by cases v <;> rfl
  inv x z h := by
    unfold ptR at h
    split at h
    · cases h; exact ⟨none, rfl, rfl, trivial⟩
    · cases h; exact ⟨some _, rfl, rfl, trivial⟩
    · cases h
  inj u v h := by
    cases u <;> cases v <;> simp [ptD] at h ⊢
    omega
noncomputable def nmC : KeyC Tryz.prog 9 ByteArray := strC Tryz.underlying9
/-- an original -/
structure Or where
  s : Int
  h : ByteArray
  A : Option Addr
  n : Nat
  c : Nat
/-- an entry: a bill, its state, its originals -/
structure En where
  nu : ByteArray
  ca : ByteArray
  sh : ByteArray
  fr : ByteArray
  to : ByteArray
  A : Option Addr
  l : List ByteArray
  c : Nat
  PA : Option Addr
  p : List ByteArray
  pc : Nat
  is : Int
  cl : Bool
  s : Int
  o : Nat → Or
def blA (x : En) : Array Value := #[.string x.nu, .string x.ca, .string x.sh, .string x.fr, .string x.to, .slice x.A x.l.length x.c, .slice x.PA x.p.length x.pc, .int .i64 x.is, .bool x.cl]
def enA (x : En) : Array Value := #[.string x.nu, .string x.ca, .string x.sh, .string x.fr, .string x.to, .slice x.A x.l.length x.c, .slice x.PA x.p.length x.pc, .int .i64 x.is, .bool x.cl, .int .i64 x.s,
  .int .i64 (x.o 0).s, .string (x.o 0).h, .slice (x.o 0).A (x.o 0).n (x.o 0).c, .int .i64 (x.o 1).s, .string (x.o 1).h, .slice (x.o 1).A (x.o 1).n (x.o 1).c, .int .i64 (x.o 2).s, .string (x.o 2).h, .slice (x.o 2).A (x.o 2).n (x.o 2).c]
/-- texts in a block of their own type -/
def Sr (w : World) (A : Option Addr) (L : List ByteArray) : Prop := 0 < L.length → ∃ g cs, A = some ⟨g, 0, none⟩ ∧ w.heap[g]? = some (.cells cs 9 (0, 0)) ∧ ∀ (i : Nat) x, L[i]? = some x → cs[i]? = some (.string x)
/-- a chain of endorsements: an own row, the days are numbers -/
def ChOk (w : World) (base : Nat) (o : Or) : Prop := ∃ cs, w.ownsRow base 167 4 (.slice o.A o.n o.c) o.n cs ∧ ∀ i, i < o.n → ∃ d, cs[4 * i + 3]? = some (.int .i64 d)
def Or.blk (o : Or) : Option Nat := (Value.slice o.A o.n o.c).ownBlock
structure EnAt (w : World) (base e : Nat) (x : En) : Prop where
  lo : base ≤ e
  obj : w.heap[e]? = some (.cells (enA x) 132 (0, 0))
  box : Sr w x.A x.l
  par : Sr w x.PA x.p
  ch : ∀ i, i < 3 → ChOk w base (x.o i)
/-- what an entry's parts are at the most -/
structure Fit (N : Nat) (x : En) : Prop where
  l : x.l.length ≤ 64
  b : ∀ t ∈ x.l, t.size ≤ 16
  p : x.p.length ≤ 64
  o : ∀ i, i < 3 → (x.o i).n ≤ N
  h : ∀ i, i < 3 → (x.o i).h.size ≤ 100000000
structure RgS (w : World) (base r : Nat) (ca : ByteArray) (N b n : Nat) (G : ByteArray → Option (Option Nat)) (S : Nat → Option En) : Prop where
  reg : w.heap[r]? = some (.cells #[.string ca, .map (some b)] 115 (0, 0))
  rlo : base ≤ r
  blo : base ≤ b
  map : Mp nmC ptE w b n G
  num : n ≤ N
  ent : ∀ k v, G k = some v → k.size ≤ 16 ∧ ∃ e x, v = some e ∧ S e = some x
  at_ : ∀ e x, S e = some x → EnAt w base e x
  dj : ∀ e e' x x' i i' g, S e = some x → S e' = some x' → i < 3 → i' < 3 → (x.o i).blk = some g → (x'.o i').blk = some g → e = e' ∧ i = i'
  fit : ∀ e x, S e = some x → Fit N x
section
variable {w w' : World} {base r N b n e : Nat} {ca : ByteArray} {G : ByteArray → Option (Option Nat)} {S : Nat → Option En} {x : En} {A : Option Addr} {L : List ByteArray} {o : Or}
theorem Sr.keep (h : Sr w A L) (hk : ∀ (g : Nat) (cs : Array Value), w.heap[g]? = some (Obj.cells cs 9 (0, 0)) → w'.heap[g]? = some (.cells cs 9 (0, 0))) : Sr w' A L := fun hl => by
  obtain ⟨g, cs, e, h1, h2⟩ := h hl
  exact ⟨g, cs, e, hk g cs h1, h2⟩
theorem lt_of_some {w : World} {g : Nat} {o : Obj} (h : w.heap[g]? = some o) : g < w.heap.size := (Array.getElem?_eq_some_iff.1 h).1
theorem keep_of_below (hb : Below w.heap.size w w') {g : Nat} {o : Obj} (h : w.heap[g]? = some o) : w'.heap[g]? = some o := (hb.block g (lt_of_some h)).trans h
theorem Sr.below (h : Sr w A L) (hb : Below w.heap.size w w') : Sr w' A L := h.keep fun g cs hg => keep_of_below hb hg
theorem Sr.rs (h : Sr w A L) : Rs w w.heap.size A L := fun hl => by
  obtain ⟨g, cs, e, h1, h2⟩ := h hl
  refine ⟨g, 0, e, lt_of_some h1, fun i x hx => ?_⟩
  simp only [World.cell?, h1, Nat.zero_add]
  exact h2 i x hx
theorem ChOk.keep (h : ChOk w base o) (hk : ∀ g, o.blk = some g → w'.heap[g]? = w.heap[g]?) : ChOk w' base o := by
  obtain ⟨cs, ⟨h1, h2⟩, h3⟩ := h
  refine ⟨cs, ⟨h1, ?_⟩, h3⟩
  rcases h2 with h2 | ⟨g, cap, cur, e, hb, hg, h4⟩
  · exact .inl h2
  · refine .inr ⟨g, cap, cur, e, hb, ?_, h4⟩
    rw [hk g (by unfold Or.blk; rw [e]; rfl)]
    exact hg
theorem ChOk.lt (h : ChOk w base o) {g : Nat} (hg : o.blk = some g) : base ≤ g ∧ g < w.heap.size := by
  obtain ⟨cs, ⟨h1, h2⟩, h3⟩ := h
  unfold Or.blk at hg
  rcases h2 with ⟨e, _⟩ | ⟨g', cap, cur, e, hb, hg', h4⟩
  · rw [e] at hg; simp [Value.ownBlock] at hg
  · rw [e] at hg
    simp [Value.ownBlock] at hg
    subst hg
    exact ⟨hb, lt_of_some hg'⟩
theorem ChOk.below (h : ChOk w base o) (hb : Below w.heap.size w w') : ChOk w' base o := h.keep fun g hg => hb.block g (h.lt hg).2
theorem EnAt.below (h : EnAt w base e x) (hb : Below w.heap.size w w') : EnAt w' base e x := ⟨h.lo, keep_of_below hb h.obj, h.box.below hb, h.par.below hb, fun i hi => (h.ch i hi).below hb⟩
theorem RgS.below (h : RgS w base r ca N b n G S) (hb : Below w.heap.size w w') : RgS w' base r ca N b n G S :=
  ⟨keep_of_below hb h.reg, h.rlo, h.blo, h.map.below hb h.map.lt, h.num, h.ent, fun e x hx => (h.at_ e x hx).below hb, h.dj, h.fit⟩
theorem RgS.more (h : RgS w base r ca N b n G S) {M : Nat} (hM : N ≤ M) : RgS w base r ca M b n G S :=
  ⟨h.reg, h.rlo, h.blo, h.map, Nat.le_trans h.num hM, h.ent, h.at_, h.dj, fun e x hx => ⟨(h.fit e x hx).l, (h.fit e x hx).b, (h.fit e x hx).p, fun i hi => Nat.le_trans ((h.fit e x hx).o i hi) hM, (h.fit e x hx).h⟩⟩
theorem RgS.cell (h : RgS w base r ca N b n G S) : w.cell? ⟨r, 0, none⟩ = some (.string ca) ∧ w.cell? ⟨r, 1, none⟩ = some (.map (some b)) := by
  constructor <;> simp [World.cell?, h.reg]
theorem EnAt.cell (h : EnAt w base e x) (j : Nat) : w.cell? ⟨e, j, none⟩ = (enA x)[j]? := by
  simp [World.cell?, h.obj]
theorem EnAt.ne {t : TypeId} {cs : Array Value} {fz : Nat × Nat} {q : Nat} (h : EnAt w base e x) (hq : w.heap[q]? = some (.cells cs t fz)) (ht : t ≠ 132) : q ≠ e := by
  rintro rfl
  rw [h.obj] at hq
  injection hq with hq
  injection hq with _ h2 _
  exact ht h2.symm
/-- the state of things at the entry of a register's function: some register -/
def Reg (w : World) (base r : Nat) (ca : ByteArray) (N : Nat) : Prop := ∃ b n G S, RgS w base r ca N b n G S
theorem Reg.below (h : Reg w base r ca N) (hb : Below w.heap.size w w') : Reg w' base r ca N := by
  obtain ⟨b, n, G, S, h⟩ := h
  exact ⟨b, n, G, S, h.below hb⟩
theorem Reg.more (h : Reg w base r ca N) {M : Nat} (hM : N ≤ M) : Reg w base r ca M := by
  obtain ⟨b, n, G, S, h⟩ := h
  exact ⟨b, n, G, S, h.more hM⟩
end
/-- one entry more, or an entry anew -/
def putE (S : Nat → Option En) (e : Nat) (x : En) : Nat → Option En := fun q => if q = e then some x else S q
theorem putE_same (S : Nat → Option En) (e : Nat) (x : En) : putE S e x e = some x := by simp [putE]
theorem putE_other {S : Nat → Option En} {e q : Nat} (x : En) (h : q ≠ e) : putE S e x q = S q := by simp [putE, h]
/-- an entry's state, and its originals' states and holders, are written: everything else stands -/
theorem RgS.upd {w w' : World} {base r N b n e : Nat} {ca : ByteArray} {G : ByteArray → Option (Option Nat)} {S : Nat → Option En} {x x' : En} (h : RgS w base r ca N b n G S) (he : S e = some x)
    (hA : x'.A = x.A) (hl : x'.l = x.l) (hPA : x'.PA = x.PA) (hp : x'.p = x.p) (ho : ∀ i, i < 3 → (x'.o i).A = (x.o i).A ∧ (x'.o i).n = (x.o i).n ∧ (x'.o i).c = (x.o i).c ∧ ((x'.o i).h = (x.o i).h ∨ (x'.o i).h.size ≤ 100000000))
    (hobj : w'.heap[e]? = some (.cells (enA x') 132 (0, 0))) (hoth : ∀ q, q ≠ e → w'.heap[q]? = w.heap[q]?) : RgS w' base r ca N b n G (putE S e x') := by
  have hat := h.at_ e x he
  have hstr : ∀ (g : Nat) (cs : Array Value), w.heap[g]? = some (.cells cs 9 (0, 0)) → w'.heap[g]? = some (.cells cs 9 (0, 0)) := fun g cs hg => (hoth g (hat.ne hg (by decide))).trans hg
  have hrn : r ≠ e := hat.ne h.reg (by decide)
  have hbn : b ≠ e := fun eq => by
    obtain ⟨es, ck, hm⟩ := h.map.map?
    rw [eq, hat.obj] at hm
    cases hm
  have hch : ∀ o : Or, ChOk w base o → ChOk w' base o := fun o hc => hc.keep fun g hg => hoth g (by
    obtain ⟨cs, ⟨h1, h2⟩, h3⟩ := hc
    unfold Or.blk at hg
    rcases h2 with ⟨e1, _⟩ | ⟨g', cap, cur, e1, hb, hg', h4⟩
    · rw [e1] at hg; simp [Value.ownBlock] at hg
    · rw [e1] at hg
      simp [Value.ownBlock] at hg
      subst hg
      exact hat.ne hg' (by decide))
  have hor : ∀ i, i < 3 → (x'.o i).blk = (x.o i).blk := fun i hi => by
    unfold Or.blk
    obtain ⟨a1, a2, a3, _⟩ := ho i hi
    rw [a1, a2, a3]
  have hchi : ∀ i, i < 3 → ChOk w' base (x'.o i) := fun i hi => by
    obtain ⟨a1, a2, a3, _⟩ := ho i hi
    have := hch _ (hat.ch i hi)
    unfold ChOk at this ⊢
    rw [a1, a2, a3]
    exact this
  have hmap : Mp nmC ptE w' b n G := by
    obtain ⟨D, ⟨es, ck, h2, h3⟩, hR⟩ := h.map
    exact ⟨D, ⟨es, ck, (hoth b hbn).trans h2, h3⟩, hR⟩
  refine ⟨(hoth r hrn).trans h.reg, h.rlo, h.blo, hmap, h.num, fun k v hk => ?_, fun q y hq => ?_, fun q q' y y' i i' g hq hq' hi hi' hg hg' => ?_, fun q y hq => ?_⟩
  · obtain ⟨hk16, q, y, hv, hq⟩ := h.ent k v hk
    by_cases hqe : q = e
    · subst hqe
      exact ⟨hk16, q, x', hv, putE_same _ _ _⟩
    · exact ⟨hk16, q, y, hv, by rw [putE_other _ hqe]; exact hq⟩
  · by_cases hqe : q = e
    · subst hqe
      rw [putE_same] at hq
      cases hq
      exact ⟨hat.lo, hobj, by rw [hA, hl]; exact hat.box.keep hstr, by rw [hPA, hp]; exact hat.par.keep hstr, hchi⟩
    · rw [putE_other _ hqe] at hq
      have := h.at_ q y hq
      exact ⟨this.lo, (hoth q hqe).trans this.obj, this.box.keep hstr, this.par.keep hstr, fun i hi => hch _ (this.ch i hi)⟩
  · have key : ∀ q y i, i < 3 → putE S e x' q = some y → ∃ z, S q = some z ∧ (y.o i).blk = (z.o i).blk := fun q y i hi hq => by
      by_cases hqe : q = e
      · subst hqe
        rw [putE_same] at hq
        cases hq
        exact ⟨x, he, hor i hi⟩
      · rw [putE_other _ hqe] at hq
        exact ⟨y, hq, rfl⟩
    obtain ⟨z, k1, k2⟩ := key q y i hi hq
    obtain ⟨z', k1', k2'⟩ := key q' y' i' hi' hq'
    exact h.dj q q' z z' i i' g k1 k1' hi hi' (k2 ▸ hg) (k2' ▸ hg')
  · by_cases hqe : q = e
    · subst hqe
      rw [putE_same] at hq
      cases hq
      have f := h.fit q x he
      exact ⟨by rw [hl]; exact f.l, by rw [hl]; exact f.b, by rw [hp]; exact f.p, fun i hi => by rw [(ho i hi).2.1]; exact f.o i hi, fun i hi => by
        rcases (ho i hi).2.2.2 with e | e
        · rw [e]; exact f.h i hi
        · exact e⟩
    · rw [putE_other _ hqe] at hq
      exact h.fit q y hq
end Go.Proofs.YtdinloecgaapaaaGreatDoor
namespace Go.Proofs.YtdinloecgaapaaaGreatDoor
open Go.RowKit Go.Maps Go.Lib
set_option linter.unusedVariables false
set_option maxRecDepth 100000

/-- a slice of the same texts comes back, in a block of its own -/
def ClP (L : List ByteArray) (w : World) (e : Ending) (w' : World) : Prop := ∃ A' c', e = .returned (.slice A' L.length c') ∧ Sr w' A' L ∧ Below w.heap.size w w'
theorem sr_of_row {w : World} {base n : Nat} {v : Value} {L : List ByteArray} (hn : n = L.length) (h : w.ownsRow base 9 1 v n (L.map Value.string)) : ∃ A' c', v = .slice A' L.length c' ∧ Sr w A' L := by
  subst hn
  obtain ⟨h1, h2⟩ := h
  rcases h2 with ⟨e, h0⟩ | ⟨g, cap, cur, e, _, hg, _, _, hs, ht⟩
  · exact ⟨none, 0, by rw [e, h0], fun hl => by omega⟩
  · refine ⟨some ⟨g, 0, none⟩, cap, e, fun hl => ⟨g, cur, rfl, hg, fun i x hx => ?_⟩⟩
    have hi := (List.getElem?_eq_some_iff.1 hx).1
    have : (cur.toList.take (L.length * 1))[i]? = (L.map Value.string)[i]? := by rw [ht]
    rw [List.getElem?_take_of_lt (by omega), List.getElem?_map, hx] at this
    rw [← Array.getElem?_toList]
    exact this
theorem clone_r (A : Option Addr) (c : Nat) (L : List ByteArray) (w : World) (hR : Rs w w.heap.size A L) (hl : L.length ≤ 1000) :
    Calls Tryz.prog 88 #[.slice A L.length c] w fun e w' => ClP L w e w' := by
  by_cases h0 : L.length = 0
  · have hL : L = [] := List.length_eq_zero_iff.1 h0
    subst hL
    cases A with
    | none =>
      refine (Tryz.slices_Clone_string_nil 0 c w).mono ?_
      rintro e w' ⟨rfl, rfl⟩
      exact ⟨none, 0, rfl, fun h => absurd h (by simp), Below.refl _ _⟩
    | some a =>
      refine (Tryz.slices_Clone_string_zero a c w).mono ?_
      rintro e w' ⟨v, rfl, hr, _, hb⟩
      obtain ⟨A', c', rfl, hs⟩ := sr_of_row (L := []) rfl hr
      exact ⟨A', c', rfl, hs, hb⟩
  · obtain ⟨g, off, rfl, hg, hc⟩ := hR (by omega)
    refine (Tryz.slices_Clone_string g off L.length c L w (Nat.le_refl _) (by omega) (fun j hj => ?_)).mono ?_
    · rw [hc j _ (List.getElem?_eq_getElem hj)]
      simp [List.getD, List.getElem?_eq_getElem hj]
    · rintro e w' ⟨v, rfl, hr, _, hb⟩
      rw [List.take_length] at hr
      obtain ⟨A', c', rfl, hs⟩ := sr_of_row rfl hr
      exact ⟨A', c', rfl, hs, hb⟩
def En.with (x : En) (A : Option Addr) (c : Nat) (PA : Option Addr) (pc : Nat) : En := { x with A := A, c := c, PA := PA, pc := pc }
def zbl : Array Value := #[.string ⟨#[]⟩, .string ⟨#[]⟩, .string ⟨#[]⟩, .string ⟨#[]⟩, .string ⟨#[]⟩, .slice none 0 0, .slice none 0 0, .int .i64 0, .bool false]
theorem infoBill : (Tryz.prog.info? 59).map (·.size) = some 9 := by kernel_rfl
def CbP (x : En) (w : World) (e : Ending) (w' : World) : Prop := ∃ A' c' PA' pc', e = .returned (.agg (blA (x.with A' c' PA' pc'))) ∧ Sr w' A' x.l ∧ Sr w' PA' x.p ∧ Below w.heap.size w w'
theorem blA_one (x : En) : (blA x).all (·.oneCell') = true := by simp [blA, Value.oneCell']
set_option maxHeartbeats 4000000 in
theorem copyBill_r (x : En) (w : World) (hA : Rs w w.heap.size x.A x.l) (hP : Rs w w.heap.size x.PA x.p) (hl : x.l.length ≤ 1000) (hp : x.p.length ≤ 1000) :
    Calls Tryz.prog 58 #[.agg (blA x)] w fun e w' => CbP x w e w' := by
  have hb1 : Below w.heap.size w (w.alloc (.cells (blA x) 59)) := (Below.refl _ _).alloc (Nat.le_refl _) _
  have hb2 : Below w.heap.size w ((w.alloc (.cells (blA x) 59)).alloc (.cells zbl 59)) := hb1.alloc (by simp) _
  have hz2 : ((w.alloc (.cells (blA x) 59)).alloc (.cells zbl 59)).heap.size = w.heap.size + 2 := by simp
  obtain ⟨W0, hW0⟩ : ∃ W0, W0 = (w.alloc (.cells (blA x) 59)).alloc (.cells zbl 59) := ⟨_, rfl⟩
  rw [← hW0] at hb2 hz2
  have k0 : W0.heap[w.heap.size]? = some (.cells (blA x) 59 (0, 0)) := by
    rw [hW0]
    have : ((w.alloc (.cells (blA x) 59)).alloc (.cells zbl 59)).heap[w.heap.size]? = (w.alloc (.cells (blA x) 59)).heap[w.heap.size]? := Below.heap_alloc _ _ _ (by simp)
    rw [this]
    exact heap_alloc_new _ _
  have k1 : W0.heap[w.heap.size + 1]? = some (.cells zbl 59 (0, 0)) := by
    rw [hW0]
    have := heap_alloc_new (w.alloc (.cells (blA x) 59)) (.cells zbl 59)
    simpa using this
  have c5 : W0.cell? ⟨w.heap.size, 5, none⟩ = some (.slice x.A x.l.length x.c) := by simp [World.cell?, k0, blA]
  have HC1 := Lib.hid (clone_r x.A x.c x.l W0 ((hA.below hb2).more (by omega)) hl)
  have HX := Lib.hid hb2
  have HK0 := Lib.hid k0
  have HK1 := Lib.hid k1
  have hz0 := hz2
  have HP := Lib.hid hP
  generalize hCP : CbP x w = CP
  clear hb1 k0 k1 hP hA hb2 hz2
  unfold blA zbl at hW0
  unfold blA
  go_enter Tryz.func58, Tryz.ntmps58
  go_wp2_with fail
  rw [← hW0]
  clear hW0
  refine HC1.out.mono ?_
  rintro e w1 ⟨A1, c1, rfl, hs1, hb1⟩
  have hz1 := hb1.size
  have m0 := keep_of_below hb1 HK0.out
  have m1 := keep_of_below hb1 HK1.out
  have f5 : w1.frozen? ⟨w.heap.size, 5, none⟩ = false := by simp [World.frozen?, m0]
  have d5 : w1.cell? ⟨w.heap.size, 5, none⟩ = some (.slice x.A x.l.length x.c) := by simp [World.cell?, m0, blA]
  have d6 : w1.cell? ⟨w.heap.size, 6, none⟩ = some (.slice x.PA x.p.length x.pc) := by simp [World.cell?, m0, blA]
  have n0 := Go.heap_setCell_same w1 w.heap.size 5 (blA x) 59 (.slice A1 x.l.length c1) m0
  have n1 : (w1.setCell ⟨w.heap.size, 5, none⟩ (.slice A1 x.l.length c1)).heap[w.heap.size + 1]? = some (.cells zbl 59 (0, 0)) := (Below.heap_setCell _ _ _ _ (by show w.heap.size + 1 ≠ w.heap.size; omega)).trans m1
  have hs2 : Sr (w1.setCell ⟨w.heap.size, 5, none⟩ (.slice A1 x.l.length c1)) A1 x.l := hs1.keep fun g cs hg => (Below.heap_setCell _ _ _ _ (by
    show g ≠ w.heap.size
    rintro rfl
    rw [m0] at hg
    injection hg with hg
    injection hg with _ h2 _
    exact absurd h2 (by decide))).trans hg
  have hb2 : Below w.heap.size w (w1.setCell ⟨w.heap.size, 5, none⟩ (.slice A1 x.l.length c1)) := (HX.out.trans (hb1.mono (by omega))).setCell (Nat.le_refl _) _
  have hz2 : w.heap.size + 2 ≤ (w1.setCell ⟨w.heap.size, 5, none⟩ (.slice A1 x.l.length c1)).heap.size := by rw [World.size_setCell]; omega
  have hc6 : (w1.setCell ⟨w.heap.size, 5, none⟩ (.slice A1 x.l.length c1)).frozen? ⟨w.heap.size, 6, none⟩ = false := by simp [World.frozen?, n0]
  obtain ⟨W2, hW2⟩ : ∃ W2, W2 = w1.setCell ⟨w.heap.size, 5, none⟩ (.slice A1 x.l.length c1) := ⟨_, rfl⟩
  rw [← hW2] at n0 n1 hs2 hb2 hz2 hc6
  have N0 := Lib.hid n0
  have N1 := Lib.hid n1
  have HS := Lib.hid hs2
  have HB := Lib.hid hb2
  have HC2 := Lib.hid (clone_r x.PA x.pc x.p W2 ((HP.out.below hb2).more (by omega)) hp)
  clear n0 n1 hs2 hb2 hs1 hb1 m0 m1 HC1 HX HK0 HK1 hc6
  go_wp2_with fail
  rw [← hW2]
  clear hW2 d5 d6 f5
  refine HC2.out.mono ?_
  rintro e w3 ⟨A3, c3, rfl, hs3, hb3⟩
  have hz3 := hb3.size
  have m0 := keep_of_below hb3 N0.out
  have m1 := keep_of_below hb3 N1.out
  have f6 : w3.frozen? ⟨w.heap.size, 6, none⟩ = false := by simp [World.frozen?, m0]
  have d6 : w3.cell? ⟨w.heap.size, 6, none⟩ = some (.slice x.PA x.p.length x.pc) := by simp [World.cell?, m0, blA]
  have n0 := Go.heap_setCell_same w3 w.heap.size 6 _ 59 (.slice A3 x.p.length c3) m0
  have n1 : (w3.setCell ⟨w.heap.size, 6, none⟩ (.slice A3 x.p.length c3)).heap[w.heap.size + 1]? = some (.cells zbl 59 (0, 0)) := (Below.heap_setCell _ _ _ _ (by show w.heap.size + 1 ≠ w.heap.size; omega)).trans m1
  have hkp : ∀ (A : Option Addr) (L : List ByteArray), Sr w3 A L → Sr (w3.setCell ⟨w.heap.size, 6, none⟩ (.slice A3 x.p.length c3)) A L := fun A L h => h.keep fun g cs hg => (Below.heap_setCell _ _ _ _ (by
    show g ≠ w.heap.size
    rintro rfl
    rw [m0] at hg
    injection hg with hg
    injection hg with _ h2 _
    exact absurd h2 (by decide))).trans hg
  have hb4 : Below w.heap.size w (w3.setCell ⟨w.heap.size, 6, none⟩ (.slice A3 x.p.length c3)) := (HB.out.trans (hb3.mono (by omega))).setCell (Nat.le_refl _) _
  have e0 : ((blA x).setIfInBounds 5 (.slice A1 x.l.length c1)).setIfInBounds 6 (.slice A3 x.p.length c3) = blA (x.with A1 c1 A3 c3) := by
    simp [blA, En.with]
  rw [e0] at n0
  have q1 := hkp _ _ (HS.out.below hb3)
  have q2 := hkp _ _ hs3
  obtain ⟨W4, hW4⟩ : ∃ W4, W4 = w3.setCell ⟨w.heap.size, 6, none⟩ (.slice A3 x.p.length c3) := ⟨_, rfl⟩
  rw [← hW4] at n0 n1 hb4 q1 q2
  have hz4 : w.heap.size + 2 ≤ W4.heap.size := by rw [hW4, World.size_setCell]; omega
  have hfin : (W4.setRow (w.heap.size + 1) (blA (x.with A1 c1 A3 c3))).heap[w.heap.size + 1]? = some (.cells (blA (x.with A1 c1 A3 c3)) 59 (0, 0)) ∧ CP (.returned (.agg (blA (x.with A1 c1 A3 c3)))) (W4.setRow (w.heap.size + 1) (blA (x.with A1 c1 A3 c3))) := by
    refine ⟨by simp [World.setRow, Array.getElem?_modify, n1], ?_⟩
    rw [← hCP]
    have hk : ∀ (A : Option Addr) (L : List ByteArray), Sr W4 A L → Sr (W4.setRow (w.heap.size + 1) (blA (x.with A1 c1 A3 c3))) A L := fun A L h => h.keep fun g cs hg => (setRow_other _ _ _ _ (by
      rintro rfl
      rw [n1] at hg
      injection hg with hg
      injection hg with _ h2 _
      exact absurd h2 (by decide))).trans hg
    exact ⟨A1, c1, A3, c3, rfl, hk _ _ q1, hk _ _ q2, hb4.os, hb4.tape, hb4.output, by simpa [World.setRow] using hb4.size, fun k hk => (setRow_other _ _ _ _ (by omega)).trans (hb4.block k hk)⟩
  have HF := Lib.hid hfin
  have N0' := Lib.hid n0
  have N1' := Lib.hid n1
  have HO := Lib.hid (blA_one (x.with A1 c1 A3 c3))
  have hIb : (Tryz.prog.info? 59).map (·.size) = some (blA (x.with A1 c1 A3 c3)).size := infoBill
  have HI := Lib.hid hIb
  have hSz : zbl.size = (blA (x.with A1 c1 A3 c3)).size := rfl
  have HSz := Lib.hid hSz
  clear hSz
  clear n0 n1 hb4 q1 q2 hs3 hb3 hkp e0 N0 N1 HS HB HC2 hfin hIb m0 m1 hCP
  generalize blA (x.with A1 c1 A3 c3) = V at *
  go_wp2_with (first
    | (rw [← hW4]; clear hW4; refine wpList_load_row rfl 59 (.tmp 1) rfl w.heap.size rfl 59 V (0, 0) _ N0'.out Tryz.underlying59 rfl HI.out ?_)
    | (refine wpList_store_row rfl 59 (.tmp 2) (.tmp 11) rfl (w.heap.size + 1) V rfl rfl 59 _ N1'.out HI.out HSz.out HO.out ?_)
    | fail)
  refine bodyPost_ret (results_cell_row rfl _ _ (w.heap.size + 1) 59 V (0, 0) _ rfl HF.out.1 Tryz.underlying59 rfl HI.out) rfl ?_
  exact HF.out.2
end Go.Proofs.YtdinloecgaapaaaGreatDoor
