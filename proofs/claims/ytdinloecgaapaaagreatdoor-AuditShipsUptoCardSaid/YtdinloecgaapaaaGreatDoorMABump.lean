/- What entering entries does to the accounts, whatever the order. A ledger with its posts: what stays, what a post adds. -/
import Derived.Test.YtdinloecgaapaaaGreatDoorARefused
import Derived.Test.YtdinloecgaapaaaGreatDoorMGEntry
import Derived.OneCell
namespace Go.Proofs.YtdinloecgaapaaaGreatDoor
open Go.RowKit Go.Maps Go.Lib
set_option linter.unusedVariables false
set_option maxRecDepth 100000

/-- a range's beginning, with a bound on how many there are to come -/
theorem wpList_range_le {P : Program} {k : TypeId} {α β : Type} {C : KeyC P k α} {E : ElC β} (w : World) {ops : Array Oper} {rest : List Oper} {o : Oper} {a : Act} {Q : Exit → Act → World → Prop}
    (hg : o.guard = none) (m : Operand) (t : TypeId) (hop : o.op = Op.range t m) (e : TypeId) (ht : P.underlying t = some (.map k e)) (b n : Nat) (G : α → Option β)
    (hm : a.eval m = .map (some b)) (hown : Mp C E w b n G)
    (hK : ∀ w', (∃ cnt, cnt ≤ n ∧ Rn' C E w' b w.heap.size n G (fun x => (G x).isSome) cnt) → w.grownBy w' none → w'.heap.size = w.heap.size + 1 → wpList P ops Q rest (a.put o.dst (.pointer (some ⟨w.heap.size, 0, none⟩))) w') :
    wpList P ops Q (o :: rest) a w := by
  obtain ⟨D, h, hR⟩ := hown
  exact wpList_range_own w hg m t hop k e C.law ht E.R b n D hm h fun w' h1 h2 h3 => hK w' ⟨_, h.size_le, D, _, h1, hR, hR.has, fun x _ h => h⟩ h2 h3

def Ac.plus (a : Ac) (v : Int) : Ac := ⟨a.floor, a.bal + v, a.held⟩
/-- the accounts, those changed that are no longer to come -/
def bumped (G : Nt → Option Ac) (E : Nt → Option Int) (lf : Nt → Bool) : Nt → Option Ac := fun x => match E x with
  | none => G x
  | some v => if lf x then G x else (G x).map fun a => a.plus v
/-- the accounts, all changed -/
def bump (G : Nt → Option Ac) (E : Nt → Option Int) : Nt → Option Ac := fun x => match E x with
  | none => G x
  | some v => (G x).map fun a => a.plus v
theorem bumped_start (G : Nt → Option Ac) (E : Nt → Option Int) : bumped G E (fun x => (E x).isSome) = G := by
  funext x
  unfold bumped
  cases h : E x <;> simp [h]
theorem bumped_step {G : Nt → Option Ac} {E : Nt → Option Int} {lf : Nt → Bool} {x : Nt} {v : Int} {a : Ac} (hE : E x = some v) (hG : G x = some a) :
    putG (bumped G E lf) x (a.plus v) = bumped G E (fun z => lf z && !decide (z = x)) := by
  funext y
  by_cases h : y = x
  · subst h; rw [putG_same]; simp [bumped, hE, hG]
  · rw [putG_other _ _ h]; simp [bumped, h]
theorem bumped_at {G : Nt → Option Ac} {E : Nt → Option Int} {lf : Nt → Bool} {x : Nt} (hl : lf x = true) : bumped G E lf x = G x := by
  unfold bumped
  cases E x <;> simp [hl]
/-- at the end; keys that are no keys hold nothing -/
theorem bumped_end {G : Nt → Option Ac} {E : Nt → Option Int} {lf : Nt → Bool} (hl : ∀ x, Small x → lf x = false) (hE : ∀ x v, E x = some v → Small x) : bumped G E lf = bump G E := by
  funext x
  unfold bumped bump
  cases h : E x with
  | none => rfl
  | some v => simp [hl x (hE x v h)]
theorem sumBy_mem {α : Type} [DecidableEq α] (key : Ent → α) : ∀ (es : List Ent) (x : α) (v : Int), sumBy key es x = some v → ∃ e ∈ es, key e = x := by
  intro es
  induction es using List.reverseRecOn' with
  | nil => intro x v h; simp [sumBy] at h
  | snoc es e ih =>
    intro x v h
    rw [sumBy_snoc] at h
    by_cases hx : x = key e
    · exact ⟨e, by simp, hx.symm⟩
    · rw [putG_other _ _ hx] at h
      obtain ⟨e', he', h'⟩ := ih x v h
      exact ⟨e', by simp [he'], h'⟩
theorem eachG_small {es : List Ent} (hF : ∀ e ∈ es, e.Fine) : ∀ x v, eachG es x = some v → Small x := by
  intro x v h
  obtain ⟨e, he, rfl⟩ := sumBy_mem Ent.key es x v h
  exact (hF e he).small
end Go.Proofs.YtdinloecgaapaaaGreatDoor
namespace Go.Proofs.YtdinloecgaapaaaGreatDoor
open Go.RowKit Go.Maps Go.Lib
set_option linter.unusedVariables false
set_option maxRecDepth 100000

/-- nothing has turned but blocks of S -/
structure Kp (S : Nat → Prop) (w w' : World) : Prop where
  os : w'.os = w.os
  tape : w'.tape = w.tape
  output : w'.output = w.output
  size : w.heap.size ≤ w'.heap.size
  block : ∀ k, k < w.heap.size → ¬ S k → w'.heap[k]? = w.heap[k]?
theorem Kp.trans {S : Nat → Prop} {a b c : World} (h : Kp S a b) (k : Kp S b c) : Kp S a c :=
  ⟨k.os.trans h.os, k.tape.trans h.tape, k.output.trans h.output, Nat.le_trans h.size k.size, fun i hi hS => (k.block i (Nat.lt_of_lt_of_le hi h.size) hS).trans (h.block i hi hS)⟩
theorem Kp.mono {S S' : Nat → Prop} {a b : World} (h : Kp S a b) (hS : ∀ k, k < a.heap.size → S k → S' k) : Kp S' a b := ⟨h.os, h.tape, h.output, h.size, fun k hk hn => h.block k hk (fun e => hn (hS k hk e))⟩
theorem Kp.of_grown {a b : World} {row : Option Nat} (h : a.grownBy b row) : Kp (fun k => some k = row) a b := ⟨h.os, h.tape, h.output, h.size, fun k hk hn => h.block k hk hn⟩
theorem Kp.of_below {a b : World} (S : Nat → Prop) (h : Below a.heap.size a b) : Kp S a b := ⟨h.os, h.tape, h.output, h.size, fun k hk _ => h.block k hk⟩
theorem Kp.below {S : Nat → Prop} {a b : World} (h : Kp S a b) {B : Nat} (hB : B ≤ a.heap.size) (hS : ∀ k, S k → B ≤ k) : Below B a b := ⟨h.os, h.tape, h.output, h.size, fun k hk => h.block k (by omega) (fun e => by have := hS k e; omega)⟩

theorem Re.ne_map {w : World} {B g off : Nat} {T : List Ent} {b : Nat} {es : Array MapEntry} {cl : Nat} (h : Re w B (some ⟨g, off, none⟩) T) (h0 : 0 < T.length) (hb : w.heap[b]? = some (.map es cl)) : g ≠ b := by
  intro e
  subst e
  obtain ⟨g', off', e, _, hc⟩ := h h0
  injection e with e
  injection e with e1 e2
  subst e1 e2
  have := (hc 0 T[0] (List.getElem?_eq_getElem h0)).1
  simp [World.cell?, hb] at this
theorem Mp.blk {P : Program} {k : TypeId} {α β : Type} {C : KeyC P k α} {E : ElC β} {w : World} {b n : Nat} {G : α → Option β} (h : Mp C E w b n G) : ∃ es cl, w.heap[b]? = some (.map es cl) := by
  obtain ⟨D, ⟨es, clock, hb, _⟩, _⟩ := h
  exact ⟨es, clock, hb⟩

theorem Mp.of_block {P : Program} {k : TypeId} {α β : Type} {C : KeyC P k α} {E : ElC β} {w w' : World} {b n : Nat} {G : α → Option β} (h : Mp C E w b n G) (he : w'.heap[b]? = w.heap[b]?) : Mp C E w' b n G := by
  obtain ⟨D, ⟨es, clock, h2, h3⟩, hR⟩ := h
  exact ⟨D, ⟨es, clock, he.trans h2, h3⟩, hR⟩
/-- a ledger with its posts L; what it consists of lies from base on -/
structure Led (w : World) (base p b n : Nat) (G : Nt → Option Ac) (pv hv : Value) (L : List Pl) : Prop where
  lg : Lg w p b n G pv hv
  row : w.ownsRow base 156 3 pv L.length (cellsP L)
  ents : ∀ x ∈ L, Re w w.heap.size x.A x.pt.ents ∧ 0 < x.pt.ents.length ∧ x.pt.ents.length ≤ 64
  out : ∀ x ∈ L, ∀ ad, x.A = some ad → ad.block ≠ p ∧ ad.block ≠ b ∧ some ad.block ≠ pv.ownBlock ∧ base ≤ ad.block
  pb : base ≤ p
  bb : base ≤ b
section
variable {w w' : World} {base p b n : Nat} {G : Nt → Option Ac} {pv hv : Value} {L : List Pl}
theorem Led.pw (h : Led w base p b n G pv hv L) : Pw w base w.heap.size pv L := ⟨h.row, h.ents⟩
theorem Led.form (h : Led w base p b n G pv hv L) : ∃ A c, pv = .slice A L.length c := h.pw.form
theorem Led.row_p (h : Led w base p b n G pv hv L) : pv.ownBlock ≠ some p := by
  rcases h.row.2 with ⟨h0, _⟩ | ⟨g, cap, cur, he, _, hb, _⟩
  · rw [h0]; simp [Value.ownBlock]
  · rw [he]
    intro e
    simp [Value.ownBlock] at e
    subst e
    rw [h.lg.cell] at hb
    simp at hb
theorem Led.row_b (h : Led w base p b n G pv hv L) : pv.ownBlock ≠ some b := by
  obtain ⟨es, cl, hm⟩ := h.lg.acc.blk
  rcases h.row.2 with ⟨h0, _⟩ | ⟨g, cap, cur, he, _, hb, _⟩
  · rw [h0]; simp [Value.ownBlock]
  · rw [he]
    intro e
    simp [Value.ownBlock] at e
    subst e
    rw [hm] at hb
    simp at hb
theorem Led.row_base (h : Led w base p b n G pv hv L) : ∀ k, some k = pv.ownBlock → base ≤ k := by
  rcases h.row.2 with ⟨h0, _⟩ | ⟨g, cap, cur, he, hb, _⟩
  · rw [h0]; simp [Value.ownBlock]
  · rw [he]
    intro k e
    simp [Value.ownBlock] at e
    omega
/-- what a ledger's own blocks are -/
def own3 (p b : Nat) (pv : Value) (k : Nat) : Prop := k = p ∨ k = b ∨ some k = pv.ownBlock
theorem Led.own_base (h : Led w base p b n G pv hv L) : ∀ k, own3 p b pv k → base ≤ k := by
  intro k hk
  rcases hk with rfl | rfl | hk
  · exact h.pb
  · exact h.bb
  · exact h.row_base k hk
theorem Re.kp {S : Nat → Prop} {A : Option Addr} {T : List Ent} (hR : Re w w.heap.size A T) (hk : Kp S w w') (hS : ∀ ad, A = some ad → ¬ S ad.block) : Re w' w'.heap.size A T := fun hl => by
  obtain ⟨g, off, e, hg, hc⟩ := hR hl
  have hb := hk.block g hg (hS _ e)
  refine ⟨g, off, e, Nat.lt_of_lt_of_le hg hk.size, fun i x hx => ?_⟩
  obtain ⟨c0, c1, c2⟩ := hc i x hx
  exact ⟨(World.cell?_of_block (a := ⟨g, _, none⟩) hb).trans c0, (World.cell?_of_block (a := ⟨g, _, none⟩) hb).trans c1, (World.cell?_of_block (a := ⟨g, _, none⟩) hb).trans c2⟩
theorem ownsRow_kp {S : Nat → Prop} {e : TypeId} {size m : Nat} {v : Value} {xs : List Value} (hR : w.ownsRow base e size v m xs) (hk : Kp S w w') (hS : ∀ k, some k = v.ownBlock → ¬ S k) : w'.ownsRow base e size v m xs := by
  refine ⟨hR.1, ?_⟩
  rcases hR.2 with ⟨h0, hn⟩ | ⟨g, cap, cur, he, hb, hg, r⟩
  · exact .inl ⟨h0, hn⟩
  · exact .inr ⟨g, cap, cur, he, hb, (hk.block g (Array.getElem?_eq_some_iff.1 hg).1 (hS g (by rw [he]; rfl))).trans hg, r⟩
/-- the accounts alone have changed -/
theorem Led.grow {m : Nat} {G' : Nt → Option Ac} (h : Led w base p b n G pv hv L) (hg : w.grownBy w' (some b)) (hL : Lg w' p b m G' pv hv) : Led w' base p b m G' pv hv L :=
  ⟨hL, ownsRow_kp h.row (Kp.of_grown hg) (fun k hk e => h.row_b (by rw [← hk, e])), fun x hx => ⟨(h.ents x hx).1.kp (Kp.of_grown hg) (fun ad ha e => (h.out x hx ad ha).2.1 (by injection e)), (h.ents x hx).2⟩, h.out, h.pb, h.bb⟩
/-- nothing of the ledger has turned -/
theorem Led.kp {S : Nat → Prop} (h : Led w base p b n G pv hv L) (hk : Kp S w w') (hS : ∀ k, base ≤ k → k < w.heap.size → ¬ S k) : Led w' base p b n G pv hv L := by
  have hblk : ∀ k, base ≤ k → k < w.heap.size → w'.heap[k]? = w.heap[k]? := fun k h1 h2 => hk.block k h2 (hS k h1 h2)
  have hk' : Kp (fun k => ¬ (base ≤ k ∧ k < w.heap.size)) w w' := hk.mono fun k h1 h2 h3 => hS k h3.1 h3.2 h2
  refine ⟨⟨(hblk p h.pb h.lg.plt).trans h.lg.cell, ?_⟩, ?_, fun x hx => ⟨?_, (h.ents x hx).2⟩, h.out, h.pb, h.bb⟩
  · exact h.lg.acc.of_block (hblk b h.bb h.lg.blt)
  · exact ownsRow_kp h.row hk' (fun k hk e => e ⟨h.row_base k hk, by
      rcases h.row.2 with ⟨h0, _⟩ | ⟨g, cap, cur, he, hb, hg, _⟩
      · rw [h0] at hk; simp [Value.ownBlock] at hk
      · rw [he] at hk; simp [Value.ownBlock] at hk; subst hk; exact (Array.getElem?_eq_some_iff.1 hg).1⟩)
  · refine (h.ents x hx).1.kp hk' (fun ad ha e => e ⟨(h.out x hx ad ha).2.2.2, ?_⟩)
    obtain ⟨g, off, e, hg, _⟩ := (h.ents x hx).1 (h.ents x hx).2.1
    rw [e] at ha
    injection ha with ha
    subst ha
    exact hg
/-- the post is laid behind the others, the ledger's cell written anew -/
theorem Led.enter_end {w5 W w6 : World} {A' : Option Addr} {c' g cap : Nat} {es : List Ent} {txt : ByteArray} {num : Int} (h : Led w base p b n G pv hv L) (h5 : Below w.heap.size w w5) (hR : Re w5 w5.heap.size A' es) (hA : ∀ ad, A' = some ad → w.heap.size ≤ ad.block)
    (h0 : 0 < es.length) (hlen : es.length ≤ 64) (hW : Below w5.heap.size w5 W)
    (hown : w6.ownsRow base 156 3 (.slice (some ⟨g, 0, none⟩) (L.length + 1) cap) (L.length + 1) (cellsP L ++ [.int .i64 num, .string txt, .slice A' es.length c'])) (hg : W.grownBy w6 pv.ownBlock) (hloc : pv.ownBlock = some g ∨ g = W.heap.size) :
    Led (w6.setCell ⟨p, 1, none⟩ (.slice (some ⟨g, 0, none⟩) (L.length + 1) cap)) base p b n G (.slice (some ⟨g, 0, none⟩) (L.length + 1) cap) hv (L ++ [⟨⟨num, txt, es⟩, A', c'⟩]) ∧
      Kp (own3 p b pv) w (w6.setCell ⟨p, 1, none⟩ (.slice (some ⟨g, 0, none⟩) (L.length + 1) cap)) := by
  have hs5 := h5.size
  have hsW := hW.size
  have hp := h.lg.plt
  have hb := h.lg.blt
  have hrp := h.row_p
  have hrb := h.row_b
  have hlt := h.row.lt
  have hgp : g ≠ p := by
    rintro rfl
    rcases hloc with e | e
    · exact hrp e
    · omega
  have hgb : g ≠ b := by
    rintro rfl
    rcases hloc with e | e
    · exact hrb e
    · omega
  have hp6 : w6.heap[p]? = w.heap[p]? := (hg.block p (by omega) (fun e => hrp e.symm)).trans ((hW.block p (by omega)).trans (h5.block p hp))
  have hb6 : w6.heap[b]? = w.heap[b]? := (hg.block b (by omega) (fun e => hrb e.symm)).trans ((hW.block b (by omega)).trans (h5.block b hb))
  have k1 : Kp (own3 p b pv) w w6 := by
    refine (Kp.of_below _ (h5.trans (hW.mono hs5))).trans ?_
    exact (Kp.of_grown hg).mono fun k _ e => .inr (.inr e)
  have k2 : Kp (own3 p b pv) w6 (w6.setCell ⟨p, 1, none⟩ (.slice (some ⟨g, 0, none⟩) (L.length + 1) cap)) := ⟨rfl, rfl, rfl, by simp, fun k _ hn => heap_setCell_other w6 ⟨p, 1, none⟩ k _ (fun e => hn (.inl e))⟩
  have hkk := k1.trans k2
  have hso : (w6.setCell ⟨p, 1, none⟩ (.slice (some ⟨g, 0, none⟩) (L.length + 1) cap)).heap.size = w6.heap.size := by simp
  refine ⟨⟨⟨?_, ?_⟩, ?_, ?_, ?_, h.pb, h.bb⟩, hkk⟩
  · have := heap_setCell_same w6 p 1 #[.map (some b), pv, hv] 145 (.slice (some ⟨g, 0, none⟩) (L.length + 1) cap) (hp6.trans h.lg.cell)
    simpa using this
  · exact (h.lg.acc.of_block hb6).setCell (fun e => h.lg.ne e.symm) _
  · have := ownsRow_setCell_other hown (a := ⟨p, 1, none⟩) (by simp [Value.ownBlock]; exact hgp) (.slice (some ⟨g, 0, none⟩) (L.length + 1) cap)
    rw [cellsP_snoc]
    simpa [Pl.cells] using this
  · intro x hx
    rcases List.mem_append.1 hx with hx | hx
    · refine ⟨(h.ents x hx).1.kp hkk (fun ad ha e => ?_), (h.ents x hx).2⟩
      obtain ⟨o1, o2, o3, _⟩ := h.out x hx ad ha
      rcases e with e | e | e
      · exact o1 e
      · exact o2 e
      · exact o3 e
    · rw [List.mem_singleton] at hx
      subst hx
      refine ⟨?_, h0, hlen⟩
      have kk : Kp (own3 p b pv) w5 (w6.setCell ⟨p, 1, none⟩ (.slice (some ⟨g, 0, none⟩) (L.length + 1) cap)) := ((Kp.of_below _ hW).trans ((Kp.of_grown hg).mono fun k _ e => .inr (.inr e))).trans k2
      refine hR.kp kk (fun ad ha e => ?_)
      have := hA ad ha
      rcases e with e | e | e
      · omega
      · omega
      · have := (hlt _ e.symm).2; omega
  · intro x hx ad ha
    rcases List.mem_append.1 hx with hx | hx
    · obtain ⟨o1, o2, o3, o4⟩ := h.out x hx ad ha
      refine ⟨o1, o2, ?_, o4⟩
      simp [Value.ownBlock]
      rintro e
      rcases hloc with e2 | e2
      · exact o3 (by rw [e, e2])
      · obtain ⟨g', off, e3, hg', _⟩ := (h.ents x hx).1 (h.ents x hx).2.1
        rw [e3] at ha
        injection ha with ha
        subst ha
        simp at e
        omega
    · rw [List.mem_singleton] at hx
      subst hx
      have h1 := hA ad ha
      have hA5 : ad.block < w5.heap.size := by
        obtain ⟨g', off, e3, hg', _⟩ := hR h0
        have ha' : A' = some ad := ha
        rw [e3] at ha'
        injection ha' with ha'
        subst ha'
        exact hg'
      have hbp := h.pb
      refine ⟨by omega, by omega, ?_, by omega⟩
      simp [Value.ownBlock]
      rintro e
      rcases hloc with e2 | e2
      · have := (hlt _ e2).2; omega
      · omega
end
end Go.Proofs.YtdinloecgaapaaaGreatDoor
