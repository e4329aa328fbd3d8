/- 'm[k] op= v' of a map that is said as a function: the entry is found, then written. Entries: their rows in memory, what they sum to for each account and each currency. slices.Clone of entries. Posts: their rows in memory. slices.Clone of posts. -/
import Derived.Test.YtdinloecgaapaaaGreatDoorMGMap
import Derived.WideKeyEntry
import Derived.Test.YtdinloecgaapaaaGreatDoorMASame
import Derived.Deep.AppendLies
import Derived.Lib.SliceRun
namespace Go.Proofs.YtdinloecgaapaaaGreatDoor
open Go.RowKit Go.Maps Go.ChangeMaps Go.MapKept Go.WideElems Go.WideMaps
set_option linter.unusedVariables false

/-- finding an entry is storing what it holds -/
theorem entry_as_store {H : Type} {P : Program} {w : World} {t k e : TypeId} {R : Value → Option (DataW H × List MemPlace)} {b : Nat} {es : Array MapEntry} {clock : Nat} (K : KeyLaw P k) (ht : P.underlying t = some (.map k e)) {z : Value} (hz : ∀ u : World, (zeroValue e).run P u = .ok z u) (hb : w.heap[b]? = some (.map es clock)) (F : Fit P k R es clock)
    {key : Value} {kl : Lit} (hkey : keyOf P k key = some kl) : ∃ (v0 : Value) (st : Nat) (w2 : World), (Instr.mapEntry t (.map (some b)) key).run P w = .ok (.tuple #[v0, goInt st]) w2 ∧ (Instr.mapUpdate t (.map (some b)) key v0).run P w = .ok () w2 := by
  rcases K.find w hkey es.toList F.keys with ⟨h1, h2⟩ | ⟨j, e0, h1, h2, h3⟩
  · refine ⟨z, clock, setBlock w b (.map (es.push ⟨key, z, clock⟩) (clock + 1)), ?_, ?_⟩
    · simp [Instr.mapEntry, run_underlying ht, MapKept.run_getObj_map hb, K.check w false hkey, h1, hz, MapKept.run_setObj_map _ hb, Result.andThen, setBlock]
    · simp [Instr.mapUpdate, run_underlying ht, MapKept.run_getObj_map hb, K.check w false hkey, h1, MapKept.run_setObj_map _ hb, Result.andThen, setBlock]
  · have hj : es[j]? = some e0 := by simpa using h2
    have hsame : es.modify j (fun e => { e with key := key }) = es := by
      apply Array.ext'
      rw [Array.toList_modify, modify_eq_set _ _ _ _ h2]
      have : ({ e0 with key := key } : MapEntry) = e0 := by rw [← h3]
      rw [this]
      exact set_self _ _ _ h2
    have hsame2 : es.modify j (fun e => { e with key := key, val := e0.val }) = es := by
      apply Array.ext'
      rw [Array.toList_modify, modify_eq_set _ _ _ _ h2]
      have : ({ e0 with key := key, val := e0.val } : MapEntry) = e0 := by rw [← h3]
      rw [this]
      exact set_self _ _ _ h2
    refine ⟨e0.val, e0.born, setBlock w b (.map es clock), ?_, ?_⟩
    · simp [Instr.mapEntry, run_underlying ht, MapKept.run_getObj_map hb, K.check w false hkey, h1, hj, h3, K.stays w hkey, hsame, MapKept.run_setObj_map _ hb, Result.andThen, setBlock]
    · simp [Instr.mapUpdate, run_underlying ht, MapKept.run_getObj_map hb, K.check w false hkey, h1, hj, h3, K.stays w hkey, hsame2, MapKept.run_setObj_map _ hb, Result.andThen, setBlock]

theorem Mp.entry {P : Program} {k : TypeId} {α β : Type} {C : KeyC P k α} {E : ElC β} [DecidableEq α] {w : World} {b n : Nat} {G : α → Option β} (KL : KeyLaw P k) {t e : TypeId} (h : Mp C E w b n G) (ht : P.underlying t = some (.map k e))
    {z : β} (hz : ∀ u : World, (zeroValue e).run P u = .ok (E.mk z) u) (hzo : E.ok z) (hn : n < maxLen) {x : α} (hx : C.ok x) (hold : ∀ u, G x = some u → E.ok u) {v : β} (hv : E.ok v) :
    ∃ (v0 : Value) (st : Nat) (w2 w3 : World), (Instr.mapEntry t (.map (some b)) (C.mk x)).run P w = .ok (.tuple #[v0, .int .i64 (st : Nat)]) w2 ∧ (Instr.entryStore t (.map (some b)) (.int .i64 (st : Nat)) (E.mk v)).run P w2 = .ok () w3 ∧
      (Instr.lookup t (.map (some b)) (C.mk x) false).run P w2 = .ok (E.mk ((G x).getD z)) w2 ∧ Mp C E w3 b (n + 1) (putG G x v) ∧ w.mapTurned w3 b := by
  have h0 := h
  obtain ⟨w', hrun, hM, hT⟩ := h.store ht hn hx hv
  have hlk := h.look ht (hz w) hzo hx
  obtain ⟨D, ⟨es, clock, hb, F, hs, hD⟩, hR⟩ := h
  obtain ⟨v0, st, es1, clock1, hE, hcase, hS⟩ := entry_then_store KL ht hz hb F (C.of x hx)
  obtain ⟨es', clock', h1, h2⟩ := hS (setBlock w b (.map es1 clock1)) (E.mk v) (heap_setBlock_same hb _)
  rw [hrun] at h2
  injection h2 with _ h2
  have e1 : setBlock (setBlock w b (.map es1 clock1)) b (.map es' clock') = w' := by rw [h2]; simp [setBlock]
  obtain ⟨v1, st1, w2, g1, g2⟩ := entry_as_store KL ht hz hb F (C.of x hx)
  rw [hE] at g1
  injection g1 with g1 g3
  have hv1 : v0 = v1 := by simp at g1; exact g1.1
  have hv0 : v0 = E.mk ((G x).getD z) := by
    rcases hcase with ⟨e0, hm0, hk0, rfl⟩ | ⟨hno, rfl⟩
    · obtain ⟨y, hy⟩ := F.reads e0 hm0
      obtain ⟨d, hd, _⟩ := rd_val hy
      have hat := atKey_some KL F (C.of x hx) hm0 hk0 hd (E.dat z)
      obtain ⟨u, hu, hdu, _⟩ := E.inv _ _ hd
      rw [← hD, hR.at_ x hx, hdu] at hat
      rw [hu]
      cases hG : G x with
      | none => rw [hG] at hat; rw [← E.inj _ _ hat]; rfl
      | some c => rw [hG] at hat; rw [← E.inj _ _ hat]; rfl
    · have hat := atKey_none KL F (C.of x hx) hno .nil
      have hat2 := atKey_none KL F (C.of x hx) hno (.agg [])
      rw [← hD, hR.at_ x hx] at hat hat2
      cases hG : G x with
      | none => rfl
      | some c => rw [hG] at hat hat2; simp only at hat hat2; rw [hat] at hat2; cases hat2
  have hok : E.ok ((G x).getD z) := by
    cases hG : G x with
    | none => exact hzo
    | some c => exact hold c hG
  obtain ⟨w5, f1, f2, _⟩ := h0.store ht hn hx hok
  rw [← hv1, hv0, f1] at g2
  injection g2 with _ g2
  subst g2
  have hl2 := f2.look ht (hz w5) hzo hx
  rw [putG_same] at hl2
  refine ⟨v0, st, _, w', hE, by rw [← e1]; exact h1, ?_, hM, hT⟩
  rw [g3]
  exact hl2
end Go.Proofs.YtdinloecgaapaaaGreatDoor
namespace Go.Proofs.YtdinloecgaapaaaGreatDoor
open Go.RowKit Go.Maps Go.Lib
set_option linter.unusedVariables false
set_option maxRecDepth 100000

structure Ent where
  acc : ByteArray
  cur : ByteArray
  n : Int
def Ent.key (e : Ent) : Nt := (e.acc, e.cur)
structure Ent.Fine (e : Ent) : Prop where
  acc : e.acc.size ≤ maxLen
  cur : e.cur.size ≤ maxLen
  lo : -1099511627776 ≤ e.n
  hi : e.n ≤ 1099511627776
theorem Ent.Fine.small {e : Ent} (h : e.Fine) : Small e.key := ⟨h.acc, h.cur⟩

/-- the slice's elements are the entries es, in blocks below B -/
def Re (w : World) (B : Nat) (A : Option Addr) (es : List Ent) : Prop :=
  0 < es.length → ∃ g off, A = some ⟨g, off, none⟩ ∧ g < B ∧ ∀ i e, es[i]? = some e → w.cell? ⟨g, off + i * 3, none⟩ = some (.string e.acc) ∧ w.cell? ⟨g, off + i * 3 + 1, none⟩ = some (.string e.cur) ∧ w.cell? ⟨g, off + i * 3 + 2, none⟩ = some (.int .i64 e.n)
section
variable {w w' : World} {B B' : Nat} {A : Option Addr} {T : List Ent}
theorem Re.keep (h : Re w B A T) (hk : ∀ p : Addr, p.block < B → w'.cell? p = w.cell? p) : Re w' B A T := fun hl => by
  obtain ⟨g, off, e, hg, hc⟩ := h hl
  exact ⟨g, off, e, hg, fun i x hx => ⟨(hk _ hg).trans (hc i x hx).1, (hk _ hg).trans (hc i x hx).2.1, (hk _ hg).trans (hc i x hx).2.2⟩⟩
theorem Re.more (h : Re w B A T) (hB : B ≤ B') : Re w B' A T := fun hl => by
  obtain ⟨g, off, e, hg, hc⟩ := h hl
  exact ⟨g, off, e, by omega, hc⟩
theorem Re.below (h : Re w B A T) (hb : Below B w w') : Re w' B A T := h.keep fun _ hp => hb.cell hp
theorem Re.at_ (h : Re w B A T) {k : Nat} (hk : k < T.length) : ∃ g off, A = some ⟨g, off, none⟩ ∧ g < B ∧ w.cell? ⟨g, off + k * 3, none⟩ = some (.string T[k].acc) ∧ w.cell? ⟨g, off + k * 3 + 1, none⟩ = some (.string T[k].cur) ∧ w.cell? ⟨g, off + k * 3 + 2, none⟩ = some (.int .i64 T[k].n) := by
  obtain ⟨g, off, e, hg, hc⟩ := h (by omega)
  have := hc k _ (List.getElem?_eq_getElem hk)
  exact ⟨g, off, e, hg, this.1, this.2.1, this.2.2⟩
end

/-- what entries sum to, by a key of theirs -/
theorem List.reverseRecOn' {α : Type} {motive : List α → Prop} (nil : motive []) (snoc : ∀ l a, motive l → motive (l ++ [a])) (l : List α) : motive l := by
  suffices h : ∀ l : List α, motive l.reverse by simpa using h l.reverse
  intro l
  induction l with
  | nil => exact nil
  | cons a l ih => rw [List.reverse_cons]; exact snoc _ _ ih
def sumBy {α : Type} [DecidableEq α] (key : Ent → α) (es : List Ent) : α → Option Int := es.foldl (fun G e => putG G (key e) ((G (key e)).getD 0 + e.n)) (fun _ => none)
section
variable {α : Type} [DecidableEq α] (key : Ent → α)
theorem sumBy_nil : sumBy key [] = fun _ => none := rfl
theorem sumBy_snoc (es : List Ent) (e : Ent) : sumBy key (es ++ [e]) = putG (sumBy key es) (key e) ((sumBy key es (key e)).getD 0 + e.n) := by simp [sumBy]
theorem sumBy_step (es : List Ent) (k : Nat) (h : k < es.length) : sumBy key (es.take (k + 1)) = putG (sumBy key (es.take k)) (key es[k]) ((sumBy key (es.take k) (key es[k])).getD 0 + es[k].n) := by
  rw [List.take_succ_eq_append_getElem h, sumBy_snoc]
theorem sumBy_bound : ∀ (es : List Ent), (∀ e ∈ es, e.Fine) → ∀ x, -(es.length * 1099511627776 : Int) ≤ (sumBy key es x).getD 0 ∧ (sumBy key es x).getD 0 ≤ (es.length * 1099511627776 : Int) := by
  intro es
  induction es using List.reverseRecOn' with
  | nil => intro _ x; simp [sumBy]
  | snoc es e ih =>
    intro h x
    have h1 := ih (fun y hy => h y (by simp [hy]))
    have he := h e (by simp)
    rw [sumBy_snoc]
    have l1 := he.lo
    have l2 := he.hi
    by_cases hx : x = key e
    · subst hx
      rw [putG_same]
      have := h1 (key e)
      simp only [List.length_append, List.length_singleton, Option.getD_some]
      omega
    · rw [putG_other _ _ hx]
      have := h1 x
      simp only [List.length_append, List.length_singleton]
      omega
end
end Go.Proofs.YtdinloecgaapaaaGreatDoor
namespace Go.Proofs.YtdinloecgaapaaaGreatDoor
open Go.RowKit Go.Maps Go.Lib
set_option linter.unusedVariables false
set_option maxRecDepth 100000

def entC (e : Ent) : List Value := [.string e.acc, .string e.cur, .int .i64 e.n]
def cellsE (T : List Ent) : List Value := T.flatMap entC
theorem cellsE_len (T : List Ent) : (cellsE T).length = T.length * 3 := by
  induction T with
  | nil => rfl
  | cons e T ih => simp [cellsE, entC] at ih ⊢; omega
theorem cellsE_at : ∀ (T : List Ent) (i : Nat) (t : Ent), T[i]? = some t → (cellsE T)[i * 3]? = some (.string t.acc) ∧ (cellsE T)[i * 3 + 1]? = some (.string t.cur) ∧ (cellsE T)[i * 3 + 2]? = some (.int .i64 t.n)
  | [], i, t, h => by simp at h
  | u :: T, 0, t, h => by simp at h; subst h; exact ⟨rfl, rfl, rfl⟩
  | u :: T, i + 1, t, h => by
    have := cellsE_at T i t (by simpa using h)
    have e : cellsE (u :: T) = .string u.acc :: .string u.cur :: .int .i64 u.n :: cellsE T := rfl
    rw [e]
    have e0 : (i + 1) * 3 = i * 3 + 1 + 1 + 1 := by omega
    have e1 : (i + 1) * 3 + 1 = i * 3 + 1 + 1 + 1 + 1 := by omega
    have e2 : (i + 1) * 3 + 2 = i * 3 + 2 + 1 + 1 + 1 := by omega
    rw [e1, e2, e0]
    exact this
theorem cellsE_one (T : List Ent) : ∀ u ∈ cellsE T, u.oneCell' = true := by
  intro u hu
  obtain ⟨e, _, h⟩ := List.mem_flatMap.1 hu
  simp [entC] at h
  rcases h with rfl | rfl | rfl <;> rfl
theorem Re.of_row {w : World} {base c : Nat} {e : TypeId} {A : Option Addr} {T : List Ent} (h : w.ownsRow base e 3 (.slice A T.length c) T.length (cellsE T)) : Re w w.heap.size A T := fun hl => by
  rcases h.2 with ⟨h0, hn⟩ | ⟨g, cap, cur, he, h6⟩
  · rw [hn] at hl; exact absurd hl (by decide)
  · injection he with e1 _ e3
    subst e1 e3
    refine ⟨g, 0, rfl, (h.lt g rfl).2, fun i x hx => ?_⟩
    obtain ⟨h1, h2, h3⟩ := cellsE_at T i x hx
    have hc := h.cells (g := g) rfl
    have ha : ∀ k, (⟨g, 0, none⟩ : Addr).add k = ⟨g, 0 + k, none⟩ := by
      intro k
      by_cases e : k = 0
      · subst e; simp [Addr.add]
      · simp [Addr.add, e]
    have e1 := hc _ _ h1
    have e2 := hc _ _ h2
    have e3 := hc _ _ h3
    rw [ha] at e1 e2 e3
    exact ⟨e1, by rw [Nat.add_assoc]; exact e2, by rw [Nat.add_assoc]; exact e3⟩
/-- the cells behind a slice's address -/
theorem Re.cells {w : World} {B g off : Nat} {T : List Ent} (h : Re w B (some ⟨g, off, none⟩) T) : ∀ j u, (cellsE T)[j]? = some u → w.cell? ⟨g, off + j, none⟩ = some u := by
  intro j u hj
  have hl : j < T.length * 3 := by rw [← cellsE_len]; exact (List.getElem?_eq_some_iff.1 hj).1
  obtain ⟨g', off', e, _, hc⟩ := h (by omega)
  injection e with e
  injection e with e1 e2
  subst e1 e2
  have hq : j / 3 < T.length := by omega
  have hx := List.getElem?_eq_getElem hq
  obtain ⟨c0, c1, c2⟩ := hc _ _ hx
  obtain ⟨d0, d1, d2⟩ := cellsE_at T _ _ hx
  rcases (show j = j / 3 * 3 ∨ j = j / 3 * 3 + 1 ∨ j = j / 3 * 3 + 2 by omega) with h | h | h
  · rw [h] at hj ⊢; rw [d0] at hj; rw [c0]; exact hj
  · rw [h] at hj ⊢; rw [d1] at hj; rw [← Nat.add_assoc, c1]; exact hj
  · rw [h] at hj ⊢; rw [d2] at hj; rw [← Nat.add_assoc, c2]; exact hj
theorem ent_info : (Tryz.prog.info? 107).map (fun i => (i.zero, i.size, i.bytes)) = some (some (.agg #[.string ⟨#[]⟩, .string ⟨#[]⟩, .int .i64 0]), 3, 40) := by kernel_rfl

set_option maxHeartbeats 1000000 in
theorem cloneE_any (A : Option Addr) (c : Nat) (es : List Ent) (w : World) (hR : Re w w.heap.size A es) (h0 : 0 < es.length) (hlen : es.length ≤ 64) :
    Calls Tryz.prog 99 #[.slice A es.length c] w fun e w' => ∃ A' c', e = .returned (.slice A' es.length c') ∧ Re w' w'.heap.size A' es ∧ Below w.heap.size w w' ∧ ∀ ad, A' = some ad → w.heap.size ≤ ad.block := by
  obtain ⟨i0, hi, hz0, hz1, hz2⟩ := info_parts ent_info
  obtain ⟨g, off, rfl, hg, _⟩ := hR h0
  have Hc := Lib.hid hR.cells
  clear hR
  have q22 : ∀ (w : World) (a : Option Addr) (n c n' c' : Nat), (binOp .eql 151 (.slice a n c) (.slice none n' c')).run Tryz.prog w = .ok (.bool a.isNone) w := fun w a n c n' c' => Lib.run_eql_slice_nil w _ _ a n c n' c' Tryz.underlying151
  go_enter Tryz.func99, Tryz.ntmps99
  go_wp2_with (at_builtin; refine wpList_append_own _ rfl _ _ 151 rfl w.heap.size 107 i0 _ 3 40 Tryz.underlying151 hi hz0 hz1 hz2 rfl (by decide) _ _ _ rfl (World.ownsRow_made w #[] 0 (Nat.le_refl _) (Nat.zero_le _) rfl) ⟨g, off, none⟩ es.length c (cellsE es) rfl ?qc1 ?qc2 ?qc3 ?qc4 ?qc5 ?qc6 ?_)
  case qc1 => rw [cellsE_len]
  case qc2 =>
    intro j u hj
    rw [Addr.add_lit]
    exact Lib.cell?_alloc_some _ (Hc.out j u hj)
  case qc3 => exact cellsE_one es
  case qc4 => unfold maxLen; omega
  case qc5 => omega
  case qc6 => simp
  intro v' w1 hown hgrow hnil
  go_wp2
  go_ret
  have hown' : w1.ownsRow w.heap.size 107 3 v' es.length (cellsE es) := by simpa using hown
  obtain ⟨A', c', rfl⟩ : ∃ A' c', v' = .slice A' es.length c' := by
    rcases hown'.2 with ⟨h1, hn⟩ | ⟨g, cap, cur, he, _⟩
    · omega
    · exact ⟨_, _, he⟩
  exact ⟨A', c', rfl, Re.of_row hown', ((Below.refl _ w).alloc (Nat.le_refl _) _).grown hgrow (by simp) (by intro k hk; simp [Value.ownBlock] at hk; omega), fun ad hA => by subst hA; exact (hown'.lt ad.block rfl).1⟩
end Go.Proofs.YtdinloecgaapaaaGreatDoor
namespace Go.Proofs.YtdinloecgaapaaaGreatDoor
open Go.RowKit Go.Maps Go.Lib
set_option linter.unusedVariables false
set_option maxRecDepth 100000

structure Pt where
  num : Int
  text : ByteArray
  ents : List Ent
/-- a post, and where its entries lie -/
structure Pl where
  pt : Pt
  A : Option Addr
  c : Nat
def Pl.cells (x : Pl) : List Value := [.int .i64 x.pt.num, .string x.pt.text, .slice x.A x.pt.ents.length x.c]
def cellsP (L : List Pl) : List Value := L.flatMap Pl.cells
theorem cellsP_len (T : List Pl) : (cellsP T).length = T.length * 3 := by
  induction T with
  | nil => rfl
  | cons e T ih => simp [cellsP, Pl.cells] at ih ⊢; omega
theorem cellsP_snoc (T : List Pl) (t : Pl) : cellsP (T ++ [t]) = cellsP T ++ t.cells := by simp [cellsP]
theorem cellsP_at : ∀ (T : List Pl) (i : Nat) (t : Pl), T[i]? = some t → (cellsP T)[i * 3]? = some (.int .i64 t.pt.num) ∧ (cellsP T)[i * 3 + 1]? = some (.string t.pt.text) ∧ (cellsP T)[i * 3 + 2]? = some (.slice t.A t.pt.ents.length t.c)
  | [], i, t, h => by simp at h
  | u :: T, 0, t, h => by simp at h; subst h; exact ⟨rfl, rfl, rfl⟩
  | u :: T, i + 1, t, h => by
    have := cellsP_at T i t (by simpa using h)
    have e : cellsP (u :: T) = .int .i64 u.pt.num :: .string u.pt.text :: .slice u.A u.pt.ents.length u.c :: cellsP T := rfl
    rw [e]
    have e0 : (i + 1) * 3 = i * 3 + 1 + 1 + 1 := by omega
    have e1 : (i + 1) * 3 + 1 = i * 3 + 1 + 1 + 1 + 1 := by omega
    have e2 : (i + 1) * 3 + 2 = i * 3 + 2 + 1 + 1 + 1 := by omega
    rw [e1, e2, e0]
    exact this
theorem cellsP_one (T : List Pl) : ∀ u ∈ cellsP T, u.oneCell' = true := by
  intro u hu
  obtain ⟨e, _, h⟩ := List.mem_flatMap.1 hu
  simp [Pl.cells] at h
  rcases h with rfl | rfl | rfl <;> rfl
theorem post_info : (Tryz.prog.info? 156).map (fun i => (i.zero, i.size, i.bytes)) = some (some (.agg #[.int .i64 0, .string ⟨#[]⟩, .slice none 0 0]), 3, 48) := by kernel_rfl

/-- the slice v's elements are the posts L, whose entries lie below B; the row is among the blocks from base on -/
structure Pw (w : World) (base B : Nat) (v : Value) (L : List Pl) : Prop where
  row : w.ownsRow base 156 3 v L.length (cellsP L)
  ents : ∀ x ∈ L, Re w B x.A x.pt.ents ∧ 0 < x.pt.ents.length ∧ x.pt.ents.length ≤ 64
section
variable {w w' : World} {base B : Nat} {v : Value} {L : List Pl}
theorem Pw.nil (w : World) (base B : Nat) : Pw w base B (.slice none 0 0) [] := ⟨World.ownsRow_nil _ _ _ _, by simp⟩
theorem Pw.form (h : Pw w base B v L) : ∃ A c, v = .slice A L.length c := by
  rcases h.row.2 with ⟨h0, hn⟩ | ⟨g, cap, cur, he, _⟩
  · exact ⟨none, 0, by rw [h0, hn]⟩
  · exact ⟨_, _, he⟩
theorem Pw.more (h : Pw w base B v L) {B' : Nat} (hB : B ≤ B') : Pw w base B' v L := ⟨h.row, fun x hx => ⟨(h.ents x hx).1.more hB, (h.ents x hx).2⟩⟩
end
end Go.Proofs.YtdinloecgaapaaaGreatDoor
namespace Go.Proofs.YtdinloecgaapaaaGreatDoor
open Go.RowKit Go.Maps Go.Lib
set_option linter.unusedVariables false
set_option maxRecDepth 100000

set_option maxHeartbeats 1000000 in
theorem cloneP_some (g off c : Nat) (L : List Pl) (w : World) (hc : ∀ j u, (cellsP L)[j]? = some u → w.cell? ⟨g, off + j, none⟩ = some u) (hlen : L.length ≤ 100000) :
    Calls Tryz.prog 133 #[.slice (some ⟨g, off, none⟩) L.length c] w fun e w' => ∃ v', e = .returned v' ∧ w'.ownsRow w.heap.size 156 3 v' L.length (cellsP L) ∧ Below w.heap.size w w' := by
  obtain ⟨i0, hi, hz0, hz1, hz2⟩ := info_parts post_info
  have Hc := Lib.hid hc
  clear hc
  have q22 : ∀ (w : World) (a : Option Addr) (n c n' c' : Nat), (binOp .eql 143 (.slice a n c) (.slice none n' c')).run Tryz.prog w = .ok (.bool a.isNone) w := fun w a n c n' c' => Lib.run_eql_slice_nil w _ _ a n c n' c' Tryz.underlying143
  go_enter Tryz.func133, Tryz.ntmps133
  go_wp2_with (at_builtin; refine wpList_append_own _ rfl _ _ 143 rfl w.heap.size 156 i0 _ 3 48 Tryz.underlying143 hi hz0 hz1 hz2 rfl (by decide) _ _ _ rfl (World.ownsRow_made w #[] 0 (Nat.le_refl _) (Nat.zero_le _) rfl) ⟨g, off, none⟩ L.length c (cellsP L) rfl ?qc1 ?qc2 ?qc3 ?qc4 ?qc5 ?qc6 ?_)
  case qc1 => rw [cellsP_len]
  case qc2 =>
    intro j u hj
    rw [Addr.add_lit]
    exact Lib.cell?_alloc_some _ (Hc.out j u hj)
  case qc3 => exact cellsP_one L
  case qc4 => unfold maxLen; omega
  case qc5 => omega
  case qc6 => simp
  intro v' w1 hown hgrow hnil
  go_wp2
  go_ret
  exact ⟨v', rfl, by simpa using hown, ((Below.refl _ w).alloc (Nat.le_refl _) _).grown hgrow (by simp) (by intro k hk; simp [Value.ownBlock] at hk; omega)⟩

set_option maxHeartbeats 1000000 in
theorem cloneP_nil (n c : Nat) (w : World) :
    Calls Tryz.prog 133 #[.slice none n c] w fun e w' => e = .returned (.slice none 0 0) ∧ w' = w := by
  have q22 : ∀ (w : World) (a : Option Addr) (n c n' c' : Nat), (binOp .eql 143 (.slice a n c) (.slice none n' c')).run Tryz.prog w = .ok (.bool a.isNone) w := fun w a n c n' c' => Lib.run_eql_slice_nil w _ _ a n c n' c' Tryz.underlying143
  go_enter Tryz.func133, Tryz.ntmps133
  go_wp2
  go_ret
  exact ⟨rfl, rfl⟩

theorem cloneP_any {base B : Nat} (v : Value) (L : List Pl) (w : World) (h : Pw w base B v L) (hlen : L.length ≤ 100000) :
    Calls Tryz.prog 133 #[v] w fun e w' => ∃ v', e = .returned v' ∧ w'.ownsRow w.heap.size 156 3 v' L.length (cellsP L) ∧ Below w.heap.size w w' := by
  rcases h.row.2 with ⟨h0, hn⟩ | ⟨g, cap, cur, he, _⟩
  · subst h0
    have hL : L = [] := List.length_eq_zero_iff.1 hn
    subst hL
    exact (cloneP_nil 0 0 w).mono fun e w' ⟨he, hw⟩ => ⟨_, he, by subst hw; exact World.ownsRow_nil _ _ _ _, by subst hw; exact Below.refl _ _⟩
  · subst he
    refine cloneP_some g 0 cap L w (fun j u hj => ?_) hlen
    have := h.row.cells (g := g) rfl j u hj
    rw [Addr.add_lit] at this
    exact this
end Go.Proofs.YtdinloecgaapaaaGreatDoor
