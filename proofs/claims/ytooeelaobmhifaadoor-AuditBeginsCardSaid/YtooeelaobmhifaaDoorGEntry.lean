/- 'm[k] op= v' of a map that is said as a function: the entry is found, then written. -/
import Derived.Test.YtooeelaobmhifaaDoorGMap
import Derived.WideKeyEntry
namespace Go.Proofs.YtooeelaobmhifaaDoor
open Go.RowKit Go.Maps Go.ChangeMaps Go.MapKept Go.WideElems Go.WideMaps
set_option linter.unusedVariables false

/-- finding an entry is storing what it holds -/
theorem entry_as_store {H : Type} {P : Program} {w : World} {t k e : TypeId} {R : Value → Option (DataW H × List MemPlace)} {b : Nat} {es : Array MapEntry} {clock : Nat} (K : KeyLaw P k) (ht : P.underlying t = some (.map k e)) {z : Value} (hz : ∀ u : World, (zeroValue e).run P u = .ok z u) (hb : w.heap[b]? = some (.map es clock)) (F : Fit P k R es clock)
    {key : Value} {kl : Lit} (hkey : keyOf P k key = some kl) : ∃ (v0 : Value) (st : Nat) (w2 : World), (Instr.mapEntry t (.map (some b)) key).run P w = .ok (.tuple #[v0, goInt st]) w2 ∧ (Instr.mapUpdate t (.map (some b)) key v0).run P w = .ok () w2 := by
  rcases K.find w hkey es.toList F.keys with ⟨h1, h2⟩ | ⟨j, e0, h1, h2, h3⟩
  · refine ⟨z, clock, setBlock w b (.map (es.push ⟨key, z, clock⟩) (clock + 1)), ?_, ?_⟩
    · simp [Instr.mapEntry, run_underlying ht, MapKept.run_getObj_map hb, K.check w false hkey, h1, hz, MapKept.run_setObj_map _ hb, Result.andThen, setBlock]
    · simp [Instr.mapUpdate, run_underlying ht, MapKept.run_getObj_map hb, K.check w false hkey, h1, MapKept.run_setObj_map _ hb, Result.andThen, setBlock]
  · have hj : es[j]? = some e0 := by simpa using h2
    have hsame : es.modify j (fun e => { e with key := key }) = es := by
      apply Array.ext'
      rw [Array.toList_modify, modify_eq_set _ _ _ _ h2]
      have : ({ e0 with key := key } : MapEntry) = e0 := by rw [← h3]
      rw [this]
      exact set_self _ _ _ h2
    have hsame2 : es.modify j (fun e => { e with key := key, val := e0.val }) = es := by
      apply Array.ext'
      rw [Array.toList_modify, modify_eq_set _ _ _ _ h2]
      have : ({ e0 with key := key, val := e0.val } : MapEntry) = e0 := by rw [← h3]
      rw [this]
      exact set_self _ _ _ h2
    refine ⟨e0.val, e0.born, setBlock w b (.map es clock), ?_, ?_⟩
    · simp [Instr.mapEntry, run_underlying ht, MapKept.run_getObj_map hb, K.check w false hkey, h1, hj, h3, K.stays w hkey, hsame, MapKept.run_setObj_map _ hb, Result.andThen, setBlock]
    · simp [Instr.mapUpdate, run_underlying ht, MapKept.run_getObj_map hb, K.check w false hkey, h1, hj, h3, K.stays w hkey, hsame2, MapKept.run_setObj_map _ hb, Result.andThen, setBlock]

theorem Mp.entry {P : Program} {k : TypeId} {α β : Type} {C : KeyC P k α} {E : ElC β} [DecidableEq α] {w : World} {b n : Nat} {G : α → Option β} (KL : KeyLaw P k) {t e : TypeId} (h : Mp C E w b n G) (ht : P.underlying t = some (.map k e))
    {z : β} (hz : ∀ u : World, (zeroValue e).run P u = .ok (E.mk z) u) (hzo : E.ok z) (hn : n < maxLen) {x : α} (hx : C.ok x) (hold : ∀ u, G x = some u → E.ok u) {v : β} (hv : E.ok v) :
    ∃ (v0 : Value) (st : Nat) (w2 w3 : World), (Instr.mapEntry t (.map (some b)) (C.mk x)).run P w = .ok (.tuple #[v0, .int .i64 (st : Nat)]) w2 ∧ (Instr.entryStore t (.map (some b)) (.int .i64 (st : Nat)) (E.mk v)).run P w2 = .ok () w3 ∧
      (Instr.lookup t (.map (some b)) (C.mk x) false).run P w2 = .ok (E.mk ((G x).getD z)) w2 ∧ Mp C E w3 b (n + 1) (putG G x v) ∧ w.mapTurned w3 b := by
  have h0 := h
  obtain ⟨w', hrun, hM, hT⟩ := h.store ht hn hx hv
  have hlk := h.look ht (hz w) hzo hx
  obtain ⟨D, ⟨es, clock, hb, F, hs, hD⟩, hR⟩ := h
  obtain ⟨v0, st, es1, clock1, hE, hcase, hS⟩ := entry_then_store KL ht hz hb F (C.of x hx)
  obtain ⟨es', clock', h1, h2⟩ := hS (setBlock w b (.map es1 clock1)) (E.mk v) (heap_setBlock_same hb _)
  rw [hrun] at h2
  injection h2 with _ h2
  have e1 : setBlock (setBlock w b (.map es1 clock1)) b (.map es' clock') = w' := by rw [h2]; simp [setBlock]
  obtain ⟨v1, st1, w2, g1, g2⟩ := entry_as_store KL ht hz hb F (C.of x hx)
  rw [hE] at g1
  injection g1 with g1 g3
  have hv1 : v0 = v1 := by simp at g1; exact g1.1
  have hv0 : v0 = E.mk ((G x).getD z) := by
    rcases hcase with ⟨e0, hm0, hk0, rfl⟩ | ⟨hno, rfl⟩
    · obtain ⟨y, hy⟩ := F.reads e0 hm0
      obtain ⟨d, hd, _⟩ := rd_val hy
      have hat := atKey_some KL F (C.of x hx) hm0 hk0 hd (E.dat z)
      obtain ⟨u, hu, hdu, _⟩ := E.inv _ _ hd
      rw [← hD, hR.at_ x hx, hdu] at hat
      rw [hu]
      cases hG : G x with
      | none => rw [hG] at hat; rw [← E.inj _ _ hat]; rfl
      | some c => rw [hG] at hat; rw [← E.inj _ _ hat]; rfl
    · have hat := atKey_none KL F (C.of x hx) hno .nil
      have hat2 := atKey_none KL F (C.of x hx) hno (.agg [])
      rw [← hD, hR.at_ x hx] at hat hat2
      cases hG : G x with
      | none => rfl
      | some c => rw [hG] at hat hat2; simp only at hat hat2; rw [hat] at hat2; cases hat2
  have hok : E.ok ((G x).getD z) := by
    cases hG : G x with
    | none => exact hzo
    | some c => exact hold c hG
  obtain ⟨w5, f1, f2, _⟩ := h0.store ht hn hx hok
  rw [← hv1, hv0, f1] at g2
  injection g2 with _ g2
  subst g2
  have hl2 := f2.look ht (hz w5) hzo hx
  rw [putG_same] at hl2
  refine ⟨v0, st, _, w', hE, by rw [← e1]; exact h1, ?_, hM, hT⟩
  rw [g3]
  exact hl2
end Go.Proofs.YtooeelaobmhifaaDoor
