/- The document's lists of notes: Has, Count, heavy. -/
import Derived.Test.YtlbenmndmoeioaaAwake
namespace Go.Proofs.Ytlbenmndmoeioaa
open Go.RowKit Go.Maps

/-- the slice's elements are the notes L, in blocks below B -/
def Rn (w : World) (B : Nat) (A : Option Addr) (L : List Nt) : Prop :=
  0 < L.length → ∃ g off, A = some ⟨g, off, none⟩ ∧ g < B ∧ ∀ i x, L[i]? = some x → w.cell? ⟨g, off + i * 2, none⟩ = some (.string x.1) ∧ w.cell? ⟨g, off + i * 2 + 1, none⟩ = some (.string x.2)

section
variable {w w' : World} {B B' : Nat} {A : Option Addr} {L : List Nt}
theorem Rn.keep (h : Rn w B A L) (hk : ∀ p : Addr, p.block < B → w'.cell? p = w.cell? p) : Rn w' B A L := fun hl => by
  obtain ⟨g, off, e, hg, hc⟩ := h hl
  exact ⟨g, off, e, hg, fun i x hx => ⟨(hk _ hg).trans (hc i x hx).1, (hk _ hg).trans (hc i x hx).2⟩⟩
theorem Rn.more (h : Rn w B A L) (hB : B ≤ B') : Rn w B' A L := fun hl => by
  obtain ⟨g, off, e, hg, hc⟩ := h hl
  exact ⟨g, off, e, by omega, hc⟩
theorem Rn.below (h : Rn w B A L) (hb : Below B w w') : Rn w' B A L := h.keep fun _ hp => hb.cell hp
theorem Rn.grown (h : Rn w B A L) {row : Option Nat} (hg : w.grownBy w' row) (hB : B ≤ w.heap.size) (hr : ∀ g, row = some g → B ≤ g) : Rn w' B A L :=
  h.keep fun p hp => World.cell?_of_block (hg.block p.block (by omega) (fun e => by have := hr _ e.symm; omega))
theorem Rn.at_ (h : Rn w B A L) {k : Nat} (hk : k < L.length) : ∃ g off, A = some ⟨g, off, none⟩ ∧ g < B ∧ w.cell? ⟨g, off + k * 2, none⟩ = some (.string L[k].1) ∧ w.cell? ⟨g, off + k * 2 + 1, none⟩ = some (.string L[k].2) := by
  obtain ⟨g, off, e, hg, hc⟩ := h (by omega)
  exact ⟨g, off, e, hg, (hc k _ (List.getElem?_eq_getElem hk)).1, (hc k _ (List.getElem?_eq_getElem hk)).2⟩
end

theorem cntN_snoc (L : List Nt) (k : Nat) (h : k < L.length) (a : ByteArray) : cntN (L.take (k + 1)) a = cntN (L.take k) a + if eqB L[k].1 a then 1 else 0 := by
  rw [List.take_succ_eq_append_getElem h]
  unfold cntN
  rw [List.countP_append, List.countP_singleton]

set_option maxHeartbeats 400000 in
set_option maxRecDepth 100000 in
theorem refCount_any (a : ByteArray) (w : World) (B : Nat) (A : Option Addr) (c : Nat) (L : List Nt) (hR : Rn w B A L) (hL : L.length ≤ 4096) :
    Calls Try.prog 27 #[.slice A L.length c, .string a] w fun e w' => e = .returned (.int .i64 (cntN L a : Nat)) ∧ w = w' := by
  go_enter Try.func27, Try.ntmps27
  go_wp2
  go_loop [5, 6] (fun n i => ∃ k : Nat, k ≤ L.length ∧ i = .int .i64 k ∧ n = .int .i64 (cntN (L.take k) a : Nat)) (fun _ i => L.length - (intOf i).toNat)
  case atStart => exact ⟨0, Nat.zero_le _, rfl, rfl⟩
  case round =>
    obtain ⟨k, hk, rfl, rfl⟩ := hrel
    have hle : cntN (L.take k) a ≤ k := by
      have h1 : cntN (L.take k) a ≤ (L.take k).length := List.countP_le_length
      simp at h1
      omega
    by_cases hlt : k < L.length
    · obtain ⟨g, off, rfl, hg, hc0, hc1⟩ := hR.at_ hlt
      have HS := Lib.hid (cntN_snoc L k hlt a)
      clear hc1
      generalize L[k] = x at *
      cases he : eqB x.1 a
      all_goals
        have he' := he
        unfold eqB at he'
        have HS2 := HS.out
        rw [he] at HS2
        have H3 := Lib.hid HS2
        clear he HS2
        go_wp2
        go_round
        case rel => exact ⟨k + 1, by omega, by go_num, by rw [H3.out]; first | rfl | go_num⟩
        case measure => simp [intOf]; omega
    · have ht : L.take k = L := List.take_of_length_le (by omega)
      have HT := Lib.hid ht
      clear ht
      go_wp2
      go_ret
      exact ⟨by rw [HT.out]; rfl, rfl⟩
end Go.Proofs.Ytlbenmndmoeioaa
