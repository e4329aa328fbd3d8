/- SealApart: nobody else's sign holds: the walk. -/
import Derived.Test.YtlbenmndmoeioaaAwake
import Derived.Lib.ConvBytes
namespace Go.Proofs.Ytlbenmndmoeioaa
open Go.RowKit Go.Maps

theorem to_bytes (W : World) (s : ByteArray) : ∃ (cp : Nat) (W2 : World), (convert 9 39 (.string s)).run Try.prog W = .ok (.slice (some ⟨W.heap.size, 0, none⟩) s.size cp) W2 ∧
    (∀ j, j < s.size → W2.cell? ⟨W.heap.size, j, none⟩ = some (.int .u8 (s.data.toList.getD j 0).toNat) ∧ W2.frozen? ⟨W.heap.size, j, none⟩ = false) ∧ Below W.heap.size W W2 ∧ W2.heap.size = W.heap.size + 1 := by
  refine ⟨_, _, Lib.run_convert_string_bytes W _ _ 5 s Try.underlying9 Try.underlying39 Try.underlying5, ?_, ?_, Lib.bytesWorld_size _ _ _⟩
  · intro j hj
    refine ⟨Lib.bytesWorld_cell W _ s j hj, ?_⟩
    have h := Lib.bytesWorld_at_new W 5 s
    have hc : j < (Lib.bytesCells W 5 s).size := by simp [Lib.bytesCells]; show j < s.size + _; omega
    simp [World.frozen?, h]
    omega
  · exact ⟨rfl, rfl, rfl, by rw [Lib.bytesWorld_size]; omega, fun i hi => Lib.bytesWorld_at_old W _ s i hi⟩

/-- the text with the byte at a place put in its stead -/
def setB (s : ByteArray) (j : Nat) (c : UInt8) : ByteArray := ⟨(s.data.toList.set j c).toArray⟩
theorem setB_ne (s : ByteArray) (j : Nat) (c : UInt8) (hj : j < s.size) (h : s.data.toList.getD j 0 ≠ c) : eqB s (setB s j c) = false := by
  rw [eqB_false]
  intro e
  apply h
  have h2 : s.data.toList = s.data.toList.set j c := by
    have := congrArg (fun b : ByteArray => b.data.toList) e
    simpa [setB] using this
  rw [h2, List.getD_eq_getElem?_getD, List.getElem?_set_self (by simpa using hj)]
  rfl
theorem from_bytes (W : World) (g cp : Nat) (s : ByteArray) (j : Nat) (c : UInt8) (hc : ∀ i, i < s.size → W.cell? ⟨g, i, none⟩ = some (.int .u8 ((s.data.toList.set j c).getD i 0).toNat)) :
    (convert 39 9 (.slice (some ⟨g, 0, none⟩) s.size cp)).run Try.prog W = .ok (.string (setB s j c)) W := by
  have h := run_convert_bytes_back (P := Try.prog) W 39 9 5 ⟨g, 0, none⟩ cp (s.data.toList.set j c) Try.underlying39 Try.underlying5 Try.underlying9 (fun i hi => by
    have hi' : i < s.size := by simpa using hi
    have h1 := hc i hi'
    have h2 : (s.data.toList.set j c).getD i 0 = (s.data.toList.set j c)[i] := by rw [List.getD_eq_getElem?_getD, List.getElem?_eq_getElem hi]; rfl
    rw [h2] at h1
    rw [← h1]
    by_cases e : i = 0
    · subst e; simp [Addr.add]
    · simp [Addr.add, e])
  have hl : (s.data.toList.set j c).length = s.size := by simp
  rw [hl] at h
  exact h

set_option maxHeartbeats 1000000 in
set_option maxRecDepth 100000 in
theorem apart_heavy (a t o v : ByteArray) (at_ : Int) (w : World) (ha : a.size ≤ maxLen) (ht : t.size ≤ maxLen) (ho : o.size ≤ maxLen) (hv : v.size ≤ maxLen)
    (h : 100 < a.size ∨ 100 < o.size ∨ 5000 < t.size ∨ 5000 < v.size ∨ at_ < 0 ∨ 15 < at_) :
    Calls Try.prog 6 #[.string a, .string t, .string o, .string v, .int .i64 at_] w fun e w' => e = .returned (.bool true) ∧ Below w.heap.size w w' := by
  unfold maxLen at ha ht ho hv
  have hx : 100 < a.size ∨ (a.size ≤ 100 ∧ 100 < o.size) ∨ (a.size ≤ 100 ∧ o.size ≤ 100 ∧ 5000 < t.size) ∨ (a.size ≤ 100 ∧ o.size ≤ 100 ∧ t.size ≤ 5000 ∧ 5000 < v.size) ∨ (a.size ≤ 100 ∧ o.size ≤ 100 ∧ t.size ≤ 5000 ∧ v.size ≤ 5000 ∧ at_ < 0) ∨ (a.size ≤ 100 ∧ o.size ≤ 100 ∧ t.size ≤ 5000 ∧ v.size ≤ 5000 ∧ 0 ≤ at_ ∧ 15 < at_) := by omega
  clear h
  rcases hx with h | h | h | h | h | h
  all_goals
    go_enter Try.func6, Try.ntmps6
    go_wp2_with fail
    refine (awake_any _).mono ?_
    rintro e w1 ⟨rfl, hb1⟩
    go_wp2_with fail
    go_ret
    exact ⟨rfl, hb1⟩

set_option maxHeartbeats 1000000 in
set_option maxRecDepth 100000 in
theorem apart_no (a t o v : ByteArray) (at_ : Int) (w : World) (ha : a.size ≤ 100) (ht : t.size ≤ 5000) (ho : o.size ≤ 100) (hv : v.size ≤ 5000) (h0 : 0 ≤ at_) (h1 : at_ ≤ 15) (hok : okN (a, t) = false) :
    Calls Try.prog 6 #[.string a, .string t, .string o, .string v, .int .i64 at_] w fun e w' => e = .returned (.bool true) ∧ Below w.heap.size w w' := by
  have hsg : sgnN (a, t) = ⟨#[]⟩ := by simp [sgnN, hok]
  have hpt : putN [] (a, t) = [] := by simp [putN, hok]
  have hhn : hasN [] (a, t) = false := rfl
  have hcs : nameB a.data.toList = false ∨ (nameB a.data.toList = true ∧ 4096 < t.size) := by
    cases hn : nameB a.data.toList
    · exact .inl rfl
    · refine .inr ⟨rfl, ?_⟩
      simp [okN, hn] at hok
      omega
  have Hsg := Lib.hid hsg
  have Hpt := Lib.hid hpt
  have Hhn := Lib.hid hhn
  clear hsg hpt hhn hok
  rcases hcs with hn | ⟨hn, h4⟩
  all_goals
    go_enter Try.func6, Try.ntmps6
    go_wp2_with fail
    refine (awake_any _).mono ?_
    rintro e w1 ⟨rfl, hb1⟩
    go_wp2_with fail
    refine (new_any _).mono ?_
    rintro e w2 ⟨rfl, hN2, hb2, hs2⟩
    have Hs2 := Lib.hid hs2
    clear hs2
    go_wp2_with fail
    refine (notarySign_any (a, t) _ _ _ _ hN2 (by simpa using ha) (by simpa using ht) (by decide)).mono ?_
    rintro e w3 ⟨rfl, hN3, hg3⟩
    rw [Hsg.out]
    rw [Hpt.out] at hN3
    go_wp2_with fail
    refine (refName_any a _ (by unfold maxLen; omega)).mono ?_
    rintro e w' ⟨rfl, rfl⟩
    go_wp2_with fail
    refine (holds_any (a, t) _ _ _ _ _ hN3 (by simp; omega) (by simp; omega)).mono ?_
    rintro e w4 ⟨rfl, hb4⟩
    rw [Hhn.out]
    go_wp2
    go_ret
    have b2 := hb1.trans (hb2.mono hb1.size)
    have b3 : Below w.heap.size w w3 := b2.grown hg3 b2.size (fun j hj => by cases hj; exact hb1.size)
    exact ⟨rfl, b3.trans (hb4.mono b3.size)⟩
end Go.Proofs.Ytlbenmndmoeioaa
