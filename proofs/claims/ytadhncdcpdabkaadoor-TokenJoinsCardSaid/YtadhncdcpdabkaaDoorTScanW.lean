/- token.Scan: its walk. -/
import Derived.Test.YtadhncdcpdabkaaDoorTStep2
import Derived.Test.YtadhncdcpdabkaaDoorTLaws
import Derived.Deep.AppendLies
namespace Go.Proofs.YtadhncdcpdabkaaDoor
open Go.RowKit Go.Lib
set_option linter.unusedVariables false

/-- the cells of tokens -/
def tokC (t : Tok) : List Value := [.int .i64 (t.kind : Int), .int .i64 (t.place : Int), .string ⟨t.text.toArray⟩]
def cellsT (T : List Tok) : List Value := T.flatMap tokC
theorem cellsT_cons (t : Tok) (T : List Tok) : cellsT (t :: T) = tokC t ++ cellsT T := rfl
theorem cellsT_snoc (T : List Tok) (t : Tok) : cellsT (T ++ [t]) = cellsT T ++ tokC t := by simp [cellsT]
theorem cellsT_at : ∀ (T : List Tok) (i : Nat) (t : Tok), T[i]? = some t → (cellsT T)[i * 3]? = some (.int .i64 (t.kind : Int)) ∧ (cellsT T)[i * 3 + 1]? = some (.int .i64 (t.place : Int)) ∧ (cellsT T)[i * 3 + 2]? = some (.string ⟨t.text.toArray⟩)
  | [], i, t, h => by simp at h
  | u :: T, 0, t, h => by simp at h; subst h; exact ⟨rfl, rfl, rfl⟩
  | u :: T, i + 1, t, h => by
    have := cellsT_at T i t (by simpa using h)
    have e : cellsT (u :: T) = .int .i64 (u.kind : Int) :: .int .i64 (u.place : Int) :: .string ⟨u.text.toArray⟩ :: cellsT T := rfl
    rw [e]
    have e0 : (i + 1) * 3 = i * 3 + 1 + 1 + 1 := by omega
    have e1 : (i + 1) * 3 + 1 = i * 3 + 1 + 1 + 1 + 1 := by omega
    have e2 : (i + 1) * 3 + 2 = i * 3 + 2 + 1 + 1 + 1 := by omega
    rw [e1, e2, e0]
    exact this
/-- the slice's elements are the tokens T, in blocks below B -/
def Rt (w : World) (B : Nat) (A : Option Addr) (T : List Tok) : Prop :=
  0 < T.length → ∃ g off, A = some ⟨g, off, none⟩ ∧ g < B ∧ ∀ i t, T[i]? = some t → w.cell? ⟨g, off + i * 3, none⟩ = some (.int .i64 (t.kind : Int)) ∧ w.cell? ⟨g, off + i * 3 + 1, none⟩ = some (.int .i64 (t.place : Int)) ∧ w.cell? ⟨g, off + i * 3 + 2, none⟩ = some (.string ⟨t.text.toArray⟩)
section
variable {w w' : World} {B B' : Nat} {A : Option Addr} {T : List Tok}
theorem Rt.keep (h : Rt w B A T) (hk : ∀ p : Addr, p.block < B → w'.cell? p = w.cell? p) : Rt w' B A T := fun hl => by
  obtain ⟨g, off, e, hg, hc⟩ := h hl
  exact ⟨g, off, e, hg, fun i x hx => ⟨(hk _ hg).trans (hc i x hx).1, (hk _ hg).trans (hc i x hx).2.1, (hk _ hg).trans (hc i x hx).2.2⟩⟩
theorem Rt.more (h : Rt w B A T) (hB : B ≤ B') : Rt w B' A T := fun hl => by
  obtain ⟨g, off, e, hg, hc⟩ := h hl
  exact ⟨g, off, e, by omega, hc⟩
theorem Rt.below (h : Rt w B A T) (hb : Below B w w') : Rt w' B A T := h.keep fun _ hp => hb.cell hp
theorem Rt.all (h : Rt w w.heap.size A T) (hb : Below w.heap.size w w') : Rt w' w'.heap.size A T := (h.below hb).more hb.size
theorem Rt.at_ (h : Rt w B A T) {k : Nat} (hk : k < T.length) : ∃ g off, A = some ⟨g, off, none⟩ ∧ g < B ∧ w.cell? ⟨g, off + k * 3, none⟩ = some (.int .i64 (T[k].kind : Int)) ∧ w.cell? ⟨g, off + k * 3 + 1, none⟩ = some (.int .i64 (T[k].place : Int)) ∧ w.cell? ⟨g, off + k * 3 + 2, none⟩ = some (.string ⟨T[k].text.toArray⟩) := by
  obtain ⟨g, off, e, hg, hc⟩ := h (by omega)
  have := hc k _ (List.getElem?_eq_getElem hk)
  exact ⟨g, off, e, hg, this.1, this.2.1, this.2.2⟩
end
theorem Rt.of_row {w : World} {base c : Nat} {e : TypeId} {A : Option Addr} {T : List Tok} (h : w.ownsRow base e 3 (.slice A T.length c) T.length (cellsT T)) : Rt w w.heap.size A T := fun hl => by
  rcases h.2 with ⟨h0, hn⟩ | ⟨g, cap, cur, he, h6⟩
  · rw [hn] at hl; exact absurd hl (by decide)
  · injection he with e1 _ e3
    subst e1 e3
    refine ⟨g, 0, rfl, (h.lt g rfl).2, fun i x hx => ?_⟩
    obtain ⟨h1, h2, h3⟩ := cellsT_at T i x hx
    have hc := h.cells (g := g) rfl
    have ha : ∀ k, (⟨g, 0, none⟩ : Addr).add k = ⟨g, 0 + k, none⟩ := by
      intro k
      by_cases e : k = 0
      · subst e; simp [Addr.add]
      · simp [Addr.add, e]
    have e1 := hc _ _ h1
    have e2 := hc _ _ h2
    have e3 := hc _ _ h3
    rw [ha] at e1 e2 e3
    exact ⟨e1, by rw [Nat.add_assoc]; exact e2, by rw [Nat.add_assoc]; exact e3⟩

theorem tok_info : (Tryd.prog.info? 31).map (fun i => (i.zero, i.size, i.bytes)) = some (some (.agg #[.int .i64 0, .int .i64 0, .string ⟨#[]⟩]), 3, 32) := by kernel_rfl

section
variable {s : ByteArray} {i n : Nat}
theorem tw_runTo : ((s.data.toList.drop i).takeWhile blank).length = runTo blank s i - i := by unfold runTo; omega
theorem drop_runTo : (s.data.toList.drop i).drop ((s.data.toList.drop i).takeWhile blank).length = s.data.toList.drop (runTo blank s i) := by
  rw [List.drop_drop]; rfl
theorem step_end (h : s.size ≤ runTo blank s i) : scan n i (s.data.toList.drop i) = .ok [] :=
  scan_end (by rw [drop_runTo]; exact List.drop_eq_nil_of_le (by simpa using h))
theorem drop_ne {j : Nat} (h : j < s.size) : s.data.toList.drop j ≠ [] := by rw [drop_at s j h]; simp
theorem place_eq : i + ((s.data.toList.drop i).takeWhile blank).length = runTo blank s i := rfl
theorem step_full (h : runTo blank s i < s.size) (hn : 4096 ≤ n) : scan n i (s.data.toList.drop i) = .error (runTo blank s i, 7) := by
  rw [scan_full (by rw [drop_runTo]; exact drop_ne h) hn, place_eq]
theorem step_bad {e : Nat} (h : runTo blank s i < s.size) (hn : n < 4096) (ho : one (s.data.toList.drop (runTo blank s i)) = .bad e) : scan n i (s.data.toList.drop i) = .error (runTo blank s i, e) := by
  rw [scan_bad (by rw [drop_runTo]; exact drop_ne h) hn (by rw [drop_runTo]; exact ho), place_eq]
theorem step_tok {k m : Nat} {t : Bs} (hn : n < 4096) (ho : one (s.data.toList.drop (runTo blank s i)) = .tok k t m) :
    scan n i (s.data.toList.drop i) = (scan (n + 1) (runTo blank s i + m) (s.data.toList.drop (runTo blank s i + m))).map (⟨k, runTo blank s i, t⟩ :: ·) := by
  rw [scan_tok hn (by rw [drop_runTo]; exact ho), place_eq, drop_runTo, List.drop_drop]
end
/-- so far T, the rest from i on -/
def Sofar (s : ByteArray) (T : List Tok) (i : Nat) : Prop := scan 0 0 s.data.toList = (scan T.length i (s.data.toList.drop i)).map (T ++ ·)
theorem sofar_start (s : ByteArray) : Sofar s [] 0 := by
  unfold Sofar
  simp only [List.length_nil, List.drop_zero, List.nil_append]
  cases scan 0 0 s.data.toList <;> rfl
theorem sofar_end {s : ByteArray} {T : List Tok} {i : Nat} (h : Sofar s T i) (he : s.size ≤ runTo blank s i) : scan 0 0 s.data.toList = .ok T := by
  rw [h, step_end he]
  show Except.ok (T ++ []) = _
  rw [List.append_nil]
theorem sofar_err {s : ByteArray} {T : List Tok} {i a e : Nat} (h : Sofar s T i) (he : scan T.length i (s.data.toList.drop i) = .error (a, e)) : scan 0 0 s.data.toList = .error (a, e) := by
  rw [h, he]; rfl
theorem sofar_tok {s : ByteArray} {T : List Tok} {i k m : Nat} {t : Bs} (h : Sofar s T i) (hn : T.length < 4096) (ho : one (s.data.toList.drop (runTo blank s i)) = .tok k t m) : Sofar s (T ++ [⟨k, runTo blank s i, t⟩]) (runTo blank s i + m) := by
  unfold Sofar
  rw [h, step_tok hn ho, List.length_append]
  cases scan (T.length + 1) (runTo blank s i + m) (s.data.toList.drop (runTo blank s i + m)) with
  | error z => rfl
  | ok U => simp [Except.map]

theorem cap_of_row {w : World} {base c n : Nat} {e : TypeId} {A : Option Addr} {xs : List Value} (h : w.ownsRow base e 3 (.slice A n c) n xs) : n ≤ c := by
  rcases h.2 with ⟨h0, hn⟩ | ⟨g, cap, cur, he, _, _, hc, _⟩
  · omega
  · injection he with _ _ e3; omega
theorem form_of_row {w : World} {base c n : Nat} {e : TypeId} {A : Option Addr} {xs : List Value} (h : w.ownsRow base e 3 (.slice A n c) n xs) : (A = none ∧ c = 0) ∨ ∃ g, A = some ⟨g, 0, none⟩ := by
  rcases h.2 with ⟨h0, hn⟩ | ⟨g, cap, cur, he, _⟩
  · injection h0 with e1 _ e3; exact .inl ⟨e1, e3⟩
  · injection he with e1; exact .inr ⟨g, e1⟩
/-- with the capacity -/
def ScanPostC (s : ByteArray) (w : World) (e : Ending) (w' : World) : Prop :=
  Below w.heap.size w w' ∧
  ((∃ T A c, scan 0 0 s.data.toList = .ok T ∧ e = .returned (.tuple #[.slice A T.length c, .int .i64 (s.size : Int), .int .i64 0]) ∧ Rt w' w'.heap.size A T ∧ T.length ≤ c ∧ ((A = none ∧ c = 0) ∨ ∃ g, A = some ⟨g, 0, none⟩)) ∨
   (∃ a er : Nat, scan 0 0 s.data.toList = .error (a, er) ∧ e = .returned (.tuple #[.slice none 0 0, .int .i64 (a : Int), .int .i64 (er : Int)])))
def ScanPost (s : ByteArray) (w : World) (e : Ending) (w' : World) : Prop :=
  Below w.heap.size w w' ∧
  ((∃ T A c, scan 0 0 s.data.toList = .ok T ∧ e = .returned (.tuple #[.slice A T.length c, .int .i64 (s.size : Int), .int .i64 0]) ∧ Rt w' w'.heap.size A T) ∨
   (∃ a er : Nat, scan 0 0 s.data.toList = .error (a, er) ∧ e = .returned (.tuple #[.slice none 0 0, .int .i64 (a : Int), .int .i64 (er : Int)])))

set_option maxHeartbeats 4000000 in
set_option maxRecDepth 100000 in
theorem scan_capped (s : ByteArray) (w : World) (hW : Wd w) (hs : s.size ≤ 1000000000) : Calls Tryd.prog 11 #[.string s] w (ScanPostC s w) := by
  have hw0 := hW.lt
  obtain ⟨i0, hi0, hz0, hz1, hz2⟩ := info_parts tok_info
  go_enter Tryd.func11, Tryd.ntmps11
  go_wp2_with fail
  go_loopg [5] (s.size + 1) (fun n v wr => ∃ T i A c, n = s.size + 1 - i ∧ i ≤ s.size ∧ v = .slice A T.length c ∧ wr.ownsRow (w.heap.size + 1) 31 3 (.slice A T.length c) T.length (cellsT T) ∧ Sc wr w.heap.size s i ∧ Hid (Sofar s T i) ∧ T.length ≤ 4096 ∧ Hid (Below w.heap.size w wr))
  case atStart => exact ⟨[], 0, none, 0, by omega, Nat.zero_le _, rfl, World.ownsRow_nil _ _ _ _, ⟨heap_alloc_new w _⟩, Lib.hid (sofar_start s), by simp, Lib.hid ((Below.refl _ _).alloc (Nat.le_refl _) _)⟩
  case round =>
    obtain ⟨T, i, A, c, rfl, hi, rfl, hown, hS, HF, hT, Hb⟩ := hrel
    have hge := runTo_ge blank s i
    have hle := runTo_le blank hi
    have hWr := hW.below Hb.out hw0
    have hzr : w.heap.size < wr.heap.size := hS.lt
    go_wp2_with fail
    refine (run_any 24 blank (enters_of Tryd.func24 (by kernel_rfl) rfl) isBlank_any s w.heap.size i _ hs hi hS).mono ?_
    rintro e w1 ⟨rfl, hS1, hg1⟩
    have hne : (Value.slice A T.length c).ownBlock ≠ some w.heap.size := by
      intro h
      have := (hown.lt _ h).1
      omega
    have hown1 := hown.kept hg1 (.inr hne)
    have Hb1 := Lib.hid (Hb.out.grown hg1 (by omega) (fun k hk => by cases hk; omega))
    have hz1' : wr.heap.size ≤ w1.heap.size := hg1.size
    have hW1 := hW.below Hb1.out hw0
    have c1 := hS1.c1
    clear hown hS hg1 hWr Hb
    by_cases he : s.size ≤ runTo blank s i
    · have HD := Lib.hid (sofar_end HF.out he)
      have he' : (s.size : Int) ≤ (runTo blank s i : Int) := by omega
      generalize runTo blank s i = j at *
      go_wp2_with fail
      go_ret3
      exact ⟨Hb1.out, .inl ⟨T, A, c, HD.out, rfl, Rt.of_row hown1, cap_of_row hown1, form_of_row hown1⟩⟩
    · by_cases hfull : 4096 ≤ T.length
      · have HD := Lib.hid (sofar_err HF.out (step_full (by omega) hfull))
        generalize runTo blank s i = j at *
        go_wp2_with fail
        go_ret3
        exact ⟨Hb1.out, .inr ⟨_, _, HD.out, rfl⟩⟩
      · have HB := Lib.hid (fun e ho => sofar_err HF.out (step_bad (e := e) (by omega) (by omega) ho))
        have HT := Lib.hid (fun k m t ho => sofar_tok (k := k) (m := m) (t := t) HF.out (by omega) ho)
        clear HF
        generalize runTo blank s i = j at *
        have hj : j < s.size := by omega
        go_wp2_with fail
        refine (next_any s w.heap.size j _ hW1 (by omega) hs hj hS1).mono ?_
        rintro e w2 ⟨tv, code, j', rfl, hN, hS2, hg2⟩
        have hown2 := hown1.kept hg2 (.inr hne)
        have hz2' : w1.heap.size ≤ w2.heap.size := hg2.size
        have Hb2 := Lib.hid (Hb1.out.grown hg2 (by omega) (fun k hk => by cases hk; omega))
        clear hown1 hS1 hg2 hW1 Hb1 c1
        rcases hN with ⟨k, t, m, ho, rfl, rfl, rfl⟩ | ⟨er, ho, rfl, hne0, x, y, z, rfl⟩
        · have HD := Lib.hid (HT.out k m t ho)
          have hm := one_len ho
          have hlen : (s.data.toList.drop j).length = s.size - j := by simp
          rw [hlen] at hm
          clear HB HT ho hlen
          have hnew : ((w2.alloc (.cells #[.int .i64 (k : Int), .int .i64 (j : Int), .string ⟨t.toArray⟩] 31)).alloc (.cells #[.int .i64 (k : Int), .int .i64 (j : Int), .string ⟨t.toArray⟩] 31)).heap[w2.heap.size + 1]? = some (.cells #[.int .i64 (k : Int), .int .i64 (j : Int), .string ⟨t.toArray⟩] 31 (0, 0)) := heap_alloc2_new w2 _ _
          have Hnew := Lib.hid hnew
          clear hnew
          go_wp2_with (first
            | (at_builtin; refine wpList_append_own _ rfl _ _ 23 rfl (w.heap.size + 1) 31 i0 _ 3 32 Tryd.underlying23 hi0 hz0 hz1 hz2 rfl (by decide) _ _ _ rfl ((hown2.alloc _).alloc _) ⟨w2.heap.size + 1, 0, none⟩ 1 1 [.int .i64 (k : Int), .int .i64 (j : Int), .string ⟨t.toArray⟩] rfl rfl (World.news_of_block (cs := #[.int .i64 (k : Int), .int .i64 (j : Int), .string ⟨t.toArray⟩]) (t := 31) (fr := (0, 0)) Hnew.out) (by simp [Value.oneCell']) (by unfold maxLen; omega) (by omega) (by simp; omega) ?_; intro v3 w3 hown3 hg3 hnil3))
          obtain ⟨A3, c3, rfl⟩ : ∃ A3 c3, v3 = .slice A3 (T.length + 1) c3 := by
            rcases hown3.2 with ⟨h0, hn⟩ | ⟨g, cap, cur, he, _⟩
            · omega
            · exact ⟨_, _, he⟩
          go_roundg (s.size + 1 - (j + m))
          case measure => omega
          case rel =>
            have hb2 : Below w.heap.size w ((w2.alloc (.cells #[.int .i64 (k : Int), .int .i64 (j : Int), .string ⟨t.toArray⟩] 31)).alloc (.cells #[.int .i64 (k : Int), .int .i64 (j : Int), .string ⟨t.toArray⟩] 31)) := (Hb2.out.alloc (by omega) _).alloc (by simp; omega) _
            refine ⟨T ++ [⟨k, j, t⟩], j + m, A3, c3, rfl, by omega, by simp, ?_, ?_, HD, by simp; omega, Lib.hid (hb2.grown hg3 (by simp; omega) (fun q hq => by have := (hown2.lt q hq).1; omega))⟩
            · rw [cellsT_snoc, List.length_append]; exact hown3
            · exact ((hS2.alloc _).alloc _).kept hg3 (fun h => hne h.symm)
        · have HD := Lib.hid (HB.out er ho)
          have hc : ((er : Int) != 0) = true := by simp; omega
          clear HB HT ho
          go_wp2_with fail
          go_ret3
          exact ⟨Hb2.out.alloc (by omega) _, .inr ⟨_, _, HD.out, rfl⟩⟩
theorem scan_any (s : ByteArray) (w : World) (hW : Wd w) (hs : s.size ≤ 1000000000) : Calls Tryd.prog 11 #[.string s] w (ScanPost s w) :=
  (scan_capped s w hW hs).mono fun e w' ⟨hb, hp⟩ => ⟨hb, by
    rcases hp with ⟨T, A, c, h1, h2, h3, _⟩ | h
    · exact .inl ⟨T, A, c, h1, h2, h3⟩
    · exact .inr h⟩
end Go.Proofs.YtadhncdcpdabkaaDoor
