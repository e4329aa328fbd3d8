/- token.Scan: its walk. The words: the document's list. The document's small functions: digits, above, in. The document's 'one': the token at a place. -/
import Derived.Test.YtbkffdfboloogaaGreatDoorMI
import Derived.Test.YtbkffdfboloogaaGreatDoorMA
import Derived.Deep.AppendLies
import Derived.Test.YtbkffdfboloogaaGreatDoorMH
import Derived.Test.YtbkffdfboloogaaGreatDoorTAbove
namespace Go.Proofs.YtbkffdfboloogaaGreatDoor
open Go.RowKit Go.Lib
set_option linter.unusedVariables false

/-- the cells of tokens -/
def tokC (t : Tok) : List Value := [.int .i64 (t.kind : Int), .int .i64 (t.place : Int), .string ⟨t.text.toArray⟩]
def cellsT (T : List Tok) : List Value := T.flatMap tokC
theorem cellsT_cons (t : Tok) (T : List Tok) : cellsT (t :: T) = tokC t ++ cellsT T := rfl
theorem cellsT_snoc (T : List Tok) (t : Tok) : cellsT (T ++ [t]) = cellsT T ++ tokC t := by simp [cellsT]
theorem cellsT_at : ∀ (T : List Tok) (i : Nat) (t : Tok), T[i]? = some t → (cellsT T)[i * 3]? = some (.int .i64 (t.kind : Int)) ∧ (cellsT T)[i * 3 + 1]? = some (.int .i64 (t.place : Int)) ∧ (cellsT T)[i * 3 + 2]? = some (.string ⟨t.text.toArray⟩)
  | [], i, t, h => by simp at h
  | u :: T, 0, t, h => by simp at h; subst h; exact ⟨rfl, rfl, rfl⟩
  | u :: T, i + 1, t, h => by
    have := cellsT_at T i t (by simpa using h)
    have e : cellsT (u :: T) = .int .i64 (u.kind : Int) :: .int .i64 (u.place : Int) :: .string ⟨u.text.toArray⟩ :: cellsT T := rfl
    rw [e]
    have e0 : (i + 1) * 3 = i * 3 + 1 + 1 + 1 := by omega
    have e1 : (i + 1) * 3 + 1 = i * 3 + 1 + 1 + 1 + 1 := by omega
    have e2 : (i + 1) * 3 + 2 = i * 3 + 2 + 1 + 1 + 1 := by omega
    rw [e1, e2, e0]
    exact this
/-- the slice's elements are the tokens T, in blocks below B -/
def Rt (w : World) (B : Nat) (A : Option Addr) (T : List Tok) : Prop :=
  0 < T.length → ∃ g off, A = some ⟨g, off, none⟩ ∧ g < B ∧ ∀ i t, T[i]? = some t → w.cell? ⟨g, off + i * 3, none⟩ = some (.int .i64 (t.kind : Int)) ∧ w.cell? ⟨g, off + i * 3 + 1, none⟩ = some (.int .i64 (t.place : Int)) ∧ w.cell? ⟨g, off + i * 3 + 2, none⟩ = some (.string ⟨t.text.toArray⟩)
section
variable {w w' : World} {B B' : Nat} {A : Option Addr} {T : List Tok}
theorem Rt.keep (h : Rt w B A T) (hk : ∀ p : Addr, p.block < B → w'.cell? p = w.cell? p) : Rt w' B A T := fun hl => by
  obtain ⟨g, off, e, hg, hc⟩ := h hl
  exact ⟨g, off, e, hg, fun i x hx => ⟨(hk _ hg).trans (hc i x hx).1, (hk _ hg).trans (hc i x hx).2.1, (hk _ hg).trans (hc i x hx).2.2⟩⟩
theorem Rt.more (h : Rt w B A T) (hB : B ≤ B') : Rt w B' A T := fun hl => by
  obtain ⟨g, off, e, hg, hc⟩ := h hl
  exact ⟨g, off, e, by omega, hc⟩
theorem Rt.below (h : Rt w B A T) (hb : Below B w w') : Rt w' B A T := h.keep fun _ hp => hb.cell hp
theorem Rt.all (h : Rt w w.heap.size A T) (hb : Below w.heap.size w w') : Rt w' w'.heap.size A T := (h.below hb).more hb.size
theorem Rt.at_ (h : Rt w B A T) {k : Nat} (hk : k < T.length) : ∃ g off, A = some ⟨g, off, none⟩ ∧ g < B ∧ w.cell? ⟨g, off + k * 3, none⟩ = some (.int .i64 (T[k].kind : Int)) ∧ w.cell? ⟨g, off + k * 3 + 1, none⟩ = some (.int .i64 (T[k].place : Int)) ∧ w.cell? ⟨g, off + k * 3 + 2, none⟩ = some (.string ⟨T[k].text.toArray⟩) := by
  obtain ⟨g, off, e, hg, hc⟩ := h (by omega)
  have := hc k _ (List.getElem?_eq_getElem hk)
  exact ⟨g, off, e, hg, this.1, this.2.1, this.2.2⟩
end
theorem Rt.of_row {w : World} {base c : Nat} {e : TypeId} {A : Option Addr} {T : List Tok} (h : w.ownsRow base e 3 (.slice A T.length c) T.length (cellsT T)) : Rt w w.heap.size A T := fun hl => by
  rcases h.2 with ⟨h0, hn⟩ | ⟨g, cap, cur, he, h6⟩
  · rw [hn] at hl; exact absurd hl (by decide)
  · injection he with e1 _ e3
    subst e1 e3
    refine ⟨g, 0, rfl, (h.lt g rfl).2, fun i x hx => ?_⟩
    obtain ⟨h1, h2, h3⟩ := cellsT_at T i x hx
    have hc := h.cells (g := g) rfl
    have ha : ∀ k, (⟨g, 0, none⟩ : Addr).add k = ⟨g, 0 + k, none⟩ := by
      intro k
      by_cases e : k = 0
      · subst e; simp [Addr.add]
      · simp [Addr.add, e]
    have e1 := hc _ _ h1
    have e2 := hc _ _ h2
    have e3 := hc _ _ h3
    rw [ha] at e1 e2 e3
    exact ⟨e1, by rw [Nat.add_assoc]; exact e2, by rw [Nat.add_assoc]; exact e3⟩

theorem tok_info : (Tryz.prog.info? 142).map (fun i => (i.zero, i.size, i.bytes)) = some (some (.agg #[.int .i64 0, .int .i64 0, .string ⟨#[]⟩]), 3, 32) := by kernel_rfl

section
variable {s : ByteArray} {i n : Nat}
theorem tw_runTo : ((s.data.toList.drop i).takeWhile blank).length = runTo blank s i - i := by unfold runTo; omega
theorem drop_runTo : (s.data.toList.drop i).drop ((s.data.toList.drop i).takeWhile blank).length = s.data.toList.drop (runTo blank s i) := by
  rw [List.drop_drop]; rfl
theorem step_end (h : s.size ≤ runTo blank s i) : scan n i (s.data.toList.drop i) = .ok [] :=
  scan_end (by rw [drop_runTo]; exact List.drop_eq_nil_of_le (by simpa using h))
theorem drop_ne {j : Nat} (h : j < s.size) : s.data.toList.drop j ≠ [] := by rw [drop_at s j h]; simp
theorem place_eq : i + ((s.data.toList.drop i).takeWhile blank).length = runTo blank s i := rfl
theorem step_full (h : runTo blank s i < s.size) (hn : 4096 ≤ n) : scan n i (s.data.toList.drop i) = .error (runTo blank s i, 7) := by
  rw [scan_full (by rw [drop_runTo]; exact drop_ne h) hn, place_eq]
theorem step_bad {e : Nat} (h : runTo blank s i < s.size) (hn : n < 4096) (ho : one (s.data.toList.drop (runTo blank s i)) = .bad e) : scan n i (s.data.toList.drop i) = .error (runTo blank s i, e) := by
  rw [scan_bad (by rw [drop_runTo]; exact drop_ne h) hn (by rw [drop_runTo]; exact ho), place_eq]
theorem step_tok {k m : Nat} {t : Bs} (hn : n < 4096) (ho : one (s.data.toList.drop (runTo blank s i)) = .tok k t m) :
    scan n i (s.data.toList.drop i) = (scan (n + 1) (runTo blank s i + m) (s.data.toList.drop (runTo blank s i + m))).map (⟨k, runTo blank s i, t⟩ :: ·) := by
  rw [scan_tok hn (by rw [drop_runTo]; exact ho), place_eq, drop_runTo, List.drop_drop]
end
/-- so far T, the rest from i on -/
def Sofar (s : ByteArray) (T : List Tok) (i : Nat) : Prop := scan 0 0 s.data.toList = (scan T.length i (s.data.toList.drop i)).map (T ++ ·)
theorem sofar_start (s : ByteArray) : Sofar s [] 0 := by
  unfold Sofar
  simp only [List.length_nil, List.drop_zero, List.nil_append]
  cases scan 0 0 s.data.toList <;> rfl
theorem sofar_end {s : ByteArray} {T : List Tok} {i : Nat} (h : Sofar s T i) (he : s.size ≤ runTo blank s i) : scan 0 0 s.data.toList = .ok T := by
  rw [h, step_end he]
  show Except.ok (T ++ []) = _
  rw [List.append_nil]
theorem sofar_err {s : ByteArray} {T : List Tok} {i a e : Nat} (h : Sofar s T i) (he : scan T.length i (s.data.toList.drop i) = .error (a, e)) : scan 0 0 s.data.toList = .error (a, e) := by
  rw [h, he]; rfl
theorem sofar_tok {s : ByteArray} {T : List Tok} {i k m : Nat} {t : Bs} (h : Sofar s T i) (hn : T.length < 4096) (ho : one (s.data.toList.drop (runTo blank s i)) = .tok k t m) : Sofar s (T ++ [⟨k, runTo blank s i, t⟩]) (runTo blank s i + m) := by
  unfold Sofar
  rw [h, step_tok hn ho, List.length_append]
  cases scan (T.length + 1) (runTo blank s i + m) (s.data.toList.drop (runTo blank s i + m)) with
  | error z => rfl
  | ok U => simp [Except.map]

theorem cap_of_row {w : World} {base c n : Nat} {e : TypeId} {A : Option Addr} {xs : List Value} (h : w.ownsRow base e 3 (.slice A n c) n xs) : n ≤ c := by
  rcases h.2 with ⟨h0, hn⟩ | ⟨g, cap, cur, he, _, _, hc, _⟩
  · omega
  · injection he with _ _ e3; omega
theorem form_of_row {w : World} {base c n : Nat} {e : TypeId} {A : Option Addr} {xs : List Value} (h : w.ownsRow base e 3 (.slice A n c) n xs) : (A = none ∧ c = 0) ∨ ∃ g, A = some ⟨g, 0, none⟩ := by
  rcases h.2 with ⟨h0, hn⟩ | ⟨g, cap, cur, he, _⟩
  · injection h0 with e1 _ e3; exact .inl ⟨e1, e3⟩
  · injection he with e1; exact .inr ⟨g, e1⟩
/-- with the capacity -/
def ScanPostC (s : ByteArray) (w : World) (e : Ending) (w' : World) : Prop :=
  Below w.heap.size w w' ∧
  ((∃ T A c, scan 0 0 s.data.toList = .ok T ∧ e = .returned (.tuple #[.slice A T.length c, .int .i64 (s.size : Int), .int .i64 0]) ∧ Rt w' w'.heap.size A T ∧ T.length ≤ c ∧ ((A = none ∧ c = 0) ∨ ∃ g, A = some ⟨g, 0, none⟩)) ∨
   (∃ a er : Nat, scan 0 0 s.data.toList = .error (a, er) ∧ e = .returned (.tuple #[.slice none 0 0, .int .i64 (a : Int), .int .i64 (er : Int)])))
def ScanPost (s : ByteArray) (w : World) (e : Ending) (w' : World) : Prop :=
  Below w.heap.size w w' ∧
  ((∃ T A c, scan 0 0 s.data.toList = .ok T ∧ e = .returned (.tuple #[.slice A T.length c, .int .i64 (s.size : Int), .int .i64 0]) ∧ Rt w' w'.heap.size A T) ∨
   (∃ a er : Nat, scan 0 0 s.data.toList = .error (a, er) ∧ e = .returned (.tuple #[.slice none 0 0, .int .i64 (a : Int), .int .i64 (er : Int)])))

set_option maxHeartbeats 4000000 in
set_option maxRecDepth 100000 in
theorem scan_capped (s : ByteArray) (w : World) (hW : Wd w) (hs : s.size ≤ 140737488351232) : Calls Tryz.prog 116 #[.string s] w (ScanPostC s w) := by
  have hw0 := hW.lt
  obtain ⟨i0, hi0, hz0, hz1, hz2⟩ := info_parts tok_info
  go_enter Tryz.func116, Tryz.ntmps116
  go_wp2_with fail
  go_loopg [5] (s.size + 1) (fun n v wr => ∃ T i A c, n = s.size + 1 - i ∧ i ≤ s.size ∧ v = .slice A T.length c ∧ wr.ownsRow (w.heap.size + 1) 142 3 (.slice A T.length c) T.length (cellsT T) ∧ Sc wr w.heap.size s i ∧ Hid (Sofar s T i) ∧ T.length ≤ 4096 ∧ Hid (Below w.heap.size w wr))
  case atStart => exact ⟨[], 0, none, 0, by omega, Nat.zero_le _, rfl, World.ownsRow_nil _ _ _ _, ⟨heap_alloc_new w _⟩, Lib.hid (sofar_start s), by simp, Lib.hid ((Below.refl _ _).alloc (Nat.le_refl _) _)⟩
  case round =>
    obtain ⟨T, i, A, c, rfl, hi, rfl, hown, hS, HF, hT, Hb⟩ := hrel
    have hge := runTo_ge blank s i
    have hle := runTo_le blank hi
    have hWr := hW.below Hb.out hw0
    have hzr : w.heap.size < wr.heap.size := hS.lt
    go_wp2_with fail
    refine (run_any 143 blank (enters_of Tryz.func143 (by kernel_rfl) rfl) isBlank_any s w.heap.size i _ hs hi hS).mono ?_
    rintro e w1 ⟨rfl, hS1, hg1⟩
    have hne : (Value.slice A T.length c).ownBlock ≠ some w.heap.size := by
      intro h
      have := (hown.lt _ h).1
      omega
    have hown1 := hown.kept hg1 (.inr hne)
    have Hb1 := Lib.hid (Hb.out.grown hg1 (by omega) (fun k hk => by cases hk; omega))
    have hz1' : wr.heap.size ≤ w1.heap.size := hg1.size
    have hW1 := hW.below Hb1.out hw0
    have c1 := hS1.c1
    clear hown hS hg1 hWr Hb
    by_cases he : s.size ≤ runTo blank s i
    · have HD := Lib.hid (sofar_end HF.out he)
      have he' : (s.size : Int) ≤ (runTo blank s i : Int) := by omega
      generalize runTo blank s i = j at *
      go_wp2_with fail
      go_ret3
      exact ⟨Hb1.out, .inl ⟨T, A, c, HD.out, rfl, Rt.of_row hown1, cap_of_row hown1, form_of_row hown1⟩⟩
    · by_cases hfull : 4096 ≤ T.length
      · have HD := Lib.hid (sofar_err HF.out (step_full (by omega) hfull))
        generalize runTo blank s i = j at *
        go_wp2_with fail
        go_ret3
        exact ⟨Hb1.out, .inr ⟨_, _, HD.out, rfl⟩⟩
      · have HB := Lib.hid (fun e ho => sofar_err HF.out (step_bad (e := e) (by omega) (by omega) ho))
        have HT := Lib.hid (fun k m t ho => sofar_tok (k := k) (m := m) (t := t) HF.out (by omega) ho)
        clear HF
        generalize runTo blank s i = j at *
        have hj : j < s.size := by omega
        go_wp2_with fail
        refine (next_any s w.heap.size j _ hW1 (by omega) hs hj hS1).mono ?_
        rintro e w2 ⟨tv, code, j', rfl, hN, hS2, hg2⟩
        have hown2 := hown1.kept hg2 (.inr hne)
        have hz2' : w1.heap.size ≤ w2.heap.size := hg2.size
        have Hb2 := Lib.hid (Hb1.out.grown hg2 (by omega) (fun k hk => by cases hk; omega))
        clear hown1 hS1 hg2 hW1 Hb1 c1
        rcases hN with ⟨k, t, m, ho, rfl, rfl, rfl⟩ | ⟨er, ho, rfl, hne0, x, y, z, rfl⟩
        · have HD := Lib.hid (HT.out k m t ho)
          have hm := one_len ho
          have hlen : (s.data.toList.drop j).length = s.size - j := by simp
          rw [hlen] at hm
          clear HB HT ho hlen
          have hnew : ((w2.alloc (.cells #[.int .i64 (k : Int), .int .i64 (j : Int), .string ⟨t.toArray⟩] 142)).alloc (.cells #[.int .i64 (k : Int), .int .i64 (j : Int), .string ⟨t.toArray⟩] 142)).heap[w2.heap.size + 1]? = some (.cells #[.int .i64 (k : Int), .int .i64 (j : Int), .string ⟨t.toArray⟩] 142 (0, 0)) := heap_alloc2_new w2 _ _
          have Hnew := Lib.hid hnew
          clear hnew
          go_wp2_with (first
            | (at_builtin; refine wpList_append_own _ rfl _ _ 138 rfl (w.heap.size + 1) 142 i0 _ 3 32 Tryz.underlying138 hi0 hz0 hz1 hz2 rfl (by decide) _ _ _ rfl ((hown2.alloc _).alloc _) ⟨w2.heap.size + 1, 0, none⟩ 1 1 [.int .i64 (k : Int), .int .i64 (j : Int), .string ⟨t.toArray⟩] rfl rfl (World.news_of_block (cs := #[.int .i64 (k : Int), .int .i64 (j : Int), .string ⟨t.toArray⟩]) (t := 142) (fr := (0, 0)) Hnew.out) (by simp [Value.oneCell']) (by unfold maxLen; omega) (by omega) (by simp; omega) ?_; intro v3 w3 hown3 hg3 hnil3))
          obtain ⟨A3, c3, rfl⟩ : ∃ A3 c3, v3 = .slice A3 (T.length + 1) c3 := by
            rcases hown3.2 with ⟨h0, hn⟩ | ⟨g, cap, cur, he, _⟩
            · omega
            · exact ⟨_, _, he⟩
          go_roundg (s.size + 1 - (j + m))
          case measure => omega
          case rel =>
            have hb2 : Below w.heap.size w ((w2.alloc (.cells #[.int .i64 (k : Int), .int .i64 (j : Int), .string ⟨t.toArray⟩] 142)).alloc (.cells #[.int .i64 (k : Int), .int .i64 (j : Int), .string ⟨t.toArray⟩] 142)) := (Hb2.out.alloc (by omega) _).alloc (by simp; omega) _
            refine ⟨T ++ [⟨k, j, t⟩], j + m, A3, c3, rfl, by omega, by simp, ?_, ?_, HD, by simp; omega, Lib.hid (hb2.grown hg3 (by simp; omega) (fun q hq => by have := (hown2.lt q hq).1; omega))⟩
            · rw [cellsT_snoc, List.length_append]; exact hown3
            · exact ((hS2.alloc _).alloc _).kept hg3 (fun h => hne h.symm)
        · have HD := Lib.hid (HB.out er ho)
          have hc : ((er : Int) != 0) = true := by simp; omega
          clear HB HT ho
          go_wp2_with fail
          go_ret3
          exact ⟨Hb2.out.alloc (by omega) _, .inr ⟨_, _, HD.out, rfl⟩⟩
theorem scan_any (s : ByteArray) (w : World) (hW : Wd w) (hs : s.size ≤ 140737488351232) : Calls Tryz.prog 116 #[.string s] w (ScanPost s w) :=
  (scan_capped s w hW hs).mono fun e w' ⟨hb, hp⟩ => ⟨hb, by
    rcases hp with ⟨T, A, c, h1, h2, h3, _⟩ | h
    · exact .inl ⟨T, A, c, h1, h2, h3⟩
    · exact .inr h⟩
end Go.Proofs.YtbkffdfboloogaaGreatDoor
namespace Go.Proofs.YtbkffdfboloogaaGreatDoor
open Go.RowKit Go.Lib
set_option linter.unusedVariables false

theorem grown_of_below {w w' : World} (hb : Below w.heap.size w w') (row : Option Nat) : w.grownBy w' row := ⟨hb.os, hb.tape, hb.output, hb.size, fun k hk _ => hb.block k hk⟩
theorem below_trans' {B : Nat} {a b c : World} (hB : B ≤ a.heap.size) (h : Below B a b) (k : Below b.heap.size b c) : Below B a c := h.trans (k.mono (Nat.le_trans hB h.size))
/-- block g holds the words -/
structure Wl (w : World) (g : Nat) : Prop where
  lt : g < w.heap.size
  at_ : ∀ k, k < 35 → w.cell? ⟨g, k, none⟩ = some (.string (wordB k))
theorem Wl.all {w w' : World} {g : Nat} (h : Wl w g) (hb : Below w.heap.size w w') : Wl w' g := ⟨Nat.lt_of_lt_of_le h.lt hb.size, fun k hk => (hb.cell (p := ⟨g, k, none⟩) h.lt).trans (h.at_ k hk)⟩
set_option maxHeartbeats 1000000 in
set_option maxRecDepth 100000 in
theorem refWords_any (w : World) : Calls Tryz.prog 165 #[] w fun e w' => e = .returned (.slice (some ⟨w.heap.size, 0, none⟩) 35 35) ∧ Wl w' w.heap.size ∧ Below w.heap.size w w' := by
  go_enter Tryz.func165, Tryz.ntmps165
  go_wp2_with fail
  go_ret
  refine ⟨rfl, ⟨by simp, fun k hk => ?_⟩, (Below.refl _ _).alloc (Nat.le_refl _) _⟩
  have h := wordCells_at k hk
  rw [← h]
  simp only [World.cell?, heap_alloc_new]
  rfl
theorem word_digits {S : Bs} (h : isWord S = true) : S.all digit = false := by
  have hall : ∀ x ∈ words, x.all digit = false := by decide +kernel
  exact hall S (by simpa [isWord] using h)
theorem word_kinds {S : Bs} : (∀ e, ranked S = .bad e → isWord S = false) ∧ (∀ k t m, ranked S = .tok k t m → t = S ∧ ((k = 0 ∧ isWord S = true) ∨ ((k = 1 ∨ k = 2) ∧ isWord S = false))) := by
  have hd : S.all digit = true → isWord S = false := fun h => by
    cases hw : isWord S
    · rfl
    · rw [word_digits hw] at h; cases h
  unfold ranked
  rw [show words.contains S = isWord S from rfl]
  constructor
  · intro e h
    split at h
    · exact hd (by assumption)
    · split at h
      · cases h
      · rename_i h2; simpa using h2
  · intro k t m h
    split at h
    · rename_i h1
      split at h
      · cases h
      · split at h
        · cases h
        · injection h with a b c; subst a b c; exact ⟨rfl, .inr ⟨.inr rfl, hd h1⟩⟩
    · split at h
      · rename_i h2; injection h with a b c; subst a b c; exact ⟨rfl, .inl ⟨rfl, h2⟩⟩
      · rename_i h2
        split at h
        · cases h
        · injection h with a b c; subst a b c; exact ⟨rfl, .inr ⟨.inl rfl, by simpa using h2⟩⟩
end Go.Proofs.YtbkffdfboloogaaGreatDoor
namespace Go.Proofs.YtbkffdfboloogaaGreatDoor
open Go.RowKit Go.Lib
set_option linter.unusedVariables false

theorem digs_snoc (s : ByteArray) (k : Nat) (h : k < s.size) : (s.data.toList.take (k + 1)).all digit = ((s.data.toList.take k).all digit && digit s[k]) := by
  rw [take_snoc s k h]; simp
theorem digs_bad (s : ByteArray) (k : Nat) (h : k < s.size) (hn : digit s[k] = false) : s.data.toList.all digit = false := by
  rw [List.all_eq_false]
  exact ⟨s[k], by show s.data[k] ∈ s.data.toList; simp, by simp [hn]⟩
def allD (l : Bs) : Bool := l.all digit

set_option maxHeartbeats 800000 in
theorem refDigits_any (s : ByteArray) (w : World) (hs : s.size ≤ 140737488351232) :
    Calls Tryz.prog 162 #[.string s] w fun e w' => e = .returned (.bool (allD s.data.toList)) ∧ w = w' := by
  go_enter Tryz.func162, Tryz.ntmps162
  go_wp2
  go_loop [3] (fun i => ∃ k : Nat, k ≤ s.size ∧ i = .int .i64 k ∧ Hid ((s.data.toList.take k).all digit = true)) (fun i => s.size - (intOf i).toNat)
  case atStart => exact ⟨0, Nat.zero_le _, rfl, Lib.hid (by simp)⟩
  case round =>
    obtain ⟨k, hk, rfl, Hk⟩ := hrel
    by_cases hlt : k < s.size
    · have HS := Lib.hid (digs_snoc s k hlt)
      have HB := Lib.hid (digs_bad s k hlt)
      have Hc := Lib.hid (digit_nat s[k])
      rcases (show s[k].toNat < 48 ∨ (48 ≤ s[k].toNat ∧ s[k].toNat ≤ 57) ∨ 57 < s[k].toNat by omega) with h | h | h
      all_goals
        first
          | have d48 : decide ((s[k].toNat : Int) < 48) = true := by simp; omega
          | have d48 : decide ((s[k].toNat : Int) < 48) = false := by simp; omega
        first
          | have d57 : decide (57 < (s[k].toNat : Int)) = true := by simp; omega
          | have d57 : decide (57 < (s[k].toNat : Int)) = false := by simp; omega
        go_wp2
        first
          | (go_round
             case rel => exact ⟨k + 1, by omega, by go_num, Lib.hid (by rw [HS.out, Hk.out, Hc.out]; simp; omega)⟩
             case measure => simp [intOf]; omega)
          | (go_ret
             exact ⟨by rw [allD, HB.out (by rw [Hc.out]; simp; omega)]; rfl, rfl⟩)
    · have ht : s.data.toList.take k = s.data.toList := List.take_of_length_le (by simp; omega)
      have Hw := Lib.hid (show allD s.data.toList = true by have := Hk.out; rw [ht] at this; exact this)
      clear ht
      go_wp2
      go_ret
      exact ⟨by rw [Hw.out]; rfl, rfl⟩

set_option maxHeartbeats 800000 in
theorem above_any (s : ByteArray) (w : World) (hs : s.size ≤ 140737488351232) :
    Calls Tryz.prog 163 #[.string s] w fun e w' => e = .returned (.bool (aboveL s.data.toList)) ∧ w = w' := by
  have hl : s.data.toList.length = s.size := by simp
  rcases Nat.lt_trichotomy s.size 13 with h | h | h
  · have HE := Lib.hid (show aboveL s.data.toList = false by unfold aboveL; rw [hl, decide_eq_false (by omega), decide_eq_false (by omega)]; rfl)
    have d1 : decide ((13 : Int) < (s.size : Int)) = false := by simp; omega
    have d2 : ((s.size : Int) == 13) = false := by simp; omega
    clear hl
    go_enter Tryz.func163, Tryz.ntmps163
    go_wp2
    go_ret
    exact ⟨by rw [HE.out]; rfl, rfl⟩
  · have HE := Lib.hid (show aboveL s.data.toList = !(Op.bytesLess s.data.toList mostL || s.data.toList == mostL) by unfold aboveL; rw [hl, decide_eq_false (by omega), decide_eq_true h]; rfl)
    have d1 : decide ((13 : Int) < (s.size : Int)) = false := by simp; omega
    have d2 : ((s.size : Int) == 13) = true := by simp; omega
    have Hs := Lib.hid (ByteArray.toList_eq (bs := s))
    clear hl h
    go_enter Tryz.func163, Tryz.ntmps163
    go_wp2
    go_ret
    exact ⟨by rw [HE.out, Bool.not_or, ← Hs.out]; rfl, rfl⟩
  · have HE := Lib.hid (show aboveL s.data.toList = true by unfold aboveL; rw [hl, decide_eq_true h]; rfl)
    have d1 : decide ((13 : Int) < (s.size : Int)) = true := by simp; omega
    clear hl
    go_enter Tryz.func163, Tryz.ntmps163
    go_wp2
    go_ret
    exact ⟨by rw [HE.out]; rfl, rfl⟩

/-- one of some texts? -/
def inW (xs : List ByteArray) (s : ByteArray) : Bool := xs.any fun x => eqB x s
theorem inL_snoc (xs : List ByteArray) (s : ByteArray) (k : Nat) (h : k < xs.length) : inW (xs.take (k + 1)) s = (inW (xs.take k) s || eqB xs[k] s) := by
  unfold inW
  rw [List.take_succ_eq_append_getElem h, List.any_append]
  simp only [List.any_cons, List.any_nil, Bool.or_false]
theorem inL_yes (xs : List ByteArray) (s : ByteArray) (k : Nat) (h : inW (xs.take k) s = true) : inW xs s = true := by
  unfold inW at *
  rw [List.any_eq_true] at *
  obtain ⟨x, hx, he⟩ := h
  exact ⟨x, List.mem_of_mem_take hx, he⟩

set_option maxHeartbeats 800000 in
set_option maxRecDepth 100000 in
theorem inW_any (xs : List ByteArray) (s : ByteArray) (g c : Nat) (w : World) (hl : xs.length ≤ 1000000) (hc : ∀ k x, xs[k]? = some x → w.cell? ⟨g, k, none⟩ = some (.string x)) :
    Calls Tryz.prog 164 #[.slice (some ⟨g, 0, none⟩) xs.length c, .string s] w fun e w' => e = .returned (.bool (inW xs s)) ∧ w = w' := by
  have Hc := Lib.hid hc
  clear hc
  go_enter Tryz.func164, Tryz.ntmps164
  go_wp2
  go_loop [5] (fun i => ∃ k : Nat, k ≤ xs.length ∧ i = .int .i64 k ∧ Hid (inW (xs.take k) s = false)) (fun i => xs.length - (intOf i).toNat)
  case atStart => exact ⟨0, Nat.zero_le _, rfl, Lib.hid rfl⟩
  case round =>
    obtain ⟨k, hk, rfl, Hk⟩ := hrel
    by_cases hlt : k < xs.length
    · have HS := Lib.hid (inL_snoc xs s k hlt)
      have HY := Lib.hid (inL_yes xs s (k + 1))
      have c0 := Hc.out k xs[k] (List.getElem?_eq_getElem hlt)
      have hk0 : (0 : Int) ≤ (k : Int) := by omega
      have hk1 : (k : Int) < (xs.length : Int) := by omega
      generalize xs[k] = x at *
      cases he : eqB x s
      · have H3 := Lib.hid (show inW (xs.take (k + 1)) s = false by rw [HS.out, Hk.out, he]; rfl)
        unfold eqB at he
        go_wp2
        go_round
        case rel => exact ⟨k + 1, by omega, by go_num, H3⟩
        case measure => simp [intOf]; omega
      · have H3 := Lib.hid (HY.out (by rw [HS.out, Hk.out, he]; rfl))
        unfold eqB at he
        go_wp2
        go_ret
        exact ⟨by rw [H3.out]; rfl, rfl⟩
    · have ht : xs.take k = xs := List.take_of_length_le (by omega)
      have Hw := Lib.hid (show inW xs s = false by have := Hk.out; rwa [ht] at this)
      clear ht
      go_wp2
      go_ret
      exact ⟨by rw [Hw.out]; rfl, rfl⟩
end Go.Proofs.YtbkffdfboloogaaGreatDoor
namespace Go.Proofs.YtbkffdfboloogaaGreatDoor
open Go.RowKit Go.Lib
set_option linter.unusedVariables false

def RefPost (s : ByteArray) (i : Nat) (w : World) (e : Ending) (w' : World) : Prop :=
  ∃ (tv : Value) (code : Int) (j : Nat), e = .returned (.tuple #[tv, .int .i64 (j : Int), .int .i64 code]) ∧ NextIs s i tv code j ∧ Below w.heap.size w w'
theorem mkTok {s : ByteArray} {i k m : Nat} {t : Bs} (h : one (s.data.toList.drop i) = .tok k t m) {x : ByteArray} (hx : x.data.toList = t) {j : Nat} (hj : j = i + m) : NextIs s i (.agg #[.int .i64 (k : Nat), .int .i64 (i : Nat), .string x]) 0 j :=
  .inl ⟨k, t, m, h, by rw [← hx], rfl, hj⟩
theorem mkBad {s : ByteArray} {i e : Nat} (h : one (s.data.toList.drop i) = .bad e) (he : e ≠ 0) (x y : Int) (z : ByteArray) (j : Nat) : NextIs s i (.agg #[.int .i64 x, .int .i64 y, .string z]) (e : Nat) j :=
  .inr ⟨e, h, rfl, he, x, y, z, rfl⟩
theorem results_cell_two {fn : Func} {p u v : Tmp} {ty : TypeId} (h : fn.results = #[.cell p ty, .tmp u, .tmp v]) (tmps : Array Value) (P : Program) (w : World) :
    (results fn tmps).run P w =
      ((asAddr (tmps.getD p undef)).run P w).andThen fun a w₁ => ((loadVar ty a).run P w₁).andThen fun x w₂ => .ok (.tuple #[x, tmps.getD u undef, tmps.getD v undef]) w₂ := by
  simp only [results, h]
  simp [Sem.run_bind, Result.andThen]
theorem ret_tok3 {fn : Func} {p u v : Tmp} (hr : fn.results = #[.cell p 142, .tmp u, .tmp v]) {tmps : Array Value} {w : World} {b : Nat} {x y : Int} {z : ByteArray} {v1 v2 : Value} (hp : tmps.getD p undef = .pointer (some ⟨b, 0, none⟩)) (h1 : tmps.getD u undef = v1) (h2 : tmps.getD v undef = v2) (hT : Tb w b x y z) :
    (results fn tmps).run Tryz.prog w = .ok (.tuple #[.agg #[.int .i64 x, .int .i64 y, .string z], v1, v2]) w := by
  rw [results_cell_two hr, hp, h1, h2]
  simp [asAddr, run_loadVar_row w b 142 142 _ (0, 0) _ hT.blk Tryz.underlying142 rfl infoTok]
theorem small_one (s : ByteArray) (i : Nat) (hi : i < s.size) (hp : small s[i] = true) (X : Bs) (hX : (s.data.toList.drop i).takeWhile small = X) :
    one (s.data.toList.drop i) = if rankE X = 0 then .tok (rankK X) X X.length else .bad (rankE X) := by
  subst hX
  rw [← ranked_eq, one_at s i hi, one_cons, if_pos hp, ← drop_at s i hi]
theorem wordsB_in (x : ByteArray) : inW ((List.range 35).map wordB) x = isWord x.data.toList := by
  unfold inW isWord
  rw [Bool.eq_iff_iff, List.any_eq_true]
  constructor
  · rintro ⟨y, hy, he⟩
    obtain ⟨k, hk, rfl⟩ := List.mem_map.1 hy
    have := (eqB_iff _ _).1 he
    subst this
    have hk' : k < 35 := List.mem_range.1 hk
    have h2 : k < words.length := by rw [words_len]; exact hk'
    rw [List.contains_iff_mem]
    show words.getD k [] ∈ words
    rw [show words.getD k [] = words[k] by simp [List.getD, h2]]
    exact List.getElem_mem h2
  · intro h
    rw [List.contains_iff_mem] at h
    obtain ⟨k, hk, e⟩ := List.getElem_of_mem h
    refine ⟨wordB k, List.mem_map.2 ⟨k, List.mem_range.2 (by rw [← words_len]; exact hk), rfl⟩, (eqB_iff _ _).2 ?_⟩
    rw [ba_eq]
    show words.getD k [] = _
    rw [show words.getD k [] = words[k] by simp [List.getD, hk], e]
theorem in_words (x : ByteArray) (g c : Nat) (w : World) (hL : Wl w g) :
    Calls Tryz.prog 164 #[.slice (some ⟨g, 0, none⟩) 35 c, .string x] w fun e w' => e = .returned (.bool (isWord x.data.toList)) ∧ w = w' := by
  have := inW_any ((List.range 35).map wordB) x g c w (by simp) (fun k y hy => by
    rw [List.getElem?_map, Option.map_eq_some_iff] at hy
    obtain ⟨k', hk', rfl⟩ := hy
    have hlt : k < 35 := by have := (List.getElem?_eq_some_iff.1 hk').1; simpa using this
    rw [List.getElem?_range hlt] at hk'
    injection hk' with hk'
    subst hk'
    exact hL.at_ k hlt)
  rw [wordsB_in] at this
  have e : ((List.range 35).map wordB).length = 35 := by simp
  rw [e] at this
  exact this

theorem refWords_at (w : World) (n : Nat) (hn : w.heap.size = n) : Calls Tryz.prog 165 #[] w fun e w' => e = .returned (.slice (some ⟨n, 0, none⟩) 35 35) ∧ Wl w' n ∧ Below w.heap.size w w' := by
  subst hn
  exact refWords_any w
theorem rank_zero {X : Bs} (h : allD X = true) (hz : 1 < X.length ∧ X.head? = some 48) : rankE X = 2 := by
  unfold rankE boundE; rw [show X.all digit = true from h, if_pos rfl, if_pos hz]
theorem rank_num {X : Bs} (h : allD X = true) (hz : ¬ (1 < X.length ∧ X.head? = some 48)) : rankE X = (if aboveL X then 3 else 0) ∧ rankK X = 2 := by
  have hd : ∀ c ∈ X, digit c = true := List.all_eq_true.1 h
  unfold rankE rankK boundE
  rw [show X.all digit = true from h, if_pos rfl, if_neg hz, if_pos rfl, above_eq hd hz]
  refine ⟨?_, rfl⟩
  by_cases hn : 1099511627776 < num X
  · rw [if_pos hn, decide_eq_true hn]; rfl
  · rw [if_neg hn, decide_eq_false hn]; rfl
theorem rank_text {X : Bs} (h : allD X = false) : rankE X = (if isWord X then 0 else if 16 < X.length then 2 else 0) ∧ rankK X = (if isWord X then 0 else 1) := by
  unfold rankE rankK
  rw [show X.all digit = false from h]
  exact ⟨rfl, rfl⟩

set_option maxHeartbeats 2000000 in
set_option maxRecDepth 100000 in
theorem refOne_small (s : ByteArray) (i : Nat) (w : World) (hs : s.size ≤ 140737488351232) (hi : i < s.size) (hp : small s[i] = true) :
    Calls Tryz.prog 133 #[.string s, .int .i64 (i : Int)] w (RefPost s i w) := by
  have hi0 : (0 : Int) ≤ (i : Int) := by omega
  have hi1 : (i : Int) < (s.size : Int) := by omega
  have Hp := Lib.hid hp
  have HO := Lib.hid (small_one s i hi hp _ (ext_run small s i).symm)
  have Hst := Lib.hid (runTo_step hi hp)
  have Hne := Lib.hid (run_ne small s i hi hp)
  clear hp
  go_enter Tryz.func133, Tryz.ntmps133
  go_wp2_with fail
  refine (refRun_any s[i] _).mono ?_
  rintro e w' ⟨rfl, rfl⟩
  rw [Hp.out]
  go_wp2_with fail
  go_loop [8] (fun e => ∃ k : Nat, i + 1 ≤ k ∧ k ≤ s.size ∧ e = .int .i64 k ∧ Hid (runTo small s k = runTo small s i)) (fun e => s.size - (intOf e).toNat)
  case atStart => exact ⟨i + 1, Nat.le_refl _, by omega, by go_num, Hst⟩
  case round =>
    obtain ⟨k, hk1, hk2, rfl, Hk⟩ := hrel
    have hk0 : (0 : Int) ≤ (k : Int) := by omega
    by_cases hlt : ∃ h : k < s.size, small s[k] = true
    · obtain ⟨hlt, hsk⟩ := hlt
      have Hs1 := Lib.hid hsk
      have Hs2 := Lib.hid ((runTo_step hlt hsk).trans Hk.out)
      clear hsk
      have hk3 : (k : Int) < (s.size : Int) := by omega
      go_wp2_with fail
      refine (refRun_any s[k] _).mono ?_
      rintro e w' ⟨rfl, rfl⟩
      rw [Hs1.out]
      go_wp2_with fail
      go_round
      case rel => exact ⟨k + 1, by omega, by omega, by go_num, Hs2⟩
      case measure => simp [intOf]; omega
    · have HR : Hid (runTo small s i = k) := by
        refine Lib.hid (Hk.out.symm.trans ?_)
        by_cases h : k < s.size
        · refine runTo_stop h ?_
          cases hh : small s[k]
          · rfl
          · exact absurd ⟨h, hh⟩ hlt
        · exact runTo_end (by omega)
      have hO := HO.out
      rw [HR.out] at hO
      have HO := Lib.hid hO
      have Hxs := Lib.hid (ext_size s i k hk2)
      have Hxl := Lib.hid (show (s.extract i k).data.toList.length = (s.extract i k).size from Array.length_toList)
      clear hO Hk Hst Hne
      by_cases hks : k < s.size
      · have Hs1 := Lib.hid (show small s[k] = false by
          cases hh : small s[k]
          · rfl
          · exact absurd ⟨hks, hh⟩ hlt)
        have hk3 : (k : Int) < (s.size : Int) := by omega
        clear hlt
        go_wp2_with fail
        refine (refRun_any s[k] _).mono ?_
        rintro e w' ⟨rfl, rfl⟩
        rw [Hs1.out]
        go_wp2_with fail
        generalize s.extract i k = x at *
        have hz1 : 1 ≤ x.size := by rw [Hxs.out]; omega
        have hz2 : x.size ≤ 140737488351232 := by rw [Hxs.out]; omega
        refine (refDigits_any x _ hz2).mono ?_
        rintro e w' ⟨rfl, rfl⟩
        cases hd : allD x.data.toList
        · obtain ⟨re, rk⟩ := rank_text hd
          have HE := Lib.hid re
          have HK := Lib.hid rk
          clear hd re rk
          go_wp2_with fail
          refine (refWords_at _ (w.heap.size + 1) (by simp)).mono ?_
          rintro e w2 ⟨rfl, hL2, hb2⟩
          have hT2 := (Tb.new w 0 0 ⟨#[]⟩).below hb2 (by simp)
          have H2 := Lib.hid (below_trans' (Nat.le_refl _) ((Below.refl w.heap.size w).alloc (Nat.le_refl _) _) hb2)
          clear hb2
          have hbn : w.heap.size < w2.heap.size := hT2.lt
          go_wp2_with fail
          refine (in_words x (w.heap.size + 1) 35 _ hL2).mono ?_
          rintro e w' ⟨rfl, rfl⟩
          have t0 := hT2.c0
          have t1 := hT2.c1
          have t2 := hT2.c2
          have g0 := hT2.f0
          have g1 := hT2.f1
          have g2 := hT2.f2
          cases hw : isWord x.data.toList
          · by_cases h16 : 16 < x.size
            · have HO2 := Lib.hid (show one (s.data.toList.drop i) = .bad 2 by rw [HO.out, HE.out, hw, Hxl.out]; simp [h16])
              have d16 : decide ((16 : Int) < (x.size : Int)) = true := by simp; omega
              clear hw
              go_wp2_with fail
              refine bodyPost_ret (ret_tok3 rfl rfl rfl rfl (hT2.set3 _ _ _)) rfl ?_
              exact ⟨_, _, i, rfl, mkBad HO2.out (by decide) _ _ _ _, H2.out.grown (set3_grown w2 w.heap.size _ _ _) (by omega) (fun q hq => by cases hq; omega)⟩
            · have HO2 := Lib.hid (show one (s.data.toList.drop i) = .tok 1 x.data.toList x.data.toList.length by rw [HO.out, HE.out, HK.out, hw, Hxl.out]; simp [h16])
              have d16 : decide ((16 : Int) < (x.size : Int)) = false := by simp; omega
              clear hw
              go_wp2_with fail
              refine bodyPost_ret (ret_tok3 rfl rfl rfl rfl (hT2.set3 _ _ _)) rfl ?_
              exact ⟨_, _, k, rfl, mkTok HO2.out rfl (by rw [Hxl.out, Hxs.out]; omega), H2.out.grown (set3_grown w2 w.heap.size _ _ _) (by omega) (fun q hq => by cases hq; omega)⟩
          · have HO2 := Lib.hid (show one (s.data.toList.drop i) = .tok 0 x.data.toList x.data.toList.length by rw [HO.out, HE.out, HK.out, hw]; simp)
            clear hw
            go_wp2_with fail
            refine bodyPost_ret (ret_tok3 rfl rfl rfl rfl (hT2.set3 _ _ _)) rfl ?_
            exact ⟨_, _, k, rfl, mkTok HO2.out rfl (by rw [Hxl.out, Hxs.out]; omega), H2.out.grown (set3_grown w2 w.heap.size _ _ _) (by omega) (fun q hq => by cases hq; omega)⟩
        · have hzc : (0 : Int) < (x.size : Int) := by omega
          by_cases hz : 1 < x.data.toList.length ∧ x.data.toList.head? = some 48
          · have HO2 := Lib.hid (show one (s.data.toList.drop i) = .bad 2 by rw [HO.out, rank_zero hd hz]; rfl)
            obtain ⟨z1, z2⟩ := hz
            rw [Hxl.out] at z1
            rw [head_at (by omega), eq48] at z2
            have e1 : decide ((1 : Int) < (x.size : Int)) = true := by simp; omega
            have e48 : ((x[0].toNat : Int) == 48) = true := by simp; omega
            clear z2 hd
            go_wp2_with fail
            refine bodyPost_ret (ret_tok3 rfl rfl rfl rfl (Tb.new w _ _ _)) rfl ?_
            exact ⟨_, _, i, rfl, mkBad HO2.out (by decide) _ _ _ _, (Below.refl w.heap.size w).alloc (Nat.le_refl _) _⟩
          · obtain ⟨re, rk⟩ := rank_num hd hz
            have HE := Lib.hid re
            have HK := Lib.hid rk
            rcases (show (∃ h : 1 < x.size, ((x[0].toNat : Int) == 48) = false ∧ decide ((1 : Int) < (x.size : Int)) = true) ∨ decide ((1 : Int) < (x.size : Int)) = false by
              by_cases h : 1 < x.size
              · refine .inl ⟨h, ?_, by simp; omega⟩
                have : ¬ x[0].toNat = 48 := fun e => hz ⟨by rw [Hxl.out]; exact h, by rw [head_at (by omega), eq48]; exact e⟩
                simp; omega
              · exact .inr (by simp; omega)) with ⟨h1, e48, e1⟩ | e1
            all_goals
              clear hz re rk hd
              go_wp2_with fail
              refine (above_any x _ hz2).mono ?_
              rintro e w' ⟨rfl, rfl⟩
              cases ha : aboveL x.data.toList
              · have HO2 := Lib.hid (show one (s.data.toList.drop i) = .tok 2 x.data.toList x.data.toList.length by rw [HO.out, HE.out, HK.out, ha]; simp)
                clear ha
                go_wp2_with fail
                refine bodyPost_ret (ret_tok3 rfl rfl rfl rfl (Tb.new w _ _ _)) rfl ?_
                exact ⟨_, _, k, rfl, mkTok HO2.out rfl (by rw [Hxl.out, Hxs.out]; omega), (Below.refl w.heap.size w).alloc (Nat.le_refl _) _⟩
              · have HO2 := Lib.hid (show one (s.data.toList.drop i) = .bad 3 by rw [HO.out, HE.out, ha]; simp)
                clear ha
                go_wp2_with fail
                refine bodyPost_ret (ret_tok3 rfl rfl rfl rfl (Tb.new w _ _ _)) rfl ?_
                exact ⟨_, _, i, rfl, mkBad HO2.out (by decide) _ _ _ _, (Below.refl w.heap.size w).alloc (Nat.le_refl _) _⟩
      · have hd : decide ((k : Int) < (s.size : Int)) = false := by simp; omega
        clear hlt
        go_wp2_with fail
        generalize s.extract i k = x at *
        have hz1 : 1 ≤ x.size := by rw [Hxs.out]; omega
        have hz2 : x.size ≤ 140737488351232 := by rw [Hxs.out]; omega
        refine (refDigits_any x _ hz2).mono ?_
        rintro e w' ⟨rfl, rfl⟩
        clear hd
        cases hd : allD x.data.toList
        · obtain ⟨re, rk⟩ := rank_text hd
          have HE := Lib.hid re
          have HK := Lib.hid rk
          clear hd re rk
          go_wp2_with fail
          refine (refWords_at _ (w.heap.size + 1) (by simp)).mono ?_
          rintro e w2 ⟨rfl, hL2, hb2⟩
          have hT2 := (Tb.new w 0 0 ⟨#[]⟩).below hb2 (by simp)
          have H2 := Lib.hid (below_trans' (Nat.le_refl _) ((Below.refl w.heap.size w).alloc (Nat.le_refl _) _) hb2)
          clear hb2
          have hbn : w.heap.size < w2.heap.size := hT2.lt
          go_wp2_with fail
          refine (in_words x (w.heap.size + 1) 35 _ hL2).mono ?_
          rintro e w' ⟨rfl, rfl⟩
          have t0 := hT2.c0
          have t1 := hT2.c1
          have t2 := hT2.c2
          have g0 := hT2.f0
          have g1 := hT2.f1
          have g2 := hT2.f2
          cases hw : isWord x.data.toList
          · by_cases h16 : 16 < x.size
            · have HO2 := Lib.hid (show one (s.data.toList.drop i) = .bad 2 by rw [HO.out, HE.out, hw, Hxl.out]; simp [h16])
              have d16 : decide ((16 : Int) < (x.size : Int)) = true := by simp; omega
              clear hw
              go_wp2_with fail
              refine bodyPost_ret (ret_tok3 rfl rfl rfl rfl (hT2.set3 _ _ _)) rfl ?_
              exact ⟨_, _, i, rfl, mkBad HO2.out (by decide) _ _ _ _, H2.out.grown (set3_grown w2 w.heap.size _ _ _) (by omega) (fun q hq => by cases hq; omega)⟩
            · have HO2 := Lib.hid (show one (s.data.toList.drop i) = .tok 1 x.data.toList x.data.toList.length by rw [HO.out, HE.out, HK.out, hw, Hxl.out]; simp [h16])
              have d16 : decide ((16 : Int) < (x.size : Int)) = false := by simp; omega
              clear hw
              go_wp2_with fail
              refine bodyPost_ret (ret_tok3 rfl rfl rfl rfl (hT2.set3 _ _ _)) rfl ?_
              exact ⟨_, _, k, rfl, mkTok HO2.out rfl (by rw [Hxl.out, Hxs.out]; omega), H2.out.grown (set3_grown w2 w.heap.size _ _ _) (by omega) (fun q hq => by cases hq; omega)⟩
          · have HO2 := Lib.hid (show one (s.data.toList.drop i) = .tok 0 x.data.toList x.data.toList.length by rw [HO.out, HE.out, HK.out, hw]; simp)
            clear hw
            go_wp2_with fail
            refine bodyPost_ret (ret_tok3 rfl rfl rfl rfl (hT2.set3 _ _ _)) rfl ?_
            exact ⟨_, _, k, rfl, mkTok HO2.out rfl (by rw [Hxl.out, Hxs.out]; omega), H2.out.grown (set3_grown w2 w.heap.size _ _ _) (by omega) (fun q hq => by cases hq; omega)⟩
        · have hzc : (0 : Int) < (x.size : Int) := by omega
          by_cases hz : 1 < x.data.toList.length ∧ x.data.toList.head? = some 48
          · have HO2 := Lib.hid (show one (s.data.toList.drop i) = .bad 2 by rw [HO.out, rank_zero hd hz]; rfl)
            obtain ⟨z1, z2⟩ := hz
            rw [Hxl.out] at z1
            rw [head_at (by omega), eq48] at z2
            have e1 : decide ((1 : Int) < (x.size : Int)) = true := by simp; omega
            have e48 : ((x[0].toNat : Int) == 48) = true := by simp; omega
            clear z2 hd
            go_wp2_with fail
            refine bodyPost_ret (ret_tok3 rfl rfl rfl rfl (Tb.new w _ _ _)) rfl ?_
            exact ⟨_, _, i, rfl, mkBad HO2.out (by decide) _ _ _ _, (Below.refl w.heap.size w).alloc (Nat.le_refl _) _⟩
          · obtain ⟨re, rk⟩ := rank_num hd hz
            have HE := Lib.hid re
            have HK := Lib.hid rk
            rcases (show (∃ h : 1 < x.size, ((x[0].toNat : Int) == 48) = false ∧ decide ((1 : Int) < (x.size : Int)) = true) ∨ decide ((1 : Int) < (x.size : Int)) = false by
              by_cases h : 1 < x.size
              · refine .inl ⟨h, ?_, by simp; omega⟩
                have : ¬ x[0].toNat = 48 := fun e => hz ⟨by rw [Hxl.out]; exact h, by rw [head_at (by omega), eq48]; exact e⟩
                simp; omega
              · exact .inr (by simp; omega)) with ⟨h1, e48, e1⟩ | e1
            all_goals
              clear hz re rk hd
              go_wp2_with fail
              refine (above_any x _ hz2).mono ?_
              rintro e w' ⟨rfl, rfl⟩
              cases ha : aboveL x.data.toList
              · have HO2 := Lib.hid (show one (s.data.toList.drop i) = .tok 2 x.data.toList x.data.toList.length by rw [HO.out, HE.out, HK.out, ha]; simp)
                clear ha
                go_wp2_with fail
                refine bodyPost_ret (ret_tok3 rfl rfl rfl rfl (Tb.new w _ _ _)) rfl ?_
                exact ⟨_, _, k, rfl, mkTok HO2.out rfl (by rw [Hxl.out, Hxs.out]; omega), (Below.refl w.heap.size w).alloc (Nat.le_refl _) _⟩
              · have HO2 := Lib.hid (show one (s.data.toList.drop i) = .bad 3 by rw [HO.out, HE.out, ha]; simp)
                clear ha
                go_wp2_with fail
                refine bodyPost_ret (ret_tok3 rfl rfl rfl rfl (Tb.new w _ _ _)) rfl ?_
                exact ⟨_, _, i, rfl, mkBad HO2.out (by decide) _ _ _ _, (Below.refl w.heap.size w).alloc (Nat.le_refl _) _⟩
end Go.Proofs.YtbkffdfboloogaaGreatDoor
