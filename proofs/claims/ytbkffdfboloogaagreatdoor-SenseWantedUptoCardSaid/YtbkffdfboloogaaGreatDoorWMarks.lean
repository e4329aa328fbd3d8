/- paper.marks: the marks of the boxes, joined: some string of bounded length. -/
import Derived.Test.YtbkffdfboloogaaGreatDoorMC
import Derived.Test.YtbkffdfboloogaaGreatDoorMS
import Derived.Laws.Rows
import Derived.Laws.MakeOwn
import Derived.Laws.OwnMore
import Derived.Maps.AppendAt
import Derived.OwnWalk
namespace Go.Proofs.YtbkffdfboloogaaGreatDoor
open Go.RowKit Go.Maps Go.Lib
set_option linter.unusedVariables false
set_option maxRecDepth 100000

theorem info_strW : (Tryz.prog.info? 9).map (fun i => (i.zero, i.size, i.bytes)) = some (some (.string ⟨#[]⟩), 1, 16) := by kernel_rfl
/-- own rows of texts -/
def Sw (w : World) (base : Nat) (v : Value) (L : List ByteArray) : Prop := w.ownsRow base 9 1 v L.length (L.map Value.string)
theorem Sw.lt {w : World} {base : Nat} {v : Value} {L : List ByteArray} (h : Sw w base v L) {q : Nat} (hq : v.ownBlock = some q) : base ≤ q ∧ q < w.heap.size := by
  rcases h.2 with ⟨h1, _⟩ | ⟨g, cap, cur, h1, h2, h3, _⟩
  · rw [h1] at hq; simp [Value.ownBlock] at hq
  · rw [h1] at hq
    simp [Value.ownBlock] at hq
    subst hq
    exact ⟨h2, (Array.getElem?_eq_some_iff.1 h3).1⟩
theorem Sw.below {w w' : World} {base : Nat} {v : Value} {L : List ByteArray} (h : Sw w base v L) (hb : Below w.heap.size w w') : Sw w' base v L := by
  refine ⟨h.1, ?_⟩
  rcases h.2 with h0 | ⟨g, cap, cur, h1, h2, h3, h4⟩
  · exact .inl h0
  · exact .inr ⟨g, cap, cur, h1, h2, (hb.block g (Array.getElem?_eq_some_iff.1 h3).1).trans h3, h4⟩
theorem Sw.form {w : World} {base : Nat} {v : Value} {L : List ByteArray} (h : Sw w base v L) : ∃ A c, v = .slice A L.length c := by
  rcases h.2 with ⟨h1, h2⟩ | ⟨g, cap, cur, h1, _⟩
  · exact ⟨none, 0, by rw [h1, h2]⟩
  · exact ⟨_, _, h1⟩
theorem app_str {w : World} {base : Nat} (ty : TypeId) {v : Value} {L : List ByteArray} {s : ByteArray} (hv : Sw w base v L) (hl : L.length ≤ 100000000) (hbase : base ≤ w.heap.size) :
    ∃ v' w', (Builtin.append_ #[89, 89] ty #[v, .slice (some ⟨w.heap.size, 0, none⟩) 1 1]).run Tryz.prog (w.alloc (.cells #[.string s] 9)) = .ok v' w' ∧ Sw w' base v' (L ++ [s]) ∧ (w.alloc (.cells #[.string s] 9)).grownBy w' v.ownBlock := by
  obtain ⟨i0, hi0, hz0, hz1, hz2⟩ := info_parts info_strW
  have hb : Below w.heap.size w (w.alloc (.cells #[.string s] 9)) := (Below.refl _ _).alloc (Nat.le_refl _) _
  obtain ⟨v', w', hr, h2, h3, _, h5⟩ := run_append_own_at (P := Tryz.prog) (w := w.alloc (.cells #[.string s] 9)) base 89 ty 9 i0 (.string ⟨#[]⟩) 1 16 Tryz.underlying89 hi0 hz0 hz1 hz2 rfl (by omega) v L.length (L.map Value.string) (hv.below hb) ⟨w.heap.size, 0, none⟩ 1 1 [.string s] rfl (fun j u hu => by
      match j, hu with
      | 0, hu =>
        cases hu
        rw [Lib.add_plain]
        simp
      | j + 1, hu => simp at hu) (fun u hu => by
      simp only [List.mem_cons, List.not_mem_nil, or_false] at hu
      rw [hu]; rfl) (by unfold maxLen; omega) (by omega) (by have := hb.size; omega)
  exact ⟨v', w', hr, by unfold Sw; rw [List.length_append, List.map_append]; exact h2, h3⟩
/-- what marks leaves -/
def MarksP (w : World) (e : Ending) (w' : World) : Prop := (∃ s : ByteArray, e = .returned (.string s) ∧ s.size ≤ 3000000) ∧ Below w.heap.size w w'
theorem join_len (sep : ByteArray) (hs : sep.size ≤ 1) (m : Nat) : ∀ xs : List ByteArray, (∀ x ∈ xs, x.size ≤ m) → (Lib.join (xs.map (·.data.toList)) sep.data.toList).length ≤ xs.length * (m + 1)
  | [], _ => by simp [Lib.join]
  | [x], h => by
    have h1 : x.data.toList.length = x.size := Array.length_toList
    have h2 := h x (List.mem_singleton.2 rfl)
    have e : Lib.join ([x].map (·.data.toList)) sep.data.toList = x.data.toList := by simp [Lib.join]
    rw [e]
    simp only [List.length_cons, List.length_nil, Nat.zero_add, Nat.one_mul]
    omega
  | x :: y :: ys, h => by
    have h1 : x.data.toList.length = x.size := Array.length_toList
    have h2 := h x (List.mem_cons_self ..)
    have h3 := join_len sep hs m (y :: ys) (fun z hz => h z (List.mem_cons_of_mem _ hz))
    have h4 : sep.data.toList.length = sep.size := Array.length_toList
    have e : Lib.join ((x :: y :: ys).map (·.data.toList)) sep.data.toList = x.data.toList ++ sep.data.toList ++ Lib.join ((y :: ys).map (·.data.toList)) sep.data.toList := by
      simp [Lib.join]
    rw [e, List.length_append, List.length_append]
    simp only [List.length_cons] at h3 ⊢
    rw [Nat.add_mul (ys.length + 1) 1 (m + 1), Nat.one_mul]
    omega
set_option maxHeartbeats 1000000 in
theorem marks_any (L : List Bx) (A : Option Addr) (c Bn : Nat) (w : World) (hL : Bxs w Bn A L) (hBn : Bn ≤ w.heap.size) (hl : L.length ≤ 20) (hm : ∀ b ∈ L, b.m.size ≤ 60) :
    Calls Tryz.prog 27 #[.slice A L.length c] w fun e w' => MarksP w e w' := by
  obtain ⟨i0, hi0, hz0, hz1, hz2⟩ := info_parts info_strW
  obtain ⟨w1, hmk, hown, hgr⟩ := run_make_own (P := Tryz.prog) w w.heap.size 89 9 i0 (.string ⟨#[]⟩) 1 Tryz.underlying89 hi0 hz0 hz1 .i64 .i64 L.length (by rw [hz2]; omega) (by unfold maxLen; omega) (Nat.le_refl _)
  have HL := Lib.hid (hL.more hBn)
  have HM := Lib.hid hm
  have HP1 : Hid (Sw w1 w.heap.size (.slice (some ⟨w.heap.size, 0, none⟩) 0 L.length) []) := Lib.hid hown
  have HB1 : Hid (Below w.heap.size w w1) := Lib.hid ((Below.refl _ _).grown hgr (Nat.le_refl _) (fun j hj => by cases hj))
  have HJn : Hid (∀ (S : List ByteArray) (A' : Option Addr) (c' : Nat) (W : World), Sw W w.heap.size (.slice A' S.length c') S → Below w.heap.size w W → S.length ≤ 20 → (∀ x ∈ S, x.size ≤ 60) → Calls Tryz.prog 59 #[.slice A' S.length c', .string ⟨#[44]⟩] W fun e w' => (∃ s : ByteArray, e = .returned (.string s) ∧ s.size ≤ 3000000) ∧ Below w.heap.size w w') := Lib.hid (fun S A' c' W hS hb hSl hSm => by
    have hjl := join_len ⟨#[44]⟩ (by decide) 60 S hSm
    rcases hS.2 with ⟨h1, h2⟩ | ⟨g, cap, cur, h1, h2, h3, h4, h5, h6', h7⟩
    · have e0 : S = [] := List.length_eq_zero_iff.1 h2
      subst e0
      refine (Tryz.strings_Join_none A' c' _ W).mono ?_
      rintro e w' ⟨rfl, rfl⟩
      exact ⟨⟨_, rfl, by decide⟩, hb⟩
    · injection h1 with h1a h1b h1c
      subst h1a h1c
      have hcells : ∀ (j : Nat) x, S[j]? = some x → W.cell? ⟨g, 0 + j, none⟩ = some (.string x) := by
        intro j x hx
        have hj : j < S.length := (List.getElem?_eq_some_iff.1 hx).1
        have hcur : cur[j]? = some (.string x) := by
          have h6 : (cur.toList.take (S.length * 1))[j]? = some (.string x) := by rw [h7, List.getElem?_map, hx]; rfl
          rw [List.getElem?_take_of_lt (by omega)] at h6
          simpa using h6
        rw [Nat.zero_add]
        simp [World.cell?, h3, hcur]
      refine (Tryz.strings_Join g 0 _ S ⟨#[44]⟩ W hcells (Array.getElem?_eq_some_iff.1 h3).1 (by omega) (by omega) (by omega)).mono ?_
      rintro e w' ⟨rfl, hb2⟩
      refine ⟨⟨_, rfl, ?_⟩, hb.trans (hb2.mono hb.size)⟩
      show (Lib.join (S.map (·.data.toList)) _).toArray.size ≤ _
      rw [List.size_toArray]
      omega)
  clear hL hm hown hgr hi0 hz0 hz1 hz2
  have hCP : MarksP w = fun e w' => (∃ s : ByteArray, e = .returned (.string s) ∧ s.size ≤ 3000000) ∧ Below w.heap.size w w' := rfl
  have HEnd : Hid (∀ (S : List ByteArray) (A' : Option Addr) (c' : Nat) (W : World), Sw W w.heap.size (.slice A' S.length c') S → Below w.heap.size w W → S.length ≤ 20 → (∀ x ∈ S, x.size ≤ 60) → Calls Tryz.prog 59 #[.slice A' S.length c', .string ⟨#[44]⟩] W fun e w' => ∃ v, e = .returned v ∧ MarksP w e w') := Lib.hid (fun S A' c' W h1 h2 h3 h4 => (HJn.out S A' c' W h1 h2 h3 h4).mono (by
    rintro e w' ⟨⟨s, rfl, hs⟩, hb⟩
    exact ⟨_, rfl, ⟨s, rfl, hs⟩, hb⟩))
  clear hCP HJn
  generalize MarksP w = CP at *
  go_enter Tryz.func27, Tryz.ntmps27
  go_wp2_with fail
  go_loopw [3, 11] (fun v i wr => ∃ (k : Nat) (A' : Option Addr) (c' : Nat), k ≤ L.length ∧ i = .int .i64 (k : Int) ∧ v = .slice A' k c' ∧ Hid (Sw wr w.heap.size (.slice A' k c') ((L.take k).map (·.m))) ∧ Hid (Below w.heap.size w wr)) (fun _ i _ => L.length - (RowKit.intOf i).toNat)
  case atStart => exact ⟨0, _, _, Nat.zero_le _, rfl, rfl, HP1, HB1⟩
  case round =>
    clear HP1 HB1 hmk
    obtain ⟨k, A', c', hk, rfl, rfl, HP, HB⟩ := hrel
    have hsz := HB.out.size
    by_cases hlt : k < L.length
    · have b1 : (k : Int) < (L.length : Int) := by omega
      have b0 : (0 : Int) ≤ (k : Int) := by omega
      obtain ⟨g, off, A2, c2, rfl, hgb, h3⟩ := (HL.out.kept HB.out).at_ hlt
      obtain ⟨c0, c1, c2', _, _⟩ := h3
      have hba : Below wr.heap.size wr (wr.alloc (.cells #[.string L[k].m, .int .i64 L[k].k, .slice A2 L[k].l.length c2] 42)) := (Below.refl _ _).alloc (Nat.le_refl _) _
      have htk : ((L.take (k + 1)).map (·.m)) = ((L.take k).map (·.m)) ++ [L[k].m] := by rw [← List.take_append_getElem hlt, List.map_append]; rfl
      have hkl : ((L.take k).map (·.m)).length = k := by rw [List.length_map, List.length_take]; omega
      have hkl1 : ((L.take (k + 1)).map (·.m)).length = k + 1 := by rw [List.length_map, List.length_take]; omega
      obtain ⟨v8, w8, hrn, hP8, hg8⟩ := app_str (s := L[k].m) 89 (HP.out.below hba) (by omega) (by have := hba.size; omega)
      have hb8 := ((HB.out.trans (hba.mono hsz)).alloc (by have := hba.size; omega) (.cells #[.string L[k].m] 9)).grown hg8 (by simp; omega) (fun j hj => (HP.out.lt hj).1)
      rw [← htk] at hP8
      obtain ⟨A8, c8, rfl⟩ := hP8.form
      rw [hkl1] at hP8 hrn
      have hzb : (wr.alloc (.cells #[.string L[k].m, .int .i64 L[k].k, .slice A2 L[k].l.length c2] 42)).heap.size = wr.heap.size + 1 := by simp
      rw [hzb] at hrn
      have HP8 := Lib.hid hP8
      have HB8 := Lib.hid hb8
      obtain ⟨b, hb⟩ : ∃ b, L[k] = b := ⟨_, rfl⟩
      rw [hb] at c0 c1 c2' hrn
      clear hzb hba hb hP8 hb8 hg8 htk hkl hkl1 HP HB
      generalize b.l.length = bl at *
      generalize b.m = bm at *
      generalize b.k = bk at *
      go_wp2_with (first
        | (at_builtin; refine Lib.wpList_append_run _ rfl _ _ _ _ rfl _ _ rfl rfl _ _ hrn ?_)
        | fail)
      go_roundw
      case rel => exact ⟨k + 1, A8, c8, by omega, by go_num, rfl, HP8, HB8⟩
      case measure => simp [RowKit.intOf]; omega
    · have b1 : ¬ (k : Int) < (L.length : Int) := by omega
      have hkl : k = L.length := by omega
      have hml : (L.map (·.m)).length = L.length := List.length_map ..
      have HJ2 : Hid (Calls Tryz.prog 59 #[.slice A' L.length c', .string ⟨#[44]⟩] wr fun e w' => ∃ v, e = .returned v ∧ CP e w') := Lib.hid (by
        have h1 := HP.out
        rw [hkl, List.take_length, ← hml] at h1
        have h2 := HEnd.out _ A' c' wr h1 HB.out (by omega) (by
          intro x hx
          obtain ⟨b, hb, rfl⟩ := List.mem_map.1 hx
          exact HM.out b hb)
        rw [hml] at h2
        exact h2)
      clear HEnd HP hml
      subst hkl
      go_wp2_with (first
        | (go_at_call 59; (with_reducible refine HJ2.out.mono ?_); rintro e w5 ⟨v, rfl, hF⟩; have HF := Lib.hid hF; clear hF)
        | fail)
      first
        | exact HF.out
        | (go_ret; exact HF.out)
end Go.Proofs.YtbkffdfboloogaaGreatDoor
