/- Which cases clash, plain: what the program's three maps hold. sense.against. -/
import Derived.Test.YtbkffdfboloogaaGreatDoorML
import Derived.Test.YtbkffdfboloogaaGreatDoorMB
import Derived.Test.YtbkffdfboloogaaGreatDoorMZ
namespace Go.Proofs.YtbkffdfboloogaaGreatDoor
set_option linter.unusedVariables false

/-- a field that is a text can't be as an atom says -/
def agB (s : ByteArray) (a : Rl) : Bool :=
  if a.k = 4 then !Lib.contains s.data.toList a.t.data.toList
  else if a.k = 5 then !(valB s 1).2 || decide (a.n < (valB s 1).1)
  else if a.k = 6 then !(valB s 1).2 || decide ((valB s 1).1 < a.n)
  else false
/-- two atoms clash -/
def Odds (a b : Rl) : Prop := a.f = b.f ∧ ((a.k = 5 ∧ b.k = 6 ∧ a.n < b.n) ∨ (a.k = 3 ∧ b.k = 3 ∧ a.t ≠ b.t) ∨ (a.k = 3 ∧ agB a.t b = true))
def Clashes (l : List Rl) : Prop := ∃ a ∈ l, ∃ b ∈ l, Odds a b

def txS (G : ByteArray → Option ByteArray) (a : Rl) : ByteArray → Option ByteArray := if a.k = 3 then putG G a.f a.t else G
def lowB : Option Int → Int → Bool
  | none, _ => true
  | some m, n => decide (n < m)
def highB : Option Int → Int → Bool
  | none, _ => true
  | some m, n => decide (m < n)
def moS (G : ByteArray → Option Int) (a : Rl) : ByteArray → Option Int := if a.k = 5 ∧ lowB (G a.f) a.n = true then putG G a.f a.n else G
def leS (G : ByteArray → Option Int) (a : Rl) : ByteArray → Option Int := if a.k = 6 ∧ highB (G a.f) a.n = true then putG G a.f a.n else G
def txG (l : List Rl) : ByteArray → Option ByteArray := l.foldl txS fun _ => none
def moG (l : List Rl) : ByteArray → Option Int := l.foldl moS fun _ => none
def leG (l : List Rl) : ByteArray → Option Int := l.foldl leS fun _ => none
theorem txG_snoc (l : List Rl) (a : Rl) : txG (l ++ [a]) = txS (txG l) a := by simp [txG, List.foldl_append]
theorem moG_snoc (l : List Rl) (a : Rl) : moG (l ++ [a]) = moS (moG l) a := by simp [moG, List.foldl_append]
theorem leG_snoc (l : List Rl) (a : Rl) : leG (l ++ [a]) = leS (leG l) a := by simp [leG, List.foldl_append]
theorem snocInd {α : Type} {P : List α → Prop} (h0 : P []) (hs : ∀ l a, P l → P (l ++ [a])) : ∀ l, P l := fun l => by
  have h : ∀ r : List α, P r.reverse := by
    intro r
    induction r with
    | nil => exact h0
    | cons a r ih => rw [List.reverse_cons]; exact hs _ _ ih
  have := h l.reverse
  rwa [List.reverse_reverse] at this
theorem tx_some : ∀ (l : List Rl) (f t : ByteArray), txG l f = some t → ∃ a ∈ l, a.k = 3 ∧ a.f = f ∧ a.t = t := by
  refine snocInd ?_ ?_
  · intro f t h; cases h
  · intro l a ih f t h
    rw [txG_snoc] at h
    unfold txS at h
    have old : txG l f = some t → ∃ b ∈ l ++ [a], b.k = 3 ∧ b.f = f ∧ b.t = t := fun h => by
      obtain ⟨b, hb, r⟩ := ih f t h
      exact ⟨b, by simp [hb], r⟩
    split at h
    · rename_i h3
      by_cases e : f = a.f
      · subst e
        rw [putG_same] at h
        exact ⟨a, by simp, h3, rfl, Option.some.inj h⟩
      · rw [putG_other _ _ e] at h
        exact old h
    · exact old h
theorem tx_has : ∀ (l : List Rl) (a : Rl), a ∈ l → a.k = 3 → ∃ t, txG l a.f = some t := by
  refine snocInd ?_ ?_
  · intro a h; cases h
  · intro l b ih a ha h3
    rw [txG_snoc]
    unfold txS
    have old : a ∈ l → ∃ t, (if b.k = 3 then putG (txG l) b.f b.t else txG l) a.f = some t := fun h => by
      obtain ⟨t, ht⟩ := ih a h h3
      split
      · by_cases e : a.f = b.f
        · exact ⟨b.t, by rw [e, putG_same]⟩
        · exact ⟨t, by rw [putG_other _ _ e]; exact ht⟩
      · exact ⟨t, ht⟩
    rcases List.mem_append.1 ha with ha | ha
    · exact old ha
    · simp at ha
      subst ha
      exact ⟨a.t, by rw [if_pos h3, putG_same]⟩
theorem mo_some : ∀ (l : List Rl) (f : ByteArray) (n : Int), moG l f = some n → ∃ a ∈ l, a.k = 5 ∧ a.f = f ∧ a.n = n := by
  refine snocInd ?_ ?_
  · intro f n h; cases h
  · intro l a ih f n h
    rw [moG_snoc] at h
    unfold moS at h
    have old : moG l f = some n → ∃ b ∈ l ++ [a], b.k = 5 ∧ b.f = f ∧ b.n = n := fun h => by
      obtain ⟨b, hb, r⟩ := ih f n h
      exact ⟨b, by simp [hb], r⟩
    have new : a.k = 5 → putG (moG l) a.f a.n f = some n → ∃ b ∈ l ++ [a], b.k = 5 ∧ b.f = f ∧ b.n = n := fun h3 h => by
      by_cases e : f = a.f
      · subst e
        rw [putG_same] at h
        exact ⟨a, by simp, h3, rfl, Option.some.inj h⟩
      · rw [putG_other _ _ e] at h
        exact old h
    split at h
    · rename_i h3
      exact new h3.1 h
    · exact old h
theorem mo_has : ∀ (l : List Rl) (a : Rl), a ∈ l → a.k = 5 → ∃ n, moG l a.f = some n ∧ n ≤ a.n := by
  refine snocInd ?_ ?_
  · intro a h; cases h
  · intro l b ih a ha h5
    rw [moG_snoc]
    unfold moS
    have inl : a ∈ l → ∃ n, (if b.k = 5 ∧ lowB (moG l b.f) b.n = true then putG (moG l) b.f b.n else moG l) a.f = some n ∧ n ≤ a.n := fun ha => by
      obtain ⟨n, hn, hle⟩ := ih a ha h5
      split
      · rename_i h
        by_cases e : a.f = b.f
        · have h2 := h.2
          rw [← e, hn] at h2
          have h3 : b.n < n := by simpa [lowB] using h2
          exact ⟨b.n, by rw [e, putG_same], by omega⟩
        · exact ⟨n, by rw [putG_other _ _ e]; exact hn, hle⟩
      · exact ⟨n, hn, hle⟩
    rcases List.mem_append.1 ha with ha | ha
    · exact inl ha
    · simp at ha
      subst ha
      split
      · exact ⟨a.n, by rw [putG_same], Int.le_refl _⟩
      · rename_i h
        cases hn : moG l a.f with
        | none => exact absurd ⟨h5, by rw [hn]; rfl⟩ h
        | some n => 
          refine ⟨n, rfl, ?_⟩
          have : ¬ a.n < n := fun hlt => h ⟨h5, by rw [hn]; simpa [lowB] using hlt⟩
          omega
theorem le_some : ∀ (l : List Rl) (f : ByteArray) (n : Int), leG l f = some n → ∃ a ∈ l, a.k = 6 ∧ a.f = f ∧ a.n = n := by
  refine snocInd ?_ ?_
  · intro f n h; cases h
  · intro l a ih f n h
    rw [leG_snoc] at h
    unfold leS at h
    have old : leG l f = some n → ∃ b ∈ l ++ [a], b.k = 6 ∧ b.f = f ∧ b.n = n := fun h => by
      obtain ⟨b, hb, r⟩ := ih f n h
      exact ⟨b, by simp [hb], r⟩
    have new : a.k = 6 → putG (leG l) a.f a.n f = some n → ∃ b ∈ l ++ [a], b.k = 6 ∧ b.f = f ∧ b.n = n := fun h3 h => by
      by_cases e : f = a.f
      · subst e
        rw [putG_same] at h
        exact ⟨a, by simp, h3, rfl, Option.some.inj h⟩
      · rw [putG_other _ _ e] at h
        exact old h
    split at h
    · rename_i h3
      exact new h3.1 h
    · exact old h
theorem le_has : ∀ (l : List Rl) (a : Rl), a ∈ l → a.k = 6 → ∃ n, leG l a.f = some n ∧ a.n ≤ n := by
  refine snocInd ?_ ?_
  · intro a h; cases h
  · intro l b ih a ha h5
    rw [leG_snoc]
    unfold leS
    have inl : a ∈ l → ∃ n, (if b.k = 6 ∧ highB (leG l b.f) b.n = true then putG (leG l) b.f b.n else leG l) a.f = some n ∧ a.n ≤ n := fun ha => by
      obtain ⟨n, hn, hle⟩ := ih a ha h5
      split
      · rename_i h
        by_cases e : a.f = b.f
        · have h2 := h.2
          rw [← e, hn] at h2
          have h3 : n < b.n := by simpa [highB] using h2
          exact ⟨b.n, by rw [e, putG_same], by omega⟩
        · exact ⟨n, by rw [putG_other _ _ e]; exact hn, hle⟩
      · exact ⟨n, hn, hle⟩
    rcases List.mem_append.1 ha with ha | ha
    · exact inl ha
    · simp at ha
      subst ha
      split
      · exact ⟨a.n, by rw [putG_same], Int.le_refl _⟩
      · rename_i h
        cases hn : leG l a.f with
        | none => exact absurd ⟨h5, by rw [hn]; rfl⟩ h
        | some n => 
          refine ⟨n, rfl, ?_⟩
          have : ¬ n < a.n := fun hlt => h ⟨h5, by rw [hn]; simpa [highB] using hlt⟩
          omega
/-- no two texts of one field -/
def Agree (l : List Rl) : Prop := ∀ a ∈ l, ∀ b ∈ l, a.k = 3 → b.k = 3 → a.f = b.f → a.t = b.t
theorem Agree.snoc {l : List Rl} {a : Rl} (h : Agree l) (ha : a.k = 3 → ∀ t, txG l a.f = some t → t = a.t) : Agree (l ++ [a]) := by
  have key : ∀ x ∈ l, x.k = 3 → a.k = 3 → x.f = a.f → x.t = a.t := by
    intro x hx h3 h3' e
    obtain ⟨t, ht⟩ := tx_has l x hx h3
    obtain ⟨z, hz, z3, zf, zt⟩ := tx_some l x.f t ht
    rw [e] at ht
    have := ha h3' t ht
    rw [← this, ← zt]
    exact h x hx z hz h3 z3 zf.symm
  intro x hx y hy h3 h3' e
  rcases List.mem_append.1 hx with hx | hx
  · rcases List.mem_append.1 hy with hy | hy
    · exact h x hx y hy h3 h3' e
    · simp at hy; rw [hy] at h3' e ⊢; exact key x hx h3 h3' e
  · simp at hx
    rw [hx] at h3 e ⊢
    rcases List.mem_append.1 hy with hy | hy
    · exact (key y hy h3' h3 e.symm).symm
    · simp at hy; rw [hy]
/-- nothing clashes -/
theorem no_clash {l : List Rl} (h : Agree l) (h1 : ∀ f n d, moG l f = some n → leG l f = some d → ¬ n < d) (h2 : ∀ b ∈ l, ∀ t, txG l b.f = some t → agB t b = false) : ¬ Clashes l := by
  rintro ⟨a, ha, b, hb, e, h⟩
  rcases h with ⟨h5, h6, hlt⟩ | ⟨h3, h3', hne⟩ | ⟨h3, hag⟩
  · obtain ⟨n, hn, hle⟩ := mo_has l a ha h5
    obtain ⟨d, hd, hge⟩ := le_has l b hb h6
    rw [← e] at hd
    exact h1 _ _ _ hn hd (by omega)
  · exact hne (h a ha b hb h3 h3' e)
  · obtain ⟨t, ht⟩ := tx_has l a ha h3
    obtain ⟨z, hz, z3, zf, zt⟩ := tx_some l a.f t ht
    have ez : z.t = a.t := h z hz a ha z3 h3 zf
    rw [e] at ht
    have := h2 b hb t ht
    rw [← zt, ez, hag] at this
    cases this
theorem clash_most {l : List Rl} {f : ByteArray} {n d : Int} (hn : moG l f = some n) (hd : leG l f = some d) (h : n < d) : Clashes l := by
  obtain ⟨a, ha, h5, hf, rfl⟩ := mo_some l f n hn
  obtain ⟨b, hb, h6, hf', rfl⟩ := le_some l f d hd
  exact ⟨a, ha, b, hb, hf.trans hf'.symm, .inl ⟨h5, h6, h⟩⟩
theorem clash_is {l m : List Rl} {a : Rl} (hl : ∀ b ∈ m, b ∈ l) (ha : a ∈ l) (h3 : a.k = 3) {t : ByteArray} (ht : txG m a.f = some t) (hne : t ≠ a.t) : Clashes l := by
  obtain ⟨z, hz, z3, zf, zt⟩ := tx_some m a.f t ht
  exact ⟨z, hl z hz, a, ha, zf, .inr (.inl ⟨z3, h3, by rw [zt]; exact hne⟩)⟩
theorem clash_text {l : List Rl} {b : Rl} (hb : b ∈ l) {t : ByteArray} (ht : txG l b.f = some t) (h : agB t b = true) : Clashes l := by
  obtain ⟨z, hz, z3, zf, zt⟩ := tx_some l b.f t ht
  exact ⟨z, hz, b, hb, zf, .inr (.inr ⟨z3, by rw [zt]; exact h⟩)⟩
end Go.Proofs.YtbkffdfboloogaaGreatDoor
namespace Go.Proofs.YtbkffdfboloogaaGreatDoor
open Go.RowKit Go.Maps Go.Lib
set_option linter.unusedVariables false
set_option maxRecDepth 100000

set_option maxHeartbeats 2000000 in
theorem against_any (s : ByteArray) (a : Rl) (v1 v5 : Value) (w : World) (hG : Gl w) (hs : s.size ≤ 4000000) :
    Calls Tryz.prog 69 #[.string s, .agg #[.int .i64 a.k, v1, .string a.f, .string a.t, .int .i64 a.n, v5]] w fun e w' => e = .returned (.bool (agB s a)) ∧ Below w.heap.size w w' := by
  have hb1 : Below w.heap.size w (w.alloc (.cells #[.int .i64 a.k, v1, .string a.f, .string a.t, .int .i64 a.n, v5] 33)) := (Below.refl _ _).alloc (Nat.le_refl _) _
  have HV := Lib.hid (value_any s 1 (w.alloc (.cells #[.int .i64 a.k, v1, .string a.f, .string a.t, .int .i64 a.n, v5] 33)) (hG.below hb1) hs)
  have HP : Hid (∀ w2 : World, Below (w.alloc (.cells #[.int .i64 a.k, v1, .string a.f, .string a.t, .int .i64 a.n, v5] 33)).heap.size (w.alloc (.cells #[.int .i64 a.k, v1, .string a.f, .string a.t, .int .i64 a.n, v5] 33)) w2 → w2.cell? ⟨w.heap.size, 0, none⟩ = some (.int .i64 a.k) ∧ w2.cell? ⟨w.heap.size, 3, none⟩ = some (.string a.t) ∧ w2.cell? ⟨w.heap.size, 4, none⟩ = some (.int .i64 a.n) ∧ Hid (Below w.heap.size w w2) ∧
      Hid (Calls Tryz.prog 102 #[.string s, .string a.t] w2 fun e w' => e = .returned (.bool (Lib.contains s.data.toList a.t.data.toList)) ∧ w' = w2)) := Lib.hid (by
    intro w2 hb2
    have hB := hb1.trans (hb2.mono hb1.size)
    obtain ⟨m, hm⟩ := (hG.below hB).ml
    exact ⟨(hb2.cell (p := ⟨w.heap.size, 0, none⟩) (by simp)).trans (by simp), (hb2.cell (p := ⟨w.heap.size, 3, none⟩) (by simp)).trans (by simp), (hb2.cell (p := ⟨w.heap.size, 4, none⟩) (by simp)).trans (by simp), Lib.hid hB, Lib.hid (Tryz.strings_Contains s a.t m w2 (by omega) hm)⟩)
  clear hb1 hG
  have HE : Hid (agB s a = if a.k = 4 then !Lib.contains s.data.toList a.t.data.toList else if a.k = 5 then !(valB s 1).2 || decide (a.n < (valB s 1).1) else if a.k = 6 then !(valB s 1).2 || decide ((valB s 1).1 < a.n) else false) := Lib.hid rfl
  generalize agB s a = r at *
  generalize (valB s 1).1 = v at *
  generalize (valB s 1).2 = ok at *
  generalize a.k = k at *
  generalize a.f = f at *
  generalize a.t = t at *
  generalize a.n = n at *
  by_cases h4 : k = 4
  · subst h4
    go_enter Tryz.func69, Tryz.ntmps69
    go_wp2_with (first
      | (go_at_call 13; refine HV.out.mono ?_; rintro e w2 ⟨rfl, hb2⟩; obtain ⟨d0, d3, d4, HB2, HC⟩ := HP.out w2 hb2; clear hb2)
      | (go_at_call 102; refine HC.out.mono ?_; rintro e w3 ⟨rfl, rfl⟩)
      | fail)
    go_ret
    exact ⟨by rw [HE.out]; rfl, HB2.out⟩
  by_cases h5 : k = 5
  · subst h5
    cases ok with
    | false =>
      go_enter Tryz.func69, Tryz.ntmps69
      go_wp2_with (first
        | (go_at_call 13; refine HV.out.mono ?_; rintro e w2 ⟨rfl, hb2⟩; obtain ⟨d0, d3, d4, HB2, HC⟩ := HP.out w2 hb2; clear hb2)
        | fail)
      go_ret
      exact ⟨by rw [HE.out]; rfl, HB2.out⟩
    | true =>
      by_cases hlt : n < v
      · have hd : decide (n < v) = true := by simpa using hlt
        go_enter Tryz.func69, Tryz.ntmps69
        go_wp2_with (first
          | (go_at_call 13; refine HV.out.mono ?_; rintro e w2 ⟨rfl, hb2⟩; obtain ⟨d0, d3, d4, HB2, HC⟩ := HP.out w2 hb2; clear hb2)
          | fail)
        go_ret
        exact ⟨by rw [HE.out, hd]; rfl, HB2.out⟩
      · have hd : decide (n < v) = false := by simpa using hlt
        go_enter Tryz.func69, Tryz.ntmps69
        go_wp2_with (first
          | (go_at_call 13; refine HV.out.mono ?_; rintro e w2 ⟨rfl, hb2⟩; obtain ⟨d0, d3, d4, HB2, HC⟩ := HP.out w2 hb2; clear hb2)
          | fail)
        go_ret
        exact ⟨by rw [HE.out, hd]; rfl, HB2.out⟩
  by_cases h6 : k = 6
  · subst h6
    cases ok with
    | false =>
      go_enter Tryz.func69, Tryz.ntmps69
      go_wp2_with (first
        | (go_at_call 13; refine HV.out.mono ?_; rintro e w2 ⟨rfl, hb2⟩; obtain ⟨d0, d3, d4, HB2, HC⟩ := HP.out w2 hb2; clear hb2)
        | fail)
      go_ret
      exact ⟨by rw [HE.out]; rfl, HB2.out⟩
    | true =>
      by_cases hlt : v < n
      · have hd : decide (v < n) = true := by simpa using hlt
        go_enter Tryz.func69, Tryz.ntmps69
        go_wp2_with (first
          | (go_at_call 13; refine HV.out.mono ?_; rintro e w2 ⟨rfl, hb2⟩; obtain ⟨d0, d3, d4, HB2, HC⟩ := HP.out w2 hb2; clear hb2)
          | fail)
        go_ret
        exact ⟨by rw [HE.out, hd]; rfl, HB2.out⟩
      · have hd : decide (v < n) = false := by simpa using hlt
        go_enter Tryz.func69, Tryz.ntmps69
        go_wp2_with (first
          | (go_at_call 13; refine HV.out.mono ?_; rintro e w2 ⟨rfl, hb2⟩; obtain ⟨d0, d3, d4, HB2, HC⟩ := HP.out w2 hb2; clear hb2)
          | fail)
        go_ret
        exact ⟨by rw [HE.out, hd]; rfl, HB2.out⟩
  have b4 : (k == 4) = false := by simpa using h4
  have b5 : (k == 5) = false := by simpa using h5
  have b6 : (k == 6) = false := by simpa using h6
  have HE2 : Hid (r = false) := Lib.hid (by rw [HE.out, if_neg h4, if_neg h5, if_neg h6])
  go_enter Tryz.func69, Tryz.ntmps69
  go_wp2_with (first
    | (go_at_call 13; refine HV.out.mono ?_; rintro e w2 ⟨rfl, hb2⟩; obtain ⟨d0, d3, d4, HB2, HC⟩ := HP.out w2 hb2; clear hb2)
    | fail)
  go_ret
  exact ⟨by rw [HE2.out]; rfl, HB2.out⟩
end Go.Proofs.YtbkffdfboloogaaGreatDoor
