/- The tokens of a text, as plain functions on lists of bytes. -/
namespace Go.Proofs.YtadhncdcpdabkaaDoor

abbrev Bs := List UInt8
def blank (c : UInt8) : Bool := c == 32 || c == 10
def digit (c : UInt8) : Bool := 48 ≤ c && c ≤ 57
def large (c : UInt8) : Bool := 65 ≤ c && c ≤ 90
def small (c : UInt8) : Bool := (97 ≤ c && c ≤ 122) || digit c || c == 45
def quotd (c : UInt8) : Bool := c != 34 && 32 ≤ c && c ≤ 126
def signy (c : UInt8) : Bool := [40, 41, 44, 59, 58, 46, 61, 126].contains c
structure Tok where
  kind : Nat
  place : Nat
  text : Bs
deriving DecidableEq, Repr
/-- what stands at the head of a text: an error, or a token's kind, its text, and how many bytes it takes -/
inductive R1 where
  | bad (e : Nat)
  | tok (kind : Nat) (text : Bs) (len : Nat)
deriving DecidableEq, Repr
def num (t : Bs) : Nat := t.foldl (fun n c => n * 10 + (c.toNat - 48)) 0
def words : List Bs := [[97, 98, 111, 118, 101],
  [97, 108, 108],
  [97, 110, 100],
  [97, 110, 121],
  [97, 112, 112, 108, 105, 99, 97, 110, 116],
  [98, 101, 108, 111, 119],
  [98, 101, 110, 101, 102, 105, 99, 105, 97, 114, 121],
  [99, 104, 97, 110, 103, 101],
  [99, 111, 110, 102, 105, 114, 109, 101, 114],
  [99, 111, 112, 105, 101, 115],
  [99, 114, 101, 100, 105, 116],
  [100, 97, 121, 115],
  [100, 114, 97, 102, 116],
  [101, 120, 112, 105, 114, 121],
  [102, 114, 111, 109],
  [105, 110, 115, 117, 114, 97, 110, 99, 101],
  [105, 110, 118, 111, 105, 99, 101],
  [105, 115, 115, 117, 101, 114],
  [108, 97, 100, 105, 110, 103],
  [108, 97, 116, 101, 115, 116],
  [110, 111],
  [110, 111, 116],
  [111, 102],
  [111, 114],
  [111, 114, 105, 103, 105, 110],
  [112, 97, 99, 107, 105, 110, 103],
  [112, 97, 114, 116, 105, 97, 108],
  [115, 105, 103, 104, 116],
  [115, 117, 109],
  [116, 101, 110, 111, 114],
  [116, 111],
  [119, 97, 110, 116, 115],
  [119, 105, 116, 104],
  [119, 105, 116, 104, 105, 110],
  [121, 101, 115]]
def kindNames : List Bs := [[119, 111, 114, 100], [110, 97, 109, 101], [110, 117, 109, 98, 101, 114], [116, 101, 120, 116], [99, 111, 100, 101], [115, 105, 103, 110]]
def ranked (t : Bs) : R1 :=
  if t.all digit then
    if 1 < t.length ∧ t.head? = some 48 then .bad 2 else if 1099511627776 < num t then .bad 3 else .tok 2 t t.length
  else if words.contains t then .tok 0 t t.length
  else if 16 < t.length then .bad 2 else .tok 1 t t.length
def one : Bs → R1
  | [] => .bad 2
  | c :: r =>
    if small c then ranked ((c :: r).takeWhile small)
    else if large c then
      let t := (c :: r).takeWhile large
      if t.length = 3 then .tok 4 t 3 else .bad 2
    else if c == 34 then
      let t := r.takeWhile quotd
      if (r.drop t.length).head? = some 34 then .tok 3 t (t.length + 2) else .bad 2
    else if signy c then .tok 5 [c] 1
    else if (c == 60 || c == 62) ∧ r.head? = some 61 then .tok 5 [c, 61] 2
    else .bad 2
/-- the tokens of a text, behind n others, its first byte at a place; or where it goes wrong, and how -/
def scanF : Nat → Nat → Nat → Bs → Except (Nat × Nat) (List Tok)
  | 0, _, at_, _ => .error (at_, 0)
  | f + 1, n, at_, l =>
    let b := (l.takeWhile blank).length
    match l.drop b with
    | [] => .ok []
    | c :: r =>
      if 4096 ≤ n then .error (at_ + b, 7)
      else match one (c :: r) with
        | .bad e => .error (at_ + b, e)
        | .tok k t m => (scanF f (n + 1) (at_ + b + m) ((c :: r).drop m)).map (⟨k, at_ + b, t⟩ :: ·)
def scan (n at_ : Nat) (l : Bs) : Except (Nat × Nat) (List Tok) := scanF (l.length + 1) n at_ l
def shown (t : Tok) : Bs := if t.kind = 3 then 34 :: t.text ++ [34] else t.text

theorem tw_all {p : UInt8 → Bool} : ∀ {l : Bs} {x}, x ∈ l.takeWhile p → p x = true
  | [], _, h => by simp at h
  | c :: r, x, h => by
    rw [List.takeWhile_cons] at h
    split at h
    · rcases List.mem_cons.1 h with rfl | h
      · assumption
      · exact tw_all h
    · simp at h
theorem tw_split (p : UInt8 → Bool) : ∀ l : Bs, l.takeWhile p ++ l.drop (l.takeWhile p).length = l
  | [] => rfl
  | c :: r => by
    rw [List.takeWhile_cons]
    split
    · simp [tw_split p r]
    · rfl
theorem tw_len (p : UInt8 → Bool) (l : Bs) : (l.takeWhile p).length ≤ l.length := by
  have := congrArg List.length (tw_split p l)
  simp at this
  omega
/-- the text is empty, or its first byte is none of these -/
def Stops (p : UInt8 → Bool) (r : Bs) : Prop := ∀ c, r.head? = some c → p c = false
theorem stops_nil (p : UInt8 → Bool) : Stops p [] := fun _ h => by simp at h
theorem tw_stops (p : UInt8 → Bool) : ∀ l : Bs, Stops p (l.drop (l.takeWhile p).length)
  | [] => stops_nil p
  | c :: r => by
    rw [List.takeWhile_cons]
    split
    · simpa using tw_stops p r
    · rename_i h
      intro d hd
      simp at hd
      subst hd
      simpa using h
theorem tw_app {p : UInt8 → Bool} {r : Bs} (hr : Stops p r) : ∀ {x : Bs}, (∀ c ∈ x, p c = true) → (x ++ r).takeWhile p = x
  | [], _ => by
    cases r with
    | nil => rfl
    | cons d r => rw [List.nil_append, List.takeWhile_cons, hr d rfl]; rfl
  | c :: x, h => by
    rw [List.cons_append, List.takeWhile_cons, h c (by simp), if_pos rfl, tw_app hr (fun d hd => h d (by simp [hd]))]
theorem tw_eq {p : UInt8 → Bool} {x r : Bs} (h : (x ++ r).takeWhile p = x) : (∀ c ∈ x, p c = true) ∧ Stops p r := by
  refine ⟨fun c hc => tw_all (l := x ++ r) (by rw [h]; exact hc), ?_⟩
  have := tw_stops p (x ++ r)
  rw [h] at this
  simpa using this

theorem one_cons (c : UInt8) (r : Bs) : one (c :: r) =
    if small c then ranked ((c :: r).takeWhile small)
    else if large c then (if ((c :: r).takeWhile large).length = 3 then .tok 4 ((c :: r).takeWhile large) 3 else .bad 2)
    else if c == 34 then (if (r.drop (r.takeWhile quotd).length).head? = some 34 then .tok 3 (r.takeWhile quotd) ((r.takeWhile quotd).length + 2) else .bad 2)
    else if signy c then .tok 5 [c] 1
    else if (c == 60 || c == 62) ∧ r.head? = some 61 then .tok 5 [c, 61] 2
    else .bad 2 := rfl
def never (_ : UInt8) : Bool := false
/-- the bytes x are a token of kind k and text t, wherever no byte of p stands behind them -/
inductive Piece : Bs → Nat → Bs → (UInt8 → Bool) → Prop where
  | run (x : Bs) (k : Nat) : x ≠ [] → (∀ c ∈ x, small c = true) → ranked x = .tok k x x.length → Piece x k x small
  | code (x : Bs) : x.length = 3 → (∀ c ∈ x, large c = true) → Piece x 4 x large
  | text (t : Bs) : (∀ c ∈ t, quotd c = true) → Piece (34 :: t ++ [34]) 3 t never
  | sign (c : UInt8) : signy c = true → Piece [c] 5 [c] never
  | two (c : UInt8) : (c == 60 || c == 62) = true → Piece [c, 61] 5 [c, 61] never
theorem ranked_tok {x t : Bs} {k m : Nat} (h : ranked x = .tok k t m) : k ≤ 2 ∧ t = x ∧ m = x.length := by
  unfold ranked at h
  split at h
  · split at h
    · cases h
    · split at h
      · cases h
      · injection h with a b d; subst a b d; simp
  · split at h
    · injection h with a b d; subst a b d; simp
    · split at h
      · cases h
      · injection h with a b d; subst a b d; simp
theorem one_piece {l : Bs} {k m : Nat} {t : Bs} (h : one l = .tok k t m) : ∃ x r p, l = x ++ r ∧ m = x.length ∧ Piece x k t p ∧ Stops p r := by
  cases l with
  | nil => simp [one] at h
  | cons c r =>
    rw [one_cons] at h
    split at h
    · rename_i hc
      obtain ⟨hk, ht, hm⟩ := ranked_tok h
      refine ⟨_, _, small, (tw_split small (c :: r)).symm, hm, ?_, tw_stops small _⟩
      subst ht hm
      exact .run _ _ (by rw [List.takeWhile_cons, if_pos hc]; simp) (fun _ => tw_all) h
    · split at h
      · split at h
        · rename_i h3
          injection h with a b d
          refine ⟨_, _, large, (tw_split large (c :: r)).symm, by rw [h3, d], ?_, tw_stops large _⟩
          subst a b
          exact .code _ h3 (fun _ => tw_all)
        · cases h
      · split at h
        · rename_i hq
          split at h
          · rename_i h3
            injection h with a b d
            have hs := tw_split quotd r
            have ha : ∀ c ∈ t, quotd c = true := fun c hc => tw_all (l := r) (by rw [b]; exact hc)
            rw [b] at hs d h3
            obtain ⟨y, hy⟩ : ∃ y, r.drop t.length = 34 :: y := by
              cases hd : r.drop t.length with
              | nil => rw [hd] at h3; simp at h3
              | cons d y => rw [hd] at h3; simp at h3; subst h3; exact ⟨y, rfl⟩
            rw [hy] at hs
            obtain rfl : c = 34 := by simpa using hq
            subst a d
            exact ⟨34 :: t ++ [34], y, never, by rw [← hs]; simp, by simp, .text t ha, fun _ _ => rfl⟩
          · cases h
        · split at h
          · rename_i hs
            injection h with a b d; subst a b d
            exact ⟨[c], r, never, rfl, rfl, .sign c hs, fun _ _ => rfl⟩
          · split at h
            · rename_i h4
              injection h with a b d; subst a b d
              cases r with
              | nil => simp at h4
              | cons d r =>
                obtain ⟨h4, h5⟩ := h4
                simp at h5
                subst h5
                exact ⟨[c, 61], r, never, rfl, rfl, .two c h4, fun _ _ => rfl⟩
            · cases h
theorem piece_one {x t : Bs} {k : Nat} {p : UInt8 → Bool} (h : Piece x k t p) (r : Bs) (hr : Stops p r) : one (x ++ r) = .tok k t x.length := by
  cases h with
  | run _ _ hne ha hrk =>
    have ht := tw_app hr ha
    cases x with
    | nil => exact absurd rfl hne
    | cons c y =>
      rw [List.cons_append, one_cons, if_pos (ha c (by simp)), ← List.cons_append, ht, hrk]
  | code _ h3 ha =>
    have ht := tw_app hr ha
    cases x with
    | nil => simp at h3
    | cons c y =>
      have hl := ha c (by simp)
      have hs : small c = false := by
        cases hh : small c
        · rfl
        · simp [small, large, digit, UInt8.le_iff_toNat_le] at hh hl
          have := congrArg UInt8.toNat (show (45 : UInt8) = 45 from rfl)
          rcases hh with (hh | hh) | hh
          · omega
          · omega
          · subst hh; simp at hl
      rw [List.cons_append, one_cons, if_neg (by simp [hs]), if_pos hl, ← List.cons_append, ht, if_pos h3, h3]
  | text _ ha =>
    have hq : Stops quotd (34 :: r) := fun c hc => by simp at hc; subst hc; rfl
    have ht := tw_app hq ha
    have e : 34 :: t ++ [34] ++ r = 34 :: (t ++ 34 :: r) := by simp
    rw [e, one_cons, if_neg (by decide), if_neg (by decide), if_pos (by decide), ht, if_pos (by simp)]
    simp
  | sign c hs =>
    have : c = 40 ∨ c = 41 ∨ c = 44 ∨ c = 59 ∨ c = 58 ∨ c = 46 ∨ c = 61 ∨ c = 126 := by simpa [signy] using hs
    rw [List.cons_append, one_cons]
    rcases this with rfl | rfl | rfl | rfl | rfl | rfl | rfl | rfl <;> simp [small, large, digit, signy]
  | two c hs =>
    have : c = 60 ∨ c = 62 := by simpa using hs
    rw [List.cons_append, one_cons]
    rcases this with rfl | rfl <;> simp [small, large, digit, signy]
theorem piece_shown {x t : Bs} {k : Nat} {p : UInt8 → Bool} (h : Piece x k t p) (n : Nat) : x = shown ⟨k, n, t⟩ := by
  cases h with
  | run _ _ hne ha hrk => have := (ranked_tok hrk).1; simp [shown]; intro h; omega
  | code _ h3 ha => simp [shown]
  | text _ ha => simp [shown]
  | sign c hs => simp [shown]
  | two c hs => simp [shown]
theorem piece_kind {x t : Bs} {k : Nat} {p : UInt8 → Bool} (h : Piece x k t p) : k ≤ 5 ∧ 1 ≤ x.length := by
  cases h with
  | run _ _ hne ha hrk =>
    have := (ranked_tok hrk).1
    have := List.length_pos_iff.2 hne
    omega
  | code _ h3 ha => omega
  | text _ ha => simp
  | sign c hs => simp
  | two c hs => simp
theorem blank_stops {x t : Bs} {k : Nat} {p : UInt8 → Bool} (h : Piece x k t p) {r : Bs} (hr : ∀ c, r.head? = some c → blank c = true) : Stops p r := by
  intro c hc
  have : c = 32 ∨ c = 10 := by simpa [blank] using hr c hc
  cases h with
  | run _ _ hne ha hrk => rcases this with rfl | rfl <;> rfl
  | code _ h3 ha => rcases this with rfl | rfl <;> rfl
  | text _ ha => rfl
  | sign c hs => rfl
  | two c hs => rfl
theorem piece_head {x t : Bs} {k : Nat} {p : UInt8 → Bool} (h : Piece x k t p) : ∃ c y, x = c :: y ∧ blank c = false := by
  have key : ∀ c, blank c = true → small c = false ∧ large c = false ∧ signy c = false ∧ (c == 60 || c == 62) = false := by
    intro c hb
    have : c = 32 ∨ c = 10 := by simpa [blank] using hb
    rcases this with rfl | rfl <;> decide
  cases h with
  | run _ _ hne ha hrk =>
    cases x with
    | nil => exact absurd rfl hne
    | cons c y =>
      refine ⟨c, y, rfl, ?_⟩
      cases hb : blank c
      · rfl
      · have := ha c (by simp); rw [(key c hb).1] at this; cases this
  | code _ h3 ha =>
    cases x with
    | nil => simp at h3
    | cons c y =>
      refine ⟨c, y, rfl, ?_⟩
      cases hb : blank c
      · rfl
      · have := ha c (by simp); rw [(key c hb).2.1] at this; cases this
  | text _ ha => exact ⟨34, _, rfl, by decide⟩
  | sign c hs =>
    refine ⟨c, [], rfl, ?_⟩
    cases hb : blank c
    · rfl
    · rw [(key c hb).2.2.1] at hs; cases hs
  | two c hs =>
    refine ⟨c, _, rfl, ?_⟩
    cases hb : blank c
    · rfl
    · rw [(key c hb).2.2.2] at hs; cases hs
end Go.Proofs.YtadhncdcpdabkaaDoor
