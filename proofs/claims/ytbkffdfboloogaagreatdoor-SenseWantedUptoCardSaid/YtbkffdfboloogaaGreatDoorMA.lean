/- The tokens of a text, as plain functions on lists of bytes. Scanning, plain: how it goes on, and when it ends well. What the statements on tokens ask, plain. Names of the language and codes, plain. -/

namespace Go.Proofs.YtbkffdfboloogaaGreatDoor

abbrev Bs := List UInt8
def blank (c : UInt8) : Bool := c == 32 || c == 10
def digit (c : UInt8) : Bool := 48 ≤ c && c ≤ 57
def large (c : UInt8) : Bool := 65 ≤ c && c ≤ 90
def small (c : UInt8) : Bool := (97 ≤ c && c ≤ 122) || digit c || c == 45
def quotd (c : UInt8) : Bool := c != 34 && 32 ≤ c && c ≤ 126
def signy (c : UInt8) : Bool := [40, 41, 44, 59, 58, 46, 61, 126].contains c
structure Tok where
  kind : Nat
  place : Nat
  text : Bs
deriving DecidableEq, Repr
/-- what stands at the head of a text: an error, or a token's kind, its text, and how many bytes it takes -/
inductive R1 where
  | bad (e : Nat)
  | tok (kind : Nat) (text : Bs) (len : Nat)
deriving DecidableEq, Repr
def num (t : Bs) : Nat := t.foldl (fun n c => n * 10 + (c.toNat - 48)) 0
def words : List Bs := [[97, 98, 111, 118, 101],
  [97, 108, 108],
  [97, 110, 100],
  [97, 110, 121],
  [97, 112, 112, 108, 105, 99, 97, 110, 116],
  [98, 101, 108, 111, 119],
  [98, 101, 110, 101, 102, 105, 99, 105, 97, 114, 121],
  [99, 104, 97, 110, 103, 101],
  [99, 111, 110, 102, 105, 114, 109, 101, 114],
  [99, 111, 112, 105, 101, 115],
  [99, 114, 101, 100, 105, 116],
  [100, 97, 121, 115],
  [100, 114, 97, 102, 116],
  [101, 120, 112, 105, 114, 121],
  [102, 114, 111, 109],
  [105, 110, 115, 117, 114, 97, 110, 99, 101],
  [105, 110, 118, 111, 105, 99, 101],
  [105, 115, 115, 117, 101, 114],
  [108, 97, 100, 105, 110, 103],
  [108, 97, 116, 101, 115, 116],
  [110, 111],
  [110, 111, 116],
  [111, 102],
  [111, 114],
  [111, 114, 105, 103, 105, 110],
  [112, 97, 99, 107, 105, 110, 103],
  [112, 97, 114, 116, 105, 97, 108],
  [115, 105, 103, 104, 116],
  [115, 117, 109],
  [116, 101, 110, 111, 114],
  [116, 111],
  [119, 97, 110, 116, 115],
  [119, 105, 116, 104],
  [119, 105, 116, 104, 105, 110],
  [121, 101, 115]]
def kindNames : List Bs := [[119, 111, 114, 100], [110, 97, 109, 101], [110, 117, 109, 98, 101, 114], [116, 101, 120, 116], [99, 111, 100, 101], [115, 105, 103, 110]]
def ranked (t : Bs) : R1 :=
  if t.all digit then
    if 1 < t.length ∧ t.head? = some 48 then .bad 2 else if 1099511627776 < num t then .bad 3 else .tok 2 t t.length
  else if words.contains t then .tok 0 t t.length
  else if 16 < t.length then .bad 2 else .tok 1 t t.length
def one : Bs → R1
  | [] => .bad 2
  | c :: r =>
    if small c then ranked ((c :: r).takeWhile small)
    else if large c then
      let t := (c :: r).takeWhile large
      if t.length = 3 then .tok 4 t 3 else .bad 2
    else if c == 34 then
      let t := r.takeWhile quotd
      if (r.drop t.length).head? = some 34 then .tok 3 t (t.length + 2) else .bad 2
    else if signy c then .tok 5 [c] 1
    else if (c == 60 || c == 62) ∧ r.head? = some 61 then .tok 5 [c, 61] 2
    else .bad 2
/-- the tokens of a text, behind n others, its first byte at a place; or where it goes wrong, and how -/
def scanF : Nat → Nat → Nat → Bs → Except (Nat × Nat) (List Tok)
  | 0, _, at_, _ => .error (at_, 0)
  | f + 1, n, at_, l =>
    let b := (l.takeWhile blank).length
    match l.drop b with
    | [] => .ok []
    | c :: r =>
      if 4096 ≤ n then .error (at_ + b, 7)
      else match one (c :: r) with
        | .bad e => .error (at_ + b, e)
        | .tok k t m => (scanF f (n + 1) (at_ + b + m) ((c :: r).drop m)).map (⟨k, at_ + b, t⟩ :: ·)
def scan (n at_ : Nat) (l : Bs) : Except (Nat × Nat) (List Tok) := scanF (l.length + 1) n at_ l
def shown (t : Tok) : Bs := if t.kind = 3 then 34 :: t.text ++ [34] else t.text

theorem tw_all {p : UInt8 → Bool} : ∀ {l : Bs} {x}, x ∈ l.takeWhile p → p x = true
  | [], _, h => by simp at h
  | c :: r, x, h => by
    rw [List.takeWhile_cons] at h
    split at h
    · rcases List.mem_cons.1 h with rfl | h
      · assumption
      · exact tw_all h
    · simp at h
theorem tw_split (p : UInt8 → Bool) : ∀ l : Bs, l.takeWhile p ++ l.drop (l.takeWhile p).length = l
  | [] => rfl
  | c :: r => by
    rw [List.takeWhile_cons]
    split
    · simp [tw_split p r]
    · rfl
theorem tw_len (p : UInt8 → Bool) (l : Bs) : (l.takeWhile p).length ≤ l.length := by
  have := congrArg List.length (tw_split p l)
  simp at this
  omega
/-- the text is empty, or its first byte is none of these -/
def Stops (p : UInt8 → Bool) (r : Bs) : Prop := ∀ c, r.head? = some c → p c = false
theorem stops_nil (p : UInt8 → Bool) : Stops p [] := fun _ h => by simp at h
theorem tw_stops (p : UInt8 → Bool) : ∀ l : Bs, Stops p (l.drop (l.takeWhile p).length)
  | [] => stops_nil p
  | c :: r => by
    rw [List.takeWhile_cons]
    split
    · simpa using tw_stops p r
    · rename_i h
      intro d hd
      simp at hd
      subst hd
      simpa using h
theorem tw_app {p : UInt8 → Bool} {r : Bs} (hr : Stops p r) : ∀ {x : Bs}, (∀ c ∈ x, p c = true) → (x ++ r).takeWhile p = x
  | [], _ => by
    cases r with
    | nil => rfl
    | cons d r => rw [List.nil_append, List.takeWhile_cons, hr d rfl]; rfl
  | c :: x, h => by
    rw [List.cons_append, List.takeWhile_cons, h c (by simp), if_pos rfl, tw_app hr (fun d hd => h d (by simp [hd]))]
theorem tw_eq {p : UInt8 → Bool} {x r : Bs} (h : (x ++ r).takeWhile p = x) : (∀ c ∈ x, p c = true) ∧ Stops p r := by
  refine ⟨fun c hc => tw_all (l := x ++ r) (by rw [h]; exact hc), ?_⟩
  have := tw_stops p (x ++ r)
  rw [h] at this
  simpa using this

theorem one_cons (c : UInt8) (r : Bs) : one (c :: r) =
    if small c then ranked ((c :: r).takeWhile small)
    else if large c then (if ((c :: r).takeWhile large).length = 3 then .tok 4 ((c :: r).takeWhile large) 3 else .bad 2)
    else if c == 34 then (if (r.drop (r.takeWhile quotd).length).head? = some 34 then .tok 3 (r.takeWhile quotd) ((r.takeWhile quotd).length + 2) else .bad 2)
    else if signy c then .tok 5 [c] 1
    else if (c == 60 || c == 62) ∧ r.head? = some 61 then .tok 5 [c, 61] 2
    else .bad 2 := rfl
def never (_ : UInt8) : Bool := false
/-- the bytes x are a token of kind k and text t, wherever no byte of p stands behind them -/
inductive Piece : Bs → Nat → Bs → (UInt8 → Bool) → Prop where
  | run (x : Bs) (k : Nat) : x ≠ [] → (∀ c ∈ x, small c = true) → ranked x = .tok k x x.length → Piece x k x small
  | code (x : Bs) : x.length = 3 → (∀ c ∈ x, large c = true) → Piece x 4 x large
  | text (t : Bs) : (∀ c ∈ t, quotd c = true) → Piece (34 :: t ++ [34]) 3 t never
  | sign (c : UInt8) : signy c = true → Piece [c] 5 [c] never
  | two (c : UInt8) : (c == 60 || c == 62) = true → Piece [c, 61] 5 [c, 61] never
theorem ranked_tok {x t : Bs} {k m : Nat} (h : ranked x = .tok k t m) : k ≤ 2 ∧ t = x ∧ m = x.length := by
  unfold ranked at h
  split at h
  · split at h
    · cases h
    · split at h
      · cases h
      · injection h with a b d; subst a b d; simp
  · split at h
    · injection h with a b d; subst a b d; simp
    · split at h
      · cases h
      · injection h with a b d; subst a b d; simp
theorem one_piece {l : Bs} {k m : Nat} {t : Bs} (h : one l = .tok k t m) : ∃ x r p, l = x ++ r ∧ m = x.length ∧ Piece x k t p ∧ Stops p r := by
  cases l with
  | nil => simp [one] at h
  | cons c r =>
    rw [one_cons] at h
    split at h
    · rename_i hc
      obtain ⟨hk, ht, hm⟩ := ranked_tok h
      refine ⟨_, _, small, (tw_split small (c :: r)).symm, hm, ?_, tw_stops small _⟩
      subst ht hm
      exact .run _ _ (by rw [List.takeWhile_cons, if_pos hc]; simp) (fun _ => tw_all) h
    · split at h
      · split at h
        · rename_i h3
          injection h with a b d
          refine ⟨_, _, large, (tw_split large (c :: r)).symm, by rw [h3, d], ?_, tw_stops large _⟩
          subst a b
          exact .code _ h3 (fun _ => tw_all)
        · cases h
      · split at h
        · rename_i hq
          split at h
          · rename_i h3
            injection h with a b d
            have hs := tw_split quotd r
            have ha : ∀ c ∈ t, quotd c = true := fun c hc => tw_all (l := r) (by rw [b]; exact hc)
            rw [b] at hs d h3
            obtain ⟨y, hy⟩ : ∃ y, r.drop t.length = 34 :: y := by
              cases hd : r.drop t.length with
              | nil => rw [hd] at h3; simp at h3
              | cons d y => rw [hd] at h3; simp at h3; subst h3; exact ⟨y, rfl⟩
            rw [hy] at hs
            obtain rfl : c = 34 := by simpa using hq
            subst a d
            exact ⟨34 :: t ++ [34], y, never, by rw [← hs]; simp, by simp, .text t ha, fun _ _ => rfl⟩
          · cases h
        · split at h
          · rename_i hs
            injection h with a b d; subst a b d
            exact ⟨[c], r, never, rfl, rfl, .sign c hs, fun _ _ => rfl⟩
          · split at h
            · rename_i h4
              injection h with a b d; subst a b d
              cases r with
              | nil => simp at h4
              | cons d r =>
                obtain ⟨h4, h5⟩ := h4
                simp at h5
                subst h5
                exact ⟨[c, 61], r, never, rfl, rfl, .two c h4, fun _ _ => rfl⟩
            · cases h
theorem piece_one {x t : Bs} {k : Nat} {p : UInt8 → Bool} (h : Piece x k t p) (r : Bs) (hr : Stops p r) : one (x ++ r) = .tok k t x.length := by
  cases h with
  | run _ _ hne ha hrk =>
    have ht := tw_app hr ha
    cases x with
    | nil => exact absurd rfl hne
    | cons c y =>
      rw [List.cons_append, one_cons, if_pos (ha c (by simp)), ← List.cons_append, ht, hrk]
  | code _ h3 ha =>
    have ht := tw_app hr ha
    cases x with
    | nil => simp at h3
    | cons c y =>
      have hl := ha c (by simp)
      have hs : small c = false := by
        cases hh : small c
        · rfl
        · simp [small, large, digit, UInt8.le_iff_toNat_le] at hh hl
          have := congrArg UInt8.toNat (show (45 : UInt8) = 45 from rfl)
          rcases hh with (hh | hh) | hh
          · omega
          · omega
          · subst hh; simp at hl
      rw [List.cons_append, one_cons, if_neg (by simp [hs]), if_pos hl, ← List.cons_append, ht, if_pos h3, h3]
  | text _ ha =>
    have hq : Stops quotd (34 :: r) := fun c hc => by simp at hc; subst hc; rfl
    have ht := tw_app hq ha
    have e : 34 :: t ++ [34] ++ r = 34 :: (t ++ 34 :: r) := by simp
    rw [e, one_cons, if_neg (by decide), if_neg (by decide), if_pos (by decide), ht, if_pos (by simp)]
    simp
  | sign c hs =>
    have : c = 40 ∨ c = 41 ∨ c = 44 ∨ c = 59 ∨ c = 58 ∨ c = 46 ∨ c = 61 ∨ c = 126 := by simpa [signy] using hs
    rw [List.cons_append, one_cons]
    rcases this with rfl | rfl | rfl | rfl | rfl | rfl | rfl | rfl <;> simp [small, large, digit, signy]
  | two c hs =>
    have : c = 60 ∨ c = 62 := by simpa using hs
    rw [List.cons_append, one_cons]
    rcases this with rfl | rfl <;> simp [small, large, digit, signy]
theorem piece_shown {x t : Bs} {k : Nat} {p : UInt8 → Bool} (h : Piece x k t p) (n : Nat) : x = shown ⟨k, n, t⟩ := by
  cases h with
  | run _ _ hne ha hrk => have := (ranked_tok hrk).1; simp [shown]; intro h; omega
  | code _ h3 ha => simp [shown]
  | text _ ha => simp [shown]
  | sign c hs => simp [shown]
  | two c hs => simp [shown]
theorem piece_kind {x t : Bs} {k : Nat} {p : UInt8 → Bool} (h : Piece x k t p) : k ≤ 5 ∧ 1 ≤ x.length := by
  cases h with
  | run _ _ hne ha hrk =>
    have := (ranked_tok hrk).1
    have := List.length_pos_iff.2 hne
    omega
  | code _ h3 ha => omega
  | text _ ha => simp
  | sign c hs => simp
  | two c hs => simp
theorem blank_stops {x t : Bs} {k : Nat} {p : UInt8 → Bool} (h : Piece x k t p) {r : Bs} (hr : ∀ c, r.head? = some c → blank c = true) : Stops p r := by
  intro c hc
  have : c = 32 ∨ c = 10 := by simpa [blank] using hr c hc
  cases h with
  | run _ _ hne ha hrk => rcases this with rfl | rfl <;> rfl
  | code _ h3 ha => rcases this with rfl | rfl <;> rfl
  | text _ ha => rfl
  | sign c hs => rfl
  | two c hs => rfl
theorem piece_head {x t : Bs} {k : Nat} {p : UInt8 → Bool} (h : Piece x k t p) : ∃ c y, x = c :: y ∧ blank c = false := by
  have key : ∀ c, blank c = true → small c = false ∧ large c = false ∧ signy c = false ∧ (c == 60 || c == 62) = false := by
    intro c hb
    have : c = 32 ∨ c = 10 := by simpa [blank] using hb
    rcases this with rfl | rfl <;> decide
  cases h with
  | run _ _ hne ha hrk =>
    cases x with
    | nil => exact absurd rfl hne
    | cons c y =>
      refine ⟨c, y, rfl, ?_⟩
      cases hb : blank c
      · rfl
      · have := ha c (by simp); rw [(key c hb).1] at this; cases this
  | code _ h3 ha =>
    cases x with
    | nil => simp at h3
    | cons c y =>
      refine ⟨c, y, rfl, ?_⟩
      cases hb : blank c
      · rfl
      · have := ha c (by simp); rw [(key c hb).2.1] at this; cases this
  | text _ ha => exact ⟨34, _, rfl, by decide⟩
  | sign c hs =>
    refine ⟨c, [], rfl, ?_⟩
    cases hb : blank c
    · rfl
    · rw [(key c hb).2.2.1] at hs; cases hs
  | two c hs =>
    refine ⟨c, _, rfl, ?_⟩
    cases hb : blank c
    · rfl
    · rw [(key c hb).2.2.2] at hs; cases hs
end Go.Proofs.YtbkffdfboloogaaGreatDoor
namespace Go.Proofs.YtbkffdfboloogaaGreatDoor

theorem one_len {l : Bs} {k m : Nat} {t : Bs} (h : one l = .tok k t m) : 1 ≤ m ∧ m ≤ l.length := by
  obtain ⟨x, r, p, rfl, rfl, hp, _⟩ := one_piece h
  have := (piece_kind hp).2
  simp
  omega
theorem scanF_succ (f n at_ : Nat) (l : Bs) : scanF (f + 1) n at_ l =
    match l.drop (l.takeWhile blank).length with
    | [] => .ok []
    | c :: r =>
      if 4096 ≤ n then .error (at_ + (l.takeWhile blank).length, 7)
      else match one (c :: r) with
        | .bad e => .error (at_ + (l.takeWhile blank).length, e)
        | .tok k t m => (scanF f (n + 1) (at_ + (l.takeWhile blank).length + m) ((c :: r).drop m)).map (⟨k, at_ + (l.takeWhile blank).length, t⟩ :: ·) := rfl
theorem scanF_more : ∀ (f g n at_ : Nat) (l : Bs), l.length < f → l.length < g → scanF f n at_ l = scanF g n at_ l
  | 0, _, _, _, _, h, _ => by omega
  | _ + 1, 0, _, _, _, _, h => by omega
  | f + 1, g + 1, n, at_, l, hf, hg => by
    rw [scanF_succ, scanF_succ]
    have hl : (l.drop (l.takeWhile blank).length).length ≤ l.length := by simp
    generalize l.drop (l.takeWhile blank).length = y at *
    cases y with
    | nil => rfl
    | cons c r =>
      simp only
      split
      · rfl
      · cases ho : one (c :: r) with
        | bad e => rfl
        | tok k t m =>
          have := one_len ho
          simp only
          rw [scanF_more f g _ _ _ (by simp at *; omega) (by simp at *; omega)]
theorem scan_end {n at_ : Nat} {l : Bs} (h : l.drop (l.takeWhile blank).length = []) : scan n at_ l = .ok [] := by
  unfold scan; rw [scanF_succ, h]
theorem scan_full {n at_ : Nat} {l : Bs} (h : l.drop (l.takeWhile blank).length ≠ []) (hn : 4096 ≤ n) : scan n at_ l = .error (at_ + (l.takeWhile blank).length, 7) := by
  unfold scan; rw [scanF_succ]
  generalize l.drop (l.takeWhile blank).length = y at *
  cases y with
  | nil => exact absurd rfl h
  | cons c r => simp only; rw [if_pos hn]
theorem scan_bad {n at_ e : Nat} {l : Bs} (h : l.drop (l.takeWhile blank).length ≠ []) (hn : n < 4096) (ho : one (l.drop (l.takeWhile blank).length) = .bad e) : scan n at_ l = .error (at_ + (l.takeWhile blank).length, e) := by
  unfold scan; rw [scanF_succ]
  generalize l.drop (l.takeWhile blank).length = y at *
  cases y with
  | nil => exact absurd rfl h
  | cons c r => simp only; rw [if_neg (by omega), ho]
theorem scan_tok {n at_ k m : Nat} {t l : Bs} (hn : n < 4096) (ho : one (l.drop (l.takeWhile blank).length) = .tok k t m) :
    scan n at_ l = (scan (n + 1) (at_ + (l.takeWhile blank).length + m) ((l.drop (l.takeWhile blank).length).drop m)).map (⟨k, at_ + (l.takeWhile blank).length, t⟩ :: ·) := by
  unfold scan; rw [scanF_succ]
  have hl : (l.drop (l.takeWhile blank).length).length ≤ l.length := by simp
  generalize l.drop (l.takeWhile blank).length = y at *
  cases y with
  | nil => simp [one] at ho
  | cons c r =>
    have := one_len ho
    simp only
    rw [if_neg (by omega), ho]
    simp only
    rw [scanF_more l.length (((c :: r).drop m).length + 1) _ _ _ (by simp at *; omega) (by simp)]

/-- scanned, with these tokens -/
inductive Scanned : Nat → Nat → Bs → List Tok → Prop where
  | done (n at_ : Nat) (l : Bs) : (∀ c ∈ l, blank c = true) → Scanned n at_ l []
  | tok (n at_ k : Nat) (b x r t : Bs) (p : UInt8 → Bool) (T : List Tok) : (∀ c ∈ b, blank c = true) → n < 4096 → Piece x k t p → Stops p r → Scanned (n + 1) (at_ + b.length + x.length) r T → Scanned n at_ (b ++ (x ++ r)) (⟨k, at_ + b.length, t⟩ :: T)
theorem app_all {a b : Bs} (ha : ∀ c ∈ a, blank c = true) (hb : ∀ c ∈ b, blank c = true) : ∀ c ∈ a ++ b, blank c = true := fun c hc => by
  rcases List.mem_append.1 hc with h | h
  · exact ha c h
  · exact hb c h
theorem blanks_tw {b y : Bs} (hb : ∀ c ∈ b, blank c = true) (hy : Stops blank y) : (b ++ y).takeWhile blank = b := tw_app hy hb
theorem piece_stops {x t r : Bs} {k : Nat} {p : UInt8 → Bool} (h : Piece x k t p) : Stops blank (x ++ r) := by
  obtain ⟨c, y, rfl, hc⟩ := piece_head h
  intro d hd
  simp at hd
  subst hd
  exact hc
theorem scanned_scan {n at_ : Nat} {l : Bs} {T : List Tok} (h : Scanned n at_ l T) : scan n at_ l = .ok T := by
  induction h with
  | done n at_ l hb =>
    refine scan_end ?_
    have : l.takeWhile blank = l := by have := tw_app (stops_nil blank) hb; simpa using this
    rw [this]
    simp
  | tok n at_ k b x r t p T hb hn hp hs _ ih =>
    have e := blanks_tw hb (piece_stops (r := r) hp)
    have d : (b ++ (x ++ r)).drop ((b ++ (x ++ r)).takeWhile blank).length = x ++ r := by rw [e]; simp
    have ho : one ((b ++ (x ++ r)).drop ((b ++ (x ++ r)).takeWhile blank).length) = .tok k t x.length := by rw [d]; exact piece_one hp r hs
    rw [scan_tok hn ho, d, e, List.drop_left, ih]
    rfl
theorem scan_scannedF : ∀ (f n at_ : Nat) (l : Bs) (T : List Tok), scanF f n at_ l = .ok T → Scanned n at_ l T
  | 0, _, _, _, _, h => by cases h
  | f + 1, n, at_, l, T, h => by
    rw [scanF_succ] at h
    have hs := tw_split blank l
    have hb : ∀ c ∈ l.takeWhile blank, blank c = true := fun c hc => tw_all hc
    generalize l.takeWhile blank = b at *
    generalize l.drop b.length = y at *
    subst hs
    cases y with
    | nil =>
      simp only at h
      injection h with h
      subst h
      exact .done _ _ _ (by simpa using hb)
    | cons c r =>
      simp only at h
      split at h
      · cases h
      · cases ho : one (c :: r) with
        | bad e => rw [ho] at h; cases h
        | tok k t m =>
          rw [ho] at h
          simp only at h
          obtain ⟨x, r', p, e, rfl, hp, hst⟩ := one_piece ho
          rw [e, List.drop_left] at h
          cases hT : scanF f (n + 1) (at_ + b.length + x.length) r' with
          | error z => rw [hT] at h; cases h
          | ok T' =>
            rw [hT] at h
            injection h with h
            subst h
            rw [e]
            exact .tok n at_ k b x r' t p T' hb (by omega) hp hst (scan_scannedF f _ _ _ _ hT)
theorem scan_scanned {n at_ : Nat} {l : Bs} {T : List Tok} (h : scan n at_ l = .ok T) : Scanned n at_ l T := scan_scannedF _ _ _ _ _ h
theorem Scanned.count {n at_ : Nat} {l : Bs} {T : List Tok} (h : Scanned n at_ l T) : T.length ≤ l.length ∧ (n ≤ 4096 → n + T.length ≤ 4096) := by
  induction h with
  | done => simp
  | tok n at_ k b x r t p T hb hn hp hs _ ih =>
    have := (piece_kind hp).2
    simp
    omega
/-- what is scanned behind a number of others, at another place -/
def moved (d : Nat) (T : List Tok) : List Tok := T.map fun t => { t with place := t.place + d }
theorem Scanned.move {n at_ : Nat} {l : Bs} {T : List Tok} (h : Scanned n at_ l T) (n' d : Nat) (hn : n' + T.length ≤ 4096) : Scanned n' (at_ + d) l (moved d T) := by
  induction h generalizing n' with
  | done n at_ l hb => exact .done _ _ _ hb
  | tok n at_ k b x r t p T hb hn' hp hs _ ih =>
    simp at hn
    have := Scanned.tok n' (at_ + d) k b x r t p _ hb (by omega) hp hs (by
      have h := ih (n' + 1) (by omega)
      rw [show at_ + d + b.length + x.length = at_ + b.length + x.length + d by omega]
      exact h)
    rw [show at_ + d + b.length = at_ + b.length + d by omega] at this
    exact this
theorem Scanned.det {n at_ : Nat} {l : Bs} {T T' : List Tok} (h : Scanned n at_ l T) (h' : Scanned n at_ l T') : T = T' := by
  have a := scanned_scan h
  rw [scanned_scan h'] at a
  injection a with a
  exact a.symm
/-- blanks ahead change nothing but places -/
theorem Scanned.ahead {n at_ : Nat} {l : Bs} {T : List Tok} {g : Bs} (hg : ∀ c ∈ g, blank c = true) (h : Scanned n (at_ + g.length) l T) : Scanned n at_ (g ++ l) T := by
  generalize e : at_ + g.length = a at *
  cases h with
  | done _ _ _ hb => exact .done _ _ _ (app_all hg hb)
  | tok _ _ k b x r t p T hb hn hp hs h2 =>
    subst e
    rw [← List.append_assoc]
    have := Scanned.tok n at_ k (g ++ b) x r t p T (app_all hg hb) hn hp hs (by rw [List.length_append, ← Nat.add_assoc]; exact h2)
    rw [List.length_append, ← Nat.add_assoc] at this
    exact this
/-- one text, a gap, another text -/
theorem Scanned.join {n at_ : Nat} {l : Bs} {T : List Tok} (h : Scanned n at_ l T) {g m : Bs} {U : List Tok} (hg : ∀ c ∈ g, blank c = true) (hgn : g ≠ [] ∨ m = []) (hU : Scanned (n + T.length) (at_ + l.length + g.length) m U) :
    Scanned n at_ (l ++ (g ++ m)) (T ++ U) := by
  induction h with
  | done n at_ l hb =>
    rw [← List.append_assoc]
    refine Scanned.ahead (app_all hb hg) ?_
    rw [List.length_append, ← Nat.add_assoc]
    exact hU
  | tok n at_ k b x r t p T hb hn hp hs _ ih =>
    have e : b ++ (x ++ r) ++ (g ++ m) = b ++ (x ++ (r ++ (g ++ m))) := by simp
    rw [e]
    refine Scanned.tok n at_ k b x (r ++ (g ++ m)) t p _ hb hn hp ?_ ?_
    · cases r with
      | nil =>
        cases g with
        | nil =>
          rcases hgn with h | h
          · exact absurd rfl h
          · subst h; exact stops_nil p
        | cons c g => exact blank_stops hp (fun d hd => by simp at hd; subst hd; exact hg c (by simp))
      | cons c r => exact fun d hd => hs d (by simpa using hd)
    · refine ih ?_
      have e1 : n + 1 + T.length = n + (T.length + 1) := by omega
      have e2 : at_ + b.length + x.length + r.length + g.length = at_ + (b ++ (x ++ r)).length + g.length := by simp; omega
      rw [e1, e2]
      exact hU
/-- what follows a blank is scanned by itself -/
theorem Scanned.part {N at_ : Nat} {L : Bs} {V : List Tok} (h : Scanned N at_ L V) : ∀ {l g m : Bs}, L = l ++ (g ++ m) → (∀ c ∈ g, blank c = true) → ∀ {T : List Tok}, Scanned N at_ l T → (g ≠ [] ∨ m = []) → ∃ U, V = T ++ U ∧ Scanned (N + T.length) (at_ + l.length + g.length) m U := by
  intro l g m e hg T hT hgn
  induction hT generalizing L V with
  | done n at_ l hb =>
    subst e
    refine ⟨V, rfl, ?_⟩
    have hbg : ∀ c ∈ l ++ g, blank c = true := (app_all hb hg)
    rw [← List.append_assoc] at h
    have hs := scanned_scan h
    cases hm : scan n (at_ + (l ++ g).length) m with
    | ok U =>
      have h2 := (scan_scanned hm).ahead hbg
      have := h.det h2
      subst this
      rw [List.length_append, ← Nat.add_assoc] at hm
      exact scan_scanned hm
    | error z =>
      exfalso
      -- the first token of both is the same
      have e1 : ((l ++ g) ++ m).takeWhile blank = (l ++ g) ++ m.takeWhile blank := by
        rw [List.takeWhile_append]
        have : (l ++ g).takeWhile blank = l ++ g := by have := tw_app (stops_nil blank) hbg; simpa using this
        rw [this, if_pos rfl]
      have e2 : ((l ++ g) ++ m).drop (((l ++ g) ++ m).takeWhile blank).length = m.drop (m.takeWhile blank).length := by
        rw [e1, List.length_append, List.drop_append]
        rw [List.drop_eq_nil_of_le (by omega)]
        simp
      by_cases h0 : m.drop (m.takeWhile blank).length = []
      · rw [scan_end h0] at hm; cases hm
      · by_cases hn : 4096 ≤ n
        · rw [scan_full (by rw [e2]; exact h0) hn] at hs; cases hs
        · cases ho : one (m.drop (m.takeWhile blank).length) with
          | bad e => rw [scan_bad (by rw [e2]; exact h0) (by omega) (by rw [e2]; exact ho)] at hs; cases hs
          | tok k t q =>
            rw [scan_tok (by omega) (by rw [e2]; exact ho), e2, e1] at hs
            rw [scan_tok (by omega) ho] at hm
            rw [show at_ + (l ++ g ++ m.takeWhile blank).length = at_ + (l ++ g).length + (m.takeWhile blank).length by rw [List.length_append, Nat.add_assoc]] at hs
            cases hx : scan (n + 1) (at_ + (l ++ g).length + (m.takeWhile blank).length + q) ((m.drop (m.takeWhile blank).length).drop q) with
            | ok U => rw [hx] at hm; cases hm
            | error z => rw [hx] at hs; cases hs
  | tok n at_ k b x r t p T hb hn hp hs _ ih =>
    have e' : L = b ++ (x ++ (r ++ (g ++ m))) := by rw [e]; simp
    have hst : Stops p (r ++ (g ++ m)) := by
      cases r with
      | nil =>
        cases g with
        | nil =>
          rcases hgn with h | h
          · exact absurd rfl h
          · subst h; exact stops_nil p
        | cons c g => exact blank_stops hp (fun d hd => by simp at hd; subst hd; exact hg c (by simp))
      | cons c r => exact fun d hd => hs d (by simpa using hd)
    have hsc := scanned_scan h
    subst e'
    have e := blanks_tw hb (piece_stops (r := r ++ (g ++ m)) hp)
    have d : (b ++ (x ++ (r ++ (g ++ m)))).drop ((b ++ (x ++ (r ++ (g ++ m)))).takeWhile blank).length = x ++ (r ++ (g ++ m)) := by rw [e]; simp
    have ho : one ((b ++ (x ++ (r ++ (g ++ m)))).drop ((b ++ (x ++ (r ++ (g ++ m)))).takeWhile blank).length) = .tok k t x.length := by rw [d]; exact piece_one hp _ hst
    rw [scan_tok hn ho, d, e, List.drop_left] at hsc
    cases hx : scan (n + 1) (at_ + b.length + x.length) (r ++ (g ++ m)) with
    | error z => rw [hx] at hsc; cases hsc
    | ok V' =>
      rw [hx] at hsc
      injection hsc with hsc
      subst hsc
      obtain ⟨U, rfl, hU⟩ := ih (scan_scanned hx) rfl
      refine ⟨U, rfl, ?_⟩
      have e1 : n + 1 + T.length = n + (T.length + 1) := by omega
      have e2 : at_ + b.length + x.length + r.length + g.length = at_ + (b ++ (x ++ r)).length + g.length := by simp; omega
      rw [e1, e2] at hU
      exact hU
end Go.Proofs.YtbkffdfboloogaaGreatDoor
namespace Go.Proofs.YtbkffdfboloogaaGreatDoor

/-- a token that is what its own text is scanned as -/
def Right (t : Tok) : Prop := ∃ p, Piece (shown t) t.kind t.text p
theorem Scanned.right {n at_ : Nat} {l : Bs} {T : List Tok} (h : Scanned n at_ l T) : ∀ t ∈ T, Right t := by
  induction h with
  | done => intro t ht; simp at ht
  | tok n at_ k b x r t p T hb hn hp hs _ ih =>
    intro u hu
    rcases List.mem_cons.1 hu with rfl | hu
    · exact ⟨p, by rw [← piece_shown hp]; exact hp⟩
    · exact ih u hu
theorem Right.ne {t : Tok} (h : Right t) : shown t ≠ [] := by
  obtain ⟨p, hp⟩ := h
  have := (piece_kind hp).2
  intro e
  rw [e] at this
  simp at this
theorem Right.alone {t : Tok} (h : Right t) (n at_ : Nat) (hn : n < 4096) : Scanned n at_ (shown t) [⟨t.kind, at_, t.text⟩] := by
  obtain ⟨p, hp⟩ := h
  have := Scanned.tok n at_ t.kind [] (shown t) [] t.text p [] (by simp) hn hp (stops_nil p) (.done _ _ _ (by simp))
  simpa using this
/-- the same kinds and texts -/
def alike (T U : List Tok) : Prop := T.map (fun t => (t.kind, t.text)) = U.map (fun t => (t.kind, t.text))
def joined : List Tok → Bs
  | [] => []
  | [t] => shown t
  | t :: u :: T => shown t ++ 32 :: joined (u :: T)
theorem joined_scan : ∀ (T : List Tok) (n at_ : Nat), (∀ t ∈ T, Right t) → n + T.length ≤ 4096 → ∃ U, Scanned n at_ (joined T) U ∧ alike T U
  | [], n, at_, _, _ => ⟨[], .done _ _ _ (by simp [joined]), rfl⟩
  | [t], n, at_, h, hn => ⟨_, (h t (by simp)).alone n at_ (by simp at hn; omega), rfl⟩
  | t :: u :: T, n, at_, h, hn => by
    obtain ⟨U, hU, ha⟩ := joined_scan (u :: T) (n + 1) (at_ + (shown t).length + 1) (fun x hx => h x (List.mem_cons_of_mem _ hx)) (by simp at hn ⊢; omega)
    refine ⟨⟨t.kind, at_, t.text⟩ :: U, ?_, ?_⟩
    · have h1 := (h t (by simp)).alone n at_ (by simp at hn; omega)
      have := h1.join (g := [32]) (m := joined (u :: T)) (U := U) (by intro c hc; simp at hc; subst hc; rfl) (.inl (by simp)) hU
      simpa [joined] using this
    · simpa [alike] using ha
theorem alike_shown {T U : List Tok} (h : alike T U) : T.map shown = U.map shown := by
  have e : ∀ V : List Tok, V.map shown = (V.map (fun t => (t.kind, t.text))).map (fun x => shown ⟨x.1, 0, x.2⟩) := by
    intro V
    rw [List.map_map]
    exact List.map_congr_left fun t _ => rfl
  rw [e T, e U, h]
theorem alike_len {T U : List Tok} (h : alike T U) : T.length = U.length := by
  have := congrArg List.length h
  simpa using this
theorem alike_right {T U : List Tok} (h : alike T U) (hT : ∀ t ∈ T, Right t) : ∀ t ∈ U, Right t := by
  intro u hu
  have : (u.kind, u.text) ∈ T.map (fun t => (t.kind, t.text)) := by rw [h]; exact List.mem_map.2 ⟨u, hu, rfl⟩
  obtain ⟨t, ht, e⟩ := List.mem_map.1 this
  injection e with e1 e2
  obtain ⟨p, hp⟩ := hT t ht
  refine ⟨p, ?_⟩
  rw [e1, e2] at hp
  have : shown t = shown u := by simp [shown, e1, e2]
  rw [this] at hp
  exact hp
def joinL : List Bs → Bs
  | [] => []
  | [t] => t
  | t :: u :: T => t ++ 32 :: joinL (u :: T)
theorem joined_joinL : ∀ T : List Tok, joined T = joinL (T.map shown)
  | [] => rfl
  | [_] => rfl
  | t :: u :: T => by simp [joined, joinL, joined_joinL (u :: T)]
theorem alike_joined {T U : List Tok} (h : alike T U) : joined T = joined U := by rw [joined_joinL, joined_joinL, alike_shown h]
theorem joined_nil {T : List Tok} (h : ∀ t ∈ T, Right t) : joined T = [] ↔ T = [] := by
  match T, h with
  | [], _ => simp [joined]
  | [t], h => simpa [joined] using (h t (by simp)).ne
  | t :: u :: T, h => simp [joined]
/-- how long what is joined can be -/
theorem Scanned.size {n at_ : Nat} {l : Bs} {T : List Tok} (h : Scanned n at_ l T) : (T.map fun t => (shown t).length).sum ≤ l.length := by
  induction h with
  | done => simp
  | tok n at_ k b x r t p T hb hn hp hs _ ih =>
    rw [List.map_cons, List.sum_cons, ← piece_shown hp]
    simp
    omega
theorem joined_size : ∀ T : List Tok, (joined T).length ≤ (T.map fun t => (shown t).length).sum + T.length
  | [] => by simp [joined]
  | [t] => by simp [joined]
  | t :: u :: T => by
    have := joined_size (u :: T)
    simp [joined] at this ⊢
    omega

/-- where a text goes wrong, there is a byte of it -/
theorem scan_errorF : ∀ (f n at_ : Nat) (l : Bs) (a e : Nat), l.length < f → scanF f n at_ l = .error (a, e) → at_ ≤ a ∧ a < at_ + l.length ∧ (e = 2 ∨ e = 3 ∨ e = 7)
  | 0, _, _, _, _, _, h, _ => by omega
  | f + 1, n, at_, l, a, e, hl, h => by
    rw [scanF_succ] at h
    have hs := congrArg List.length (tw_split blank l)
    rw [List.length_append] at hs
    generalize l.takeWhile blank = b at *
    generalize l.drop b.length = y at *
    cases y with
    | nil => simp only at h; cases h
    | cons c r =>
      simp only [List.length_cons] at h hs
      split at h
      · injection h with h
        injection h with h1 h2
        subst h1 h2
        omega
      · cases ho : one (c :: r) with
        | bad e' =>
          rw [ho] at h
          injection h with h
          injection h with h1 h2
          subst h1 h2
          refine ⟨by omega, by omega, ?_⟩
          rw [one_cons] at ho
          have hr : ∀ x, ranked x = .bad e' → e' = 2 ∨ e' = 3 := by
            intro x hx
            unfold ranked at hx
            split at hx
            · split at hx
              · injection hx with hx; exact .inl hx.symm
              · split at hx
                · injection hx with hx; exact .inr hx.symm
                · cases hx
            · split at hx
              · cases hx
              · split at hx
                · injection hx with hx; exact .inl hx.symm
                · cases hx
          have hbad : ∀ z, R1.bad z = R1.bad e' → z = 2 → e' = 2 := by
            intro z hz h2
            injection hz with hz
            omega
          repeat' split at ho
          all_goals first | (have := hr _ ho; omega) | (injection ho with ho; omega) | cases ho
        | tok k t m =>
          rw [ho] at h
          have := one_len ho
          simp only at h
          cases hx : scanF f (n + 1) (at_ + b.length + m) ((c :: r).drop m) with
          | ok T => rw [hx] at h; cases h
          | error z =>
            rw [hx] at h
            injection h with h
            subst h
            have := scan_errorF f _ _ _ _ _ (by simp at *; omega) hx
            simp at *
            omega
theorem scan_error {n at_ : Nat} {l : Bs} {a e : Nat} (h : scan n at_ l = .error (a, e)) : at_ ≤ a ∧ a < at_ + l.length ∧ (e = 2 ∨ e = 3 ∨ e = 7) := scan_errorF _ _ _ _ _ _ (by omega) h

/-- a text between two signs -/
theorem quotes_yes {s : Bs} (h : ∀ c ∈ s, quotd c = true) : scan 0 0 (34 :: s ++ [34]) = .ok [⟨3, 0, s⟩] := by
  have hr : Right ⟨3, 0, s⟩ := ⟨never, by simpa [shown] using Piece.text s h⟩
  have := scanned_scan (hr.alone 0 0 (by decide))
  simpa [shown] using this
theorem quotes_no {l s : Bs} {a : Nat} (h : scan 0 0 l = .ok [⟨3, a, s⟩]) : ∀ c ∈ s, quotd c = true := by
  obtain ⟨p, hp⟩ := (scan_scanned h).right ⟨3, a, s⟩ (by simp)
  generalize hx : shown ⟨3, a, s⟩ = x at hp
  simp only at hp
  generalize hk : 3 = k at hp
  cases hp with
  | run _ _ hne ha hrk => have := (ranked_tok hrk).1; omega
  | code _ h3 ha => omega
  | text _ ha => exact ha
  | sign c hs => omega
  | two c hs => omega
/-- a run is a token of its own, or there is none -/
theorem run_scan {x : Bs} (hne : x ≠ []) (hs : ∀ c ∈ x, small c = true) : scan 0 0 x = match ranked x with | .bad e => .error (0, e) | .tok k t _ => .ok [⟨k, 0, t⟩] := by
  cases hr : ranked x with
  | tok k t m =>
    obtain ⟨_, rfl, rfl⟩ := ranked_tok hr
    have hp : Piece t k t small := .run t k hne hs hr
    have h1 : Right ⟨k, 0, t⟩ := ⟨small, by rw [← piece_shown hp]; exact hp⟩
    have := h1.alone 0 0 (by decide)
    rw [← piece_shown hp] at this
    exact scanned_scan this
  | bad e =>
    have htw : x.takeWhile blank = [] := by
      cases x with
      | nil => rfl
      | cons c r =>
        have hc := hs c (by simp)
        have : blank c = false := by
          cases hb : blank c
          · rfl
          · have : c = 32 ∨ c = 10 := by simpa [blank] using hb
            rcases this with rfl | rfl <;> exact absurd hc (by decide)
        rw [List.takeWhile_cons, this]; rfl
    have hd : x.drop (x.takeWhile blank).length = x := by rw [htw]; rfl
    have ho : one x = .bad e := by
      have ht : x.takeWhile small = x := by have := tw_app (stops_nil small) hs; simpa using this
      cases x with
      | nil => exact absurd rfl hne
      | cons c r => rw [one_cons, if_pos (hs c (by simp)), ht]; exact hr
    have := scan_bad (n := 0) (at_ := 0) (l := x) (e := e) (by rw [hd]; exact hne) (by decide) (by rw [hd]; exact ho)
    rw [this, htw]
    rfl
end Go.Proofs.YtbkffdfboloogaaGreatDoor
namespace Go.Proofs.YtbkffdfboloogaaGreatDoor
set_option linter.unusedVariables false

def nameB (l : Bs) : Bool := decide (1 ≤ l.length ∧ l.length ≤ 16) && l.all small
/-- is a text one token of a name's kind? -/
def soleB (l : Bs) : Bool := match scan 0 0 l with
  | .ok [t] => decide (t.kind ≤ 2)
  | _ => false
/-- a name of the language -/
def nmB (s : ByteArray) : Bool := nameB s.data.toList && soleB s.data.toList
/-- three large letters -/
def codeB (s : ByteArray) : Bool := decide (s.data.toList.length = 3) && s.data.toList.all large
theorem nameB_all {l : Bs} (h : nameB l = true) : l ≠ [] ∧ ∀ c ∈ l, small c = true := by
  unfold nameB at h
  rw [Bool.and_eq_true, decide_eq_true_iff] at h
  refine ⟨fun e => by rw [e] at h; simp at h, List.all_eq_true.1 h.2⟩
/-- a name's one token bears its text -/
theorem name_text {l : Bs} {t : Tok} (h : nameB l = true) (hs : scan 0 0 l = .ok [t]) : t.text = l := by
  obtain ⟨hne, ha⟩ := nameB_all h
  rw [run_scan hne ha] at hs
  cases hr : ranked l with
  | bad e => rw [hr] at hs; cases hs
  | tok k x m =>
    rw [hr] at hs
    obtain ⟨_, rfl, _⟩ := ranked_tok hr
    injection hs with hs
    injection hs with hs
    rw [← hs]
theorem sole_one {l : Bs} {t : Tok} (hs : scan 0 0 l = .ok [t]) : soleB l = decide (t.kind ≤ 2) := by unfold soleB; rw [hs]
theorem sole_many {l : Bs} {T : List Tok} (hs : scan 0 0 l = .ok T) (hn : T.length ≠ 1) : soleB l = false := by
  unfold soleB
  rw [hs]
  match T, hn with
  | [], _ => rfl
  | [t], hn => exact absurd rfl hn
  | t :: u :: T, _ => rfl
theorem sole_bad {l : Bs} {x : Nat × Nat} (hs : scan 0 0 l = .error x) : soleB l = false := by unfold soleB; rw [hs]
theorem one_code {l : Bs} (h3 : l.length = 3) (ha : ∀ c ∈ l, large c = true) : scan 0 0 l = .ok [⟨4, 0, l⟩] := by
  have hp : Piece l 4 l large := .code l h3 ha
  have h1 : Right ⟨4, 0, l⟩ := ⟨large, by rw [← piece_shown hp]; exact hp⟩
  have := h1.alone 0 0 (by decide)
  rw [← piece_shown hp] at this
  exact scanned_scan this
theorem large_all {n at_ : Nat} {l : Bs} {T : List Tok} (h : Scanned n at_ l T) : ∀ t ∈ T, t.kind = 4 → t.text.length = 3 ∧ ∀ c ∈ t.text, large c = true := by
  induction h with
  | done => intro t ht; cases ht
  | tok n at_ k b x r t p T hb hn hp hst _ ih =>
    intro u hu hk
    rcases List.mem_cons.1 hu with rfl | hu
    · simp only at hk ⊢
      subst hk
      generalize hk4 : (4 : Nat) = k4 at hp
      cases hp with
      | run _ _ _ _ h4 => obtain ⟨h4, _⟩ := ranked_tok h4; omega
      | code _ h3 ha => exact ⟨h3, ha⟩
      | text _ _ => omega
      | sign c _ => omega
      | two c _ => omega
    · exact ih u hu hk
theorem code_large {l : Bs} {T : List Tok} (hs : scan 0 0 l = .ok T) : ∀ t ∈ T, t.kind = 4 → t.text.length = 3 ∧ ∀ c ∈ t.text, large c = true := large_all (scan_scanned hs)
/-- what the program asks of a code is that it is three large letters -/
theorem code_is {s : ByteArray} {T : List Tok} (hs : scan 0 0 s.data.toList = .ok T) : (∃ t, T = [t] ∧ t.kind = 4 ∧ t.text = s.data.toList) ↔ codeB s = true := by
  unfold codeB
  rw [Bool.and_eq_true, decide_eq_true_iff, List.all_eq_true]
  constructor
  · rintro ⟨t, rfl, hk, ht⟩
    have := code_large hs t (by simp) hk
    rw [ht] at this
    exact this
  · rintro ⟨h3, ha⟩
    rw [one_code h3 ha] at hs
    injection hs with hs
    exact ⟨_, hs.symm, rfl, rfl⟩
theorem code_bad {s : ByteArray} {x : Nat × Nat} (hs : scan 0 0 s.data.toList = .error x) : codeB s = false := by
  cases h : codeB s with
  | false => rfl
  | true =>
    unfold codeB at h
    rw [Bool.and_eq_true, decide_eq_true_iff, List.all_eq_true] at h
    rw [one_code h.1 h.2] at hs
    cases hs
end Go.Proofs.YtbkffdfboloogaaGreatDoor
