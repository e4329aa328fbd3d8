/- Scanning, plain: how it goes on, and when it ends well. -/
import Derived.Test.YtadhncdcpdabkaaDoorTPlain
namespace Go.Proofs.YtadhncdcpdabkaaDoor

theorem one_len {l : Bs} {k m : Nat} {t : Bs} (h : one l = .tok k t m) : 1 ≤ m ∧ m ≤ l.length := by
  obtain ⟨x, r, p, rfl, rfl, hp, _⟩ := one_piece h
  have := (piece_kind hp).2
  simp
  omega
theorem scanF_succ (f n at_ : Nat) (l : Bs) : scanF (f + 1) n at_ l =
    match l.drop (l.takeWhile blank).length with
    | [] => .ok []
    | c :: r =>
      if 4096 ≤ n then .error (at_ + (l.takeWhile blank).length, 7)
      else match one (c :: r) with
        | .bad e => .error (at_ + (l.takeWhile blank).length, e)
        | .tok k t m => (scanF f (n + 1) (at_ + (l.takeWhile blank).length + m) ((c :: r).drop m)).map (⟨k, at_ + (l.takeWhile blank).length, t⟩ :: ·) := rfl
theorem scanF_more : ∀ (f g n at_ : Nat) (l : Bs), l.length < f → l.length < g → scanF f n at_ l = scanF g n at_ l
  | 0, _, _, _, _, h, _ => by omega
  | _ + 1, 0, _, _, _, _, h => by omega
  | f + 1, g + 1, n, at_, l, hf, hg => by
    rw [scanF_succ, scanF_succ]
    have hl : (l.drop (l.takeWhile blank).length).length ≤ l.length := by simp
    generalize l.drop (l.takeWhile blank).length = y at *
    cases y with
    | nil => rfl
    | cons c r =>
      simp only
      split
      · rfl
      · cases ho : one (c :: r) with
        | bad e => rfl
        | tok k t m =>
          have := one_len ho
          simp only
          rw [scanF_more f g _ _ _ (by simp at *; omega) (by simp at *; omega)]
theorem scan_end {n at_ : Nat} {l : Bs} (h : l.drop (l.takeWhile blank).length = []) : scan n at_ l = .ok [] := by
  unfold scan; rw [scanF_succ, h]
theorem scan_full {n at_ : Nat} {l : Bs} (h : l.drop (l.takeWhile blank).length ≠ []) (hn : 4096 ≤ n) : scan n at_ l = .error (at_ + (l.takeWhile blank).length, 7) := by
  unfold scan; rw [scanF_succ]
  generalize l.drop (l.takeWhile blank).length = y at *
  cases y with
  | nil => exact absurd rfl h
  | cons c r => simp only; rw [if_pos hn]
theorem scan_bad {n at_ e : Nat} {l : Bs} (h : l.drop (l.takeWhile blank).length ≠ []) (hn : n < 4096) (ho : one (l.drop (l.takeWhile blank).length) = .bad e) : scan n at_ l = .error (at_ + (l.takeWhile blank).length, e) := by
  unfold scan; rw [scanF_succ]
  generalize l.drop (l.takeWhile blank).length = y at *
  cases y with
  | nil => exact absurd rfl h
  | cons c r => simp only; rw [if_neg (by omega), ho]
theorem scan_tok {n at_ k m : Nat} {t l : Bs} (hn : n < 4096) (ho : one (l.drop (l.takeWhile blank).length) = .tok k t m) :
    scan n at_ l = (scan (n + 1) (at_ + (l.takeWhile blank).length + m) ((l.drop (l.takeWhile blank).length).drop m)).map (⟨k, at_ + (l.takeWhile blank).length, t⟩ :: ·) := by
  unfold scan; rw [scanF_succ]
  have hl : (l.drop (l.takeWhile blank).length).length ≤ l.length := by simp
  generalize l.drop (l.takeWhile blank).length = y at *
  cases y with
  | nil => simp [one] at ho
  | cons c r =>
    have := one_len ho
    simp only
    rw [if_neg (by omega), ho]
    simp only
    rw [scanF_more l.length (((c :: r).drop m).length + 1) _ _ _ (by simp at *; omega) (by simp)]

/-- scanned, with these tokens -/
inductive Scanned : Nat → Nat → Bs → List Tok → Prop where
  | done (n at_ : Nat) (l : Bs) : (∀ c ∈ l, blank c = true) → Scanned n at_ l []
  | tok (n at_ k : Nat) (b x r t : Bs) (p : UInt8 → Bool) (T : List Tok) : (∀ c ∈ b, blank c = true) → n < 4096 → Piece x k t p → Stops p r → Scanned (n + 1) (at_ + b.length + x.length) r T → Scanned n at_ (b ++ (x ++ r)) (⟨k, at_ + b.length, t⟩ :: T)
theorem app_all {a b : Bs} (ha : ∀ c ∈ a, blank c = true) (hb : ∀ c ∈ b, blank c = true) : ∀ c ∈ a ++ b, blank c = true := fun c hc => by
  rcases List.mem_append.1 hc with h | h
  · exact ha c h
  · exact hb c h
theorem blanks_tw {b y : Bs} (hb : ∀ c ∈ b, blank c = true) (hy : Stops blank y) : (b ++ y).takeWhile blank = b := tw_app hy hb
theorem piece_stops {x t r : Bs} {k : Nat} {p : UInt8 → Bool} (h : Piece x k t p) : Stops blank (x ++ r) := by
  obtain ⟨c, y, rfl, hc⟩ := piece_head h
  intro d hd
  simp at hd
  subst hd
  exact hc
theorem scanned_scan {n at_ : Nat} {l : Bs} {T : List Tok} (h : Scanned n at_ l T) : scan n at_ l = .ok T := by
  induction h with
  | done n at_ l hb =>
    refine scan_end ?_
    have : l.takeWhile blank = l := by have := tw_app (stops_nil blank) hb; simpa using this
    rw [this]
    simp
  | tok n at_ k b x r t p T hb hn hp hs _ ih =>
    have e := blanks_tw hb (piece_stops (r := r) hp)
    have d : (b ++ (x ++ r)).drop ((b ++ (x ++ r)).takeWhile blank).length = x ++ r := by rw [e]; simp
    have ho : one ((b ++ (x ++ r)).drop ((b ++ (x ++ r)).takeWhile blank).length) = .tok k t x.length := by rw [d]; exact piece_one hp r hs
    rw [scan_tok hn ho, d, e, List.drop_left, ih]
    rfl
theorem scan_scannedF : ∀ (f n at_ : Nat) (l : Bs) (T : List Tok), scanF f n at_ l = .ok T → Scanned n at_ l T
  | 0, _, _, _, _, h => by cases h
  | f + 1, n, at_, l, T, h => by
    rw [scanF_succ] at h
    have hs := tw_split blank l
    have hb : ∀ c ∈ l.takeWhile blank, blank c = true := fun c hc => tw_all hc
    generalize l.takeWhile blank = b at *
    generalize l.drop b.length = y at *
    subst hs
    cases y with
    | nil =>
      simp only at h
      injection h with h
      subst h
      exact .done _ _ _ (by simpa using hb)
    | cons c r =>
      simp only at h
      split at h
      · cases h
      · cases ho : one (c :: r) with
        | bad e => rw [ho] at h; cases h
        | tok k t m =>
          rw [ho] at h
          simp only at h
          obtain ⟨x, r', p, e, rfl, hp, hst⟩ := one_piece ho
          rw [e, List.drop_left] at h
          cases hT : scanF f (n + 1) (at_ + b.length + x.length) r' with
          | error z => rw [hT] at h; cases h
          | ok T' =>
            rw [hT] at h
            injection h with h
            subst h
            rw [e]
            exact .tok n at_ k b x r' t p T' hb (by omega) hp hst (scan_scannedF f _ _ _ _ hT)
theorem scan_scanned {n at_ : Nat} {l : Bs} {T : List Tok} (h : scan n at_ l = .ok T) : Scanned n at_ l T := scan_scannedF _ _ _ _ _ h
theorem Scanned.count {n at_ : Nat} {l : Bs} {T : List Tok} (h : Scanned n at_ l T) : T.length ≤ l.length ∧ (n ≤ 4096 → n + T.length ≤ 4096) := by
  induction h with
  | done => simp
  | tok n at_ k b x r t p T hb hn hp hs _ ih =>
    have := (piece_kind hp).2
    simp
    omega
/-- what is scanned behind a number of others, at another place -/
def moved (d : Nat) (T : List Tok) : List Tok := T.map fun t => { t with place := t.place + d }
theorem Scanned.move {n at_ : Nat} {l : Bs} {T : List Tok} (h : Scanned n at_ l T) (n' d : Nat) (hn : n' + T.length ≤ 4096) : Scanned n' (at_ + d) l (moved d T) := by
  induction h generalizing n' with
  | done n at_ l hb => exact .done _ _ _ hb
  | tok n at_ k b x r t p T hb hn' hp hs _ ih =>
    simp at hn
    have := Scanned.tok n' (at_ + d) k b x r t p _ hb (by omega) hp hs (by
      have h := ih (n' + 1) (by omega)
      rw [show at_ + d + b.length + x.length = at_ + b.length + x.length + d by omega]
      exact h)
    rw [show at_ + d + b.length = at_ + b.length + d by omega] at this
    exact this
theorem Scanned.det {n at_ : Nat} {l : Bs} {T T' : List Tok} (h : Scanned n at_ l T) (h' : Scanned n at_ l T') : T = T' := by
  have a := scanned_scan h
  rw [scanned_scan h'] at a
  injection a with a
  exact a.symm
/-- blanks ahead change nothing but places -/
theorem Scanned.ahead {n at_ : Nat} {l : Bs} {T : List Tok} {g : Bs} (hg : ∀ c ∈ g, blank c = true) (h : Scanned n (at_ + g.length) l T) : Scanned n at_ (g ++ l) T := by
  generalize e : at_ + g.length = a at *
  cases h with
  | done _ _ _ hb => exact .done _ _ _ (app_all hg hb)
  | tok _ _ k b x r t p T hb hn hp hs h2 =>
    subst e
    rw [← List.append_assoc]
    have := Scanned.tok n at_ k (g ++ b) x r t p T (app_all hg hb) hn hp hs (by rw [List.length_append, ← Nat.add_assoc]; exact h2)
    rw [List.length_append, ← Nat.add_assoc] at this
    exact this
/-- one text, a gap, another text -/
theorem Scanned.join {n at_ : Nat} {l : Bs} {T : List Tok} (h : Scanned n at_ l T) {g m : Bs} {U : List Tok} (hg : ∀ c ∈ g, blank c = true) (hgn : g ≠ [] ∨ m = []) (hU : Scanned (n + T.length) (at_ + l.length + g.length) m U) :
    Scanned n at_ (l ++ (g ++ m)) (T ++ U) := by
  induction h with
  | done n at_ l hb =>
    rw [← List.append_assoc]
    refine Scanned.ahead (app_all hb hg) ?_
    rw [List.length_append, ← Nat.add_assoc]
    exact hU
  | tok n at_ k b x r t p T hb hn hp hs _ ih =>
    have e : b ++ (x ++ r) ++ (g ++ m) = b ++ (x ++ (r ++ (g ++ m))) := by simp
    rw [e]
    refine Scanned.tok n at_ k b x (r ++ (g ++ m)) t p _ hb hn hp ?_ ?_
    · cases r with
      | nil =>
        cases g with
        | nil =>
          rcases hgn with h | h
          · exact absurd rfl h
          · subst h; exact stops_nil p
        | cons c g => exact blank_stops hp (fun d hd => by simp at hd; subst hd; exact hg c (by simp))
      | cons c r => exact fun d hd => hs d (by simpa using hd)
    · refine ih ?_
      have e1 : n + 1 + T.length = n + (T.length + 1) := by omega
      have e2 : at_ + b.length + x.length + r.length + g.length = at_ + (b ++ (x ++ r)).length + g.length := by simp; omega
      rw [e1, e2]
      exact hU
/-- what follows a blank is scanned by itself -/
theorem Scanned.part {N at_ : Nat} {L : Bs} {V : List Tok} (h : Scanned N at_ L V) : ∀ {l g m : Bs}, L = l ++ (g ++ m) → (∀ c ∈ g, blank c = true) → ∀ {T : List Tok}, Scanned N at_ l T → (g ≠ [] ∨ m = []) → ∃ U, V = T ++ U ∧ Scanned (N + T.length) (at_ + l.length + g.length) m U := by
  intro l g m e hg T hT hgn
  induction hT generalizing L V with
  | done n at_ l hb =>
    subst e
    refine ⟨V, rfl, ?_⟩
    have hbg : ∀ c ∈ l ++ g, blank c = true := (app_all hb hg)
    rw [← List.append_assoc] at h
    have hs := scanned_scan h
    cases hm : scan n (at_ + (l ++ g).length) m with
    | ok U =>
      have h2 := (scan_scanned hm).ahead hbg
      have := h.det h2
      subst this
      rw [List.length_append, ← Nat.add_assoc] at hm
      exact scan_scanned hm
    | error z =>
      exfalso
      -- the first token of both is the same
      have e1 : ((l ++ g) ++ m).takeWhile blank = (l ++ g) ++ m.takeWhile blank := by
        rw [List.takeWhile_append]
        have : (l ++ g).takeWhile blank = l ++ g := by have := tw_app (stops_nil blank) hbg; simpa using this
        rw [this, if_pos rfl]
      have e2 : ((l ++ g) ++ m).drop (((l ++ g) ++ m).takeWhile blank).length = m.drop (m.takeWhile blank).length := by
        rw [e1, List.length_append, List.drop_append]
        rw [List.drop_eq_nil_of_le (by omega)]
        simp
      by_cases h0 : m.drop (m.takeWhile blank).length = []
      · rw [scan_end h0] at hm; cases hm
      · by_cases hn : 4096 ≤ n
        · rw [scan_full (by rw [e2]; exact h0) hn] at hs; cases hs
        · cases ho : one (m.drop (m.takeWhile blank).length) with
          | bad e => rw [scan_bad (by rw [e2]; exact h0) (by omega) (by rw [e2]; exact ho)] at hs; cases hs
          | tok k t q =>
            rw [scan_tok (by omega) (by rw [e2]; exact ho), e2, e1] at hs
            rw [scan_tok (by omega) ho] at hm
            rw [show at_ + (l ++ g ++ m.takeWhile blank).length = at_ + (l ++ g).length + (m.takeWhile blank).length by rw [List.length_append, Nat.add_assoc]] at hs
            cases hx : scan (n + 1) (at_ + (l ++ g).length + (m.takeWhile blank).length + q) ((m.drop (m.takeWhile blank).length).drop q) with
            | ok U => rw [hx] at hm; cases hm
            | error z => rw [hx] at hs; cases hs
  | tok n at_ k b x r t p T hb hn hp hs _ ih =>
    have e' : L = b ++ (x ++ (r ++ (g ++ m))) := by rw [e]; simp
    have hst : Stops p (r ++ (g ++ m)) := by
      cases r with
      | nil =>
        cases g with
        | nil =>
          rcases hgn with h | h
          · exact absurd rfl h
          · subst h; exact stops_nil p
        | cons c g => exact blank_stops hp (fun d hd => by simp at hd; subst hd; exact hg c (by simp))
      | cons c r => exact fun d hd => hs d (by simpa using hd)
    have hsc := scanned_scan h
    subst e'
    have e := blanks_tw hb (piece_stops (r := r ++ (g ++ m)) hp)
    have d : (b ++ (x ++ (r ++ (g ++ m)))).drop ((b ++ (x ++ (r ++ (g ++ m)))).takeWhile blank).length = x ++ (r ++ (g ++ m)) := by rw [e]; simp
    have ho : one ((b ++ (x ++ (r ++ (g ++ m)))).drop ((b ++ (x ++ (r ++ (g ++ m)))).takeWhile blank).length) = .tok k t x.length := by rw [d]; exact piece_one hp _ hst
    rw [scan_tok hn ho, d, e, List.drop_left] at hsc
    cases hx : scan (n + 1) (at_ + b.length + x.length) (r ++ (g ++ m)) with
    | error z => rw [hx] at hsc; cases hsc
    | ok V' =>
      rw [hx] at hsc
      injection hsc with hsc
      subst hsc
      obtain ⟨U, rfl, hU⟩ := ih (scan_scanned hx) rfl
      refine ⟨U, rfl, ?_⟩
      have e1 : n + 1 + T.length = n + (T.length + 1) := by omega
      have e2 : at_ + b.length + x.length + r.length + g.length = at_ + (b ++ (x ++ r)).length + g.length := by simp; omega
      rw [e1, e2] at hU
      exact hU
end Go.Proofs.YtadhncdcpdabkaaDoor
