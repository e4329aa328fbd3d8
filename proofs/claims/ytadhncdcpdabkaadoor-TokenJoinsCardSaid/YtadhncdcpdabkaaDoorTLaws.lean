/- What the statements on tokens ask, plain. -/
import Derived.Test.YtadhncdcpdabkaaDoorTScan
namespace Go.Proofs.YtadhncdcpdabkaaDoor

/-- a token that is what its own text is scanned as -/
def Right (t : Tok) : Prop := ∃ p, Piece (shown t) t.kind t.text p
theorem Scanned.right {n at_ : Nat} {l : Bs} {T : List Tok} (h : Scanned n at_ l T) : ∀ t ∈ T, Right t := by
  induction h with
  | done => intro t ht; simp at ht
  | tok n at_ k b x r t p T hb hn hp hs _ ih =>
    intro u hu
    rcases List.mem_cons.1 hu with rfl | hu
    · exact ⟨p, by rw [← piece_shown hp]; exact hp⟩
    · exact ih u hu
theorem Right.ne {t : Tok} (h : Right t) : shown t ≠ [] := by
  obtain ⟨p, hp⟩ := h
  have := (piece_kind hp).2
  intro e
  rw [e] at this
  simp at this
theorem Right.alone {t : Tok} (h : Right t) (n at_ : Nat) (hn : n < 4096) : Scanned n at_ (shown t) [⟨t.kind, at_, t.text⟩] := by
  obtain ⟨p, hp⟩ := h
  have := Scanned.tok n at_ t.kind [] (shown t) [] t.text p [] (by simp) hn hp (stops_nil p) (.done _ _ _ (by simp))
  simpa using this
/-- the same kinds and texts -/
def alike (T U : List Tok) : Prop := T.map (fun t => (t.kind, t.text)) = U.map (fun t => (t.kind, t.text))
def joined : List Tok → Bs
  | [] => []
  | [t] => shown t
  | t :: u :: T => shown t ++ 32 :: joined (u :: T)
theorem joined_scan : ∀ (T : List Tok) (n at_ : Nat), (∀ t ∈ T, Right t) → n + T.length ≤ 4096 → ∃ U, Scanned n at_ (joined T) U ∧ alike T U
  | [], n, at_, _, _ => ⟨[], .done _ _ _ (by simp [joined]), rfl⟩
  | [t], n, at_, h, hn => ⟨_, (h t (by simp)).alone n at_ (by simp at hn; omega), rfl⟩
  | t :: u :: T, n, at_, h, hn => by
    obtain ⟨U, hU, ha⟩ := joined_scan (u :: T) (n + 1) (at_ + (shown t).length + 1) (fun x hx => h x (List.mem_cons_of_mem _ hx)) (by simp at hn ⊢; omega)
    refine ⟨⟨t.kind, at_, t.text⟩ :: U, ?_, ?_⟩
    · have h1 := (h t (by simp)).alone n at_ (by simp at hn; omega)
      have := h1.join (g := [32]) (m := joined (u :: T)) (U := U) (by intro c hc; simp at hc; subst hc; rfl) (.inl (by simp)) hU
      simpa [joined] using this
    · simpa [alike] using ha
theorem alike_shown {T U : List Tok} (h : alike T U) : T.map shown = U.map shown := by
  have e : ∀ V : List Tok, V.map shown = (V.map (fun t => (t.kind, t.text))).map (fun x => shown ⟨x.1, 0, x.2⟩) := by
    intro V
    rw [List.map_map]
    exact List.map_congr_left fun t _ => rfl
  rw [e T, e U, h]
theorem alike_len {T U : List Tok} (h : alike T U) : T.length = U.length := by
  have := congrArg List.length h
  simpa using this
theorem alike_right {T U : List Tok} (h : alike T U) (hT : ∀ t ∈ T, Right t) : ∀ t ∈ U, Right t := by
  intro u hu
  have : (u.kind, u.text) ∈ T.map (fun t => (t.kind, t.text)) := by rw [h]; exact List.mem_map.2 ⟨u, hu, rfl⟩
  obtain ⟨t, ht, e⟩ := List.mem_map.1 this
  injection e with e1 e2
  obtain ⟨p, hp⟩ := hT t ht
  refine ⟨p, ?_⟩
  rw [e1, e2] at hp
  have : shown t = shown u := by simp [shown, e1, e2]
  rw [this] at hp
  exact hp
def joinL : List Bs → Bs
  | [] => []
  | [t] => t
  | t :: u :: T => t ++ 32 :: joinL (u :: T)
theorem joined_joinL : ∀ T : List Tok, joined T = joinL (T.map shown)
  | [] => rfl
  | [_] => rfl
  | t :: u :: T => by simp [joined, joinL, joined_joinL (u :: T)]
theorem alike_joined {T U : List Tok} (h : alike T U) : joined T = joined U := by rw [joined_joinL, joined_joinL, alike_shown h]
theorem joined_nil {T : List Tok} (h : ∀ t ∈ T, Right t) : joined T = [] ↔ T = [] := by
  match T, h with
  | [], _ => simp [joined]
  | [t], h => simpa [joined] using (h t (by simp)).ne
  | t :: u :: T, h => simp [joined]
/-- how long what is joined can be -/
theorem Scanned.size {n at_ : Nat} {l : Bs} {T : List Tok} (h : Scanned n at_ l T) : (T.map fun t => (shown t).length).sum ≤ l.length := by
  induction h with
  | done => simp
  | tok n at_ k b x r t p T hb hn hp hs _ ih =>
    rw [List.map_cons, List.sum_cons, ← piece_shown hp]
    simp
    omega
theorem joined_size : ∀ T : List Tok, (joined T).length ≤ (T.map fun t => (shown t).length).sum + T.length
  | [] => by simp [joined]
  | [t] => by simp [joined]
  | t :: u :: T => by
    have := joined_size (u :: T)
    simp [joined] at this ⊢
    omega

/-- where a text goes wrong, there is a byte of it -/
theorem scan_errorF : ∀ (f n at_ : Nat) (l : Bs) (a e : Nat), l.length < f → scanF f n at_ l = .error (a, e) → at_ ≤ a ∧ a < at_ + l.length ∧ (e = 2 ∨ e = 3 ∨ e = 7)
  | 0, _, _, _, _, _, h, _ => by omega
  | f + 1, n, at_, l, a, e, hl, h => by
    rw [scanF_succ] at h
    have hs := congrArg List.length (tw_split blank l)
    rw [List.length_append] at hs
    generalize l.takeWhile blank = b at *
    generalize l.drop b.length = y at *
    cases y with
    | nil => simp only at h; cases h
    | cons c r =>
      simp only [List.length_cons] at h hs
      split at h
      · injection h with h
        injection h with h1 h2
        subst h1 h2
        omega
      · cases ho : one (c :: r) with
        | bad e' =>
          rw [ho] at h
          injection h with h
          injection h with h1 h2
          subst h1 h2
          refine ⟨by omega, by omega, ?_⟩
          rw [one_cons] at ho
          have hr : ∀ x, ranked x = .bad e' → e' = 2 ∨ e' = 3 := by
            intro x hx
            unfold ranked at hx
            split at hx
            · split at hx
              · injection hx with hx; exact .inl hx.symm
              · split at hx
                · injection hx with hx; exact .inr hx.symm
                · cases hx
            · split at hx
              · cases hx
              · split at hx
                · injection hx with hx; exact .inl hx.symm
                · cases hx
          have hbad : ∀ z, R1.bad z = R1.bad e' → z = 2 → e' = 2 := by
            intro z hz h2
            injection hz with hz
            omega
          repeat' split at ho
          all_goals first | (have := hr _ ho; omega) | (injection ho with ho; omega) | cases ho
        | tok k t m =>
          rw [ho] at h
          have := one_len ho
          simp only at h
          cases hx : scanF f (n + 1) (at_ + b.length + m) ((c :: r).drop m) with
          | ok T => rw [hx] at h; cases h
          | error z =>
            rw [hx] at h
            injection h with h
            subst h
            have := scan_errorF f _ _ _ _ _ (by simp at *; omega) hx
            simp at *
            omega
theorem scan_error {n at_ : Nat} {l : Bs} {a e : Nat} (h : scan n at_ l = .error (a, e)) : at_ ≤ a ∧ a < at_ + l.length ∧ (e = 2 ∨ e = 3 ∨ e = 7) := scan_errorF _ _ _ _ _ _ (by omega) h

/-- a text between two signs -/
theorem quotes_yes {s : Bs} (h : ∀ c ∈ s, quotd c = true) : scan 0 0 (34 :: s ++ [34]) = .ok [⟨3, 0, s⟩] := by
  have hr : Right ⟨3, 0, s⟩ := ⟨never, by simpa [shown] using Piece.text s h⟩
  have := scanned_scan (hr.alone 0 0 (by decide))
  simpa [shown] using this
theorem quotes_no {l s : Bs} {a : Nat} (h : scan 0 0 l = .ok [⟨3, a, s⟩]) : ∀ c ∈ s, quotd c = true := by
  obtain ⟨p, hp⟩ := (scan_scanned h).right ⟨3, a, s⟩ (by simp)
  generalize hx : shown ⟨3, a, s⟩ = x at hp
  simp only at hp
  generalize hk : 3 = k at hp
  cases hp with
  | run _ _ hne ha hrk => have := (ranked_tok hrk).1; omega
  | code _ h3 ha => omega
  | text _ ha => exact ha
  | sign c hs => omega
  | two c hs => omega
/-- a run is a token of its own, or there is none -/
theorem run_scan {x : Bs} (hne : x ≠ []) (hs : ∀ c ∈ x, small c = true) : scan 0 0 x = match ranked x with | .bad e => .error (0, e) | .tok k t _ => .ok [⟨k, 0, t⟩] := by
  cases hr : ranked x with
  | tok k t m =>
    obtain ⟨_, rfl, rfl⟩ := ranked_tok hr
    have hp : Piece t k t small := .run t k hne hs hr
    have h1 : Right ⟨k, 0, t⟩ := ⟨small, by rw [← piece_shown hp]; exact hp⟩
    have := h1.alone 0 0 (by decide)
    rw [← piece_shown hp] at this
    exact scanned_scan this
  | bad e =>
    have htw : x.takeWhile blank = [] := by
      cases x with
      | nil => rfl
      | cons c r =>
        have hc := hs c (by simp)
        have : blank c = false := by
          cases hb : blank c
          · rfl
          · have : c = 32 ∨ c = 10 := by simpa [blank] using hb
            rcases this with rfl | rfl <;> exact absurd hc (by decide)
        rw [List.takeWhile_cons, this]; rfl
    have hd : x.drop (x.takeWhile blank).length = x := by rw [htw]; rfl
    have ho : one x = .bad e := by
      have ht : x.takeWhile small = x := by have := tw_app (stops_nil small) hs; simpa using this
      cases x with
      | nil => exact absurd rfl hne
      | cons c r => rw [one_cons, if_pos (hs c (by simp)), ht]; exact hr
    have := scan_bad (n := 0) (at_ := 0) (l := x) (e := e) (by rw [hd]; exact hne) (by decide) (by rw [hd]; exact ho)
    rw [this, htw]
    rfl
end Go.Proofs.YtadhncdcpdabkaaDoor
