/- Notary.Count: how many notes there are of a party. -/
import Derived.Test.YtlbenmndmoeioaaHolds
namespace Go.Proofs.Ytlbenmndmoeioaa
open Go.RowKit Go.Maps

theorem plainElem_bool_inv {P : Program} {e : TypeId} (he : P.underlying e = some .bool) {v : Value} {y : DataW Unit × List MemPlace} (h : plainElem P e v = some y) : ∃ c, v = .bool c := by
  unfold plainElem at h
  rw [he] at h
  cases v <;> simp at h
  exact ⟨_, rfl⟩
/-- a range's step over the notes -/
theorem wpList_next_notes (w : World) {ops : Array Oper} {rest : List Oper} {o : Oper} {ac : Act} {Q : Exit → Act → World → Prop} (hg : o.guard = none) (it : Operand) (hop : o.op = Op.next it false)
    (b r n : Nat) (L : List Nt) (hL : ∀ y ∈ L, Small y) (left : Lit → Bool) (cnt : Nat) (hit : ac.eval it = .pointer (some ⟨r, 0, none⟩)) (hsub : ∀ k, left k = true → Maps.has (setD L) k = true)
    (h : w.ranges Try.prog 55 (plainElem (H := Unit) Try.prog 4) b r n (setD L) left cnt)
    (hDone : cnt = 0 → (∀ kl, left kl = false) → wpList Try.prog ops Q rest (ac.put o.dst (.tuple #[.bool false])) w)
    (hMore : ∀ (s t : ByteArray) (w' : World) (cnt' : Nat), (s, t) ∈ L → left (nkey (s, t)) = true → w'.ranges Try.prog 55 (plainElem (H := Unit) Try.prog 4) b r n (setD L) (fun z => left z && !z.sameKey (nkey (s, t))) cnt' → cnt' < cnt →
      w.grownBy w' (some r) → w'.heap.size = w.heap.size → (Instr.entry (.pointer (some ⟨r, 0, none⟩))).run Try.prog w' = .ok (.tuple #[.agg #[.string s, .string t], .bool true]) w' → wpList Try.prog ops Q rest (ac.put o.dst (.tuple #[.bool true, .agg #[.string s, .string t], .bool true])) w') :
    wpList Try.prog ops Q (o :: rest) ac w := by
  refine wpList_next_ranges w hg it hop 55 lawNote (plainElem (H := Unit) Try.prog 4) nval Value.bool (fun key kl hkey => by obtain ⟨x, hx, _⟩ := keyOf_note_inv hkey; exact ⟨x, hx⟩) (fun v y hv => plainElem_bool_inv Try.underlying4 hv) b r n (setD L) left cnt hit h hDone ?_
  intro x c kl y w1 cnt1 hkey hlx hv hat hrg1 hlt hg1 hs1 hen
  obtain ⟨x', hx', hkl, hsm⟩ := keyOf_note_inv hkey
  obtain rfl : x = x' := nval_inj hx'
  subst hkl
  have hxb : hasN L x = true := by
    have := hsub _ hlx
    rw [has_setD L x hL hsm] at this
    exact this
  have hc : c = true := by
    have h1 := hat (.lit (.bool false))
    rw [at_setD L x hL hsm, hxb, if_pos rfl] at h1
    rw [plainElem_bool Try.underlying4 c] at hv
    have h2 := congrArg Prod.fst (Option.some.inj hv)
    simp only at h2
    rw [← h1] at h2
    injection h2 with h2
    injection h2
  subst hc
  exact hMore x.1 x.2 w1 cnt1 ((hasN_iff L x).1 hxb) hlx hrg1 hlt hg1 hs1 hen

def cntL (L : List Nt) (a : ByteArray) (left : Lit → Bool) : Nat := L.countP fun x => eqB x.1 a && !left (nkey x)
def cntN (L : List Nt) (a : ByteArray) : Nat := L.countP fun x => eqB x.1 a
theorem cntL_le (L : List Nt) (a : ByteArray) (left : Lit → Bool) : cntL L a left ≤ L.length := List.countP_le_length
theorem cntL_start (L : List Nt) (a : ByteArray) (hL : ∀ y ∈ L, Small y) : cntL L a (Maps.has (setD L)) = 0 := by
  unfold cntL
  rw [List.countP_eq_zero]
  intro x hx
  rw [has_setD L x hL (hL x hx), (hasN_iff L x).2 hx]
  simp
theorem cntL_end (L : List Nt) (a : ByteArray) (left : Lit → Bool) (h : ∀ k, left k = false) : cntL L a left = cntN L a := by
  unfold cntL cntN
  congr 1
  funext x
  simp [h]
theorem cntL_step (L : List Nt) (a : ByteArray) (left : Lit → Bool) (x : Nt) (hL : ∀ y ∈ L, Small y) (hn : L.Nodup) (hx : x ∈ L) (hl : left (nkey x) = true) :
    cntL L a (fun z => left z && !z.sameKey (nkey x)) = cntL L a left + if eqB x.1 a then 1 else 0 := by
  unfold cntL
  induction L with
  | nil => simp at hx
  | cons y r ih =>
    obtain ⟨hn1, hn2⟩ := List.nodup_cons.1 hn
    rw [List.countP_cons, List.countP_cons]
    by_cases e : y = x
    · subst e
      have hr : r.countP (fun z => eqB z.1 a && !(left (nkey z) && !(nkey z).sameKey (nkey y))) = r.countP (fun z => eqB z.1 a && !left (nkey z)) := by
        apply List.countP_congr
        intro z hz
        have hne : nkey z ≠ nkey y := fun h => by
          have := nkey_inj (hL z (by simp [hz])) (hL y (by simp)) h
          subst this
          exact hn1 hz
        rw [sameKey_ne hne]
        simp
      rw [hr]
      simp [hl, WideAt.sameKey_self (isKey_nkey y)]
    · have hxr : x ∈ r := by
        rcases List.mem_cons.1 hx with h | h
        · exact absurd h.symm e
        · exact h
      rw [ih (fun z hz => hL z (by simp [hz])) hn2 hxr]
      have hne : nkey y ≠ nkey x := fun h => e (nkey_inj (hL y (by simp)) (hL x hx) h)
      simp only [sameKey_ne hne]
      simp
      omega

set_option maxHeartbeats 400000 in
set_option maxRecDepth 100000 in
theorem count_any (a : ByteArray) (w : World) (p b : Nat) (L : List Nt) (hN : Ny w p b L) (hL : L.length ≤ 4096) :
    Calls Try.prog 18 #[.pointer (some ⟨p, 0, none⟩), .string a] w fun e w' => e = .returned (.int .i64 (cntN L a : Nat)) ∧ Below w.heap.size w w' := by
  have hc := hN.cell0
  have hpl := hN.plt
  have hown := hN.own
  go_enter Try.func18, Try.ntmps18
  go_wp2_with (first
    | (at_range; refine wpList_range_own _ rfl _ 51 rfl 55 4 lawNote Try.underlying51 _ b L.length _ rfl hown ?_; intro w0 hrg0 hg0 hs0)
    | go_in)
  go_frame
  clear hown
  go_loopw [5] (fun c wr => ∃ (left : Lit → Bool) (cnt : Nat), wr.ranges Try.prog 55 (plainElem (H := Unit) Try.prog 4) b w.heap.size L.length (setD L) left cnt ∧ (∀ k, left k = true → Maps.has (setD L) k = true) ∧ c = .int .i64 (cntL L a left : Nat) ∧ Below w.heap.size w wr)
    (fun _ wr => wr.rangeLeft b w.heap.size)
  case atStart => exact ⟨_, _, hrg0, fun _ h => h, by rw [cntL_start L a hN.smalls]; rfl, (Below.refl _ _).grown hg0 (Nat.le_refl _) (by simp)⟩
  case round =>
    obtain ⟨left, cnt, hrg, hsub, rfl, hbw⟩ := hrel
    have hle := cntL_le L a left
    go_wp2_with (first
      | (at_next; refine wpList_next_notes _ rfl _ rfl b w.heap.size L.length L hN.smalls _ _ rfl hsub hrg ?_ ?_)
      | go_in)
    · intro _ hl0
      have Hl0 := Lib.hid hl0
      clear hl0
      go_wp2
      go_ret
      exact ⟨by rw [← cntL_end L a left Hl0.out]; rfl, hbw⟩
    · intro x t w1 cnt1 hxL hlx hrg1 hlt hg1 hs1 hen
      have Hst := Lib.hid (cntL_step L a left (x, t) hN.smalls hN.nodup hxL hlx)
      have hb1 : Below w.heap.size w w1 := hbw.grown hg1 hbw.size (fun j hj => by cases hj; exact Nat.le_refl _)
      have hz1 := hb1.size
      clear hg1 hxL hlx
      cases he : eqB x a
      all_goals
        have he' := he
        unfold eqB at he'
        have Hst2 := Hst.out
        simp only [he] at Hst2
        have Hs := Lib.hid Hst2
        clear he Hst2
        go_wp2
        go_roundw
        case rel => exact ⟨_, cnt1, hrg1.alloc _, fun k hk => hsub k (by simp at hk; exact hk.1), by rw [Hs.out]; first | rfl | go_num, hb1.alloc hz1 _⟩
        case measure => rw [(hrg1.alloc _).left_eq, hrg.left_eq]; exact hlt
end Go.Proofs.Ytlbenmndmoeioaa
