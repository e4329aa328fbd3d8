/- The law AuditLives. -/
import Derived.Test.YtdinloecgaapaaaGreatDoorRAud
import Derived.Test.YtdinloecgaapaaaGreatDoorRRegd
import Derived.Test.YtdinloecgaapaaaGreatDoorROpen
import Derived.Test.YtdinloecgaapaaaGreatDoorAAwake
namespace Go.Proofs.YtdinloecgaapaaaGreatDoor
open Go.RowKit Go.Maps Go.Lib Go.Sort
set_option linter.unusedVariables false
set_option maxRecDepth 100000

/-- an object that is no row of registers, nor one of rows of bills -/
def NotT (o : Obj) : Prop := ∀ cs t fz, o = .cells cs t fz → t ≠ 29 ∧ t ≠ 31
/-- all such objects stand -/
def KpT (w w' : World) : Prop := ∀ (q : Nat) o, w.heap[q]? = some o → NotT o → w'.heap[q]? = some o
theorem notT_cells {cs : Array Value} {t : TypeId} {fz : Nat × Nat} (h : t ≠ 29 ∧ t ≠ 31) : NotT (.cells cs t fz) := fun cs' t' fz' e => by
  injection e with _ e _
  subst e
  exact h
theorem KpT.below {w w' : World} (hb : Below w.heap.size w w') : KpT w w' := fun q o hq _ => keep_of_below hb hq
theorem KpT.trans {a b c : World} (h : KpT a b) (k : KpT b c) : KpT a c := fun q o hq hn => k q o (h q o hq hn) hn
theorem KpT.grown {w w' : World} {base size n : Nat} {e : TypeId} {v : Value} {xs : List Value} (h : w.ownsRow base e size v n xs) (he : e = 29 ∨ e = 31) (hg : w.grownBy w' v.ownBlock) : KpT w w' := fun q o hq hn => by
  refine (hg.block q (lt_of_some hq) fun e2 => ?_).trans hq
  obtain ⟨cs, hcs⟩ := row_blk h e2.symm
  rw [hq] at hcs
  injection hcs with hcs
  have := hn cs e (0, 0) hcs
  rcases he with e3 | e3
  · exact this.1 e3
  · exact this.2 e3
theorem RgS.keepT {w w' : World} {base r N b n : Nat} {ca : ByteArray} {G : ByteArray → Option (Option Nat)} {S : Nat → Option En} (h : RgS w base r ca N b n G S) (hk : KpT w w') : RgS w' base r ca N b n G S := by
  have hsr : ∀ A L, Sr w A L → Sr w' A L := fun A L hs => hs.keep fun g cs hg => hk g _ hg (notT_cells (by decide))
  refine ⟨hk _ _ h.reg (notT_cells (by decide)), h.rlo, h.blo, ?_, h.num, h.ent, fun e x he => ?_, h.dj, h.fit⟩
  · obtain ⟨D, ⟨es, clock, e2, e3⟩, hR⟩ := h.map
    exact ⟨D, ⟨es, clock, hk _ _ e2 (fun cs t fz e => by cases e), e3⟩, hR⟩
  · have ha := h.at_ e x he
    refine ⟨ha.lo, hk _ _ ha.obj (notT_cells (by decide)), hsr _ _ ha.box, hsr _ _ ha.par, fun i hi => ?_⟩
    have hc := ha.ch i hi
    refine hc.keep fun g hg => ?_
    obtain ⟨cs, ho, _⟩ := hc
    obtain ⟨cs2, h6⟩ := row_blk ho (g := g) hg
    rw [h6]
    exact hk _ _ h6 (notT_cells (by decide))
theorem Bw.keepT {base : Nat} {w w' : World} {A : Option Addr} {c : Nat} {BL : List Bm} (h : Bw base w A c BL) (hk : KpT w w') : Bw base w' A c BL := by
  refine ⟨⟨h.row.1, ?_⟩, fun m hm => (h.each m hm).keep fun q cs t ht hq => hk _ _ hq (notT_cells (by rcases ht with rfl | rfl <;> decide))⟩
  rcases h.row.2 with h2 | ⟨g, cap, cur, e, hb', hg, h4⟩
  · exact .inl h2
  · exact .inr ⟨g, cap, cur, e, hb', hk _ _ hg (notT_cells (by decide)), h4⟩
/-- a register, with the bills that it told -/
def RegT (w : World) (r : Nat) (t : Brw) : Prop := ∃ base N b n ca G S bs, RgS w base r ca N b n G S ∧ n ≤ 41 ∧ Bw bs w t.2.1 t.2.2 t.1 ∧ (∀ x, (∃ m ∈ t.1, m.x = x) ↔ ∃ k e, G k = some (some e) ∧ S e = some x) ∧ t.1.length ≤ 41
theorem RegT.keepT {w w' : World} {r : Nat} {t : Brw} (h : RegT w r t) (hk : KpT w w') : RegT w' r t := by
  obtain ⟨base, N, b, n, ca, G, S, bs, h1, h2, h3, h4⟩ := h
  exact ⟨base, N, b, n, ca, G, S, bs, h1.keepT hk, h2, h3.keepT hk, h4⟩
theorem RegT.regB {w : World} {r : Nat} {t : Brw} (h : RegT w r t) : RegB w r (t.1.map Bm.bl) := by
  obtain ⟨base, N, b, n, ca, G, S, bs, h1, h2, h3, h4, _⟩ := h
  refine ⟨base, N, b, n, ca, G, S, h1, h2, fun s => ?_⟩
  unfold liveB
  rw [List.any_eq_true]
  constructor
  · rintro ⟨y, hy, hl⟩
    obtain ⟨m, hm, rfl⟩ := List.mem_map.1 hy
    obtain ⟨k, e, hG, hS⟩ := (h4 m.x).1 ⟨m, hm, rfl⟩
    refine ⟨k, ?_⟩
    rw [toldB_some hG hS]
    unfold livE
    rw [Bool.and_eq_true] at hl ⊢
    refine ⟨?_, (containsS_iff _ _).2 ((inS_iff _ _).1 hl.2)⟩
    have := of_decide_eq_true hl.1
    show (m.x.s == 0) = true
    rw [show m.x.s = 0 from this]
    rfl
  · rintro ⟨k, hk⟩
    obtain ⟨v0, hv0⟩ := Option.isSome_iff_exists.1 (toldB_is hk)
    obtain ⟨_, e0, x, rfl, hSe⟩ := h1.ent _ _ hv0
    rw [toldB_some hv0 hSe] at hk
    obtain ⟨m, hm, hx⟩ := (h4 x).2 ⟨k, e0, hv0, hSe⟩
    subst hx
    refine ⟨m.bl, List.mem_map.2 ⟨m, hm, rfl⟩, ?_⟩
    unfold livE at hk
    rw [Bool.and_eq_true] at hk ⊢
    exact ⟨decide_eq_true (show m.bl.s = 0 from (by simpa using hk.1 : m.x.s = 0)), (inS_iff _ _).2 ((containsS_iff _ _).1 hk.2)⟩
theorem RegT.fit {w : World} {r : Nat} {t : Brw} (h : RegT w r t) : t.1.length ≤ 41 ∧ ∀ m ∈ t.1, m.x.l.length ≤ 64 ∧ ∀ s ∈ m.x.l, s.size ≤ 16 := by
  obtain ⟨base, N, b, n, ca, G, S, bs, h1, h2, h3, h4, h5⟩ := h
  refine ⟨h5, fun m hm => ?_⟩
  obtain ⟨k, e, hG, hS⟩ := (h4 m.x).1 ⟨m, hm, rfl⟩
  exact ⟨(h1.fit e m.x hS).l, (h1.fit e m.x hS).b⟩
theorem row_keepT {w w' : World} {base base' size size' n n' : Nat} {e e' : TypeId} {v v' : Value} {xs xs' : List Value} (h : w.ownsRow base e size v n xs) (h' : w.ownsRow base' e' size' v' n' xs') (hg : w.grownBy w' v'.ownBlock) (hne : e ≠ e') : w'.ownsRow base e size v n xs := by
  refine ⟨h.1, ?_⟩
  rcases h.2 with h2 | ⟨g, cap, cur, he, hb', hg', h4⟩
  · exact .inl h2
  · exact .inr ⟨g, cap, cur, he, hb', row_keep h' hg hg' hne, h4⟩
/-- pointers, in an own row -/
def ptrs (rs : List Nat) : List Value := rs.map fun r => .pointer (some ⟨r, 0, none⟩)
def rowsV (R : List Brw) : List Value := R.map fun t => .slice t.2.1 t.1.length t.2.2
theorem infoPt : (Tryz.prog.info? 29).map (fun i => (i.zero, i.size, i.bytes)) = some (some (.pointer none), 1, 8) := by kernel_rfl
theorem infoBs : (Tryz.prog.info? 31).map (fun i => (i.zero, i.size, i.bytes)) = some (some (.slice none 0 0), 1, 24) := by kernel_rfl
/-- how far the law's loop has come -/
structure Lw (w0 w : World) (A5 : Option Addr) (c5 : Nat) (A6 : Option Addr) (c6 : Nat) (rs : List Nat) (R : List Brw) : Prop where
  bel : Below w0.heap.size w0 w
  r5 : w.ownsRow w0.heap.size 29 1 (.slice A5 rs.length c5) rs.length (ptrs rs)
  r6 : w.ownsRow w0.heap.size 31 1 (.slice A6 R.length c6) R.length (rowsV R)
  at_ : ∀ (i : Nat) r, rs[i]? = some r → ∃ t, R[i]? = some t ∧ RegT w r t
theorem flat_len {α β : Type} (l : List α) (f : α → List β) (c : Nat) (h : ∀ x ∈ l, (f x).length ≤ c) : (l.flatMap f).length ≤ c * l.length := by
  induction l with
  | nil => simp
  | cons x l ih =>
    have h1 := ih fun y hy => h y (List.mem_cons_of_mem _ hy)
    have h2 := h x (List.mem_cons_self ..)
    rw [List.flatMap_cons, List.length_append, List.length_cons, Nat.mul_add]
    omega
theorem Ra.more {w : World} {B B' : Nat} {A : Option Addr} {L : List Aa} (h : Ra w B A L) (hB : B ≤ B') : Ra w B' A L := fun hl => by
  obtain ⟨g, off, e, hg, hc⟩ := h hl
  exact ⟨g, off, e, by omega, fun i a ha => ⟨(hc i a ha).1, (hc i a ha).2.1.more hB, (hc i a ha).2.2.1.more hB, (hc i a ha).2.2.2⟩⟩
theorem Rr.below {w w' : World} {B : Nat} {A : Option Addr} {L : List Ac4} (h : Rr w B A L) (hb : Below B w w') : Rr w' B A L := fun hl => by
  obtain ⟨g, off, e, hg, hc⟩ := h hl
  exact ⟨g, off, e, hg, fun i t ht => ⟨(hb.cell (p := ⟨g, _, none⟩) hg).trans (hc i t ht).1, (hc i t ht).2.1.below hb, (hc i t ht).2.2⟩⟩
theorem Rr.at_ {w : World} {B : Nat} {A : Option Addr} {L : List Ac4} (h : Rr w B A L) {k : Nat} (hk : k < L.length) : ∃ g off, A = some ⟨g, off, none⟩ ∧ g < B ∧ w.cell? ⟨g, off + k, none⟩ = some (.slice L[k].2.1 L[k].1.length L[k].2.2) ∧ Ra w B L[k].2.1 L[k].1 ∧ L[k].1.length ≤ 1048576 := by
  obtain ⟨g, off, e, hg, hc⟩ := h (by omega)
  exact ⟨g, off, e, hg, hc k _ (List.getElem?_eq_getElem hk)⟩

set_option maxHeartbeats 4000000 in
theorem lives_any (N : List ByteArray) (NA : Option Addr) (nc : Nat) (L : List Ac4) (LA : Option Addr) (lc : Nat) (w : World) (hN : Rs w w.heap.size NA N) (hL : Rr w w.heap.size LA L) (hNl : N.length ≤ 1048576) (hLl : L.length ≤ 1048576) (hNs : ∀ n ∈ N, n.size ≤ 1048576) :
    Calls Tryz.prog 3 #[.slice NA N.length nc, .slice LA L.length lc] w fun e w' => e = .returned (.bool true) ∧ Below w.heap.size w w' := by
  obtain ⟨i5, hi5, hy50, hy51, hy52⟩ := info_parts infoPt
  obtain ⟨i6, hi6, hy60, hy61, hy62⟩ := info_parts infoBs
  have HNm := Lib.hid hN
  have HL := Lib.hid hL
  have HNs := Lib.hid hNs
  clear hN hL hNs
  generalize hCP : (fun (e : Ending) (w' : World) => e = .returned (.bool true) ∧ Below w.heap.size w w') = CP
  have HF : Hid (∀ w', Below w.heap.size w w' → CP (.returned (.bool true)) w') := Lib.hid fun w' h => by rw [← hCP]; exact ⟨rfl, h⟩
  clear hCP
  have tok : True := trivial
  go_enter Tryz.func3, Tryz.ntmps3
  by_cases hbig : L.length ≤ 6 ∧ N.length ≤ 8
  · obtain ⟨hL6, hN8⟩ := hbig
    have q1 : ¬ (6 : Int) < (L.length : Int) := by omega
    have q2 : ¬ (8 : Int) < (N.length : Int) := by omega
    go_wp2_with fail
    refine (awake_any _).mono ?_
    rintro e w1 ⟨rfl, hb1⟩
    have HB1 := Lib.hid hb1
    clear hb1
    go_wp2_with fail
    have hal1 : Below w1.heap.size w1 (w1.alloc (.cells #[] 29)) := (Below.refl _ _).alloc (Nat.le_refl _) _
    have hz1 : (w1.alloc (.cells #[] 29)).heap.size = w1.heap.size + 1 := by simp
    have HL0 := Lib.hid (show Lw w1 ((w1.alloc (.cells #[] 29)).alloc (.cells #[] 31)) (some ⟨w1.heap.size, 0, none⟩) 0 (some ⟨w1.heap.size + 1, 0, none⟩) 0 [] [] from ⟨hal1.alloc (by omega) _, (World.ownsRow_made w1 #[] 0 (Nat.le_refl _) (Nat.zero_le _) rfl).alloc _, by
      have := World.ownsRow_made (base := w1.heap.size) (e := 31) (size := 1) (w1.alloc (.cells #[] 29)) #[] 0 (by omega) (Nat.zero_le _) rfl
      rw [hz1] at this
      exact this, fun i r h => by simp at h⟩)
    clear hal1 hz1
    generalize (w1.alloc (.cells #[] 29)).alloc (.cells #[] 31) = w2 at *
    go_loopw [5, 6, 25] (fun v5 v6 i wr => ∃ (k : Nat) (rs : List Nat) (R : List Brw) (A5 : Option Addr) (c5 : Nat) (A6 : Option Addr) (c6 : Nat), k ≤ L.length ∧ i = .int .i64 k ∧ v5 = .slice A5 rs.length c5 ∧ v6 = .slice A6 R.length c6 ∧ rs.length = k ∧ R.length = k ∧ Hid (Lw w1 wr A5 c5 A6 c6 rs R)) (fun _ _ i _ => L.length - (RowKit.intOf i).toNat)
    case atStart => exact ⟨0, [], [], _, _, _, _, Nat.zero_le _, rfl, rfl, rfl, rfl, rfl, HL0⟩
    case round =>
      clear HL0
      obtain ⟨k, rs, R, A5, c5, A6, c6, hk, rfl, rfl, rfl, hrs, hRl, HV⟩ := hrel
      by_cases hlt : k < L.length
      · have hlt' : (k : Int) < (L.length : Int) := by omega
        have hbw : Below w.heap.size w wr := HB1.out.trans (HV.out.bel.mono HB1.out.size)
        obtain ⟨gl, ol, rfl, hgl, cl, hra, hal⟩ := (HL.out.below hbw).at_ hlt
        have HBw := Lib.hid hbw
        have HRa := Lib.hid hra
        have HCl : Hid (∀ X, Below w.heap.size w X → X.cell? ⟨gl, ol + k, none⟩ = some (.slice L[k].2.1 L[k].1.length L[k].2.2)) := Lib.hid fun X hX => by
          obtain ⟨_, _, e, _, h, _⟩ := (HL.out.below hX).at_ hlt
          cases e
          exact h
        have hRs : rs.length = R.length := by omega
        have HRs := Lib.hid hRs
        have HKs := Lib.hid hrs
        generalize L[k] = T at *
        obtain ⟨acts, LA2, lc2⟩ := T
        simp only at hal HRa HCl cl
        have HFw := Lib.hid (few_r acts LA2 lc2 wr (HRa.out.more hbw.size) (by omega))
        clear hra hbw hrs hRl hRs
        go_wp2_with fail
        refine HFw.out.mono ?_
        rintro e w3 ⟨ok, rfl, hok, hb3⟩
        have HB3 := Lib.hid hb3
        clear HFw hb3 cl
        cases ok with
        | false =>
          have HF2 := Lib.hid (HF.out w3 (HBw.out.trans (HB3.out.mono HBw.out.size)))
          clear HF
          go_wp2_with fail
          first
            | exact HF2.out
            | (go_ret; exact HF2.out)
        | true =>
          have h41 := hok (by first | trivial | rfl)
          clear hok
          have hb3w : Below w.heap.size w w3 := HBw.out.trans (HB3.out.mono HBw.out.size)
          have cl3 := HCl.out w3 hb3w
          have HRg := Lib.hid (registered_r ⟨#[99]⟩ acts LA2 lc2 w3 ((HRa.out.below (HB3.out.mono HBw.out.size)).more hb3w.size) (by omega))
          go_wp2_with fail
          refine HRg.out.mono ?_
          rintro e w4 ⟨rfl, hreg4, hb4⟩
          have hb4r : Below wr.heap.size wr w4 := HB3.out.trans (hb4.mono HB3.out.size)
          have hr5 : w4.ownsRow w1.heap.size 29 1 (.slice A5 rs.length c5) rs.length (ptrs rs) := ownsRow_kp HV.out.r5 (Kp.of_below (fun _ => False) hb4r) (fun _ _ e => e)
          have hws : w1.heap.size ≤ w4.heap.size := Nat.le_trans HV.out.bel.size hb4r.size
          have hrA := hr5.alloc (.cells #[.pointer (some ⟨w3.heap.size + 1, 0, none⟩)] 29)
          have hk6 : (k : Int) ≤ 6 := by omega
          have hkr : (k : Int) < (rs.length : Int) + 1 := by have := HKs.out; omega
          clear HRg cl3
          go_wp2_with (first
            | (have _t := hk6; at_builtin; refine wpList_append_lies _ rfl (.tmp 34) (.tmp 40) 25 rfl w1.heap.size 29 i5 _ 1 8 Tryz.underlying25 hi5 hy50 hy51 hy52 rfl (by decide) (.slice A5 rs.length c5) rs.length (ptrs rs) rfl hrA ⟨w4.heap.size, 0, none⟩ 1 1 [.pointer (some ⟨w3.heap.size + 1, 0, none⟩)] rfl rfl (World.news_of_block (cs := #[.pointer (some ⟨w3.heap.size + 1, 0, none⟩)]) (t := 29) (fr := (0, 0)) (heap_alloc_new w4 _)) (by simp [Value.oneCell']) (by decide) (by unfold maxLen; have := HKs.out; omega) (by have := HKs.out; omega) (by simp; omega) (w4.heap.size + 1) (by simp) ?_; intro g7 cap7 w7 hown7 hg7 hloc7 hlt7; have c7 : w7.cell? ⟨g7, k, none⟩ = some (.pointer (some ⟨w3.heap.size + 1, 0, none⟩)) := (hown7.cellAt k (by have := HKs.out; omega)).trans (by rw [← HKs.out]; unfold ptrs; simp); clear hk6 _t)
            | fail)
          obtain ⟨b4, n4, G4, S4, hR4⟩ := hreg4
          have hal4 : Below w4.heap.size w4 (w4.alloc (.cells #[.pointer (some ⟨w3.heap.size + 1, 0, none⟩)] 29)) := (Below.refl _ _).alloc (Nat.le_refl _) _
          have hk47 : KpT w4 w7 := (KpT.below hal4).trans (KpT.grown hrA (.inl rfl) hg7)
          have hR7 := hR4.keepT hk47
          have hb17 : Below w1.heap.size w1 w7 := (((HV.out.bel.trans (hb4r.mono HV.out.bel.size)).trans (hal4.mono hws)).grown hg7 (Nat.le_trans hws hal4.size) (fun j hj => (hrA.lt j hj).1))
          have hr67 : w7.ownsRow w1.heap.size 31 1 (.slice A6 R.length c6) R.length (rowsV R) := row_keepT ((ownsRow_kp HV.out.r6 (Kp.of_below (fun _ => False) hb4r) (fun _ _ e => e)).alloc _) hrA hg7 (by decide)
          have HBi := Lib.hid (billsOf_r _ _ _ b4 n4 _ G4 S4 w7 hR7 (by have := hR4.num; omega))
          have hn41 : n4 ≤ 41 := by have := hR4.num; omega
          go_wp2_with fail
          refine HBi.out.mono ?_
          rintro e w8 ⟨BA, bc, BL, rfl, hBw, hBx, hBl, hb8⟩
          have hr68 : w8.ownsRow w1.heap.size 31 1 (.slice A6 R.length c6) R.length (rowsV R) := ownsRow_kp hr67 (Kp.of_below (fun _ => False) hb8) (fun _ _ e => e)
          have hr58 := ownsRow_kp hown7 (Kp.of_below (fun _ => False) hb8) (fun _ _ e => e)
          have hrB := hr68.alloc (.cells #[.slice BA BL.length bc] 31)
          have hws8 : w1.heap.size ≤ w8.heap.size := Nat.le_trans hb17.size hb8.size
          have hk6 : (k : Int) ≤ 6 := by omega
          clear c7 hr67 HBi
          go_wp2_with (first
            | (have _t := hk6; at_builtin; refine wpList_append_lies _ rfl (.tmp 42) (.tmp 48) 26 rfl w1.heap.size 31 i6 _ 1 24 Tryz.underlying26 hi6 hy60 hy61 hy62 rfl (by decide) (.slice A6 R.length c6) R.length (rowsV R) rfl hrB ⟨w8.heap.size, 0, none⟩ 1 1 [.slice BA BL.length bc] rfl rfl (World.news_of_block (cs := #[.slice BA BL.length bc]) (t := 31) (fr := (0, 0)) (heap_alloc_new w8 _)) (by simp [Value.oneCell']) (by decide) (by unfold maxLen; have := HKs.out; have := HRs.out; omega) (by have := HKs.out; have := HRs.out; omega) (by simp; omega) (w8.heap.size + 1) (by simp) ?_; intro g9 cap9 w9 hown9 hg9 hloc9 hlt9; clear hk6 _t)
            | fail)
          have hal8 : Below w8.heap.size w8 (w8.alloc (.cells #[.slice BA BL.length bc] 31)) := (Below.refl _ _).alloc (Nat.le_refl _) _
          have hk79 : KpT w7 w9 := ((KpT.below hb8).trans (KpT.below hal8)).trans (KpT.grown hrB (.inr rfl) hg9)
          have HV9 := Lib.hid (show Lw w1 w9 (some ⟨g7, 0, none⟩) cap7 (some ⟨g9, 0, none⟩) cap9 (rs ++ [w3.heap.size + 1]) (R ++ [(BL, BA, bc)]) from by
            refine ⟨((hb17.trans (hb8.mono hb17.size)).trans (hal8.mono hws8)).grown hg9 (Nat.le_trans hws8 hal8.size) (fun j hj => (hrB.lt j hj).1), ?_, ?_, fun i r hi => ?_⟩
            · have := row_keepT (hr58.alloc _) hrB hg9 (by decide)
              unfold ptrs at this ⊢
              simpa using this
            · unfold rowsV at hown9 ⊢
              simpa using hown9
            · by_cases hil : i < rs.length
              · rw [List.getElem?_append_left hil] at hi
                obtain ⟨t, ht, hrt⟩ := HV.out.at_ i r hi
                refine ⟨t, by rw [List.getElem?_append_left (by have := HRs.out; omega)]; exact ht, hrt.keepT (((KpT.below hb4r).trans hk47).trans hk79)⟩
              · rw [List.getElem?_append_right (by omega)] at hi
                have hi0 : i - rs.length = 0 := by
                  have := (List.getElem?_eq_some_iff.1 hi).1
                  simpa using this
                rw [hi0] at hi
                simp at hi
                subst hi
                refine ⟨(BL, BA, bc), ?_, ⟨_, _, b4, n4, _, G4, S4, w7.heap.size, hR7.keepT hk79, hn41, ?_, hBx, by show BL.length ≤ 41; omega⟩⟩
                · rw [List.getElem?_append_right (by have := HRs.out; omega), show i - R.length = 0 by have := HRs.out; omega]
                  rfl
                · exact hBw.keepT ((KpT.below hal8).trans (KpT.grown hrB (.inr rfl) hg9)))
          have HLen := Lib.hid (show (rs ++ [w3.heap.size + 1]).length = k + 1 ∧ (R ++ [(BL, BA, bc)]).length = k + 1 from by have := HKs.out; have := HRs.out; simp; omega)
          clear hr58 hr68 hrB hown9 hg9 hloc9 hk79 hal8 hBw hBx hb8 hb17 hk47 hal4 hR7 hR4 hrA hown7 hg7 hloc7 hr5 hb4 hb4r hb3w HV HCl HRa
          go_wp2_with fail
          exact ⟨⟨k + 1, rs ++ [w3.heap.size + 1], R ++ [(BL, BA, bc)], _, _, _, _, by omega, by go_num, by simp, by simp, HLen.out.1, HLen.out.2, HV9⟩, by simp [RowKit.intOf]; omega⟩
      · have hlt' : ¬ (k : Int) < (L.length : Int) := by omega
        have hkL : k = L.length := by omega
        by_cases hNL : N.length = L.length
        · have q3 : (N.length : Int) = (L.length : Int) := by omega
          have hNr : N.length = rs.length := by omega
          have hPl : (plain R).length = rs.length := by unfold plain; rw [List.length_map]; omega
          have hbw : Below w.heap.size w wr := HB1.out.trans (HV.out.bel.mono HB1.out.size)
          have hrT : ∀ t ∈ R, ∃ r, RegT wr r t := fun t ht => by
            obtain ⟨i, hi⟩ := List.getElem?_of_mem ht
            have hil : i < rs.length := by have := (List.getElem?_eq_some_iff.1 hi).1; omega
            obtain ⟨t', ht', hr⟩ := HV.out.at_ i _ (List.getElem?_eq_getElem hil)
            rw [hi] at ht'
            cases ht'
            exact ⟨_, hr⟩
          have hOk : RbOk R := ⟨by omega, fun t ht => by obtain ⟨r, hr⟩ := hrT t ht; exact hr.fit.1, fun t ht => by obtain ⟨r, hr⟩ := hrT t ht; exact hr.fit.2⟩
          have hPs : ∀ p ∈ plain R, ∀ s, liveB p s = true → s.size ≤ 16 := fun p hp s hs => by
            obtain ⟨t, ht, rfl⟩ := List.mem_map.1 hp
            obtain ⟨y, hy, hsy⟩ := live_in hs
            obtain ⟨m, hm, rfl⟩ := List.mem_map.1 hy
            exact (hOk.b t ht m hm).2 s hsy
          have hRp : Rp wr wr.heap.size A5 rs := fun h0 => by
            rcases HV.out.r5.2 with ⟨_, h1⟩ | ⟨g, cap, cur, e, _, hg, _, _, _, h7⟩
            · omega
            · injection e with e _ _
              refine ⟨g, e, lt_of_some hg, fun i r hr => ?_⟩
              rw [cell_of hg i, ← Array.getElem?_toList]
              have h8 : (ptrs rs)[i]? = some (.pointer (some ⟨r, 0, none⟩)) := by unfold ptrs; rw [List.getElem?_map, hr]; rfl
              rw [← h7, List.getElem?_take] at h8
              split at h8
              · exact h8
              · cases h8
          have HAu := Lib.hid (auditLive_r N NA nc rs A5 c5 (plain R) wr ((HNm.out.below hbw).more hbw.size) hRp hNr hPl (by omega) HNs.out (fun i r hr => by
            obtain ⟨t, ht, hT⟩ := HV.out.at_ i r hr
            exact ⟨t.1.map Bm.bl, by unfold plain; rw [List.getElem?_map, ht]; rfl, hT.regB⟩) hPs)
          have HRf : Hid (∀ X, Below wr.heap.size wr X → Calls Tryz.prog 11 #[.slice NA N.length nc, .slice A6 R.length c6] X fun e w' => ∃ A c, e = .returned (.slice A (docLive N (plain R)).length c) ∧ Rs w' w'.heap.size A (docLive N (plain R)) ∧ Below X.heap.size X w') := Lib.hid fun X hX => by
            have hbX := hbw.trans (hX.mono hbw.size)
            refine refLive_r N NA nc R A6 c6 X ((HNm.out.below hbX).more hbX.size) (fun h0 => ?_) (by omega) hOk HNs.out
            rcases HV.out.r6.2 with ⟨_, h1⟩ | ⟨g, cap, cur, e, _, hg, _, _, _, h7⟩
            · omega
            · injection e with e _ _
              have hg2 := keep_of_below hX hg
              refine ⟨g, e, lt_of_some hg2, fun i t ht => ⟨?_, ?_⟩⟩
              · rw [cell_of hg2 i, ← Array.getElem?_toList]
                have h8 : (rowsV R)[i]? = some (.slice t.2.1 t.1.length t.2.2) := by unfold rowsV; rw [List.getElem?_map, ht]; rfl
                rw [← h7, List.getElem?_take] at h8
                split at h8
                · exact h8
                · cases h8
              · obtain ⟨r, hr⟩ := hrT t (List.mem_of_getElem? ht)
                obtain ⟨_, _, _, _, _, _, _, _, _, _, h3, _⟩ := hr
                exact (h3.below hX).rb
          have hdl : (docLive N (plain R)).length ≤ 1000000 := by
            have h1 : (docLive N (plain R)).length ≤ (boxesB (plain R)).length := docT_len N (plain R) _
            have h2 := puts_len (rowL R) []
            rw [rowL_plain] at h2
            have h3 : (rowL R).length ≤ 2624 * R.length := flat_len R (fun t => boxL t.1) 2624 fun t ht => by
              have h4 := flat_len t.1 (fun m => m.x.l) 64 fun m hm => (hOk.b t ht m hm).1
              have h5 := hOk.l t ht
              show (boxL t.1).length ≤ 2624
              unfold boxL
              omega
            have h6 := hOk.n
            simp at h2
            omega
          have HBw := Lib.hid hbw
          have HDl := Lib.hid hdl
          have HNL := Lib.hid hNL
          clear hNr hPl hrT hOk hPs hRp HL HNm HNs HV hdl hNL hkL hrs hRl hbw
          go_wp2_with fail
          refine HAu.out.mono ?_
          rintro e w6 ⟨A, c, M, hS, hmem, rfl, hR6, hb6⟩
          have hlaw : audLive N (plain R) M = docLive N (plain R) := live_law N (plain R) M hS hmem
          rw [hlaw] at hR6 ⊢
          have HR6 := Lib.hid hR6
          have HB6 := Lib.hid hb6
          have HRf6 := Lib.hid (HRf.out w6 hb6)
          clear hS hmem hlaw hR6 hb6 HAu HRf
          go_wp2_with fail
          refine HRf6.out.mono ?_
          rintro e w7 ⟨A7, c7, rfl, hR7, hb7⟩
          have HSm := Lib.hid (same_eq (docLive N (plain R)) A A7 c c7 w7 ((HR6.out.below hb7).more hb7.size) hR7 HDl.out)
          have HB7 := Lib.hid (HB6.out.trans (hb7.mono HB6.out.size))
          clear hR7 hb7 HRf6 HR6 HB6
          go_wp2_with fail
          refine HSm.out.mono ?_
          rintro e w8 ⟨rfl, hb8⟩
          have HF2 := Lib.hid (HF.out w8 (HBw.out.trans ((HB7.out.trans (hb8.mono HB7.out.size)).mono HBw.out.size)))
          clear hb8 HSm HF HB7
          go_wp2_with fail
          first
            | exact HF2.out
            | (go_ret; exact HF2.out)
        · have q3 : ¬ (N.length : Int) = (L.length : Int) := by omega
          have HF2 := Lib.hid (HF.out wr (HB1.out.trans (HV.out.bel.mono HB1.out.size)))
          clear HF HV HL HNm HNs
          go_wp2_with fail
          first
            | exact HF2.out
            | (go_ret; exact HF2.out)
  · have HBig := Lib.hid hbig
    by_cases h6 : L.length ≤ 6
    · have q1 : ¬ (6 : Int) < (L.length : Int) := by omega
      have q2 : (8 : Int) < (N.length : Int) := by omega
      clear hbig
      go_wp2_with (first
        | (have _t := tok; go_at_call 5; refine (awake_any _).mono ?_; rintro e w1 ⟨rfl, hb1⟩; have HB1 := Lib.hid hb1; clear hb1 tok _t)
        | (go_at_call 5; refine (awake_any _).mono ?_; rintro e w2 ⟨rfl, hb2⟩; have HF2 := Lib.hid (HF.out w2 (HB1.out.trans (hb2.mono HB1.out.size))); clear hb2)
        | fail)
      first
        | exact HF2.out
        | (go_ret; exact HF2.out)
    · have q1 : (6 : Int) < (L.length : Int) := by omega
      clear hbig
      go_wp2_with (first
        | (have _t := tok; go_at_call 5; refine (awake_any _).mono ?_; rintro e w1 ⟨rfl, hb1⟩; have HB1 := Lib.hid hb1; clear hb1 tok _t)
        | (go_at_call 5; refine (awake_any _).mono ?_; rintro e w2 ⟨rfl, hb2⟩; have HF2 := Lib.hid (HF.out w2 (HB1.out.trans (hb2.mono HB1.out.size))); clear hb2)
        | fail)
      first
        | exact HF2.out
        | (go_ret; exact HF2.out)
end Go.Proofs.YtdinloecgaapaaaGreatDoor
