/- audit.Live's closure; audit.gather over it. -/
import Derived.Test.YtdinloecgaapaaaGreatDoorMRPlain
import Derived.Test.YtdinloecgaapaaaGreatDoorMHNames
import Derived.Test.YtdinloecgaapaaaGreatDoorRRef
namespace Go.Proofs.YtdinloecgaapaaaGreatDoor
open Go.RowKit Go.Maps Go.Lib Go.Sort
set_option linter.unusedVariables false
set_option maxRecDepth 100000

theorem Kp.cell {S : Nat → Prop} {w w' : World} (h : Kp S w w') {p : Addr} (hp : p.block < w.heap.size) (hS : ¬ S p.block) : w'.cell? p = w.cell? p := World.cell?_of_block (h.block _ hp hS)
/-- the lines so far: in the box po, and in a block of their own -/
structure Ln (w2 w : World) (po : Nat) (out : List ByteArray) : Prop where
  kp : Kp (fun k => k = po) w2 w
  row : ∃ A c, w.heap[po]? = some (.cells #[.slice A out.length c] 22 (0, 0)) ∧ w.ownsRow w2.heap.size 9 1 (.slice A out.length c) out.length (out.map Value.string)
  lt : po < w2.heap.size
theorem Ln.below {w2 w w' : World} {po : Nat} {out : List ByteArray} (h : Ln w2 w po out) (hb : Below w.heap.size w w') : Ln w2 w' po out := by
  obtain ⟨A, c, h1, h2⟩ := h.row
  exact ⟨h.kp.trans (Kp.of_below _ hb), ⟨A, c, (hb.block po (Nat.lt_of_lt_of_le h.lt h.kp.size)).trans h1, ownsRow_kp h2 (Kp.of_below (fun _ => False) hb) (fun _ _ e => e)⟩, h.lt⟩
theorem line_ln (w2 : World) (po bk c : Nat) (xs : List ByteArray) (J : ByteArray) (w : World) (out : List ByteArray) (hL : Ln w2 w po out) (hol : out.length ≤ 100000) (hcells : ∀ (j : Nat) x, xs[j]? = some x → w.cell? ⟨bk, j, none⟩ = some (.string x)) (hbk : bk < w.heap.size) (hN : xs.length ≤ 100) (hcap : xs.length ≤ c) (hJ : J = ⟨(Lib.join (xs.map (·.data.toList)) [32]).toArray⟩) (hlen : J.size ≤ 140737488355328) :
    Calls Tryz.prog 60 #[.slice (some ⟨bk, 0, none⟩) xs.length c, .pointer (some ⟨po, 0, none⟩)] w fun e w' => e = .returned (.tuple #[]) ∧ Ln w2 w' po (out ++ [J]) := by
  obtain ⟨A, cc, h1, h2⟩ := hL.row
  refine (line_any po bk 0 c xs J w w2.heap.size A cc out h2 hL.kp.size hol h1 (fun j x hx => by rw [Nat.zero_add]; exact hcells j x hx) hbk hN hcap hJ hlen).mono ?_
  rintro e w' ⟨he, g, cap, h3, h4, hk⟩
  refine ⟨he, ?_, ⟨some ⟨g, 0, none⟩, cap, by simpa using h3, by simpa using h4⟩, hL.lt⟩
  refine ⟨hk.os.trans hL.kp.os, hk.tape.trans hL.kp.tape, hk.output.trans hL.kp.output, Nat.le_trans hL.kp.size hk.size, fun k hk2 hn => ?_⟩
  refine (hk.block k (Nat.lt_of_lt_of_le hk2 hL.kp.size) ?_).trans (hL.kp.block k hk2 hn)
  rintro (e | e)
  · exact hn e
  · rcases h2.2 with ⟨h0, _⟩ | ⟨g', cap', cur, he', hb', _⟩
    · rw [h0] at e; simp [Value.ownBlock] at e
    · rw [he'] at e
      simp [Value.ownBlock] at e
      omega


/-- the lines of some boxes -/
def audF (F : ByteArray → List ByteArray) (M : List ByteArray) : List ByteArray := (M.filter fun s => decide (1 < (F s).length)).map fun s => audLine s (F s)
theorem audF_step (F : ByteArray → List ByteArray) (M : List ByteArray) (k : Nat) (h : k < M.length) : audF F (M.take (k + 1)) = audF F (M.take k) ++ (if 1 < (F M[k]).length then [audLine M[k] (F M[k])] else []) := by
  rw [List.take_succ_eq_append_getElem h]
  unfold audF
  rw [List.filter_append, List.map_append]
  congr 1
  by_cases e : 1 < (F M[k]).length
  · rw [if_pos e]; simp [List.filter, e]
  · rw [if_neg e]; simp [List.filter, e]
theorem audF_len (F : ByteArray → List ByteArray) (M : List ByteArray) : (audF F M).length ≤ M.length := by
  unfold audF
  rw [List.length_map]
  exact List.length_filter_le _ _
theorem Gp.kp {base b k po : Nat} {w w' : World} {av : Option Nat} {F : ByteArray → List ByteArray} (h : Gp base w b k av F) (hk : Kp (fun q => q = po) w w') {cs : Array Value} {fz : Nat × Nat} (hpo : w.heap[po]? = some (.cells cs 22 fz)) : Gp base w' b k av F := by
  obtain ⟨h0, Q, h1, h2, h3, h4, h5⟩ := h
  have hb : b ≠ po := by
    rintro rfl
    obtain ⟨es, ck, hm⟩ := h1.map?
    rw [hpo] at hm
    cases hm
  have hmp : Mp nmC slE w' b k Q := by
    have hl := h1.lt
    obtain ⟨D, ⟨es, clock, e2, e3⟩, hR⟩ := h1
    exact ⟨D, ⟨es, clock, (hk.block b hl hb).trans e2, e3⟩, hR⟩
  refine ⟨h0, Q, hmp, h2, fun s v hs => ⟨(h3 s v hs).1, (h3 s v hs).2.1, (h3 s v hs).2.2.keep fun q hq => ?_⟩, h4, h5⟩
  obtain ⟨cs2, h6⟩ := row_blk (h3 s v hs).2.2 hq
  refine hk.block q (lt_of_some h6) ?_
  rintro rfl
  rw [hpo] at h6
  injection h6 with h6
  injection h6 with _ h7 _
  exact absurd h7 (by decide)
/-- the map's keys, rising -/
theorem Gp.sorted {base b k : Nat} {w : World} {av : Option Nat} {F : ByteArray → List ByteArray} (h : Gp base w b k av F) (hk : k ≤ 1000000) (hF : ∀ s, F s ≠ [] → s.size ≤ 1000) :
    Calls Tryz.prog 30 #[.func (.func 64) #[] #[.pointer (some ⟨w.heap.size, 0, none⟩)]] (w.alloc (.cells #[.map (some b)] 71)) fun e w' =>
      ∃ A c keys, e = .returned (.slice A (List.length keys) c) ∧ Srt keys ∧ (∀ s, s ∈ keys ↔ F s ≠ []) ∧ keys.length ≤ k ∧ Ow w' w.heap.size (.slice A keys.length c) keys ∧ Below w.heap.size w w' := by
  obtain ⟨h0, Q, h1, h2, h3, h4, h5⟩ := h
  refine (sortedL_r slE w b k Q h1 hk).mono ?_
  rintro e w' ⟨A, c, keys, rfl, q1, q2, q3, q4, q5, q6⟩
  refine ⟨A, c, keys, rfl, q1, fun s => ?_, q4, q5, q6⟩
  constructor
  · intro hs
    have := (q3 s (q2 s hs)).1 hs
    obtain ⟨v, hv⟩ := Option.isSome_iff_exists.1 this
    exact (h3 s v hv).1
  · intro hs
    refine (q3 s (by have := hF s hs; unfold maxLen; omega)).2 ?_
    cases hq : Q s with
    | none => exact absurd (h2 s hq) hs
    | some v => rfl
theorem str_one' (M : List ByteArray) : ∀ u ∈ M.map Value.string, u.oneCell' = true := by
  intro u hu
  obtain ⟨x, _, rfl⟩ := List.mem_map.1 hu
  rfl
/-- the parts of a line -/
theorem line_parts {X : World} {box : ByteArray} {L : List ByteArray} {g : Nat} {base cap : Nat} (h : X.ownsRow base 9 1 (.slice (some ⟨g, 0, none⟩) (1 + L.length) cap) (1 + L.length) ([.string box] ++ L.map Value.string)) : ∀ (j : Nat) x, (box :: L)[j]? = some x → X.cell? ⟨g, j, none⟩ = some (.string x) := by
  intro j x hx
  have hj : j < 1 + L.length := by have := (List.getElem?_eq_some_iff.1 hx).1; rw [List.length_cons] at this; omega
  have h2 := h.cellAt j (by omega)
  rw [h2]
  have : ([Value.string box] ++ L.map Value.string) = (box :: L).map Value.string := by simp
  rw [this, List.getElem?_map, hx]
  rfl

set_option maxHeartbeats 4000000 in
theorem live1_r (w : World) (base po pm b k : Nat) (F : ByteArray → List ByteArray) (hG : Gp base w b k none F) (hpo : w.heap[po]? = some (.cells #[.slice none 0 0] 22 (0, 0))) (hpm : w.heap[pm]? = some (.cells #[.map (some b)] 71 (0, 0))) (hk : k ≤ 100000) (hF : ∀ s, F s ≠ [] → s.size ≤ 1000) (hFl : ∀ s, (F s).length ≤ 6) (hFn : ∀ s, ∀ n ∈ F s, n.size ≤ 1048576) (hbs : base ≤ w.heap.size) :
    Calls Tryz.prog 29 #[.func (.func 60) #[] #[.pointer (some ⟨po, 0, none⟩)], .pointer (some ⟨pm, 0, none⟩)] w fun e w' =>
      e = .returned (.tuple #[]) ∧ ∃ A c M, Srt M ∧ (∀ s, s ∈ M ↔ F s ≠ []) ∧ w'.cell? ⟨po, 0, none⟩ = some (.slice A (audF F M).length c) ∧ Rs w' w'.heap.size A (audF F M) ∧ Kp (fun q => q = po) w w' := by
  obtain ⟨i0, hi0, hy0, hy1, hy2⟩ := info_parts str_info
  have cm : w.cell? ⟨pm, 0, none⟩ = some (.map (some b)) := cell_of hpm 0
  have hpl := lt_of_some hpo
  have hpml := lt_of_some hpm
  have hne : pm ≠ po := by
    rintro rfl
    rw [hpo] at hpm
    injection hpm with hpm
    injection hpm with _ h7 _
    exact absurd h7 (by decide)
  have HG := Lib.hid hG
  have Hpo := Lib.hid hpo
  have Hpm := Lib.hid hpm
  have HS := Lib.hid (hG.sorted (by omega) hF)
  have HK := Lib.hid (keysL_fn (some b) w)
  clear hG hpo hpm
  go_enter Tryz.func29, Tryz.ntmps29
  go_wp2_with fail
  refine HK.out.mono ?_
  rintro e w8 ⟨rfl, rfl⟩
  go_wp2_with fail
  refine HS.out.mono ?_
  rintro e w2 ⟨A9, c9, keys, rfl, hS, hmem, hkl, hown, hb2⟩
  have hpo2 : w2.heap[po]? = some (.cells #[.slice none 0 0] 22 (0, 0)) := keep_of_below hb2 Hpo.out
  have hpm2 : w2.heap[pm]? = some (.cells #[.map (some b)] 71 (0, 0)) := keep_of_below hb2 Hpm.out
  have HL0 : Hid (Ln w2 w2 po []) := Lib.hid ⟨⟨rfl, rfl, rfl, Nat.le_refl _, fun _ _ _ => rfl⟩, ⟨none, 0, hpo2, World.ownsRow_nil _ _ _ _⟩, lt_of_some hpo2⟩
  have HG2 := Lib.hid (HG.out.below hb2 (.inl rfl))
  have HB2 := Lib.hid hb2
  have Hpo2 := Lib.hid hpo2
  have Hpm2 := Lib.hid hpm2
  have HO := Lib.hid hown
  have HSr := Lib.hid (And.intro hS hmem)
  have hkl' : (keys.length : Int) ≤ 100000 := by omega
  have hs2 := hb2.size
  clear hb2 hpo2 hpm2 hown hS hmem HS HK HG Hpo Hpm cm
  go_wp2_with fail
  go_loopw [9] (fun i wr => ∃ (q : Nat) (out : List ByteArray), i = .int .i64 (q : Int) ∧ q ≤ keys.length ∧ out.length ≤ q ∧ Hid (out = audF F (keys.take q)) ∧ Hid (Ln w2 wr po out)) (fun i _ => keys.length - (RowKit.intOf i).toNat)
  case atStart => exact ⟨0, [], rfl, Nat.zero_le _, Nat.zero_le _, Lib.hid rfl, HL0⟩
  case round =>
    clear HL0
    obtain ⟨q, out, rfl, hq, hol, Hout, HL⟩ := hrel
    by_cases hlt : q < keys.length
    · have hlt' : (q : Int) < (keys.length : Int) := by omega
      have hst := audF_step F keys q hlt
      have hidk := hF _ ((HSr.out.2 _).1 (List.getElem_mem hlt))
      obtain ⟨A', c', he9, hsr9⟩ := sr_of_row rfl HO.out
      injection he9 with he9 _ he9c
      subst he9 he9c
      obtain ⟨g9, o9, rfl, hg9, hc9⟩ := hsr9.rs.at_ hlt
      have hgp : g9 ≠ po := by
        have := (HO.out.lt (q := g9) rfl).1
        omega
      have hcr : wr.cell? ⟨g9, o9 + q, none⟩ = some (.string keys[q]) := (HL.out.kp.cell (p := ⟨g9, o9 + q, none⟩) hg9 hgp).trans hc9
      generalize keys[q] = box at *
      have hG := HG2.out.kp HL.out.kp Hpo2.out
      have hws := HL.out.kp.size
      have hpmr : wr.heap[pm]? = some (.cells #[.map (some b)] 71 (0, 0)) := (HL.out.kp.block pm (lt_of_some Hpm2.out) hne).trans Hpm2.out
      have cm : wr.cell? ⟨pm, 0, none⟩ = some (.map (some b)) := cell_of hpmr 0
      obtain ⟨A0, c0, hlk, how, _, _⟩ := hG.at_ box hidk (by omega) (by omega) (fun q hq => by cases hq)
      have hl0 := hlk wr (Below.refl _ _)
      have HLk := Lib.hid hlk
      have Hst := Lib.hid (show audF F (keys.take (q + 1)) = out ++ (if 1 < (F box).length then [audLine box (F box)] else []) from by rw [hst, Hout.out])
      have hsr0 := Lib.hid how
      have hfl := hFl box
      have hfn := Lib.hid (hFn box)
      clear hst hc9 hsr9 hG hlk how Hout
      generalize F box = L0 at *
      by_cases h1 : 1 < L0.length
      · have h1' : (1 : Int) < (L0.length : Int) := by omega
        have Hfin : Hid (audF F (keys.take (q + 1)) = out ++ [audLine box L0]) := Lib.hid (by rw [Hst.out, if_pos h1])
        clear Hst
        have hal : Below wr.heap.size wr (wr.alloc (.cells #[.string box] 9)) := (Below.refl _ _).alloc (Nat.le_refl _) _
        have cm2 : (wr.alloc (.cells #[.string box] 9)).cell? ⟨pm, 0, none⟩ = some (.map (some b)) := Lib.cell?_alloc_some _ cm
        have hl2 := HLk.out _ hal
        obtain ⟨g0, e0, n0⟩ : ∃ g0, A0 = some ⟨g0, 0, none⟩ ∧ ∀ (j : Nat) u, (L0.map Value.string)[j]? = some u → (wr.alloc (.cells #[.string box] 9)).cell? ((⟨g0, 0, none⟩ : Addr).add j) = some u := by
          have h9 := hsr0.out.alloc (.cells #[.string box] 9)
          rcases hsr0.out.2 with ⟨e, h0⟩ | ⟨g0, cap0, cur, e, _⟩
          · omega
          · injection e with e _ _
            subst e
            refine ⟨g0, rfl, fun j u hu => ?_⟩
            have hj : j < L0.length := by have := (List.getElem?_eq_some_iff.1 hu).1; simpa using this
            rw [Lib.add_plain, Nat.zero_add, h9.cellAt j (by omega)]
            exact hu
        subst e0
        have hro : (wr.alloc (.cells #[.string box] 9)).ownsRow wr.heap.size 9 1 (.slice (some ⟨wr.heap.size, 0, none⟩) 1 1) 1 [.string box] := ⟨by simp, .inr ⟨wr.heap.size, 1, _, rfl, Nat.le_refl _, heap_alloc_new wr _, Nat.le_refl _, by decide, rfl, by simp⟩⟩
        have hJs : (audLine box L0).size ≤ 7000000 := by
          rw [← doc_aud]
          have := doc_size L0 hfn.out box
          omega
        have hone : ∀ u ∈ L0.map Value.string, u.oneCell' = true := str_one' L0
        go_wp2_with (first
          | (at_builtin; refine wpList_append_lies _ rfl (.tmp 20) (.tmp 23) 22 rfl wr.heap.size 9 i0 _ 1 16 Tryz.underlying22 hi0 hy0 hy1 hy2 rfl (by decide) (.slice (some ⟨wr.heap.size, 0, none⟩) 1 1) 1 [.string box] rfl hro ⟨g0, 0, none⟩ L0.length c0 (L0.map Value.string) rfl (by simp) n0 hone (by omega) (by unfold maxLen; omega) (by omega) hal.size (wr.heap.size + 1) (by simp) ?_; intro yg yc yw yown ygr yloc ylt)
          | fail)
        have hby : Below wr.heap.size wr yw := hal.grown ygr hal.size (fun j hj => by injection hj with hj; exact Nat.le_of_eq hj)
        have HLn := Lib.hid (line_ln w2 po yg yc (box :: L0) (audLine box L0) yw out (HL.out.below hby) (by omega) (line_parts yown) ylt (by simp; omega) (by
          rcases yown.2 with ⟨e, _⟩ | ⟨_, _, _, e, _, _, h7, _⟩
          · cases e
          · injection e with _ _ e
            rw [List.length_cons]
            omega) rfl (by omega))
        rw [List.length_cons, Nat.add_comm] at HLn
        clear hby yown ygr yloc hro n0 hone hsr0 HLk cm cm2 hl2 hl0 hal hpmr
        go_wp2_with fail
        refine HLn.out.mono ?_
        rintro e w5 ⟨rfl, hL5⟩
        have HL5 := Lib.hid hL5
        clear hL5 HLn
        go_wp2_with fail
        go_roundw
        case rel => exact ⟨q + 1, out ++ [audLine box L0], by go_num, by omega, by simp; omega, Lib.hid Hfin.out.symm, HL5⟩
        case measure => simp [RowKit.intOf]; omega
      · have h1' : ¬ (1 : Int) < (L0.length : Int) := by omega
        have Hfin : Hid (audF F (keys.take (q + 1)) = out) := Lib.hid (by rw [Hst.out, if_neg h1]; simp)
        clear Hst
        go_wp2_with fail
        go_roundw
        case rel => exact ⟨q + 1, out, by go_num, by omega, by omega, Lib.hid Hfin.out.symm, HL⟩
        case measure => simp [RowKit.intOf]; omega
    · have hlt' : ¬ (q : Int) < (keys.length : Int) := by omega
      have hke : keys.take q = keys := List.take_of_length_le (by omega)
      have Ho := Lib.hid (show out = audF F keys from by rw [Hout.out, hke])
      clear hke Hout
      go_wp2_with fail
      go_end0
      obtain ⟨A, c, hp, hr⟩ := HL.out.row
      refine ⟨rfl, A, c, keys, HSr.out.1, by simpa using HSr.out.2, by rw [← Ho.out]; simp [World.cell?, hp], ?_, (Kp.of_below _ HB2.out).trans (HL.out.kp)⟩
      rw [← Ho.out]
      rcases hr.2 with ⟨_, h0⟩ | ⟨g, cap, cur, he, _⟩
      · intro h; omega
      · injection he with e1 e2 e3
        subst e1 e3
        exact Rs.of_row hr

set_option maxHeartbeats 2000000 in
theorem gatherL_r (w : World) (base pm b k : Nat) (F : ByteArray → List ByteArray) (hG : Gp base w b k none F) (hpm : w.heap[pm]? = some (.cells #[.map (some b)] 71 (0, 0))) (hk : k ≤ 100000) (hF : ∀ s, F s ≠ [] → s.size ≤ 1000) (hFl : ∀ s, (F s).length ≤ 6) (hFn : ∀ s, ∀ n ∈ F s, n.size ≤ 1048576) (hbs : base ≤ w.heap.size) :
    Calls Tryz.prog 28 #[.func (.func 29) #[] #[.pointer (some ⟨pm, 0, none⟩)]] w fun e w' =>
      ∃ A c M, e = .returned (.slice A (audF F M).length c) ∧ Srt M ∧ (∀ s, s ∈ M ↔ F s ≠ []) ∧ Rs w' w'.heap.size A (audF F M) ∧ Below w.heap.size w w' := by
  have hmf : ∀ (fn : Fn) (first cap : Array Value) (w : World), (Instr.makeFunc fn first cap).run Tryz.prog w = .ok (.func fn first cap) w := fun _ _ _ _ => rfl
  have hb1 := (Below.refl w.heap.size w).alloc (Nat.le_refl _) (.cells #[.slice none 0 0] 22)
  have HB1 := Lib.hid hb1
  have hc1 : (w.alloc (.cells #[.slice none 0 0] 22)).heap[w.heap.size]? = some (.cells #[.slice none 0 0] 22 (0, 0)) := heap_alloc_new w _
  have HR := Lib.hid (live1_r _ base w.heap.size pm b k F (hG.below hb1 (.inl rfl)) hc1 (keep_of_below hb1 hpm) hk hF hFl hFn (by simp; omega))
  clear hG hb1 hc1 hpm
  go_enter Tryz.func28, Tryz.ntmps28
  go_wp2_with (first
    | (go_at_call 29; refine HR.out.mono ?_; rintro e w2 ⟨rfl, A2, c2, M, hS, hK, hc2, hR2, hk2⟩)
    | go_in)
  have HR2 := Lib.hid hR2
  have HK2 := Lib.hid hk2
  have HS2 := Lib.hid (And.intro hS hK)
  clear hR2 hk2 HR hS hK
  go_wp2
  go_ret
  exact ⟨A2, c2, M, rfl, HS2.out.1, HS2.out.2, HR2.out, HB1.out.trans (HK2.out.below (by simp) (fun k e => by omega))⟩
end Go.Proofs.YtdinloecgaapaaaGreatDoor
