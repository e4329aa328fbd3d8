/- audit.Live: the boxes that stand in live bills of several registers. -/
import Derived.Test.YtdinloecgaapaaaGreatDoorRAud1
import Derived.Deep.AppendLies
import Derived.Deep.RegionHeld3
namespace Go.Proofs.YtdinloecgaapaaaGreatDoor
open Go.RowKit Go.Maps Go.Lib Go.Sort
set_option linter.unusedVariables false
set_option maxRecDepth 100000

/-- a register whose bills are P -/
def RegB (w : World) (r : Nat) (P : List Bl) : Prop := ∃ base N b n ca G S, RgS w base r ca N b n G S ∧ n ≤ 41 ∧ ∀ s, liveB P s = true ↔ anyB G S (livE s)
theorem RegB.below {w w' : World} {r : Nat} {P : List Bl} (h : RegB w r P) (hb : Below w.heap.size w w') : RegB w' r P := by
  obtain ⟨base, N, b, n, ca, G, S, h1, h2⟩ := h
  exact ⟨base, N, b, n, ca, G, S, h1.below hb, h2⟩
/-- what audit's function tells of such a register -/
theorem RegB.boxes {w : World} {r : Nat} {P : List Bl} (h : RegB w r P) : Calls Tryz.prog 27 #[.pointer (some ⟨r, 0, none⟩)] w fun e w' =>
    ∃ A c keys, e = .returned (.slice A (List.length keys) c) ∧ Srt keys ∧ (∀ t, t ∈ keys ↔ liveB P t = true) ∧ keys.length ≤ 2624 ∧ (∀ t ∈ keys, t.size ≤ 16) ∧ Ow w' w.heap.size (.slice A keys.length c) keys ∧ Below w.heap.size w w' := by
  obtain ⟨base, N, b, n, ca, G, S, h1, h2, h3⟩ := h
  refine (liveBoxes_r base r N b n ca G S w h1 (by omega)).mono ?_
  rintro e w' ⟨A, c, keys, rfl, q1, q2, q3, q4, q5, q6⟩
  exact ⟨A, c, keys, rfl, q1, fun t => (q2 t).trans (h3 t).symm, by omega, q4, q5, q6⟩
/-- a slice of registers -/
def Rp (w : World) (B : Nat) (A : Option Addr) (rs : List Nat) : Prop :=
  0 < rs.length → ∃ g, A = some ⟨g, 0, none⟩ ∧ g < B ∧ ∀ (i : Nat) r, rs[i]? = some r → w.cell? ⟨g, i, none⟩ = some (.pointer (some ⟨r, 0, none⟩))
theorem Rp.below {w w' : World} {B : Nat} {A : Option Addr} {rs : List Nat} (h : Rp w B A rs) (hb : Below B w w') : Rp w' B A rs := fun hl => by
  obtain ⟨g, e, hg, hc⟩ := h hl
  exact ⟨g, e, hg, fun i r hr => (hb.cell (p := ⟨g, _, none⟩) hg).trans (hc i r hr)⟩
theorem Rp.at_ {w : World} {B : Nat} {A : Option Addr} {rs : List Nat} (h : Rp w B A rs) {k : Nat} (hk : k < rs.length) : ∃ g, A = some ⟨g, 0, none⟩ ∧ g < B ∧ w.cell? ⟨g, k, none⟩ = some (.pointer (some ⟨rs[k], 0, none⟩)) := by
  obtain ⟨g, e, hg, hc⟩ := h (by omega)
  exact ⟨g, e, hg, hc k _ (List.getElem?_eq_getElem hk)⟩
/-- the groups, the names of a further register laid at the first of its boxes -/
def inM (N : List ByteArray) (P : List (List Bl)) (k : Nat) (nm : ByteArray) (keys : List ByteArray) (m : Nat) : ByteArray → List ByteArray := fun s => if inS (keys.take m) s = true then inK N P s k ++ [nm] else inK N P s k
theorem srt_nodup {M : List ByteArray} (h : Srt M) (k : Nat) (hk : k < M.length) : M[k] ∉ M.take k := by
  intro hm
  obtain ⟨j, hj, e⟩ := List.getElem_of_mem hm
  rw [List.length_take] at hj
  rw [List.getElem_take] at e
  have h2 := List.pairwise_iff_getElem.1 h j k (by omega) hk (by omega)
  rw [e, ltS_irrefl] at h2
  cases h2
theorem inM_step (N : List ByteArray) (P : List (List Bl)) (k : Nat) (nm : ByteArray) (keys : List ByteArray) (m : Nat) (h : Srt keys) (hm : m < keys.length) : inM N P k nm keys m keys[m] = inK N P keys[m] k ∧ (fun y => if y = keys[m] then inM N P k nm keys m keys[m] ++ [nm] else inM N P k nm keys m y) = inM N P k nm keys (m + 1) := by
  have h1 : inM N P k nm keys m keys[m] = inK N P keys[m] k := by
    unfold inM
    rw [if_neg (fun e => srt_nodup h m hm ((inS_iff _ _).1 e))]
  refine ⟨h1, ?_⟩
  funext y
  rw [h1]
  unfold inM
  rw [List.take_succ_eq_append_getElem hm]
  by_cases e : y = keys[m]
  · rw [if_pos e, if_pos ((inS_iff _ _).2 (List.mem_append.2 (.inr (List.mem_singleton.2 e)))), e]
  · rw [if_neg e]
    by_cases e2 : y ∈ keys.take m
    · rw [if_pos ((inS_iff _ _).2 e2), if_pos ((inS_iff _ _).2 (List.mem_append.2 (.inl e2)))]
    · rw [if_neg (fun h => e2 ((inS_iff _ _).1 h)), if_neg (fun h => (List.mem_append.1 ((inS_iff _ _).1 h)).elim e2 (fun h => e (List.mem_singleton.1 h)))]
theorem inM_end (N : List ByteArray) (P : List (List Bl)) (k : Nat) (keys : List ByteArray) (h1 : k < N.length) (h2 : k < P.length) (hk : ∀ t, t ∈ keys ↔ liveB P[k] t = true) (m : Nat) (hm : keys.length ≤ m) : inM N P k N[k] keys m = fun s => inK N P s (k + 1) := by
  funext s
  unfold inM
  rw [List.take_of_length_le hm, inK_step N P s k h1 h2]
  by_cases e : s ∈ keys
  · rw [if_pos ((inS_iff _ _).2 e), if_pos ((hk s).1 e)]
  · rw [if_neg (fun h => e ((inS_iff _ _).1 h)), if_neg (fun h => e ((hk s).2 h))]
    simp
theorem inM_zero (N : List ByteArray) (P : List (List Bl)) (k : Nat) (nm : ByteArray) (keys : List ByteArray) : inM N P k nm keys 0 = fun s => inK N P s k := by
  funext s
  simp [inM, inS]
theorem inK_zero (N : List ByteArray) (P : List (List Bl)) : (fun s => inK N P s 0) = fun _ => [] := by
  funext s
  simp [inK]

set_option maxHeartbeats 4000000 in
theorem auditLive_r (N : List ByteArray) (NA : Option Addr) (nc : Nat) (rs : List Nat) (RA : Option Addr) (rc : Nat) (P : List (List Bl)) (w : World) (hN : Rs w w.heap.size NA N) (hR : Rp w w.heap.size RA rs) (hNR : N.length = rs.length) (hPR : P.length = rs.length) (h6 : rs.length ≤ 6) (hNs : ∀ n ∈ N, n.size ≤ 1048576)
    (hB : ∀ (i : Nat) r, rs[i]? = some r → ∃ p, P[i]? = some p ∧ RegB w r p) (hPs : ∀ p ∈ P, ∀ s, liveB p s = true → s.size ≤ 16) :
    Calls Tryz.prog 10 #[.slice NA N.length nc, .slice RA rs.length rc] w fun e w' => ∃ A c M, Srt M ∧ (∀ s, s ∈ M ↔ inN N P s ≠ []) ∧ e = .returned (.slice A (audLive N P M).length c) ∧ Rs w' w'.heap.size A (audLive N P M) ∧ Below w.heap.size w w' := by
  obtain ⟨i0, hi0, hy0, hy1, hy2⟩ := info_parts str_info
  have hmm := @run_makeMap Tryz.prog
  have hmf : ∀ (fn : Fn) (first cap : Array Value) (w : World), (Instr.makeFunc fn first cap).run Tryz.prog w = .ok (.func fn first cap) w := fun _ _ _ _ => rfl
  have HNm := Lib.hid hN
  have HRp := Lib.hid hR
  have HNs := Lib.hid hNs
  have HNR := Lib.hid hNR
  have HPR := Lib.hid hPR
  have HBr := Lib.hid hB
  have HPs := Lib.hid hPs
  have hn6 : N.length ≤ 6 := by omega
  generalize hCP : (fun (e : Ending) (w' : World) => ∃ A c M, Srt M ∧ (∀ s, s ∈ M ↔ inN N P s ≠ []) ∧ e = .returned (.slice A (audLive N P M).length c) ∧ Rs w' w'.heap.size A (audLive N P M) ∧ Below w.heap.size w w') = CP
  have HF : Hid (∀ A c M w', Srt M → (∀ s, s ∈ M ↔ inN N P s ≠ []) → Rs w' w'.heap.size A (audLive N P M) → Below w.heap.size w w' → CP (.returned (.slice A (audLive N P M).length c)) w') := Lib.hid fun A c M w' h1 h2 h3 h4 => by rw [← hCP]; exact ⟨A, c, M, h1, h2, rfl, h3, h4⟩
  clear hN hR hNs hNR hPR hB hPs hCP
  have hmin : min (N.length : Int) (rs.length : Int) = (rs.length : Int) := by have := HNR.out; omega
  go_enter Tryz.func10, Tryz.ntmps10
  go_wp2_with fail
  have hb1 : Below w.heap.size w (w.alloc (.map #[] 0)) := (Below.refl _ _).alloc (Nat.le_refl _) _
  have hz1 : (w.alloc (.map #[] 0)).heap.size = w.heap.size + 1 := by simp
  have hal2 : Below (w.alloc (.map #[] 0)).heap.size (w.alloc (.map #[] 0)) ((w.alloc (.map #[] 0)).alloc (.cells #[.map (some w.heap.size)] 71)) := (Below.refl _ _).alloc (Nat.le_refl _) _
  have HG0 := Lib.hid (show Gp w.heap.size ((w.alloc (.map #[] 0)).alloc (.cells #[.map (some w.heap.size)] 71)) w.heap.size (2624 * 0) none (fun s => inK N P s 0) from by
    rw [inK_zero]
    exact (Gp.made w).below hal2 (.inl rfl))
  have HB0 := Lib.hid (hb1.trans (hal2.mono (by omega)))
  have hpm := heap_alloc_new (w.alloc (.map #[] 0)) (.cells #[.map (some w.heap.size)] 71)
  rw [hz1] at hpm
  have HP0 := Lib.hid hpm
  clear hb1 hal2 hpm hz1
  generalize (w.alloc (.map #[] 0)).alloc (.cells #[.map (some w.heap.size)] 71) = w1 at *
  go_loopw [15] (fun i wr => ∃ k : Nat, k ≤ rs.length ∧ i = .int .i64 k ∧ Hid (Gp w.heap.size wr w.heap.size (2624 * k) none (fun s => inK N P s k)) ∧ Hid (Below w.heap.size w wr) ∧ Hid (wr.heap[w.heap.size + 1]? = some (.cells #[.map (some w.heap.size)] 71 (0, 0)))) (fun i _ => rs.length - (RowKit.intOf i).toNat)
  case atStart => exact ⟨0, Nat.zero_le _, rfl, HG0, HB0, HP0⟩
  case round =>
    clear HG0 HB0 HP0
    obtain ⟨k, hk, rfl, HG, HB, HP⟩ := hrel
    by_cases hlt : k < rs.length
    · have hlt' : (k : Int) < (rs.length : Int) := by omega
      have hkN : k < N.length := by have := HNR.out; omega
      have hkP : k < P.length := by have := HPR.out; omega
      obtain ⟨gr, rfl, _, cr⟩ := (HRp.out.below HB.out).at_ hlt
      obtain ⟨p, hp, hrb⟩ := HBr.out k _ (List.getElem?_eq_getElem hlt)
      have hpe : P[k] = p := by rw [List.getElem?_eq_getElem hkP] at hp; exact Option.some.inj hp
      have HLb := Lib.hid (hrb.below HB.out).boxes
      clear hrb hp
      generalize rs[k] = r at *
      go_wp2_with fail
      refine HLb.out.mono ?_
      rintro e w5 ⟨KA, kc, keys, rfl, hS, hmem, hkl, hsz, hown, hb5⟩
      have HS := Lib.hid hS
      have HMe := Lib.hid (show ∀ t, t ∈ keys ↔ liveB P[k] t = true from by rw [hpe]; exact hmem)
      have HSz := Lib.hid hsz
      have hbs5 := Nat.le_trans HB.out.size hb5.size
      have HO5 := Lib.hid (ownsRow_base (Nat.zero_le _) hown)
      have HG5 := Lib.hid (show Gp w.heap.size w5 w.heap.size (2624 * k + 0) (Value.slice KA keys.length kc).ownBlock (inM N P k N[k] keys 0) from by
        rw [inM_zero]
        exact HG.out.below hb5 (.inr fun q hq => (hown.lt hq).1))
      have HB5 := Lib.hid (HB.out.trans (hb5.mono HB.out.size))
      have HP5 := Lib.hid (keep_of_below hb5 HP.out)
      have hkl' : (keys.length : Int) ≤ 2624 := by omega
      clear hS hmem hsz hown hb5 hpe HG HB HP HLb cr
      go_wp2_with fail
      go_loopw [24] (fun i wr => ∃ m : Nat, m ≤ keys.length ∧ i = .int .i64 m ∧ Hid (Gp w.heap.size wr w.heap.size (2624 * k + m) (Value.slice KA keys.length kc).ownBlock (inM N P k N[k] keys m)) ∧ Hid (Below w.heap.size w wr) ∧ Hid (wr.heap[w.heap.size + 1]? = some (.cells #[.map (some w.heap.size)] 71 (0, 0))) ∧ Hid (Ow wr 0 (.slice KA keys.length kc) keys)) (fun i _ => keys.length - (RowKit.intOf i).toNat)
      case atStart => exact ⟨0, Nat.zero_le _, rfl, HG5, HB5, HP5, HO5⟩
      case round =>
        clear HG5 HB5 HP5 HO5
        obtain ⟨m, hm, rfl, HG, HB, HP, HO⟩ := hrel
        by_cases hltm : m < keys.length
        · have hltm' : (m : Int) < (keys.length : Int) := by omega
          obtain ⟨A', c', he9, hsr9⟩ := sr_of_row rfl HO.out
          injection he9 with he9 _ he9c
          subst he9 he9c
          obtain ⟨g9, o9, e9, hg9, hc9⟩ := hsr9.rs.at_ hltm
          subst e9
          obtain ⟨gn, on, rfl, hgn0, hcn⟩ := (HNm.out.below HB.out).at_ hkN
          have hnz := HNs.out _ (List.getElem_mem hkN)
          have hs16 := HSz.out _ (List.getElem_mem hltm)
          obtain ⟨hst1, hst2⟩ := inM_step N P k N[k] keys m HS.out hltm
          have hfl := (inK_le N P keys[m] k).1
          obtain ⟨A0, c0, hlk, how, hdis, hstore⟩ := HG.out.at_ keys[m] (by omega) (by omega) HB.out.size (fun q hq => (HO.out.lt hq).2)
          rw [hst1] at hlk how hdis hstore hst2
          replace hstore := fun X w7 g7 cap7 => hstore X w7 g7 cap7 N[k]
          rw [hst2] at hstore
          have hpmr := HP.out
          have cm : wr.cell? ⟨w.heap.size + 1, 0, none⟩ = some (.map (some w.heap.size)) := cell_of hpmr 0
          obtain ⟨F1, hF1⟩ : ∃ F1, F1 = inM N P k N[k] keys (m + 1) := ⟨_, rfl⟩
          rw [← hF1] at hstore
          have HF1 := Lib.hid hF1
          have HW := Lib.hid hstore
          clear hF1
          have HOw := Lib.hid how
          have HDs := Lib.hid hdis
          have hbs := HB.out.size
          clear hstore hst1 hst2 hsr9 how hdis
          generalize inK N P keys[m] k = L0 at *
          generalize keys[m] = box at *
          generalize N[k] = nm at *
          go_wp2_with fail
          have hbd : Below wr.heap.size wr wr.drew := ⟨rfl, rfl, rfl, Nat.le_refl _, fun _ _ => rfl⟩
          have hal : Below wr.heap.size wr (wr.alloc (.cells #[.string nm] 9)).drew := ((Below.refl _ _).alloc (Nat.le_refl _) _).drew
          have hlD := hlk _ hbd
          have hlA := hlk _ hal
          have cmA : (wr.alloc (.cells #[.string nm] 9)).drew.cell? ⟨w.heap.size + 1, 0, none⟩ = some (.map (some w.heap.size)) := (show (wr.alloc (.cells #[.string nm] 9)).cell? ⟨w.heap.size + 1, 0, none⟩ = _ from Lib.cell?_alloc_some _ cm)
          have cnA : (wr.alloc (.cells #[.string nm] 9)).drew.cell? ⟨gn, on + k, none⟩ = some (.string nm) := (show (wr.alloc (.cells #[.string nm] 9)).cell? ⟨gn, on + k, none⟩ = _ from Lib.cell?_alloc_some _ hcn)
          have rowA : (wr.alloc (.cells #[.string nm] 9)).drew.ownsRow w.heap.size 9 1 (.slice A0 L0.length c0) L0.length (L0.map Value.string) := (show (wr.alloc (.cells #[.string nm] 9)).ownsRow w.heap.size 9 1 (.slice A0 L0.length c0) L0.length (L0.map Value.string) from (show wr.ownsRow w.heap.size 9 1 (.slice A0 L0.length c0) L0.length (L0.map Value.string) from HOw.out).alloc _)
          have hgn : gn < wr.heap.size := Nat.lt_of_lt_of_le hgn0 hbs
          have hgnw := hgn0
          have hpne : some (w.heap.size + 1) ≠ (Value.slice A0 L0.length c0).ownBlock := fun e => by
            obtain ⟨cs, hcs⟩ := row_blk HOw.out e.symm
            rw [hpmr] at hcs
            injection hcs with hcs
            injection hcs with _ h7 _
            exact absurd h7 (by decide)
          clear hlk
          go_region_held3 (fun w' => w'.cell? ⟨w.heap.size + 1, 0, none⟩ = some (.map (some w.heap.size)) ∧ w'.cell? ⟨gn, on + k, none⟩ = some (.string nm))
            (first | go_keep | exact ⟨cmA, cnA⟩ | exact ⟨cm8, cn8⟩ | exact ⟨cm7, cn7⟩)
            (first
              | (refine step_append_lies _ rfl (.tmp 32) (.tmp 37) 22 rfl w.heap.size 9 i0 _ 1 16 Tryz.underlying22 hi0 hy0 hy1 hy2 rfl (by decide) (.slice A0 L0.length c0) L0.length (L0.map Value.string) rfl rowA ⟨wr.heap.size, 0, none⟩ 1 1 [.string nm] rfl rfl (World.news_of_block (cs := #[.string nm]) (t := 9) (fr := (0, 0)) (show (wr.alloc (.cells #[.string nm] 9)).heap[wr.heap.size]? = _ from heap_alloc_new wr _)) (by simp [Value.oneCell']) (by decide) (by unfold maxLen; omega) (by omega) (Nat.le_trans hbs hal.size) (wr.heap.size + 1) (by simp) ?_; intro g7 cap7 w7 hown7 hg7 hloc7 hlt7; obtain ⟨w8, hst8, hgp8, hb8, hk8⟩ := HW.out _ w7 g7 cap7 hal hg7 (by unfold Ow; simpa using hown7) (hloc7.imp id (fun e => by omega)); have cm7 : w7.cell? ⟨w.heap.size + 1, 0, none⟩ = some (.map (some w.heap.size)) := cell_of (row_keep rowA hg7 (keep_of_below hal hpmr) (by decide)) 0; have cn7 : w7.cell? ⟨gn, on + k, none⟩ = some (.string nm) := (((hal.mono hbs).grown hg7 (Nat.le_trans hbs hal.size) (fun j hj => (rowA.lt j hj).1)).cell (p := ⟨gn, on + k, none⟩) hgn0).trans hcn; have hp8 := hk8 _ _ hpmr hpne (by omega); have cm8 : w8.cell? ⟨w.heap.size + 1, 0, none⟩ = some (.map (some w.heap.size)) := cell_of hp8 0; have cn8 : w8.cell? ⟨gn, on + k, none⟩ = some (.string nm) := (hb8.cell (p := ⟨gn, on + k, none⟩) hgn0).trans hcn))
          all_goals
            have HG8 := Lib.hid (show Gp w.heap.size w8 w.heap.size (2624 * k + (m + 1)) (Value.slice (some ⟨g9, o9, none⟩) keys.length kc).ownBlock (inM N P k nm keys (m + 1)) from by rw [← HF1.out]; exact hgp8)
            have HB8 := Lib.hid (HB.out.trans hb8)
            have HP8 := Lib.hid hp8
            have HO8 := Lib.hid (show Ow w8 0 (.slice (some ⟨g9, o9, none⟩) keys.length kc) keys from HO.out.keep fun q hq => by
              obtain ⟨cs, hcs⟩ := row_blk HO.out hq
              rw [hcs]
              refine hk8 q _ hcs (fun e => ?_) ?_
              · exact HDs.out q e.symm hq.symm
              · rintro rfl
                obtain ⟨es, ck, hmp⟩ := HG.out.isMap
                rw [hcs] at hmp
                cases hmp)
            clear hgp8 hb8 hp8 hk8 hst8 hown7 hg7 hloc7 cm7 cn7 cm8 cn8 cmA cnA rowA hlD hlA hal hbd HW HOw HDs HG HB HP HO cm hcn hpmr
            go_wp2_with fail
            exact ⟨⟨m + 1, by omega, by go_num, HG8, HB8, HP8, HO8⟩, by simp [RowKit.intOf]; omega⟩
        · have hltm' : ¬ (m : Int) < (keys.length : Int) := by omega
          have HG9 := Lib.hid (show Gp w.heap.size wr w.heap.size (2624 * (k + 1)) none (fun s => inK N P s (k + 1)) from by
            rw [← inM_end N P k keys hkN hkP HMe.out m (by omega)]
            exact (HG.out.below (Below.refl _ _) (.inr fun q hq => by cases hq)).more (by omega))
          clear HG
          go_wp2_with fail
          go_roundw
          case rel => exact ⟨k + 1, by omega, by go_num, HG9, HB, HP⟩
          case measure => simp [RowKit.intOf]; omega
    · have hlt' : ¬ (k : Int) < (rs.length : Int) := by omega
      have hFe : (fun s => inK N P s k) = fun s => inN N P s := by
        funext s
        refine inK_all _ _ _ _ ?_
        have := HNR.out
        have := HPR.out
        rw [List.length_zip]
        omega
      rw [hFe] at HG
      have hin : ∀ s, ∀ n ∈ inN N P s, n ∈ N := fun s n hn => by
        have h2 := (inK_le N P s k).2 n
        rw [show inK N P s k = inN N P s from congrFun hFe s] at h2
        exact h2 hn
      have hlen : ∀ s, (inN N P s).length ≤ 6 := fun s => by
        have h2 := (inK_le N P s k).1
        rw [show inK N P s k = inN N P s from congrFun hFe s] at h2
        omega
      have HC := Lib.hid (gatherL_r wr w.heap.size (w.heap.size + 1) w.heap.size (2624 * k) (fun s => inN N P s) HG.out HP.out (by omega) (fun s hs => by
        unfold inN at hs
        have hne : (N.zip P).filter (fun p => liveB p.2 s) ≠ [] := fun e => hs (by rw [e]; rfl)
        obtain ⟨p, hp⟩ := List.exists_mem_of_ne_nil _ hne
        obtain ⟨hp1, hp2⟩ := List.mem_filter.1 hp
        have := HPs.out p.2 (List.of_mem_zip hp1).2 s hp2
        omega) hlen (fun s n hn => HNs.out n (hin s n hn)) HB.out.size)
      clear hFe hin hlen HG HP HRp HNm HBr HPs HNs
      go_wp2_with fail
      refine HC.out.mono ?_
      rintro e w6 ⟨A6, c6, M, rfl, hS, hmem, hR6, hb6⟩
      have HF2 := Lib.hid (HF.out A6 c6 M w6 hS hmem hR6 (HB.out.trans (hb6.mono HB.out.size)))
      clear hS hmem hR6 hb6 HC HF HB
      go_wp2_with fail
      first
        | exact HF2.out
        | (go_ret; exact HF2.out)
end Go.Proofs.YtdinloecgaapaaaGreatDoor
