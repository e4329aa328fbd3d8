/- ref56.Live: the lines of several rows of bills. -/
import Derived.Test.YtdinloecgaapaaaGreatDoorMHNames
import Derived.Test.YtdinloecgaapaaaGreatDoorCPut
namespace Go.Proofs.YtdinloecgaapaaaGreatDoor
open Go.RowKit Go.Maps Go.Lib
set_option linter.unusedVariables false
set_option maxRecDepth 100000

/-- a row of bills, where it lies, its capacity -/
abbrev Brw := List Bm × Option Addr × Nat
/-- a slice of rows of bills -/
def Rbb (w : World) (B : Nat) (A : Option Addr) (R : List Brw) : Prop :=
  0 < R.length → ∃ g, A = some ⟨g, 0, none⟩ ∧ g < B ∧ ∀ (i : Nat) t, R[i]? = some t → w.cell? ⟨g, i, none⟩ = some (.slice t.2.1 t.1.length t.2.2) ∧ Rb w B t.2.1 t.1
section
variable {w w' : World} {B B' : Nat} {A : Option Addr} {R : List Brw}
theorem Rbb.below (h : Rbb w B A R) (hb : Below B w w') : Rbb w' B A R := fun hl => by
  obtain ⟨g, e, hg, hc⟩ := h hl
  exact ⟨g, e, hg, fun i t ht => ⟨(hb.cell (p := ⟨g, _, none⟩) hg).trans (hc i t ht).1, (hc i t ht).2.below hb⟩⟩
theorem Rbb.at_ (h : Rbb w B A R) {k : Nat} (hk : k < R.length) : ∃ g, A = some ⟨g, 0, none⟩ ∧ g < B ∧ w.cell? ⟨g, k, none⟩ = some (.slice R[k].2.1 R[k].1.length R[k].2.2) ∧ Rb w B R[k].2.1 R[k].1 := by
  obtain ⟨g, e, hg, hc⟩ := h (by omega)
  exact ⟨g, e, hg, hc k _ (List.getElem?_eq_getElem hk)⟩
end
theorem puts_len (l : List ByteArray) : ∀ M, (putsB M l).length ≤ M.length + l.length := by
  induction l with
  | nil => intro M; simp [putsB]
  | cons x l ih =>
    intro M
    have h1 := ih (putS M x)
    have h2 := putS_len M x
    show (putsB (putS M x) l).length ≤ _
    rw [List.length_cons]
    omega
theorem puts_app (M a b : List ByteArray) : putsB M (a ++ b) = putsB (putsB M a) b := by
  unfold putsB
  rw [List.foldl_append]
/-- all boxes of a row of bills -/
def boxL (L : List Bm) : List ByteArray := L.flatMap fun m => m.x.l
theorem boxL_step (L : List Bm) (k : Nat) (h : k < L.length) : boxL (L.take (k + 1)) = boxL (L.take k) ++ L[k].x.l := by
  rw [List.take_succ_eq_append_getElem h]
  unfold boxL
  rw [List.flatMap_append]
  simp
theorem take_step (l : List ByteArray) (k : Nat) (h : k < l.length) : l.take (k + 1) = l.take k ++ [l[k]] := List.take_succ_eq_append_getElem h
def rowL (R : List Brw) : List ByteArray := R.flatMap fun t => boxL t.1
theorem rowL_step (R : List Brw) (k : Nat) (h : k < R.length) : rowL (R.take (k + 1)) = rowL (R.take k) ++ boxL R[k].1 := by
  rw [List.take_succ_eq_append_getElem h]
  unfold rowL
  rw [List.flatMap_append]
  simp
def plain (R : List Brw) : List (List Bl) := R.map fun t => t.1.map Bm.bl
theorem rowL_plain (R : List Brw) : putsB [] (rowL R) = boxesB (plain R) := by
  have key : (fun t : Brw => boxL t.1) = fun t : Brw => (t.1.map Bm.bl).flatMap (·.l) := by
    funext t
    rw [List.flatMap_map]
    rfl
  unfold boxesB plain rowL
  rw [List.flatMap_map, key]
/-- the rows are small -/
structure RbOk (R : List Brw) : Prop where
  n : R.length ≤ 6
  l : ∀ t ∈ R, t.1.length ≤ 41
  b : ∀ t ∈ R, ∀ m ∈ t.1, m.x.l.length ≤ 64 ∧ ∀ s ∈ m.x.l, s.size ≤ 16
theorem doc_snoc (s : ByteArray) (ns : List ByteArray) (n : ByteArray) : docLine s (ns ++ [n]) = docLine s ns ++ (⟨#[32]⟩ : ByteArray) ++ n := by
  unfold docLine
  rw [List.foldl_append]
  rfl
theorem doc_size (ns : List ByteArray) (h : ∀ n ∈ ns, n.size ≤ 1048576) : ∀ s, (docLine s ns).size ≤ s.size + 1048577 * ns.length := by
  induction ns with
  | nil => intro s; simp [docLine]
  | cons n ns ih =>
    intro s
    have h1 := ih (fun x hx => h x (List.mem_cons_of_mem _ hx)) (s ++ (⟨#[32]⟩ : ByteArray) ++ n)
    have h2 := h n (List.mem_cons_self ..)
    show (docLine (s ++ (⟨#[32]⟩ : ByteArray) ++ n) ns).size ≤ _
    rw [ByteArray.size_append, ByteArray.size_append] at h1
    have h3 : (⟨#[32]⟩ : ByteArray).size = 1 := rfl
    rw [List.length_cons]
    omega
/-- the names of the first registers where a box is live -/
def inK (N : List ByteArray) (R : List (List Bl)) (s : ByteArray) (k : Nat) : List ByteArray := (((N.zip R).take k).filter fun p => liveB p.2 s).map (·.1)
theorem inK_step (N : List ByteArray) (R : List (List Bl)) (s : ByteArray) (k : Nat) (h : k < N.length) (h2 : k < R.length) : inK N R s (k + 1) = inK N R s k ++ (if liveB R[k] s then [N[k]] else []) := by
  have hz : k < (N.zip R).length := by rw [List.length_zip]; omega
  unfold inK
  rw [List.take_succ_eq_append_getElem hz, List.filter_append, List.map_append, List.getElem_zip]
  congr 1
  by_cases e : liveB R[k] s = true
  · rw [e]; simp [List.filter, e]
  · rw [Bool.not_eq_true] at e
    rw [e]; simp [List.filter, e]
theorem inK_all (N : List ByteArray) (R : List (List Bl)) (s : ByteArray) (k : Nat) (h : (N.zip R).length ≤ k) : inK N R s k = inN N R s := by
  unfold inK inN
  rw [List.take_of_length_le h]
theorem inK_le (N : List ByteArray) (R : List (List Bl)) (s : ByteArray) (k : Nat) : (inK N R s k).length ≤ k ∧ ∀ n ∈ inK N R s k, n ∈ N := by
  unfold inK
  constructor
  · rw [List.length_map]
    refine Nat.le_trans (List.length_filter_le _ _) ?_
    simp
    omega
  · intro n hn
    obtain ⟨p, hp, rfl⟩ := List.mem_map.1 hn
    have := (List.mem_filter.1 hp).1
    exact (List.of_mem_zip (List.mem_of_mem_take this)).1
/-- the lines of the first boxes -/
def docT (N : List ByteArray) (R : List (List Bl)) (M : List ByteArray) : List ByteArray := (M.filter fun s => decide (1 < (inN N R s).length)).map fun s => docLine s (inN N R s)
theorem docT_step (N : List ByteArray) (R : List (List Bl)) (M : List ByteArray) (k : Nat) (h : k < M.length) : docT N R (M.take (k + 1)) = docT N R (M.take k) ++ (if 1 < (inN N R M[k]).length then [docLine M[k] (inN N R M[k])] else []) := by
  rw [List.take_succ_eq_append_getElem h]
  unfold docT
  rw [List.filter_append, List.map_append]
  congr 1
  by_cases e : 1 < (inN N R M[k]).length
  · rw [if_pos e]; simp [List.filter, e]
  · rw [if_neg e]; simp [List.filter, e]
theorem docT_len (N : List ByteArray) (R : List (List Bl)) (M : List ByteArray) : (docT N R M).length ≤ M.length := by
  unfold docT
  rw [List.length_map]
  exact List.length_filter_le _ _

set_option maxHeartbeats 4000000 in
theorem refLive_r (N : List ByteArray) (NA : Option Addr) (nc : Nat) (R : List Brw) (RA : Option Addr) (rc : Nat) (w : World) (hN : Rs w w.heap.size NA N) (hR : Rbb w w.heap.size RA R) (hNR : N.length = R.length) (hO : RbOk R) (hNs : ∀ n ∈ N, n.size ≤ 1048576) :
    Calls Tryz.prog 11 #[.slice NA N.length nc, .slice RA R.length rc] w fun e w' => ∃ A c, e = .returned (.slice A (docLive N (plain R)).length c) ∧ Rs w' w'.heap.size A (docLive N (plain R)) ∧ Below w.heap.size w w' := by
  obtain ⟨i0, hi0, hy0, hy1, hy2⟩ := info_parts str_info
  have HNm := Lib.hid hN
  have HR := Lib.hid hR
  have HO := Lib.hid hO
  have HNs := Lib.hid hNs
  have hR6 := hO.n
  have HNR := Lib.hid hNR
  clear hN hR hO hNs hNR
  generalize hCP : (fun (e : Ending) (w' : World) => ∃ A c, e = .returned (.slice A (docLive N (plain R)).length c) ∧ Rs w' w'.heap.size A (docLive N (plain R)) ∧ Below w.heap.size w w') = CP
  have HF : Hid (∀ A c w' D, D = docLive N (plain R) → Rs w' w'.heap.size A D → Below w.heap.size w w' → CP (.returned (.slice A D.length c)) w') := Lib.hid fun A c w' D hD h1 h2 => by subst hD; rw [← hCP]; exact ⟨A, c, rfl, h1, h2⟩
  clear hCP
  go_enter Tryz.func11, Tryz.ntmps11
  go_wp2_with fail
  have HR0 := Lib.hid (show Rw (w.alloc (.cells #[] 9)) 0 w.heap.size 0 [] from ownsRow_base (Nat.zero_le _) (World.ownsRow_made w #[] 0 (Nat.le_refl _) (Nat.zero_le _) rfl))
  have HB0 := Lib.hid ((Below.refl w.heap.size w).alloc (Nat.le_refl _) (.cells #[] 9))
  generalize w.alloc (.cells #[] 9) = w1 at *
  go_loopw [5, 6] (fun v i wr => ∃ (k g cap : Nat) (M : List ByteArray), k ≤ R.length ∧ i = .int .i64 k ∧ v = .slice (some ⟨g, 0, none⟩) M.length cap ∧ M.length ≤ 2624 * k ∧ Hid (M = putsB [] (rowL (R.take k))) ∧ Hid (Rw wr 0 g cap M) ∧ Hid (Below w.heap.size w wr)) (fun _ i _ => R.length - (intOf i).toNat)
  case atStart => exact ⟨0, _, _, [], Nat.zero_le _, rfl, rfl, Nat.zero_le _, Lib.hid rfl, HR0, HB0⟩
  case round =>
    clear HR0 HB0
    obtain ⟨k, g, cap, M, hk, rfl, rfl, hMl, HM, HRw, HB⟩ := hrel
    by_cases hlt : k < R.length
    · have hlt' : (k : Int) < (R.length : Int) := by omega
      have hRk := HO.out.l _ (List.getElem_mem hlt)
      have HBk := Lib.hid (HO.out.b _ (List.getElem_mem hlt))
      have HSt := Lib.hid (rowL_step R k hlt)
      have HX : Hid (∀ X, Below w.heap.size w X → ∃ ga, RA = some ⟨ga, 0, none⟩ ∧ X.cell? ⟨ga, k, none⟩ = some (.slice R[k].2.1 R[k].1.length R[k].2.2) ∧ Rb X w.heap.size R[k].2.1 R[k].1) := Lib.hid (fun X hX => by
        obtain ⟨ga, e, _, h1, h2⟩ := (HR.out.below hX).at_ hlt
        exact ⟨ga, e, h1, h2⟩)
      generalize R[k] = T at *
      obtain ⟨L, LA, lc⟩ := T
      simp only at hRk HBk HSt HX
      obtain ⟨ga, rfl, _, _⟩ := HX.out _ HB.out
      go_wp2_with fail
      go_loopw [5, 7] (fun v i wr => ∃ (q g cap : Nat) (M2 : List ByteArray), q ≤ L.length ∧ i = .int .i64 q ∧ v = .slice (some ⟨g, 0, none⟩) M2.length cap ∧ M2.length ≤ 2624 * k + 64 * q ∧ Hid (M2 = putsB M (boxL (L.take q))) ∧ Hid (Rw wr 0 g cap M2) ∧ Hid (Below w.heap.size w wr)) (fun _ i _ => L.length - (intOf i).toNat)
      case atStart => exact ⟨0, _, _, M, Nat.zero_le _, rfl, rfl, by omega, Lib.hid rfl, HRw, HB⟩
      case round =>
        clear HRw HB
        obtain ⟨q, g2, cap2, M2, hq, rfl, rfl, hM2l, HM2, HRw, HB⟩ := hrel
        obtain ⟨ga', e', c1, hLb⟩ := HX.out _ HB.out
        cases e'
        by_cases hltq : q < L.length
        · have hltq' : (q : Int) < (L.length : Int) := by omega
          have HSt2 := Lib.hid (boxL_step L q hltq)
          have hb64 := HBk.out _ (List.getElem_mem hltq)
          have HX2 : Hid (∀ X, Below w.heap.size w X → ∃ gl, LA = some ⟨gl, 0, none⟩ ∧ X.cell? ⟨ga, k, none⟩ = some (.slice LA L.length lc) ∧ X.cell? ⟨gl, q * 3, none⟩ = some (.slice L[q].A L[q].x.l.length L[q].c) ∧ Rs X w.heap.size L[q].A L[q].x.l) := Lib.hid (fun X hX => by
            obtain ⟨ga', e', c1, hLb⟩ := HX.out X hX
            cases e'
            obtain ⟨gl, e2, _, d0, _, hrs⟩ := hLb.at_ hltq
            exact ⟨gl, e2, c1, d0, hrs⟩)
          clear hLb c1
          generalize L[q] = m at *
          obtain ⟨mk, x, mA, mc, mO, moc⟩ := m
          simp only at hb64 HX2 HSt2
          obtain ⟨hb64, _⟩ := hb64
          generalize x.l = xl at *
          obtain ⟨gl, rfl, c1, c2, _⟩ := HX2.out _ HB.out
          go_wp2_with fail
          clear c1 c2
          go_loopw [5, 8] (fun v i wr => ∃ (j g cap : Nat) (M3 : List ByteArray), j ≤ xl.length ∧ i = .int .i64 j ∧ v = .slice (some ⟨g, 0, none⟩) M3.length cap ∧ M3.length ≤ 2624 * k + 64 * q + j ∧ Hid (M3 = putsB M2 (xl.take j)) ∧ Hid (Rw wr 0 g cap M3) ∧ Hid (Below w.heap.size w wr)) (fun _ i _ => xl.length - (intOf i).toNat)
          case atStart => exact ⟨0, _, _, M2, Nat.zero_le _, rfl, rfl, by omega, Lib.hid rfl, HRw, HB⟩
          case round =>
            clear HRw HB
            obtain ⟨j, g3, cap3, M3, hj, rfl, rfl, hM3l, HM3, HRw, HB⟩ := hrel
            obtain ⟨gl', e', c1, c2, hrs⟩ := HX2.out _ HB.out
            cases e'
            by_cases hltj : j < xl.length
            · have hltj' : (j : Int) < (xl.length : Int) := by omega
              obtain ⟨gt, ot, rfl, _, ct⟩ := hrs.at_ hltj
              have HSt3 := Lib.hid (take_step xl j hltj)
              generalize xl[j] = t at *
              have HP := Lib.hid (put_any M3 t g3 cap3 0 wr HRw.out (by omega))
              have hpl := putS_len M3 t
              go_wp2_with fail
              refine HP.out.mono ?_
              rintro e w2 ⟨g4, c4, rfl, hr4, hb4⟩
              have HR4 := Lib.hid hr4
              have HB4 := Lib.hid (HB.out.trans (hb4.mono HB.out.size))
              clear hr4 hb4 HRw HB HP c1 c2 ct
              go_wp2_with fail
              go_roundw
              case rel => exact ⟨j + 1, g4, c4, _, by omega, by go_num, rfl, by omega, Lib.hid (by rw [HSt3.out, puts_snoc, ← HM3.out]), HR4, HB4⟩
              case measure => simp [intOf]; omega
            · have hltj' : ¬ (j : Int) < (xl.length : Int) := by omega
              have hje : xl.take j = xl := List.take_of_length_le (by omega)
              go_wp2_with fail
              go_roundw
              case rel => exact ⟨q + 1, g3, cap3, M3, by omega, by go_num, rfl, by omega, Lib.hid (by rw [HSt2.out, puts_app, ← HM2.out, HM3.out, hje]), HRw, HB⟩
              case measure => simp [intOf]; omega
        · have hltq' : ¬ (q : Int) < (L.length : Int) := by omega
          have hqe : L.take q = L := List.take_of_length_le (by omega)
          go_wp2_with fail
          go_roundw
          case rel => exact ⟨k + 1, g2, cap2, M2, by omega, by go_num, rfl, by omega, Lib.hid (by rw [HSt.out, puts_app, ← HM.out, HM2.out, hqe]), HRw, HB⟩
          case measure => simp [intOf]; omega
    · have hlt' : ¬ (k : Int) < (R.length : Int) := by omega
      have hke : R.take k = R := List.take_of_length_le (by omega)
      have HM' := Lib.hid (show M = boxesB (plain R) from by rw [HM.out, hke, rowL_plain])
      clear HM hke
      have hMN : M.length ≤ 15744 := by omega
      have hMs : ∀ s ∈ M, s.size ≤ 16 := by
        intro s hs
        rw [HM'.out] at hs
        obtain ⟨L, hL, b, hb, hsb⟩ := ((boxes_srt (plain R)).2 s).1 hs
        obtain ⟨T, hT, rfl⟩ := List.mem_map.1 hL
        obtain ⟨m, hm, rfl⟩ := List.mem_map.1 hb
        exact (HO.out.b T hT m hm).2 s hsb
      have HMs := Lib.hid hMs
      clear hMs hMl
      go_wp2_with fail
      clear hk hlt hlt'
      have HS0 := Lib.hid (show Rw (wr.alloc (.cells #[] 9)) wr.heap.size wr.heap.size 0 [] from World.ownsRow_made wr #[] 0 (Nat.le_refl _) (Nat.zero_le _) rfl)
      have HB0 := Lib.hid ((Below.refl wr.heap.size wr).alloc (Nat.le_refl _) (.cells #[] 9))
      obtain ⟨wq, rfl⟩ : ∃ wq : World, wq = wr := ⟨_, rfl⟩
      generalize wq.alloc (.cells #[] 9) = w3 at *
      have HPl : Hid ((plain R).length = R.length) := Lib.hid (by simp [plain])
      go_loopw [9, 10] (fun v i wx => ∃ (k2 g2 cap2 : Nat) (out : List ByteArray), k2 ≤ M.length ∧ i = .int .i64 k2 ∧ v = .slice (some ⟨g2, 0, none⟩) out.length cap2 ∧ out.length ≤ k2 ∧ Hid (out = docT N (plain R) (M.take k2)) ∧ Hid (Rw wx wq.heap.size g2 cap2 out) ∧ Hid (Below wq.heap.size wq wx)) (fun _ i _ => M.length - (intOf i).toNat)
      case atStart => exact ⟨0, _, 0, [], Nat.zero_le _, rfl, rfl, Nat.zero_le _, Lib.hid rfl, HS0, HB0⟩
      case round =>
        clear HS0 HB0
        obtain ⟨k2, g2, cap2, out, hk2, rfl, rfl, hol, Hout, HRo, HBo⟩ := hrel
        by_cases h2 : k2 < M.length
        · have h2' : (k2 : Int) < (M.length : Int) := by omega
          have Hcid : Hid (∀ X, Below wq.heap.size wq X → X.cell? ⟨g, k2, none⟩ = some (.string M[k2])) := Lib.hid (fun X hX => by
            rw [(HRw.out.below hX).cellAt k2 (by omega)]
            simp [h2])
          have hs16 := HMs.out _ (List.getElem_mem h2)
          have HDs := Lib.hid (docT_step N (plain R) M k2 h2)
          generalize M[k2] = s at *
          have ci := Hcid.out _ HBo.out
          go_wp2_with fail
          clear ci
          go_loopw [11, 12, 13] (fun nn sv i wx => ∃ k3 : Nat, k3 ≤ R.length ∧ i = .int .i64 k3 ∧ nn = .int .i64 (((inK N (plain R) s k3).length : Nat) : Int) ∧ sv = .string (docLine s (inK N (plain R) s k3)) ∧ Hid (Rw wx wq.heap.size g2 cap2 out) ∧ Hid (Below wq.heap.size wq wx)) (fun _ _ i _ => R.length - (intOf i).toNat)
          case atStart => exact ⟨0, Nat.zero_le _, rfl, by simp [inK], by simp [inK, docLine], HRo, HBo⟩
          case round =>
            clear HRo HBo
            obtain ⟨k3, hk3, rfl, rfl, rfl, HRo, HBo⟩ := hrel
            have hil := (inK_le N (plain R) s k3).1
            have hds := doc_size (inK N (plain R) s k3) (fun n hn => HNs.out n ((inK_le N (plain R) s k3).2 n hn)) s
            by_cases h3 : k3 < R.length
            · have h3' : (k3 : Int) < (R.length : Int) := by omega
              have h3n : (k3 : Int) < (N.length : Int) := by have := HNR.out; omega
              have h3N : k3 < N.length := by have := HNR.out; omega
              have HW : Hid (∀ X, Below wq.heap.size wq X → Below w.heap.size w X) := Lib.hid (fun X hX => HB.out.trans (hX.mono HB.out.size))
              have HX : Hid (∀ X, Below wq.heap.size wq X → ∃ ga, RA = some ⟨ga, 0, none⟩ ∧ X.cell? ⟨ga, k3, none⟩ = some (.slice R[k3].2.1 R[k3].1.length R[k3].2.2) ∧ Rb X X.heap.size R[k3].2.1 R[k3].1) := Lib.hid (fun X hX => by
                obtain ⟨ga, e, _, c1, c2⟩ := (HR.out.below (HW.out X hX)).at_ h3
                exact ⟨ga, e, c1, c2.more (HW.out X hX).size⟩)
              obtain ⟨ga, rfl, hcx, _⟩ := HX.out _ HBo.out
              obtain ⟨gn, on, rfl, _, hcn⟩ := (HNm.out.below (HW.out _ HBo.out)).at_ h3N
              have hns := HNs.out _ (List.getElem_mem h3N)
              have hL41 := HO.out.l _ (List.getElem_mem h3)
              have hL64 : ∀ m ∈ R[k3].1, m.x.l.length ≤ 64 := fun m hm => (HO.out.b _ (List.getElem_mem h3) m hm).1
              have HLv : Hid (∀ X, Below wq.heap.size wq X → Calls Tryz.prog 33 #[.slice R[k3].2.1 R[k3].1.length R[k3].2.2, .string s] X fun e w' => e = .returned (.bool (liveB (R[k3].1.map Bm.bl) s)) ∧ Below X.heap.size X w') := Lib.hid (fun X hX => by
                obtain ⟨_, _, _, hrb⟩ := HX.out X hX
                exact live_r R[k3].1 s R[k3].2.1 R[k3].2.2 X hrb (by omega) hL64)
              have HKs := Lib.hid (inK_step N (plain R) s k3 h3N (by rw [HPl.out]; exact h3))
              have hpl : (plain R)[k3]'(by rw [HPl.out]; exact h3) = R[k3].1.map Bm.bl := by simp [plain]
              rw [hpl] at HKs
              have HCn : Hid (∀ X, Below wq.heap.size wq X → X.cell? ⟨gn, on + k3, none⟩ = some (.string N[k3])) := Lib.hid (fun X hX => by
                obtain ⟨gn', on', e, _, h⟩ := (HNm.out.below (HW.out X hX)).at_ h3N
                cases e
                exact h)
              clear hcn hL64 hpl
              generalize N[k3] = nm at *
              generalize liveB (R[k3].1.map Bm.bl) s = lv at *
              generalize R[k3] = T at *
              obtain ⟨L3, LA3, lc3⟩ := T
              simp only at hcx HX HLv hL41
              have ci := Hcid.out _ HBo.out
              have HBd := Lib.hid (show Below wq.heap.size wq wr.drew from HBo.out.trans ⟨rfl, rfl, rfl, Nat.le_refl _, fun _ _ => rfl⟩)
              have HIl := Lib.hid hil
              have HDl := Lib.hid hds
              have HE : Hid ((lv = true → (inK N (plain R) s (k3 + 1)).length = (inK N (plain R) s k3).length + 1 ∧ docLine s (inK N (plain R) s (k3 + 1)) = docLine s (inK N (plain R) s k3) ++ (⟨#[32]⟩ : ByteArray) ++ nm) ∧ (lv = false → inK N (plain R) s (k3 + 1) = inK N (plain R) s k3)) := Lib.hid ⟨fun h => by
                rw [HKs.out, h, if_pos rfl, List.length_append, doc_snoc]
                exact ⟨rfl, rfl⟩, fun h => by rw [HKs.out, h]; simp⟩
              have hdz : (docLine s (inK N (plain R) s k3)).size ≤ 7000000 := by omega
              clear HKs hil hds HDl
              generalize inK N (plain R) s k3 = I0 at *
              obtain ⟨dl, hdl⟩ : ∃ dl, dl = docLine s I0 := ⟨_, rfl⟩
              obtain ⟨il, hil⟩ : ∃ il, il = I0.length := ⟨_, rfl⟩
              rw [← hil] at HIl HE
              rw [← hdl] at HE hdz
              rw [← hdl, ← hil]
              have HQ := Lib.hid (And.intro hdl hil)
              clear hdl hil
              have hI6 := HIl.out
              have q3 : IntKind.i64.wrap ((il : Int) + 1) = (il : Int) + 1 := IntWalk.i64_in _ (by omega)
              go_wp2_with fail
              go_region_held3 (fun w' => w'.cell? ⟨ga, k3, none⟩ = some (.slice LA3 L3.length lc3) ∧ w'.cell? ⟨g, k2, none⟩ = some (.string s))
                (first | go_keep)
                (first
                  | (go_at_call 33; refine (HLv.out _ HBd.out).mono ?_; rintro e w6 ⟨rfl, hb6⟩; obtain ⟨_, eg6, e0, _⟩ := (HX.out w6 (HBd.out.trans (hb6.mono HBd.out.size))); cases eg6; have ci6 := Hcid.out w6 (HBd.out.trans (hb6.mono HBd.out.size))))
              have HB6 := Lib.hid (HBd.out.trans (hb6.mono HBd.out.size))
              have HR6 := Lib.hid (show Rw w6 wq.heap.size g2 cap2 out from Rw.below (w := wr.drew) HRo.out hb6)
              clear hb6 HBo HBd HLv HX HRo
              cases lv with
              | false =>
                have HI := Lib.hid (HE.out.2 (by first | trivial | rfl))
                clear HE
                go_wp2_with fail
                go_roundw
                case rel => exact ⟨k3 + 1, by omega, by go_num, by rw [HI.out, ← HQ.out.2], by rw [HI.out, ← HQ.out.1], HR6, HB6⟩
                case measure => simp [intOf]; omega
              | true =>
                have HE1 := Lib.hid (HE.out.1 (by first | trivial | rfl))
                have hcn6 := HCn.out w6 HB6.out
                have s1 : (⟨#[32]⟩ : ByteArray).size = 1 := rfl
                have s2 : (dl ++ (⟨#[32]⟩ : ByteArray)).size ≤ 7000001 := by rw [ByteArray.size_append]; omega
                clear HE
                go_wp2_with fail
                go_roundw
                case rel => exact ⟨k3 + 1, by omega, by go_num, by rw [HE1.out.1]; go_num, by rw [HE1.out.2], HR6, HB6⟩
                case measure => simp [intOf]; omega
            · have hke : inK N (plain R) s k3 = inN N (plain R) s := inK_all _ _ _ _ (by rw [List.length_zip, HPl.out]; omega)
              have h3' : ¬ (k3 : Int) < (R.length : Int) := by omega
              rw [hke] at hil hds
              rw [hke]
              have HDs' := Lib.hid (show docT N (plain R) (M.take (k2 + 1)) = out ++ (if 1 < (inN N (plain R) s).length then [docLine s (inN N (plain R) s)] else []) from by rw [HDs.out, ← Hout.out])
              clear hke HDs Hout
              generalize inN N (plain R) s = I0 at *
              obtain ⟨dl, hdl⟩ : ∃ dl, dl = docLine s I0 := ⟨_, rfl⟩
              obtain ⟨il, hil'⟩ : ∃ il, il = I0.length := ⟨_, rfl⟩
              rw [← hdl, ← hil'] at HDs'
              rw [← hdl, ← hil']
              rw [← hdl] at hds
              rw [← hil'] at hil
              clear hdl hil' hds
              have hol2 : (out.length : Int) ≤ 20000 := by omega
              by_cases h1 : 1 < il
              · have h1' : (1 : Int) < (il : Int) := by omega
                have HD1 := Lib.hid (show docT N (plain R) (M.take (k2 + 1)) = out ++ [dl] from by rw [HDs'.out, if_pos h1])
                have hrA : (wr.alloc (.cells #[.string dl] 9)).ownsRow wq.heap.size 9 1 (.slice (some ⟨g2, 0, none⟩) out.length cap2) out.length (out.map Value.string) := HRo.out.alloc _
                have hbsA : wq.heap.size ≤ (wr.alloc (.cells #[.string dl] 9)).heap.size := by have := HBo.out.size; simp; omega
                clear HDs'
                go_wp2_with (first
                  | (at_builtin; refine wpList_append_lies _ rfl (.tmp 99) (.tmp 101) 22 rfl wq.heap.size 9 i0 _ 1 16 Tryz.underlying22 hi0 hy0 hy1 hy2 rfl (by decide) (.slice (some ⟨g2, 0, none⟩) out.length cap2) out.length (out.map Value.string) rfl hrA ⟨wr.heap.size, 0, none⟩ 1 1 [.string dl] rfl rfl (World.news_of_block (cs := #[.string dl]) (t := 9) (fr := (0, 0)) (heap_alloc_new wr _)) (by simp [Value.oneCell']) (by decide) (by unfold maxLen; omega) (by omega) hbsA (wr.heap.size + 1) (by simp) ?_; intro yg yc yw yown ygr yloc ylt)
                  | fail)
                have HRs := Lib.hid (show Rw yw wq.heap.size yg yc (out ++ [dl]) from by unfold Rw; simpa using yown)
                have HBs := Lib.hid ((HBo.out.alloc HBo.out.size (.cells #[.string dl] 9)).grown ygr hbsA (fun j hj => by injection hj with hj; rw [← hj]; exact (HRo.out.lt g2 rfl).1))
                clear yown ygr yloc hrA hbsA HRo HBo
                go_wp2_with fail
                go_roundw
                case rel => exact ⟨k2 + 1, yg, yc, out ++ [dl], by omega, by go_num, by simp, by simp; omega, Lib.hid HD1.out.symm, HRs, HBs⟩
                case measure => simp [intOf]; omega
              · have h1' : ¬ (1 : Int) < (il : Int) := by omega
                have HD1 := Lib.hid (show docT N (plain R) (M.take (k2 + 1)) = out from by rw [HDs'.out, if_neg h1]; simp)
                clear HDs'
                go_wp2_with fail
                go_roundw
                case rel => exact ⟨k2 + 1, g2, cap2, out, by omega, by go_num, by simp, by omega, Lib.hid HD1.out.symm, HRo, HBo⟩
                case measure => simp [intOf]; omega
        · have h2' : ¬ (k2 : Int) < (M.length : Int) := by omega
          have hke : M.take k2 = M := List.take_of_length_le (by omega)
          have HF2 := Lib.hid (HF.out (some ⟨g2, 0, none⟩) cap2 wr out (by rw [Hout.out, hke, HM'.out]; rfl) (Rs.of_row HRo.out) (HB.out.trans (HBo.out.mono HB.out.size)))
          clear HF HRo HBo Hout hke
          go_wp2_with fail
          first
            | exact HF2.out
            | (go_ret; exact HF2.out)
end Go.Proofs.YtdinloecgaapaaaGreatDoor
