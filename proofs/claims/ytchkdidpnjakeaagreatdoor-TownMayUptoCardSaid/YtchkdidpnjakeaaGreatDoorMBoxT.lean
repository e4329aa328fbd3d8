/- town.boxesMay: may a deal's boxes be, behind those whose marks were seen? -/
import Derived.Test.YtchkdidpnjakeaaGreatDoorGMRef3
import Derived.Test.YtchkdidpnjakeaaGreatDoorGMSum
import Derived.Test.YtchkdidpnjakeaaGreatDoorBBegin
namespace Go.Proofs.YtchkdidpnjakeaaGreatDoor
open Go.RowKit Go.Maps Go.Lib
set_option linter.unusedVariables false
set_option maxRecDepth 100000

/-- all blocks but sb stand -/
structure Sbf (sb : Nat) (w w' : World) : Prop where
  size : w.heap.size ≤ w'.heap.size
  same : ∀ q, q ≠ sb → q < w.heap.size → w'.heap[q]? = w.heap[q]?
theorem Sbf.refl (sb : Nat) (w : World) : Sbf sb w w := ⟨Nat.le_refl _, fun _ _ _ => rfl⟩
theorem Sbf.trans {sb : Nat} {a b c : World} (h : Sbf sb a b) (k : Sbf sb b c) : Sbf sb a c := ⟨Nat.le_trans h.size k.size, fun q h1 h2 => (k.same q h1 (Nat.lt_of_lt_of_le h2 h.size)).trans (h.same q h1 h2)⟩
theorem Sbf.of_below {sb : Nat} {w w' : World} (h : Below w.heap.size w w') : Sbf sb w w' := ⟨h.size, fun q _ hq => h.block q hq⟩
/-- the marks that were seen -/
def SeI (W1 w : World) (sb : Nat) (M : List ByteArray) (n : Nat) : Prop := Below W1.heap.size W1 w ∧ W1.heap.size ≤ sb ∧ ∃ F : ByteArray → Option Bool, Mp curC yesE w sb n F ∧ ∀ s, (F s).getD false = true ↔ s ∈ M
theorem zeroBlM (w : World) : (zeroValue 4).run Tryz.prog w = .ok (.bool false) w := by kernel_rfl
theorem SeI.low {W1 w : World} {sb : Nat} {M : List ByteArray} {n : Nat} (h : SeI W1 w sb M n) : sb < w.heap.size := by
  obtain ⟨_, _, F, hM, _⟩ := h
  exact hM.lt
theorem SeI.below {W1 w w' : World} {sb : Nat} {M : List ByteArray} {n : Nat} (h : SeI W1 w sb M n) (hb : Below w.heap.size w w') : SeI W1 w' sb M n := by
  obtain ⟨h1, h2, F, hM, hF⟩ := h
  exact ⟨h1.trans (hb.mono h1.size), h2, F, hM.below hb hM.lt, hF⟩
theorem SeI.look {W1 w : World} {sb : Nat} {M : List ByteArray} {n : Nat} (h : SeI W1 w sb M n) {s : ByteArray} (hs : s.size ≤ maxLen) : (s ∈ M → (Instr.lookup 67 (.map (some sb)) (.string s) false).run Tryz.prog w = .ok (.bool true) w) ∧ (s ∉ M → (Instr.lookup 67 (.map (some sb)) (.string s) false).run Tryz.prog w = .ok (.bool false) w) := by
  obtain ⟨h1, h2, F, hM, hF⟩ := h
  have h3 := hM.look Tryz.underlying67 (z := false) (zeroBlM _) trivial (x := s) (show curC.ok s from hs)
  constructor
  · intro hm
    rw [(hF s).2 hm] at h3
    exact h3
  · intro hm
    have e : (F s).getD false = false := by
      cases h4 : (F s).getD false with
      | false => rfl
      | true => exact absurd ((hF s).1 h4) hm
    rw [e] at h3
    exact h3
theorem SeI.step {W1 w : World} {sb : Nat} {M : List ByteArray} {n : Nat} (h : SeI W1 w sb M n) (hn : n ≤ 100000) {s : ByteArray} (hs : s.size ≤ maxLen) : ∃ w', (Instr.mapUpdate 67 (.map (some sb)) (.string s) (.bool true)).run Tryz.prog w = .ok () w' ∧ SeI W1 w' sb (M ++ [s]) (n + 1) ∧ Sbf sb w w' := by
  have hl := h.low
  obtain ⟨h1, h2, F, hM, hF⟩ := h
  obtain ⟨w', e1, e2, e3⟩ := hM.store Tryz.underlying67 (by unfold maxLen; omega) (x := s) (show curC.ok s from hs) (v := true) trivial
  refine ⟨w', e1, ⟨turned_below h1 e3 h2 h1.size, h2, _, e2, fun x => ?_⟩, e3.grown.size, fun q hq hqs => e3.grown.block q hqs (fun e => by injection e with e; omega)⟩
  unfold putG
  rw [List.mem_append, List.mem_singleton, ← hF x]
  by_cases e : x = s
  · subst e; simp
  · rw [if_neg e]
    exact ⟨.inl, fun h => h.elim id fun h => absurd h e⟩
/-- may boxes be, behind these marks? -/
structure BxsMay (M : List ByteArray) (l : List Bx) : Prop where
  few : 1 ≤ l.length ∧ l.length ≤ 8
  one : ∀ b ∈ l, BoxOk b
  marks : (M ++ l.map (·.m)).Nodup
def BmP (W1 w : World) (sb : Nat) (M : List ByteArray) (l : List Bx) (n : Nat) (e : Ending) (w' : World) : Prop := ∃ r : Bool, e = .returned (.bool r) ∧ (r = true ↔ BxsMay M l) ∧ Below W1.heap.size W1 w' ∧ Sbf sb w w' ∧ (r = true → SeI W1 w' sb (M ++ l.map (·.m)) (n + l.length))
structure BmTo (M : List ByteArray) (l : List Bx) (k : Nat) : Prop where
  one : ∀ b ∈ l.take k, BoxOk b
  marks : (M ++ (l.take k).map (·.m)).Nodup
theorem BmTo.step {M : List ByteArray} {l : List Bx} {k : Nat} {b : Bx} (h : BmTo M l k) (hb : l[k]? = some b) (h1 : BoxOk b) (h2 : b.m ∉ M ++ (l.take k).map (·.m)) : BmTo M l (k + 1) := by
  have e := take_snoc' hb
  refine ⟨fun x hx => ?_, ?_⟩
  · rw [e] at hx
    rcases List.mem_append.1 hx with hx | hx
    · exact h.one x hx
    · rw [List.mem_singleton] at hx; rw [hx]; exact h1
  · rw [e, List.map_append, ← List.append_assoc]
    refine List.nodup_append.2 ⟨h.marks, by simp, fun x hx y hy => ?_⟩
    simp only [List.map_cons, List.map_nil, List.mem_singleton] at hy
    rw [hy]
    rintro rfl
    exact h2 hx
theorem BxsMay.mark_ne {M : List ByteArray} {l : List Bx} {k : Nat} {b : Bx} (h : BxsMay M l) (hb : l[k]? = some b) : b.m ∉ M ++ (l.take k).map (·.m) := by
  have h1 := h.marks
  have e2 : l.map (·.m) = (l.take k).map (·.m) ++ (b.m :: (l.drop (k + 1)).map (·.m)) := by
    conv => lhs; rw [bx_split hb]
    rw [List.map_append, List.map_cons]
  rw [e2, ← List.append_assoc, List.nodup_append] at h1
  intro hm
  exact h1.2.2 b.m hm b.m (by simp) rfl
set_option maxHeartbeats 16000000 in
theorem boxes_t {W1 w : World} {sb n c B : Nat} {M : List ByteArray} {l : List Bx} {A : Option Addr} (hI : SeI W1 w sb M n) (hn : n ≤ 1000) (hM : M.Nodup) (hbx : Bxs W1 B A l) (hB : B ≤ W1.heap.size) (hl : l.length ≤ 100000000) (hz : ∀ b ∈ l, BxSz b) :
    Calls Tryz.prog 25 #[.slice A l.length c, .map (some sb)] w fun e w' => BmP W1 w sb M l n e w' := by
  have HBx : Hid (∀ X, Below W1.heap.size W1 X → Bxs X B A l) := Lib.hid fun X hX => hbx.kept (hX.mono hB)
  have HN : Hid (¬ BxsMay M l → ∀ X, Below W1.heap.size W1 X → Sbf sb w X → BmP W1 w sb M l n (.returned (.bool false)) X) := Lib.hid fun h X hX hs => ⟨false, rfl, by simp [h], hX, hs, fun h => (by cases h)⟩
  have HY : Hid (BxsMay M l → ∀ X, SeI W1 X sb (M ++ l.map (·.m)) (n + l.length) → Sbf sb w X → BmP W1 w sb M l n (.returned (.bool true)) X) := Lib.hid fun h X hX hs => ⟨true, rfl, by simp [h], hX.1, hs, fun _ => hX⟩
  generalize BmP W1 w sb M l n = CP at *
  have HZ := Lib.hid hz
  have HI1 := Lib.hid (among_m (l.length : Int) 1 8)
  have HI0 : Hid (BmTo M l 0 ∧ SeI W1 w sb (M ++ (l.take 0).map (·.m)) (n + 0) ∧ Sbf sb w w) := Lib.hid ⟨⟨fun b h => by simp at h, by simpa using hM⟩, by simpa using hI, Sbf.refl _ _⟩
  have hsb := hI.2.1
  clear hI hM hbx hz
  by_cases hf : (1 : Int) ≤ (l.length : Int) ∧ (l.length : Int) ≤ 8
  · rw [decide_eq_true hf] at HI1
    go_enter Tryz.func25, Tryz.ntmps25
    go_wp2_with (first
      | (go_at_call 51; (with_reducible refine (HI1.out _).mono ?_); rintro e w' ⟨rfl, h⟩; subst h)
      | fail)
    rename World => w0
    go_loopw [15, 6, 8] (fun i _ _ wr => ∃ k : Nat, k ≤ l.length ∧ i = .int .i64 (k : Int) ∧ Hid (BmTo M l k ∧ SeI W1 wr sb (M ++ (l.take k).map (·.m)) (n + k) ∧ Sbf sb w0 wr)) (fun i _ _ _ => l.length - (RowKit.intOf i).toNat)
    case atStart => exact ⟨0, Nat.zero_le _, rfl, HI0⟩
    case round =>
      clear HI0 HI1
      obtain ⟨k, hk, rfl, HI⟩ := hrel
      by_cases hlt : k < l.length
      · have b1 : (k : Int) < (l.length : Int) := by omega
        obtain ⟨b, hb⟩ : ∃ b, l[k]? = some b := ⟨l[k], List.getElem?_eq_getElem hlt⟩
        have hW1r := HI.out.2.1.1
        obtain ⟨g, off, hA, hg, hx⟩ := HBx.out wr hW1r (by omega)
        obtain ⟨A3, c3, m0, m1, m2, m3, m4⟩ := hx k b hb
        have hgw : g < wr.heap.size := by have := hW1r.size; omega
        rw [hA]
        have hzb := HZ.out b (List.mem_of_getElem? hb)
        obtain ⟨wy, hwy⟩ : ∃ wy, wy = wr.alloc (.cells #[.string b.m, .int .i64 b.k, .slice A3 b.l.length c3] 89) := ⟨_, rfl⟩
        have hby : Below wr.heap.size wr wy := by rw [hwy]; exact (Below.refl _ _).alloc (Nat.le_refl _) _
        have hyb : wy.heap[wr.heap.size]? = some (.cells #[.string b.m, .int .i64 b.k, .slice A3 b.l.length c3] 89 (0, 0)) := by rw [hwy]; exact heap_alloc_new _ _
        have hzs : wr.heap.size < wy.heap.size := (Array.getElem?_eq_some_iff.1 hyb).1
        have hsl := HI.out.2.1.low
        have HPc : Hid (∀ X, Sbf sb wy X → X.cell? ⟨wr.heap.size, 0, none⟩ = some (.string b.m) ∧ X.cell? ⟨wr.heap.size, 1, none⟩ = some (.int .i64 b.k) ∧ X.cell? ⟨wr.heap.size, 2, none⟩ = some (.slice A3 b.l.length c3) ∧ wr.heap.size < X.heap.size) := Lib.hid fun X hX => by
          have h := (hX.same _ (by omega) hzs).trans hyb
          exact ⟨by simp [World.cell?, h], by simp [World.cell?, h], by simp [World.cell?, h], Nat.lt_of_lt_of_le hzs hX.size⟩
        have HLt : Hid (∀ X, Below W1.heap.size W1 X → Lts X B A3 b.l) := Lib.hid fun X hX h0 => by
          obtain ⟨g3, off3, e, hg3, hl3⟩ := m3 h0
          exact ⟨g3, off3, e, hg3, fun i x hx => ⟨((hX.cell (p := ⟨g3, off3 + i * 2, none⟩) (by show g3 < _; omega)).trans (hW1r.cell (p := ⟨g3, off3 + i * 2, none⟩) (by show g3 < _; omega)).symm).trans (hl3 i x hx).1, ((hX.cell (p := ⟨g3, off3 + i * 2 + 1, none⟩) (by show g3 < _; omega)).trans (hW1r.cell (p := ⟨g3, off3 + i * 2 + 1, none⟩) (by show g3 < _; omega)).symm).trans (hl3 i x hx).2⟩⟩
        have HIy : Hid (SeI W1 wy sb (M ++ (l.take k).map (·.m)) (n + k)) := Lib.hid (HI.out.2.1.below hby)
        have HSy : Hid (Sbf sb w0 wy) := Lib.hid (HI.out.2.2.trans (Sbf.of_below hby))
        have HTo : Hid (BmTo M l k) := Lib.hid HI.out.1
        have HBb := Lib.hid hb
        have HWy := Lib.hid hwy
        have HLk := Lib.hid (HIy.out.look hzb.m)
        have hbl := hzb.few
        have HGz := Lib.hid hzb.g
        have HMr := Lib.hid (right_m b.m wy hzb.m)
        have hzm := hzb.m
        have HA1 := Lib.hid (among_m b.k 0 1)
        have HA2 := Lib.hid (among_m (b.l.length : Int) 1 2)
        clear hx hA hb m3 m4 hW1r HI hwy hby hyb hzs hzb HBx
        go_upto_region 6 with fail
        rw [← HWy.out]
        obtain ⟨p0, p1, p2, pl⟩ := HPc.out wy (Sbf.refl _ _)
        clear HWy m0 m1 m2
        by_cases hm : b.m ∈ M ++ (l.take k).map (·.m)
        · have r1 := HLk.out.1 hm
          have HX := Lib.hid (HN.out (fun h => h.mark_ne HBb.out hm) wy HIy.out.1 HSy.out)
          clear HN HY HLk hm
          go_wp2_with fail
          first
            | exact HX.out
            | (go_ret; exact HX.out)
        · have r1 := HLk.out.2 hm
          have HNm := Lib.hid hm
          clear HLk hm
          go_wp2_with fail
          refine HMr.out.mono ?_
          rintro e w5 ⟨r, rfl, hr, hb5⟩
          have HRm := Lib.hid hr
          have HB5 := Lib.hid hb5
          have HI5 : Hid (SeI W1 w5 sb (M ++ (l.take k).map (·.m)) (n + k)) := Lib.hid (HIy.out.below hb5)
          have HS5 : Hid (Sbf sb w0 w5) := Lib.hid (HSy.out.trans (Sbf.of_below hb5))
          have HT5 : Hid (Sbf sb wy w5) := Lib.hid (Sbf.of_below hb5)
          clear hr hb5 HMr p0 p1 p2 pl r1 HIy HSy
          obtain ⟨p0, p1, p2, pl⟩ := HPc.out w5 HT5.out
          cases r with
          | false =>
            have HX := Lib.hid (HN.out (fun h => by have := HRm.out.2 (h.one b (List.mem_of_getElem? HBb.out)).mark; cases this) w5 HI5.out.1 HS5.out)
            clear HN HY HRm
            go_wp2_with fail
            first
              | exact HX.out
              | (go_ret; exact HX.out)
          | true =>
            by_cases h1 : 0 ≤ b.k ∧ b.k ≤ 1
            · rw [decide_eq_true h1] at HA1
              by_cases h2 : (1 : Int) ≤ (b.l.length : Int) ∧ (b.l.length : Int) ≤ 2
              · rw [decide_eq_true h2] at HA2
                have HOk : Hid (LtTo b.l b.l.length → BoxOk b) := Lib.hid fun h => BoxOk.of (HRm.out.1 rfl) h1 h2 h
                obtain ⟨w6, r6, hI6, hS6⟩ := HI5.out.step (by omega) hzm
                have HI6 := Lib.hid hI6
                have HS6 := Lib.hid (HS5.out.trans hS6)
                have HT6 := Lib.hid (HT5.out.trans hS6)
                obtain ⟨q0, q1, q2, ql⟩ := HPc.out w6 HT6.out
                have HBi := Lib.hid (Below.refl w6.heap.size w6)
                clear h1 h2 HRm hI6 hS6 HI5 HS5
                go_wp2_with (first
                  | (go_at_call 51; (with_reducible refine (HA1.out _).mono ?_); rintro e w' ⟨rfl, h⟩; subst h)
                  | (go_at_call 51; (with_reducible refine (HA2.out _).mono ?_); rintro e w' ⟨rfl, h⟩; subst h)
                  | fail)
                have HB6w := Lib.hid HI6.out.1
                go_loopw [48, 8] (fun i _ wr => ∃ n : Nat, n ≤ b.l.length ∧ i = .int .i64 (n : Int) ∧ Hid (LtTo b.l n) ∧ Hid (Below w6.heap.size w6 wr)) (fun i _ _ => b.l.length - (RowKit.intOf i).toNat)
                case atStart => exact ⟨0, Nat.zero_le _, rfl, Lib.hid (fun i x hi => by omega), HBi⟩
                case round =>
                  clear HBi q0 q1 q2 ql p0 p1 p2 pl r6
                  obtain ⟨m, hm, rfl, HL, HB7⟩ := hrel
                  have HW7 := Lib.hid (HB6w.out.trans (HB7.out.mono HB6w.out.size))
                  have HS7 := Lib.hid (HS6.out.trans (Sbf.of_below HB7.out))
                  by_cases hml : m < b.l.length
                  · have b2 : (m : Int) < (b.l.length : Int) := by omega
                    obtain ⟨x, hx⟩ : ∃ x, b.l[m]? = some x := ⟨b.l[m], List.getElem?_eq_getElem hml⟩
                    obtain ⟨g3, off3, hA3, hg3, n0, n1⟩ := Lts.at_ (HLt.out wr HW7.out) hx
                    have hg3w : g3 < wr.heap.size := by have := HW7.out.size; omega
                    rw [hA3]
                    have HNx := Lib.hid (fun X => markName_any x.g X (HGz.out x (List.mem_of_getElem? hx)))
                    have HAx := Lib.hid (among_m x.c 1 1048576)
                    have HNo : Hid (¬ LotOk x → ∀ o, CP (.returned (.bool false)) (wr.alloc o)) := Lib.hid fun h o => HN.out (fun h2 => h ((h2.one b (List.mem_of_getElem? HBb.out)).lots x (List.mem_of_getElem? hx))) _ (HW7.out.alloc HW7.out.size o) (HS7.out.trans (Sbf.of_below ((Below.refl _ _).alloc (Nat.le_refl _) o)))
                    have HSt : Hid (LotOk x → LtTo b.l (m + 1)) := Lib.hid fun h => HL.out.step hx h
                    have HB8 : Hid (∀ o, Below w6.heap.size w6 (wr.alloc o)) := Lib.hid fun o => HB7.out.alloc HB7.out.size o
                    clear hA3 hx HL HN HY HOk
                    by_cases h1 : nameB x.g.data.toList = true
                    · rw [h1] at HNx
                      by_cases h2 : 1 ≤ x.c ∧ x.c ≤ 1048576
                      · rw [decide_eq_true h2] at HAx
                        have HX := Lib.hid (HSt.out ⟨h1, h2⟩)
                        clear HNo HSt h1 h2
                        go_wp2_with (first
                          | (go_at_call 52; (with_reducible refine (HNx.out _).mono ?_); rintro e w' ⟨rfl, h⟩; subst h)
                          | (go_at_call 51; (with_reducible refine (HAx.out _).mono ?_); rintro e w' ⟨rfl, h⟩; subst h)
                          | fail)
                        go_roundw
                        case rel => exact ⟨m + 1, by omega, by go_num, HX, Lib.hid (HB8.out _)⟩
                        case measure => simp [RowKit.intOf] <;> omega
                      · rw [decide_eq_false h2] at HAx
                        have HX := Lib.hid (HNo.out (fun h => h2 h.2))
                        clear HNo HSt h1 h2
                        go_wp2_with (first
                          | (go_at_call 52; (with_reducible refine (HNx.out _).mono ?_); rintro e w' ⟨rfl, h⟩; subst h)
                          | (go_at_call 51; (with_reducible refine (HAx.out _).mono ?_); rintro e w' ⟨rfl, h⟩; subst h)
                          | fail)
                        first
                          | exact HX.out _
                          | (go_ret; exact HX.out _)
                    · have HX := Lib.hid (HNo.out (fun h => h1 h.1))
                      rw [Bool.not_eq_true] at h1
                      rw [h1] at HNx
                      clear HNo HSt h1
                      go_wp2_with (first
                        | (go_at_call 52; (with_reducible refine (HNx.out _).mono ?_); rintro e w' ⟨rfl, h⟩; subst h)
                        | fail)
                      first
                        | exact HX.out _
                        | (go_ret; exact HX.out _)
                  · have b2 : ¬ (m : Int) < (b.l.length : Int) := by omega
                    obtain rfl : m = b.l.length := by omega
                    have HX : Hid (BmTo M l (k + 1) ∧ SeI W1 wr sb (M ++ (l.take (k + 1)).map (·.m)) (n + (k + 1)) ∧ Sbf sb w0 wr) := Lib.hid ⟨HTo.out.step HBb.out (HOk.out HL.out) HNm.out, by
                      have h := HI6.out.below HB7.out
                      rw [take_snoc' HBb.out, List.map_append, ← List.append_assoc]
                      exact h, HS7.out⟩
                    clear HN HY HOk HL HLt hm hml
                    go_wp2_with fail
                    go_roundw
                    case rel => exact ⟨k + 1, by omega, by go_num, HX⟩
                    case measure => simp [RowKit.intOf] <;> omega
              · rw [decide_eq_false h2] at HA2
                have HX := Lib.hid (HN.out (fun h => h2 (by have := (h.one b (List.mem_of_getElem? HBb.out)).few; omega)) w5 HI5.out.1 HS5.out)
                clear HN HY HRm h1 h2
                go_wp2_with (first
                  | (go_at_call 51; (with_reducible refine (HA1.out _).mono ?_); rintro e w' ⟨rfl, h⟩; subst h)
                  | (go_at_call 51; (with_reducible refine (HA2.out _).mono ?_); rintro e w' ⟨rfl, h⟩; subst h)
                  | fail)
                first
                  | exact HX.out
                  | (go_ret; exact HX.out)
            · rw [decide_eq_false h1] at HA1
              have HX := Lib.hid (HN.out (fun h => h1 (h.one b (List.mem_of_getElem? HBb.out)).kind) w5 HI5.out.1 HS5.out)
              clear HN HY HRm h1
              go_wp2_with (first
                | (go_at_call 51; (with_reducible refine (HA1.out _).mono ?_); rintro e w' ⟨rfl, h⟩; subst h)
                | fail)
              first
                | exact HX.out
                | (go_ret; exact HX.out)
      · have b1 : ¬ (k : Int) < (l.length : Int) := by omega
        obtain rfl : k = l.length := by omega
        have HX := Lib.hid (HY.out ⟨by omega, by have := HI.out.1.one; rw [List.take_length] at this; exact this, by have := HI.out.1.marks; rw [List.take_length] at this; exact this⟩ wr (by have := HI.out.2.1; rw [List.take_length] at this; exact this) HI.out.2.2)
        clear HN HY HI hk hlt
        go_wp2_with fail
        first
          | exact HX.out
          | (go_ret; exact HX.out)
  · rw [decide_eq_false hf] at HI1
    have HX := Lib.hid (HN.out (fun h => hf (by have := h.few; omega)) w HI0.out.2.1.1 (Sbf.refl _ _))
    clear HN HY
    go_enter Tryz.func25, Tryz.ntmps25
    go_wp2_with (first
      | (go_at_call 51; (with_reducible refine (HI1.out _).mono ?_); rintro e w' ⟨rfl, h⟩; subst h)
      | fail)
    first
      | exact HX.out
      | (go_ret; exact HX.out)
end Go.Proofs.YtchkdidpnjakeaaGreatDoor
