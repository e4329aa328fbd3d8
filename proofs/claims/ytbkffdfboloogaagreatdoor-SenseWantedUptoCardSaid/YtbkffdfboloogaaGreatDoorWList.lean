/- pack.List: it ends, and its text is no matter. -/
import Derived.Test.YtbkffdfboloogaaGreatDoorMG
import Derived.Test.YtbkffdfboloogaaGreatDoorNE
namespace Go.Proofs.YtbkffdfboloogaaGreatDoor
open Go.RowKit Go.Maps Go.Lib
set_option linter.unusedVariables false
set_option maxRecDepth 100000

/-- what List leaves -/
def ListP (w : World) (e : Ending) (w' : World) : Prop := (∃ s, e = .returned (.string s)) ∧ Below w.heap.size w w'
set_option maxHeartbeats 8000000 in
theorem list_any (L : List Bx) (A : Option Addr) (c Bn : Nat) (w : World) (hL : Bxs w Bn A L) (hBn : Bn ≤ w.heap.size) (hok : BxsOk L) (hE : Ev w) :
    Calls Tryz.prog 58 #[.slice A L.length c] w fun e w' => ListP w e w' := by
  have h8 := hE.lt
  have hG := hE.gl
  have hfew := hok.few
  have hll := hok.lots.1
  have HOk := Lib.hid hok
  have HL := Lib.hid (hL.more hBn)
  have hb1 : Below w.heap.size w (w.alloc (.cells #[.pointer none, .slice none 0 0] 121)) := (Below.refl _ _).alloc (Nat.le_refl _) _
  have hz1 : (w.alloc (.cells #[.pointer none, .slice none 0 0] 121)).heap.size = w.heap.size + 1 := by simp
  have HB0 := Lib.hid (Bw.new w)
  have HBw : Hid (∀ W, Fr w.heap.size w.heap.size (w.alloc (.cells #[.pointer none, .slice none 0 0] 121)) W → Below w.heap.size w W) := Lib.hid (fun W h => hb1.trans h.below)
  have HWr : Hid (∀ (l : Bs) (s : ByteArray) (W : World), Bw W w.heap.size w.heap.size l → l.length + s.size ≤ 20000000000000 → Fr w.heap.size w.heap.size (w.alloc (.cells #[.pointer none, .slice none 0 0] 121)) W → Calls Tryz.prog 82 #[.pointer (some ⟨w.heap.size, 0, none⟩), .string s] W fun e w' => (∃ v, e = .returned v) ∧ Bw w' w.heap.size w.heap.size (l ++ s.data.toList) ∧ Fr w.heap.size w.heap.size (w.alloc (.cells #[.pointer none, .slice none 0 0] 121)) w') := Lib.hid (fun l s W hb hl hF => by
    refine (write_big w.heap.size w.heap.size l s W hb (by omega) (by have := hF.size; omega)).mono ?_
    rintro e w' ⟨rfl, h1, h2⟩
    exact ⟨⟨_, rfl⟩, h1, hF.trans h2⟩)
  have HTl : Hid (∀ (l : Bs) (M : List Lt) (A' : Option Addr) (c' : Nat) (W : World), Bw W w.heap.size w.heap.size l → l.length ≤ 10000000000000 → M.length ≤ 1048576 → (∀ x ∈ M, LtOk x) → (∀ W', Fr w.heap.size w.heap.size W W' → Lts W' W'.heap.size A' M) → Fr w.heap.size w.heap.size (w.alloc (.cells #[.pointer none, .slice none 0 0] 121)) W →
      Calls Tryz.prog 81 #[.slice A' M.length c', .pointer (some ⟨w.heap.size, 0, none⟩)] W fun e w' => e = .returned (.tuple #[]) ∧ Bw w' w.heap.size w.heap.size (tellE l M) ∧ Fr w.heap.size w.heap.size (w.alloc (.cells #[.pointer none, .slice none 0 0] 121)) w') := Lib.hid (fun l M A' c' W hb hl hM hok' hK hF => by
    refine (tellW_any M A' c' w.heap.size w.heap.size l W hb (by have := hF.size; omega) h8 (hG.below (HBw.out W hF)) hK hM hok' hl).mono ?_
    rintro e w' ⟨rfl, h1, h2⟩
    exact ⟨rfl, h1, hF.trans h2⟩)
  have HCt : Hid (∀ W, Fr w.heap.size w.heap.size (w.alloc (.cells #[.pointer none, .slice none 0 0] 121)) W → Calls Tryz.prog 85 #[.slice A L.length c] W fun e w' => ∃ A' c' M, e = .returned (.slice A' M.length c') ∧ M.length ≤ 1048576 ∧ (∀ x ∈ M, LtOk x) ∧ (∀ W', Fr w.heap.size w.heap.size w' W' → Lts W' W'.heap.size A' M) ∧ Below W.heap.size W w') := Lib.hid (fun W hF => by
    have hs := hF.size
    rw [hz1] at hs
    refine (content_any L A c w.heap.size W (HL.out.kept (HBw.out W hF)) (by omega) HOk.out).mono ?_
    rintro e w' ⟨A', n, c', M, rfl, rfl, h2, h3, h4, h5⟩
    exact ⟨A', c', M, rfl, by omega, fun x hx => ⟨(h4 x hx).1, (h4 x hx).2⟩, fun W' hF' => (h2.kept (fun g cs fz hg hcs => hF'.blk hcs (by decide) (by omega))).lts, h5⟩)
  have HTx : Hid (∀ (l : Bs) (W : World), Bw W w.heap.size w.heap.size l → Fr w.heap.size w.heap.size (w.alloc (.cells #[.pointer none, .slice none 0 0] 121)) W → Calls Tryz.prog 86 #[.pointer (some ⟨w.heap.size, 0, none⟩)] W fun e w' => (∃ v, e = .returned v) ∧ ListP w e w') := Lib.hid (fun l W hb hF => by
    refine (text_bld w.heap.size w.heap.size l W hb (by have := hF.size; omega)).mono ?_
    rintro e w' ⟨rfl, h1, h2⟩
    exact ⟨⟨_, rfl⟩, ⟨_, rfl⟩, HBw.out w' (hF.trans h2)⟩)
  have HSz : Hid (∀ n W, Calls Tryz.prog 84 #[.int .i64 n] W fun e w' => (∃ s : ByteArray, e = .returned (.string s) ∧ s.size ≤ 5) ∧ w' = W) := Lib.hid (fun n W => boxSize_any n W)
  have hlenE : ∀ (l : Bs) (M : List Lt), (∀ x ∈ M, LtOk x) → (tellE l M).length ≤ l.length + M.length * 1048600 + 1 := fun l M h => by
    have := lots_len M h
    unfold tellE
    simp only [List.length_append, List.length_cons, List.length_nil]
    omega
  have HLe := Lib.hid hlenE
  have Htl := Lib.hid (lotsOf_take_le L)
  have HF0 : Hid (Fr w.heap.size w.heap.size (w.alloc (.cells #[.pointer none, .slice none 0 0] 121)) (w.alloc (.cells #[.pointer none, .slice none 0 0] 121))) := Lib.hid (Fr.refl _ _ _)
  clear hL hok hE hG hlenE hb1 hz1
  generalize ListP w = CP at *
  go_enter Tryz.func58, Tryz.ntmps58
  go_wp2_with fail
  go_loopw [10] (fun i wr => ∃ (k : Nat) (l : Bs), k ≤ L.length ∧ i = .int .i64 (k : Int) ∧ Hid (l.length ≤ k * 1048600 + (lotsOf (L.take k)).length * 1048600) ∧ Hid (Bw wr w.heap.size w.heap.size l) ∧ Hid (Fr w.heap.size w.heap.size (w.alloc (.cells #[.pointer none, .slice none 0 0] 121)) wr)) (fun i _ => L.length - (RowKit.intOf i).toNat)
  case atStart => exact ⟨0, [], Nat.zero_le _, rfl, Lib.hid (by simp), HB0, HF0⟩
  case round =>
    clear HB0 HF0
    obtain ⟨k, l, hk, rfl, HLn, HB, HF⟩ := hrel
    have hsz := HF.out.size
    have hbel := HBw.out wr HF.out
    have hln := HLn.out
    have htl := Htl.out k
    by_cases hlt : k < L.length
    · have b1 : (k : Int) < (L.length : Int) := by omega
      have b0 : (0 : Int) ≤ (k : Int) := by omega
      obtain ⟨g, off, A2, c2, rfl, hgb, h3⟩ := (HL.out.kept hbel).at_ hlt
      have Hlots := Lib.hid h3.lots
      obtain ⟨c0, c1, c2', _, _⟩ := h3
      have Hmem := Lib.hid (show L[k] ∈ L from List.getElem_mem hlt)
      have hbo := HOk.out.of_mem Hmem.out
      have hbm := HOk.out.mark _ Hmem.out
      have hst := lotsOf_take L k hlt
      have hba : Below wr.heap.size wr (wr.alloc (.cells #[.string L[k].m, .int .i64 L[k].k, .slice A2 L[k].l.length c2] 42)) := (Below.refl _ _).alloc (Nat.le_refl _) _
      have HBa := Lib.hid (HB.out.below hba)
      have HFa := Lib.hid (HF.out.trans (Fr.of_below hba (by have := hbel.size; omega)))
      obtain ⟨x, hxe⟩ : ∃ x, L[k] = x := ⟨_, rfl⟩
      rw [hxe] at c0 c1 c2' hbo hbm hst HBa HFa
      have Hlx : Hid (Lts wr w.heap.size A2 x.l) := Lib.hid (by rw [← hxe]; exact Hlots.out)
      clear hxe Hlots Hmem hba
      have hsz2 : w.heap.size + 1 ≤ wr.heap.size := by simpa using hsz
      obtain ⟨W1, hW1⟩ : ∃ W1, W1 = wr.alloc (.cells #[.string x.m, .int .i64 x.k, .slice A2 x.l.length c2] 42) := ⟨_, rfl⟩
      have kb : W1.heap[wr.heap.size]? = some (.cells #[.string x.m, .int .i64 x.k, .slice A2 x.l.length c2] 42) := by rw [hW1]; exact heap_alloc_new _ _
      have hbw1 : Below wr.heap.size wr W1 := by rw [hW1]; exact (Below.refl _ _).alloc (Nat.le_refl _) _
      have k0 : W1.cell? ⟨wr.heap.size, 0, none⟩ = some (.string x.m) := by rw [hW1]; simp
      have k1 : W1.cell? ⟨wr.heap.size, 1, none⟩ = some (.int .i64 x.k) := by rw [hW1]; simp
      have hlc : (lotsOf (L.take (k + 1))).length = (lotsOf (L.take k)).length + x.l.length := by rw [hst, List.length_append]
      have hxl := hbo.1
      have hbig : l.length ≤ 3000000000000 := by omega
      have HRest : Hid (∀ (sn : ByteArray) (W : World), sn.size ≤ 5 → Bw W w.heap.size w.heap.size (l ++ (x.m ++ ⟨#[32]⟩ ++ sn).data.toList) → Fr w.heap.size w.heap.size (w.alloc (.cells #[.pointer none, .slice none 0 0] 121)) W → Fr w.heap.size w.heap.size W1 W →
          W.cell? ⟨wr.heap.size, 2, none⟩ = some (.slice A2 x.l.length c2) ∧ Calls Tryz.prog 81 #[.slice A2 x.l.length c2, .pointer (some ⟨w.heap.size, 0, none⟩)] W fun e w' => e = .returned (.tuple #[]) ∧ (∃ l', Hid (l'.length ≤ (k + 1) * 1048600 + (lotsOf (L.take (k + 1))).length * 1048600) ∧ Hid (Bw w' w.heap.size w.heap.size l')) ∧ Hid (Fr w.heap.size w.heap.size (w.alloc (.cells #[.pointer none, .slice none 0 0] 121)) w')) := Lib.hid (fun sn W hsn hb hF hF1 => by
        have kc := hF1.blk kb (by decide) (by omega)
        have hls : (l ++ (x.m ++ ⟨#[32]⟩ ++ sn).data.toList).length = l.length + (x.m.size + 1 + sn.size) := by
          rw [List.length_append, tl_app, tl_app, List.length_append, List.length_append]
          rfl
        refine ⟨by simp [World.cell?, kc], (HTl.out _ x.l A2 c2 W hb (by omega) hxl hbo.2 (fun W' hF' => (Hlx.out.kept (((hbw1.mono (by omega)).trans hF1.below).trans hF'.below)).more (by have := hF1.size; have := hF'.size; have := hbw1.size; omega)) hF).mono ?_⟩
        rintro e w' ⟨rfl, h1, h2⟩
        refine ⟨rfl, ⟨_, Lib.hid ?_, Lib.hid h1⟩, Lib.hid h2⟩
        have h3 := HLe.out (l ++ (x.m ++ ⟨#[32]⟩ ++ sn).data.toList) x.l hbo.2
        omega)
      have HWx : Hid (∀ (sn : ByteArray) (W : World), sn.size ≤ 5 → Bw W w.heap.size w.heap.size l → Fr w.heap.size w.heap.size (w.alloc (.cells #[.pointer none, .slice none 0 0] 121)) W → Fr w.heap.size w.heap.size W1 W → Calls Tryz.prog 82 #[.pointer (some ⟨w.heap.size, 0, none⟩), .string (x.m ++ ⟨#[32]⟩ ++ sn)] W fun e w' => (∃ v, e = .returned v) ∧ Hid (Bw w' w.heap.size w.heap.size (l ++ (x.m ++ ⟨#[32]⟩ ++ sn).data.toList)) ∧ Hid (Fr w.heap.size w.heap.size (w.alloc (.cells #[.pointer none, .slice none 0 0] 121)) w') ∧ Hid (Fr w.heap.size w.heap.size W1 w')) := Lib.hid (fun sn W hsn hb hF hF1 => by
        have hs2 : (x.m ++ ⟨#[32]⟩ ++ sn).size = x.m.size + 1 + sn.size := by rw [ByteArray.size_append, ByteArray.size_append]; rfl
        refine (write_big w.heap.size w.heap.size l _ W hb (by omega) (HBw.out W hF).size).mono ?_
        rintro e w' ⟨rfl, h1, h2⟩
        exact ⟨⟨_, rfl⟩, Lib.hid h1, Lib.hid (hF.trans h2), Lib.hid (hF1.trans h2)⟩)
      have Hbw2 : Hid (w.heap.size + 1 ≤ wr.heap.size) := Lib.hid hsz2
      clear hbel hln htl hst hlc hbig kb hbw1 Hlx hxl hbo HTl HCt HTx HWr HLe Htl HLn HB HF
      generalize x.m = xm at *
      generalize x.k = xk at *
      generalize x.l.length = xn at *
      have u0 : (⟨#[32]⟩ : ByteArray).size = 1 := rfl
      have u1 : ¬ (9223372036854775807 < xm.size + 1) := by omega
      have u2 : xm.size + 1 ≤ 9223372036854775807 := by omega
      have u3 : (xm ++ ⟨#[32]⟩ : ByteArray).size = xm.size + 1 := by rw [ByteArray.size_append]; rfl
      go_wp2_with fail
      rw [← hW1]
      rw [← hW1] at HBa HFa
      clear hW1
      have HF1 := Lib.hid (Fr.refl w.heap.size w.heap.size W1)
      go_region_with (first
        | (go_at_call 84; refine (HSz.out _ _).mono ?_; rintro e w2 ⟨⟨sn, rfl, hsn⟩, rfl⟩; have v1 : ¬ (9223372036854775807 < xm.size + 1 + sn.size) := (by omega); have v2 : xm.size + 1 + sn.size ≤ 9223372036854775807 := (by omega))
        | (go_at_call 82; refine (HWx.out _ _ (by assumption) (by first | exact HBa.out | exact HBa.out.drew) (by first | exact HFa.out | exact HFa.out.drew) (by first | exact HF1.out | exact HF1.out.drew)).mono ?_; rintro e w3 ⟨⟨v, rfl⟩, HB3, HF3, HF4⟩; obtain ⟨k2, hcl⟩ := HRest.out _ _ (by assumption) HB3.out HF3.out HF4.out; have HCl := Lib.hid hcl; clear hcl)
        | fail)
      all_goals
        go_wp2_with fail
        refine HCl.out.mono ?_
        rintro e w4 ⟨rfl, ⟨l2, HL2, HB4⟩, HF5⟩
        go_wp2_with fail
        go_roundw
        case rel => exact ⟨k + 1, l2, by omega, by go_num, HL2, HB4, HF5⟩
        case measure => simp [RowKit.intOf]; omega
    · have b1 : ¬ (k : Int) < (L.length : Int) := by omega
      have hbig : l.length ≤ 3000000000000 := by omega
      have Hls : Hid ((l ++ (⟨#[97, 108, 108]⟩ : ByteArray).data.toList).length ≤ 4000000000000) := Lib.hid (by
        rw [List.length_append]
        have : (⟨#[97, 108, 108]⟩ : ByteArray).data.toList.length = 3 := rfl
        omega)
      have HW1 := Lib.hid (HWr.out l ⟨#[97, 108, 108]⟩ wr HB.out (by have : (⟨#[97, 108, 108]⟩ : ByteArray).size = 3 := rfl; omega) HF.out)
      have Hb8 : Hid (∀ W, Fr w.heap.size w.heap.size (w.alloc (.cells #[.pointer none, .slice none 0 0] 121)) W → w.heap.size ≤ W.heap.size) := Lib.hid (fun W h => (HBw.out W h).size)
      generalize hle : l ++ (⟨#[97, 108, 108]⟩ : ByteArray).data.toList = l1 at *
      clear hle hln HLn htl HLe Htl hbig HWr
      go_wp2_with (first
        | (go_at_call 82; refine HW1.out.mono ?_; rintro e w2 ⟨⟨v, rfl⟩, hb2, hf2⟩; have HB2 := Lib.hid hb2; have HF2 := Lib.hid hf2; clear hb2 hf2)
        | (go_at_call 85; refine (HCt.out _ HF2.out).mono ?_; rintro e w3 ⟨A3, c3, M, rfl, hm3, ho3, hk3, hb3⟩; have HK3 := Lib.hid hk3; have HO3 := Lib.hid ho3; have HB3 := Lib.hid (HB2.out.below hb3); have HF3 := Lib.hid (HF2.out.trans (Fr.of_below hb3 (Hb8.out _ HF2.out))); clear hk3 ho3 hb3)
        | fail)
      refine (HTl.out l1 M A3 c3 _ HB3.out (by have := Hls.out; omega) hm3 HO3.out HK3.out HF3.out).mono ?_
      rintro e w4 ⟨rfl, hb4, hf4⟩
      have HT4 := Lib.hid (HTx.out _ _ hb4 hf4)
      go_wp2_with (first
        | (go_at_call 86; refine HT4.out.mono ?_; rintro e w5 ⟨⟨v5, rfl⟩, hp5⟩; have HP5 := Lib.hid hp5; clear hp5)
        | fail)
      exact HP5.out
end Go.Proofs.YtbkffdfboloogaaGreatDoor
